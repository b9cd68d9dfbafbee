import Derived.Test.YtkjecokkdbapkaaZzLoop
namespace Go.Eng
set_option linter.all false
open Go Go.RowKit

/-- How elements lie in memory. -/
structure Enc {α : Type} (enc : α → List Value) (sz : Nat) : Prop where
  len : ∀ x, (enc x).length = sz
  one : ∀ x, (enc x).all Value.oneCell' = true

section
variable {α : Type} {enc : α → List Value} {sz : Nat}

theorem flat_len (E : Enc enc sz) (xs : List α) : (xs.flatMap enc).length = xs.length * sz := by
  induction xs with
  | nil => simp
  | cons x xs ih => simp [ih, E.len, Nat.add_mul]; omega
theorem flat_one (E : Enc enc sz) (xs : List α) : (xs.flatMap enc).all Value.oneCell' = true := by
  induction xs with
  | nil => rfl
  | cons x xs ih => rw [List.flatMap_cons, List.all_append, E.one, ih]; rfl
theorem flat_at (E : Enc enc sz) : ∀ (xs : List α) (i : Nat) (x : α), xs[i]? = some x → ((xs.flatMap enc).drop (i * sz)).take sz = enc x
  | [], i, x, h => by simp at h
  | y :: xs, 0, x, h => by
    simp at h; subst h
    simp [List.flatMap_cons, ← E.len y]
  | y :: xs, i + 1, x, h => by
    have e : (i + 1) * sz = (enc y).length + i * sz := by rw [E.len, Nat.add_mul]; omega
    rw [List.flatMap_cons, e, List.drop_append, List.drop_eq_nil_of_le (by omega)]
    simpa using flat_at E xs i x (by simpa using h)
theorem putAt_get {cs vs : List Value} {off : Nat} (h : off + vs.length ≤ cs.length) (k : Nat) : (putAt cs off vs)[k]? = if k < off then cs[k]? else if k < off + vs.length then vs[k - off]? else cs[k]? := by
  rw [putAt_eq]
  have l1 : (cs.take off).length = off := by simp; omega
  split
  · rw [List.append_assoc, List.getElem?_append_left (by omega), List.getElem?_take_of_lt (by omega)]
  · rw [List.append_assoc, List.getElem?_append_right (by omega), l1]
    split
    · rw [List.getElem?_append_left (by omega)]
    · rw [List.getElem?_append_right (by omega), List.getElem?_drop]
      congr 1; omega
theorem put_window {cs vs : List Value} {off n p : Nat} (h : p + vs.length ≤ n) (h2 : off + n ≤ cs.length) : ((putAt cs (off + p) vs).drop off).take n = putAt ((cs.drop off).take n) p vs := by
  apply List.ext_getElem?
  intro k
  rw [putAt_get (by simp; omega), List.getElem?_take, List.getElem?_drop, putAt_get (by omega), List.getElem?_take, List.getElem?_drop]
  by_cases h1 : k < p
  · have h3 : off + k < off + p := by omega
    have h4 : k < n := by omega
    simp [h1, h3, h4]
  · have h3 : ¬ off + k < off + p := by omega
    by_cases h4 : k < p + vs.length
    · have h5 : off + k < off + p + vs.length := by omega
      have h6 : k < n := by omega
      have h7 : off + k - (off + p) = k - p := by omega
      simp [h1, h3, h4, h5, h6, h7]
    · have h5 : ¬ off + k < off + p + vs.length := by omega
      simp [h1, h3, h4, h5]
theorem flat_cell (E : Enc enc sz) {xs : List α} {i j : Nat} {x : α} (h : xs[i]? = some x) (hj : j < sz) : (xs.flatMap enc)[i * sz + j]? = (enc x)[j]? := by
  have := flat_at E xs i x h
  rw [← this, List.getElem?_take_of_lt hj, List.getElem?_drop]
theorem flat_set (E : Enc enc sz) : ∀ (xs : List α) (i : Nat) (y : α), i < xs.length → putAt (xs.flatMap enc) (i * sz) (enc y) = (xs.set i y).flatMap enc
  | [], i, y, h => by simp at h
  | x :: xs, 0, y, h => by
    rw [putAt_eq, Nat.zero_mul, List.take_zero, List.nil_append, Nat.zero_add, E.len, List.flatMap_cons, List.drop_left' (E.len x)]
    rfl
  | x :: xs, i + 1, y, h => by
    have e : (i + 1) * sz = (enc x).length + i * sz := by rw [E.len, Nat.add_mul]; omega
    have ih := flat_set E xs i y (by simpa using h)
    rw [putAt_eq] at ih ⊢
    simp only [List.flatMap_cons, List.set_cons_succ]
    rw [← ih, e, Nat.add_assoc, List.take_append, List.drop_append, List.drop_eq_nil_of_le (by omega), List.take_of_length_le (by omega)]
    simp

/-- A slice's block, opened. -/
structure SlO (enc : α → List Value) (sz : Nat) (w : World) (g off c : Nat) (cs : List Value) (xs : List α) : Prop where
  blk : Blk w g cs
  le : xs.length ≤ c
  room : off + c * sz ≤ cs.length
  flat : (cs.drop off).take (xs.length * sz) = xs.flatMap enc
/-- A slice of our own. -/
def Slw (enc : α → List Value) (sz : Nat) (w : World) (a : Option Addr) (c : Nat) (xs : List α) : Prop :=
  (a = none ∧ c = 0 ∧ xs = []) ∨ ∃ g off cs, a = some ⟨g, off, none⟩ ∧ SlO enc sz w g off c cs xs

theorem Slw.toR {w : World} {a : Option Addr} {c : Nat} {xs : List α} (h : Slw enc sz w a c xs) : SlR w sz a xs.length c (xs.flatMap enc) := by
  rcases h with ⟨rfl, rfl, rfl⟩ | ⟨g, off, cs, rfl, h⟩
  · exact SlR.nil _ _
  · exact .inr ⟨g, off, cs, rfl, h.blk, h.le, h.room, h.flat⟩
theorem SlR.toW {w : World} {a : Option Addr} {n c : Nat} {xs : List α} {fs : List Value} (h : SlR w sz a n c fs) (hn : n = xs.length) (hf : fs = xs.flatMap enc) : Slw enc sz w a c xs := by
  subst hn hf
  rcases h with ⟨rfl, h1, rfl, h2⟩ | ⟨g, off, cs, rfl, h⟩
  · exact .inl ⟨rfl, rfl, List.eq_nil_of_length_eq_zero h1⟩
  · exact .inr ⟨g, off, cs, rfl, h.1, h.2.1, h.2.2.1, h.2.2.2⟩
theorem Slw.nil (enc : α → List Value) (sz : Nat) (w : World) : Slw enc sz w none 0 [] := .inl ⟨rfl, rfl, rfl⟩
theorem Slw.lt {w : World} {a : Option Addr} {c : Nat} {xs : List α} (h : Slw enc sz w a c xs) : ∀ k, owns a k → k < w.heap.size := h.toR.lt
theorem Slw.upd {S : Nat → Prop} {w w' : World} {a : Option Addr} {c : Nat} {xs : List α} (h : Slw enc sz w a c xs) (hu : Upd S w w') (hS : ∀ k, owns a k → ¬ S k) : Slw enc sz w' a c xs := (h.toR.upd hu hS).toW rfl rfl
theorem Slw.ext {w w' : World} {a : Option Addr} {c : Nat} {xs : List α} (h : Slw enc sz w a c xs) (hu : Ext w w') : Slw enc sz w' a c xs := (h.toR.ext hu).toW rfl rfl
theorem Slw.updB {w w' : World} {b : Nat} {a : Option Addr} {c : Nat} {xs : List α} (h : Slw enc sz w a c xs) (hu : Upd (fun k => k = b) w w') (hS : ∀ k, owns a k → k ≠ b) : Slw enc sz w' a c xs := h.upd hu hS
theorem Slw.op {w : World} {a : Option Addr} {c : Nat} {xs : List α} (h : Slw enc sz w a c xs) (hn : 0 < xs.length) : ∃ g off cs, a = some ⟨g, off, none⟩ ∧ SlO enc sz w g off c cs xs := by
  rcases h with ⟨_, _, rfl⟩ | h
  · simp at hn
  · exact h
/-- A slice's block, opened to be read. -/
structure SlQ (enc : α → List Value) (sz : Nat) (w : World) (g off c : Nat) (cs : List Value) (xs : List α) : Prop where
  blk : BlkR w g cs
  le : xs.length ≤ c
  room : off + c * sz ≤ cs.length
  flat : (cs.drop off).take (xs.length * sz) = xs.flatMap enc
theorem SlO.q {w : World} {g off c : Nat} {cs : List Value} {xs : List α} (h : SlO enc sz w g off c cs xs) : SlQ enc sz w g off c cs xs := ⟨h.blk.r, h.le, h.room, h.flat⟩
/-- A slice that is read: what leads to no cell at all may lead anywhere. -/
def ownsC (a : Option Addr) (c : Nat) (k : Nat) : Prop := owns a k ∧ 0 < c
def Sli (enc : α → List Value) (sz : Nat) (w : World) (a : Option Addr) (c : Nat) (xs : List α) : Prop :=
  (c = 0 ∧ xs = []) ∨ ∃ g off cs, a = some ⟨g, off, none⟩ ∧ SlQ enc sz w g off c cs xs
theorem Sli.toR {w : World} {a : Option Addr} {c : Nat} {xs : List α} (h : Sli enc sz w a c xs) : SlRo w sz a xs.length c (xs.flatMap enc) := by
  rcases h with ⟨rfl, rfl⟩ | ⟨g, off, cs, rfl, h⟩
  · exact .inl ⟨rfl, rfl, rfl⟩
  · exact .inr ⟨g, off, cs, rfl, h.blk, h.le, h.room, h.flat⟩
theorem Sli.nil (enc : α → List Value) (sz : Nat) (w : World) : Sli enc sz w none 0 [] := .inl ⟨rfl, rfl⟩
theorem Sli.lt {w : World} {a : Option Addr} {c : Nat} {xs : List α} (h : Sli enc sz w a c xs) : ∀ k, ownsC a c k → k < w.heap.size := by
  rcases h with ⟨rfl, _⟩ | ⟨g, off, cs, rfl, h⟩
  · intro k hk; exact absurd hk.2 (by omega)
  · intro k hk; have hk := hk.1; rw [owns_some] at hk; subst hk; exact h.blk.lt
theorem Sli.upd {S : Nat → Prop} {w w' : World} {a : Option Addr} {c : Nat} {xs : List α} (h : Sli enc sz w a c xs) (hu : Upd S w w') (hS : ∀ k, ownsC a c k → ¬ S k) : Sli enc sz w' a c xs := by
  rcases h with h | ⟨g, off, cs, rfl, h⟩
  · exact .inl h
  · by_cases hc : 0 < c
    · exact .inr ⟨g, off, cs, rfl, hu.blkR (hS g ⟨⟨_, rfl, rfl⟩, hc⟩) h.blk, h.le, h.room, h.flat⟩
    · have := h.le
      exact .inl ⟨by omega, List.eq_nil_of_length_eq_zero (by omega)⟩
theorem Sli.ext {w w' : World} {a : Option Addr} {c : Nat} {xs : List α} (h : Sli enc sz w a c xs) (hu : Ext w w') : Sli enc sz w' a c xs := h.upd (hu.upd fun _ => False) (fun _ _ h => h)
theorem Sli.updB {w w' : World} {b : Nat} {a : Option Addr} {c : Nat} {xs : List α} (h : Sli enc sz w a c xs) (hu : Upd (fun k => k = b) w w') (hS : ∀ k, ownsC a c k → k ≠ b) : Sli enc sz w' a c xs := h.upd hu hS
theorem Sli.op {w : World} {a : Option Addr} {c : Nat} {xs : List α} (h : Sli enc sz w a c xs) (hn : 0 < xs.length) : ∃ g off cs, a = some ⟨g, off, none⟩ ∧ SlQ enc sz w g off c cs xs := by
  rcases h with ⟨_, rfl⟩ | h
  · simp at hn
  · exact h
theorem Slw.ro {w : World} {a : Option Addr} {c : Nat} {xs : List α} (h : Slw enc sz w a c xs) : Sli enc sz w a c xs := by
  rcases h with ⟨_, h⟩ | ⟨g, off, cs, rfl, h⟩
  · exact .inl h
  · exact .inr ⟨g, off, cs, rfl, h.q⟩
theorem SlQ.cl {w : World} {g off c : Nat} {cs : List Value} {xs : List α} (h : SlQ enc sz w g off c cs xs) : Sli enc sz w (some ⟨g, off, none⟩) c xs := .inr ⟨g, off, cs, rfl, h⟩
theorem SlQ.ext {w w' : World} {g off c : Nat} {cs : List Value} {xs : List α} (h : SlQ enc sz w g off c cs xs) (hu : Ext w w') : SlQ enc sz w' g off c cs xs := ⟨hu.blkR h.blk, h.le, h.room, h.flat⟩
theorem SlQ.upd {S : Nat → Prop} {w w' : World} {g off c : Nat} {cs : List Value} {xs : List α} (h : SlQ enc sz w g off c cs xs) (hu : Upd S w w') (hS : ¬ S g) : SlQ enc sz w' g off c cs xs := ⟨hu.blkR hS h.blk, h.le, h.room, h.flat⟩
theorem SlQ.updB {w w' : World} {b g off c : Nat} {cs : List Value} {xs : List α} (h : SlQ enc sz w g off c cs xs) (hu : Upd (fun k => k = b) w w') (hS : g ≠ b) : SlQ enc sz w' g off c cs xs := h.upd hu hS
theorem SlO.cl {w : World} {g off c : Nat} {cs : List Value} {xs : List α} (h : SlO enc sz w g off c cs xs) : Slw enc sz w (some ⟨g, off, none⟩) c xs := .inr ⟨g, off, cs, rfl, h⟩
theorem SlO.ext {w w' : World} {g off c : Nat} {cs : List Value} {xs : List α} (h : SlO enc sz w g off c cs xs) (hu : Ext w w') : SlO enc sz w' g off c cs xs := ⟨hu.blk h.blk, h.le, h.room, h.flat⟩
theorem SlO.upd {S : Nat → Prop} {w w' : World} {g off c : Nat} {cs : List Value} {xs : List α} (h : SlO enc sz w g off c cs xs) (hu : Upd S w w') (hS : ¬ S g) : SlO enc sz w' g off c cs xs := ⟨hu.blk hS h.blk, h.le, h.room, h.flat⟩
theorem SlO.updB {w w' : World} {b g off c : Nat} {cs : List Value} {xs : List α} (h : SlO enc sz w g off c cs xs) (hu : Upd (fun k => k = b) w w') (hS : g ≠ b) : SlO enc sz w' g off c cs xs := h.upd hu hS
theorem SlQ.at {w : World} {g off c : Nat} {cs : List Value} {xs : List α} (E : Enc enc sz) (h : SlQ enc sz w g off c cs xs) {i : Nat} {x : α} (hi : xs[i]? = some x) : (cs.drop (off + i * sz)).take sz = enc x := by
  have hlt : i < xs.length := (List.getElem?_eq_some_iff.1 hi).1
  have h2 := flat_at E xs i x hi
  have h3 : (i + 1) * sz ≤ xs.length * sz := Nat.mul_le_mul_right _ hlt
  rw [Nat.add_mul] at h3
  rw [← h2, ← h.flat, List.drop_take, List.take_take, List.drop_drop]
  congr 1
  omega
theorem SlQ.cell {w : World} {g off c : Nat} {cs : List Value} {xs : List α} (E : Enc enc sz) (h : SlQ enc sz w g off c cs xs) {i j : Nat} {x : α} (hi : xs[i]? = some x) (hj : j < sz) : cs[off + i * sz + j]? = (enc x)[j]? := by
  rw [← h.at E hi, List.getElem?_take_of_lt hj, List.getElem?_drop]
theorem SlQ.fld {w : World} {g off c : Nat} {cs : List Value} {xs : List α} (E : Enc enc sz) (h : SlQ enc sz w g off c cs xs) {i : Nat} {x : α} (hi : xs[i]? = some x) (j m : Nat) (hj : j + m ≤ sz) : (cs.drop (off + i * sz + j)).take m = ((enc x).drop j).take m := by
  rw [← h.at E hi, List.drop_take, List.take_take, List.drop_drop]
  congr 1
  omega
theorem SlQ.bound {w : World} {g off c : Nat} {cs : List Value} {xs : List α} (h : SlQ enc sz w g off c cs xs) {i : Nat} (hi : i < xs.length) : off + i * sz + sz ≤ cs.length := by
  have := h.room
  have := h.le
  have h3 : (i + 1) * sz ≤ c * sz := Nat.mul_le_mul_right _ (by omega)
  rw [Nat.add_mul] at h3
  omega
theorem SlO.at {w : World} {g off c : Nat} {cs : List Value} {xs : List α} (E : Enc enc sz) (h : SlO enc sz w g off c cs xs) {i : Nat} {x : α} (hi : xs[i]? = some x) : (cs.drop (off + i * sz)).take sz = enc x := by
  have hlt : i < xs.length := (List.getElem?_eq_some_iff.1 hi).1
  have h2 := flat_at E xs i x hi
  have h3 : (i + 1) * sz ≤ xs.length * sz := Nat.mul_le_mul_right _ hlt
  rw [Nat.add_mul] at h3
  rw [← h2, ← h.flat, List.drop_take, List.take_take, List.drop_drop]
  congr 1
  omega
theorem SlO.cell {w : World} {g off c : Nat} {cs : List Value} {xs : List α} (E : Enc enc sz) (h : SlO enc sz w g off c cs xs) {i j : Nat} {x : α} (hi : xs[i]? = some x) (hj : j < sz) : cs[off + i * sz + j]? = (enc x)[j]? := by
  rw [← h.at E hi, List.getElem?_take_of_lt hj, List.getElem?_drop]
theorem SlO.fld {w : World} {g off c : Nat} {cs : List Value} {xs : List α} (E : Enc enc sz) (h : SlO enc sz w g off c cs xs) {i : Nat} {x : α} (hi : xs[i]? = some x) (j m : Nat) (hj : j + m ≤ sz) : (cs.drop (off + i * sz + j)).take m = ((enc x).drop j).take m := by
  rw [← h.at E hi, List.drop_take, List.take_take, List.drop_drop]
  congr 1
  omega
theorem SlO.bound {w : World} {g off c : Nat} {cs : List Value} {xs : List α} (h : SlO enc sz w g off c cs xs) {i : Nat} (hi : i < xs.length) : off + i * sz + sz ≤ cs.length := by
  have := h.room
  have := h.le
  have h3 : (i + 1) * sz ≤ c * sz := Nat.mul_le_mul_right _ (by omega)
  rw [Nat.add_mul] at h3
  omega
/-- An element is written anew. -/
theorem SlO.put {w w' : World} {g off c : Nat} {cs : List Value} {xs : List α} (E : Enc enc sz) (h : SlO enc sz w g off c cs xs) {i : Nat} (hi : i < xs.length) (y : α) (hb : Blk w' g (putAt cs (off + i * sz) (enc y))) :
    SlO enc sz w' g off c (putAt cs (off + i * sz) (enc y)) (xs.set i y) := by
  have hbd := h.bound hi
  have h3 : (i + 1) * sz ≤ xs.length * sz := Nat.mul_le_mul_right _ hi
  have hl := E.len y
  rw [Nat.add_mul] at h3
  have hroom := h.room
  have hle : xs.length * sz ≤ c * sz := Nat.mul_le_mul_right _ h.le
  refine ⟨hb, by simpa using h.le, by rw [putAt_length (by omega)]; exact h.room, ?_⟩
  rw [List.length_set, ← flat_set E xs i y hi, ← h.flat]
  exact put_window (by omega) (by omega)
theorem putAt_take_drop {cs vs : List Value} {off : Nat} (h : off + vs.length ≤ cs.length) (e : (cs.drop off).take vs.length = vs) : putAt cs off vs = cs := by
  rw [putAt_eq]
  have : cs = cs.take off ++ ((cs.drop off).take vs.length ++ (cs.drop off).drop vs.length) := by rw [List.take_append_drop, List.take_append_drop]
  rw [e, List.drop_drop] at this
  rw [List.append_assoc]; exact this.symm
theorem set_putAt {cs vs : List Value} {off j : Nat} {v : Value} (hj : j < vs.length) (h : off + vs.length ≤ cs.length) (e : (cs.drop off).take vs.length = vs) : cs.set (off + j) v = putAt cs off (vs.set j v) := by
  have e0 := putAt_take_drop h e
  rw [putAt_eq] at e0 ⊢
  rw [List.length_set]
  conv => lhs; rw [← e0]
  have l1 : (cs.take off).length = off := by simp; omega
  rw [List.append_assoc, List.set_append_right _ _ (by omega), l1, List.set_append_left _ _ (by omega), List.append_assoc]
  congr 3
  omega
/-- One cell of an element is written anew. -/
theorem SlO.set {w w' : World} {g off c : Nat} {cs : List Value} {xs : List α} (E : Enc enc sz) (h : SlO enc sz w g off c cs xs) {i j : Nat} {x y : α} {v : Value} (hi : xs[i]? = some x) (hj : j < sz) (hy : enc y = (enc x).set j v) (hb : Blk w' g (cs.set (off + i * sz + j) v)) :
    SlO enc sz w' g off c (cs.set (off + i * sz + j) v) (xs.set i y) := by
  have hlt : i < xs.length := (List.getElem?_eq_some_iff.1 hi).1
  have hbd := h.bound hlt
  have e : cs.set (off + i * sz + j) v = putAt cs (off + i * sz) (enc y) := by
    rw [hy]
    exact set_putAt (by rw [E.len]; exact hj) (by rw [E.len]; exact hbd) (by rw [E.len]; exact h.at E hi)
  rw [e] at hb ⊢
  exact h.put E hlt y hb
theorem Ext.putU {S : Nat → Prop} {w0 w w' : World} (h : Ext w0 w) (hu : Upd S w w') (hb : ∀ k, S k → w0.heap.size ≤ k) : Ext w0 w' :=
  ((h.upd (fun _ => False)).tr' hu (fun k hk e => by have := hb k e; omega)).ext (fun _ _ h => h)
theorem SlO.made (E : Enc enc sz) {w : World} {b n : Nat} {zs : List Value} (z : α) (hz : enc z = zs) (hb : Blk w b ((List.replicate n zs).flatten)) : SlO enc sz w b 0 n ((List.replicate n zs).flatten) (List.replicate n z) := by
  subst hz
  refine ⟨hb, by simp, by simp [E.len], ?_⟩
  have e : (List.replicate n z).flatMap enc = (List.replicate n (enc z)).flatten := by
    rw [List.flatMap_def, List.map_replicate]
  rw [e, List.drop_zero, List.length_replicate, List.take_of_length_le (by simp [E.len])]
theorem Slw.one (E : Enc enc sz) {w : World} {b : Nat} {cs : List Value} (x : α) (hb : Blk w b cs) (h : cs = enc x) : Slw enc sz w (some ⟨b, 0, none⟩) 1 [x] := by
  subst h
  exact .inr ⟨b, 0, _, rfl, hb, Nat.le_refl _, by simp [E.len], by simp [List.take_of_length_le (Nat.le_of_eq (E.len x))]⟩
theorem Sli.one (E : Enc enc sz) {w : World} {b : Nat} {cs : List Value} (x : α) (hb : Blk w b cs) (h : cs = enc x) : Sli enc sz w (some ⟨b, 0, none⟩) 1 [x] := (Slw.one E x hb h).ro
theorem Slw.zero {w : World} {b : Nat} {cs : List Value} (hb : Blk w b cs) : Slw enc sz w (some ⟨b, 0, none⟩) 0 [] :=
  .inr ⟨b, 0, _, rfl, hb, by simp, by simp, by simp⟩
end

section
variable {α : Type} {enc : α → List Value} {r : Option Nat} {P : Program} {ops : Array Oper} {K : Cont} {rest : List Oper} {ρ : Env} {w : World} {d : Nat} {ty : TypeId} {pos : String} {af : Array Edge} {g : Option (Nat × Bool)}
theorem WL.appendS {t e : TypeId} {sz by' : Nat} {zs : List Value} (he : Elem P t e sz by' zs) (E : Enc enc sz) {x y : Operand} {a a2 : Option Addr} {n m c c2 : Nat} {xs ys : List α} (hx : ev ρ x = .slice a n c) (hy : ev ρ y = .slice a2 m c2)
    (hs : Slw enc sz w a c xs) (hn : n = xs.length) (hs2 : Sli enc sz w a2 c2 ys) (hm : m = ys.length) (h63 : n + m ≤ 9223372036854775807) (hby : (n + m) * by' ≤ 140737488355328)
    (hg : wantE ops ρ ⟨some d, .call ⟨.builtin .append, #[x, y], #[t, t]⟩, ty, pos, af, g⟩ = true)
    (k : ∀ a' c' w', Upd (owns a) w w' → Slw enc sz w' a' c' (xs ++ ys) → (a' = a ∨ ∀ k, owns a' k → w.heap.size ≤ k) → WL r P ops K rest (ρ.set d (.slice a' (n + m) c')) w') :
    WL r P ops K (⟨some d, .call ⟨.builtin .append, #[x, y], #[t, t]⟩, ty, pos, af, g⟩ :: rest) ρ w := by
  subst hn hm
  exact WL.append he hx hy hs.toR hs2.toR (flat_one E ys) h63 hby hg fun a' c' w' hu h hf => k a' c' w' hu (h.toW (by simp) (by simp)) hf
end

section
variable {P : Program} {ρ : Env} {w : World} {d : Option Nat} {ty : TypeId} {pos : String} {af : Array Edge} {g : Option (Nat × Bool)}
theorem R.makeFuncP {fn : Fn} {cap : List Operand} {vs : List Value} (h : cap.map (ev ρ) = vs) : Run P ρ ⟨d, .makeFunc fn #[] cap.toArray, ty, pos, af, g⟩ w (.func fn #[] vs.toArray) := by
  subst h
  simp [Run, execOp, Instr.makeFunc]
theorem R.quoI {m n : Int} {x y : Operand} {t u : TypeId} (hx : ev ρ x = .int .i64 m) (hy : ev ρ y = .int .i64 n) (hm : 0 ≤ m ∧ m ≤ 9223372036854775807) (hn : 0 < n) :
    Run P ρ ⟨d, .binOp .quo t x y u, ty, pos, af, g⟩ w (.int .i64 (m.tdiv n)) := by
  have := R.quo (P := P) (w := w) (d := d) (ty := ty) (pos := pos) (af := af) (g := g) (t := t) (u := u) hx hy (by omega)
  have h1 : 0 ≤ m.tdiv n := Int.tdiv_nonneg hm.1 (by omega)
  have h2 : m.tdiv n ≤ m := by
    rw [Int.tdiv_eq_ediv_of_nonneg hm.1]
    exact Int.ediv_le_self _ hm.1
  rwa [wrap64_in (by omega)] at this
theorem R.max2 {k : IntKind} {m n : Int} {x y : Operand} {ats : Array TypeId} (hx : ev ρ x = .int k m) (hy : ev ρ y = .int k n) : Run P ρ ⟨d, .call ⟨.builtin .max, #[x, y], ats⟩, ty, pos, af, g⟩ w (.int k (max m n)) := by
  have e : (if n > m then n else m) = max m n := by rw [Int.max_def]; split <;> split <;> omega
  have h2 : (Builtin.max2 (.int k m) (.int k n)).run P w = .ok (.int k (max m n)) w := by simp only [Builtin.max2, e]; rfl
  simp [Run, execOp, resolve, invoke, builtin, hx, hy, Builtin.max_, h2]
theorem R.min2 {k : IntKind} {m n : Int} {x y : Operand} {ats : Array TypeId} (hx : ev ρ x = .int k m) (hy : ev ρ y = .int k n) : Run P ρ ⟨d, .call ⟨.builtin .min, #[x, y], ats⟩, ty, pos, af, g⟩ w (.int k (min m n)) := by
  have e : (if n < m then n else m) = min m n := by rw [Int.min_def]; split <;> split <;> omega
  have h2 : (Builtin.min2 (.int k m) (.int k n)).run P w = .ok (.int k (min m n)) w := by simp only [Builtin.min2, e]; rfl
  simp [Run, execOp, resolve, invoke, builtin, hx, hy, Builtin.min_, h2]
end

/-- The first place where p holds, or -1. -/
def idx {α : Type} (p : α → Bool) (l : List α) : Int := if l.findIdx p < l.length then (l.findIdx p : Int) else -1
theorem idx_hit {α : Type} {p : α → Bool} {l : List α} {i : Nat} {x : α} (h : (l.take i).all (fun x => !p x) = true) (hx : l[i]? = some x) (hp : p x = true) : idx p l = i := by
  have hlt : i < l.length := (List.getElem?_eq_some_iff.1 hx).1
  have e : l.findIdx p = i := by
    rw [List.findIdx_eq hlt]
    refine ⟨by rw [(List.getElem?_eq_some_iff.1 hx).2]; exact hp, fun j hj => ?_⟩
    have := List.all_eq_true.1 h l[j] (by rw [List.mem_take_iff_getElem]; exact ⟨j, by omega, rfl⟩)
    simpa using this
  simp [idx, e, hlt]
theorem idx_miss {α : Type} {p : α → Bool} {l : List α} {i : Nat} (h : (l.take i).all (fun x => !p x) = true) (hi : l.length ≤ i) : idx p l = -1 := by
  rw [List.take_of_length_le hi] at h
  have e : ¬ l.findIdx p < l.length := by
    intro hlt
    have h1 := List.findIdx_getElem (w := hlt)
    have := List.all_eq_true.1 h _ (List.getElem_mem hlt)
    simp [h1] at this
  simp [idx, e]

theorem encI : Enc (fun n : Int => [i64 n]) 1 := ⟨fun _ => rfl, fun _ => rfl⟩
theorem encD : Enc encDip 18 := ⟨fun _ => rfl, fun _ => rfl⟩
theorem encM : Enc encMem 19 := ⟨fun _ => rfl, fun _ => rfl⟩
theorem encBo : Enc (fun b : Bool => [bl b]) 1 := ⟨fun _ => rfl, fun _ => rfl⟩
end Go.Eng
