import Derived.Test.YtkjecokkdbapkaaZzOps
namespace Go.Eng
set_option linter.all false
open Go Go.RowKit

/-! ## Writing into a block -/
def over : List Value → List Value → List Value
  | _ :: cs, v :: vs => v :: over cs vs
  | cs, [] => cs
  | [], vs => vs
theorem over_eq : ∀ (vs cs : List Value), over cs vs = vs ++ cs.drop vs.length
  | [], cs => by cases cs <;> simp [over]
  | v :: vs, [] => by simp [over]
  | v :: vs, c :: cs => by simp [over, over_eq vs cs]
def putAt : List Value → Nat → List Value → List Value
  | cs, 0, vs => over cs vs
  | c :: cs, n + 1, vs => c :: putAt cs n vs
  | [], _ + 1, vs => vs
theorem putAt_eq : ∀ (off : Nat) (cs vs : List Value), putAt cs off vs = cs.take off ++ vs ++ cs.drop (off + vs.length)
  | 0, cs, vs => by cases cs <;> simp [putAt, over_eq]
  | n + 1, [], vs => by simp [putAt]
  | n + 1, c :: cs, vs => by
    have : n + 1 + vs.length = (n + vs.length) + 1 := by omega
    simp [putAt, putAt_eq n cs vs, this]
theorem putAt_length {cs vs : List Value} {off : Nat} (h : off + vs.length ≤ cs.length) : (putAt cs off vs).length = cs.length := by
  simp [putAt_eq]; omega
theorem putAt_one {cs : List Value} {off : Nat} {v : Value} (h : off < cs.length) : putAt cs off [v] = cs.set off v := by
  rw [List.set_eq_take_append_cons_drop, if_pos h]; simp [putAt_eq]

theorem putAt_take {cs vs : List Value} {off A : Nat} (h : off + A + vs.length ≤ cs.length) : ((putAt cs (off + A) vs).drop off).take (A + vs.length) = (cs.drop off).take A ++ vs := by
  have e : putAt cs (off + A) vs = cs.take off ++ (((cs.drop off).take A ++ vs) ++ cs.drop (off + A + vs.length)) := by
    simp only [putAt_eq, List.take_add, List.append_assoc]
  have l1 : (cs.take off).length = off := by simp; omega
  have l2 : ((cs.drop off).take A ++ vs).length = A + vs.length := by simp; omega
  rw [e, List.drop_left' l1, List.take_left' l2]

theorem Blk.setRow {w : World} {b : Nat} {cs cs' : List Value} (h : Blk w b cs) : Blk (w.setRow b cs'.toArray) b cs' := by
  obtain ⟨T, h⟩ := h
  exact ⟨T, setRow_heap w b cs.toArray cs'.toArray T _ h⟩
theorem upd_setRow (w : World) (b : Nat) (cs : Array Value) : Upd (fun k => k = b) w (w.setRow b cs) :=
  ⟨rfl, rfl, rfl, by simp, fun k _ hk => by simp only [World.setRow, Array.getElem?_modify]; rw [if_neg (fun e => hk e.symm)]⟩

theorem run_storeVar {P : Program} {w : World} {b off n : Nat} {cs vs : List Value} {t : TypeId} {v : Value} (ht : ∀ w, (sizeOf t).run P w = .ok n w) (hv : v.cells.toList = vs) (hn : vs.length = n)
    (hb : Blk w b cs) (hle : off + n ≤ cs.length) (h1 : vs.all Value.oneCell' = true) : (storeVar t ⟨b, off, none⟩ v).run P w = .ok () (w.setRow b (putAt cs off vs).toArray) := by
  obtain ⟨T, hb⟩ := hb
  have hs := run_storeCells_at P b off T vs 0 cs.toArray w hb (by simp; omega) (List.all_eq_true.1 h1)
  have hsz : v.cells.size = n := by rw [← hn, ← hv]; simp
  simp [storeVar, ht w, hsz, hv]
  simpa [putAt_eq] using hs

abbrev RunU (P : Program) (ρ : Env) (o : Oper) (w w' : World) : Prop := (execOp (ev ρ) o).run P w = .ok .skip w'

section
variable {r : Option Nat} {P : Program} {ops : Array Oper} {K : Cont} {rest : List Oper} {ρ : Env} {w : World} {d : Nat} {dd : Option Nat} {ty : TypeId} {pos : String} {af : Array Edge} {g : Option (Nat × Bool)}

/-- An operation that yields a value and turns the world. -/
theorem WL.yw {op : Op} {v : Value} {w' : World} (h : (execOp (ev ρ) ⟨some d, op, ty, pos, af, g⟩).run P w = .ok (.value v) w') (hg : wantE ops ρ ⟨some d, op, ty, pos, af, g⟩ = true) (k : WL r P ops K rest (ρ.set d v) w') :
    WL r P ops K (⟨some d, op, ty, pos, af, g⟩ :: rest) ρ w := by
  simp only [WL, hg, if_true]
  rw [h]; exact k
theorem WL.u {op : Op} {w' : World} (h : RunU P ρ ⟨none, op, ty, pos, af, g⟩ w w') (hg : wantE ops ρ ⟨none, op, ty, pos, af, g⟩ = true) (k : WL r P ops K rest ρ w') :
    WL r P ops K (⟨none, op, ty, pos, af, g⟩ :: rest) ρ w := by
  simp only [WL, hg, if_true]
  rw [h]; exact k
theorem WL.skipU {op : Op} (hg : wantE ops ρ ⟨none, op, ty, pos, af, g⟩ = false) (k : WL r P ops K rest ρ w) :
    WL r P ops K (⟨none, op, ty, pos, af, g⟩ :: rest) ρ w := by
  simp only [WL, hg]; exact k

theorem blk_alloc (w : World) (cs : List Value) (t : TypeId) : Blk (w.alloc (.cells cs.toArray t)) w.heap.size cs := ⟨t, heap_alloc_new w _⟩
theorem ext_alloc (w : World) (o : Obj) : Ext w (w.alloc o) := (Below.refl _ _).alloc (Nat.le_refl _) _

theorem WL.box {x : Operand} {t : TypeId} {v : Value} {vs : List Value} (hx : ev ρ x = v) (hvs : v.cells.toList = vs) (hg : wantE ops ρ ⟨some d, .box t x, ty, pos, af, g⟩ = true)
    (k : ∀ b w', b = w.heap.size → w'.heap.size = b + 1 → Ext w w' → Blk w' b vs → WL r P ops K rest (ρ.set d (.pointer (some ⟨b, 0, none⟩))) w') :
    WL r P ops K (⟨some d, .box t x, ty, pos, af, g⟩ :: rest) ρ w := by
  refine WL.yw (w' := w.alloc (.cells vs.toArray t)) ?_ hg (k _ _ rfl (by simp) (ext_alloc _ _) (blk_alloc _ _ _))
  subst hvs
  simp [execOp, hx, Instr.box, newVar, newRow]

/-- The zero value's cells. -/
def Zer (P : Program) (t : TypeId) (zs : List Value) : Prop := ∃ z : Value, (∀ w, (zeroValue t).run P w = .ok z w) ∧ z.cells = zs.toArray
theorem WL.alloc {t : TypeId} {zs : List Value} (hz : Zer P t zs) (hg : wantE ops ρ ⟨some d, .alloc t, ty, pos, af, g⟩ = true)
    (k : ∀ b w', b = w.heap.size → w'.heap.size = b + 1 → Ext w w' → Blk w' b zs → WL r P ops K rest (ρ.set d (.pointer (some ⟨b, 0, none⟩))) w') :
    WL r P ops K (⟨some d, .alloc t, ty, pos, af, g⟩ :: rest) ρ w := by
  obtain ⟨z, hz, hc⟩ := hz
  refine WL.yw (w' := w.alloc (.cells zs.toArray t)) ?_ hg (k _ _ rfl (by simp) (ext_alloc _ _) (blk_alloc _ _ _))
  simp [execOp, Instr.alloc, hz w, newVar, newRow, hc]

theorem WL.store {x y : Operand} {t : TypeId} {b off n : Nat} {cs vs : List Value} {v : Value} (ht : ∀ w, (sizeOf t).run P w = .ok n w) (hx : ev ρ x = .pointer (some ⟨b, off, none⟩)) (hy : ev ρ y = v) (hv : v.cells.toList = vs) (hn : vs.length = n)
    (hb : Blk w b cs) (hle : off + n ≤ cs.length) (h1 : vs.all Value.oneCell' = true) (hg : wantE ops ρ ⟨none, .store t x y, ty, pos, af, g⟩ = true)
    (k : ∀ w', Upd (fun k => k = b) w w' → w'.heap.size = w.heap.size → Blk w' b (putAt cs off vs) → WL r P ops K rest ρ w') :
    WL r P ops K (⟨none, .store t x y, ty, pos, af, g⟩ :: rest) ρ w := by
  refine WL.u (w' := w.setRow b (putAt cs off vs).toArray) ?_ hg (k _ (upd_setRow _ _ _) (by simp) hb.setRow)
  simp [RunU, execOp, hx, hy, Instr.storeAt, Instr.sureAddr, run_storeVar ht hv hn hb hle h1]

/-- A store of one cell. -/
theorem WL.store1 {x y : Operand} {t : TypeId} {b off : Nat} {cs : List Value} {v : Value} (ht : Sca P t) (hx : ev ρ x = .pointer (some ⟨b, off, none⟩)) (hy : ev ρ y = v) (h1 : v.oneCell' = true)
    (hb : Blk w b cs) (hlt : off < cs.length) (hg : wantE ops ρ ⟨none, .store t x y, ty, pos, af, g⟩ = true)
    (k : ∀ w', Upd (fun k => k = b) w w' → w'.heap.size = w.heap.size → Blk w' b (cs.set off v) → WL r P ops K rest ρ w') :
    WL r P ops K (⟨none, .store t x y, ty, pos, af, g⟩ :: rest) ρ w := by
  have hc : v.cells.toList = [v] := by cases v <;> first | rfl | cases h1
  refine WL.store ht.2 hx hy hc rfl hb (by omega) (by simp [h1]) hg ?_
  intro w' h1 h2 h3
  rw [putAt_one hlt] at h3
  exact k w' h1 h2 h3
end

theorem Ext.put {w0 w w' : World} {b : Nat} (h : Ext w0 w) (hu : Upd (fun k => k = b) w w') (hb : w0.heap.size ≤ b) : Ext w0 w' :=
  ((h.upd (fun _ => False)).tr' hu (fun k hk e => by subst e; omega)).ext (fun _ _ h => h)

/-! ## Slices -/
/-- What a slice's value leads to: cells xs, sz an element. -/
def SlR (w : World) (sz : Nat) (a : Option Addr) (n c : Nat) (xs : List Value) : Prop :=
  (a = none ∧ n = 0 ∧ c = 0 ∧ xs = []) ∨ ∃ g off cs, a = some ⟨g, off, none⟩ ∧ Blk w g cs ∧ n ≤ c ∧ off + c * sz ≤ cs.length ∧ (cs.drop off).take (n * sz) = xs

def owns (a : Option Addr) (k : Nat) : Prop := ∃ ad, a = some ad ∧ k = ad.block
theorem owns_none (k : Nat) : ¬ owns none k := by rintro ⟨_, h, _⟩; cases h
theorem owns_some (ad : Addr) (k : Nat) : owns (some ad) k ↔ k = ad.block := ⟨by rintro ⟨_, h, e⟩; cases h; exact e, fun e => ⟨_, rfl, e⟩⟩

theorem SlR.nil (w : World) (sz : Nat) : SlR w sz none 0 0 [] := .inl ⟨rfl, rfl, rfl, rfl⟩
theorem SlR.len {w : World} {sz : Nat} {a : Option Addr} {n c : Nat} {xs : List Value} (h : SlR w sz a n c xs) : xs.length = n * sz := by
  rcases h with ⟨_, rfl, _, rfl⟩ | ⟨g, off, cs, _, _, hnc, hle, rfl⟩
  · simp
  · have : n * sz ≤ c * sz := Nat.mul_le_mul_right _ hnc
    simp; omega
theorem SlR.lt {w : World} {sz : Nat} {a : Option Addr} {n c : Nat} {xs : List Value} (h : SlR w sz a n c xs) : ∀ k, owns a k → k < w.heap.size := by
  rcases h with ⟨rfl, _, _, _⟩ | ⟨g, off, cs, rfl, hb, _, _, _⟩
  · intro k hk; exact absurd hk (owns_none k)
  · intro k hk; rw [owns_some] at hk; subst hk; exact hb.lt
theorem SlR.upd {w w' : World} {S : Nat → Prop} {sz : Nat} {a : Option Addr} {n c : Nat} {xs : List Value} (h : SlR w sz a n c xs) (hu : Upd S w w') (hS : ∀ k, owns a k → ¬ S k) : SlR w' sz a n c xs := by
  rcases h with h | ⟨g, off, cs, rfl, hb, r⟩
  · exact .inl h
  · exact .inr ⟨g, off, cs, rfl, hu.blk (hS g ⟨_, rfl, rfl⟩) hb, r⟩
theorem SlR.ext {w w' : World} {sz : Nat} {a : Option Addr} {n c : Nat} {xs : List Value} (h : SlR w sz a n c xs) (hu : Ext w w') : SlR w' sz a n c xs :=
  h.upd (hu.upd fun _ => False) (fun _ _ h => h)
/-- The block behind a slice that is not empty. -/
theorem SlR.blk {w : World} {sz : Nat} {a : Option Addr} {n c : Nat} {xs : List Value} (h : SlR w sz a n c xs) (hn : 0 < n) : ∃ g off cs, a = some ⟨g, off, none⟩ ∧ Blk w g cs ∧ n ≤ c ∧ off + c * sz ≤ cs.length ∧ (cs.drop off).take (n * sz) = xs ∧ ∀ j, j < n * sz → cs[off + j]? = xs[j]? := by
  rcases h with ⟨_, rfl, _, _⟩ | ⟨g, off, cs, ha, hb, hnc, hle, hx⟩
  · omega
  · refine ⟨g, off, cs, ha, hb, hnc, hle, hx, fun j hj => ?_⟩
    rw [← hx, List.getElem?_take_of_lt hj, List.getElem?_drop]
theorem SlR.cells {w : World} {sz : Nat} {ad : Addr} {n c : Nat} {xs : List Value} (h : SlR w sz (some ad) n c xs) : ∀ j v, xs[j]? = some v → w.cell? (ad.add j) = some v := by
  rcases h with ⟨h, _⟩ | ⟨g, off, cs, ha, hb, hnc, hle, hx⟩
  · cases h
  · cases ha
    intro j v hv
    rw [add_at, hb.cell]
    rw [← hx] at hv
    obtain ⟨hlt, _⟩ := List.getElem?_eq_some_iff.1 hv
    have hj : j < n * sz := by simp at hlt; omega
    rw [List.getElem?_take_of_lt hj, List.getElem?_drop] at hv
    exact hv

/-- .. and only read. -/
def SlRo (w : World) (sz : Nat) (a : Option Addr) (n c : Nat) (xs : List Value) : Prop :=
  (n = 0 ∧ c = 0 ∧ xs = []) ∨ ∃ g off cs, a = some ⟨g, off, none⟩ ∧ BlkR w g cs ∧ n ≤ c ∧ off + c * sz ≤ cs.length ∧ (cs.drop off).take (n * sz) = xs
theorem SlRo.len {w : World} {sz : Nat} {a : Option Addr} {n c : Nat} {xs : List Value} (h : SlRo w sz a n c xs) : xs.length = n * sz := by
  rcases h with ⟨rfl, _, rfl⟩ | ⟨g, off, cs, _, _, hnc, hle, rfl⟩
  · simp
  · have : n * sz ≤ c * sz := Nat.mul_le_mul_right _ hnc
    simp; omega
theorem SlRo.ext {w w' : World} {sz : Nat} {a : Option Addr} {n c : Nat} {xs : List Value} (h : SlRo w sz a n c xs) (hu : Ext w w') : SlRo w' sz a n c xs := by
  rcases h with h | ⟨g, off, cs, rfl, hb, r⟩
  · exact .inl h
  · exact .inr ⟨g, off, cs, rfl, hu.blkR hb, r⟩
theorem SlRo.cells {w : World} {sz : Nat} {ad : Addr} {n c : Nat} {xs : List Value} (h : SlRo w sz (some ad) n c xs) : ∀ j v, xs[j]? = some v → w.cell? (ad.add j) = some v := by
  rcases h with ⟨_, _, rfl⟩ | ⟨g, off, cs, ha, hb, hnc, hle, hx⟩
  · intro j v hv; simp at hv
  · cases ha
    intro j v hv
    rw [add_at, hb.cell]
    rw [← hx] at hv
    obtain ⟨hlt, _⟩ := List.getElem?_eq_some_iff.1 hv
    have hj : j < n * sz := by simp at hlt; omega
    rw [List.getElem?_take_of_lt hj, List.getElem?_drop] at hv
    exact hv

/-- An element type of slices. -/
structure Elem (P : Program) (t e : TypeId) (sz by' : Nat) (zs : List Value) : Prop where
  und : P.underlying t = some (.slice e)
  info : ∃ i z, P.info? e = some i ∧ i.size = sz ∧ i.bytes = by' ∧ i.zero = some z ∧ z.cells = zs.toArray
  one : zs.all Value.oneCell' = true
  len : zs.length = sz

theorem Elem.sizeOf {P : Program} {t e : TypeId} {sz by' : Nat} {zs : List Value} (h : Elem P t e sz by' zs) : ∀ w, (sizeOf e).run P w = .ok sz w := by
  obtain ⟨i, z, hi, hs, _⟩ := h.info
  intro w; simp [Go.sizeOf, typeInfo, hi, hs]

theorem run_appendS {P : Program} {w : World} {t e : TypeId} {sz by' : Nat} {zs : List Value} (he : Elem P t e sz by' zs) {a a2 : Option Addr} {n c m c2 : Nat} {xs ys : List Value} (ty : TypeId)
    (hs : SlR w sz a n c xs) (hy : SlRo w sz a2 m c2 ys) (h1 : ys.all Value.oneCell' = true) (h63 : n + m ≤ 9223372036854775807) (hby : (n + m) * by' ≤ 140737488355328) :
    ∃ a' c' w', (Builtin.append_ #[t, t] ty #[.slice a n c, .slice a2 m c2]).run P w = .ok (.slice a' (n + m) c') w' ∧ Upd (owns a) w w' ∧ SlR w' sz a' (n + m) c' (xs ++ ys) ∧ (a' = a ∨ ∀ k, owns a' k → w.heap.size ≤ k) := by
  obtain ⟨i, z, hi, hsz, hb, hz, hzc⟩ := he.info
  subst hsz hb
  have hsize : ∀ w, (Go.sizeOf e).run P w = .ok i.size w := he.sizeOf
  have hyl := hy.len
  have hxl := hs.len
  by_cases hroom : n + m ≤ c
  · -- there is room
    rcases hs with ⟨rfl, rfl, rfl, rfl⟩ | ⟨g, off, cs, rfl, hblk, hnc, hle, hx⟩
    · obtain rfl : m = 0 := by omega
      have : ys = [] := List.eq_nil_of_length_eq_zero (by simpa using hyl)
      subst this
      refine ⟨none, 0, w, ?_, Upd.rfl' _ _, SlR.nil _ _, .inl rfl⟩
      have hf : (Builtin.firstCells i.size 0 (.slice a2 0 c2)).run P w = .ok #[] w := by
        cases a2 <;> simp [Builtin.firstCells, loadCells, loadCellsFrom]
      simp [Builtin.append_, run_underlying he.und, hsize, Builtin.lenOf, hf]
    · have hf : (Builtin.firstCells i.size m (.slice a2 m c2)).run P w = .ok ys.toArray w := by
        cases a2 with
        | none =>
          rcases hy with ⟨rfl, _, rfl⟩ | ⟨_, _, _, h, _⟩
          · simp [Builtin.firstCells]
          · cases h
        | some ad => exact run_firstCells_some w i.size m ad m c2 ys hyl hy.cells
      obtain ⟨T, hT⟩ := hblk
      have hcc : (n + m) * i.size ≤ c * i.size := Nat.mul_le_mul_right _ hroom
      have hst := run_storeCells_at P g (off + n * i.size) T ys 0 cs.toArray w hT (by simp [hyl]; rw [Nat.add_mul] at hcc; omega) (List.all_eq_true.1 h1)
      have hputl : ((n + m) * i.size) ≤ c * i.size := hcc
      refine ⟨some ⟨g, off, none⟩, c, w.setRow g (putAt cs (off + n * i.size) ys).toArray, ?_, ?_, ?_, .inl rfl⟩
      · have hst' : (storeCells ⟨g, off + n * i.size, none⟩ ys 0).run P w = .ok () (w.setRow g (putAt cs (off + n * i.size) ys).toArray) := by simpa [putAt_eq] using hst
        simp [Builtin.append_, run_underlying he.und, hsize, Builtin.lenOf, hroom, hf, add_at, hst']
      · exact (upd_setRow _ _ _).mono fun k _ hk => (owns_some _ _).2 hk
      · have hlen : (off + n * i.size) + ys.length ≤ cs.length := by rw [hyl]; rw [Nat.add_mul] at hcc; omega
        refine .inr ⟨g, off, putAt cs (off + n * i.size) ys, rfl, Blk.setRow ⟨T, hT⟩, hroom, by rw [putAt_length hlen]; exact hle, ?_⟩
        rw [← hx, Nat.add_mul, ← hyl]
        exact putAt_take hlen
  · have hlt : c < n + m := by omega
    have hfit := growslice_fits hlt hby
    have hzl : z.cells.size = i.size := by rw [hzc]; simpa using he.len
    have hge := grownCap_ge w (n + m) c e
    obtain ⟨zc, hzcl⟩ : ∃ zc, Builtin.zeroCells z.cells (grownCap w (n + m) c e - (n + m)) = zc := ⟨_, rfl⟩
    have hzs : zc.size = (grownCap w (n + m) c e - (n + m)) * i.size := by rw [← hzcl, size_zeroCells, hzl]
    have hnew : SlR (w.drew.alloc (.cells (xs ++ ys ++ zc.toList).toArray e)) i.size (some ⟨w.heap.size, 0, none⟩) (n + m) (grownCap w (n + m) c e) (xs ++ ys) := by
      refine .inr ⟨w.heap.size, 0, xs ++ ys ++ zc.toList, rfl, ⟨e, heap_alloc_new w.drew _⟩, hge, ?_, ?_⟩
      · simp only [List.length_append, Array.length_toList, hzs, hxl, hyl, ← Nat.add_mul, Nat.zero_add]
        apply Nat.le_of_eq
        congr 1; omega
      · have : (n + m) * i.size = (xs ++ ys).length := by simp [hxl, hyl, Nat.add_mul]
        rw [this, List.drop_zero]
        exact List.take_left
    have hu : Upd (owns a) w (w.drew.alloc (.cells (xs ++ ys ++ zc.toList).toArray e)) :=
      ((Ext.dr w).tr (ext_alloc _ _)).upd _
    have hfresh : ∀ k, owns (some ⟨w.heap.size, 0, none⟩) k → w.heap.size ≤ k := fun k hk => by rw [owns_some] at hk; simp at hk; omega
    have hf2 : (Builtin.firstCells i.size m (.slice a2 m c2)).run P w.drew = .ok ys.toArray w.drew := by
      have hy' : SlRo w.drew i.size a2 m c2 ys := hy.ext (Ext.dr w)
      cases a2 with
      | none =>
        rcases hy' with ⟨rfl, _, rfl⟩ | ⟨_, _, _, h, _⟩
        · simp [Builtin.firstCells]
        · cases h
      | some ad => exact run_firstCells_some w.drew i.size m ad m c2 ys hyl hy'.cells
    have hf1 : (Builtin.firstCells i.size n (.slice a n c)).run P w.drew = .ok xs.toArray w.drew := by
      have hs' : SlR w.drew i.size a n c xs := hs.ext (Ext.dr w)
      cases a with
      | none =>
        rcases hs' with ⟨_, rfl, _, rfl⟩ | ⟨_, _, _, h, _⟩
        · simp [Builtin.firstCells]
        · cases h
      | some ad => exact run_firstCells_some w.drew i.size n ad n c xs hxl hs'.cells
    refine ⟨some ⟨w.heap.size, 0, none⟩, grownCap w (n + m) c e, _, ?_, hu, hnew, .inr hfresh⟩
    have hn : ¬ (n + m ≤ c) := hroom
    have h63' : ¬ (9223372036854775807 < ((n : Int) + (m : Int))) := by omega
    have h48' : ¬ (281474976710656 < Builtin.nextslicecap (n + m) c * i.bytes) := by omega
    simp [Builtin.append_, run_underlying he.und, hsize, typeInfo, zeroValue, hi, hz, Builtin.lenOf, hn, h63', h48', Question.forced, hf1, hf2, newRow]
    simp only [grownCap] at hzcl
    rw [hzcl]
    simp [grownCap]
    congr 2
    apply Array.ext'
    simp

section
variable {r : Option Nat} {P : Program} {ops : Array Oper} {K : Cont} {rest : List Oper} {ρ : Env} {w : World} {d : Nat} {ty : TypeId} {pos : String} {af : Array Edge} {g : Option (Nat × Bool)}

theorem WL.append {t e : TypeId} {sz by' : Nat} {zs : List Value} (he : Elem P t e sz by' zs) {x y : Operand} {a a2 : Option Addr} {n c m c2 : Nat} {xs ys : List Value} (hx : ev ρ x = .slice a n c) (hy : ev ρ y = .slice a2 m c2)
    (hs : SlR w sz a n c xs) (hs2 : SlRo w sz a2 m c2 ys) (h1 : ys.all Value.oneCell' = true) (h63 : n + m ≤ 9223372036854775807) (hby : (n + m) * by' ≤ 140737488355328)
    (hg : wantE ops ρ ⟨some d, .call ⟨.builtin .append, #[x, y], #[t, t]⟩, ty, pos, af, g⟩ = true)
    (k : ∀ a' c' w', Upd (owns a) w w' → SlR w' sz a' (n + m) c' (xs ++ ys) → (a' = a ∨ ∀ k, owns a' k → w.heap.size ≤ k) → WL r P ops K rest (ρ.set d (.slice a' (n + m) c')) w') :
    WL r P ops K (⟨some d, .call ⟨.builtin .append, #[x, y], #[t, t]⟩, ty, pos, af, g⟩ :: rest) ρ w := by
  obtain ⟨a', c', w', hr, hu, hsl, hf⟩ := run_appendS he ty hs hs2 h1 h63 hby
  refine WL.yw (w' := w') ?_ hg (k a' c' w' hu hsl hf)
  simp [execOp, resolve, invoke, builtin, hx, hy, hr]
end
end Go.Eng
