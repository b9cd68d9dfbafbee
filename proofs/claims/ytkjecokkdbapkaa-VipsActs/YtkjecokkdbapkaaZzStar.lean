import Derived.Test.YtkjecokkdbapkaaZzRange
namespace Go.Eng
set_option linter.all false
open Go Go.RowKit

/-! ## What lies apart -/
structure Asr where
  P : World → (Nat → Prop) → Prop
  upd : ∀ {S : Nat → Prop} {w w' : World} {F : Nat → Prop}, P w F → Upd S w w' → (∀ k, F k → ¬ S k) → P w' F
  lt : ∀ {w : World} {F : Nat → Prop}, P w F → ∀ k, F k → k < w.heap.size

def Sep (w : World) (U : Nat → Prop) : List Asr → Prop
  | [] => True
  | A :: L => ∃ F, A.P w F ∧ (∀ k, F k → U k) ∧ Sep w (fun k => U k ∧ ¬ F k) L

theorem Sep.step : ∀ {L : List Asr} {w w' : World} {U U' S : Nat → Prop}, Sep w U L → Upd S w w' → (∀ k, k < w.heap.size → U k → ¬ S k ∧ U' k) → Sep w' U' L
  | [], _, _, _, _, _, _, _, _ => trivial
  | A :: L, w, w', U, U', S, ⟨F, hP, hF, hs⟩, hu, h =>
    ⟨F, A.upd hP hu (fun k hk => (h k (A.lt hP k hk) (hF k hk)).1), fun k hk => (h k (A.lt hP k hk) (hF k hk)).2,
      hs.step hu fun k hk hu' => ⟨(h k hk hu'.1).1, (h k hk hu'.1).2, hu'.2⟩⟩

theorem Sep.mono {L : List Asr} {w : World} {U U' : Nat → Prop} (h : Sep w U L) (hU : ∀ k, k < w.heap.size → U k → U' k) : Sep w U' L :=
  h.step (Upd.rfl' (fun _ => False) w) fun k hk hu => ⟨fun h => h, hU k hk hu⟩

theorem Sep.out : ∀ {L1 L2 : List Asr} {A : Asr} {w : World} {U : Nat → Prop}, Sep w U (L1 ++ A :: L2) → ∃ F, A.P w F ∧ (∀ k, F k → U k) ∧ Sep w (fun k => U k ∧ ¬ F k) (L1 ++ L2)
  | [], _, _, _, _, h => h
  | B :: L1, L2, A, w, U, ⟨G, hG, hGU, hs⟩ => by
    obtain ⟨F, hF, hFU, hr⟩ := hs.out
    refine ⟨F, hF, fun k hk => (hFU k hk).1, G, hG, fun k hk => ⟨hGU k hk, fun hf => (hFU k hf).2 hk⟩, ?_⟩
    exact hr.mono fun k _ hk => ⟨⟨hk.1.1, hk.2⟩, hk.1.2⟩
theorem Sep.back : ∀ {L1 L2 : List Asr} {A : Asr} {w : World} {U F : Nat → Prop}, A.P w F → (∀ k, F k → U k) → Sep w (fun k => U k ∧ ¬ F k) (L1 ++ L2) → Sep w U (L1 ++ A :: L2)
  | [], _, _, _, _, F, hF, hFU, h => ⟨F, hF, hFU, h⟩
  | B :: L1, L2, A, w, U, F, hF, hFU, ⟨G, hG, hGU, hs⟩ =>
    ⟨G, hG, fun k hk => (hGU k hk).1, Sep.back hF (fun k hk => ⟨hFU k hk, fun hg => (hGU k hg).2 hk⟩) (hs.mono fun k _ hk => ⟨⟨hk.1.1, hk.2⟩, hk.1.2⟩)⟩

/-- U: where they may lie: all that is new, too. -/
structure Star (U : Nat → Prop) (w : World) (L : List Asr) : Prop where
  new : ∀ k, w.heap.size ≤ k → U k
  sep : Sep w U L

theorem Star.nil {U : Nat → Prop} {w : World} (h : ∀ k, w.heap.size ≤ k → U k) : Star U w [] := ⟨h, trivial⟩
theorem Star.upd {U S : Nat → Prop} {w w' : World} {L : List Asr} (h : Star U w L) (hu : Upd S w w') (hS : ∀ k, U k → ¬ S k) : Star U w' L :=
  ⟨fun k hk => h.new k (Nat.le_trans hu.size hk), h.sep.step hu fun k _ hk => ⟨hS k hk, hk⟩⟩
theorem Star.ext {U : Nat → Prop} {w w' : World} {L : List Asr} (h : Star U w L) (hu : Ext w w') : Star U w' L := h.upd (hu.upd fun _ => False) fun _ _ h => h
theorem Star.mono {U U' : Nat → Prop} {w : World} {L : List Asr} (h : Star U w L) (hU : ∀ k, U k → U' k) : Star U' w L := ⟨fun k hk => hU k (h.new k hk), h.sep.mono fun k _ hk => hU k hk⟩
/-- Where nothing lies yet may be shut out. -/
theorem Star.shut {U U' : Nat → Prop} {w w' : World} {L : List Asr} (h : Star U w L) (hx : Ext w w') (hU : ∀ k, k < w.heap.size → U k → U' k) (hn : ∀ k, w'.heap.size ≤ k → U' k) : Star U' w' L :=
  ⟨hn, h.sep.step (hx.upd fun _ => False) fun k hk hu => ⟨fun h => h, hU k hk hu⟩⟩
theorem Star.push {U F : Nat → Prop} {w w' : World} {L : List Asr} {A : Asr} (h : Star U w L) (hx : Ext w w') (hA : A.P w' F) (hF : ∀ k, F k → w.heap.size ≤ k) : Star U w' (A :: L) :=
  ⟨fun k hk => h.new k (Nat.le_trans hx.size hk), F, hA, fun k hk => h.new k (hF k hk),
    h.sep.step (hx.upd fun _ => False) fun k hk hu => ⟨fun h => h, hu, fun hf => by have := hF k hf; omega⟩⟩
/-- .. in a world that is new besides at S, where nothing of L lies. -/
theorem Star.pop {U : Nat → Prop} {w : World} {L : List Asr} {A : Asr} (h : Star U w (A :: L)) : Star U w L := by
  obtain ⟨hn, F, _, _, hs⟩ := h
  exact ⟨hn, hs.mono fun k _ hk => hk.1⟩

theorem Star.splitAt {U : Nat → Prop} {w : World} {L1 L2 : List Asr} {A : Asr} (h : Star U w (L1 ++ A :: L2)) : ∃ F, A.P w F ∧ (∀ k, F k → U k) ∧
    ∀ {w' : World} {B : Asr} {F' : Nat → Prop}, Upd F w w' → B.P w' F' → (∀ k, F' k → F k ∨ w.heap.size ≤ k) → Star U w' (L1 ++ B :: L2) := by
  obtain ⟨F, hP, hFU, hs⟩ := h.sep.out
  refine ⟨F, hP, hFU, fun {w' B F'} hu hB hF' => ⟨fun k hk => h.new k (Nat.le_trans hu.size hk), ?_⟩⟩
  refine Sep.back hB (fun k hk => (hF' k hk).elim (hFU k) (h.new k)) ?_
  refine hs.step hu fun k hk hk2 => ⟨hk2.2, hk2.1, fun hf => ?_⟩
  rcases hF' k hf with h1 | h1
  · exact hk2.2 h1
  · omega
theorem Star.splitRAt {U : Nat → Prop} {w : World} {L1 L2 : List Asr} {A : Asr} (h : Star U w (L1 ++ A :: L2)) : ∃ F, A.P w F ∧ (∀ k, F k → U k) ∧ Sep w (fun k => U k ∧ ¬ F k) (L1 ++ L2) ∧
    ∀ {w' : World} {B : Asr} {F' : Nat → Prop}, Upd F w w' → B.P w' F' → (∀ k, F' k → F k ∨ w.heap.size ≤ k) → Star U w' (L1 ++ B :: L2) := by
  obtain ⟨F, hP, hFU, hs⟩ := h.sep.out
  refine ⟨F, hP, hFU, hs, fun {w' B F'} hu hB hF' => ⟨fun k hk => h.new k (Nat.le_trans hu.size hk), ?_⟩⟩
  refine Sep.back hB (fun k hk => (hF' k hk).elim (hFU k) (h.new k)) ?_
  refine hs.step hu fun k hk hk2 => ⟨hk2.2, hk2.1, fun hf => ?_⟩
  rcases hF' k hf with h1 | h1
  · exact hk2.2 h1
  · omega
theorem Sep.getAt {U : Nat → Prop} {w : World} {L1 L2 : List Asr} {A : Asr} (h : Sep w U (L1 ++ A :: L2)) : ∃ F, A.P w F ∧ ∀ k, F k → U k := by
  obtain ⟨F, hP, hFU, _⟩ := h.out
  exact ⟨F, hP, hFU⟩
theorem Star.getAt {U : Nat → Prop} {w : World} {L1 L2 : List Asr} {A : Asr} (h : Star U w (L1 ++ A :: L2)) : ∃ F, A.P w F ∧ ∀ k, F k → U k := by
  obtain ⟨F, hP, hFU, _⟩ := h.sep.out
  exact ⟨F, hP, hFU⟩
theorem Star.dropAt {U : Nat → Prop} {w : World} {L1 L2 : List Asr} {A : Asr} (h : Star U w (L1 ++ A :: L2)) : Star U w (L1 ++ L2) := by
  obtain ⟨F, hP, hFU, hs⟩ := h.sep.out
  exact ⟨h.new, hs.mono fun k _ hk => hk.1⟩
/-- One is taken out, to be made part of another. -/
theorem Star.takeAt {U : Nat → Prop} {w : World} {L1 L2 : List Asr} {A : Asr} (h : Star U w (L1 ++ A :: L2)) : ∃ F, A.P w F ∧ (∀ k, F k → U k) ∧ (∀ k, F k → k < w.heap.size) ∧ Star (fun k => U k ∧ ¬ F k) w (L1 ++ L2) := by
  obtain ⟨F, hP, hFU, hs⟩ := h.sep.out
  exact ⟨F, hP, hFU, A.lt hP, fun k hk => ⟨h.new k hk, fun hf => by have := A.lt hP k hf; omega⟩, hs⟩
theorem Star.put {U F : Nat → Prop} {w : World} {L : List Asr} {A : Asr} (h : Star (fun k => U k ∧ ¬ F k) w L) (hA : A.P w F) (hF : ∀ k, F k → U k) : Star U w (A :: L) :=
  ⟨fun k hk => (h.new k hk).1, F, hA, hF, h.sep⟩

/-! ### Kinds -/
abbrev boxA (b : Nat) (cs : List Value) : Asr where
  P w F := Blk w b cs ∧ F = fun k => k = b
  upd h hu hS := ⟨hu.blk (hS b (by rw [h.2])) h.1, h.2⟩
  lt h k hk := by rw [h.2] at hk; rw [hk]; exact h.1.lt
abbrev rawA (b : Nat) (o : Obj) : Asr where
  P w F := Raw w b o ∧ F = fun k => k = b
  upd h hu hS := ⟨hu.raw (hS b (by rw [h.2])) h.1, h.2⟩
  lt h k hk := by rw [h.2] at hk; rw [hk]; exact h.1.lt
/-- A slice that may be appended to, and written. -/
abbrev slwA {α : Type} (enc : α → List Value) (sz : Nat) (a : Option Addr) (c : Nat) (xs : List α) : Asr where
  P w F := Slw enc sz w a c xs ∧ F = owns a
  upd h hu hS := ⟨h.1.upd hu (fun k hk => hS k (by rw [h.2]; exact hk)), h.2⟩
  lt h k hk := by rw [h.2] at hk; exact h.1.lt k hk
/-- A slice that is read. -/
abbrev sliA {α : Type} (enc : α → List Value) (sz : Nat) (a : Option Addr) (c : Nat) (xs : List α) : Asr where
  P w F := Sli enc sz w a c xs ∧ F = ownsC a c
  upd h hu hS := ⟨h.1.upd hu (fun k hk => hS k (by rw [h.2]; exact hk)), h.2⟩
  lt h k hk := by rw [h.2] at hk; exact h.1.lt k hk
abbrev mapA {κ : Type} [DecidableEq κ] (enc : κ → Value) (b : Nat) (l : List (κ × Value)) : Asr where
  P w F := MapAt enc w b l ∧ F = fun k => k = b
  upd h hu hS := ⟨hu.map (hS b (by rw [h.2])) h.1, h.2⟩
  lt h k hk := by rw [h.2] at hk; rw [hk]; exact h.1.lt

theorem Star.split0 {U : Nat → Prop} {w : World} {L : List Asr} { A : Asr} (h : Star U w (A :: L)) : ∃ F, A.P w F ∧ (∀ k, F k → U k) ∧
    ∀ {w' : World} {B : Asr} {F' : Nat → Prop}, Upd F w w' → B.P w' F' → (∀ k, F' k → F k ∨ w.heap.size ≤ k) → Star U w' (B :: L) := Star.splitAt (L1 := []) h
theorem Star.drop0 {U : Nat → Prop} {w : World} {L : List Asr} { A : Asr} (h : Star U w (A :: L)) : Star U w (L) := Star.dropAt (L1 := []) h
theorem Star.get0 {U : Nat → Prop} {w : World} {L : List Asr} { A : Asr} (h : Star U w (A :: L)) : ∃ F, A.P w F ∧ ∀ k, F k → U k := Star.getAt (L1 := []) h
theorem Star.take0 {U : Nat → Prop} {w : World} {L : List Asr} { A : Asr} (h : Star U w (A :: L)) : ∃ F, A.P w F ∧ (∀ k, F k → U k) ∧ (∀ k, F k → k < w.heap.size) ∧ Star (fun k => U k ∧ ¬ F k) w (L) := Star.takeAt (L1 := []) h
theorem Star.splitR0 {U : Nat → Prop} {w : World} {L : List Asr} { A : Asr} (h : Star U w (A :: L)) : ∃ F, A.P w F ∧ (∀ k, F k → U k) ∧ Sep w (fun k => U k ∧ ¬ F k) (L) ∧
    ∀ {w' : World} {B : Asr} {F' : Nat → Prop}, Upd F w w' → B.P w' F' → (∀ k, F' k → F k ∨ w.heap.size ≤ k) → Star U w' (B :: L) := Star.splitRAt (L1 := []) h
theorem Sep.sliD0 {U : Nat → Prop} {w : World} {L : List Asr} {α : Type} {enc : α → List Value} {sz : Nat} {a : Option Addr} {c : Nat} {xs : List α} (h : Sep w U (sliA enc sz a c xs :: L)) : ∀ k, ownsC a c k → U k := (Sep.getAt (L1 := []) h).elim fun _ h k hk => h.2 k (by rw [h.1.2]; exact hk)
theorem Sep.slwD0 {U : Nat → Prop} {w : World} {L : List Asr} {α : Type} {enc : α → List Value} {sz : Nat} {a : Option Addr} {c : Nat} {xs : List α} (h : Sep w U (slwA enc sz a c xs :: L)) : ∀ k, ownsC a c k → U k := (Sep.getAt (L1 := []) h).elim fun _ h k hk => h.2 k (by rw [h.1.2]; exact hk.1)
theorem Star.blk0 {U : Nat → Prop} {w : World} {L : List Asr} {b : Nat} {cs : List Value} (h : Star U w (boxA b cs :: L)) : Blk w b cs := (Star.get0 h).elim fun _ h => h.1.1
theorem Star.slw0 {U : Nat → Prop} {w : World} {L : List Asr} {α : Type} {enc : α → List Value} {sz : Nat} {a : Option Addr} {c : Nat} {xs : List α} (h : Star U w (slwA enc sz a c xs :: L)) : Slw enc sz w a c xs := (Star.get0 h).elim fun _ h => h.1.1
theorem Star.sli0 {U : Nat → Prop} {w : World} {L : List Asr} {α : Type} {enc : α → List Value} {sz : Nat} {a : Option Addr} {c : Nat} {xs : List α} (h : Star U w (sliA enc sz a c xs :: L)) : Sli enc sz w a c xs := (Star.get0 h).elim fun _ h => h.1.1
theorem Star.raw0 {U : Nat → Prop} {w : World} {L : List Asr} {b : Nat} {o : Obj} (h : Star U w (rawA b o :: L)) : Raw w b o := (Star.get0 h).elim fun _ h => h.1.1
theorem Star.map0 {U : Nat → Prop} {w : World} {L : List Asr} {κ : Type} [DecidableEq κ] {enc : κ → Value} {b : Nat} {l : List (κ × Value)} (h : Star U w (mapA enc b l :: L)) : MapAt enc w b l := (Star.get0 h).elim fun _ h => h.1.1
/-- A store into a box. -/
theorem Star.box0 {U : Nat → Prop} {w : World} {L : List Asr} {w' : World} {b : Nat} {cs cs' : List Value} (h : Star U w (boxA b cs :: L)) (hu : Upd (fun k => k = b) w w') (hb : Blk w' b cs') : Star U w' (boxA b cs' :: L) ∧ ∀ w0, Ext w0 w → (∀ k, U k → w0.heap.size ≤ k) → Ext w0 w' := by
  obtain ⟨F, ⟨_, rfl⟩, hU, hf⟩ := Star.split0 h
  exact ⟨hf hu ⟨hb, rfl⟩ (fun k hk => .inl hk), fun w0 hx h0 => hx.putU hu (fun k hk => h0 k (hU k hk))⟩
/-- An append. -/
theorem Star.app0 {U : Nat → Prop} {w : World} {L : List Asr} {w' : World} {α : Type} {enc : α → List Value} {sz : Nat} {a a' : Option Addr} {c c' : Nat} {xs xs' : List α} (h : Star U w (slwA enc sz a c xs :: L)) (hu : Upd (owns a) w w') (hb : Slw enc sz w' a' c' xs') (hf' : a' = a ∨ ∀ k, owns a' k → w.heap.size ≤ k) : Star U w' (slwA enc sz a' c' xs' :: L) ∧ ∀ w0, Ext w0 w → (∀ k, U k → w0.heap.size ≤ k) → Ext w0 w' := by
  obtain ⟨F, ⟨_, rfl⟩, hU, hf⟩ := Star.split0 h
  exact ⟨hf hu ⟨hb, rfl⟩ (fun k hk => by rcases hf' with rfl | h1; exact .inl hk; exact .inr (h1 k hk)), fun w0 hx h0 => hx.putU hu (fun k hk => h0 k (hU k hk))⟩
theorem Star.split1 {U : Nat → Prop} {w : World} {L : List Asr} {A0 A : Asr} (h : Star U w (A0 :: A :: L)) : ∃ F, A.P w F ∧ (∀ k, F k → U k) ∧
    ∀ {w' : World} {B : Asr} {F' : Nat → Prop}, Upd F w w' → B.P w' F' → (∀ k, F' k → F k ∨ w.heap.size ≤ k) → Star U w' (A0 :: B :: L) := Star.splitAt (L1 := [A0]) h
theorem Star.drop1 {U : Nat → Prop} {w : World} {L : List Asr} {A0 A : Asr} (h : Star U w (A0 :: A :: L)) : Star U w (A0 :: L) := Star.dropAt (L1 := [A0]) h
theorem Star.get1 {U : Nat → Prop} {w : World} {L : List Asr} {A0 A : Asr} (h : Star U w (A0 :: A :: L)) : ∃ F, A.P w F ∧ ∀ k, F k → U k := Star.getAt (L1 := [A0]) h
theorem Star.take1 {U : Nat → Prop} {w : World} {L : List Asr} {A0 A : Asr} (h : Star U w (A0 :: A :: L)) : ∃ F, A.P w F ∧ (∀ k, F k → U k) ∧ (∀ k, F k → k < w.heap.size) ∧ Star (fun k => U k ∧ ¬ F k) w (A0 :: L) := Star.takeAt (L1 := [A0]) h
theorem Star.splitR1 {U : Nat → Prop} {w : World} {L : List Asr} {A0 A : Asr} (h : Star U w (A0 :: A :: L)) : ∃ F, A.P w F ∧ (∀ k, F k → U k) ∧ Sep w (fun k => U k ∧ ¬ F k) (A0 :: L) ∧
    ∀ {w' : World} {B : Asr} {F' : Nat → Prop}, Upd F w w' → B.P w' F' → (∀ k, F' k → F k ∨ w.heap.size ≤ k) → Star U w' (A0 :: B :: L) := Star.splitRAt (L1 := [A0]) h
theorem Sep.sliD1 {U : Nat → Prop} {w : World} {L : List Asr} {A0 : Asr} {α : Type} {enc : α → List Value} {sz : Nat} {a : Option Addr} {c : Nat} {xs : List α} (h : Sep w U (A0 :: sliA enc sz a c xs :: L)) : ∀ k, ownsC a c k → U k := (Sep.getAt (L1 := [A0]) h).elim fun _ h k hk => h.2 k (by rw [h.1.2]; exact hk)
theorem Sep.slwD1 {U : Nat → Prop} {w : World} {L : List Asr} {A0 : Asr} {α : Type} {enc : α → List Value} {sz : Nat} {a : Option Addr} {c : Nat} {xs : List α} (h : Sep w U (A0 :: slwA enc sz a c xs :: L)) : ∀ k, ownsC a c k → U k := (Sep.getAt (L1 := [A0]) h).elim fun _ h k hk => h.2 k (by rw [h.1.2]; exact hk.1)
theorem Star.blk1 {U : Nat → Prop} {w : World} {L : List Asr} {A0 : Asr} {b : Nat} {cs : List Value} (h : Star U w (A0 :: boxA b cs :: L)) : Blk w b cs := (Star.get1 h).elim fun _ h => h.1.1
theorem Star.slw1 {U : Nat → Prop} {w : World} {L : List Asr} {A0 : Asr} {α : Type} {enc : α → List Value} {sz : Nat} {a : Option Addr} {c : Nat} {xs : List α} (h : Star U w (A0 :: slwA enc sz a c xs :: L)) : Slw enc sz w a c xs := (Star.get1 h).elim fun _ h => h.1.1
theorem Star.sli1 {U : Nat → Prop} {w : World} {L : List Asr} {A0 : Asr} {α : Type} {enc : α → List Value} {sz : Nat} {a : Option Addr} {c : Nat} {xs : List α} (h : Star U w (A0 :: sliA enc sz a c xs :: L)) : Sli enc sz w a c xs := (Star.get1 h).elim fun _ h => h.1.1
theorem Star.raw1 {U : Nat → Prop} {w : World} {L : List Asr} {A0 : Asr} {b : Nat} {o : Obj} (h : Star U w (A0 :: rawA b o :: L)) : Raw w b o := (Star.get1 h).elim fun _ h => h.1.1
theorem Star.map1 {U : Nat → Prop} {w : World} {L : List Asr} {A0 : Asr} {κ : Type} [DecidableEq κ] {enc : κ → Value} {b : Nat} {l : List (κ × Value)} (h : Star U w (A0 :: mapA enc b l :: L)) : MapAt enc w b l := (Star.get1 h).elim fun _ h => h.1.1
/-- A store into a box. -/
theorem Star.box1 {U : Nat → Prop} {w : World} {L : List Asr} {A0 : Asr} {w' : World} {b : Nat} {cs cs' : List Value} (h : Star U w (A0 :: boxA b cs :: L)) (hu : Upd (fun k => k = b) w w') (hb : Blk w' b cs') : Star U w' (A0 :: boxA b cs' :: L) ∧ ∀ w0, Ext w0 w → (∀ k, U k → w0.heap.size ≤ k) → Ext w0 w' := by
  obtain ⟨F, ⟨_, rfl⟩, hU, hf⟩ := Star.split1 h
  exact ⟨hf hu ⟨hb, rfl⟩ (fun k hk => .inl hk), fun w0 hx h0 => hx.putU hu (fun k hk => h0 k (hU k hk))⟩
/-- An append. -/
theorem Star.app1 {U : Nat → Prop} {w : World} {L : List Asr} {A0 : Asr} {w' : World} {α : Type} {enc : α → List Value} {sz : Nat} {a a' : Option Addr} {c c' : Nat} {xs xs' : List α} (h : Star U w (A0 :: slwA enc sz a c xs :: L)) (hu : Upd (owns a) w w') (hb : Slw enc sz w' a' c' xs') (hf' : a' = a ∨ ∀ k, owns a' k → w.heap.size ≤ k) : Star U w' (A0 :: slwA enc sz a' c' xs' :: L) ∧ ∀ w0, Ext w0 w → (∀ k, U k → w0.heap.size ≤ k) → Ext w0 w' := by
  obtain ⟨F, ⟨_, rfl⟩, hU, hf⟩ := Star.split1 h
  exact ⟨hf hu ⟨hb, rfl⟩ (fun k hk => by rcases hf' with rfl | h1; exact .inl hk; exact .inr (h1 k hk)), fun w0 hx h0 => hx.putU hu (fun k hk => h0 k (hU k hk))⟩
theorem Star.split2 {U : Nat → Prop} {w : World} {L : List Asr} {A0 A1 A : Asr} (h : Star U w (A0 :: A1 :: A :: L)) : ∃ F, A.P w F ∧ (∀ k, F k → U k) ∧
    ∀ {w' : World} {B : Asr} {F' : Nat → Prop}, Upd F w w' → B.P w' F' → (∀ k, F' k → F k ∨ w.heap.size ≤ k) → Star U w' (A0 :: A1 :: B :: L) := Star.splitAt (L1 := [A0, A1]) h
theorem Star.drop2 {U : Nat → Prop} {w : World} {L : List Asr} {A0 A1 A : Asr} (h : Star U w (A0 :: A1 :: A :: L)) : Star U w (A0 :: A1 :: L) := Star.dropAt (L1 := [A0, A1]) h
theorem Star.get2 {U : Nat → Prop} {w : World} {L : List Asr} {A0 A1 A : Asr} (h : Star U w (A0 :: A1 :: A :: L)) : ∃ F, A.P w F ∧ ∀ k, F k → U k := Star.getAt (L1 := [A0, A1]) h
theorem Star.take2 {U : Nat → Prop} {w : World} {L : List Asr} {A0 A1 A : Asr} (h : Star U w (A0 :: A1 :: A :: L)) : ∃ F, A.P w F ∧ (∀ k, F k → U k) ∧ (∀ k, F k → k < w.heap.size) ∧ Star (fun k => U k ∧ ¬ F k) w (A0 :: A1 :: L) := Star.takeAt (L1 := [A0, A1]) h
theorem Star.splitR2 {U : Nat → Prop} {w : World} {L : List Asr} {A0 A1 A : Asr} (h : Star U w (A0 :: A1 :: A :: L)) : ∃ F, A.P w F ∧ (∀ k, F k → U k) ∧ Sep w (fun k => U k ∧ ¬ F k) (A0 :: A1 :: L) ∧
    ∀ {w' : World} {B : Asr} {F' : Nat → Prop}, Upd F w w' → B.P w' F' → (∀ k, F' k → F k ∨ w.heap.size ≤ k) → Star U w' (A0 :: A1 :: B :: L) := Star.splitRAt (L1 := [A0, A1]) h
theorem Sep.sliD2 {U : Nat → Prop} {w : World} {L : List Asr} {A0 A1 : Asr} {α : Type} {enc : α → List Value} {sz : Nat} {a : Option Addr} {c : Nat} {xs : List α} (h : Sep w U (A0 :: A1 :: sliA enc sz a c xs :: L)) : ∀ k, ownsC a c k → U k := (Sep.getAt (L1 := [A0, A1]) h).elim fun _ h k hk => h.2 k (by rw [h.1.2]; exact hk)
theorem Sep.slwD2 {U : Nat → Prop} {w : World} {L : List Asr} {A0 A1 : Asr} {α : Type} {enc : α → List Value} {sz : Nat} {a : Option Addr} {c : Nat} {xs : List α} (h : Sep w U (A0 :: A1 :: slwA enc sz a c xs :: L)) : ∀ k, ownsC a c k → U k := (Sep.getAt (L1 := [A0, A1]) h).elim fun _ h k hk => h.2 k (by rw [h.1.2]; exact hk.1)
theorem Star.blk2 {U : Nat → Prop} {w : World} {L : List Asr} {A0 A1 : Asr} {b : Nat} {cs : List Value} (h : Star U w (A0 :: A1 :: boxA b cs :: L)) : Blk w b cs := (Star.get2 h).elim fun _ h => h.1.1
theorem Star.slw2 {U : Nat → Prop} {w : World} {L : List Asr} {A0 A1 : Asr} {α : Type} {enc : α → List Value} {sz : Nat} {a : Option Addr} {c : Nat} {xs : List α} (h : Star U w (A0 :: A1 :: slwA enc sz a c xs :: L)) : Slw enc sz w a c xs := (Star.get2 h).elim fun _ h => h.1.1
theorem Star.sli2 {U : Nat → Prop} {w : World} {L : List Asr} {A0 A1 : Asr} {α : Type} {enc : α → List Value} {sz : Nat} {a : Option Addr} {c : Nat} {xs : List α} (h : Star U w (A0 :: A1 :: sliA enc sz a c xs :: L)) : Sli enc sz w a c xs := (Star.get2 h).elim fun _ h => h.1.1
theorem Star.raw2 {U : Nat → Prop} {w : World} {L : List Asr} {A0 A1 : Asr} {b : Nat} {o : Obj} (h : Star U w (A0 :: A1 :: rawA b o :: L)) : Raw w b o := (Star.get2 h).elim fun _ h => h.1.1
theorem Star.map2 {U : Nat → Prop} {w : World} {L : List Asr} {A0 A1 : Asr} {κ : Type} [DecidableEq κ] {enc : κ → Value} {b : Nat} {l : List (κ × Value)} (h : Star U w (A0 :: A1 :: mapA enc b l :: L)) : MapAt enc w b l := (Star.get2 h).elim fun _ h => h.1.1
/-- A store into a box. -/
theorem Star.box2 {U : Nat → Prop} {w : World} {L : List Asr} {A0 A1 : Asr} {w' : World} {b : Nat} {cs cs' : List Value} (h : Star U w (A0 :: A1 :: boxA b cs :: L)) (hu : Upd (fun k => k = b) w w') (hb : Blk w' b cs') : Star U w' (A0 :: A1 :: boxA b cs' :: L) ∧ ∀ w0, Ext w0 w → (∀ k, U k → w0.heap.size ≤ k) → Ext w0 w' := by
  obtain ⟨F, ⟨_, rfl⟩, hU, hf⟩ := Star.split2 h
  exact ⟨hf hu ⟨hb, rfl⟩ (fun k hk => .inl hk), fun w0 hx h0 => hx.putU hu (fun k hk => h0 k (hU k hk))⟩
/-- An append. -/
theorem Star.app2 {U : Nat → Prop} {w : World} {L : List Asr} {A0 A1 : Asr} {w' : World} {α : Type} {enc : α → List Value} {sz : Nat} {a a' : Option Addr} {c c' : Nat} {xs xs' : List α} (h : Star U w (A0 :: A1 :: slwA enc sz a c xs :: L)) (hu : Upd (owns a) w w') (hb : Slw enc sz w' a' c' xs') (hf' : a' = a ∨ ∀ k, owns a' k → w.heap.size ≤ k) : Star U w' (A0 :: A1 :: slwA enc sz a' c' xs' :: L) ∧ ∀ w0, Ext w0 w → (∀ k, U k → w0.heap.size ≤ k) → Ext w0 w' := by
  obtain ⟨F, ⟨_, rfl⟩, hU, hf⟩ := Star.split2 h
  exact ⟨hf hu ⟨hb, rfl⟩ (fun k hk => by rcases hf' with rfl | h1; exact .inl hk; exact .inr (h1 k hk)), fun w0 hx h0 => hx.putU hu (fun k hk => h0 k (hU k hk))⟩
theorem Star.split3 {U : Nat → Prop} {w : World} {L : List Asr} {A0 A1 A2 A : Asr} (h : Star U w (A0 :: A1 :: A2 :: A :: L)) : ∃ F, A.P w F ∧ (∀ k, F k → U k) ∧
    ∀ {w' : World} {B : Asr} {F' : Nat → Prop}, Upd F w w' → B.P w' F' → (∀ k, F' k → F k ∨ w.heap.size ≤ k) → Star U w' (A0 :: A1 :: A2 :: B :: L) := Star.splitAt (L1 := [A0, A1, A2]) h
theorem Star.drop3 {U : Nat → Prop} {w : World} {L : List Asr} {A0 A1 A2 A : Asr} (h : Star U w (A0 :: A1 :: A2 :: A :: L)) : Star U w (A0 :: A1 :: A2 :: L) := Star.dropAt (L1 := [A0, A1, A2]) h
theorem Star.get3 {U : Nat → Prop} {w : World} {L : List Asr} {A0 A1 A2 A : Asr} (h : Star U w (A0 :: A1 :: A2 :: A :: L)) : ∃ F, A.P w F ∧ ∀ k, F k → U k := Star.getAt (L1 := [A0, A1, A2]) h
theorem Star.take3 {U : Nat → Prop} {w : World} {L : List Asr} {A0 A1 A2 A : Asr} (h : Star U w (A0 :: A1 :: A2 :: A :: L)) : ∃ F, A.P w F ∧ (∀ k, F k → U k) ∧ (∀ k, F k → k < w.heap.size) ∧ Star (fun k => U k ∧ ¬ F k) w (A0 :: A1 :: A2 :: L) := Star.takeAt (L1 := [A0, A1, A2]) h
theorem Star.splitR3 {U : Nat → Prop} {w : World} {L : List Asr} {A0 A1 A2 A : Asr} (h : Star U w (A0 :: A1 :: A2 :: A :: L)) : ∃ F, A.P w F ∧ (∀ k, F k → U k) ∧ Sep w (fun k => U k ∧ ¬ F k) (A0 :: A1 :: A2 :: L) ∧
    ∀ {w' : World} {B : Asr} {F' : Nat → Prop}, Upd F w w' → B.P w' F' → (∀ k, F' k → F k ∨ w.heap.size ≤ k) → Star U w' (A0 :: A1 :: A2 :: B :: L) := Star.splitRAt (L1 := [A0, A1, A2]) h
theorem Sep.sliD3 {U : Nat → Prop} {w : World} {L : List Asr} {A0 A1 A2 : Asr} {α : Type} {enc : α → List Value} {sz : Nat} {a : Option Addr} {c : Nat} {xs : List α} (h : Sep w U (A0 :: A1 :: A2 :: sliA enc sz a c xs :: L)) : ∀ k, ownsC a c k → U k := (Sep.getAt (L1 := [A0, A1, A2]) h).elim fun _ h k hk => h.2 k (by rw [h.1.2]; exact hk)
theorem Sep.slwD3 {U : Nat → Prop} {w : World} {L : List Asr} {A0 A1 A2 : Asr} {α : Type} {enc : α → List Value} {sz : Nat} {a : Option Addr} {c : Nat} {xs : List α} (h : Sep w U (A0 :: A1 :: A2 :: slwA enc sz a c xs :: L)) : ∀ k, ownsC a c k → U k := (Sep.getAt (L1 := [A0, A1, A2]) h).elim fun _ h k hk => h.2 k (by rw [h.1.2]; exact hk.1)
theorem Star.blk3 {U : Nat → Prop} {w : World} {L : List Asr} {A0 A1 A2 : Asr} {b : Nat} {cs : List Value} (h : Star U w (A0 :: A1 :: A2 :: boxA b cs :: L)) : Blk w b cs := (Star.get3 h).elim fun _ h => h.1.1
theorem Star.slw3 {U : Nat → Prop} {w : World} {L : List Asr} {A0 A1 A2 : Asr} {α : Type} {enc : α → List Value} {sz : Nat} {a : Option Addr} {c : Nat} {xs : List α} (h : Star U w (A0 :: A1 :: A2 :: slwA enc sz a c xs :: L)) : Slw enc sz w a c xs := (Star.get3 h).elim fun _ h => h.1.1
theorem Star.sli3 {U : Nat → Prop} {w : World} {L : List Asr} {A0 A1 A2 : Asr} {α : Type} {enc : α → List Value} {sz : Nat} {a : Option Addr} {c : Nat} {xs : List α} (h : Star U w (A0 :: A1 :: A2 :: sliA enc sz a c xs :: L)) : Sli enc sz w a c xs := (Star.get3 h).elim fun _ h => h.1.1
theorem Star.raw3 {U : Nat → Prop} {w : World} {L : List Asr} {A0 A1 A2 : Asr} {b : Nat} {o : Obj} (h : Star U w (A0 :: A1 :: A2 :: rawA b o :: L)) : Raw w b o := (Star.get3 h).elim fun _ h => h.1.1
theorem Star.map3 {U : Nat → Prop} {w : World} {L : List Asr} {A0 A1 A2 : Asr} {κ : Type} [DecidableEq κ] {enc : κ → Value} {b : Nat} {l : List (κ × Value)} (h : Star U w (A0 :: A1 :: A2 :: mapA enc b l :: L)) : MapAt enc w b l := (Star.get3 h).elim fun _ h => h.1.1
/-- A store into a box. -/
theorem Star.box3 {U : Nat → Prop} {w : World} {L : List Asr} {A0 A1 A2 : Asr} {w' : World} {b : Nat} {cs cs' : List Value} (h : Star U w (A0 :: A1 :: A2 :: boxA b cs :: L)) (hu : Upd (fun k => k = b) w w') (hb : Blk w' b cs') : Star U w' (A0 :: A1 :: A2 :: boxA b cs' :: L) ∧ ∀ w0, Ext w0 w → (∀ k, U k → w0.heap.size ≤ k) → Ext w0 w' := by
  obtain ⟨F, ⟨_, rfl⟩, hU, hf⟩ := Star.split3 h
  exact ⟨hf hu ⟨hb, rfl⟩ (fun k hk => .inl hk), fun w0 hx h0 => hx.putU hu (fun k hk => h0 k (hU k hk))⟩
/-- An append. -/
theorem Star.app3 {U : Nat → Prop} {w : World} {L : List Asr} {A0 A1 A2 : Asr} {w' : World} {α : Type} {enc : α → List Value} {sz : Nat} {a a' : Option Addr} {c c' : Nat} {xs xs' : List α} (h : Star U w (A0 :: A1 :: A2 :: slwA enc sz a c xs :: L)) (hu : Upd (owns a) w w') (hb : Slw enc sz w' a' c' xs') (hf' : a' = a ∨ ∀ k, owns a' k → w.heap.size ≤ k) : Star U w' (A0 :: A1 :: A2 :: slwA enc sz a' c' xs' :: L) ∧ ∀ w0, Ext w0 w → (∀ k, U k → w0.heap.size ≤ k) → Ext w0 w' := by
  obtain ⟨F, ⟨_, rfl⟩, hU, hf⟩ := Star.split3 h
  exact ⟨hf hu ⟨hb, rfl⟩ (fun k hk => by rcases hf' with rfl | h1; exact .inl hk; exact .inr (h1 k hk)), fun w0 hx h0 => hx.putU hu (fun k hk => h0 k (hU k hk))⟩
theorem Star.split4 {U : Nat → Prop} {w : World} {L : List Asr} {A0 A1 A2 A3 A : Asr} (h : Star U w (A0 :: A1 :: A2 :: A3 :: A :: L)) : ∃ F, A.P w F ∧ (∀ k, F k → U k) ∧
    ∀ {w' : World} {B : Asr} {F' : Nat → Prop}, Upd F w w' → B.P w' F' → (∀ k, F' k → F k ∨ w.heap.size ≤ k) → Star U w' (A0 :: A1 :: A2 :: A3 :: B :: L) := Star.splitAt (L1 := [A0, A1, A2, A3]) h
theorem Star.drop4 {U : Nat → Prop} {w : World} {L : List Asr} {A0 A1 A2 A3 A : Asr} (h : Star U w (A0 :: A1 :: A2 :: A3 :: A :: L)) : Star U w (A0 :: A1 :: A2 :: A3 :: L) := Star.dropAt (L1 := [A0, A1, A2, A3]) h
theorem Star.get4 {U : Nat → Prop} {w : World} {L : List Asr} {A0 A1 A2 A3 A : Asr} (h : Star U w (A0 :: A1 :: A2 :: A3 :: A :: L)) : ∃ F, A.P w F ∧ ∀ k, F k → U k := Star.getAt (L1 := [A0, A1, A2, A3]) h
theorem Star.take4 {U : Nat → Prop} {w : World} {L : List Asr} {A0 A1 A2 A3 A : Asr} (h : Star U w (A0 :: A1 :: A2 :: A3 :: A :: L)) : ∃ F, A.P w F ∧ (∀ k, F k → U k) ∧ (∀ k, F k → k < w.heap.size) ∧ Star (fun k => U k ∧ ¬ F k) w (A0 :: A1 :: A2 :: A3 :: L) := Star.takeAt (L1 := [A0, A1, A2, A3]) h
theorem Star.splitR4 {U : Nat → Prop} {w : World} {L : List Asr} {A0 A1 A2 A3 A : Asr} (h : Star U w (A0 :: A1 :: A2 :: A3 :: A :: L)) : ∃ F, A.P w F ∧ (∀ k, F k → U k) ∧ Sep w (fun k => U k ∧ ¬ F k) (A0 :: A1 :: A2 :: A3 :: L) ∧
    ∀ {w' : World} {B : Asr} {F' : Nat → Prop}, Upd F w w' → B.P w' F' → (∀ k, F' k → F k ∨ w.heap.size ≤ k) → Star U w' (A0 :: A1 :: A2 :: A3 :: B :: L) := Star.splitRAt (L1 := [A0, A1, A2, A3]) h
theorem Sep.sliD4 {U : Nat → Prop} {w : World} {L : List Asr} {A0 A1 A2 A3 : Asr} {α : Type} {enc : α → List Value} {sz : Nat} {a : Option Addr} {c : Nat} {xs : List α} (h : Sep w U (A0 :: A1 :: A2 :: A3 :: sliA enc sz a c xs :: L)) : ∀ k, ownsC a c k → U k := (Sep.getAt (L1 := [A0, A1, A2, A3]) h).elim fun _ h k hk => h.2 k (by rw [h.1.2]; exact hk)
theorem Sep.slwD4 {U : Nat → Prop} {w : World} {L : List Asr} {A0 A1 A2 A3 : Asr} {α : Type} {enc : α → List Value} {sz : Nat} {a : Option Addr} {c : Nat} {xs : List α} (h : Sep w U (A0 :: A1 :: A2 :: A3 :: slwA enc sz a c xs :: L)) : ∀ k, ownsC a c k → U k := (Sep.getAt (L1 := [A0, A1, A2, A3]) h).elim fun _ h k hk => h.2 k (by rw [h.1.2]; exact hk.1)
theorem Star.blk4 {U : Nat → Prop} {w : World} {L : List Asr} {A0 A1 A2 A3 : Asr} {b : Nat} {cs : List Value} (h : Star U w (A0 :: A1 :: A2 :: A3 :: boxA b cs :: L)) : Blk w b cs := (Star.get4 h).elim fun _ h => h.1.1
theorem Star.slw4 {U : Nat → Prop} {w : World} {L : List Asr} {A0 A1 A2 A3 : Asr} {α : Type} {enc : α → List Value} {sz : Nat} {a : Option Addr} {c : Nat} {xs : List α} (h : Star U w (A0 :: A1 :: A2 :: A3 :: slwA enc sz a c xs :: L)) : Slw enc sz w a c xs := (Star.get4 h).elim fun _ h => h.1.1
theorem Star.sli4 {U : Nat → Prop} {w : World} {L : List Asr} {A0 A1 A2 A3 : Asr} {α : Type} {enc : α → List Value} {sz : Nat} {a : Option Addr} {c : Nat} {xs : List α} (h : Star U w (A0 :: A1 :: A2 :: A3 :: sliA enc sz a c xs :: L)) : Sli enc sz w a c xs := (Star.get4 h).elim fun _ h => h.1.1
theorem Star.raw4 {U : Nat → Prop} {w : World} {L : List Asr} {A0 A1 A2 A3 : Asr} {b : Nat} {o : Obj} (h : Star U w (A0 :: A1 :: A2 :: A3 :: rawA b o :: L)) : Raw w b o := (Star.get4 h).elim fun _ h => h.1.1
theorem Star.map4 {U : Nat → Prop} {w : World} {L : List Asr} {A0 A1 A2 A3 : Asr} {κ : Type} [DecidableEq κ] {enc : κ → Value} {b : Nat} {l : List (κ × Value)} (h : Star U w (A0 :: A1 :: A2 :: A3 :: mapA enc b l :: L)) : MapAt enc w b l := (Star.get4 h).elim fun _ h => h.1.1
/-- A store into a box. -/
theorem Star.box4 {U : Nat → Prop} {w : World} {L : List Asr} {A0 A1 A2 A3 : Asr} {w' : World} {b : Nat} {cs cs' : List Value} (h : Star U w (A0 :: A1 :: A2 :: A3 :: boxA b cs :: L)) (hu : Upd (fun k => k = b) w w') (hb : Blk w' b cs') : Star U w' (A0 :: A1 :: A2 :: A3 :: boxA b cs' :: L) ∧ ∀ w0, Ext w0 w → (∀ k, U k → w0.heap.size ≤ k) → Ext w0 w' := by
  obtain ⟨F, ⟨_, rfl⟩, hU, hf⟩ := Star.split4 h
  exact ⟨hf hu ⟨hb, rfl⟩ (fun k hk => .inl hk), fun w0 hx h0 => hx.putU hu (fun k hk => h0 k (hU k hk))⟩
/-- An append. -/
theorem Star.app4 {U : Nat → Prop} {w : World} {L : List Asr} {A0 A1 A2 A3 : Asr} {w' : World} {α : Type} {enc : α → List Value} {sz : Nat} {a a' : Option Addr} {c c' : Nat} {xs xs' : List α} (h : Star U w (A0 :: A1 :: A2 :: A3 :: slwA enc sz a c xs :: L)) (hu : Upd (owns a) w w') (hb : Slw enc sz w' a' c' xs') (hf' : a' = a ∨ ∀ k, owns a' k → w.heap.size ≤ k) : Star U w' (A0 :: A1 :: A2 :: A3 :: slwA enc sz a' c' xs' :: L) ∧ ∀ w0, Ext w0 w → (∀ k, U k → w0.heap.size ≤ k) → Ext w0 w' := by
  obtain ⟨F, ⟨_, rfl⟩, hU, hf⟩ := Star.split4 h
  exact ⟨hf hu ⟨hb, rfl⟩ (fun k hk => by rcases hf' with rfl | h1; exact .inl hk; exact .inr (h1 k hk)), fun w0 hx h0 => hx.putU hu (fun k hk => h0 k (hU k hk))⟩
theorem Star.split5 {U : Nat → Prop} {w : World} {L : List Asr} {A0 A1 A2 A3 A4 A : Asr} (h : Star U w (A0 :: A1 :: A2 :: A3 :: A4 :: A :: L)) : ∃ F, A.P w F ∧ (∀ k, F k → U k) ∧
    ∀ {w' : World} {B : Asr} {F' : Nat → Prop}, Upd F w w' → B.P w' F' → (∀ k, F' k → F k ∨ w.heap.size ≤ k) → Star U w' (A0 :: A1 :: A2 :: A3 :: A4 :: B :: L) := Star.splitAt (L1 := [A0, A1, A2, A3, A4]) h
theorem Star.drop5 {U : Nat → Prop} {w : World} {L : List Asr} {A0 A1 A2 A3 A4 A : Asr} (h : Star U w (A0 :: A1 :: A2 :: A3 :: A4 :: A :: L)) : Star U w (A0 :: A1 :: A2 :: A3 :: A4 :: L) := Star.dropAt (L1 := [A0, A1, A2, A3, A4]) h
theorem Star.get5 {U : Nat → Prop} {w : World} {L : List Asr} {A0 A1 A2 A3 A4 A : Asr} (h : Star U w (A0 :: A1 :: A2 :: A3 :: A4 :: A :: L)) : ∃ F, A.P w F ∧ ∀ k, F k → U k := Star.getAt (L1 := [A0, A1, A2, A3, A4]) h
theorem Star.take5 {U : Nat → Prop} {w : World} {L : List Asr} {A0 A1 A2 A3 A4 A : Asr} (h : Star U w (A0 :: A1 :: A2 :: A3 :: A4 :: A :: L)) : ∃ F, A.P w F ∧ (∀ k, F k → U k) ∧ (∀ k, F k → k < w.heap.size) ∧ Star (fun k => U k ∧ ¬ F k) w (A0 :: A1 :: A2 :: A3 :: A4 :: L) := Star.takeAt (L1 := [A0, A1, A2, A3, A4]) h
theorem Star.splitR5 {U : Nat → Prop} {w : World} {L : List Asr} {A0 A1 A2 A3 A4 A : Asr} (h : Star U w (A0 :: A1 :: A2 :: A3 :: A4 :: A :: L)) : ∃ F, A.P w F ∧ (∀ k, F k → U k) ∧ Sep w (fun k => U k ∧ ¬ F k) (A0 :: A1 :: A2 :: A3 :: A4 :: L) ∧
    ∀ {w' : World} {B : Asr} {F' : Nat → Prop}, Upd F w w' → B.P w' F' → (∀ k, F' k → F k ∨ w.heap.size ≤ k) → Star U w' (A0 :: A1 :: A2 :: A3 :: A4 :: B :: L) := Star.splitRAt (L1 := [A0, A1, A2, A3, A4]) h
theorem Sep.sliD5 {U : Nat → Prop} {w : World} {L : List Asr} {A0 A1 A2 A3 A4 : Asr} {α : Type} {enc : α → List Value} {sz : Nat} {a : Option Addr} {c : Nat} {xs : List α} (h : Sep w U (A0 :: A1 :: A2 :: A3 :: A4 :: sliA enc sz a c xs :: L)) : ∀ k, ownsC a c k → U k := (Sep.getAt (L1 := [A0, A1, A2, A3, A4]) h).elim fun _ h k hk => h.2 k (by rw [h.1.2]; exact hk)
theorem Sep.slwD5 {U : Nat → Prop} {w : World} {L : List Asr} {A0 A1 A2 A3 A4 : Asr} {α : Type} {enc : α → List Value} {sz : Nat} {a : Option Addr} {c : Nat} {xs : List α} (h : Sep w U (A0 :: A1 :: A2 :: A3 :: A4 :: slwA enc sz a c xs :: L)) : ∀ k, ownsC a c k → U k := (Sep.getAt (L1 := [A0, A1, A2, A3, A4]) h).elim fun _ h k hk => h.2 k (by rw [h.1.2]; exact hk.1)
theorem Star.blk5 {U : Nat → Prop} {w : World} {L : List Asr} {A0 A1 A2 A3 A4 : Asr} {b : Nat} {cs : List Value} (h : Star U w (A0 :: A1 :: A2 :: A3 :: A4 :: boxA b cs :: L)) : Blk w b cs := (Star.get5 h).elim fun _ h => h.1.1
theorem Star.slw5 {U : Nat → Prop} {w : World} {L : List Asr} {A0 A1 A2 A3 A4 : Asr} {α : Type} {enc : α → List Value} {sz : Nat} {a : Option Addr} {c : Nat} {xs : List α} (h : Star U w (A0 :: A1 :: A2 :: A3 :: A4 :: slwA enc sz a c xs :: L)) : Slw enc sz w a c xs := (Star.get5 h).elim fun _ h => h.1.1
theorem Star.sli5 {U : Nat → Prop} {w : World} {L : List Asr} {A0 A1 A2 A3 A4 : Asr} {α : Type} {enc : α → List Value} {sz : Nat} {a : Option Addr} {c : Nat} {xs : List α} (h : Star U w (A0 :: A1 :: A2 :: A3 :: A4 :: sliA enc sz a c xs :: L)) : Sli enc sz w a c xs := (Star.get5 h).elim fun _ h => h.1.1
theorem Star.raw5 {U : Nat → Prop} {w : World} {L : List Asr} {A0 A1 A2 A3 A4 : Asr} {b : Nat} {o : Obj} (h : Star U w (A0 :: A1 :: A2 :: A3 :: A4 :: rawA b o :: L)) : Raw w b o := (Star.get5 h).elim fun _ h => h.1.1
theorem Star.map5 {U : Nat → Prop} {w : World} {L : List Asr} {A0 A1 A2 A3 A4 : Asr} {κ : Type} [DecidableEq κ] {enc : κ → Value} {b : Nat} {l : List (κ × Value)} (h : Star U w (A0 :: A1 :: A2 :: A3 :: A4 :: mapA enc b l :: L)) : MapAt enc w b l := (Star.get5 h).elim fun _ h => h.1.1
/-- A store into a box. -/
theorem Star.box5 {U : Nat → Prop} {w : World} {L : List Asr} {A0 A1 A2 A3 A4 : Asr} {w' : World} {b : Nat} {cs cs' : List Value} (h : Star U w (A0 :: A1 :: A2 :: A3 :: A4 :: boxA b cs :: L)) (hu : Upd (fun k => k = b) w w') (hb : Blk w' b cs') : Star U w' (A0 :: A1 :: A2 :: A3 :: A4 :: boxA b cs' :: L) ∧ ∀ w0, Ext w0 w → (∀ k, U k → w0.heap.size ≤ k) → Ext w0 w' := by
  obtain ⟨F, ⟨_, rfl⟩, hU, hf⟩ := Star.split5 h
  exact ⟨hf hu ⟨hb, rfl⟩ (fun k hk => .inl hk), fun w0 hx h0 => hx.putU hu (fun k hk => h0 k (hU k hk))⟩
/-- An append. -/
theorem Star.app5 {U : Nat → Prop} {w : World} {L : List Asr} {A0 A1 A2 A3 A4 : Asr} {w' : World} {α : Type} {enc : α → List Value} {sz : Nat} {a a' : Option Addr} {c c' : Nat} {xs xs' : List α} (h : Star U w (A0 :: A1 :: A2 :: A3 :: A4 :: slwA enc sz a c xs :: L)) (hu : Upd (owns a) w w') (hb : Slw enc sz w' a' c' xs') (hf' : a' = a ∨ ∀ k, owns a' k → w.heap.size ≤ k) : Star U w' (A0 :: A1 :: A2 :: A3 :: A4 :: slwA enc sz a' c' xs' :: L) ∧ ∀ w0, Ext w0 w → (∀ k, U k → w0.heap.size ≤ k) → Ext w0 w' := by
  obtain ⟨F, ⟨_, rfl⟩, hU, hf⟩ := Star.split5 h
  exact ⟨hf hu ⟨hb, rfl⟩ (fun k hk => by rcases hf' with rfl | h1; exact .inl hk; exact .inr (h1 k hk)), fun w0 hx h0 => hx.putU hu (fun k hk => h0 k (hU k hk))⟩
theorem Star.split6 {U : Nat → Prop} {w : World} {L : List Asr} {A0 A1 A2 A3 A4 A5 A : Asr} (h : Star U w (A0 :: A1 :: A2 :: A3 :: A4 :: A5 :: A :: L)) : ∃ F, A.P w F ∧ (∀ k, F k → U k) ∧
    ∀ {w' : World} {B : Asr} {F' : Nat → Prop}, Upd F w w' → B.P w' F' → (∀ k, F' k → F k ∨ w.heap.size ≤ k) → Star U w' (A0 :: A1 :: A2 :: A3 :: A4 :: A5 :: B :: L) := Star.splitAt (L1 := [A0, A1, A2, A3, A4, A5]) h
theorem Star.drop6 {U : Nat → Prop} {w : World} {L : List Asr} {A0 A1 A2 A3 A4 A5 A : Asr} (h : Star U w (A0 :: A1 :: A2 :: A3 :: A4 :: A5 :: A :: L)) : Star U w (A0 :: A1 :: A2 :: A3 :: A4 :: A5 :: L) := Star.dropAt (L1 := [A0, A1, A2, A3, A4, A5]) h
theorem Star.get6 {U : Nat → Prop} {w : World} {L : List Asr} {A0 A1 A2 A3 A4 A5 A : Asr} (h : Star U w (A0 :: A1 :: A2 :: A3 :: A4 :: A5 :: A :: L)) : ∃ F, A.P w F ∧ ∀ k, F k → U k := Star.getAt (L1 := [A0, A1, A2, A3, A4, A5]) h
theorem Star.take6 {U : Nat → Prop} {w : World} {L : List Asr} {A0 A1 A2 A3 A4 A5 A : Asr} (h : Star U w (A0 :: A1 :: A2 :: A3 :: A4 :: A5 :: A :: L)) : ∃ F, A.P w F ∧ (∀ k, F k → U k) ∧ (∀ k, F k → k < w.heap.size) ∧ Star (fun k => U k ∧ ¬ F k) w (A0 :: A1 :: A2 :: A3 :: A4 :: A5 :: L) := Star.takeAt (L1 := [A0, A1, A2, A3, A4, A5]) h
theorem Star.splitR6 {U : Nat → Prop} {w : World} {L : List Asr} {A0 A1 A2 A3 A4 A5 A : Asr} (h : Star U w (A0 :: A1 :: A2 :: A3 :: A4 :: A5 :: A :: L)) : ∃ F, A.P w F ∧ (∀ k, F k → U k) ∧ Sep w (fun k => U k ∧ ¬ F k) (A0 :: A1 :: A2 :: A3 :: A4 :: A5 :: L) ∧
    ∀ {w' : World} {B : Asr} {F' : Nat → Prop}, Upd F w w' → B.P w' F' → (∀ k, F' k → F k ∨ w.heap.size ≤ k) → Star U w' (A0 :: A1 :: A2 :: A3 :: A4 :: A5 :: B :: L) := Star.splitRAt (L1 := [A0, A1, A2, A3, A4, A5]) h
theorem Sep.sliD6 {U : Nat → Prop} {w : World} {L : List Asr} {A0 A1 A2 A3 A4 A5 : Asr} {α : Type} {enc : α → List Value} {sz : Nat} {a : Option Addr} {c : Nat} {xs : List α} (h : Sep w U (A0 :: A1 :: A2 :: A3 :: A4 :: A5 :: sliA enc sz a c xs :: L)) : ∀ k, ownsC a c k → U k := (Sep.getAt (L1 := [A0, A1, A2, A3, A4, A5]) h).elim fun _ h k hk => h.2 k (by rw [h.1.2]; exact hk)
theorem Sep.slwD6 {U : Nat → Prop} {w : World} {L : List Asr} {A0 A1 A2 A3 A4 A5 : Asr} {α : Type} {enc : α → List Value} {sz : Nat} {a : Option Addr} {c : Nat} {xs : List α} (h : Sep w U (A0 :: A1 :: A2 :: A3 :: A4 :: A5 :: slwA enc sz a c xs :: L)) : ∀ k, ownsC a c k → U k := (Sep.getAt (L1 := [A0, A1, A2, A3, A4, A5]) h).elim fun _ h k hk => h.2 k (by rw [h.1.2]; exact hk.1)
theorem Star.blk6 {U : Nat → Prop} {w : World} {L : List Asr} {A0 A1 A2 A3 A4 A5 : Asr} {b : Nat} {cs : List Value} (h : Star U w (A0 :: A1 :: A2 :: A3 :: A4 :: A5 :: boxA b cs :: L)) : Blk w b cs := (Star.get6 h).elim fun _ h => h.1.1
theorem Star.slw6 {U : Nat → Prop} {w : World} {L : List Asr} {A0 A1 A2 A3 A4 A5 : Asr} {α : Type} {enc : α → List Value} {sz : Nat} {a : Option Addr} {c : Nat} {xs : List α} (h : Star U w (A0 :: A1 :: A2 :: A3 :: A4 :: A5 :: slwA enc sz a c xs :: L)) : Slw enc sz w a c xs := (Star.get6 h).elim fun _ h => h.1.1
theorem Star.sli6 {U : Nat → Prop} {w : World} {L : List Asr} {A0 A1 A2 A3 A4 A5 : Asr} {α : Type} {enc : α → List Value} {sz : Nat} {a : Option Addr} {c : Nat} {xs : List α} (h : Star U w (A0 :: A1 :: A2 :: A3 :: A4 :: A5 :: sliA enc sz a c xs :: L)) : Sli enc sz w a c xs := (Star.get6 h).elim fun _ h => h.1.1
theorem Star.raw6 {U : Nat → Prop} {w : World} {L : List Asr} {A0 A1 A2 A3 A4 A5 : Asr} {b : Nat} {o : Obj} (h : Star U w (A0 :: A1 :: A2 :: A3 :: A4 :: A5 :: rawA b o :: L)) : Raw w b o := (Star.get6 h).elim fun _ h => h.1.1
theorem Star.map6 {U : Nat → Prop} {w : World} {L : List Asr} {A0 A1 A2 A3 A4 A5 : Asr} {κ : Type} [DecidableEq κ] {enc : κ → Value} {b : Nat} {l : List (κ × Value)} (h : Star U w (A0 :: A1 :: A2 :: A3 :: A4 :: A5 :: mapA enc b l :: L)) : MapAt enc w b l := (Star.get6 h).elim fun _ h => h.1.1
/-- A store into a box. -/
theorem Star.box6 {U : Nat → Prop} {w : World} {L : List Asr} {A0 A1 A2 A3 A4 A5 : Asr} {w' : World} {b : Nat} {cs cs' : List Value} (h : Star U w (A0 :: A1 :: A2 :: A3 :: A4 :: A5 :: boxA b cs :: L)) (hu : Upd (fun k => k = b) w w') (hb : Blk w' b cs') : Star U w' (A0 :: A1 :: A2 :: A3 :: A4 :: A5 :: boxA b cs' :: L) ∧ ∀ w0, Ext w0 w → (∀ k, U k → w0.heap.size ≤ k) → Ext w0 w' := by
  obtain ⟨F, ⟨_, rfl⟩, hU, hf⟩ := Star.split6 h
  exact ⟨hf hu ⟨hb, rfl⟩ (fun k hk => .inl hk), fun w0 hx h0 => hx.putU hu (fun k hk => h0 k (hU k hk))⟩
/-- An append. -/
theorem Star.app6 {U : Nat → Prop} {w : World} {L : List Asr} {A0 A1 A2 A3 A4 A5 : Asr} {w' : World} {α : Type} {enc : α → List Value} {sz : Nat} {a a' : Option Addr} {c c' : Nat} {xs xs' : List α} (h : Star U w (A0 :: A1 :: A2 :: A3 :: A4 :: A5 :: slwA enc sz a c xs :: L)) (hu : Upd (owns a) w w') (hb : Slw enc sz w' a' c' xs') (hf' : a' = a ∨ ∀ k, owns a' k → w.heap.size ≤ k) : Star U w' (A0 :: A1 :: A2 :: A3 :: A4 :: A5 :: slwA enc sz a' c' xs' :: L) ∧ ∀ w0, Ext w0 w → (∀ k, U k → w0.heap.size ≤ k) → Ext w0 w' := by
  obtain ⟨F, ⟨_, rfl⟩, hU, hf⟩ := Star.split6 h
  exact ⟨hf hu ⟨hb, rfl⟩ (fun k hk => by rcases hf' with rfl | h1; exact .inl hk; exact .inr (h1 k hk)), fun w0 hx h0 => hx.putU hu (fun k hk => h0 k (hU k hk))⟩
theorem Star.split7 {U : Nat → Prop} {w : World} {L : List Asr} {A0 A1 A2 A3 A4 A5 A6 A : Asr} (h : Star U w (A0 :: A1 :: A2 :: A3 :: A4 :: A5 :: A6 :: A :: L)) : ∃ F, A.P w F ∧ (∀ k, F k → U k) ∧
    ∀ {w' : World} {B : Asr} {F' : Nat → Prop}, Upd F w w' → B.P w' F' → (∀ k, F' k → F k ∨ w.heap.size ≤ k) → Star U w' (A0 :: A1 :: A2 :: A3 :: A4 :: A5 :: A6 :: B :: L) := Star.splitAt (L1 := [A0, A1, A2, A3, A4, A5, A6]) h
theorem Star.drop7 {U : Nat → Prop} {w : World} {L : List Asr} {A0 A1 A2 A3 A4 A5 A6 A : Asr} (h : Star U w (A0 :: A1 :: A2 :: A3 :: A4 :: A5 :: A6 :: A :: L)) : Star U w (A0 :: A1 :: A2 :: A3 :: A4 :: A5 :: A6 :: L) := Star.dropAt (L1 := [A0, A1, A2, A3, A4, A5, A6]) h
theorem Star.get7 {U : Nat → Prop} {w : World} {L : List Asr} {A0 A1 A2 A3 A4 A5 A6 A : Asr} (h : Star U w (A0 :: A1 :: A2 :: A3 :: A4 :: A5 :: A6 :: A :: L)) : ∃ F, A.P w F ∧ ∀ k, F k → U k := Star.getAt (L1 := [A0, A1, A2, A3, A4, A5, A6]) h
theorem Star.take7 {U : Nat → Prop} {w : World} {L : List Asr} {A0 A1 A2 A3 A4 A5 A6 A : Asr} (h : Star U w (A0 :: A1 :: A2 :: A3 :: A4 :: A5 :: A6 :: A :: L)) : ∃ F, A.P w F ∧ (∀ k, F k → U k) ∧ (∀ k, F k → k < w.heap.size) ∧ Star (fun k => U k ∧ ¬ F k) w (A0 :: A1 :: A2 :: A3 :: A4 :: A5 :: A6 :: L) := Star.takeAt (L1 := [A0, A1, A2, A3, A4, A5, A6]) h
theorem Star.splitR7 {U : Nat → Prop} {w : World} {L : List Asr} {A0 A1 A2 A3 A4 A5 A6 A : Asr} (h : Star U w (A0 :: A1 :: A2 :: A3 :: A4 :: A5 :: A6 :: A :: L)) : ∃ F, A.P w F ∧ (∀ k, F k → U k) ∧ Sep w (fun k => U k ∧ ¬ F k) (A0 :: A1 :: A2 :: A3 :: A4 :: A5 :: A6 :: L) ∧
    ∀ {w' : World} {B : Asr} {F' : Nat → Prop}, Upd F w w' → B.P w' F' → (∀ k, F' k → F k ∨ w.heap.size ≤ k) → Star U w' (A0 :: A1 :: A2 :: A3 :: A4 :: A5 :: A6 :: B :: L) := Star.splitRAt (L1 := [A0, A1, A2, A3, A4, A5, A6]) h
theorem Sep.sliD7 {U : Nat → Prop} {w : World} {L : List Asr} {A0 A1 A2 A3 A4 A5 A6 : Asr} {α : Type} {enc : α → List Value} {sz : Nat} {a : Option Addr} {c : Nat} {xs : List α} (h : Sep w U (A0 :: A1 :: A2 :: A3 :: A4 :: A5 :: A6 :: sliA enc sz a c xs :: L)) : ∀ k, ownsC a c k → U k := (Sep.getAt (L1 := [A0, A1, A2, A3, A4, A5, A6]) h).elim fun _ h k hk => h.2 k (by rw [h.1.2]; exact hk)
theorem Sep.slwD7 {U : Nat → Prop} {w : World} {L : List Asr} {A0 A1 A2 A3 A4 A5 A6 : Asr} {α : Type} {enc : α → List Value} {sz : Nat} {a : Option Addr} {c : Nat} {xs : List α} (h : Sep w U (A0 :: A1 :: A2 :: A3 :: A4 :: A5 :: A6 :: slwA enc sz a c xs :: L)) : ∀ k, ownsC a c k → U k := (Sep.getAt (L1 := [A0, A1, A2, A3, A4, A5, A6]) h).elim fun _ h k hk => h.2 k (by rw [h.1.2]; exact hk.1)
theorem Star.blk7 {U : Nat → Prop} {w : World} {L : List Asr} {A0 A1 A2 A3 A4 A5 A6 : Asr} {b : Nat} {cs : List Value} (h : Star U w (A0 :: A1 :: A2 :: A3 :: A4 :: A5 :: A6 :: boxA b cs :: L)) : Blk w b cs := (Star.get7 h).elim fun _ h => h.1.1
theorem Star.slw7 {U : Nat → Prop} {w : World} {L : List Asr} {A0 A1 A2 A3 A4 A5 A6 : Asr} {α : Type} {enc : α → List Value} {sz : Nat} {a : Option Addr} {c : Nat} {xs : List α} (h : Star U w (A0 :: A1 :: A2 :: A3 :: A4 :: A5 :: A6 :: slwA enc sz a c xs :: L)) : Slw enc sz w a c xs := (Star.get7 h).elim fun _ h => h.1.1
theorem Star.sli7 {U : Nat → Prop} {w : World} {L : List Asr} {A0 A1 A2 A3 A4 A5 A6 : Asr} {α : Type} {enc : α → List Value} {sz : Nat} {a : Option Addr} {c : Nat} {xs : List α} (h : Star U w (A0 :: A1 :: A2 :: A3 :: A4 :: A5 :: A6 :: sliA enc sz a c xs :: L)) : Sli enc sz w a c xs := (Star.get7 h).elim fun _ h => h.1.1
theorem Star.raw7 {U : Nat → Prop} {w : World} {L : List Asr} {A0 A1 A2 A3 A4 A5 A6 : Asr} {b : Nat} {o : Obj} (h : Star U w (A0 :: A1 :: A2 :: A3 :: A4 :: A5 :: A6 :: rawA b o :: L)) : Raw w b o := (Star.get7 h).elim fun _ h => h.1.1
theorem Star.map7 {U : Nat → Prop} {w : World} {L : List Asr} {A0 A1 A2 A3 A4 A5 A6 : Asr} {κ : Type} [DecidableEq κ] {enc : κ → Value} {b : Nat} {l : List (κ × Value)} (h : Star U w (A0 :: A1 :: A2 :: A3 :: A4 :: A5 :: A6 :: mapA enc b l :: L)) : MapAt enc w b l := (Star.get7 h).elim fun _ h => h.1.1
/-- A store into a box. -/
theorem Star.box7 {U : Nat → Prop} {w : World} {L : List Asr} {A0 A1 A2 A3 A4 A5 A6 : Asr} {w' : World} {b : Nat} {cs cs' : List Value} (h : Star U w (A0 :: A1 :: A2 :: A3 :: A4 :: A5 :: A6 :: boxA b cs :: L)) (hu : Upd (fun k => k = b) w w') (hb : Blk w' b cs') : Star U w' (A0 :: A1 :: A2 :: A3 :: A4 :: A5 :: A6 :: boxA b cs' :: L) ∧ ∀ w0, Ext w0 w → (∀ k, U k → w0.heap.size ≤ k) → Ext w0 w' := by
  obtain ⟨F, ⟨_, rfl⟩, hU, hf⟩ := Star.split7 h
  exact ⟨hf hu ⟨hb, rfl⟩ (fun k hk => .inl hk), fun w0 hx h0 => hx.putU hu (fun k hk => h0 k (hU k hk))⟩
/-- An append. -/
theorem Star.app7 {U : Nat → Prop} {w : World} {L : List Asr} {A0 A1 A2 A3 A4 A5 A6 : Asr} {w' : World} {α : Type} {enc : α → List Value} {sz : Nat} {a a' : Option Addr} {c c' : Nat} {xs xs' : List α} (h : Star U w (A0 :: A1 :: A2 :: A3 :: A4 :: A5 :: A6 :: slwA enc sz a c xs :: L)) (hu : Upd (owns a) w w') (hb : Slw enc sz w' a' c' xs') (hf' : a' = a ∨ ∀ k, owns a' k → w.heap.size ≤ k) : Star U w' (A0 :: A1 :: A2 :: A3 :: A4 :: A5 :: A6 :: slwA enc sz a' c' xs' :: L) ∧ ∀ w0, Ext w0 w → (∀ k, U k → w0.heap.size ≤ k) → Ext w0 w' := by
  obtain ⟨F, ⟨_, rfl⟩, hU, hf⟩ := Star.split7 h
  exact ⟨hf hu ⟨hb, rfl⟩ (fun k hk => by rcases hf' with rfl | h1; exact .inl hk; exact .inr (h1 k hk)), fun w0 hx h0 => hx.putU hu (fun k hk => h0 k (hU k hk))⟩
theorem Star.split8 {U : Nat → Prop} {w : World} {L : List Asr} {A0 A1 A2 A3 A4 A5 A6 A7 A : Asr} (h : Star U w (A0 :: A1 :: A2 :: A3 :: A4 :: A5 :: A6 :: A7 :: A :: L)) : ∃ F, A.P w F ∧ (∀ k, F k → U k) ∧
    ∀ {w' : World} {B : Asr} {F' : Nat → Prop}, Upd F w w' → B.P w' F' → (∀ k, F' k → F k ∨ w.heap.size ≤ k) → Star U w' (A0 :: A1 :: A2 :: A3 :: A4 :: A5 :: A6 :: A7 :: B :: L) := Star.splitAt (L1 := [A0, A1, A2, A3, A4, A5, A6, A7]) h
theorem Star.drop8 {U : Nat → Prop} {w : World} {L : List Asr} {A0 A1 A2 A3 A4 A5 A6 A7 A : Asr} (h : Star U w (A0 :: A1 :: A2 :: A3 :: A4 :: A5 :: A6 :: A7 :: A :: L)) : Star U w (A0 :: A1 :: A2 :: A3 :: A4 :: A5 :: A6 :: A7 :: L) := Star.dropAt (L1 := [A0, A1, A2, A3, A4, A5, A6, A7]) h
theorem Star.get8 {U : Nat → Prop} {w : World} {L : List Asr} {A0 A1 A2 A3 A4 A5 A6 A7 A : Asr} (h : Star U w (A0 :: A1 :: A2 :: A3 :: A4 :: A5 :: A6 :: A7 :: A :: L)) : ∃ F, A.P w F ∧ ∀ k, F k → U k := Star.getAt (L1 := [A0, A1, A2, A3, A4, A5, A6, A7]) h
theorem Star.take8 {U : Nat → Prop} {w : World} {L : List Asr} {A0 A1 A2 A3 A4 A5 A6 A7 A : Asr} (h : Star U w (A0 :: A1 :: A2 :: A3 :: A4 :: A5 :: A6 :: A7 :: A :: L)) : ∃ F, A.P w F ∧ (∀ k, F k → U k) ∧ (∀ k, F k → k < w.heap.size) ∧ Star (fun k => U k ∧ ¬ F k) w (A0 :: A1 :: A2 :: A3 :: A4 :: A5 :: A6 :: A7 :: L) := Star.takeAt (L1 := [A0, A1, A2, A3, A4, A5, A6, A7]) h
theorem Star.splitR8 {U : Nat → Prop} {w : World} {L : List Asr} {A0 A1 A2 A3 A4 A5 A6 A7 A : Asr} (h : Star U w (A0 :: A1 :: A2 :: A3 :: A4 :: A5 :: A6 :: A7 :: A :: L)) : ∃ F, A.P w F ∧ (∀ k, F k → U k) ∧ Sep w (fun k => U k ∧ ¬ F k) (A0 :: A1 :: A2 :: A3 :: A4 :: A5 :: A6 :: A7 :: L) ∧
    ∀ {w' : World} {B : Asr} {F' : Nat → Prop}, Upd F w w' → B.P w' F' → (∀ k, F' k → F k ∨ w.heap.size ≤ k) → Star U w' (A0 :: A1 :: A2 :: A3 :: A4 :: A5 :: A6 :: A7 :: B :: L) := Star.splitRAt (L1 := [A0, A1, A2, A3, A4, A5, A6, A7]) h
theorem Sep.sliD8 {U : Nat → Prop} {w : World} {L : List Asr} {A0 A1 A2 A3 A4 A5 A6 A7 : Asr} {α : Type} {enc : α → List Value} {sz : Nat} {a : Option Addr} {c : Nat} {xs : List α} (h : Sep w U (A0 :: A1 :: A2 :: A3 :: A4 :: A5 :: A6 :: A7 :: sliA enc sz a c xs :: L)) : ∀ k, ownsC a c k → U k := (Sep.getAt (L1 := [A0, A1, A2, A3, A4, A5, A6, A7]) h).elim fun _ h k hk => h.2 k (by rw [h.1.2]; exact hk)
theorem Sep.slwD8 {U : Nat → Prop} {w : World} {L : List Asr} {A0 A1 A2 A3 A4 A5 A6 A7 : Asr} {α : Type} {enc : α → List Value} {sz : Nat} {a : Option Addr} {c : Nat} {xs : List α} (h : Sep w U (A0 :: A1 :: A2 :: A3 :: A4 :: A5 :: A6 :: A7 :: slwA enc sz a c xs :: L)) : ∀ k, ownsC a c k → U k := (Sep.getAt (L1 := [A0, A1, A2, A3, A4, A5, A6, A7]) h).elim fun _ h k hk => h.2 k (by rw [h.1.2]; exact hk.1)
theorem Star.blk8 {U : Nat → Prop} {w : World} {L : List Asr} {A0 A1 A2 A3 A4 A5 A6 A7 : Asr} {b : Nat} {cs : List Value} (h : Star U w (A0 :: A1 :: A2 :: A3 :: A4 :: A5 :: A6 :: A7 :: boxA b cs :: L)) : Blk w b cs := (Star.get8 h).elim fun _ h => h.1.1
theorem Star.slw8 {U : Nat → Prop} {w : World} {L : List Asr} {A0 A1 A2 A3 A4 A5 A6 A7 : Asr} {α : Type} {enc : α → List Value} {sz : Nat} {a : Option Addr} {c : Nat} {xs : List α} (h : Star U w (A0 :: A1 :: A2 :: A3 :: A4 :: A5 :: A6 :: A7 :: slwA enc sz a c xs :: L)) : Slw enc sz w a c xs := (Star.get8 h).elim fun _ h => h.1.1
theorem Star.sli8 {U : Nat → Prop} {w : World} {L : List Asr} {A0 A1 A2 A3 A4 A5 A6 A7 : Asr} {α : Type} {enc : α → List Value} {sz : Nat} {a : Option Addr} {c : Nat} {xs : List α} (h : Star U w (A0 :: A1 :: A2 :: A3 :: A4 :: A5 :: A6 :: A7 :: sliA enc sz a c xs :: L)) : Sli enc sz w a c xs := (Star.get8 h).elim fun _ h => h.1.1
theorem Star.raw8 {U : Nat → Prop} {w : World} {L : List Asr} {A0 A1 A2 A3 A4 A5 A6 A7 : Asr} {b : Nat} {o : Obj} (h : Star U w (A0 :: A1 :: A2 :: A3 :: A4 :: A5 :: A6 :: A7 :: rawA b o :: L)) : Raw w b o := (Star.get8 h).elim fun _ h => h.1.1
theorem Star.map8 {U : Nat → Prop} {w : World} {L : List Asr} {A0 A1 A2 A3 A4 A5 A6 A7 : Asr} {κ : Type} [DecidableEq κ] {enc : κ → Value} {b : Nat} {l : List (κ × Value)} (h : Star U w (A0 :: A1 :: A2 :: A3 :: A4 :: A5 :: A6 :: A7 :: mapA enc b l :: L)) : MapAt enc w b l := (Star.get8 h).elim fun _ h => h.1.1
/-- A store into a box. -/
theorem Star.box8 {U : Nat → Prop} {w : World} {L : List Asr} {A0 A1 A2 A3 A4 A5 A6 A7 : Asr} {w' : World} {b : Nat} {cs cs' : List Value} (h : Star U w (A0 :: A1 :: A2 :: A3 :: A4 :: A5 :: A6 :: A7 :: boxA b cs :: L)) (hu : Upd (fun k => k = b) w w') (hb : Blk w' b cs') : Star U w' (A0 :: A1 :: A2 :: A3 :: A4 :: A5 :: A6 :: A7 :: boxA b cs' :: L) ∧ ∀ w0, Ext w0 w → (∀ k, U k → w0.heap.size ≤ k) → Ext w0 w' := by
  obtain ⟨F, ⟨_, rfl⟩, hU, hf⟩ := Star.split8 h
  exact ⟨hf hu ⟨hb, rfl⟩ (fun k hk => .inl hk), fun w0 hx h0 => hx.putU hu (fun k hk => h0 k (hU k hk))⟩
/-- An append. -/
theorem Star.app8 {U : Nat → Prop} {w : World} {L : List Asr} {A0 A1 A2 A3 A4 A5 A6 A7 : Asr} {w' : World} {α : Type} {enc : α → List Value} {sz : Nat} {a a' : Option Addr} {c c' : Nat} {xs xs' : List α} (h : Star U w (A0 :: A1 :: A2 :: A3 :: A4 :: A5 :: A6 :: A7 :: slwA enc sz a c xs :: L)) (hu : Upd (owns a) w w') (hb : Slw enc sz w' a' c' xs') (hf' : a' = a ∨ ∀ k, owns a' k → w.heap.size ≤ k) : Star U w' (A0 :: A1 :: A2 :: A3 :: A4 :: A5 :: A6 :: A7 :: slwA enc sz a' c' xs' :: L) ∧ ∀ w0, Ext w0 w → (∀ k, U k → w0.heap.size ≤ k) → Ext w0 w' := by
  obtain ⟨F, ⟨_, rfl⟩, hU, hf⟩ := Star.split8 h
  exact ⟨hf hu ⟨hb, rfl⟩ (fun k hk => by rcases hf' with rfl | h1; exact .inl hk; exact .inr (h1 k hk)), fun w0 hx h0 => hx.putU hu (fun k hk => h0 k (hU k hk))⟩
theorem Star.split9 {U : Nat → Prop} {w : World} {L : List Asr} {A0 A1 A2 A3 A4 A5 A6 A7 A8 A : Asr} (h : Star U w (A0 :: A1 :: A2 :: A3 :: A4 :: A5 :: A6 :: A7 :: A8 :: A :: L)) : ∃ F, A.P w F ∧ (∀ k, F k → U k) ∧
    ∀ {w' : World} {B : Asr} {F' : Nat → Prop}, Upd F w w' → B.P w' F' → (∀ k, F' k → F k ∨ w.heap.size ≤ k) → Star U w' (A0 :: A1 :: A2 :: A3 :: A4 :: A5 :: A6 :: A7 :: A8 :: B :: L) := Star.splitAt (L1 := [A0, A1, A2, A3, A4, A5, A6, A7, A8]) h
theorem Star.drop9 {U : Nat → Prop} {w : World} {L : List Asr} {A0 A1 A2 A3 A4 A5 A6 A7 A8 A : Asr} (h : Star U w (A0 :: A1 :: A2 :: A3 :: A4 :: A5 :: A6 :: A7 :: A8 :: A :: L)) : Star U w (A0 :: A1 :: A2 :: A3 :: A4 :: A5 :: A6 :: A7 :: A8 :: L) := Star.dropAt (L1 := [A0, A1, A2, A3, A4, A5, A6, A7, A8]) h
theorem Star.get9 {U : Nat → Prop} {w : World} {L : List Asr} {A0 A1 A2 A3 A4 A5 A6 A7 A8 A : Asr} (h : Star U w (A0 :: A1 :: A2 :: A3 :: A4 :: A5 :: A6 :: A7 :: A8 :: A :: L)) : ∃ F, A.P w F ∧ ∀ k, F k → U k := Star.getAt (L1 := [A0, A1, A2, A3, A4, A5, A6, A7, A8]) h
theorem Star.take9 {U : Nat → Prop} {w : World} {L : List Asr} {A0 A1 A2 A3 A4 A5 A6 A7 A8 A : Asr} (h : Star U w (A0 :: A1 :: A2 :: A3 :: A4 :: A5 :: A6 :: A7 :: A8 :: A :: L)) : ∃ F, A.P w F ∧ (∀ k, F k → U k) ∧ (∀ k, F k → k < w.heap.size) ∧ Star (fun k => U k ∧ ¬ F k) w (A0 :: A1 :: A2 :: A3 :: A4 :: A5 :: A6 :: A7 :: A8 :: L) := Star.takeAt (L1 := [A0, A1, A2, A3, A4, A5, A6, A7, A8]) h
theorem Star.splitR9 {U : Nat → Prop} {w : World} {L : List Asr} {A0 A1 A2 A3 A4 A5 A6 A7 A8 A : Asr} (h : Star U w (A0 :: A1 :: A2 :: A3 :: A4 :: A5 :: A6 :: A7 :: A8 :: A :: L)) : ∃ F, A.P w F ∧ (∀ k, F k → U k) ∧ Sep w (fun k => U k ∧ ¬ F k) (A0 :: A1 :: A2 :: A3 :: A4 :: A5 :: A6 :: A7 :: A8 :: L) ∧
    ∀ {w' : World} {B : Asr} {F' : Nat → Prop}, Upd F w w' → B.P w' F' → (∀ k, F' k → F k ∨ w.heap.size ≤ k) → Star U w' (A0 :: A1 :: A2 :: A3 :: A4 :: A5 :: A6 :: A7 :: A8 :: B :: L) := Star.splitRAt (L1 := [A0, A1, A2, A3, A4, A5, A6, A7, A8]) h
theorem Sep.sliD9 {U : Nat → Prop} {w : World} {L : List Asr} {A0 A1 A2 A3 A4 A5 A6 A7 A8 : Asr} {α : Type} {enc : α → List Value} {sz : Nat} {a : Option Addr} {c : Nat} {xs : List α} (h : Sep w U (A0 :: A1 :: A2 :: A3 :: A4 :: A5 :: A6 :: A7 :: A8 :: sliA enc sz a c xs :: L)) : ∀ k, ownsC a c k → U k := (Sep.getAt (L1 := [A0, A1, A2, A3, A4, A5, A6, A7, A8]) h).elim fun _ h k hk => h.2 k (by rw [h.1.2]; exact hk)
theorem Sep.slwD9 {U : Nat → Prop} {w : World} {L : List Asr} {A0 A1 A2 A3 A4 A5 A6 A7 A8 : Asr} {α : Type} {enc : α → List Value} {sz : Nat} {a : Option Addr} {c : Nat} {xs : List α} (h : Sep w U (A0 :: A1 :: A2 :: A3 :: A4 :: A5 :: A6 :: A7 :: A8 :: slwA enc sz a c xs :: L)) : ∀ k, ownsC a c k → U k := (Sep.getAt (L1 := [A0, A1, A2, A3, A4, A5, A6, A7, A8]) h).elim fun _ h k hk => h.2 k (by rw [h.1.2]; exact hk.1)
theorem Star.blk9 {U : Nat → Prop} {w : World} {L : List Asr} {A0 A1 A2 A3 A4 A5 A6 A7 A8 : Asr} {b : Nat} {cs : List Value} (h : Star U w (A0 :: A1 :: A2 :: A3 :: A4 :: A5 :: A6 :: A7 :: A8 :: boxA b cs :: L)) : Blk w b cs := (Star.get9 h).elim fun _ h => h.1.1
theorem Star.slw9 {U : Nat → Prop} {w : World} {L : List Asr} {A0 A1 A2 A3 A4 A5 A6 A7 A8 : Asr} {α : Type} {enc : α → List Value} {sz : Nat} {a : Option Addr} {c : Nat} {xs : List α} (h : Star U w (A0 :: A1 :: A2 :: A3 :: A4 :: A5 :: A6 :: A7 :: A8 :: slwA enc sz a c xs :: L)) : Slw enc sz w a c xs := (Star.get9 h).elim fun _ h => h.1.1
theorem Star.sli9 {U : Nat → Prop} {w : World} {L : List Asr} {A0 A1 A2 A3 A4 A5 A6 A7 A8 : Asr} {α : Type} {enc : α → List Value} {sz : Nat} {a : Option Addr} {c : Nat} {xs : List α} (h : Star U w (A0 :: A1 :: A2 :: A3 :: A4 :: A5 :: A6 :: A7 :: A8 :: sliA enc sz a c xs :: L)) : Sli enc sz w a c xs := (Star.get9 h).elim fun _ h => h.1.1
theorem Star.raw9 {U : Nat → Prop} {w : World} {L : List Asr} {A0 A1 A2 A3 A4 A5 A6 A7 A8 : Asr} {b : Nat} {o : Obj} (h : Star U w (A0 :: A1 :: A2 :: A3 :: A4 :: A5 :: A6 :: A7 :: A8 :: rawA b o :: L)) : Raw w b o := (Star.get9 h).elim fun _ h => h.1.1
theorem Star.map9 {U : Nat → Prop} {w : World} {L : List Asr} {A0 A1 A2 A3 A4 A5 A6 A7 A8 : Asr} {κ : Type} [DecidableEq κ] {enc : κ → Value} {b : Nat} {l : List (κ × Value)} (h : Star U w (A0 :: A1 :: A2 :: A3 :: A4 :: A5 :: A6 :: A7 :: A8 :: mapA enc b l :: L)) : MapAt enc w b l := (Star.get9 h).elim fun _ h => h.1.1
/-- A store into a box. -/
theorem Star.box9 {U : Nat → Prop} {w : World} {L : List Asr} {A0 A1 A2 A3 A4 A5 A6 A7 A8 : Asr} {w' : World} {b : Nat} {cs cs' : List Value} (h : Star U w (A0 :: A1 :: A2 :: A3 :: A4 :: A5 :: A6 :: A7 :: A8 :: boxA b cs :: L)) (hu : Upd (fun k => k = b) w w') (hb : Blk w' b cs') : Star U w' (A0 :: A1 :: A2 :: A3 :: A4 :: A5 :: A6 :: A7 :: A8 :: boxA b cs' :: L) ∧ ∀ w0, Ext w0 w → (∀ k, U k → w0.heap.size ≤ k) → Ext w0 w' := by
  obtain ⟨F, ⟨_, rfl⟩, hU, hf⟩ := Star.split9 h
  exact ⟨hf hu ⟨hb, rfl⟩ (fun k hk => .inl hk), fun w0 hx h0 => hx.putU hu (fun k hk => h0 k (hU k hk))⟩
/-- An append. -/
theorem Star.app9 {U : Nat → Prop} {w : World} {L : List Asr} {A0 A1 A2 A3 A4 A5 A6 A7 A8 : Asr} {w' : World} {α : Type} {enc : α → List Value} {sz : Nat} {a a' : Option Addr} {c c' : Nat} {xs xs' : List α} (h : Star U w (A0 :: A1 :: A2 :: A3 :: A4 :: A5 :: A6 :: A7 :: A8 :: slwA enc sz a c xs :: L)) (hu : Upd (owns a) w w') (hb : Slw enc sz w' a' c' xs') (hf' : a' = a ∨ ∀ k, owns a' k → w.heap.size ≤ k) : Star U w' (A0 :: A1 :: A2 :: A3 :: A4 :: A5 :: A6 :: A7 :: A8 :: slwA enc sz a' c' xs' :: L) ∧ ∀ w0, Ext w0 w → (∀ k, U k → w0.heap.size ≤ k) → Ext w0 w' := by
  obtain ⟨F, ⟨_, rfl⟩, hU, hf⟩ := Star.split9 h
  exact ⟨hf hu ⟨hb, rfl⟩ (fun k hk => by rcases hf' with rfl | h1; exact .inl hk; exact .inr (h1 k hk)), fun w0 hx h0 => hx.putU hu (fun k hk => h0 k (hU k hk))⟩
theorem Star.split10 {U : Nat → Prop} {w : World} {L : List Asr} {A0 A1 A2 A3 A4 A5 A6 A7 A8 A9 A : Asr} (h : Star U w (A0 :: A1 :: A2 :: A3 :: A4 :: A5 :: A6 :: A7 :: A8 :: A9 :: A :: L)) : ∃ F, A.P w F ∧ (∀ k, F k → U k) ∧
    ∀ {w' : World} {B : Asr} {F' : Nat → Prop}, Upd F w w' → B.P w' F' → (∀ k, F' k → F k ∨ w.heap.size ≤ k) → Star U w' (A0 :: A1 :: A2 :: A3 :: A4 :: A5 :: A6 :: A7 :: A8 :: A9 :: B :: L) := Star.splitAt (L1 := [A0, A1, A2, A3, A4, A5, A6, A7, A8, A9]) h
theorem Star.drop10 {U : Nat → Prop} {w : World} {L : List Asr} {A0 A1 A2 A3 A4 A5 A6 A7 A8 A9 A : Asr} (h : Star U w (A0 :: A1 :: A2 :: A3 :: A4 :: A5 :: A6 :: A7 :: A8 :: A9 :: A :: L)) : Star U w (A0 :: A1 :: A2 :: A3 :: A4 :: A5 :: A6 :: A7 :: A8 :: A9 :: L) := Star.dropAt (L1 := [A0, A1, A2, A3, A4, A5, A6, A7, A8, A9]) h
theorem Star.get10 {U : Nat → Prop} {w : World} {L : List Asr} {A0 A1 A2 A3 A4 A5 A6 A7 A8 A9 A : Asr} (h : Star U w (A0 :: A1 :: A2 :: A3 :: A4 :: A5 :: A6 :: A7 :: A8 :: A9 :: A :: L)) : ∃ F, A.P w F ∧ ∀ k, F k → U k := Star.getAt (L1 := [A0, A1, A2, A3, A4, A5, A6, A7, A8, A9]) h
theorem Star.take10 {U : Nat → Prop} {w : World} {L : List Asr} {A0 A1 A2 A3 A4 A5 A6 A7 A8 A9 A : Asr} (h : Star U w (A0 :: A1 :: A2 :: A3 :: A4 :: A5 :: A6 :: A7 :: A8 :: A9 :: A :: L)) : ∃ F, A.P w F ∧ (∀ k, F k → U k) ∧ (∀ k, F k → k < w.heap.size) ∧ Star (fun k => U k ∧ ¬ F k) w (A0 :: A1 :: A2 :: A3 :: A4 :: A5 :: A6 :: A7 :: A8 :: A9 :: L) := Star.takeAt (L1 := [A0, A1, A2, A3, A4, A5, A6, A7, A8, A9]) h
theorem Star.splitR10 {U : Nat → Prop} {w : World} {L : List Asr} {A0 A1 A2 A3 A4 A5 A6 A7 A8 A9 A : Asr} (h : Star U w (A0 :: A1 :: A2 :: A3 :: A4 :: A5 :: A6 :: A7 :: A8 :: A9 :: A :: L)) : ∃ F, A.P w F ∧ (∀ k, F k → U k) ∧ Sep w (fun k => U k ∧ ¬ F k) (A0 :: A1 :: A2 :: A3 :: A4 :: A5 :: A6 :: A7 :: A8 :: A9 :: L) ∧
    ∀ {w' : World} {B : Asr} {F' : Nat → Prop}, Upd F w w' → B.P w' F' → (∀ k, F' k → F k ∨ w.heap.size ≤ k) → Star U w' (A0 :: A1 :: A2 :: A3 :: A4 :: A5 :: A6 :: A7 :: A8 :: A9 :: B :: L) := Star.splitRAt (L1 := [A0, A1, A2, A3, A4, A5, A6, A7, A8, A9]) h
theorem Sep.sliD10 {U : Nat → Prop} {w : World} {L : List Asr} {A0 A1 A2 A3 A4 A5 A6 A7 A8 A9 : Asr} {α : Type} {enc : α → List Value} {sz : Nat} {a : Option Addr} {c : Nat} {xs : List α} (h : Sep w U (A0 :: A1 :: A2 :: A3 :: A4 :: A5 :: A6 :: A7 :: A8 :: A9 :: sliA enc sz a c xs :: L)) : ∀ k, ownsC a c k → U k := (Sep.getAt (L1 := [A0, A1, A2, A3, A4, A5, A6, A7, A8, A9]) h).elim fun _ h k hk => h.2 k (by rw [h.1.2]; exact hk)
theorem Sep.slwD10 {U : Nat → Prop} {w : World} {L : List Asr} {A0 A1 A2 A3 A4 A5 A6 A7 A8 A9 : Asr} {α : Type} {enc : α → List Value} {sz : Nat} {a : Option Addr} {c : Nat} {xs : List α} (h : Sep w U (A0 :: A1 :: A2 :: A3 :: A4 :: A5 :: A6 :: A7 :: A8 :: A9 :: slwA enc sz a c xs :: L)) : ∀ k, ownsC a c k → U k := (Sep.getAt (L1 := [A0, A1, A2, A3, A4, A5, A6, A7, A8, A9]) h).elim fun _ h k hk => h.2 k (by rw [h.1.2]; exact hk.1)
theorem Star.blk10 {U : Nat → Prop} {w : World} {L : List Asr} {A0 A1 A2 A3 A4 A5 A6 A7 A8 A9 : Asr} {b : Nat} {cs : List Value} (h : Star U w (A0 :: A1 :: A2 :: A3 :: A4 :: A5 :: A6 :: A7 :: A8 :: A9 :: boxA b cs :: L)) : Blk w b cs := (Star.get10 h).elim fun _ h => h.1.1
theorem Star.slw10 {U : Nat → Prop} {w : World} {L : List Asr} {A0 A1 A2 A3 A4 A5 A6 A7 A8 A9 : Asr} {α : Type} {enc : α → List Value} {sz : Nat} {a : Option Addr} {c : Nat} {xs : List α} (h : Star U w (A0 :: A1 :: A2 :: A3 :: A4 :: A5 :: A6 :: A7 :: A8 :: A9 :: slwA enc sz a c xs :: L)) : Slw enc sz w a c xs := (Star.get10 h).elim fun _ h => h.1.1
theorem Star.sli10 {U : Nat → Prop} {w : World} {L : List Asr} {A0 A1 A2 A3 A4 A5 A6 A7 A8 A9 : Asr} {α : Type} {enc : α → List Value} {sz : Nat} {a : Option Addr} {c : Nat} {xs : List α} (h : Star U w (A0 :: A1 :: A2 :: A3 :: A4 :: A5 :: A6 :: A7 :: A8 :: A9 :: sliA enc sz a c xs :: L)) : Sli enc sz w a c xs := (Star.get10 h).elim fun _ h => h.1.1
theorem Star.raw10 {U : Nat → Prop} {w : World} {L : List Asr} {A0 A1 A2 A3 A4 A5 A6 A7 A8 A9 : Asr} {b : Nat} {o : Obj} (h : Star U w (A0 :: A1 :: A2 :: A3 :: A4 :: A5 :: A6 :: A7 :: A8 :: A9 :: rawA b o :: L)) : Raw w b o := (Star.get10 h).elim fun _ h => h.1.1
theorem Star.map10 {U : Nat → Prop} {w : World} {L : List Asr} {A0 A1 A2 A3 A4 A5 A6 A7 A8 A9 : Asr} {κ : Type} [DecidableEq κ] {enc : κ → Value} {b : Nat} {l : List (κ × Value)} (h : Star U w (A0 :: A1 :: A2 :: A3 :: A4 :: A5 :: A6 :: A7 :: A8 :: A9 :: mapA enc b l :: L)) : MapAt enc w b l := (Star.get10 h).elim fun _ h => h.1.1
/-- A store into a box. -/
theorem Star.box10 {U : Nat → Prop} {w : World} {L : List Asr} {A0 A1 A2 A3 A4 A5 A6 A7 A8 A9 : Asr} {w' : World} {b : Nat} {cs cs' : List Value} (h : Star U w (A0 :: A1 :: A2 :: A3 :: A4 :: A5 :: A6 :: A7 :: A8 :: A9 :: boxA b cs :: L)) (hu : Upd (fun k => k = b) w w') (hb : Blk w' b cs') : Star U w' (A0 :: A1 :: A2 :: A3 :: A4 :: A5 :: A6 :: A7 :: A8 :: A9 :: boxA b cs' :: L) ∧ ∀ w0, Ext w0 w → (∀ k, U k → w0.heap.size ≤ k) → Ext w0 w' := by
  obtain ⟨F, ⟨_, rfl⟩, hU, hf⟩ := Star.split10 h
  exact ⟨hf hu ⟨hb, rfl⟩ (fun k hk => .inl hk), fun w0 hx h0 => hx.putU hu (fun k hk => h0 k (hU k hk))⟩
/-- An append. -/
theorem Star.app10 {U : Nat → Prop} {w : World} {L : List Asr} {A0 A1 A2 A3 A4 A5 A6 A7 A8 A9 : Asr} {w' : World} {α : Type} {enc : α → List Value} {sz : Nat} {a a' : Option Addr} {c c' : Nat} {xs xs' : List α} (h : Star U w (A0 :: A1 :: A2 :: A3 :: A4 :: A5 :: A6 :: A7 :: A8 :: A9 :: slwA enc sz a c xs :: L)) (hu : Upd (owns a) w w') (hb : Slw enc sz w' a' c' xs') (hf' : a' = a ∨ ∀ k, owns a' k → w.heap.size ≤ k) : Star U w' (A0 :: A1 :: A2 :: A3 :: A4 :: A5 :: A6 :: A7 :: A8 :: A9 :: slwA enc sz a' c' xs' :: L) ∧ ∀ w0, Ext w0 w → (∀ k, U k → w0.heap.size ≤ k) → Ext w0 w' := by
  obtain ⟨F, ⟨_, rfl⟩, hU, hf⟩ := Star.split10 h
  exact ⟨hf hu ⟨hb, rfl⟩ (fun k hk => by rcases hf' with rfl | h1; exact .inl hk; exact .inr (h1 k hk)), fun w0 hx h0 => hx.putU hu (fun k hk => h0 k (hU k hk))⟩
theorem Star.split11 {U : Nat → Prop} {w : World} {L : List Asr} {A0 A1 A2 A3 A4 A5 A6 A7 A8 A9 A10 A : Asr} (h : Star U w (A0 :: A1 :: A2 :: A3 :: A4 :: A5 :: A6 :: A7 :: A8 :: A9 :: A10 :: A :: L)) : ∃ F, A.P w F ∧ (∀ k, F k → U k) ∧
    ∀ {w' : World} {B : Asr} {F' : Nat → Prop}, Upd F w w' → B.P w' F' → (∀ k, F' k → F k ∨ w.heap.size ≤ k) → Star U w' (A0 :: A1 :: A2 :: A3 :: A4 :: A5 :: A6 :: A7 :: A8 :: A9 :: A10 :: B :: L) := Star.splitAt (L1 := [A0, A1, A2, A3, A4, A5, A6, A7, A8, A9, A10]) h
theorem Star.drop11 {U : Nat → Prop} {w : World} {L : List Asr} {A0 A1 A2 A3 A4 A5 A6 A7 A8 A9 A10 A : Asr} (h : Star U w (A0 :: A1 :: A2 :: A3 :: A4 :: A5 :: A6 :: A7 :: A8 :: A9 :: A10 :: A :: L)) : Star U w (A0 :: A1 :: A2 :: A3 :: A4 :: A5 :: A6 :: A7 :: A8 :: A9 :: A10 :: L) := Star.dropAt (L1 := [A0, A1, A2, A3, A4, A5, A6, A7, A8, A9, A10]) h
theorem Star.get11 {U : Nat → Prop} {w : World} {L : List Asr} {A0 A1 A2 A3 A4 A5 A6 A7 A8 A9 A10 A : Asr} (h : Star U w (A0 :: A1 :: A2 :: A3 :: A4 :: A5 :: A6 :: A7 :: A8 :: A9 :: A10 :: A :: L)) : ∃ F, A.P w F ∧ ∀ k, F k → U k := Star.getAt (L1 := [A0, A1, A2, A3, A4, A5, A6, A7, A8, A9, A10]) h
theorem Star.take11 {U : Nat → Prop} {w : World} {L : List Asr} {A0 A1 A2 A3 A4 A5 A6 A7 A8 A9 A10 A : Asr} (h : Star U w (A0 :: A1 :: A2 :: A3 :: A4 :: A5 :: A6 :: A7 :: A8 :: A9 :: A10 :: A :: L)) : ∃ F, A.P w F ∧ (∀ k, F k → U k) ∧ (∀ k, F k → k < w.heap.size) ∧ Star (fun k => U k ∧ ¬ F k) w (A0 :: A1 :: A2 :: A3 :: A4 :: A5 :: A6 :: A7 :: A8 :: A9 :: A10 :: L) := Star.takeAt (L1 := [A0, A1, A2, A3, A4, A5, A6, A7, A8, A9, A10]) h
theorem Star.splitR11 {U : Nat → Prop} {w : World} {L : List Asr} {A0 A1 A2 A3 A4 A5 A6 A7 A8 A9 A10 A : Asr} (h : Star U w (A0 :: A1 :: A2 :: A3 :: A4 :: A5 :: A6 :: A7 :: A8 :: A9 :: A10 :: A :: L)) : ∃ F, A.P w F ∧ (∀ k, F k → U k) ∧ Sep w (fun k => U k ∧ ¬ F k) (A0 :: A1 :: A2 :: A3 :: A4 :: A5 :: A6 :: A7 :: A8 :: A9 :: A10 :: L) ∧
    ∀ {w' : World} {B : Asr} {F' : Nat → Prop}, Upd F w w' → B.P w' F' → (∀ k, F' k → F k ∨ w.heap.size ≤ k) → Star U w' (A0 :: A1 :: A2 :: A3 :: A4 :: A5 :: A6 :: A7 :: A8 :: A9 :: A10 :: B :: L) := Star.splitRAt (L1 := [A0, A1, A2, A3, A4, A5, A6, A7, A8, A9, A10]) h
theorem Sep.sliD11 {U : Nat → Prop} {w : World} {L : List Asr} {A0 A1 A2 A3 A4 A5 A6 A7 A8 A9 A10 : Asr} {α : Type} {enc : α → List Value} {sz : Nat} {a : Option Addr} {c : Nat} {xs : List α} (h : Sep w U (A0 :: A1 :: A2 :: A3 :: A4 :: A5 :: A6 :: A7 :: A8 :: A9 :: A10 :: sliA enc sz a c xs :: L)) : ∀ k, ownsC a c k → U k := (Sep.getAt (L1 := [A0, A1, A2, A3, A4, A5, A6, A7, A8, A9, A10]) h).elim fun _ h k hk => h.2 k (by rw [h.1.2]; exact hk)
theorem Sep.slwD11 {U : Nat → Prop} {w : World} {L : List Asr} {A0 A1 A2 A3 A4 A5 A6 A7 A8 A9 A10 : Asr} {α : Type} {enc : α → List Value} {sz : Nat} {a : Option Addr} {c : Nat} {xs : List α} (h : Sep w U (A0 :: A1 :: A2 :: A3 :: A4 :: A5 :: A6 :: A7 :: A8 :: A9 :: A10 :: slwA enc sz a c xs :: L)) : ∀ k, ownsC a c k → U k := (Sep.getAt (L1 := [A0, A1, A2, A3, A4, A5, A6, A7, A8, A9, A10]) h).elim fun _ h k hk => h.2 k (by rw [h.1.2]; exact hk.1)
theorem Star.blk11 {U : Nat → Prop} {w : World} {L : List Asr} {A0 A1 A2 A3 A4 A5 A6 A7 A8 A9 A10 : Asr} {b : Nat} {cs : List Value} (h : Star U w (A0 :: A1 :: A2 :: A3 :: A4 :: A5 :: A6 :: A7 :: A8 :: A9 :: A10 :: boxA b cs :: L)) : Blk w b cs := (Star.get11 h).elim fun _ h => h.1.1
theorem Star.slw11 {U : Nat → Prop} {w : World} {L : List Asr} {A0 A1 A2 A3 A4 A5 A6 A7 A8 A9 A10 : Asr} {α : Type} {enc : α → List Value} {sz : Nat} {a : Option Addr} {c : Nat} {xs : List α} (h : Star U w (A0 :: A1 :: A2 :: A3 :: A4 :: A5 :: A6 :: A7 :: A8 :: A9 :: A10 :: slwA enc sz a c xs :: L)) : Slw enc sz w a c xs := (Star.get11 h).elim fun _ h => h.1.1
theorem Star.sli11 {U : Nat → Prop} {w : World} {L : List Asr} {A0 A1 A2 A3 A4 A5 A6 A7 A8 A9 A10 : Asr} {α : Type} {enc : α → List Value} {sz : Nat} {a : Option Addr} {c : Nat} {xs : List α} (h : Star U w (A0 :: A1 :: A2 :: A3 :: A4 :: A5 :: A6 :: A7 :: A8 :: A9 :: A10 :: sliA enc sz a c xs :: L)) : Sli enc sz w a c xs := (Star.get11 h).elim fun _ h => h.1.1
theorem Star.raw11 {U : Nat → Prop} {w : World} {L : List Asr} {A0 A1 A2 A3 A4 A5 A6 A7 A8 A9 A10 : Asr} {b : Nat} {o : Obj} (h : Star U w (A0 :: A1 :: A2 :: A3 :: A4 :: A5 :: A6 :: A7 :: A8 :: A9 :: A10 :: rawA b o :: L)) : Raw w b o := (Star.get11 h).elim fun _ h => h.1.1
theorem Star.map11 {U : Nat → Prop} {w : World} {L : List Asr} {A0 A1 A2 A3 A4 A5 A6 A7 A8 A9 A10 : Asr} {κ : Type} [DecidableEq κ] {enc : κ → Value} {b : Nat} {l : List (κ × Value)} (h : Star U w (A0 :: A1 :: A2 :: A3 :: A4 :: A5 :: A6 :: A7 :: A8 :: A9 :: A10 :: mapA enc b l :: L)) : MapAt enc w b l := (Star.get11 h).elim fun _ h => h.1.1
/-- A store into a box. -/
theorem Star.box11 {U : Nat → Prop} {w : World} {L : List Asr} {A0 A1 A2 A3 A4 A5 A6 A7 A8 A9 A10 : Asr} {w' : World} {b : Nat} {cs cs' : List Value} (h : Star U w (A0 :: A1 :: A2 :: A3 :: A4 :: A5 :: A6 :: A7 :: A8 :: A9 :: A10 :: boxA b cs :: L)) (hu : Upd (fun k => k = b) w w') (hb : Blk w' b cs') : Star U w' (A0 :: A1 :: A2 :: A3 :: A4 :: A5 :: A6 :: A7 :: A8 :: A9 :: A10 :: boxA b cs' :: L) ∧ ∀ w0, Ext w0 w → (∀ k, U k → w0.heap.size ≤ k) → Ext w0 w' := by
  obtain ⟨F, ⟨_, rfl⟩, hU, hf⟩ := Star.split11 h
  exact ⟨hf hu ⟨hb, rfl⟩ (fun k hk => .inl hk), fun w0 hx h0 => hx.putU hu (fun k hk => h0 k (hU k hk))⟩
/-- An append. -/
theorem Star.app11 {U : Nat → Prop} {w : World} {L : List Asr} {A0 A1 A2 A3 A4 A5 A6 A7 A8 A9 A10 : Asr} {w' : World} {α : Type} {enc : α → List Value} {sz : Nat} {a a' : Option Addr} {c c' : Nat} {xs xs' : List α} (h : Star U w (A0 :: A1 :: A2 :: A3 :: A4 :: A5 :: A6 :: A7 :: A8 :: A9 :: A10 :: slwA enc sz a c xs :: L)) (hu : Upd (owns a) w w') (hb : Slw enc sz w' a' c' xs') (hf' : a' = a ∨ ∀ k, owns a' k → w.heap.size ≤ k) : Star U w' (A0 :: A1 :: A2 :: A3 :: A4 :: A5 :: A6 :: A7 :: A8 :: A9 :: A10 :: slwA enc sz a' c' xs' :: L) ∧ ∀ w0, Ext w0 w → (∀ k, U k → w0.heap.size ≤ k) → Ext w0 w' := by
  obtain ⟨F, ⟨_, rfl⟩, hU, hf⟩ := Star.split11 h
  exact ⟨hf hu ⟨hb, rfl⟩ (fun k hk => by rcases hf' with rfl | h1; exact .inl hk; exact .inr (h1 k hk)), fun w0 hx h0 => hx.putU hu (fun k hk => h0 k (hU k hk))⟩
theorem Star.split12 {U : Nat → Prop} {w : World} {L : List Asr} {A0 A1 A2 A3 A4 A5 A6 A7 A8 A9 A10 A11 A : Asr} (h : Star U w (A0 :: A1 :: A2 :: A3 :: A4 :: A5 :: A6 :: A7 :: A8 :: A9 :: A10 :: A11 :: A :: L)) : ∃ F, A.P w F ∧ (∀ k, F k → U k) ∧
    ∀ {w' : World} {B : Asr} {F' : Nat → Prop}, Upd F w w' → B.P w' F' → (∀ k, F' k → F k ∨ w.heap.size ≤ k) → Star U w' (A0 :: A1 :: A2 :: A3 :: A4 :: A5 :: A6 :: A7 :: A8 :: A9 :: A10 :: A11 :: B :: L) := Star.splitAt (L1 := [A0, A1, A2, A3, A4, A5, A6, A7, A8, A9, A10, A11]) h
theorem Star.drop12 {U : Nat → Prop} {w : World} {L : List Asr} {A0 A1 A2 A3 A4 A5 A6 A7 A8 A9 A10 A11 A : Asr} (h : Star U w (A0 :: A1 :: A2 :: A3 :: A4 :: A5 :: A6 :: A7 :: A8 :: A9 :: A10 :: A11 :: A :: L)) : Star U w (A0 :: A1 :: A2 :: A3 :: A4 :: A5 :: A6 :: A7 :: A8 :: A9 :: A10 :: A11 :: L) := Star.dropAt (L1 := [A0, A1, A2, A3, A4, A5, A6, A7, A8, A9, A10, A11]) h
theorem Star.get12 {U : Nat → Prop} {w : World} {L : List Asr} {A0 A1 A2 A3 A4 A5 A6 A7 A8 A9 A10 A11 A : Asr} (h : Star U w (A0 :: A1 :: A2 :: A3 :: A4 :: A5 :: A6 :: A7 :: A8 :: A9 :: A10 :: A11 :: A :: L)) : ∃ F, A.P w F ∧ ∀ k, F k → U k := Star.getAt (L1 := [A0, A1, A2, A3, A4, A5, A6, A7, A8, A9, A10, A11]) h
theorem Star.take12 {U : Nat → Prop} {w : World} {L : List Asr} {A0 A1 A2 A3 A4 A5 A6 A7 A8 A9 A10 A11 A : Asr} (h : Star U w (A0 :: A1 :: A2 :: A3 :: A4 :: A5 :: A6 :: A7 :: A8 :: A9 :: A10 :: A11 :: A :: L)) : ∃ F, A.P w F ∧ (∀ k, F k → U k) ∧ (∀ k, F k → k < w.heap.size) ∧ Star (fun k => U k ∧ ¬ F k) w (A0 :: A1 :: A2 :: A3 :: A4 :: A5 :: A6 :: A7 :: A8 :: A9 :: A10 :: A11 :: L) := Star.takeAt (L1 := [A0, A1, A2, A3, A4, A5, A6, A7, A8, A9, A10, A11]) h
theorem Star.splitR12 {U : Nat → Prop} {w : World} {L : List Asr} {A0 A1 A2 A3 A4 A5 A6 A7 A8 A9 A10 A11 A : Asr} (h : Star U w (A0 :: A1 :: A2 :: A3 :: A4 :: A5 :: A6 :: A7 :: A8 :: A9 :: A10 :: A11 :: A :: L)) : ∃ F, A.P w F ∧ (∀ k, F k → U k) ∧ Sep w (fun k => U k ∧ ¬ F k) (A0 :: A1 :: A2 :: A3 :: A4 :: A5 :: A6 :: A7 :: A8 :: A9 :: A10 :: A11 :: L) ∧
    ∀ {w' : World} {B : Asr} {F' : Nat → Prop}, Upd F w w' → B.P w' F' → (∀ k, F' k → F k ∨ w.heap.size ≤ k) → Star U w' (A0 :: A1 :: A2 :: A3 :: A4 :: A5 :: A6 :: A7 :: A8 :: A9 :: A10 :: A11 :: B :: L) := Star.splitRAt (L1 := [A0, A1, A2, A3, A4, A5, A6, A7, A8, A9, A10, A11]) h
theorem Sep.sliD12 {U : Nat → Prop} {w : World} {L : List Asr} {A0 A1 A2 A3 A4 A5 A6 A7 A8 A9 A10 A11 : Asr} {α : Type} {enc : α → List Value} {sz : Nat} {a : Option Addr} {c : Nat} {xs : List α} (h : Sep w U (A0 :: A1 :: A2 :: A3 :: A4 :: A5 :: A6 :: A7 :: A8 :: A9 :: A10 :: A11 :: sliA enc sz a c xs :: L)) : ∀ k, ownsC a c k → U k := (Sep.getAt (L1 := [A0, A1, A2, A3, A4, A5, A6, A7, A8, A9, A10, A11]) h).elim fun _ h k hk => h.2 k (by rw [h.1.2]; exact hk)
theorem Sep.slwD12 {U : Nat → Prop} {w : World} {L : List Asr} {A0 A1 A2 A3 A4 A5 A6 A7 A8 A9 A10 A11 : Asr} {α : Type} {enc : α → List Value} {sz : Nat} {a : Option Addr} {c : Nat} {xs : List α} (h : Sep w U (A0 :: A1 :: A2 :: A3 :: A4 :: A5 :: A6 :: A7 :: A8 :: A9 :: A10 :: A11 :: slwA enc sz a c xs :: L)) : ∀ k, ownsC a c k → U k := (Sep.getAt (L1 := [A0, A1, A2, A3, A4, A5, A6, A7, A8, A9, A10, A11]) h).elim fun _ h k hk => h.2 k (by rw [h.1.2]; exact hk.1)
theorem Star.blk12 {U : Nat → Prop} {w : World} {L : List Asr} {A0 A1 A2 A3 A4 A5 A6 A7 A8 A9 A10 A11 : Asr} {b : Nat} {cs : List Value} (h : Star U w (A0 :: A1 :: A2 :: A3 :: A4 :: A5 :: A6 :: A7 :: A8 :: A9 :: A10 :: A11 :: boxA b cs :: L)) : Blk w b cs := (Star.get12 h).elim fun _ h => h.1.1
theorem Star.slw12 {U : Nat → Prop} {w : World} {L : List Asr} {A0 A1 A2 A3 A4 A5 A6 A7 A8 A9 A10 A11 : Asr} {α : Type} {enc : α → List Value} {sz : Nat} {a : Option Addr} {c : Nat} {xs : List α} (h : Star U w (A0 :: A1 :: A2 :: A3 :: A4 :: A5 :: A6 :: A7 :: A8 :: A9 :: A10 :: A11 :: slwA enc sz a c xs :: L)) : Slw enc sz w a c xs := (Star.get12 h).elim fun _ h => h.1.1
theorem Star.sli12 {U : Nat → Prop} {w : World} {L : List Asr} {A0 A1 A2 A3 A4 A5 A6 A7 A8 A9 A10 A11 : Asr} {α : Type} {enc : α → List Value} {sz : Nat} {a : Option Addr} {c : Nat} {xs : List α} (h : Star U w (A0 :: A1 :: A2 :: A3 :: A4 :: A5 :: A6 :: A7 :: A8 :: A9 :: A10 :: A11 :: sliA enc sz a c xs :: L)) : Sli enc sz w a c xs := (Star.get12 h).elim fun _ h => h.1.1
theorem Star.raw12 {U : Nat → Prop} {w : World} {L : List Asr} {A0 A1 A2 A3 A4 A5 A6 A7 A8 A9 A10 A11 : Asr} {b : Nat} {o : Obj} (h : Star U w (A0 :: A1 :: A2 :: A3 :: A4 :: A5 :: A6 :: A7 :: A8 :: A9 :: A10 :: A11 :: rawA b o :: L)) : Raw w b o := (Star.get12 h).elim fun _ h => h.1.1
theorem Star.map12 {U : Nat → Prop} {w : World} {L : List Asr} {A0 A1 A2 A3 A4 A5 A6 A7 A8 A9 A10 A11 : Asr} {κ : Type} [DecidableEq κ] {enc : κ → Value} {b : Nat} {l : List (κ × Value)} (h : Star U w (A0 :: A1 :: A2 :: A3 :: A4 :: A5 :: A6 :: A7 :: A8 :: A9 :: A10 :: A11 :: mapA enc b l :: L)) : MapAt enc w b l := (Star.get12 h).elim fun _ h => h.1.1
/-- A store into a box. -/
theorem Star.box12 {U : Nat → Prop} {w : World} {L : List Asr} {A0 A1 A2 A3 A4 A5 A6 A7 A8 A9 A10 A11 : Asr} {w' : World} {b : Nat} {cs cs' : List Value} (h : Star U w (A0 :: A1 :: A2 :: A3 :: A4 :: A5 :: A6 :: A7 :: A8 :: A9 :: A10 :: A11 :: boxA b cs :: L)) (hu : Upd (fun k => k = b) w w') (hb : Blk w' b cs') : Star U w' (A0 :: A1 :: A2 :: A3 :: A4 :: A5 :: A6 :: A7 :: A8 :: A9 :: A10 :: A11 :: boxA b cs' :: L) ∧ ∀ w0, Ext w0 w → (∀ k, U k → w0.heap.size ≤ k) → Ext w0 w' := by
  obtain ⟨F, ⟨_, rfl⟩, hU, hf⟩ := Star.split12 h
  exact ⟨hf hu ⟨hb, rfl⟩ (fun k hk => .inl hk), fun w0 hx h0 => hx.putU hu (fun k hk => h0 k (hU k hk))⟩
/-- An append. -/
theorem Star.app12 {U : Nat → Prop} {w : World} {L : List Asr} {A0 A1 A2 A3 A4 A5 A6 A7 A8 A9 A10 A11 : Asr} {w' : World} {α : Type} {enc : α → List Value} {sz : Nat} {a a' : Option Addr} {c c' : Nat} {xs xs' : List α} (h : Star U w (A0 :: A1 :: A2 :: A3 :: A4 :: A5 :: A6 :: A7 :: A8 :: A9 :: A10 :: A11 :: slwA enc sz a c xs :: L)) (hu : Upd (owns a) w w') (hb : Slw enc sz w' a' c' xs') (hf' : a' = a ∨ ∀ k, owns a' k → w.heap.size ≤ k) : Star U w' (A0 :: A1 :: A2 :: A3 :: A4 :: A5 :: A6 :: A7 :: A8 :: A9 :: A10 :: A11 :: slwA enc sz a' c' xs' :: L) ∧ ∀ w0, Ext w0 w → (∀ k, U k → w0.heap.size ≤ k) → Ext w0 w' := by
  obtain ⟨F, ⟨_, rfl⟩, hU, hf⟩ := Star.split12 h
  exact ⟨hf hu ⟨hb, rfl⟩ (fun k hk => by rcases hf' with rfl | h1; exact .inl hk; exact .inr (h1 k hk)), fun w0 hx h0 => hx.putU hu (fun k hk => h0 k (hU k hk))⟩
theorem Star.split13 {U : Nat → Prop} {w : World} {L : List Asr} {A0 A1 A2 A3 A4 A5 A6 A7 A8 A9 A10 A11 A12 A : Asr} (h : Star U w (A0 :: A1 :: A2 :: A3 :: A4 :: A5 :: A6 :: A7 :: A8 :: A9 :: A10 :: A11 :: A12 :: A :: L)) : ∃ F, A.P w F ∧ (∀ k, F k → U k) ∧
    ∀ {w' : World} {B : Asr} {F' : Nat → Prop}, Upd F w w' → B.P w' F' → (∀ k, F' k → F k ∨ w.heap.size ≤ k) → Star U w' (A0 :: A1 :: A2 :: A3 :: A4 :: A5 :: A6 :: A7 :: A8 :: A9 :: A10 :: A11 :: A12 :: B :: L) := Star.splitAt (L1 := [A0, A1, A2, A3, A4, A5, A6, A7, A8, A9, A10, A11, A12]) h
theorem Star.drop13 {U : Nat → Prop} {w : World} {L : List Asr} {A0 A1 A2 A3 A4 A5 A6 A7 A8 A9 A10 A11 A12 A : Asr} (h : Star U w (A0 :: A1 :: A2 :: A3 :: A4 :: A5 :: A6 :: A7 :: A8 :: A9 :: A10 :: A11 :: A12 :: A :: L)) : Star U w (A0 :: A1 :: A2 :: A3 :: A4 :: A5 :: A6 :: A7 :: A8 :: A9 :: A10 :: A11 :: A12 :: L) := Star.dropAt (L1 := [A0, A1, A2, A3, A4, A5, A6, A7, A8, A9, A10, A11, A12]) h
theorem Star.get13 {U : Nat → Prop} {w : World} {L : List Asr} {A0 A1 A2 A3 A4 A5 A6 A7 A8 A9 A10 A11 A12 A : Asr} (h : Star U w (A0 :: A1 :: A2 :: A3 :: A4 :: A5 :: A6 :: A7 :: A8 :: A9 :: A10 :: A11 :: A12 :: A :: L)) : ∃ F, A.P w F ∧ ∀ k, F k → U k := Star.getAt (L1 := [A0, A1, A2, A3, A4, A5, A6, A7, A8, A9, A10, A11, A12]) h
theorem Star.take13 {U : Nat → Prop} {w : World} {L : List Asr} {A0 A1 A2 A3 A4 A5 A6 A7 A8 A9 A10 A11 A12 A : Asr} (h : Star U w (A0 :: A1 :: A2 :: A3 :: A4 :: A5 :: A6 :: A7 :: A8 :: A9 :: A10 :: A11 :: A12 :: A :: L)) : ∃ F, A.P w F ∧ (∀ k, F k → U k) ∧ (∀ k, F k → k < w.heap.size) ∧ Star (fun k => U k ∧ ¬ F k) w (A0 :: A1 :: A2 :: A3 :: A4 :: A5 :: A6 :: A7 :: A8 :: A9 :: A10 :: A11 :: A12 :: L) := Star.takeAt (L1 := [A0, A1, A2, A3, A4, A5, A6, A7, A8, A9, A10, A11, A12]) h
theorem Star.splitR13 {U : Nat → Prop} {w : World} {L : List Asr} {A0 A1 A2 A3 A4 A5 A6 A7 A8 A9 A10 A11 A12 A : Asr} (h : Star U w (A0 :: A1 :: A2 :: A3 :: A4 :: A5 :: A6 :: A7 :: A8 :: A9 :: A10 :: A11 :: A12 :: A :: L)) : ∃ F, A.P w F ∧ (∀ k, F k → U k) ∧ Sep w (fun k => U k ∧ ¬ F k) (A0 :: A1 :: A2 :: A3 :: A4 :: A5 :: A6 :: A7 :: A8 :: A9 :: A10 :: A11 :: A12 :: L) ∧
    ∀ {w' : World} {B : Asr} {F' : Nat → Prop}, Upd F w w' → B.P w' F' → (∀ k, F' k → F k ∨ w.heap.size ≤ k) → Star U w' (A0 :: A1 :: A2 :: A3 :: A4 :: A5 :: A6 :: A7 :: A8 :: A9 :: A10 :: A11 :: A12 :: B :: L) := Star.splitRAt (L1 := [A0, A1, A2, A3, A4, A5, A6, A7, A8, A9, A10, A11, A12]) h
theorem Sep.sliD13 {U : Nat → Prop} {w : World} {L : List Asr} {A0 A1 A2 A3 A4 A5 A6 A7 A8 A9 A10 A11 A12 : Asr} {α : Type} {enc : α → List Value} {sz : Nat} {a : Option Addr} {c : Nat} {xs : List α} (h : Sep w U (A0 :: A1 :: A2 :: A3 :: A4 :: A5 :: A6 :: A7 :: A8 :: A9 :: A10 :: A11 :: A12 :: sliA enc sz a c xs :: L)) : ∀ k, ownsC a c k → U k := (Sep.getAt (L1 := [A0, A1, A2, A3, A4, A5, A6, A7, A8, A9, A10, A11, A12]) h).elim fun _ h k hk => h.2 k (by rw [h.1.2]; exact hk)
theorem Sep.slwD13 {U : Nat → Prop} {w : World} {L : List Asr} {A0 A1 A2 A3 A4 A5 A6 A7 A8 A9 A10 A11 A12 : Asr} {α : Type} {enc : α → List Value} {sz : Nat} {a : Option Addr} {c : Nat} {xs : List α} (h : Sep w U (A0 :: A1 :: A2 :: A3 :: A4 :: A5 :: A6 :: A7 :: A8 :: A9 :: A10 :: A11 :: A12 :: slwA enc sz a c xs :: L)) : ∀ k, ownsC a c k → U k := (Sep.getAt (L1 := [A0, A1, A2, A3, A4, A5, A6, A7, A8, A9, A10, A11, A12]) h).elim fun _ h k hk => h.2 k (by rw [h.1.2]; exact hk.1)
theorem Star.blk13 {U : Nat → Prop} {w : World} {L : List Asr} {A0 A1 A2 A3 A4 A5 A6 A7 A8 A9 A10 A11 A12 : Asr} {b : Nat} {cs : List Value} (h : Star U w (A0 :: A1 :: A2 :: A3 :: A4 :: A5 :: A6 :: A7 :: A8 :: A9 :: A10 :: A11 :: A12 :: boxA b cs :: L)) : Blk w b cs := (Star.get13 h).elim fun _ h => h.1.1
theorem Star.slw13 {U : Nat → Prop} {w : World} {L : List Asr} {A0 A1 A2 A3 A4 A5 A6 A7 A8 A9 A10 A11 A12 : Asr} {α : Type} {enc : α → List Value} {sz : Nat} {a : Option Addr} {c : Nat} {xs : List α} (h : Star U w (A0 :: A1 :: A2 :: A3 :: A4 :: A5 :: A6 :: A7 :: A8 :: A9 :: A10 :: A11 :: A12 :: slwA enc sz a c xs :: L)) : Slw enc sz w a c xs := (Star.get13 h).elim fun _ h => h.1.1
theorem Star.sli13 {U : Nat → Prop} {w : World} {L : List Asr} {A0 A1 A2 A3 A4 A5 A6 A7 A8 A9 A10 A11 A12 : Asr} {α : Type} {enc : α → List Value} {sz : Nat} {a : Option Addr} {c : Nat} {xs : List α} (h : Star U w (A0 :: A1 :: A2 :: A3 :: A4 :: A5 :: A6 :: A7 :: A8 :: A9 :: A10 :: A11 :: A12 :: sliA enc sz a c xs :: L)) : Sli enc sz w a c xs := (Star.get13 h).elim fun _ h => h.1.1
theorem Star.raw13 {U : Nat → Prop} {w : World} {L : List Asr} {A0 A1 A2 A3 A4 A5 A6 A7 A8 A9 A10 A11 A12 : Asr} {b : Nat} {o : Obj} (h : Star U w (A0 :: A1 :: A2 :: A3 :: A4 :: A5 :: A6 :: A7 :: A8 :: A9 :: A10 :: A11 :: A12 :: rawA b o :: L)) : Raw w b o := (Star.get13 h).elim fun _ h => h.1.1
theorem Star.map13 {U : Nat → Prop} {w : World} {L : List Asr} {A0 A1 A2 A3 A4 A5 A6 A7 A8 A9 A10 A11 A12 : Asr} {κ : Type} [DecidableEq κ] {enc : κ → Value} {b : Nat} {l : List (κ × Value)} (h : Star U w (A0 :: A1 :: A2 :: A3 :: A4 :: A5 :: A6 :: A7 :: A8 :: A9 :: A10 :: A11 :: A12 :: mapA enc b l :: L)) : MapAt enc w b l := (Star.get13 h).elim fun _ h => h.1.1
/-- A store into a box. -/
theorem Star.box13 {U : Nat → Prop} {w : World} {L : List Asr} {A0 A1 A2 A3 A4 A5 A6 A7 A8 A9 A10 A11 A12 : Asr} {w' : World} {b : Nat} {cs cs' : List Value} (h : Star U w (A0 :: A1 :: A2 :: A3 :: A4 :: A5 :: A6 :: A7 :: A8 :: A9 :: A10 :: A11 :: A12 :: boxA b cs :: L)) (hu : Upd (fun k => k = b) w w') (hb : Blk w' b cs') : Star U w' (A0 :: A1 :: A2 :: A3 :: A4 :: A5 :: A6 :: A7 :: A8 :: A9 :: A10 :: A11 :: A12 :: boxA b cs' :: L) ∧ ∀ w0, Ext w0 w → (∀ k, U k → w0.heap.size ≤ k) → Ext w0 w' := by
  obtain ⟨F, ⟨_, rfl⟩, hU, hf⟩ := Star.split13 h
  exact ⟨hf hu ⟨hb, rfl⟩ (fun k hk => .inl hk), fun w0 hx h0 => hx.putU hu (fun k hk => h0 k (hU k hk))⟩
/-- An append. -/
theorem Star.app13 {U : Nat → Prop} {w : World} {L : List Asr} {A0 A1 A2 A3 A4 A5 A6 A7 A8 A9 A10 A11 A12 : Asr} {w' : World} {α : Type} {enc : α → List Value} {sz : Nat} {a a' : Option Addr} {c c' : Nat} {xs xs' : List α} (h : Star U w (A0 :: A1 :: A2 :: A3 :: A4 :: A5 :: A6 :: A7 :: A8 :: A9 :: A10 :: A11 :: A12 :: slwA enc sz a c xs :: L)) (hu : Upd (owns a) w w') (hb : Slw enc sz w' a' c' xs') (hf' : a' = a ∨ ∀ k, owns a' k → w.heap.size ≤ k) : Star U w' (A0 :: A1 :: A2 :: A3 :: A4 :: A5 :: A6 :: A7 :: A8 :: A9 :: A10 :: A11 :: A12 :: slwA enc sz a' c' xs' :: L) ∧ ∀ w0, Ext w0 w → (∀ k, U k → w0.heap.size ≤ k) → Ext w0 w' := by
  obtain ⟨F, ⟨_, rfl⟩, hU, hf⟩ := Star.split13 h
  exact ⟨hf hu ⟨hb, rfl⟩ (fun k hk => by rcases hf' with rfl | h1; exact .inl hk; exact .inr (h1 k hk)), fun w0 hx h0 => hx.putU hu (fun k hk => h0 k (hU k hk))⟩

theorem Star.pushBox {U : Nat → Prop} {w w' : World} {L : List Asr} {b : Nat} {cs : List Value} (h : Star U w L) (hb : b = w.heap.size) (hx : Ext w w') (hB : Blk w' b cs) : Star U w' (boxA b cs :: L) :=
  h.push hx (A := boxA b cs) (F := fun k => k = b) ⟨hB, rfl⟩ (fun k hk => by omega)
theorem Star.pushSlw {U : Nat → Prop} {w w' : World} {L : List Asr} {α : Type} {enc : α → List Value} {sz : Nat} {a : Option Addr} {c : Nat} {xs : List α} (h : Star U w L) (hx : Ext w w') (hB : Slw enc sz w' a c xs) (hf : ∀ k, owns a k → w.heap.size ≤ k) : Star U w' (slwA enc sz a c xs :: L) :=
  h.push hx (A := slwA enc sz a c xs) ⟨hB, rfl⟩ hf
theorem Star.pushSli {U : Nat → Prop} {w w' : World} {L : List Asr} {α : Type} {enc : α → List Value} {sz : Nat} {a : Option Addr} {c : Nat} {xs : List α} (h : Star U w L) (hx : Ext w w') (hB : Sli enc sz w' a c xs) (hf : ∀ k, owns a k → w.heap.size ≤ k) : Star U w' (sliA enc sz a c xs :: L) :=
  h.push hx (A := sliA enc sz a c xs) ⟨hB, rfl⟩ (fun k hk => hf k hk.1)
theorem Star.pushNil {U : Nat → Prop} {w : World} {L : List Asr} {α : Type} (enc : α → List Value) (sz : Nat) (h : Star U w L) : Star U w (slwA enc sz none 0 [] :: L) :=
  h.pushSlw (Ext.rfl' w) (Slw.nil enc sz w) (fun k hk => absurd hk (owns_none k))
/-- The loop's own two blocks, shut out and taken in. -/
abbrev offD (U : Nat → Prop) (D : Nat) : Nat → Prop := fun k => (U k ∧ ¬ k = D) ∧ ¬ k = D + 1
theorem Star.shutD {U : Nat → Prop} {w w' : World} {L : List Asr} (h : Star U w L) (hx : Ext w w') (hz : w'.heap.size = w.heap.size + 2) : Star (offD U w.heap.size) w' L :=
  h.shut hx (fun k hk hu => ⟨⟨hu, by omega⟩, by omega⟩) (fun k hk => ⟨⟨h.new k (by omega), by omega⟩, by omega⟩)
theorem Star.updD {U : Nat → Prop} {w w' : World} {L : List Asr} {D : Nat} (h : Star (offD U D) w L) (hu : Upd (fun k => k = D ∨ k = D + 1) w w') : Star (offD U D) w' L :=
  h.upd hu fun k hk hs => hs.elim hk.1.2 hk.2
theorem Star.updL {U : Nat → Prop} {w w' : World} {L : List Asr} {D : Nat} (h : Star (offD U D) w L) (hu : Upd (fun k => k = D + 1) w w') : Star (offD U D) w' L :=
  h.upd hu fun k hk hs => hk.2 hs
theorem Star.inD {U : Nat → Prop} {w : World} {L : List Asr} {D : Nat} {oL oD : Obj} (h : Star (offD U D) w L) (hL : Raw w (D + 1) oL) (hD : Raw w D oD) (hU : U D) (hU1 : U (D + 1)) : Star U w (rawA D oD :: rawA (D + 1) oL :: L) := by
  have h1 : Star (fun k => U k ∧ ¬ (fun k => k = D) k) w (rawA (D + 1) oL :: L) := Star.put (F := fun k => k = D + 1) h ⟨hL, rfl⟩ (fun k hk => ⟨by rw [hk]; exact hU1, by rw [hk]; omega⟩)
  exact Star.put (F := fun k => k = D) h1 ⟨hD, rfl⟩ (fun k hk => by rw [hk]; exact hU)
/-- Behind the loop: the block of the rounds' deferred calls is kept, the record is forgotten. -/
theorem Star.onD {U : Nat → Prop} {w : World} {L : List Asr} {D : Nat} {oD : Obj} (h : Star (offD U D) w L) (hD : Raw w D oD) (hU : U D) : Star U w (rawA D oD :: L) :=
  Star.put (F := fun k => k = D) (h.mono fun k hk => hk.1) ⟨hD, rfl⟩ (fun k hk => by rw [hk]; exact hU)
theorem Star.endD {U : Nat → Prop} {w w' : World} {L : List Asr} {D : Nat} {oD : Obj} (h : Star U w (rawA D oD :: L)) (hu : Upd (fun k => k = D) w w') : Star U w' L := by
  have hd := h.raw0
  obtain ⟨hn, G, ⟨_, rfl⟩, _, hs⟩ := h
  exact ⟨fun k hk => hn k (Nat.le_trans hu.size hk), hs.step hu fun k _ hk => ⟨hk.2, hk.1⟩⟩
theorem Star.outD {U : Nat → Prop} {w : World} {L : List Asr} {D : Nat} {oL oD : Obj} (h : Star U w (rawA D oD :: rawA (D + 1) oL :: L)) : Star (offD U D) w L ∧ Raw w (D + 1) oL ∧ Raw w D oD := by
  have hl := h.raw1
  have hd := h.raw0
  obtain ⟨hn, F, ⟨_, rfl⟩, _, G, ⟨_, rfl⟩, _, hs⟩ := h
  have := hl.lt
  exact ⟨⟨fun k hk => ⟨⟨hn k hk, by omega⟩, by omega⟩, hs⟩, hl, hd⟩
end Go.Eng
