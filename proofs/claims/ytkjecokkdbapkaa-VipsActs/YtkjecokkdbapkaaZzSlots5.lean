import Derived.Test.YtkjecokkdbapkaaZzSlots4
import Derived.Test.YtkjecokkdbapkaaProg
namespace Go.Proofs.Ytkjecokkdbapkaa
set_option linter.all false
open Go Go.Eng Go.RowKit
set_option maxRecDepth 20000
set_option maxHeartbeats 2000000
set_option linter.unusedVariables false
set_option linter.unusedSimpArgs false
attribute [local irreducible] WL W QL WA SP



/-- One place of the first pass: (what is left, the slots, the places still open). -/
def fstep (old : List Dip) (ms : List Mem) (st : List Int × List Dip × List Int) (i : Nat) : List Int × List Dip × List Int :=
  let k := if old.length = 0 then (-1 : Int) else idx (fun x : Mem => decide (x.dip = old.getD i dip0)) ms
  if k < 0 then (st.1, st.2.1, st.2.2 ++ [(i : Int)])
  else if st.1.getD k.toNat 0 = 0 then (st.1, st.2.1, st.2.2 ++ [(i : Int)])
  else (st.1.set k.toNat (st.1.getD k.toNat 0 - 1), st.2.1.set i (old.getD i dip0), st.2.2)
def fpass (old : List Dip) (ms : List Mem) (st : List Int × List Dip × List Int) (i : Nat) : List Int × List Dip × List Int := (List.range i).foldl (fstep old ms) st
/-- One open place: the first member that is left over. -/
def gstep (ms : List Mem) (st : List Int × List Dip) (i : Int) : List Int × List Dip :=
  let k := st.1.findIdx (fun x => decide (x ≠ 0))
  (st.1.set k (st.1.getD k 0 - 1), st.2.set i.toNat ((ms[k]?.map (·.dip)).getD dip0))
def fill (old : List Dip) (ms : List Mem) (n : Nat) : List Dip :=
  if ms.length = 0 then [] else
    let p := fpass old ms (shares ms n, List.replicate n dip0, []) n
    (p.2.2.foldl (gstep ms) (p.1, p.2.1)).2
def fillOKs (old : List Dip) (ms : List Mem) (n : Int) : Bool :=
  decide (1 ≤ n) && decide (n ≤ 64) && memsOK ms && (decide (old.length = 0) || decide ((old.length : Int) = n))

theorem fpass_succ (old : List Dip) (ms : List Mem) (st : List Int × List Dip × List Int) (i : Nat) : fpass old ms st (i + 1) = fstep old ms (fpass old ms st i) i := by
  simp [fpass, List.range_succ, List.foldl_append]

/-- What holds behind i places of the first pass. -/
structure FInv (nm n i : Nat) (p : List Int × List Dip × List Int) : Prop where
  lenL : p.1.length = nm
  lenD : p.2.1.length = n
  lenO : p.2.2.length ≤ i
  sum : isum p.1 + i = n + p.2.2.length
  pos : ∀ x ∈ p.1, 0 ≤ x
  open_ : ∀ x ∈ p.2.2, 0 ≤ x ∧ x < n
theorem getD_nonneg {l : List Int} (h : ∀ x ∈ l, 0 ≤ x) (i : Nat) : 0 ≤ l.getD i 0 := by
  by_cases hi : i < l.length
  · exact h _ (getD_mem hi)
  · rw [List.getD_eq_getElem?_getD, List.getElem?_eq_none (by omega)]; simp
theorem FInv.step {old : List Dip} {ms : List Mem} {n i : Nat} {p : List Int × List Dip × List Int} (h : FInv ms.length n i p) (hi : i < n) : FInv ms.length n (i + 1) (fstep old ms p i) := by
  obtain ⟨l, d, o⟩ := p
  obtain ⟨h1, h2, h3, h4, h5, h6⟩ := h
  simp only at h1 h2 h3 h4 h5 h6
  have hop : ∀ x ∈ o ++ [(i : Int)], 0 ≤ x ∧ x < n := fun x hx => by
    rcases List.mem_append.1 hx with hx | hx
    · exact h6 x hx
    · simp at hx; omega
  simp only [fstep]
  generalize hk : (if old.length = 0 then (-1 : Int) else idx (fun x : Mem => decide (x.dip = old.getD i dip0)) ms) = k
  have hkl : ¬ k < 0 → k.toNat < ms.length := by
    intro h0
    rw [← hk] at h0 ⊢
    split at h0
    · omega
    · rename_i hne
      rw [if_neg hne]
      simp only [idx] at h0 ⊢
      split at h0
      · rename_i hlt; rw [if_pos hlt]; simpa using hlt
      · omega
  split
  · exact ⟨h1, h2, by simp; omega, by simp; omega, h5, hop⟩
  · rename_i h0
    have hlt := hkl h0
    split
    · exact ⟨h1, h2, by simp; omega, by simp; omega, h5, hop⟩
    · rename_i hz
      have hg := getD_nonneg h5 k.toNat
      refine ⟨by simpa using h1, by simpa using h2, by simp only; omega, ?_, ?_, h6⟩
      · simp only
        rw [isum_set (by omega)]
        omega
      · intro x hx
        rcases mem_set_or hx with hx | rfl
        · exact h5 x hx
        · omega
theorem FInv.pass {old : List Dip} {ms : List Mem} {n : Nat} {st : List Int × List Dip × List Int} (h : FInv ms.length n 0 st) : ∀ i, i ≤ n → FInv ms.length n i (fpass old ms st i)
  | 0, _ => by simpa [fpass] using h
  | i + 1, hi => by
    rw [fpass_succ]
    exact (FInv.pass h i (by omega)).step (by omega)
theorem finv0 {ms : List Mem} {n : Nat} (hn : (n : Int) ≤ 64) (h : memsOK ms = true) (h0 : 1 ≤ ms.length) : FInv ms.length n 0 (shares ms n, List.replicate n dip0, []) := by
  have := shares_spec (n := (n : Int)) ⟨by omega, hn⟩ h h0
  exact ⟨this.1, by simp, by simp, by simp [this.2.1], this.2.2, by simp⟩
theorem isum_zero {l : List Int} (h : l.findIdx (fun x => decide (x ≠ 0)) = l.length) : isum l = 0 := by
  induction l with
  | nil => rfl
  | cons x l ih =>
    rw [List.findIdx_cons] at h
    by_cases hx : x ≠ 0
    · simp [hx] at h
    · simp only [hx, decide_false, cond_false, List.length_cons, Nat.add_right_cancel_iff] at h
      simp only [isum, ih h]
      omega
theorem find_lt {l : List Int} (h : 0 < isum l) : l.findIdx (fun x => decide (x ≠ 0)) < l.length := by
  rcases Nat.lt_or_ge (l.findIdx (fun x => decide (x ≠ 0))) l.length with h1 | h1
  · exact h1
  · have := isum_zero (Nat.le_antisymm List.findIdx_le_length h1)
    omega
theorem find_at {l : List Int} {k : Nat} (h : ∀ j, j < k → l.getD j 0 = 0) (hk : k < l.length) (hv : l.getD k 0 ≠ 0) : l.findIdx (fun x => decide (x ≠ 0)) = k := by
  rw [List.findIdx_eq hk]
  have e : ∀ j (hj : j < l.length), l[j] = l.getD j 0 := fun j hj => by rw [List.getD_eq_getElem?_getD, List.getElem?_eq_getElem hj]; rfl
  refine ⟨by rw [e]; simpa using hv, fun j hj => ?_⟩
  rw [e, h j hj]; simp
theorem find_zero {l : List Int} {j : Nat} (h : j < l.findIdx (fun x => decide (x ≠ 0))) : l.getD j 0 = 0 := by
  have hlt : j < l.length := Nat.lt_of_lt_of_le h List.findIdx_le_length
  have := List.not_of_lt_findIdx h
  rw [List.getD_eq_getElem?_getD, List.getElem?_eq_getElem hlt]
  simpa using this
theorem find_ne {l : List Int} (h : l.findIdx (fun x => decide (x ≠ 0)) < l.length) : l.getD (l.findIdx (fun x => decide (x ≠ 0))) 0 ≠ 0 := by
  have := List.findIdx_getElem (w := h)
  rw [List.getD_eq_getElem?_getD, List.getElem?_eq_getElem h]
  simpa using this
/-- What holds behind k of the open places. -/
structure GInv (ms : List Mem) (n left : Nat) (p : List Int × List Dip) : Prop where
  lenL : p.1.length = ms.length
  lenD : p.2.length = n
  sum : isum p.1 = left
  pos : ∀ x ∈ p.1, 0 ≤ x
theorem GInv.step {ms : List Mem} {n left : Nat} {p : List Int × List Dip} (h : GInv ms n (left + 1) p) (i : Int) : GInv ms n left (gstep ms p i) := by
  obtain ⟨l, d⟩ := p
  obtain ⟨h1, h2, h3, h4⟩ := h
  simp only at h1 h2 h3 h4
  have hlt := find_lt (l := l) (by omega)
  have hne := find_ne hlt
  have hg := getD_nonneg h4 (l.findIdx (fun x => decide (x ≠ 0)))
  refine ⟨by simpa [gstep] using h1, by simpa [gstep] using h2, ?_, ?_⟩
  · simp only [gstep]
    rw [isum_set hlt]
    omega
  · intro x hx
    simp only [gstep] at hx
    rcases mem_set_or hx with hx | rfl
    · exact h4 x hx
    · omega

end Go.Proofs.Ytkjecokkdbapkaa
