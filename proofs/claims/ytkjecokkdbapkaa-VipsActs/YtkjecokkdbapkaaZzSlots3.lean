import Derived.Test.YtkjecokkdbapkaaZzSlots2
import Derived.Test.YtkjecokkdbapkaaProg
namespace Go.Proofs.Ytkjecokkdbapkaa
set_option linter.all false
open Go Go.Eng Go.RowKit
set_option maxRecDepth 20000
set_option maxHeartbeats 2000000
set_option linter.unusedVariables false
set_option linter.unusedSimpArgs false
attribute [local irreducible] WL W QL WA SP



def sumW : List Mem → Int
  | [] => 0
  | m :: l => m.wt + sumW l
def isum : List Int → Int
  | [] => 0
  | x :: l => x + isum l
def sbase (n s : Int) (m : Mem) : Int := (n * m.wt).tdiv s
def srest (n s : Int) (m : Mem) : Int := (n * m.wt).tmod s
def bump : Nat → List Int → List Int → List Int
  | 0, o, _ => o
  | k + 1, o, r =>
    let i := (idx (fun x => maxL r == x) r).toNat
    bump k (o.set i (o.getD i 0 + 1)) (r.set i (-1))
def shares (ms : List Mem) (n : Int) : List Int :=
  bump (n - isum (ms.map (sbase n (sumW ms)))).toNat (ms.map (sbase n (sumW ms))) (ms.map (srest n (sumW ms)))

theorem sumW_append (a b : List Mem) : sumW (a ++ b) = sumW a + sumW b := by
  induction a with
  | nil => simp [sumW]
  | cons x a ih => simp only [List.cons_append, sumW, ih]; omega
theorem isum_append (a b : List Int) : isum (a ++ b) = isum a + isum b := by
  induction a with
  | nil => simp [isum]
  | cons x a ih => simp only [List.cons_append, isum, ih]; omega
theorem sumW_bd {l : List Mem} (h : ∀ x ∈ l, 1 ≤ x.wt ∧ x.wt ≤ 16) : (l.length : Int) ≤ sumW l ∧ sumW l ≤ 16 * l.length := by
  induction l with
  | nil => simp [sumW]
  | cons x l ih =>
    have h1 := ih fun y hy => h y (by simp [hy])
    have h2 := h x (by simp)
    simp only [sumW, List.length_cons]
    omega
theorem memsOK_wt {ms : List Mem} (h : memsOK ms = true) : ∀ x ∈ ms, 1 ≤ x.wt ∧ x.wt ≤ 16 := by
  intro x hx
  simp only [memsOK, Bool.and_eq_true] at h
  have := List.all_eq_true.1 h.1.2 x hx
  simp only [memOK, Bool.and_eq_true, decide_eq_true_eq] at this
  omega
theorem memsOK_len {ms : List Mem} (h : memsOK ms = true) : ms.length ≤ 32 := by
  simp only [memsOK, Bool.and_eq_true, decide_eq_true_eq] at h
  exact h.1.1
theorem memsOK_nodup {ms : List Mem} (h : memsOK ms = true) : (ms.map (·.dip)).Nodup := by
  simp only [memsOK, Bool.and_eq_true, decide_eq_true_eq] at h
  exact h.2
theorem mul_bd {n wt : Int} (h : 0 ≤ n ∧ n ≤ 64) (h2 : 1 ≤ wt ∧ wt ≤ 16) : 0 ≤ n * wt ∧ n * wt ≤ 1024 :=
  ⟨Int.mul_nonneg h.1 (by omega), by
    have := Int.mul_le_mul h.2 h2.2 (by omega) (by omega)
    omega⟩
theorem sbase_bd {n s : Int} {m : Mem} (h : 0 ≤ n ∧ n ≤ 64) (h2 : 1 ≤ m.wt ∧ m.wt ≤ 16) (hs : 0 < s) : 0 ≤ sbase n s m ∧ sbase n s m ≤ 1024 := by
  have h3 := mul_bd h h2
  refine ⟨Int.tdiv_nonneg h3.1 (by omega), ?_⟩
  have : (n * m.wt).tdiv s ≤ n * m.wt := by
    rw [Int.tdiv_eq_ediv_of_nonneg h3.1]
    exact Int.ediv_le_self _ h3.1
  simp only [sbase]
  omega
theorem isum_bd {l : List Int} {B : Int} (h : ∀ x ∈ l, 0 ≤ x ∧ x ≤ B) : 0 ≤ isum l ∧ isum l ≤ B * l.length := by
  induction l with
  | nil => simp [isum]
  | cons x l ih =>
    have h1 := ih fun y hy => h y (by simp [hy])
    have h2 := h x (by simp)
    simp only [isum, List.length_cons, Int.natCast_add, Int.mul_add]
    omega
theorem base_le {n s : Int} (hn : 0 ≤ n ∧ n ≤ 64) (hs : 0 < s) : ∀ {l : List Mem}, (∀ x ∈ l, 1 ≤ x.wt ∧ x.wt ≤ 16) → s * isum (l.map (sbase n s)) ≤ n * sumW l
  | [], _ => by simp [isum, sumW]
  | x :: l, h => by
    have h1 := base_le hn hs (l := l) fun y hy => h y (by simp [hy])
    have h2 := mul_bd hn (h x (by simp))
    have h3 : s * sbase n s x ≤ n * x.wt := by
      simp only [sbase]
      rw [Int.tdiv_eq_ediv_of_nonneg h2.1]
      exact Int.mul_ediv_self_le (by omega)
    simp only [List.map_cons, isum, sumW, Int.mul_add]
    omega
theorem left_nonneg {ms : List Mem} {n : Int} (hn : 0 ≤ n ∧ n ≤ 64) (h : ∀ x ∈ ms, 1 ≤ x.wt ∧ x.wt ≤ 16) (h0 : 0 < sumW ms) : 0 ≤ n - isum (ms.map (sbase n (sumW ms))) := by
  have h1 := base_le hn h0 h
  rw [Int.mul_comm n] at h1
  have := Int.le_of_mul_le_mul_left h1 h0
  omega
theorem idx_max {r : List Int} (h : 1 ≤ r.length) : ∃ i : Nat, idx (fun x => maxL r == x) r = i ∧ i < r.length := by
  have hm := (maxL_in h).1
  have hlt : r.findIdx (fun x => maxL r == x) < r.length := List.findIdx_lt_length_of_exists ⟨_, hm, by simp⟩
  exact ⟨_, by simp [idx, hlt], hlt⟩
theorem isum_set {l : List Int} {i : Nat} (h : i < l.length) (v : Int) : isum (l.set i v) = isum l - l.getD i 0 + v := by
  induction l generalizing i with
  | nil => simp at h
  | cons x l ih =>
    cases i with
    | zero => simp [isum]; omega
    | succ i =>
      have := ih (i := i) (by simpa using h)
      simp [isum] at this ⊢
      omega
theorem mem_set_or {α : Type} {l : List α} {i : Nat} {v x : α} (h : x ∈ l.set i v) : x ∈ l ∨ x = v := by
  rcases List.mem_or_eq_of_mem_set h with h | h
  · exact .inl h
  · exact .inr h
theorem getD_mem {l : List Int} {i : Nat} (h : i < l.length) : l.getD i 0 ∈ l := by
  rw [List.getD_eq_getElem?_getD, List.getElem?_eq_getElem h]
  exact List.getElem_mem h
theorem bump_spec : ∀ (k : Nat) (o r : List Int), o.length = r.length → 1 ≤ r.length → (∀ x ∈ o, 0 ≤ x) → (bump k o r).length = o.length ∧ isum (bump k o r) = isum o + k ∧ ∀ x ∈ bump k o r, 0 ≤ x
  | 0, o, r, _, _, h => by simpa [bump] using h
  | k + 1, o, r, hl, h1, h => by
    obtain ⟨i, hi, hlt⟩ := idx_max h1
    simp only [bump, hi, Int.toNat_natCast]
    have hlo : i < o.length := by omega
    have hg := h _ (getD_mem hlo)
    have := bump_spec k (o.set i (o.getD i 0 + 1)) (r.set i (-1)) (by simpa using hl) (by simpa using h1) (fun x hx => by
      rcases mem_set_or hx with hx | rfl
      · exact h x hx
      · omega)
    rw [isum_set hlo, List.length_set] at this
    refine ⟨this.1, ?_, this.2.2⟩
    rw [this.2.1]
    simp
    omega
theorem shares_spec {ms : List Mem} {n : Int} (hn : 0 ≤ n ∧ n ≤ 64) (h : memsOK ms = true) (h0 : 1 ≤ ms.length) : (shares ms n).length = ms.length ∧ isum (shares ms n) = n ∧ ∀ x ∈ shares ms n, 0 ≤ x := by
  have hw := memsOK_wt h
  have hs := sumW_bd hw
  have hl := left_nonneg hn hw (by omega)
  have := bump_spec (n - isum (ms.map (sbase n (sumW ms)))).toNat (ms.map (sbase n (sumW ms))) (ms.map (srest n (sumW ms))) (by simp) (by simpa using h0) (fun x hx => by
    obtain ⟨y, hy, rfl⟩ := List.mem_map.1 hx
    exact (sbase_bd hn (hw y hy) (by omega)).1)
  refine ⟨this.1.trans (by simp), ?_, this.2.2⟩
  have e := this.2.1
  rw [Int.toNat_of_nonneg hl] at e
  show isum (bump _ _ _) = n
  omega

end Go.Proofs.Ytkjecokkdbapkaa
