import Derived.Test.YtkjecokkdbapkaaZzRef3
import Derived.Test.YtkjecokkdbapkaaProg
namespace Go.Proofs.Ytkjecokkdbapkaa
set_option linter.all false
open Go Go.Eng Go.RowKit
set_option maxRecDepth 20000
set_option maxHeartbeats 2000000
set_option linter.unusedVariables false
set_option linter.unusedSimpArgs false
attribute [local irreducible] WL W QL WA SP

def zc4 : List Value := [.bool false]
theorem el51_4 : Elem Try.prog 51 4 1 1 zc4 := ⟨Try.underlying51, ⟨Try.t4, _, rfl, rfl, rfl, rfl, rfl⟩, rfl, rfl⟩

/-- The places below i that are still open. -/
def opens (K : List Bool) (i : Nat) : List Int := ofNats ((List.range i).filter (fun j => !K.getD j false))
theorem opens_succ {K : List Bool} {i : Nat} : opens K (i + 1) = opens K i ++ if K.getD i false = true then [] else [(i : Int)] := by
  simp only [opens, filt_succ (f := fun j => !K.getD j false), ofNats, List.map_append]
  congr 1
  cases K.getD i false <;> rfl
theorem getDB_set {K : List Bool} {i j : Nat} (h : i < K.length) (b : Bool) : (K.set i b).getD j false = if j = i then b else K.getD j false := by
  rw [List.getD_eq_getElem?_getD, List.getD_eq_getElem?_getD]
  by_cases e : j = i
  · subst e; rw [List.getElem?_set_self h, if_pos rfl]; rfl
  · rw [List.getElem?_set_ne (Ne.symm e), if_neg e]
theorem opens_set {K : List Bool} {i n : Nat} (h : i < K.length) (hn : n ≤ i) (b : Bool) : opens (K.set i b) n = opens K n := by
  unfold opens
  congr 1
  refine List.filter_congr fun j hj => ?_
  rw [List.mem_range] at hj
  rw [getDB_set h, if_neg (by omega)]
theorem opens_rep (n i : Nat) : opens (List.replicate n false) i = ofNats (List.range i) := by
  unfold opens
  congr 1
  rw [List.filter_eq_self]
  intro j _
  rw [List.getD_eq_getElem?_getD, List.getElem?_replicate]
  split <;> rfl
theorem fpass_empty {ms : List Mem} {old : List Dip} (h : old.length = 0) (l : List Int) (d : List Dip) : ∀ i, fpass old ms (l, d, []) i = (l, d, ofNats (List.range i))
  | 0 => rfl
  | i + 1 => by
    rw [fpass_succ, fpass_empty h l d i, fstep_no (.inl h)]
    simp [List.range_succ, ofNats]
/-- What the first pass of the document leaves. -/
structure KInv (n i : Nat) (K : List Bool) (o : List Int) : Prop where
  len : K.length = n
  op : o = opens K i
  un : ∀ j, i ≤ j → K.getD j false = false
theorem KInv.start (n : Nat) : KInv n 0 (List.replicate n false) [] := ⟨by simp, rfl, fun j _ => by rw [List.getD_eq_getElem?_getD, List.getElem?_replicate]; split <;> rfl⟩
theorem KInv.keep {n i : Nat} {K : List Bool} {o : List Int} (h : KInv n i K o) (hi : i < n) : KInv n (i + 1) (K.set i true) o := by
  have hl := h.len
  refine ⟨by simpa using hl, ?_, fun j hj => ?_⟩
  · rw [opens_succ, opens_set (by omega) (Nat.le_refl i), getDB_set (by omega), if_pos rfl, if_pos rfl, List.append_nil]; exact h.op
  · rw [getDB_set (by omega), if_neg (by omega)]; exact h.un j (by omega)
theorem KInv.open_ {n i : Nat} {K : List Bool} {o : List Int} (h : KInv n i K o) : KInv n (i + 1) K (o ++ [(i : Int)]) := by
  refine ⟨h.len, ?_, fun j hj => h.un j (by omega)⟩
  have := h.un i (Nat.le_refl i)
  rw [opens_succ, this, ← h.op]; rfl
def pF (old : List Dip) (ms : List Mem) (n i : Nat) : List Int × List Dip × List Int := fpass old ms (shares ms n, List.replicate n dip0, []) i
theorem pF_succ (old : List Dip) (ms : List Mem) (n i : Nat) : pF old ms n (i + 1) = fstep old ms (pF old ms n i) i := fpass_succ _ _ _ _
theorem fpassA {old : List Dip} {ms : List Mem} {n i k : Nat} {K : List Bool} {x : Int} {d : Dip} (hK : KInv n i K (pF old ms n i).2.2) (hi : i < n) (h0 : ¬ old.length = 0) (hd : old[i]? = some d) (hk : idx (fun x : Mem => decide (x.dip = d)) ms = k) (hx : (pF old ms n i).1[k]? = some x) (hz : 0 < x) :
    pF old ms n (i + 1) = ((pF old ms n i).1.set k (x - 1), (pF old ms n i).2.1.set i d, (pF old ms n i).2.2) ∧ KInv n (i + 1) (K.set i true) (pF old ms n (i + 1)).2.2 := by
  have e : old.getD i dip0 = d := by rw [List.getD_eq_getElem?_getD, hd]; rfl
  have e2 : (pF old ms n i).1.getD k 0 = x := by rw [List.getD_eq_getElem?_getD, hx]; rfl
  have := fstep_keep (p := pF old ms n i) (i := i) h0 (by rw [e]; exact hk) (by rw [e2]; omega)
  rw [e, e2] at this
  rw [pF_succ, this]
  exact ⟨rfl, hK.keep hi⟩
theorem fpassB {old : List Dip} {ms : List Mem} {n i k : Nat} {K : List Bool} {x : Int} {d : Dip} (hK : KInv n i K (pF old ms n i).2.2) (h0 : ¬ old.length = 0) (hd : old[i]? = some d) (hk : idx (fun x : Mem => decide (x.dip = d)) ms = k) (hx : (pF old ms n i).1[k]? = some x) (hz : x = 0) :
    pF old ms n (i + 1) = ((pF old ms n i).1, (pF old ms n i).2.1, (pF old ms n i).2.2 ++ [(i : Int)]) ∧ KInv n (i + 1) K (pF old ms n (i + 1)).2.2 := by
  have e : old.getD i dip0 = d := by rw [List.getD_eq_getElem?_getD, hd]; rfl
  have e2 : (pF old ms n i).1.getD k 0 = x := by rw [List.getD_eq_getElem?_getD, hx]; rfl
  have := fstep_full (p := pF old ms n i) (i := i) h0 (by rw [e]; exact hk) (by rw [e2]; exact hz)
  rw [pF_succ, this]
  exact ⟨rfl, hK.open_⟩
theorem fpassC {old : List Dip} {ms : List Mem} {n i : Nat} {K : List Bool} {d : Dip} (hK : KInv n i K (pF old ms n i).2.2) (hd : old[i]? = some d) (hk : idx (fun x : Mem => decide (x.dip = d)) ms < 0) :
    pF old ms n (i + 1) = ((pF old ms n i).1, (pF old ms n i).2.1, (pF old ms n i).2.2 ++ [(i : Int)]) ∧ KInv n (i + 1) K (pF old ms n (i + 1)).2.2 := by
  have e : old.getD i dip0 = d := by rw [List.getD_eq_getElem?_getD, hd]; rfl
  have := fstep_no (p := pF old ms n i) (i := i) (.inr (by rw [e]; exact hk))
  rw [pF_succ, this]
  exact ⟨rfl, hK.open_⟩
/-- Behind the first pass. -/
theorem pF_end {old : List Dip} {ms : List Mem} {n i : Nat} {K : List Bool} (h : old.length = 0 ∨ old.length = n) (hi : i = old.length) (hK : KInv n i K (pF old ms n i).2.2) :
    ∃ K', K'.length = n ∧ (pF old ms n n).2.2 = opens K' n ∧ K' = K ∧ (pF old ms n n).1 = (pF old ms n i).1 ∧ (pF old ms n n).2.1 = (pF old ms n i).2.1 := by
  refine ⟨K, hK.len, ?_, rfl, ?_, ?_⟩
  all_goals rcases h with h | h
  · have hi0 : i = 0 := by omega
    subst hi0
    have hz : K = List.replicate n false := by
      apply List.ext_getElem?
      intro j
      rw [List.getElem?_replicate]
      have hl := hK.len
      split
      · have := hK.un j (Nat.zero_le _)
        rw [List.getD_eq_getElem?_getD, List.getElem?_eq_getElem (by omega)] at this
        rw [List.getElem?_eq_getElem (by omega)]
        simpa using this
      · rw [List.getElem?_eq_none (by omega)]
    rw [hz, opens_rep, pF, fpass_empty h]
  · rw [show n = i by omega] at hK ⊢; exact hK.op
  · rw [show i = 0 by omega]; simp only [pF, fpass_empty h]
  · rw [show n = i by omega]
  · rw [show i = 0 by omega]; simp only [pF, fpass_empty h]
  · rw [show n = i by omega]
def qN (K : List Bool) (i : Nat) : Nat := (opens K i).length
abbrev pG (old : List Dip) (ms : List Mem) (n q : Nat) : List Int × List Dip := gpass ms (pF old ms n n) q
theorem qN_succ {K : List Bool} {i : Nat} : qN K (i + 1) = qN K i + if K.getD i false = true then 0 else 1 := by
  unfold qN
  rw [opens_succ, List.length_append]
  cases K.getD i false <;> rfl
theorem opens_at {K : List Bool} {n i : Nat} (hi : i < n) (h : K.getD i false = false) : (opens K n)[qN K i]? = some (i : Int) := by
  obtain ⟨rest, hr⟩ := filt_split (f := fun j => !K.getD j false) hi (by rw [h]; rfl)
  unfold qN opens
  rw [hr]
  simp [ofNats]
theorem qN_le {K : List Bool} {i n : Nat} (h : i ≤ n) : qN K i ≤ qN K n := by
  induction n with
  | zero => rw [show i = 0 by omega]; exact Nat.le_refl _
  | succ n ih =>
    by_cases e : i = n + 1
    · rw [e]; exact Nat.le_refl _
    · have := ih (by omega)
      have := qN_succ (K := K) (i := n)
      omega
/-- One open place is filled. -/
theorem pG_step {old : List Dip} {ms : List Mem} {n i k : Nat} {K : List Bool} {x : Int} {m : Mem} (ho : (pF old ms n n).2.2 = opens K n) (hi : i < n) (h : K.getD i false = false) (hz : ∀ t, t < k → (pG old ms n (qN K i)).1.getD t 0 = 0) (hx : (pG old ms n (qN K i)).1[k]? = some x) (hx0 : 0 < x) (hm : ms[k]? = some m) :
    pG old ms n (qN K i + 1) = ((pG old ms n (qN K i)).1.set k (x - 1), (pG old ms n (qN K i)).2.set i m.dip) := by
  have e2 : (pG old ms n (qN K i)).1.getD k 0 = x := by rw [List.getD_eq_getElem?_getD, hx]; rfl
  have hk := find_at hz (List.getElem?_eq_some_iff.1 hx).1 (by rw [e2]; omega)
  have hq : (pF old ms n n).2.2[qN K i]? = some (i : Int) := by rw [ho]; exact opens_at hi h
  unfold pG at hk e2 ⊢
  rw [gpass_succ hq]
  simp only [gstep, hk, e2, Int.toNat_natCast, hm]
  rfl
end Go.Proofs.Ytkjecokkdbapkaa
