import Derived.Test.YtkjecokkdbapkaaZzLaw19
import Derived.Test.YtkjecokkdbapkaaProg
namespace Go.Proofs.Ytkjecokkdbapkaa
set_option linter.all false
open Go Go.Eng Go.RowKit
set_option maxRecDepth 20000
set_option maxHeartbeats 2000000
set_option linter.unusedVariables false
set_option linter.unusedSimpArgs false
attribute [local irreducible] WL W QL WA SP



def vKey : Key := mkKey 7 true true
def vp (i : Int) : Vip := ⟨17, vKey.dst, UInt16.ofInt i⟩
theorem vp_inj {i j : Nat} (hi : i < 65536) (hj : j < 65536) (h : vp i = vp j) : i = j := by
  have h2 := congrArg (fun v => v.port.toNat) h
  simp only [vp] at h2
  have e : ∀ k : Nat, k < 65536 → (UInt16.ofInt (k : Int)).toNat = k := by
    intro k hk
    have h1 := wrap_u16 (k : Int)
    rw [IntWalk.u16_in _ (by omega)] at h1
    omega
  rw [e i hi, e j hj] at h2
  exact h2
structure PInv (n : Nat) (l : List (Option Ent)) : Prop where
  len : l.length = 16
  lo : ∀ j, j < n → j < 16 → ∃ b p, l[j]? = some (some ⟨vp (j : Nat), b, p⟩)
  hi : ∀ j, n ≤ j → j < 16 → l[j]? = some none
theorem PInv.at_ {n : Nat} {l : List (Option Ent)} (h : PInv n l) {j : Nat} {e : Ent} (hj : l[j]? = some (some e)) : j < n ∧ j < 16 ∧ e.v = vp (j : Nat) := by
  have hlt : j < 16 := by rw [← h.len]; exact (List.getElem?_eq_some_iff.1 hj).1
  rcases Nat.lt_or_ge j n with h1 | h1
  · obtain ⟨b, p, e1⟩ := h.lo j h1 hlt
    rw [e1] at hj; cases hj
    exact ⟨h1, hlt, rfl⟩
  · rw [h.hi j h1 hlt] at hj; cases hj
theorem PInv.nil : PInv 0 l0 := ⟨rfl, fun j h => absurd h (by omega), fun j _ h => by rw [List.getElem?_replicate, if_pos h]⟩
theorem PInv.find {n : Nat} {l : List (Option Ent)} (h : PInv n l) {i : Nat} (hi : i < n) (h16 : i < 16) : tIdx l (vp (i : Nat)) = i := by
  obtain ⟨b, p, e1⟩ := h.lo i hi h16
  refine idx_uniq e1 (by simp [isV]) fun j y hy hp => ?_
  cases y with
  | none => cases hp
  | some e =>
    obtain ⟨_, h2, h3⟩ := h.at_ hy
    have : e.v = vp (i : Nat) := by simpa [isV] using hp
    exact vp_inj (by omega) (by omega) (h3.symm.trans this)
theorem PInv.miss {n : Nat} {l : List (Option Ent)} (h : PInv n l) {i : Nat} (hi : n ≤ i ∨ 16 ≤ i) (h16 : i < 65536) : tIdx l (vp (i : Nat)) = -1 := by
  refine idx_none fun j y hy => ?_
  cases y with
  | none => rfl
  | some e =>
    obtain ⟨h1, h2, h3⟩ := h.at_ hy
    refine isV_ne fun he => ?_
    have := vp_inj (by omega) h16 (h3.symm.trans he)
    omega
theorem PInv.other {n : Nat} {l : List (Option Ent)} (h : PInv n l) {v : Vip} (hv : v.proto ≠ 17) : tIdx l v = -1 := by
  refine idx_none fun j y hy => ?_
  cases y with
  | none => rfl
  | some e =>
    obtain ⟨h1, h2, h3⟩ := h.at_ hy
    exact isV_ne fun he => hv (by rw [← he, h3]; rfl)
theorem PInv.lows {n : Nat} {l : List (Option Ent)} (h : PInv n l) {o : Nat} (ho : o ≤ n) : (l.take o).all (fun x => !x.isNone) = true := by
  rw [List.all_eq_true]
  intro x hx
  rw [List.mem_take_iff_getElem] at hx
  obtain ⟨j, hj, rfl⟩ := hx
  have hl := h.len
  obtain ⟨b, p, e1⟩ := h.lo j (by omega) (by omega)
  have := (List.getElem?_eq_some_iff.1 e1).2
  rw [this]; rfl
theorem PInv.free {n : Nat} {l : List (Option Ent)} (h : PInv n l) (h16 : n < 16) : idx Option.isNone l = n := idx_hit (h.lows (Nat.le_refl n)) (h.hi n (Nat.le_refl n) h16) rfl
theorem PInv.full {n : Nat} {l : List (Option Ent)} (h : PInv n l) (h16 : 16 ≤ n) : idx Option.isNone l = -1 := idx_miss (i := n) (h.lows (Nat.le_refl n)) (by rw [h.len]; exact h16)
theorem PInv.add {n : Nat} {l : List (Option Ent)} (h : PInv n l) (h16 : n < 16) (b : Nat) (p : PSt) : PInv (n + 1) (l.set n (some ⟨vp (n : Nat), b, p⟩)) := by
  have hl := h.len
  refine ⟨by simpa using hl, fun j h1 h2 => ?_, fun j h1 h2 => ?_⟩
  · by_cases e : j = n
    · subst e; exact ⟨b, p, List.getElem?_set_self (by omega)⟩
    · rw [List.getElem?_set_ne (Ne.symm e)]; exact h.lo j (by omega) h2
  · rw [List.getElem?_set_ne (by omega)]; exact h.hi j (by omega) h2
theorem PInv.more {n : Nat} {l : List (Option Ent)} (h : PInv n l) (h16 : 16 ≤ n) : PInv (n + 1) l := ⟨h.len, fun j _ h2 => h.lo j (by omega) h2, fun j h1 h2 => absurd h2 (by omega)⟩
theorem count_pre : ∀ (l : List (Option Ent)) (n : Nat), (∀ j, j < l.length → ∀ x, l[j]? = some x → (j < n → x.isSome = true) ∧ (n ≤ j → x = none)) → count l = min n l.length
  | [], n, _ => by simp [count]
  | x :: l, n, h => by
    have h0 := h 0 (by simp) x (by simp)
    have ih := count_pre l (n - 1) fun j hj y hy => by
      have := h (j + 1) (by simp; omega) y (by simpa using hy)
      exact ⟨fun e => this.1 (by omega), fun e => by
        by_cases hn : n = 0
        · exact this.2 (by omega)
        · exact this.2 (by omega)⟩
    simp only [count, List.filter_cons, List.length_cons] at ih ⊢
    by_cases hn : n = 0
    · subst hn
      rw [h0.2 (Nat.zero_le _)]
      simp at ih ⊢
      exact ih
    · have hs := h0.1 (by omega)
      rw [hs]
      simp only [if_true, List.length_cons]
      rw [ih]; omega
theorem PInv.cnt {n : Nat} {l : List (Option Ent)} (h : PInv n l) : count l = min n 16 := by
  have := count_pre l n fun j hj x hx => by
    have hl := h.len
    refine ⟨fun hn => ?_, fun hn => ?_⟩
    · obtain ⟨b, p, e1⟩ := h.lo j hn (by omega)
      rw [e1] at hx; cases hx; rfl
    · rw [h.hi j hn (by omega)] at hx; cases hx; rfl
  rw [this, h.len]
theorem PInv.uniq {n : Nat} {l : List (Option Ent)} (h : PInv n l) : ∀ (i j : Nat) (e e' : Ent), l[i]? = some (some e) → l[j]? = some (some e') → e.v = e'.v → i = j := fun i j e e' h1 h2 he => by
  obtain ⟨_, a2, a3⟩ := h.at_ h1
  obtain ⟨_, b2, b3⟩ := h.at_ h2
  exact vp_inj (by omega) (by omega) (a3.symm.trans (he.trans b3))
theorem PInv.del_free {n : Nat} {l : List (Option Ent)} (h : PInv n l) {o : Nat} (ho : o < n) (h16 : o < 16) : idx Option.isNone (l.set o none) = o := by
  have hl := h.len
  refine idx_hit (x := none) ?_ (List.getElem?_set_self (by omega)) rfl
  rw [List.take_set_of_le (Nat.le_refl o)]
  exact h.lows (by omega)
theorem PInv.del_find {n : Nat} {l : List (Option Ent)} (h : PInv n l) {o : Nat} {e : Ent} (ho : l[o]? = some (some e)) : tIdx (l.set o none) e.v = -1 := by
  rw [rel_del ho h.uniq, if_pos rfl]
theorem PInv.del_count {n : Nat} {l : List (Option Ent)} (h : PInv n l) {o : Nat} {e : Ent} (ho : l[o]? = some (some e)) : (count (l.set o none) : Int) = (min n 16 : Nat) - 1 := by
  have := count_set (x := none) ho
  rw [h.cnt] at this
  simp at this
  omega
theorem PInv.again {n : Nat} {l : List (Option Ent)} (h : PInv n l) {o : Nat} (ho : o < n) (h16 : o < 16) (b : Nat) (p : PSt) : PInv n ((l.set o none).set o (some ⟨vp (o : Nat), b, p⟩)) := by
  have hl := h.len
  rw [List.set_set]
  refine ⟨by simpa using hl, fun j h1 h2 => ?_, fun j h1 h2 => ?_⟩
  · by_cases e : j = o
    · subst e; exact ⟨b, p, List.getElem?_set_self (by omega)⟩
    · rw [List.getElem?_set_ne (Ne.symm e)]; exact h.lo j h1 h2
  · rw [List.getElem?_set_ne (by omega)]; exact h.hi j h1 h2
theorem vp_ok (i : Int) : vipOK (vp i) = true := by
  have h1 : protoOK 17 = true := rfl
  have h2 : adrOK vKey.dst = true := by kernel_rfl
  simp only [vipOK, vp, h1, h2]; rfl
theorem vp_err {l : List (Option Ent)} {i : Int} (ht : tIdx l (vp i) < 0) : addErr (roomy 2) l (vp i) [] = if idx Option.isNone l < 0 then 3 else 0 := by
  have h1 : (vipOK (vp i) && memsOK []) = true := by rw [vp_ok]; rfl
  have h2 : (!(roomy 2).encap && kinds (vp i) []) = false := rfl
  simp only [addErr, h1, h2, ht, not_true, if_false]
  rfl
def kAt (pr : UInt8) (d : UInt16) : Key := ⟨pr, vKey.src, vKey.dst, vKey.sport, d⟩
theorem kAt_ok (pr : UInt8) (d : UInt16) (h : protoOK pr = true) : keyOK (kAt pr d) = true := by
  have h1 : adrOK vKey.src = true := by kernel_rfl
  have h2 : adrOK vKey.dst = true := by kernel_rfl
  have h3 : decide (vKey.src.v6 = vKey.dst.v6) = true := by kernel_rfl
  simp only [keyOK, kAt, h, h1, h2, h3]; rfl
theorem vKey_is : vKey = kAt 17 80 := rfl
theorem PInv.of_yes {n : Nat} {l : List (Option Ent)} (h : PInv n l) {i : Nat} (hi : i < n) (h16 : i < 16) : ofR l (kAt 17 (UInt16.ofInt (i : Nat))) = .tuple #[i64 (i : Nat), bl true] := by
  have hk : keyVip (kAt 17 (UInt16.ofInt (i : Nat))) = vp (i : Nat) := rfl
  have h0 : ¬ ((i : Nat) : Int) < 0 := by omega
  simp only [ofR, kAt_ok 17 _ rfl, if_true, findR, hk, h.find hi h16, h0, if_false]
theorem PInv.of_no {n : Nat} {l : List (Option Ent)} (h : PInv n l) {i : Nat} (hi : n ≤ i ∨ 16 ≤ i) (h16 : i < 65536) : ofR l (kAt 17 (UInt16.ofInt (i : Nat))) = .tuple #[i64 0, bl false] := by
  have hk : keyVip (kAt 17 (UInt16.ofInt (i : Nat))) = vp (i : Nat) := rfl
  have h0 : ((-1 : Int) < 0) := by decide
  simp only [ofR, kAt_ok 17 _ rfl, if_true, findR, hk, h.miss hi h16, h0]
theorem PInv.of_tcp {n : Nat} {l : List (Option Ent)} (h : PInv n l) (d : UInt16) : ofR l (kAt 6 d) = .tuple #[i64 0, bl false] := by
  have h0 : ((-1 : Int) < 0) := by decide
  have h1 := h.other (v := keyVip (kAt 6 d)) (by decide : (6 : UInt8) ≠ 17)
  simp only [ofR, kAt_ok 6 _ rfl, if_true, findR, h1, h0]

end Go.Proofs.Ytkjecokkdbapkaa
