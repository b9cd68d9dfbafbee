import Derived.Test.YtkjecokkdbapkaaZzSt2
import Derived.ProofKit
import Derived.OpenShut
import Derived.ShutString
import Derived.ChangeOld
import Derived.Below
import Derived.DataElems
namespace Go.Eng
set_option linter.all false
open Go Go.RowKit

/-! ## What came in -/
/-- Cells that read as a value of type t are an 'enc a'. -/
def Opens {α : Type} (P : Program) (t : TypeId) (enc : α → List Value) (ok : α → Prop) : Prop :=
  ∀ {H : Type} {en : TypeId × Value → H} {w : World} {base : Nat} {sp : Nat → Bool} {held : Bool} {fuel : Nat} {cs : List Value} {x : DataW H × List MemPlace},
    DataW.trod en P w base sp held fuel t cs = some x → ∃ a, cs = enc a ∧ ok a

theorem okI_wf {n : Int} (h : (Lit.int .i64 n).wf = true) : okI n := by
  simp [Lit.wf, IntKind.min, IntKind.max, IntKind.signed, IntKind.bits] at h
  exact h
theorem Opens.int {P : Program} {t : TypeId} (ht : P.underlying t = some (.int .i64)) : Opens P t (fun n : Int => [i64 n]) okI := fun h => by
  obtain ⟨n, rfl, _, hw⟩ := DataW.trod_int ht h
  exact ⟨n, rfl, okI_wf hw⟩
theorem Opens.bool {P : Program} {t : TypeId} (ht : P.underlying t = some .bool) : Opens P t (fun b : Bool => [bl b]) (fun _ => True) := fun h => by
  obtain ⟨b, rfl, _⟩ := DataW.trod_bool ht h
  exact ⟨b, rfl, trivial⟩
theorem Opens.u8 {P : Program} {t : TypeId} (ht : P.underlying t = some (.int .u8)) : Opens P t (fun b : UInt8 => [u8 b]) (fun _ => True) := fun h => by
  obtain ⟨n, rfl, _, hw⟩ := DataW.trod_int ht h
  simp [Lit.wf, IntKind.min, IntKind.max, IntKind.signed, IntKind.bits] at hw
  refine ⟨UInt8.ofNat n.toNat, ?_, trivial⟩
  have : (UInt8.ofNat n.toNat).toNat = n.toNat := by simp; omega
  simp only [u8, this]
  congr 2; omega
theorem Opens.u16 {P : Program} {t : TypeId} (ht : P.underlying t = some (.int .u16)) : Opens P t (fun b : UInt16 => [u16 b]) (fun _ => True) := fun h => by
  obtain ⟨n, rfl, _, hw⟩ := DataW.trod_int ht h
  simp [Lit.wf, IntKind.min, IntKind.max, IntKind.signed, IntKind.bits] at hw
  refine ⟨UInt16.ofNat n.toNat, ?_, trivial⟩
  have : (UInt16.ofNat n.toNat).toNat = n.toNat := by simp; omega
  simp only [u16, this]
  congr 2; omega

theorem list_choice {α : Type} {Q : Nat → α → Prop} : ∀ (m : Nat), (∀ i, i < m → ∃ x, Q i x) → ∃ l : List α, l.length = m ∧ ∀ i x, l[i]? = some x → Q i x
  | 0, _ => ⟨[], rfl, fun i x h => by simp at h⟩
  | m + 1, h => by
    obtain ⟨l, hl, hq⟩ := list_choice m fun i hi => h i (by omega)
    obtain ⟨x, hx⟩ := h m (by omega)
    refine ⟨l ++ [x], by simp [hl], fun i y hy => ?_⟩
    rcases Nat.lt_or_ge i l.length with hlt | hge
    · rw [List.getElem?_append_left hlt] at hy; exact hq i y hy
    · rw [List.getElem?_append_right hge] at hy
      have h0 : i - l.length = 0 := by
        cases hd : i - l.length with
        | zero => rfl
        | succ k => rw [hd] at hy; simp at hy
      rw [h0] at hy; simp at hy; subst hy
      have : i = m := by omega
      subst this; exact hx

section
variable {α : Type} {enc : α → List Value} {sz : Nat} {ok : α → Prop}
theorem Sli.of_trod {H : Type} {en : TypeId × Value → H} {P : Program} {w : World} {base : Nat} {held : Bool} {t e : TypeId} {a : Option Addr} {len cap : Nat} {d : DataW H} {ps : List MemPlace}
    (E : Enc enc sz) (hs : 0 < sz) (ht : P.underlying t = some (.slice e)) (hc : P.cellsOf e = sz) (O : Opens P e enc ok)
    (h : DataW.Trod en P w base (fun _ => true) held t (.slice a len cap) d ps) : ∃ xs : List α, Sli enc sz w a cap xs ∧ xs.length = len ∧ (∀ x ∈ xs, ok x) ∧ len ≤ maxLen := by
  obtain ⟨fuel, h⟩ := h
  have hcs : (Value.slice a len cap).cells.toList = [.slice a len cap] := rfl
  rw [hcs] at h
  rcases DataW.trod_slice ht h with ⟨h0, _⟩ | ⟨ad, l, c, elems, rest, n, _, h0, _, hb, hl, hm, hel, hE, hR, _⟩
  · simp at h0
    obtain ⟨rfl, rfl, rfl⟩ := h0
    exact ⟨[], Sli.nil _ _ _, rfl, (fun x hx => absurd hx (by simp)), Nat.zero_le _⟩
  · simp at h0
    obtain ⟨rfl, rfl, rfl⟩ := h0
    obtain ⟨hrl, hR⟩ := hR rfl
    have hq : ∀ i, i < cap → ∃ x, ok x ∧ w.cells? base (ad.add (i * sz)) sz = some (enc x) := by
      intro i hi
      have key : ∃ y, (w.cells? base (ad.add (i * P.cellsOf e)) (P.cellsOf e)).bind (DataW.trod en P w base (fun _ => true) held n e) = some y := by
        by_cases h1 : i < len
        · exact ⟨elems[i]'(by omega), by rw [hE i h1, List.getElem?_eq_getElem]⟩
        · have := hR (i - len) (by omega)
          rw [show len + (i - len) = i by omega] at this
          exact ⟨rest[i - len]'(by omega), by rw [this, List.getElem?_eq_getElem]⟩
      obtain ⟨y, hy⟩ := key
      rw [Option.bind_eq_some_iff] at hy
      obtain ⟨ci, h1, h2⟩ := hy
      obtain ⟨x, rfl, hx⟩ := O h2
      rw [hc] at h1
      exact ⟨x, hx, h1⟩
    obtain ⟨l, hll, hlq⟩ := list_choice cap hq
    have hcell : ∀ i j x, l[i]? = some x → j < sz → w.cell? (ad.add (i * sz + j)) = (enc x)[j]? := by
      intro i j x hx hj
      have h1 := (World.cells?_some (hlq i x hx).2).2.2 j hj
      rw [← h1, Addr.add_add]
    refine ⟨l.take len, ?_, by simp; omega, fun x hx => ?_, by omega⟩
    rotate_left
    · obtain ⟨i, hi⟩ := List.getElem?_of_mem (List.mem_of_mem_take hx)
      exact (hlq i x hi).1
    by_cases hc0 : cap = 0
    · exact .inl ⟨hc0, by have : len = 0 := by omega
                          subst this; simp⟩
    · obtain ⟨x0, hx0⟩ : ∃ x, l[0]? = some x := ⟨l[0]'(by omega), List.getElem?_eq_getElem _⟩
      have hl0 := E.len x0
      have h00 := hcell 0 0 x0 hx0 hs
      rw [List.getElem?_eq_getElem (show 0 < (enc x0).length by omega)] at h00
      obtain ⟨b, off, sp⟩ := ad
      obtain ⟨hsp, cs, T, z, hb', h1⟩ := cell_some h00
      have hsn : sp = none := by
        unfold Addr.add at hsp
        split at hsp <;> simp_all
      subst hsn
      rw [add_at] at hb'
      simp only at hb'
      have hcs : ∀ i j x, l[i]? = some x → j < sz → cs.toList[off + (i * sz + j)]? = (enc x)[j]? := fun i j x hx hj => by
        have := hcell i j x hx hj
        rw [add_at] at this
        unfold World.cell? at this
        simp only [hb'] at this
        simpa using this
      have hroom : off + cap * sz ≤ cs.toList.length := by
        obtain ⟨x, hx⟩ : ∃ x, l[cap - 1]? = some x := ⟨l[cap - 1]'(by omega), List.getElem?_eq_getElem _⟩
        have h2 := hcs (cap - 1) (sz - 1) x hx (by omega)
        have hlx := E.len x
        rw [List.getElem?_eq_getElem (show sz - 1 < (enc x).length by omega)] at h2
        have h3 := (List.getElem?_eq_some_iff.1 h2).1
        have h4 : (cap - 1 + 1) * sz = (cap - 1) * sz + sz := by rw [Nat.add_mul]; omega
        rw [show cap - 1 + 1 = cap by omega] at h4
        omega
      have hlen : (l.take len).length = len := by simp; omega
      refine .inr ⟨b, off, cs.toList, rfl, ⟨T, z, by simpa using hb'⟩, by omega, hroom, ?_⟩
      apply List.ext_getElem?
      intro k
      rw [hlen, List.getElem?_take, List.getElem?_drop]
      by_cases hk : k < len * sz
      · rw [if_pos hk]
        have hdm := Nat.div_add_mod k sz
        have hmod := Nat.mod_lt k hs
        have hdiv : k / sz < len := Nat.div_lt_of_lt_mul (by rw [Nat.mul_comm]; exact hk)
        obtain ⟨x, hx⟩ : ∃ x, l[k / sz]? = some x := ⟨l[k / sz]'(by omega), List.getElem?_eq_getElem _⟩
        have hx' : (l.take len)[k / sz]? = some x := by rw [List.getElem?_take_of_lt hdiv]; exact hx
        have e1 := hcs (k / sz) (k % sz) x hx hmod
        have e2 := flat_cell E hx' hmod
        have e3 : k / sz * sz + k % sz = k := by rw [Nat.mul_comm]; exact hdm
        rw [e3] at e1 e2
        rw [e1, e2]
      · rw [if_neg hk, eq_comm, List.getElem?_eq_none_iff, flat_len E, hlen]; omega
end
end Go.Eng
