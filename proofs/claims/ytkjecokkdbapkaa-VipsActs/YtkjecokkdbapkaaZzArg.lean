import Derived.Test.YtkjecokkdbapkaaZzPtr
namespace Go.Eng
set_option linter.all false
open Go Go.RowKit
theorem cell_some {w : World} {a : Addr} {v : Value} (h : w.cell? a = some v) : a.spot = none ∧ ∃ cs T z, w.heap[a.block]? = some (.cells cs T z) ∧ cs[a.off]? = some v := by
  unfold World.cell? at h
  split at h
  · rename_i c T z hb
    split at h
    · cases h
    · rename_i hs
      refine ⟨by simpa using hs, c, T, z, hb, h⟩
  · cases h
/-- A slice of integers that came in. -/
theorem Sli.of_ints {w : World} {a : Addr} {len cap : Nat} {zs : List Int} (hl : len ≤ cap) (hz : zs.length = cap)
    (hcell : ∀ i, i < zs.length → w.cell? (a.add i) = some (.int .i64 (zs.getD i 0))) : Sli (fun n : Int => [i64 n]) 1 w (some a) cap (zs.take len) := by
  by_cases h0 : cap = 0
  · subst h0
    exact .inl ⟨rfl, by have : zs = [] := List.eq_nil_of_length_eq_zero hz; simp [this]⟩
  · obtain ⟨b, off, sp⟩ := a
    obtain ⟨hsp, cs, T, z, hb, h1⟩ := cell_some (hcell 0 (by omega))
    have hs : sp = none := by
      unfold Addr.add at hsp
      split at hsp <;> simp_all
    subst hs
    rw [add_at] at hb
    simp only at hb
    have hc : ∀ i, i < zs.length → cs.toList[off + i]? = some (.int .i64 (zs.getD i 0)) := fun i hi => by
      have := hcell i hi
      rw [add_at] at this
      unfold World.cell? at this
      simp only [hb] at this
      simpa using this
    have hlen : off + cap ≤ cs.toList.length := by
      have := (List.getElem?_eq_some_iff.1 (hc (cap - 1) (by omega))).1
      omega
    refine .inr ⟨b, off, cs.toList, rfl, ⟨T, z, by simpa using hb⟩, by simp; omega, by omega, ?_⟩
    have e : (zs.take len).flatMap (fun n : Int => [i64 n]) = (zs.take len).map i64 := by
      rw [List.flatMap_def]
      induction zs.take len with
      | nil => rfl
      | cons x l ih => simp [ih]
    rw [e]
    apply List.ext_getElem?
    intro i
    rw [List.getElem?_take, List.getElem?_drop, List.getElem?_map, List.getElem?_take]
    by_cases hi : i < len
    · have h2 : i < (zs.take len).length * 1 := by simp; omega
      rw [if_pos h2, if_pos hi, hc i (by omega), List.getD_eq_getElem?_getD, List.getElem?_eq_getElem (by omega)]
      rfl
    · have h2 : ¬ i < (zs.take len).length * 1 := by simp; omega
      rw [if_neg h2, if_neg hi]; rfl
theorem take_len {len cap : Nat} {zs : List Int} (hl : len ≤ cap) (hz : zs.length = cap) : (zs.take len).length = len := by simp; omega
end Go.Eng
