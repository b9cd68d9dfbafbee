import Derived.Test.YtkjecokkdbapkaaZzMap
namespace Go.Eng
set_option linter.all false
open Go Go.RowKit

theorem Same.sets {S : List (Nat × Nat)} {ρ ρ' : Env} : ∀ {L : List (Nat × Value)}, L.all (fun p => inS S p.1) = true → Same S ρ ρ' → Same S ρ (ρ'.sets L)
  | [], _, h => h
  | (d, v) :: L, hL, h => by
    simp only [List.all_cons, Bool.and_eq_true] at hL
    simp only [Env.sets]
    exact Same.set v hL.1 (Same.sets hL.2 h)

def subS (S' S : List (Nat × Nat)) : Bool := S'.all fun p => S.any fun q => Nat.ble q.1 p.1 && Nat.ble p.2 q.2
theorem subS_in {S' S : List (Nat × Nat)} (h : subS S' S = true) {i : Nat} (hi : inS S i = false) : inS S' i = false := by
  cases hc : inS S' i with
  | false => rfl
  | true =>
    exfalso
    simp only [inS, List.any_eq_true, Bool.and_eq_true] at hc
    obtain ⟨p, hp, h1, h2⟩ := hc
    obtain ⟨q, hq, h3⟩ := List.any_eq_true.1 (List.all_eq_true.1 h p hp)
    rw [Bool.and_eq_true, Nat.ble_eq, Nat.ble_eq] at h3
    rw [Nat.ble_eq] at h1
    have h2 := blt_lt h2
    have : inS S i = true := List.any_eq_true.2 ⟨q, hq, by
      rw [Bool.and_eq_true]
      exact ⟨by rw [Nat.ble_eq]; omega, by show Nat.ble (i + 1) q.2 = true; rw [Nat.ble_eq]; omega⟩⟩
    rw [hi] at this; cases this
theorem Same.over' {S S' : List (Nat × Nat)} {ρ ρ' : Env} (j : Env) (hS : subS S' S = true) (h : Same S ρ ρ') : Same S ρ (ρ'.over S' j) := by
  intro i hi
  simp only [Env.over, subS_in hS hi, cond_false]
  exact h i hi

section
variable {r : Option Nat} {N : Nat} {P : Program} {K : DCont} {Q : Exit → DCont} {ρ : Env} {ds : List Deferred} {w : World}

/-- A cut behind x: what is kept is named by ι. -/
theorem W.seqX {ι : Type} {x y : Code} (S : List (Nat × Nat)) (L : ι → List (Nat × Value)) (I : ι → World → Prop)
    (h : W r N P x (fun ρ' ds' w' => ∃ i, Same S ρ ρ' ∧ Holds ρ' (L i) ∧ ds' = ds ∧ I i w') Q ρ ds w)
    (h2 : ∀ i j w', I i w' → W r N P y K Q ((ρ.over S j).sets (L i)) ds w') : W r N P (.seq x y) K Q ρ ds w :=
  W.seqM _ h fun ρ' ds' w' ⟨i, hs, hL, hd, hI⟩ => by
    subst hd
    have := h2 i ρ' w' hI
    rwa [← hs.eq, ← hL.eq] at this

theorem W.loopS {ι : Type} {c : Code} (S : List (Nat × Nat)) (L : ι → List (Nat × Value)) (μ : ι → Nat) (I : ι → World → Prop) (x0 : ι) (h0 : Holds ρ (L x0)) (hI : I x0 w)
    (round : ∀ x j w, I x w → W r N P c (fun ρ' ds' w' => ∃ x', μ x' < μ x ∧ Same S ρ ρ' ∧ Holds ρ' (L x') ∧ ds' = ds ∧ I x' w') Q ((ρ.over S j).sets (L x)) ds w) :
    W r N P (.loop c) K Q ρ ds w := by
  refine W.loop (fun m ρ' ds' w' => ∃ x, μ x = m ∧ Same S ρ ρ' ∧ Holds ρ' (L x) ∧ ds' = ds ∧ I x w') (μ x0) ⟨x0, rfl, Same.rfl' _ _, h0, rfl, hI⟩ ?_
  rintro m ρ' ds' w' ⟨x, rfl, hs, hL, rfl, hI⟩
  have := round x ρ' w' hI
  rw [← hs.eq, ← hL.eq] at this
  exact this.mono (fun ρ'' ds'' w'' ⟨x', h1, h2, h3, h4, h5⟩ => ⟨μ x', h1, x', rfl, h2, h3, h4, h5⟩) (fun _ _ _ _ h => h)
end

section
variable {r : Option Nat} {P : Program} {ops : Array Oper} {K : Cont} {rest : List Oper} {ρ : Env} {w : World} {d : Nat} {op : Op} {ty : TypeId} {pos : String} {af : Array Edge} {g : Option (Nat × Bool)}
theorem WL.fork {b : Bool} (h : Run P ρ ⟨some d, op, ty, pos, af, g⟩ w (.bool b)) (hg : wantE ops ρ ⟨some d, op, ty, pos, af, g⟩ = true)
    (kT : b = true → WL r P ops K rest (ρ.set d (.bool true)) w) (kF : b = false → WL r P ops K rest (ρ.set d (.bool false)) w) :
    WL r P ops K (⟨some d, op, ty, pos, af, g⟩ :: rest) ρ w := by
  cases b
  · exact WL.y h hg (kF rfl)
  · exact WL.y h hg (kT rfl)
theorem WL.segX {ι : Type} (n : Nat) (S : List (Nat × Nat)) (L : ι → List (Nat × Value)) (I : ι → World → Prop) {l : List Oper}
    (h1 : WL r P ops (fun ρ' w' => ∃ i, Same S ρ ρ' ∧ Holds ρ' (L i) ∧ I i w') (l.take n) ρ w) (h2 : ∀ i j w', I i w' → WL r P ops K (l.drop n) ((ρ.over S j).sets (L i)) w') : WL r P ops K l ρ w :=
  WL.cut _ n h1 fun ρ' w' ⟨i, hs, hL, hI⟩ => by
    have := h2 i ρ' w' hI
    rwa [← hs.eq, ← hL.eq] at this
end
theorem CallV.fork {P : Program} {f : FuncId} {args : Array Value} {w : World} {b : Bool} {Q : World → Prop} (h : CallV P f args w fun v w' => v = .bool b ∧ Q w') :
    CallV P f args w fun v w' => (b = true ∧ v = .bool true ∧ Q w') ∨ (b = false ∧ v = .bool false ∧ Q w') :=
  h.mono fun v w' ⟨hv, hq⟩ => by cases b <;> simp [hv, hq]
theorem bne_T {a b : Int} (h : (a != b) = true) : ¬ a = b := bne_iff_ne.1 h
theorem bne_F {a b : Int} (h : (a != b) = false) : a = b := by simpa using h
theorem beq_F {a b : Int} (h : (a == b) = false) : ¬ a = b := beq_eq_false_iff_ne.1 h
end Go.Eng
