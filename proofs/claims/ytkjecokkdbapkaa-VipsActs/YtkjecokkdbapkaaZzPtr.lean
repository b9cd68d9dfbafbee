import Derived.Test.YtkjecokkdbapkaaZzSl
namespace Go.Eng
set_option linter.all false
open Go Go.RowKit

section
variable {P : Program} {ρ : Env} {w : World} {d : Option Nat} {ty : TypeId} {pos : String} {af : Array Edge} {g : Option (Nat × Bool)}
theorem equalIn_nilS (q : Nat) {t e : TypeId} (ht : P.underlying t = some (.slice e)) (a : Option Addr) (n c : Nat) (w : World) : (Op.equalIn (q + 1) t (.slice a n c) (.slice none 0 0)).run P w = .ok a.isNone w := by
  cases a <;> simp [Op.equalIn, run_underlying ht]
theorem equal_nilS {t e : TypeId} (ht : P.underlying t = some (.slice e)) (a : Option Addr) (n c : Nat) (w : World) : (Op.equal t (.slice a n c) (.slice none 0 0)).run P w = .ok a.isNone w := equalIn_nilS 9999 ht a n c w
theorem R.eqlNilS {a : Option Addr} {n c : Nat} {x : Operand} {t e u : TypeId} (ht : P.underlying t = some (.slice e)) (hx : ev ρ x = .slice a n c) : Run P ρ ⟨d, .binOp .eql t x (.const (.slice none 0 0)) u, ty, pos, af, g⟩ w (.bool a.isNone) :=
  R.eqlBy hx rfl (by simp [eqGuard]) rfl (equal_nilS ht a n c w)
theorem R.neqNilS {a : Option Addr} {n c : Nat} {x : Operand} {t e u : TypeId} (ht : P.underlying t = some (.slice e)) (hx : ev ρ x = .slice a n c) : Run P ρ ⟨d, .binOp .neq t x (.const (.slice none 0 0)) u, ty, pos, af, g⟩ w (.bool !a.isNone) :=
  R.neqBy hx rfl (by simp [eqGuard]) rfl (equal_nilS ht a n c w)
end
section
variable {r : Option Nat} {P : Program} {ops : Array Oper} {K : Cont} {rest : List Oper} {ρ : Env} {w : World} {d : Nat} {ty : TypeId} {pos : String} {af : Array Edge} {g : Option (Nat × Bool)}
/-- A slice's literal of no elements. -/
theorem WL.buildSlice0 {t e : TypeId} {sz by' : Nat} {zs : List Value} (he : Elem P t e sz by' zs) (hsz : 0 < sz)
    (hg : wantE ops ρ ⟨some d, .buildSlice t 0 #[], ty, pos, af, g⟩ = true)
    (k : ∀ b w', b = w.heap.size → w'.heap.size = b + 1 → Ext w w' → Blk w' b [] → WL r P ops K rest (ρ.set d (.slice (some ⟨b, 0, none⟩) 0 0)) w') :
    WL r P ops K (⟨some d, .buildSlice t 0 #[], ty, pos, af, g⟩ :: rest) ρ w := by
  obtain ⟨i, z, hi, hs, hby, hz, hzc⟩ := he.info
  refine WL.yw (w' := w.alloc (.cells ([] : List Value).toArray e)) ?_ hg (k _ _ rfl (by simp) (ext_alloc _ _) (blk_alloc _ _ _))
  have hsize : ∀ w, (sizeOf e).run P w = .ok sz w := he.sizeOf
  simp only [execOp]
  have h0 : (Array.range 0).map (fun x : Nat => (default : Value)) = #[] := by apply Array.ext_getElem?; intro i; simp
  simp [Instr.buildSlice, run_underlying he.und, hsize, newRow, Instr.fill]
  rw [h0]
end
end Go.Eng
namespace Go.Eng
open Go Go.RowKit
section
variable {P : Program} {ρ : Env} {w : World} {d : Option Nat} {ty : TypeId} {pos : String} {af : Array Edge} {g : Option (Nat × Bool)}
theorem R.eqlAT {t u : TypeId} {cs : List (Option IntKind)} {dep : Nat} {x y : Operand} {xs ys : List Value} (h : FlatEq P t cs dep) (hd : dep ≤ 10000) (ha : Agg P t cs.length) (hg : P.eqGuardType P.depth t = false) (hx : ev ρ x = .agg xs.toArray) (hy : ev ρ y = .agg ys.toArray) (tx : typedB cs xs = true) (tyy : typedB cs ys = true) {q : Bool} (hq : veqL xs ys = q) :
    Run P ρ ⟨d, .binOp .eql t x y u, ty, pos, af, g⟩ w (.bool q) := hq ▸ R.eqlA h hd ha hg hx hy tx tyy
theorem R.neqAT {t u : TypeId} {cs : List (Option IntKind)} {dep : Nat} {x y : Operand} {xs ys : List Value} (h : FlatEq P t cs dep) (hd : dep ≤ 10000) (ha : Agg P t cs.length) (hg : P.eqGuardType P.depth t = false) (hx : ev ρ x = .agg xs.toArray) (hy : ev ρ y = .agg ys.toArray) (tx : typedB cs xs = true) (tyy : typedB cs ys = true) {q : Bool} (hq : veqL xs ys = q) :
    Run P ρ ⟨d, .binOp .neq t x y u, ty, pos, af, g⟩ w (.bool !q) := hq ▸ R.neqA h hd ha hg hx hy tx tyy
end
end Go.Eng
