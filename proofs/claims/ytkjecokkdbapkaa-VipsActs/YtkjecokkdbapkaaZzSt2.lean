import Derived.Test.YtkjecokkdbapkaaZzStar
namespace Go.Eng
set_option linter.all false
open Go Go.RowKit
section
variable {α : Type} {enc : α → List Value} {sz : Nat}
theorem Slw.op2 {w : World} {g off c : Nat} {xs : List α} (h : Slw enc sz w (some ⟨g, off, none⟩) c xs) (hn : 0 < xs.length) : ∃ cs, SlO enc sz w g off c cs xs := by
  obtain ⟨g', off', cs, e, ho⟩ := h.op hn
  cases e
  exact ⟨cs, ho⟩
theorem Sli.op2 {w : World} {g off c : Nat} {xs : List α} (h : Sli enc sz w (some ⟨g, off, none⟩) c xs) (hn : 0 < xs.length) : ∃ cs, SlQ enc sz w g off c cs xs := by
  obtain ⟨g', off', cs, e, ho⟩ := h.op hn
  cases e
  exact ⟨cs, ho⟩
theorem putAt_putAt {cs us vs : List Value} {off j : Nat} (hj : j + vs.length ≤ us.length) (h : off + us.length ≤ cs.length) (e : (cs.drop off).take us.length = us) : putAt cs (off + j) vs = putAt cs off (putAt us j vs) := by
  have hl : (putAt us j vs).length = us.length := putAt_length hj
  have e0 : ∀ k, k < us.length → cs[off + k]? = us[k]? := fun k hk => by rw [← e, List.getElem?_take_of_lt hk, List.getElem?_drop]
  apply List.ext_getElem?
  intro k
  rw [putAt_get (by omega), putAt_get (by omega), hl]
  by_cases h1 : k < off
  · rw [if_pos (by omega), if_pos h1]
  · rw [if_neg h1]
    by_cases h2 : k < off + us.length
    · rw [if_pos h2, putAt_get hj]
      by_cases h3 : k < off + j
      · rw [if_pos h3, if_pos (by omega)]
        have := e0 (k - off) (by omega)
        rw [← this]; congr 1; omega
      · rw [if_neg h3]
        by_cases h4 : k < off + j + vs.length
        · rw [if_pos h4, if_neg (by omega), if_pos (by omega)]; congr 1; omega
        · rw [if_neg h4, if_neg (by omega), if_neg (by omega)]
          have := e0 (k - off) (by omega)
          rw [← this]; congr 1; omega
    · rw [if_neg h2, if_neg (by omega), if_neg (by omega)]
/-- Some cells of an element are written anew. -/
theorem SlO.sub {w w' : World} {g off c : Nat} {cs : List Value} {xs : List α} (E : Enc enc sz) (h : SlO enc sz w g off c cs xs) {i j : Nat} {x y : α} {vs : List Value} (hi : xs[i]? = some x) (hj : j + vs.length ≤ sz) (hy : enc y = putAt (enc x) j vs) (hb : Blk w' g (putAt cs (off + i * sz + j) vs)) :
    SlO enc sz w' g off c (putAt cs (off + i * sz + j) vs) (xs.set i y) := by
  have hlt : i < xs.length := (List.getElem?_eq_some_iff.1 hi).1
  have hbd := h.bound hlt
  have e : putAt cs (off + i * sz + j) vs = putAt cs (off + i * sz) (enc y) := by
    rw [hy]
    exact putAt_putAt (by rw [E.len]; exact hj) (by rw [E.len]; exact hbd) (by rw [E.len]; exact h.at E hi)
  rw [e] at hb ⊢
  exact h.put E hlt y hb
theorem Slw.many (E : Enc enc sz) {w : World} {b : Nat} {cs : List Value} (xs : List α) (hb : Blk w b cs) (h : cs = xs.flatMap enc) : Slw enc sz w (some ⟨b, 0, none⟩) xs.length xs := by
  subst h
  refine .inr ⟨b, 0, _, rfl, hb, Nat.le_refl _, ?_, ?_⟩
  · rw [flat_len E]; omega
  · rw [List.drop_zero, List.take_of_length_le (by rw [flat_len E]; exact Nat.le_refl _)]
end
/-! ### Parts of values -/
def FV (P : Program) (s : TypeId) (f : Nat) (t : TypeId) (k : Nat) : Prop := ∀ (cs : Array Value) (w : World), (Instr.field s (.agg cs) f).run P w = (part t cs k).run P w
section
variable {P : Program} {ρ : Env} {w : World} {d : Option Nat} {ty : TypeId} {pos : String} {af : Array Edge} {g : Option (Nat × Bool)}
theorem R.fieldA {cs vs : List Value} {x : Operand} {s t : TypeId} {f k n : Nat} (hf : FV P s f t k) (ht : Agg P t n) (hx : ev ρ x = .agg cs.toArray) (hv : (cs.drop k).take n = vs) :
    Run P ρ ⟨d, .field s x f, ty, pos, af, g⟩ w (.agg vs.toArray) := by
  subst hv
  have := hf cs.toArray w
  simp [part, ht.1 w, ht.2 w] at this
  simp [Run, execOp, hx, this]
theorem R.fieldV {cs : List Value} {v : Value} {x : Operand} {s t : TypeId} {f k : Nat} (hf : FV P s f t k) (ht : Sca P t) (hx : ev ρ x = .agg cs.toArray) (hv : cs[k]? = some v) :
    Run P ρ ⟨d, .field s x f, ty, pos, af, g⟩ w v := by
  have := hf cs.toArray w
  simp [part, ht.1 w, hv] at this
  simp [Run, execOp, hx, this]
theorem R.indexV {cs : List Value} {x y : Operand} {kk : IntKind} {n i : Nat} {t e : TypeId} (ht : P.underlying t = some (.array n e)) (he : Sca P e) (hx : ev ρ x = .agg cs.toArray) (hy : ev ρ y = .int kk (i : Int)) (hi : i < n) {v : Value} (hv : cs[i]? = some v) :
    Run P ρ ⟨d, .index t x y, ty, pos, af, g⟩ w v := by
  have h1 := he.1 w
  have h2 := he.2 w
  have h0 : (0 : Int) ≤ i ∧ (i : Int) < n := by omega
  simp [Run, execOp, hx, hy, Instr.index, asIntOf, run_underlying ht, h0, h2, part, h1, hv]
  intro h; omega
end
section
variable {P : Program} {ρ : Env} {w : World} {d : Option Nat} {ty : TypeId} {pos : String} {af : Array Edge} {g : Option (Nat × Bool)}
theorem equalIn_nilF (q : Nat) {t : TypeId} {ps rs : Array TypeId} {vd : Bool} (ht : P.underlying t = some (.func ps rs vd)) (fn : Fn) (a b : Array Value) (w : World) : (Op.equalIn (q + 1) t (.func fn a b) .nilFunc).run P w = .ok false w := by
  simp [Op.equalIn, run_underlying ht]
theorem equal_nilF {t : TypeId} {ps rs : Array TypeId} {vd : Bool} (ht : P.underlying t = some (.func ps rs vd)) (fn : Fn) (a b : Array Value) (w : World) : (Op.equal t (.func fn a b) .nilFunc).run P w = .ok false w := equalIn_nilF 9999 ht fn a b w
theorem R.eqlNilF {fn : Fn} {a b : Array Value} {x : Operand} {t u : TypeId} {ps rs : Array TypeId} {vd : Bool} (ht : P.underlying t = some (.func ps rs vd)) (hx : ev ρ x = .func fn a b) : Run P ρ ⟨d, .binOp .eql t x (.const .nilFunc) u, ty, pos, af, g⟩ w (.bool false) :=
  R.eqlBy hx rfl (by simp [eqGuard]) rfl (equal_nilF ht fn a b w)
end
/-- The first so many; all, if there are not so many. -/
def takeM {α : Type} (most : Int) (xs : List α) : List α := if 0 ≤ most then xs.take most.toNat else xs
theorem takeM_all {α : Type} {most : Int} {xs : List α} (h : ∀ j, j < xs.length → ¬ (j : Int) = most) : takeM most xs = xs := by
  unfold takeM
  split
  · have : xs.length ≤ most.toNat := by
      rcases Nat.lt_or_ge most.toNat xs.length with h1 | h1
      · exact absurd (by omega) (h most.toNat h1)
      · exact h1
    exact List.take_of_length_le this
  · rfl
theorem takeM_pre {α : Type} {most : Int} {pre xs : List α} (hp : pre <+: xs) (h : (pre.dropLast.length : Int) = most) : takeM most xs = pre.dropLast := by
  obtain ⟨r, rfl⟩ := hp
  unfold takeM
  rw [if_pos (by omega), show most.toNat = pre.dropLast.length by omega]
  have h1 : pre.dropLast.length ≤ pre.length := by simp
  rw [List.take_append_of_le_length h1, List.dropLast_eq_take]
  simp
abbrev okI (n : Int) : Prop := -9223372036854775808 ≤ n ∧ n ≤ 9223372036854775807
abbrev ofNats (l : List Nat) : List Int := l.map (fun v : Nat => (v : Int))
end Go.Eng
