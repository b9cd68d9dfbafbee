import Derived.Test.YtkjecokkdbapkaaZzMem
namespace Go.Eng
set_option linter.all false
open Go Go.RowKit

/-! ## Building structs and arrays -/
def Bld (P : Program) (t : TypeId) (place : Nat → Option (Nat × Nat)) (zs : List Value) : Prop :=
  ∃ msg, ∀ parts w, (Instr.build t parts).run P w = Sem.run P (match Instr.fill place zs.toArray parts.toList with | some cells => pure (.agg cells) | _ => stuck msg) w
def fillV (place : Nat → Option (Nat × Nat)) : List Value → List (Nat × Value) → List Value
  | cs, [] => cs
  | cs, (i, v) :: rest => fillV place (putAt cs ((place i).getD (0, 0)).1 v.cells.toList) rest
def fillOK (place : Nat → Option (Nat × Nat)) (n : Nat) : List (Nat × Value) → Bool
  | [] => true
  | (i, v) :: rest => (match place i with | some (off, size) => Nat.beq v.cells.toList.length size && Nat.ble (off + size) n | none => false) && fillOK place n rest

theorem foldl_put (off : Nat) : ∀ (vs : List Value) (j : Nat) (cs : List Value), off + j + vs.length ≤ cs.length →
    (vs.zipIdx j).foldl (fun (cs : Array Value) (x : Value × Nat) => cs.setIfInBounds (off + x.2) x.1) cs.toArray = (putAt cs (off + j) vs).toArray
  | [], j, cs, h => by simp [putAt_eq]
  | v :: vs, j, cs, h => by
    simp only [List.zipIdx_cons, List.foldl_cons]
    have e : cs.toArray.setIfInBounds (off + j) v = (cs.set (off + j) v).toArray := by simp
    rw [e, foldl_put off vs (j + 1) _ (by simp at h ⊢; omega)]
    simp only [putAt_eq]
    congr 1
    simp only [List.length_cons] at h ⊢
    rw [List.set_eq_take_append_cons_drop, if_pos (by omega)]
    have l1 : (cs.take (off + j)).length = off + j := by simp; omega
    have e1 : (cs.take (off + j) ++ v :: cs.drop (off + j + 1)).take (off + (j + 1)) = cs.take (off + j) ++ [v] := by
      rw [List.take_append, l1, List.take_of_length_le (by omega)]
      have : off + (j + 1) - (off + j) = 1 := by omega
      simp [this]
    have e2 : (cs.take (off + j) ++ v :: cs.drop (off + j + 1)).drop (off + (j + 1) + vs.length) = cs.drop (off + j + (vs.length + 1)) := by
      rw [List.drop_append, l1, List.drop_eq_nil_of_le (by omega)]
      have : off + (j + 1) + vs.length - (off + j) = vs.length + 1 := by omega
      rw [this, List.nil_append, List.drop_succ_cons, List.drop_drop]
      congr 1; omega
    rw [e1, e2]
    simp

theorem fill_fillV (place : Nat → Option (Nat × Nat)) : ∀ (parts : List (Nat × Value)) (cs : List Value), fillOK place cs.length parts = true → Instr.fill place cs.toArray parts = some (fillV place cs parts).toArray
  | [], cs, _ => rfl
  | (i, v) :: rest, cs, h => by
    simp only [fillOK, Bool.and_eq_true] at h
    obtain ⟨h1, h2⟩ := h
    cases hp : place i with
    | none => rw [hp] at h1; cases h1
    | some os =>
      obtain ⟨off, size⟩ := os
      rw [hp] at h1
      simp only [Bool.and_eq_true] at h1
      have hsz : v.cells.size = size := by have := Nat.eq_of_beq_eq_true h1.1; simpa using this
      have hle : off + size ≤ cs.length := by have := h1.2; rwa [Nat.ble_eq] at this
      simp only [Instr.fill, hp, hsz, ne_eq, not_true_eq_false, List.size_toArray, fillV, Option.getD_some]
      rw [if_neg (by simp; omega)]
      have := foldl_put off v.cells.toList 0 cs (by simp [hsz]; omega)
      have e : (v.cells.zipIdx.foldl (fun (cs : Array Value) (x : Value × Nat) => cs.setIfInBounds (off + x.2) x.1) cs.toArray) = (putAt cs off v.cells.toList).toArray := by
        rw [← Array.foldl_toList, Array.toList_zipIdx]
        simpa using this
      have e' : (v.cells.zipIdx.foldl (fun (cs : Array Value) (x : Value × Nat) => match x with | (c, j) => cs.setIfInBounds (off + j) c) cs.toArray) = (putAt cs off v.cells.toList).toArray := e
      rw [e']
      exact fill_fillV place rest _ (by rw [putAt_length (by simp [hsz]; omega)]; exact h2)

/-- Rows of one width, one behind the other. -/
theorem flat_get {sz : Nat} : ∀ (L : List (List Value)) (i j : Nat), (∀ l ∈ L, l.length = sz) → j < sz → L.flatten[i * sz + j]? = (L[i]?).bind (fun l => l[j]?)
  | [], i, j, _, _ => by simp
  | l :: L, 0, j, h, hj => by
    have hl : l.length = sz := h l (by simp)
    simp [List.getElem?_append_left (show j < l.length by omega)]
  | l :: L, i + 1, j, h, hj => by
    have hl : l.length = sz := h l (by simp)
    have e : (i + 1) * sz + j - l.length = i * sz + j := by rw [Nat.add_mul]; omega
    rw [List.flatten_cons, List.getElem?_append_right (by rw [Nat.add_mul]; omega), e, flat_get L i j (fun x hx => h x (by simp [hx])) hj]
    simp

section
variable {P : Program} {ρ : Env} {w : World} {d : Option Nat} {ty : TypeId} {pos : String} {af : Array Edge} {g : Option (Nat × Bool)}
def evParts (ρ : Env) (parts : List (Nat × Operand)) : List (Nat × Value) := parts.map fun p => (p.1, ev ρ p.2)
theorem R.build {t : TypeId} {place : Nat → Option (Nat × Nat)} {zs : List Value} {parts : List (Nat × Operand)} (hB : Bld P t place zs) (hok : fillOK place zs.length (evParts ρ parts) = true) :
    Run P ρ ⟨d, .build t parts.toArray, ty, pos, af, g⟩ w (.agg (fillV place zs (evParts ρ parts)).toArray) := by
  have hf := fill_fillV place (evParts ρ parts) zs hok
  obtain ⟨_, hB⟩ := hB
  simp only [Run, execOp]
  have hm : (parts.toArray.map fun (x : Nat × Operand) => match x with | (i, x) => (i, ev ρ x)) = (evParts ρ parts).toArray := by simp [evParts]
  rw [hm]
  simp [hB _ w, hf]
theorem R.buildP {t : TypeId} {place : Nat → Option (Nat × Nat)} {zs : List Value} {parts : List (Nat × Operand)} {ps : List (Nat × Value)} (hB : Bld P t place zs) (hp : evParts ρ parts = ps) (hok : fillOK place zs.length ps = true) :
    Run P ρ ⟨d, .build t parts.toArray, ty, pos, af, g⟩ w (.agg (fillV place zs ps).toArray) := by subst hp; exact R.build hB hok
theorem R.buildE {t : TypeId} {place : Nat → Option (Nat × Nat)} {zs vs : List Value} {parts : List (Nat × Operand)} (hB : Bld P t place zs) (hok : fillOK place zs.length (evParts ρ parts) = true) (hv : fillV place zs (evParts ρ parts) = vs) :
    Run P ρ ⟨d, .build t parts.toArray, ty, pos, af, g⟩ w (.agg vs.toArray) := hv ▸ R.build hB hok
end

section
variable {r : Option Nat} {P : Program} {ops : Array Oper} {K : Cont} {rest : List Oper} {ρ : Env} {w : World} {d : Nat} {ty : TypeId} {pos : String} {af : Array Edge} {g : Option (Nat × Bool)}

theorem range_rep {n sz : Nat} {zs : List Value} (hzl : zs.length = sz) : (Array.range (n * sz)).map (fun x => zs.toArray[x % sz]!) = ((List.replicate n zs).flatten).toArray := by
  apply Array.ext'
  simp only [Array.toList_map, Array.toList_range]
  apply List.ext_getElem (by simp [hzl])
  intro j h1 h2
  simp only [List.getElem_map, List.getElem_range]
  have hj : j < n * sz := by simpa using h1
  have hs0 : 0 < sz := by
    rcases Nat.eq_zero_or_pos sz with h | h
    · subst h; simp at hj
    · exact h
  have hmod : j % sz < zs.length := by rw [hzl]; exact Nat.mod_lt _ hs0
  rw [getElem!_pos zs.toArray (j % sz) (by simpa using hmod)]
  simp only [List.getElem_toArray]
  rw [eq_comm, ← Option.some_inj, ← List.getElem?_eq_getElem, ← List.getElem?_eq_getElem]
  have hdm : j / sz * sz + j % sz = j := by rw [Nat.mul_comm]; exact Nat.div_add_mod j sz
  have hdiv : j / sz < n := Nat.div_lt_of_lt_mul (by rw [Nat.mul_comm]; exact hj)
  have := flat_get (sz := sz) (List.replicate n zs) (j / sz) (j % sz) (fun l hl => by rw [(List.mem_replicate.1 hl).2, hzl]) (Nat.mod_lt _ hs0)
  rw [hdm] at this
  rw [this]
  simp [hdiv]

/-- A slice's literal of n elements. -/
theorem WL.buildSlice {t e : TypeId} {n sz by' : Nat} {zs cs : List Value} {parts : List (Nat × Operand)} (he : Elem P t e sz by' zs) (hok : fillOK (fun i => some (i * sz, sz)) (n * sz) (evParts ρ parts) = true) (hsmall : Nat.ble (n * sz) 16777216 = true) (hpos : 0 < n * sz)
    (hcs : fillV (fun i => some (i * sz, sz)) ((List.replicate n zs).flatten) (evParts ρ parts) = cs)
    (hg : wantE ops ρ ⟨some d, .buildSlice t n parts.toArray, ty, pos, af, g⟩ = true)
    (k : ∀ b w', b = w.heap.size → w'.heap.size = b + 1 → Ext w w' → Blk w' b cs → WL r P ops K rest (ρ.set d (.slice (some ⟨b, 0, none⟩) n n)) w') :
    WL r P ops K (⟨some d, .buildSlice t n parts.toArray, ty, pos, af, g⟩ :: rest) ρ w := by
  obtain ⟨i, z, hi, hsz, hby, hz, hzc⟩ := he.info
  refine WL.yw (w' := w.alloc (.cells cs.toArray e)) ?_ hg (k _ _ rfl (by simp) (ext_alloc _ _) (blk_alloc _ _ _))
  have hm : (parts.toArray.map fun (x : Nat × Operand) => match x with | (i, x) => (i, ev ρ x)) = (evParts ρ parts).toArray := by simp [evParts]
  have hzl : zs.length = sz := he.len
  have hlen : ((List.replicate n zs).flatten).length = n * sz := by simp [hzl]
  have hf := fill_fillV (fun i => some (i * sz, sz)) (evParts ρ parts) ((List.replicate n zs).flatten) (by rw [hlen]; exact hok)
  rw [hcs] at hf
  have hrep := range_rep (n := n) hzl
  have h24 : ¬ (n * sz > 2 ^ 24) := by rw [Nat.ble_eq] at hsmall; omega
  have h0 : ¬ (n * sz = 0) := by omega
  have hsize : ∀ w, (sizeOf e).run P w = .ok sz w := he.sizeOf
  simp only [execOp]
  rw [hm]
  have hgt : ¬ (16777216 < n * sz) := by omega
  simp [Instr.buildSlice, run_underlying he.und, hsize, hgt, h0, zeroValue, typeInfo, hi, hz, hzc, hzl, newRow]
  have hrep' : Array.map (fun x => zs[x % sz]?.getD default) (Array.range (n * sz)) = ((List.replicate n zs).flatten).toArray := by simpa using hrep
  rw [hrep', hf]
  simp

theorem WL.buildSliceP {t e : TypeId} {n sz by' : Nat} {zs cs : List Value} {parts : List (Nat × Operand)} {ps : List (Nat × Value)} (he : Elem P t e sz by' zs) (hp : evParts ρ parts = ps) (hok : fillOK (fun i => some (i * sz, sz)) (n * sz) ps = true) (hsmall : Nat.ble (n * sz) 16777216 = true) (hpos : 0 < n * sz)
    (hcs : fillV (fun i => some (i * sz, sz)) ((List.replicate n zs).flatten) ps = cs)
    (hg : wantE ops ρ ⟨some d, .buildSlice t n parts.toArray, ty, pos, af, g⟩ = true)
    (k : ∀ b w', b = w.heap.size → w'.heap.size = b + 1 → Ext w w' → Blk w' b cs → WL r P ops K rest (ρ.set d (.slice (some ⟨b, 0, none⟩) n n)) w') :
    WL r P ops K (⟨some d, .buildSlice t n parts.toArray, ty, pos, af, g⟩ :: rest) ρ w := by
  subst hp; exact WL.buildSlice he hok hsmall hpos hcs hg k
/-- 'make([]T, n)'. -/
theorem WL.makeSlice {t e : TypeId} {n sz by' : Nat} {zs : List Value} {x y : Operand} {k1 k2 : IntKind} (he : Elem P t e sz by' zs) (hx : ev ρ x = .int k1 (n : Int)) (hy : ev ρ y = .int k2 (n : Int)) (hby : n * by' ≤ 140737488355328) (h63 : n ≤ 9223372036854775807)
    (hg : wantE ops ρ ⟨some d, .makeSlice t x y, ty, pos, af, g⟩ = true)
    (k : ∀ b w', b = w.heap.size → w'.heap.size = b + 1 → Ext w w' → Blk w' b ((List.replicate n zs).flatten) → WL r P ops K rest (ρ.set d (.slice (some ⟨b, 0, none⟩) n n)) w') :
    WL r P ops K (⟨some d, .makeSlice t x y, ty, pos, af, g⟩ :: rest) ρ w := by
  obtain ⟨i, z, hi, hsz, hb, hz, hzc⟩ := he.info
  refine WL.yw (w' := w.alloc (.cells ((List.replicate n zs).flatten).toArray e)) ?_ hg (k _ _ rfl (by simp) (ext_alloc _ _) (blk_alloc _ _ _))
  have hb1 : (i.bytes : Int) * (n : Int) ≤ 281474976710656 := by
    have h : ((n * by' : Nat) : Int) ≤ 281474976710656 := by omega
    rw [hb, ← Int.natCast_mul, Nat.mul_comm]; exact h
  have hr := run_make (P := P) w t e i z he.und hi hz k1 k2 n n (by omega) (Int.le_refl _) hb1 (by omega)
  have hzl : zs.length = sz := he.len
  have hmade : madeCells z.cells (n * i.size) = ((List.replicate n zs).flatten).toArray := by
    rw [← range_rep hzl, hsz, hzc]
    simp [madeCells, hzl]
  simp only [Int.toNat_natCast, hmade] at hr
  simp [execOp, hx, hy, hr]
end
end Go.Eng
