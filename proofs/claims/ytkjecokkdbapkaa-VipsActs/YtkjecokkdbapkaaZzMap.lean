import Derived.Test.YtkjecokkdbapkaaZzEq
import Derived.Maps.Keyed
namespace Go.Eng
set_option linter.all false
open Go Go.RowKit

section
variable {κ : Type} [DecidableEq κ]

def mget (k : κ) : List (κ × Value) → Option Value
  | [] => none
  | (a, v) :: r => if k = a then some v else mget k r
def mfind (k : κ) : List (κ × Value) → Nat → Option (Nat × Value)
  | [], _ => none
  | (a, v) :: r, i => if k = a then some (i, v) else mfind k r (i + 1)
def mset (k : κ) (v : Value) : List (κ × Value) → List (κ × Value)
  | [] => []
  | (a, u) :: r => if k = a then (a, v) :: r else (a, u) :: mset k v r
def mdel (k : κ) : List (κ × Value) → List (κ × Value)
  | [] => []
  | (a, u) :: r => if k = a then r else (a, u) :: mdel k r

theorem mfind_none {k : κ} : ∀ {l : List (κ × Value)} {i : Nat}, mfind k l i = none ↔ mget k l = none
  | [], i => by simp [mfind, mget]
  | (a, v) :: r, i => by
    simp only [mfind, mget]
    split
    · simp
    · exact mfind_none
theorem mfind_some {k : κ} {v : Value} : ∀ {l : List (κ × Value)} {i j : Nat}, mfind k l i = some (j, v) → mget k l = some v ∧ ∃ m, j = i + m ∧ l[m]? = some (k, v)
  | [], i, j, h => by simp [mfind] at h
  | (a, u) :: r, i, j, h => by
    simp only [mfind, mget] at h ⊢
    split at h
    · rename_i e
      simp at h
      rw [if_pos e]
      exact ⟨by simp [h.2], 0, by omega, by simp [e, h.2]⟩
    · rename_i e
      obtain ⟨h1, m, h2, h3⟩ := mfind_some h
      rw [if_neg e]
      exact ⟨h1, m + 1, by omega, by simpa using h3⟩
theorem mfind_of_get {k : κ} {v : Value} : ∀ {l : List (κ × Value)} {i : Nat}, mget k l = some v → ∃ j, mfind k l i = some (j, v)
  | [], i, h => by simp [mget] at h
  | (a, u) :: r, i, h => by
    simp only [mget, mfind] at h ⊢
    split at h
    · rename_i e; rw [if_pos e]; exact ⟨i, by simpa using h⟩
    · rename_i e; rw [if_neg e]; exact mfind_of_get h
theorem mget_mem {k : κ} {v : Value} : ∀ {l : List (κ × Value)}, mget k l = some v → (k, v) ∈ l
  | (a, u) :: r, h => by
    simp only [mget] at h
    split at h
    · rename_i e; cases h; simp [e]
    · exact List.mem_cons_of_mem _ (mget_mem h)
theorem mget_none {k : κ} : ∀ {l : List (κ × Value)}, mget k l = none ↔ k ∉ l.map (·.1)
  | [] => by simp [mget]
  | (a, u) :: r => by
    simp only [mget, List.map_cons, List.mem_cons, not_or]
    split
    · rename_i e; simp [e]
    · rename_i e; rw [mget_none]; simp [e]
theorem mget_append {k : κ} : ∀ {l r : List (κ × Value)}, mget k (l ++ r) = (mget k l).or (mget k r)
  | [], r => by simp [mget]
  | (a, u) :: l, r => by
    simp only [List.cons_append, mget]
    split
    · simp
    · exact mget_append
theorem mget_mset {k q : κ} {v : Value} : ∀ {l : List (κ × Value)}, mget q (mset k v l) = if q = k ∧ (mget k l).isSome then some v else mget q l
  | [] => by simp [mset, mget]
  | (a, u) :: r => by
    simp only [mset]
    by_cases e : k = a
    · simp only [e, if_true, mget]
      by_cases e2 : q = a
      · simp [e2]
      · simp [e2]
    · simp only [e, if_false, mget]
      rw [mget_mset]
      by_cases e2 : q = a
      · have : ¬ q = k := fun h => e (h.symm.trans e2)
        subst e2
        simp [this]
      · simp [e2]
theorem mset_keys {k : κ} {v : Value} : ∀ {l : List (κ × Value)}, (mset k v l).map (·.1) = l.map (·.1)
  | [] => rfl
  | (a, u) :: r => by
    simp only [mset]
    split
    · rfl
    · simp [mset_keys]
theorem mset_length {k : κ} {v : Value} {l : List (κ × Value)} : (mset k v l).length = l.length := by
  have := congrArg List.length (mset_keys (k := k) (v := v) (l := l)); simpa using this
theorem mdel_sub {k : κ} : ∀ {l : List (κ × Value)}, (mdel k l).Sublist l
  | [] => .slnil
  | (a, u) :: r => by
    simp only [mdel]
    split
    · exact List.sublist_cons_self _ _
    · exact mdel_sub.cons_cons _
theorem mget_mdel {k q : κ} : ∀ {l : List (κ × Value)}, (l.map (·.1)).Nodup → mget q (mdel k l) = if q = k then none else mget q l
  | [], _ => by simp [mdel, mget]
  | (a, u) :: r, h => by
    simp only [List.map_cons, List.nodup_cons] at h
    simp only [mdel]
    by_cases e : k = a
    · simp only [e, if_true, mget]
      by_cases e2 : q = a
      · simp only [e2, if_true]
        exact mget_none.2 h.1
      · simp [e2]
    · simp only [e, if_false, mget]
      rw [mget_mdel h.2]
      by_cases e2 : q = a
      · have : ¬ q = k := fun hh => e (hh.symm.trans e2)
        subst e2
        simp [this]
      · simp [e2]
theorem mdel_length {k : κ} : ∀ {l : List (κ × Value)}, (mdel k l).length = if (mget k l).isSome then l.length - 1 else l.length
  | [] => by simp [mdel, mget]
  | (a, u) :: r => by
    simp only [mdel, mget]
    by_cases e : k = a
    · simp [e]
    · simp only [e, if_false, List.length_cons]
      rw [mdel_length]
      cases hg : mget k r with
      | none => simp
      | some v =>
        have := List.length_pos_of_mem (mget_mem hg)
        simp; omega
theorem mdel_none {k : κ} : ∀ {l : List (κ × Value)}, mget k l = none → mdel k l = l
  | [], _ => rfl
  | (a, u) :: r, h => by
    simp only [mget] at h
    split at h
    · simp at h
    · rename_i e; simp [mdel, e, mdel_none h]
theorem mdel_erase {k : κ} {v : Value} : ∀ {l : List (κ × Value)} {i j : Nat}, mfind k l i = some (j, v) → mdel k l = l.eraseIdx (j - i)
  | [], i, j, h => by simp [mfind] at h
  | (a, u) :: r, i, j, h => by
    simp only [mfind] at h
    split at h
    · rename_i e
      simp at h
      simp [mdel, e, h.1]
    · rename_i e
      have := mdel_erase h
      obtain ⟨_, m, hm, _⟩ := mfind_some h
      have e1 : j - i = (j - (i + 1)) + 1 := by omega
      simp only [mdel, e, if_false]
      rw [e1, List.eraseIdx_cons_succ, ← this]
theorem mset_at {k : κ} {v u : Value} : ∀ {l : List (κ × Value)} {i j : Nat}, mfind k l i = some (j, u) → mset k v l = l.modify (j - i) (fun p => (p.1, v))
  | [], i, j, h => by simp [mfind] at h
  | (a, u') :: r, i, j, h => by
    simp only [mfind] at h
    split at h
    · rename_i e
      simp at h
      simp [mset, e, h.1]
    · rename_i e
      have := mset_at (v := v) h
      obtain ⟨_, m, hm, _⟩ := mfind_some h
      have e1 : j - i = (j - (i + 1)) + 1 := by omega
      simp only [mset, e, if_false]
      rw [e1, List.modify_succ_cons, ← this]

/-- What the laws need of a key's type. -/
structure KeyL (P : Program) (kt : TypeId) (enc : κ → Value) : Prop where
  chk : ∀ em k w, (Instr.checkKey em 10000 kt (enc k)).run P w = .ok () w
  find : ∀ k (es : List MapEntry) (l : List (κ × Value)) w, es.map (fun e => (e.key, e.val)) = l.map (fun p => (enc p.1, p.2)) → (Instr.findKey kt (enc k) es).run P w = .ok (mfind k l 0) w
  stays : ∀ k w, (Instr.keyThatStays (enc k) (enc k)).run P w = .ok (enc k) w

/-- Block b is a map with these entries. -/
def MapAt (enc : κ → Value) (w : World) (b : Nat) (l : List (κ × Value)) : Prop :=
  ∃ es clock, w.heap[b]? = some (.map es clock) ∧ es.toList.map (fun e => (e.key, e.val)) = l.map (fun p => (enc p.1, p.2)) ∧ (∀ e ∈ es.toList, e.born < clock) ∧ (es.toList.map (·.born)).Nodup ∧ (l.map (·.1)).Nodup
/-- .. and the last of them is the one of this stamp. -/
def MapNew (enc : κ → Value) (w : World) (b : Nat) (l : List (κ × Value)) (k : κ) (z : Value) (c : Nat) : Prop :=
  ∃ es : Array MapEntry, w.heap[b]? = some (.map (es.push ⟨enc k, z, c⟩) (c + 1)) ∧ es.toList.map (fun e => (e.key, e.val)) = l.map (fun p => (enc p.1, p.2)) ∧ (∀ e ∈ es.toList, e.born < c) ∧ (es.toList.map (·.born)).Nodup ∧ ((l ++ [(k, z)]).map (·.1)).Nodup

variable {enc : κ → Value}
theorem MapAt.lt {w : World} {b : Nat} {l : List (κ × Value)} (h : MapAt enc w b l) : b < w.heap.size := by
  obtain ⟨es, c, h, _⟩ := h; exact (Array.getElem?_eq_some_iff.1 h).1
theorem MapAt.nodup {w : World} {b : Nat} {l : List (κ × Value)} (h : MapAt enc w b l) : (l.map (·.1)).Nodup := by
  obtain ⟨es, c, _, _, _, _, h⟩ := h; exact h
theorem Ext.map {w w' : World} {b : Nat} {l : List (κ × Value)} (h : Ext w w') (hb : MapAt enc w b l) : MapAt enc w' b l := by
  have := hb.lt
  obtain ⟨es, c, hb, r⟩ := hb; exact ⟨es, c, (h.block b this).trans hb, r⟩
theorem Upd.map {S : Nat → Prop} {w w' : World} {b : Nat} {l : List (κ × Value)} (h : Upd S w w') (hS : ¬ S b) (hb : MapAt enc w b l) : MapAt enc w' b l := by
  have := hb.lt
  obtain ⟨es, c, hb, r⟩ := hb; exact ⟨es, c, (h.block b this hS).trans hb, r⟩

theorem upd_set (w : World) (b : Nat) (o : Obj) : Upd (fun k => k = b) w { w with heap := w.heap.setIfInBounds b o } :=
  ⟨rfl, rfl, rfl, by simp, fun k _ hk => by simp [Array.getElem?_setIfInBounds_ne (fun e => hk e.symm)]⟩
theorem set_at {w : World} {b : Nat} (o : Obj) (h : b < w.heap.size) : ({ w with heap := w.heap.setIfInBounds b o } : World).heap[b]? = some o := by
  simp [h]
end

section
variable {κ : Type} [DecidableEq κ] {enc : κ → Value} {r : Option Nat} {P : Program} {ops : Array Oper} {K : Cont} {rest : List Oper} {ρ : Env} {w : World} {d : Nat} {dd : Option Nat} {ty : TypeId} {pos : String} {af : Array Edge} {g : Option (Nat × Bool)} {mt kt et : TypeId}

theorem WL.makeMap (enc : κ → Value) (hg : wantE ops ρ ⟨some d, .makeMap mt none, ty, pos, af, g⟩ = true)
    (k : ∀ b w', b = w.heap.size → w'.heap.size = b + 1 → Ext w w' → MapAt enc w' b [] → WL r P ops K rest (ρ.set d (.map (some b))) w') :
    WL r P ops K (⟨some d, .makeMap mt none, ty, pos, af, g⟩ :: rest) ρ w := by
  refine WL.yw (w' := w.alloc (.map #[] 0)) ?_ hg (k _ _ rfl (by simp) (ext_alloc _ _) ⟨#[], 0, heap_alloc_new w _, rfl, by simp, by simp, by simp⟩)
  simp [execOp, Instr.makeMap]

theorem run_look {x y : Operand} {b : Nat} {k : κ} {l : List (κ × Value)} {z : Value} {c : Bool} (L : KeyL P kt enc) (ht : P.underlying mt = some (.map kt et)) (hz : ∀ w, (zeroValue et).run P w = .ok z w)
    (hx : ev ρ x = .map (some b)) (hb : MapAt enc w b l) (hy : ev ρ y = enc k) :
    Run P ρ ⟨dd, .lookup mt x y c, ty, pos, af, g⟩ w (match mget k l with | some v => if c = true then .tuple #[v, .bool true] else v | none => if c = true then .tuple #[z, .bool false] else z) := by
  obtain ⟨es, cl, hb, hr, _⟩ := hb
  have hf := L.find k es.toList l w hr
  have hc := L.chk es.isEmpty k w
  cases hm : mget k l with
  | none =>
    rw [mfind_none.2 hm] at hf
    cases c <;> simp [Run, execOp, hx, hy, Instr.lookup, run_underlying ht, MapKept.run_getObj_map hb, hc, hf, hz w]
  | some v =>
    obtain ⟨j, hj⟩ := mfind_of_get (i := 0) hm
    rw [hj] at hf
    cases c <;> simp [Run, execOp, hx, hy, Instr.lookup, run_underlying ht, MapKept.run_getObj_map hb, hc, hf, hz w]

theorem R.lookT {x y : Operand} {b : Nat} {k : κ} {l : List (κ × Value)} {z v : Value} (L : KeyL P kt enc) (ht : P.underlying mt = some (.map kt et)) (hz : ∀ w, (zeroValue et).run P w = .ok z w)
    (hx : ev ρ x = .map (some b)) (hb : MapAt enc w b l) (hy : ev ρ y = enc k) (hm : mget k l = some v) : Run P ρ ⟨dd, .lookup mt x y true, ty, pos, af, g⟩ w (.tuple #[v, .bool true]) := by
  have := run_look (c := true) (dd := dd) (ty := ty) (pos := pos) (af := af) (g := g) L ht hz hx hb hy
  rw [hm] at this; exact this
theorem R.lookF {x y : Operand} {b : Nat} {k : κ} {l : List (κ × Value)} {z : Value} (L : KeyL P kt enc) (ht : P.underlying mt = some (.map kt et)) (hz : ∀ w, (zeroValue et).run P w = .ok z w)
    (hx : ev ρ x = .map (some b)) (hb : MapAt enc w b l) (hy : ev ρ y = enc k) (hm : mget k l = none) : Run P ρ ⟨dd, .lookup mt x y true, ty, pos, af, g⟩ w (.tuple #[z, .bool false]) := by
  have := run_look (c := true) (dd := dd) (ty := ty) (pos := pos) (af := af) (g := g) L ht hz hx hb hy
  rw [hm] at this; exact this
theorem R.look1 {x y : Operand} {b : Nat} {k : κ} {l : List (κ × Value)} {z v : Value} (L : KeyL P kt enc) (ht : P.underlying mt = some (.map kt et)) (hz : ∀ w, (zeroValue et).run P w = .ok z w)
    (hx : ev ρ x = .map (some b)) (hb : MapAt enc w b l) (hy : ev ρ y = enc k) (hm : (mget k l).getD z = v) : Run P ρ ⟨dd, .lookup mt x y false, ty, pos, af, g⟩ w v := by
  have := run_look (c := false) (dd := dd) (ty := ty) (pos := pos) (af := af) (g := g) L ht hz hx hb hy
  subst hm
  cases h : mget k l <;> (rw [h] at this; exact this)

theorem R.lenM {x : Operand} {b : Nat} {l : List (κ × Value)} (ht : P.underlying mt = some (.map kt et)) (hx : ev ρ x = .map (some b)) (hb : MapAt enc w b l) :
    Run P ρ ⟨dd, .call ⟨.builtin .len, #[x], #[mt]⟩, ty, pos, af, g⟩ w (.int .i64 l.length) := by
  obtain ⟨es, cl, hb, hr, _⟩ := hb
  have hl : es.size = l.length := by have := congrArg List.length hr; simpa using this
  simp [Run, execOp, hx, resolve, invoke, builtin, Builtin.len_, run_underlying ht, MapKept.run_getObj_map hb, goInt, hl]

theorem map_push {es : Array MapEntry} {l : List (κ × Value)} (hr : es.toList.map (fun e => (e.key, e.val)) = l.map (fun p => (enc p.1, p.2))) (k : κ) (v : Value) (c : Nat) :
    (es.push ⟨enc k, v, c⟩).toList.map (fun e => (e.key, e.val)) = (l ++ [(k, v)]).map (fun p => (enc p.1, p.2)) := by
  simp [hr]
theorem nodup_push {l : List (κ × Value)} {k : κ} {v : Value} (h : (l.map (·.1)).Nodup) (hm : mget k l = none) : ((l ++ [(k, v)]).map (·.1)).Nodup := by
  rw [List.map_append, List.nodup_append]
  refine ⟨h, by simp, ?_⟩
  intro a ha b hb
  simp at hb
  subst hb
  intro e; subst e
  exact mget_none.1 hm ha
theorem born_push {es : Array MapEntry} {c : Nat} (h : ∀ e ∈ es.toList, e.born < c) (hn : (es.toList.map (·.born)).Nodup) (k v : Value) :
    (∀ e ∈ (es.push ⟨k, v, c⟩).toList, e.born < c + 1) ∧ ((es.push ⟨k, v, c⟩).toList.map (·.born)).Nodup := by
  refine ⟨fun e he => ?_, ?_⟩
  · simp at he
    rcases he with he | rfl
    · have := h e (by simpa using he); omega
    · simp
  · simp only [Array.toList_push, List.map_append, List.map_cons, List.map_nil]
    rw [List.nodup_append]
    refine ⟨hn, by simp, ?_⟩
    intro a ha b hb
    simp at hb
    obtain ⟨e, he, rfl⟩ := List.mem_map.1 ha
    have := h e he
    omega

/-- 'm[k] = v' of a key that is not there. -/
theorem WL.mapNew {x y z : Operand} {b : Nat} {k : κ} {v : Value} {l : List (κ × Value)} (L : KeyL P kt enc) (ht : P.underlying mt = some (.map kt et))
    (hx : ev ρ x = .map (some b)) (hb : MapAt enc w b l) (hy : ev ρ y = enc k) (hv : ev ρ z = v) (hm : mget k l = none) (hg : wantE ops ρ ⟨none, .mapUpdate mt x y z, ty, pos, af, g⟩ = true)
    (kk : ∀ w', Upd (fun k => k = b) w w' → w'.heap.size = w.heap.size → MapAt enc w' b (l ++ [(k, v)]) → WL r P ops K rest ρ w') :
    WL r P ops K (⟨none, .mapUpdate mt x y z, ty, pos, af, g⟩ :: rest) ρ w := by
  have hlt := hb.lt
  obtain ⟨es, cl, hb, hr, h1, h2, h3⟩ := hb
  have hf := L.find k es.toList l w hr
  rw [mfind_none.2 hm] at hf
  refine WL.u (w' := { w with heap := w.heap.setIfInBounds b (.map (es.push ⟨enc k, v, cl⟩) (cl + 1)) }) ?_ hg (kk _ (upd_set _ _ _) (by simp) ⟨_, _, set_at _ hlt, map_push hr k v cl, (born_push h1 h2 _ _).1, (born_push h1 h2 _ _).2, nodup_push h3 hm⟩)
  simp [RunU, execOp, hx, hy, hv, Instr.mapUpdate, run_underlying ht, MapKept.run_getObj_map hb, L.chk, hf, MapKept.run_setObj_map _ hb]

theorem modify_rel {es : Array MapEntry} {l : List (κ × Value)} (hr : es.toList.map (fun e => (e.key, e.val)) = l.map (fun p => (enc p.1, p.2))) {j : Nat} {k : κ} {v u : Value} (hj : l[j]? = some (k, u)) :
    (es.modify j fun e => { e with key := enc k, val := v }).toList.map (fun e => (e.key, e.val)) = (l.modify j (fun p => (p.1, v))).map (fun p => (enc p.1, p.2)) := by
  apply List.ext_getElem?
  intro i
  have hi : (es.toList.map (fun e => (e.key, e.val)))[i]? = (l.map (fun p => (enc p.1, p.2)))[i]? := by rw [hr]
  simp only [List.getElem?_map, Array.toList_modify, List.getElem?_modify] at hi ⊢
  by_cases e : j = i
  · subst e
    rw [hj] at hi ⊢
    cases he : es.toList[j]? with
    | none => rw [he] at hi; simp at hi
    | some x => simp
  · simpa [e] using hi
theorem modify_born {es : Array MapEntry} (j : Nat) (f : MapEntry → MapEntry) (hf : ∀ e, (f e).born = e.born) : (es.modify j f).toList.map (·.born) = es.toList.map (·.born) := by
  apply List.ext_getElem?
  intro i
  simp only [List.getElem?_map, Array.toList_modify, List.getElem?_modify, Option.map_map]
  cases es.toList[i]? with
  | none => rfl
  | some x => by_cases e : j = i <;> simp [e, hf]
theorem all_born {l : List MapEntry} {c : Nat} : (∀ e ∈ l, e.born < c) ↔ ∀ b ∈ l.map (·.born), b < c := by simp

/-- 'm[k] = v' of a key that is there. -/
theorem WL.mapOld {x y z : Operand} {b : Nat} {k : κ} {v u : Value} {l : List (κ × Value)} (L : KeyL P kt enc) (ht : P.underlying mt = some (.map kt et))
    (hx : ev ρ x = .map (some b)) (hb : MapAt enc w b l) (hy : ev ρ y = enc k) (hv : ev ρ z = v) (hm : mget k l = some u) (hg : wantE ops ρ ⟨none, .mapUpdate mt x y z, ty, pos, af, g⟩ = true)
    (kk : ∀ w', Upd (fun k => k = b) w w' → w'.heap.size = w.heap.size → MapAt enc w' b (mset k v l) → WL r P ops K rest ρ w') :
    WL r P ops K (⟨none, .mapUpdate mt x y z, ty, pos, af, g⟩ :: rest) ρ w := by
  have hlt := hb.lt
  obtain ⟨es, cl, hb, hr, h1, h2, h3⟩ := hb
  have hf := L.find k es.toList l w hr
  obtain ⟨j, hj⟩ := mfind_of_get (i := 0) hm
  rw [hj] at hf
  obtain ⟨_, m, hm1, hm2⟩ := mfind_some hj
  have : m = j := by omega
  subst this
  have hkey : (es[m]?.map (·.key)).getD (enc k) = enc k := by
    have := congrArg (fun l => (l[m]?).map (·.1)) hr
    simp only [List.getElem?_map, hm2, Option.map_some, Option.map_map] at this
    cases he : es[m]? with
    | none => simp
    | some q => simp [he] at this; simp [this]
  refine WL.u (w' := { w with heap := w.heap.setIfInBounds b (.map (es.modify m fun e => { e with key := enc k, val := v }) cl) }) ?_ hg (kk _ (upd_set _ _ _) (by simp) ⟨_, _, set_at _ hlt, ?_, ?_, ?_, ?_⟩)
  · simp [RunU, execOp, hx, hy, hv, Instr.mapUpdate, run_underlying ht, MapKept.run_getObj_map hb, L.chk, hf, hkey, L.stays, MapKept.run_setObj_map _ hb]
  · rw [mset_at hj]; exact modify_rel hr hm2
  · rw [all_born, modify_born m (fun e => { e with key := enc k, val := v }) (fun _ => rfl), ← all_born]; exact h1
  · rw [modify_born m (fun e => { e with key := enc k, val := v }) (fun _ => rfl)]; exact h2
  · rw [mset_keys]; exact h3

/-- 'm[k], ..' of a key that is not there: the entry is made first. -/
theorem WL.mapEntry {x y : Operand} {b : Nat} {k : κ} {zv : Value} {l : List (κ × Value)} (L : KeyL P kt enc) (ht : P.underlying mt = some (.map kt et)) (hz : ∀ w, (zeroValue et).run P w = .ok zv w)
    (hx : ev ρ x = .map (some b)) (hb : MapAt enc w b l) (hy : ev ρ y = enc k) (hm : mget k l = none) (hg : wantE ops ρ ⟨some d, .mapEntry mt x y, ty, pos, af, g⟩ = true)
    (kk : ∀ w' c, Upd (fun k => k = b) w w' → w'.heap.size = w.heap.size → MapNew enc w' b l k zv c → WL r P ops K rest (ρ.set d (.tuple #[zv, .int .i64 (c : Nat)])) w') :
    WL r P ops K (⟨some d, .mapEntry mt x y, ty, pos, af, g⟩ :: rest) ρ w := by
  have hlt := hb.lt
  obtain ⟨es, cl, hb, hr, h1, h2, h3⟩ := hb
  have hf := L.find k es.toList l w hr
  rw [mfind_none.2 hm] at hf
  refine WL.yw (w' := { w with heap := w.heap.setIfInBounds b (.map (es.push ⟨enc k, zv, cl⟩) (cl + 1)) }) ?_ hg (kk _ cl (upd_set _ _ _) (by simp) ⟨es, set_at _ hlt, hr, h1, h2, nodup_push h3 hm⟩)
  simp [execOp, hx, hy, Instr.mapEntry, run_underlying ht, MapKept.run_getObj_map hb, L.chk, hf, hz w, MapKept.run_setObj_map _ hb, goInt]

theorem WL.entryStore {x s z : Operand} {b c : Nat} {k : κ} {v zv : Value} {l : List (κ × Value)}
    (hx : ev ρ x = .map (some b)) (hs : ev ρ s = .int .i64 (c : Nat)) (hv : ev ρ z = v) (hb : MapNew enc w b l k zv c) (hg : wantE ops ρ ⟨none, .entryStore mt x s z, ty, pos, af, g⟩ = true)
    (kk : ∀ w', Upd (fun k => k = b) w w' → w'.heap.size = w.heap.size → MapAt enc w' b (l ++ [(k, v)]) → WL r P ops K rest ρ w') :
    WL r P ops K (⟨none, .entryStore mt x s z, ty, pos, af, g⟩ :: rest) ρ w := by
  obtain ⟨es, hb, hr, h1, h2, h3⟩ := hb
  have hlt : b < w.heap.size := (Array.getElem?_eq_some_iff.1 hb).1
  have hnone : es.findIdx? (fun e => (e.born : Int) == (c : Int)) = none := by
    rw [Array.findIdx?_eq_none_iff]
    intro e he
    have := h1 e (by simpa using he)
    simp; omega
  have hidx : (es.push ⟨enc k, zv, c⟩).findIdx? (fun e => (e.born : Int) == (c : Int)) = some es.size := by
    rw [Array.findIdx?_push, hnone]; simp
  have hmod : (es.push ⟨enc k, zv, c⟩).modify es.size (fun e => { e with val := v }) = es.push ⟨enc k, v, c⟩ := by
    apply Array.ext
    · simp
    · intro i hi1 hi2
      rw [Array.getElem_modify]
      by_cases e : es.size = i
      · subst e; simp
      · have hi : i < es.size := by simp at hi2; omega
        simp [e, Array.getElem_push_lt hi]
  refine WL.u (w' := { w with heap := w.heap.setIfInBounds b (.map (es.push ⟨enc k, v, c⟩) (c + 1)) }) ?_ hg (kk _ (upd_set _ _ _) (by simp) ⟨_, _, set_at _ hlt, map_push hr k v c, (born_push h1 h2 _ _).1, (born_push h1 h2 _ _).2, by simpa using h3⟩)
  simp [RunU, execOp, hx, hs, hv, Instr.entryStore, MapKept.run_getObj_map hb, asInt, asIntOf, hidx, hmod, MapKept.run_setObj_map _ hb]

theorem map_erase {α β : Type} (f : α → β) : ∀ (l : List α) (i : Nat), (l.eraseIdx i).map f = (l.map f).eraseIdx i
  | [], _ => rfl
  | _ :: _, 0 => rfl
  | a :: l, i + 1 => by simp [map_erase f l i]
/-- 'delete(m, k)'. -/
theorem WL.delete {x y : Operand} {b : Nat} {k : κ} {l : List (κ × Value)} (L : KeyL P kt enc) (ht : P.underlying mt = some (.map kt et)) {at2 : TypeId}
    (hx : ev ρ x = .map (some b)) (hb : MapAt enc w b l) (hy : ev ρ y = enc k) (hg : wantE ops ρ ⟨none, .call ⟨.builtin .delete, #[x, y], #[mt, at2]⟩, ty, pos, af, g⟩ = true)
    (kk : ∀ w', Upd (fun k => k = b) w w' → w'.heap.size = w.heap.size → MapAt enc w' b (mdel k l) → WL r P ops K rest ρ w') :
    WL r P ops K (⟨none, .call ⟨.builtin .delete, #[x, y], #[mt, at2]⟩, ty, pos, af, g⟩ :: rest) ρ w := by
  have hlt := hb.lt
  have hb0 := hb
  obtain ⟨es, cl, hb, hr, h1, h2, h3⟩ := hb
  have hf := L.find k es.toList l w hr
  simp only [WL, hg, if_true]
  cases hm : mget k l with
  | none =>
    rw [mfind_none.2 hm] at hf
    have : (execOp (ev ρ) ⟨none, .call ⟨.builtin .delete, #[x, y], #[mt, at2]⟩, ty, pos, af, g⟩).run P w = .ok (.value (.tuple #[])) { w with heap := w.heap.setIfInBounds b (.map es cl) } := by
      simp [execOp, hx, hy, resolve, invoke, builtin, Builtin.delete_, run_underlying ht, MapKept.run_getObj_map hb, L.chk, hf, MapKept.run_setObj_map _ hb]
    rw [this]
    refine kk _ (upd_set _ _ _) (by simp) ⟨_, _, set_at _ hlt, ?_, h1, h2, ?_⟩
    · rw [mdel_none hm]; exact hr
    · rw [mdel_none hm]; exact h3
  | some u =>
    obtain ⟨j, hj⟩ := mfind_of_get (i := 0) hm
    rw [hj] at hf
    have : (execOp (ev ρ) ⟨none, .call ⟨.builtin .delete, #[x, y], #[mt, at2]⟩, ty, pos, af, g⟩).run P w = .ok (.value (.tuple #[])) { w with heap := w.heap.setIfInBounds b (.map (es.eraseIdxIfInBounds j) cl) } := by
      simp [execOp, hx, hy, resolve, invoke, builtin, Builtin.delete_, run_underlying ht, MapKept.run_getObj_map hb, L.chk, hf, MapKept.run_setObj_map _ hb]
    rw [this]
    have hsub : ((es.eraseIdxIfInBounds j).toList).Sublist es.toList := by
      rw [Array.toList_eraseIdxIfInBounds]; exact List.eraseIdx_sublist _ _
    refine kk _ (upd_set _ _ _) (by simp) ⟨_, _, set_at _ hlt, ?_, ?_, ?_, ?_⟩
    · rw [mdel_erase hj, Array.toList_eraseIdxIfInBounds, Nat.sub_zero, map_erase, map_erase, hr]
    · intro e he; exact h1 e (hsub.subset he)
    · exact (hsub.map _).nodup h2
    · exact ((mdel_sub (k := k) (l := l)).map _).nodup h3
end

/-! ### Keys that are structs of plain cells, and integers -/
theorem sameBits_typed : ∀ (cs : List (Option IntKind)) (xs : List Value), typedB cs xs = true → ∀ n, (xs.zip xs).all (fun (x, y) => Instr.sameBits n x y) = true
  | [], [], _, _ => rfl
  | c :: cs, x :: xs, h, n => by
    simp only [typedB, Bool.and_eq_true] at h
    simp only [List.zip_cons_cons, List.all_cons, Bool.and_eq_true]
    refine ⟨?_, sameBits_typed cs xs h.2 n⟩
    cases c with
    | none => obtain ⟨b, rfl⟩ := cellB_bool h.1; cases n <;> simp [Instr.sameBits]
    | some k => obtain ⟨m, rfl⟩ := cellB_int h.1; cases n <;> simp [Instr.sameBits]
  | [], _ :: _, h, _ => by simp [typedB] at h
  | _ :: _, [], h, _ => by simp [typedB] at h

theorem KeyL.flat {P : Program} {kt : TypeId} {κ : Type} [DecidableEq κ] {enc : κ → List Value} {cs : List (Option IntKind)} {dep : Nat} (h : FlatEq P kt cs dep) (hd : dep ≤ 10000) (ha : Agg P kt cs.length) {fs : Array Field} (ht : P.underlying kt = some (.struct fs))
    (ty : ∀ k, typedB cs (enc k) = true) (eq : ∀ a b, veqL (enc a) (enc b) = decide (a = b)) : KeyL P kt (fun k => .agg (enc k).toArray) where
  chk em k w := h.check hd ha (ty k) em w
  stays k w := by
    have : Instr.sameBits 10000 (.agg (enc k).toArray) (.agg (enc k).toArray) = true := by
      have := sameBits_typed cs (enc k) (ty k) 9999
      simp only [Instr.sameBits, Bool.and_eq_true]
      exact ⟨by simp, this⟩
    simp [Instr.keyThatStays, this]
  find k es l w hr := by
    have key : ∀ (es : List MapEntry) (l : List (κ × Value)) (i : Nat), es.map (fun e => (e.key, e.val)) = l.map (fun p => (Value.agg (enc p.1).toArray, p.2)) →
        (Instr.findAsking kt (.agg (enc k).toArray) es i).run P w = .ok (mfind k l i) w := by
      intro es
      induction es with
      | nil =>
        intro l i hl
        cases l with
        | nil => simp [Instr.findAsking, mfind]
        | cons p l => simp at hl
      | cons e es ih =>
        intro l i hl
        cases l with
        | nil => simp at hl
        | cons p l =>
          simp only [List.map_cons, List.cons.injEq, Prod.mk.injEq] at hl
          obtain ⟨⟨h1, h2⟩, h3⟩ := hl
          obtain ⟨a, v⟩ := p
          simp only at h1 h2
          simp only [Instr.findAsking, Sem.run_bind, h1, h.equal hd ha (ty k) (ty a) w, eq, Result.andThen_ok, mfind]
          by_cases ek : k = a
          · simp [ek, h2]
          · simp only [ek, decide_false, Bool.false_eq_true, if_false]
            exact ih l (i + 1) h3
    have hnow : Instr.findNow (.struct fs) (.agg (enc k).toArray) es 0 = some none ∧ es = [] ∨ Instr.findNow (.struct fs) (.agg (enc k).toArray) es 0 = none := by
      cases es with
      | nil => exact .inl ⟨rfl, rfl⟩
      | cons e es => exact .inr (by simp [Instr.findNow, Instr.sameNow])
    rcases hnow with ⟨h1, rfl⟩ | h1
    · cases l with
      | nil => simp [Instr.findKey, run_underlying ht, h1, mfind]
      | cons p l => simp at hr
    · simp only [Instr.findKey, Sem.run_bind, run_underlying ht, Result.andThen_ok, h1]
      exact key es l 0 hr
theorem KeyL.int {P : Program} {kt : TypeId} {k0 : IntKind} (ht : P.underlying kt = some (.int k0)) : KeyL P kt (fun k : Int => .int k0 k) where
  chk em k w := MapKept.run_checkKey ht (show MapKept.IsKey (.int k0) (.int k0 k) from rfl) em 9999
  stays k w := MapKept.run_keyThatStays (d := .int k0) (show MapKept.IsKey (.int k0) (.int k0 k) from rfl)
  find k es l w hr := by
    have key : ∀ (es : List MapEntry) (l : List (Int × Value)) (i : Nat), es.map (fun e => (e.key, e.val)) = l.map (fun p => (Value.int k0 p.1, p.2)) →
        Instr.findNow (.int k0) (.int k0 k) es i = some (mfind k l i) := by
      intro es
      induction es with
      | nil =>
        intro l i hl
        cases l with
        | nil => rfl
        | cons p l => simp at hl
      | cons e es ih =>
        intro l i hl
        cases l with
        | nil => simp at hl
        | cons p l =>
          simp only [List.map_cons, List.cons.injEq, Prod.mk.injEq] at hl
          obtain ⟨⟨h1, h2⟩, h3⟩ := hl
          obtain ⟨a, v⟩ := p
          simp only at h1 h2
          simp only [Instr.findNow, Instr.sameNow, h1, if_true, mfind]
          by_cases ek : k = a
          · simp [ek, h2]
          · have : (k == a) = false := by simpa using ek
            simp only [this, ek, if_false]
            exact ih l (i + 1) h3
    simp [Instr.findKey, run_underlying ht, key es l 0 hr]
end Go.Eng
