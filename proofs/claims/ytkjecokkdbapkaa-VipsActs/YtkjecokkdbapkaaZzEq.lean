import Derived.Test.YtkjecokkdbapkaaZzData
namespace Go.Eng
set_option linter.all false
open Go Go.RowKit

/-! ## '==' on types of plain cells -/
def cellB (c : Option IntKind) (v : Value) : Bool :=
  match c, v with
  | none, .bool _ => true
  | some k, .int k' _ => decide (k = k')
  | _, _ => false
def typedB : List (Option IntKind) → List Value → Bool
  | [], [] => true
  | c :: cs, v :: vs => cellB c v && typedB cs vs
  | _, _ => false
def veq : Value → Value → Bool
  | .bool a, .bool b => a == b
  | .int _ a, .int _ b => a == b
  | _, _ => false
def veqL : List Value → List Value → Bool
  | [], [] => true
  | x :: xs, y :: ys => veq x y && veqL xs ys
  | _, _ => false

theorem typedB_length : ∀ {cs : List (Option IntKind)} {vs : List Value}, typedB cs vs = true → vs.length = cs.length
  | [], [], _ => rfl
  | c :: cs, v :: vs, h => by simp only [typedB, Bool.and_eq_true] at h; simp [typedB_length h.2]
theorem typedB_append : ∀ {c1 c2 : List (Option IntKind)} {v1 v2 : List Value}, v1.length = c1.length → typedB (c1 ++ c2) (v1 ++ v2) = (typedB c1 v1 && typedB c2 v2)
  | [], c2, [], v2, _ => by simp [typedB]
  | c :: c1, c2, v :: v1, v2, h => by simp only [List.cons_append, typedB, typedB_append (c1 := c1) (v1 := v1) (by simpa using h), Bool.and_assoc]
theorem veqL_append : ∀ {x1 x2 y1 y2 : List Value}, x1.length = y1.length → veqL (x1 ++ x2) (y1 ++ y2) = (veqL x1 y1 && veqL x2 y2)
  | [], x2, [], y2, _ => by simp [veqL]
  | x :: x1, x2, y :: y1, y2, h => by simp only [List.cons_append, veqL, veqL_append (x1 := x1) (y1 := y1) (by simpa using h), Bool.and_assoc]

/-- Two values of type t, that lie at off in xs and ys, are held against each other cell by cell. -/
def FlatEq (P : Program) (t : TypeId) (cs : List (Option IntKind)) (dep : Nat) : Prop :=
  ∀ d, dep ≤ d → ∀ (xs ys : List Value) (off : Nat) (w : World), typedB cs ((xs.drop off).take cs.length) = true → typedB cs ((ys.drop off).take cs.length) = true →
    ∃ a b, (part t xs.toArray off).run P w = .ok a w ∧ (part t ys.toArray off).run P w = .ok b w ∧
      (Op.equalIn d t a b).run P w = .ok (veqL ((xs.drop off).take cs.length) ((ys.drop off).take cs.length)) w ∧
      ∀ em, (Instr.checkKey em d t a).run P w = .ok () w

theorem take1 {xs : List Value} {off : Nat} {c : Option IntKind} (h : typedB [c] ((xs.drop off).take 1) = true) : ∃ v, xs[off]? = some v ∧ (xs.drop off).take 1 = [v] ∧ cellB c v = true := by
  have hl := typedB_length h
  have hlt : off < xs.length := by simp at hl; omega
  have e : (xs.drop off).take 1 = [xs[off]] := by rw [List.drop_eq_getElem_cons hlt, List.take_succ_cons, List.take_zero]
  refine ⟨xs[off], List.getElem?_eq_getElem hlt, e, ?_⟩
  rw [e] at h
  simpa [typedB] using h
theorem cellB_int {k : IntKind} {v : Value} (h : cellB (some k) v = true) : ∃ n, v = .int k n := by
  cases v <;> simp [cellB] at h
  subst h; exact ⟨_, rfl⟩
theorem cellB_bool {v : Value} (h : cellB none v = true) : ∃ n, v = .bool n := by
  cases v <;> simp [cellB] at h
  exact ⟨_, rfl⟩

theorem FlatEq.int {P : Program} {t : TypeId} {k : IntKind} (ht : P.underlying t = some (.int k)) (hs : Sca P t) : FlatEq P t [some k] 1 := by
  intro d hd xs ys off w hx hy
  obtain ⟨d, rfl⟩ : ∃ n, d = n + 1 := ⟨d - 1, by omega⟩
  obtain ⟨v, hv, e1, cv⟩ := take1 hx
  obtain ⟨u, hu, e2, cu⟩ := take1 hy
  obtain ⟨n, rfl⟩ := cellB_int cv
  obtain ⟨m, rfl⟩ := cellB_int cu
  refine ⟨.int k n, .int k m, by simp [part, hs.1 w, hv], by simp [part, hs.1 w, hu], ?_, fun em => by simp [Instr.checkKey, run_underlying ht]⟩
  have e1' : List.take [some k].length (List.drop off xs) = _ := e1
  have e2' : List.take [some k].length (List.drop off ys) = _ := e2
  rw [e1', e2', run_equalIn_int w d t k k _ _ ht]
  simp [veqL, veq]
theorem FlatEq.bool {P : Program} {t : TypeId} (ht : P.underlying t = some .bool) (hs : Sca P t) : FlatEq P t [none] 1 := by
  intro d hd xs ys off w hx hy
  obtain ⟨d, rfl⟩ : ∃ n, d = n + 1 := ⟨d - 1, by omega⟩
  obtain ⟨v, hv, e1, cv⟩ := take1 hx
  obtain ⟨u, hu, e2, cu⟩ := take1 hy
  obtain ⟨n, rfl⟩ := cellB_bool cv
  obtain ⟨m, rfl⟩ := cellB_bool cu
  refine ⟨.bool n, .bool m, by simp [part, hs.1 w, hv], by simp [part, hs.1 w, hu], ?_, fun em => by simp [Instr.checkKey, run_underlying ht]⟩
  have e1' : List.take [(none : Option IntKind)].length (List.drop off xs) = _ := e1
  have e2' : List.take [(none : Option IntKind)].length (List.drop off ys) = _ := e2
  rw [e1', e2', run_equalIn_bool' w d t _ _ ht]
  simp [veqL, veq]

theorem FlatEq.mono {P : Program} {t : TypeId} {cs : List (Option IntKind)} {dep dep' : Nat} (h : FlatEq P t cs dep) (hd : dep ≤ dep') : FlatEq P t cs dep' := fun d hd' => h d (Nat.le_trans hd hd')

/-- The fields of a struct, one behind the other from off on. -/
inductive FieldsEq (P : Program) (dep : Nat) : Nat → List Field → List (Option IntKind) → Prop
  | nil (off : Nat) : FieldsEq P dep off [] []
  | cons {off : Nat} {f : Field} {fs : List Field} {c cs : List (Option IntKind)} (hn : f.name ≠ "_") (ho : f.offset = off) (h : FlatEq P f.type c dep) (r : FieldsEq P dep (off + c.length) fs cs) : FieldsEq P dep off (f :: fs) (c ++ cs)

theorem take_split (xs : List Value) (off n m : Nat) : (xs.drop off).take (n + m) = (xs.drop off).take n ++ (xs.drop (off + n)).take m := by
  rw [List.take_add, List.drop_drop]

theorem eqFields_run {P : Program} {dep : Nat} : ∀ {off : Nat} {fs : List Field} {cs : List (Option IntKind)}, FieldsEq P dep off fs cs → ∀ d, dep ≤ d → ∀ (xs ys : List Value) (w : World),
    typedB cs ((xs.drop off).take cs.length) = true → typedB cs ((ys.drop off).take cs.length) = true →
    (Op.eqFields d xs.toArray ys.toArray fs).run P w = .ok (veqL ((xs.drop off).take cs.length) ((ys.drop off).take cs.length)) w := by
  intro off fs cs h
  induction h with
  | nil off => intro d hd xs ys w _ _; simp [Op.eqFields, veqL]
  | @cons off f fs c cs hn ho hE r ih =>
    intro d hd xs ys w hx hy
    have l1 : ((xs.drop off).take c.length).length = c.length := by
      have := typedB_length hx; simp at this ⊢; omega
    have l2 : ((ys.drop off).take c.length).length = c.length := by
      have := typedB_length hy; simp at this ⊢; omega
    rw [List.length_append, take_split] at hx hy ⊢
    rw [typedB_append l1, Bool.and_eq_true] at hx
    rw [typedB_append l2, Bool.and_eq_true] at hy
    obtain ⟨a, b, ha, hb, hab, _⟩ := hE d hd xs ys off w hx.1 hy.1
    rw [take_split ys, veqL_append (l1.trans l2.symm)]
    have ih := ih d hd xs ys w hx.2 hy.2
    simp only [Op.eqFields, if_pos hn, Sem.run_bind, ho, ha, hb, hab, Result.andThen_ok, Sem.run_ite]
    cases hq : veqL ((xs.drop off).take c.length) ((ys.drop off).take c.length)
    · simp
    · simp [ih]

theorem checkFields_run {P : Program} {dep : Nat} : ∀ {off : Nat} {fs : List Field} {cs : List (Option IntKind)}, FieldsEq P dep off fs cs → ∀ d, dep ≤ d → ∀ (em : Bool) (xs : List Value) (w : World),
    typedB cs ((xs.drop off).take cs.length) = true →
    (forIn (m := Sem) fs PUnit.unit fun f _ => do
      if f.name ≠ "_" then
        Instr.checkKey em d f.type (← part f.type xs.toArray f.offset)
        pure (ForInStep.yield PUnit.unit)
      else pure (ForInStep.yield PUnit.unit)).run P w = .ok PUnit.unit w := by
  intro off fs cs h
  induction h with
  | nil off => intro d hd em xs w _; simp
  | @cons off f fs c cs hn ho hE r ih =>
    intro d hd em xs w hx
    have l1 : ((xs.drop off).take c.length).length = c.length := by
      have := typedB_length hx; simp at this ⊢; omega
    rw [List.length_append, take_split] at hx
    rw [typedB_append l1, Bool.and_eq_true] at hx
    obtain ⟨a, b, ha, hb, hab, hck⟩ := hE d hd xs xs off w hx.1 hx.1
    rw [List.forIn_cons]
    simp only [if_pos hn, Sem.run_bind, ho, ha, hck em, Result.andThen_ok, Sem.run_pure, ih d hd em xs w hx.2]

def fieldsB : Nat → List Field → List (TypeId × List (Option IntKind)) → Bool
  | _, [], [] => true
  | off, f :: fs, (t, c) :: L => decide (f.name ≠ "_") && (Nat.beq f.offset off && (Nat.beq f.type t && fieldsB (off + c.length) fs L))
  | _, _, _ => false
theorem fieldsB_spec {P : Program} {dep : Nat} : ∀ {off : Nat} {fs : List Field} {L : List (TypeId × List (Option IntKind))}, fieldsB off fs L = true → (∀ p ∈ L, FlatEq P p.1 p.2 dep) → FieldsEq P dep off fs ((L.map (·.2)).flatten)
  | off, [], [], _, _ => .nil off
  | off, f :: fs, (t, c) :: L, h, hL => by
    simp only [fieldsB, Bool.and_eq_true, decide_eq_true_eq] at h
    have ho := Nat.eq_of_beq_eq_true h.2.1
    have ht := Nat.eq_of_beq_eq_true h.2.2.1
    have h0 := hL (t, c) (by simp)
    refine .cons h.1 ho (by rw [ht]; exact h0) (fieldsB_spec h.2.2.2 fun p hp => hL p (by simp [hp]))

theorem FlatEq.struct {P : Program} {t : TypeId} {cs : List (Option IntKind)} {dep : Nat} (L : List (TypeId × List (Option IntKind))) (ht : P.underlying t = some (.struct (P.fieldsOf t))) (hp : P.stoodInHeld t = false) (hcs : (L.map (·.2)).flatten = cs) (ha : Agg P t cs.length)
    (hf : fieldsB 0 (P.fieldsOf t).toList L = true) (hL : ∀ p ∈ L, FlatEq P p.1 p.2 dep) : FlatEq P t cs (dep + 1) := by
  have h := fieldsB_spec hf hL
  rw [hcs] at h
  intro d hd xs ys off w hx hy
  obtain ⟨d, rfl⟩ : ∃ n, d = n + 1 := ⟨d - 1, by omega⟩
  have px : ∀ xs : List Value, (part t xs.toArray off).run P w = .ok (.agg ((xs.drop off).take cs.length).toArray) w := by
    intro xs
    simp [part, ha.1 w, ha.2 w]
  refine ⟨_, _, px xs, px ys, ?_, ?_⟩
  rotate_left
  · intro em
    have := checkFields_run h d (by omega) em ((xs.drop off).take cs.length) w (by simpa [List.take_take] using hx)
    simp only [Instr.checkKey, Sem.run_bind, run_underlying ht, Result.andThen_ok]
    rw [← Array.forIn_toList]
    rw [show (forIn (m := Sem) (P.fieldsOf t).toList PUnit.unit fun f _ => _).run P w = _ from this]
    rfl
  rw [run_equalIn_struct w d t _ _ ht hp]
  have := eqFields_run h d (by omega) ((xs.drop off).take cs.length) ((ys.drop off).take cs.length) w (by simpa [List.take_take] using hx) (by simpa [List.take_take] using hy)
  simpa [List.take_take] using this

theorem arr_loop {P : Program} {e : TypeId} {c : List (Option IntKind)} {dep d : Nat} (h : FlatEq P e c dep) (hd : dep ≤ d) (us vs : List Value) (w : World) : ∀ (m k : Nat),
    typedB ((List.replicate m c).flatten) ((us.drop (k * c.length)).take (m * c.length)) = true → typedB ((List.replicate m c).flatten) ((vs.drop (k * c.length)).take (m * c.length)) = true →
    Sem.run P (forIn (m := Sem) (List.range' k m) ((none : Option Bool), ()) fun i _ => do
        let a ← part e us.toArray (i * c.length)
        let b ← part e vs.toArray (i * c.length)
        let q ← Op.equalIn d e a b
        if (!q) = true then pure (ForInStep.done (some false, ())) else pure (ForInStep.yield (none, ()))) w =
      .ok ((if veqL ((us.drop (k * c.length)).take (m * c.length)) ((vs.drop (k * c.length)).take (m * c.length)) = true then none else some false), ()) w
  | 0, k, _, _ => by simp [veqL]
  | m + 1, k, hx, hy => by
    have em : (m + 1) * c.length = c.length + m * c.length := by rw [Nat.add_mul]; omega
    have ek : k * c.length + c.length = (k + 1) * c.length := by rw [Nat.add_mul]; omega
    rw [List.replicate_succ, List.flatten_cons, em, take_split, ek] at hx hy
    have tl : ∀ zs : List Value, typedB (c ++ (List.replicate m c).flatten) ((zs.drop (k * c.length)).take c.length ++ (zs.drop ((k + 1) * c.length)).take (m * c.length)) = true → ((zs.drop (k * c.length)).take c.length).length = c.length := by
      intro zs hz
      have := typedB_length hz
      simp at this ⊢
      rw [Nat.add_mul] at this
      omega
    have l1 := tl us hx
    have l2 := tl vs hy
    rw [typedB_append l1, Bool.and_eq_true] at hx
    rw [typedB_append l2, Bool.and_eq_true] at hy
    obtain ⟨a, b, ha, hb, hab, _⟩ := h d hd us vs (k * c.length) w hx.1 hy.1
    have ih := arr_loop h hd us vs w m (k + 1) hx.2 hy.2
    rw [em, take_split, take_split vs, ek, veqL_append (l1.trans l2.symm)]
    rw [List.range'_succ, List.forIn_cons]
    simp only [Sem.run_bind, ha, hb, hab, Result.andThen_ok, Sem.run_ite]
    cases hq : veqL ((us.drop (k * c.length)).take c.length) ((vs.drop (k * c.length)).take c.length)
    · simp
    · simp only [Bool.not_true, Bool.false_eq_true, if_false, Sem.run_pure, Result.andThen_ok, Bool.true_and]
      exact ih

theorem arrCheck_loop {P : Program} {e : TypeId} {c : List (Option IntKind)} {dep d : Nat} (hs : ∀ w, (sizeOf e).run P w = .ok c.length w) (h : FlatEq P e c dep) (hd : dep ≤ d) (em : Bool) (us : List Value) (w : World) : ∀ (m k : Nat),
    typedB ((List.replicate m c).flatten) ((us.drop (k * c.length)).take (m * c.length)) = true →
    Sem.run P (forIn (m := Sem) (List.range' k m) PUnit.unit fun i _ => do
        Instr.checkKey em d e (← part e us.toArray (i * (← sizeOf e)))
        pure (ForInStep.yield PUnit.unit)) w = .ok PUnit.unit w
  | 0, k, _ => by simp
  | m + 1, k, hx => by
    have em' : (m + 1) * c.length = c.length + m * c.length := by rw [Nat.add_mul]; omega
    have ek : k * c.length + c.length = (k + 1) * c.length := by rw [Nat.add_mul]; omega
    rw [List.replicate_succ, List.flatten_cons, em', take_split, ek] at hx
    have l1 : ((us.drop (k * c.length)).take c.length).length = c.length := by
      have := typedB_length hx
      simp at this ⊢
      rw [Nat.add_mul] at this
      omega
    rw [typedB_append l1, Bool.and_eq_true] at hx
    obtain ⟨a, b, ha, hb, hab, hck⟩ := h d hd us us (k * c.length) w hx.1 hx.1
    have ih := arrCheck_loop hs h hd em us w m (k + 1) hx.2
    rw [List.range'_succ, List.forIn_cons]
    simp only [Sem.run_bind, hs w, ha, hck em, Result.andThen_ok, Sem.run_pure]
    exact ih

theorem FlatEq.array {P : Program} {t e : TypeId} {n : Nat} {c : List (Option IntKind)} {dep : Nat} (ht : P.underlying t = some (.array n e)) (ha : Agg P t (n * c.length)) (hs : ∀ w, (sizeOf e).run P w = .ok c.length w) (h : FlatEq P e c dep) : FlatEq P t ((List.replicate n c).flatten) (dep + 1) := by
  intro d hd xs ys off w hx hy
  obtain ⟨d, rfl⟩ : ∃ n, d = n + 1 := ⟨d - 1, by omega⟩
  have hlen : ((List.replicate n c).flatten).length = n * c.length := by simp
  rw [hlen] at hx hy ⊢
  have px : ∀ xs : List Value, (part t xs.toArray off).run P w = .ok (.agg ((xs.drop off).take (n * c.length)).toArray) w := by
    intro xs
    simp [part, ha.1 w, ha.2 w]
  refine ⟨_, _, px xs, px ys, ?_, ?_⟩
  rotate_left
  · intro em
    simp only [Instr.checkKey, Sem.run_bind, run_underlying ht, Result.andThen_ok, Std.Legacy.Range.forIn_eq_forIn_range']
    have hx' : typedB ((List.replicate n c).flatten) ((((xs.drop off).take (n * c.length)).drop (0 * c.length)).take (n * c.length)) = true := by
      simpa [List.take_take] using hx
    have := arrCheck_loop (d := d) hs h (by omega) em ((xs.drop off).take (n * c.length)) w n 0 hx'
    have hsz : [:n].size = n := by simp [Std.Legacy.Range.size]
    rw [hsz, this]
    rfl
  generalize (xs.drop off).take (n * c.length) = us at hx ⊢
  generalize (ys.drop off).take (n * c.length) = vs at hy ⊢
  simp only [Op.equalIn, Sem.run_bind, run_underlying ht, Result.andThen_ok, hs w, Std.Legacy.Range.forIn_eq_forIn_range']
  have hx' : typedB ((List.replicate n c).flatten) ((us.drop (0 * c.length)).take (n * c.length)) = true := by
    have := typedB_length hx; rw [hlen] at this; simpa [← this] using hx
  have hy' : typedB ((List.replicate n c).flatten) ((vs.drop (0 * c.length)).take (n * c.length)) = true := by
    have := typedB_length hy; rw [hlen] at this; simpa [← this] using hy
  have := arr_loop (d := d) h (by omega) us vs w n 0 hx' hy'
  have lu : List.take (n * c.length) (List.drop (0 * c.length) us) = us := by have := typedB_length hx; rw [hlen] at this; simp [← this]
  have lv : List.take (n * c.length) (List.drop (0 * c.length) vs) = vs := by have := typedB_length hy; rw [hlen] at this; simp [← this]
  rw [lu, lv] at this
  have hsz : [:n].size = n := by simp [Std.Legacy.Range.size]
  rw [hsz, this]
  cases veqL us vs <;> simp

/-- '==' of two structs or arrays of plain cells. -/
theorem FlatEq.equal {P : Program} {t : TypeId} {cs : List (Option IntKind)} {dep : Nat} (h : FlatEq P t cs dep) (hd : dep ≤ 10000) (ha : Agg P t cs.length) {xs ys : List Value} (hx : typedB cs xs = true) (hy : typedB cs ys = true) (w : World) :
    (Op.equal t (.agg xs.toArray) (.agg ys.toArray)).run P w = .ok (veqL xs ys) w := by
  have lx := typedB_length hx
  have ly := typedB_length hy
  obtain ⟨a, b, h1, h2, h3, _⟩ := h 10000 hd xs ys 0 w (by simpa [← lx] using hx) (by simpa [← ly] using hy)
  have pa : ∀ xs : List Value, xs.length = cs.length → (part t xs.toArray 0).run P w = .ok (.agg xs.toArray) w := by
    intro xs hl
    simp [part, ha.1 w, ha.2 w, ← hl]
  rw [pa xs lx] at h1; rw [pa ys ly] at h2
  cases h1; cases h2
  have e1 : (xs.drop 0).take cs.length = xs := by simp [← lx]
  have e2 : (ys.drop 0).take cs.length = ys := by simp [← ly]
  rw [e1, e2] at h3
  exact h3

theorem FlatEq.check {P : Program} {t : TypeId} {cs : List (Option IntKind)} {dep : Nat} (h : FlatEq P t cs dep) (hd : dep ≤ 10000) (ha : Agg P t cs.length) {xs : List Value} (hx : typedB cs xs = true) (em : Bool) (w : World) :
    (Instr.checkKey em 10000 t (.agg xs.toArray)).run P w = .ok () w := by
  have lx := typedB_length hx
  obtain ⟨a, b, h1, h2, h3, h4⟩ := h 10000 hd xs xs 0 w (by simpa [← lx] using hx) (by simpa [← lx] using hx)
  have pa : (part t xs.toArray 0).run P w = .ok (.agg xs.toArray) w := by
    simp [part, ha.1 w, ha.2 w, ← lx]
  rw [pa] at h1
  cases h1
  exact h4 em

section
variable {P : Program} {ρ : Env} {w : World} {d : Option Nat} {ty : TypeId} {pos : String} {af : Array Edge} {g : Option (Nat × Bool)}
theorem R.eqlA {t u : TypeId} {cs : List (Option IntKind)} {dep : Nat} {x y : Operand} {xs ys : List Value} (h : FlatEq P t cs dep) (hd : dep ≤ 10000) (ha : Agg P t cs.length) (hg : P.eqGuardType P.depth t = false) (hx : ev ρ x = .agg xs.toArray) (hy : ev ρ y = .agg ys.toArray) (tx : typedB cs xs = true) (tyy : typedB cs ys = true) :
    Run P ρ ⟨d, .binOp .eql t x y u, ty, pos, af, g⟩ w (.bool (veqL xs ys)) :=
  R.eqlBy hx hy (run_eqGuard_agg w .eql t x y _ _ hg) rfl (h.equal hd ha tx tyy w)
theorem R.neqA {t u : TypeId} {cs : List (Option IntKind)} {dep : Nat} {x y : Operand} {xs ys : List Value} (h : FlatEq P t cs dep) (hd : dep ≤ 10000) (ha : Agg P t cs.length) (hg : P.eqGuardType P.depth t = false) (hx : ev ρ x = .agg xs.toArray) (hy : ev ρ y = .agg ys.toArray) (tx : typedB cs xs = true) (tyy : typedB cs ys = true) :
    Run P ρ ⟨d, .binOp .neq t x y u, ty, pos, af, g⟩ w (.bool !(veqL xs ys)) :=
  R.neqBy hx hy (run_eqGuard_agg w .neq t x y _ _ hg) rfl (h.equal hd ha tx tyy w)
end

/-! ### The program's data, cell by cell -/
def tyB : List (Option IntKind) := List.replicate 16 (some .u8)
def tyAdr : List (Option IntKind) := none :: tyB
def tyDip : List (Option IntKind) := tyAdr ++ [some .u16]
def tyMem : List (Option IntKind) := tyDip ++ [some .i64]
def tyVip : List (Option IntKind) := some .u8 :: tyAdr ++ [some .u16]
def tyKey : List (Option IntKind) := some .u8 :: tyAdr ++ tyAdr ++ [some .u16, some .u16]
theorem typed_adr (a : Adr) : typedB tyAdr (encAdr a) = true := rfl
theorem typed_dip (a : Dip) : typedB tyDip (encDip a) = true := rfl
theorem typed_mem (a : Mem) : typedB tyMem (encMem a) = true := rfl
theorem typed_vip (a : Vip) : typedB tyVip (encVip a) = true := rfl
theorem typed_key (a : Key) : typedB tyKey (encKey a) = true := rfl

theorem beq_u8 (x y : UInt8) : ((x.toNat : Int) == (y.toNat : Int)) = decide (x = y) := by
  rw [Bool.eq_iff_iff]; simp [← UInt8.toNat_inj]; omega
theorem beq_u16 (x y : UInt16) : ((x.toNat : Int) == (y.toNat : Int)) = decide (x = y) := by
  rw [Bool.eq_iff_iff]; simp [← UInt16.toNat_inj]; omega
theorem beq_u32 (x y : UInt32) : ((x.toNat : Int) == (y.toNat : Int)) = decide (x = y) := by
  rw [Bool.eq_iff_iff]; simp [← UInt32.toNat_inj]; omega
theorem veq_b16 (a b : B16) : veqL (encB a) (encB b) = decide (a = b) := by
  cases a; cases b
  simp only [encB, veqL, veq, beq_u8, Bool.and_true]
  rw [Bool.eq_iff_iff]
  simp
theorem veq_adr (a b : Adr) : veqL (encAdr a) (encAdr b) = decide (a = b) := by
  obtain ⟨a1, a2⟩ := a; obtain ⟨b1, b2⟩ := b
  simp only [encAdr, veqL, veq, veq_b16]
  rw [Bool.eq_iff_iff]; simp
theorem veq_dip (a b : Dip) : veqL (encDip a) (encDip b) = decide (a = b) := by
  obtain ⟨a1, a2⟩ := a; obtain ⟨b1, b2⟩ := b
  simp only [encDip]
  rw [veqL_append (x1 := encAdr a1) (y1 := encAdr b1) rfl, veq_adr]
  simp only [veqL, veq, beq_u16, Bool.and_true]
  rw [Bool.eq_iff_iff]; simp
theorem veq_mem (a b : Mem) : veqL (encMem a) (encMem b) = decide (a = b) := by
  obtain ⟨a1, a2⟩ := a; obtain ⟨b1, b2⟩ := b
  simp only [encMem]
  rw [veqL_append (x1 := encDip a1) (y1 := encDip b1) rfl, veq_dip]
  simp only [veqL, veq, Bool.and_true]
  rw [Bool.eq_iff_iff]; simp
theorem veq_vip (a b : Vip) : veqL (encVip a) (encVip b) = decide (a = b) := by
  obtain ⟨a1, a2, a3⟩ := a; obtain ⟨b1, b2, b3⟩ := b
  simp only [encVip, List.cons_append, veqL]
  rw [veqL_append (x1 := encAdr a2) (y1 := encAdr b2) rfl, veq_adr]
  simp only [veqL, veq, beq_u8, beq_u16, Bool.and_true]
  rw [Bool.eq_iff_iff]; simp
theorem veq_key (a b : Key) : veqL (encKey a) (encKey b) = decide (a = b) := by
  obtain ⟨a1, a2, a3, a4, a5⟩ := a; obtain ⟨b1, b2, b3, b4, b5⟩ := b
  simp only [encKey, List.cons_append, veqL]
  rw [veqL_append (x1 := encAdr a2 ++ encAdr a3) (y1 := encAdr b2 ++ encAdr b3) rfl, veqL_append (x1 := encAdr a2) (y1 := encAdr b2) rfl, veq_adr, veq_adr]
  simp only [veqL, veq, beq_u8, beq_u16, Bool.and_true]
  rw [Bool.eq_iff_iff]; simp [and_assoc]
end Go.Eng
