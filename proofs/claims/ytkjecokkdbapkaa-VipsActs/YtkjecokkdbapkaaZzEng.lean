import Derived.WalkKit
import Derived.OrdersIn
import Derived.RangeFuncNested
import Derived.RangeFuncLeaves
import Derived.TacticsIn
namespace Go.Eng
set_option linter.all false
open Go

/-! ## Frames as functions -/
abbrev Env := Nat → Value
def Env.set (ρ : Env) (d : Nat) (v : Value) : Env := fun i => bif Nat.beq i d then v else ρ i
def Env.put (ρ : Env) (dst : Option Nat) (v : Value) : Env :=
  match dst with
  | some d => ρ.set d v
  | none => ρ
def ev (ρ : Env) : Operand → Value
  | .tmp t => ρ t
  | .const v => v
  | .global g => .pointer (some ⟨g, 0, none⟩)
  | .func f => .func (.func f) #[] #[]

def FW (r : Option Nat) : Fence := { fn := fun _ => True, depth := none, alive := false, round := r }

structure Fits (N : Nat) (a : Act) (ρ : Env) (ds : List Deferred) : Prop where
  size : a.tmps.size = N
  get : ∀ i, i < N → a.tmps.getD i undef = ρ i
  defs : a.defers = ds

def opndIn (N : Nat) : Operand → Bool
  | .tmp t => Nat.blt t N
  | _ => true
def noSel : Op → Bool
  | .select .. => false
  | .defer .. => false
  | _ => true
def opIn (N : Nat) (o : Oper) : Bool :=
  (match o.dst with | some d => Nat.blt d N | none => true) && (o.op.operands.toList.all (opndIn N) && noSel o.op)
def codeIn (N : Nat) : Code → Bool
  | .region _ ops _ => ops.toList.all (opIn N)
  | .seq a b => codeIn N a && codeIn N b
  | .cond c a b => opndIn N c && (codeIn N a && codeIn N b)
  | .block _ b => codeIn N b
  | .loop b => codeIn N b
  | .scope b => codeIn N b
  | .rangeFunc g ps a b => opndIn N g && (ps.toList.all (fun t => Nat.blt t N) && (codeIn N a && codeIn N b))
  | _ => true

theorem blt_lt {a b : Nat} (h : Nat.blt a b = true) : a < b := by
  have : Nat.ble (a + 1) b = true := h
  rw [Nat.ble_eq] at this; omega

theorem Fits.eval {N : Nat} {a : Act} {ρ : Env} {ds : List Deferred} (h : Fits N a ρ ds) {x : Operand} (hx : opndIn N x = true) : a.eval x = ev ρ x := by
  cases x with
  | tmp t => exact h.get t (blt_lt hx)
  | const v => rfl
  | global g => rfl
  | func f => rfl

theorem Fits.put {N : Nat} {a : Act} {ρ : Env} {ds : List Deferred} (h : Fits N a ρ ds) {dst : Option Nat} (v : Value)
    (hd : (match dst with | some d => Nat.blt d N | none => true) = true) : Fits N (a.put dst v) (ρ.put dst v) ds := by
  cases dst with
  | none => exact h
  | some d =>
    have hlt : d < N := blt_lt hd
    refine ⟨by simp [Act.put, h.size], fun i hi => ?_, h.defs⟩
    simp only [Act.put, Env.put, Env.set]
    by_cases e : i = d
    · subst e
      simp [h.size, hlt]
    · have : Nat.beq i d = false := by
        cases hb : Nat.beq i d with
        | false => rfl
        | true => exact absurd (Nat.eq_of_beq_eq_true hb) e
      rw [this]
      have := h.get i hi
      simp only [cond_false]
      rw [← this]
      simp [Array.getElem?_setIfInBounds_ne (Ne.symm e)]

theorem Fits.exec {N : Nat} {a : Act} {ρ : Env} {ds : List Deferred} (h : Fits N a ρ ds) {o : Oper} (ho : opIn N o = true) :
    execOp a.eval o = execOp (ev ρ) o := by
  simp only [opIn, Bool.and_eq_true] at ho
  refine execOp_congr o (fun cs b e => ?_) (fun x hx => h.eval ?_)
  · rw [e] at ho; simp [noSel] at ho
  · exact List.all_eq_true.1 ho.2.1 x (by simpa using hx)

theorem Fits.dst {N : Nat} {o : Oper} (ho : opIn N o = true) : (match o.dst with | some d => Nat.blt d N | none => true) = true := by
  simp only [opIn, Bool.and_eq_true] at ho; exact ho.1

/-- A guard, by the frame. -/
def wantE (ops : Array Oper) (ρ : Env) (o : Oper) : Bool :=
  match o.guard with
  | none => true
  | some (j, want) => match (ops[j]?).bind (·.dst) with
    | some d => match ρ d with | .bool b => b == want | _ => false
    | none => false

def opsIn (N : Nat) (ops : Array Oper) : Bool := ops.toList.all (opIn N)

theorem Fits.wanted {N : Nat} {a : Act} {ρ : Env} {ds : List Deferred} (h : Fits N a ρ ds) {ops : Array Oper} (hops : opsIn N ops = true) (o : Oper) :
    Region.wanted o (yielded ops a.tmps) = wantE ops ρ o := by
  unfold Region.wanted wantE
  cases hg : o.guard with
  | none => rfl
  | some jw =>
    obtain ⟨j, want⟩ := jw
    simp only
    unfold yielded
    cases hj : ops[j]? with
    | none => simp
    | some oj =>
      simp only [Option.bind_some]
      cases hd : oj.dst with
      | none => simp
      | some d =>
        have hin := List.all_eq_true.1 hops oj (by simpa using Array.mem_of_getElem? hj)
        have := Fits.dst hin
        rw [hd] at this
        have hlt : d < N := blt_lt this
        have hget := h.get d hlt
        have hlt' : d < a.tmps.size := by rw [h.size]; exact hlt
        simp [hlt'] at hget ⊢
        rw [hget]
        cases hv : ρ d <;> simp <;> rfl

abbrev Cont := Env → World → Prop
abbrev DCont := Env → List Deferred → World → Prop

/-- One operation. -/
def SP (r : Option Nat) (P : Program) (o : Oper) (K : Cont) (ρ : Env) : Result Next → Prop
  | .ok (.value v) w' => K (ρ.put o.dst v) w'
  | .ok .skip w' => K (ρ.put o.dst undef) w'
  | .ok (.enter f args) w' => CallsIn (FW r) 0 P f args w' fun
      | .returned v, w'' => K (ρ.put o.dst v) w''
      | _, _ => False
  | .ok (.round l f tmps assign body) w' => RoundIn (FW r) 0 P l f tmps assign body w' fun
      | .returned v, w'' => K (ρ.put o.dst v) w''
      | _, _ => False
  | _ => False

def WL (r : Option Nat) (P : Program) (ops : Array Oper) (K : Cont) : List Oper → Env → World → Prop
  | [], ρ, w => K ρ w
  | o :: rest, ρ, w =>
    if wantE ops ρ o = true then SP r P o (WL r P ops K rest) ρ ((execOp (ev ρ) o).run P w)
    else WL r P ops K rest (ρ.put o.dst undef) w

theorem SP.mono {r : Option Nat} {P : Program} {o : Oper} {K K' : Cont} {ρ : Env} {x : Result Next} (h : ∀ ρ w, K ρ w → K' ρ w) (hs : SP r P o K ρ x) : SP r P o K' ρ x := by
  cases x with
  | ok nx w' =>
    cases nx <;> simp only [SP] at hs ⊢
    case value v => exact h _ _ hs
    case skip => exact h _ _ hs
    case enter f args => exact hs.mono (fun e w'' he => by cases e <;> first | exact h _ _ he | exact he)
    case round l f tmps assign body => exact hs.mono (fun e w'' he => by cases e <;> first | exact h _ _ he | exact he)
  | halt hh w' => simp [SP] at hs

theorem about_wide (r : Option Nat) (o : Oper) (P : Program) (w : World) (ρ : Operand → Value) : ∀ f, o.about P w ρ = some f → (FW r).fn f := fun _ _ => trivial

theorem sp_sound {r : Option Nat} {N : Nat} {P : Program} {o : Oper} {a : Act} {ρ : Env} {ds : List Deferred} {w : World} {K : Act → World → Prop} {K' : Cont} {Q : Exit → Act → World → Prop}
    (h : Fits N a ρ ds) (ho : opIn N o = true) (hK : ∀ a' ρ' w', Fits N a' ρ' ds → K' ρ' w' → K a' w')
    (hs : SP r P o K' ρ ((execOp (ev ρ) o).run P w)) : o.wpIn (FW r) 0 P a w K Q := by
  refine ⟨about_wide r o P w _, ?_⟩
  have hsem : o.semAt (FW r).round a.eval = execOp (ev ρ) o := by
    rw [Oper.semAt_eq, h.exec ho]
    intro c e
    simp only [opIn, Bool.and_eq_true] at ho
    rw [e] at ho; simp [noSel] at ho
  rw [hsem]
  have hd := Fits.dst ho
  generalize (execOp (ev ρ) o).run P w = x at hs ⊢
  cases x with
  | ok nx w' =>
    cases nx <;> simp only [SP] at hs <;> simp only [Oper.uponIn]
    case value v => exact hK _ _ _ (h.put v hd) hs
    case skip => exact hK _ _ _ (h.put undef hd) hs
    case enter f args =>
      refine ⟨fun e => by simp [FW] at e, CallsIn.mono hs fun e w'' he => ?_⟩
      cases e with
      | returned v => exact hK _ _ _ (h.put v hd) he
      | panicked c => exact he.elim
      | outgrown => exact he.elim
    case round l f tmps assign body =>
      refine ⟨fun e => by simp [FW] at e, RoundIn.mono hs fun e w'' he => ?_⟩
      cases e with
      | returned v => exact hK _ _ _ (h.put v hd) he
      | panicked c => exact he.elim
      | outgrown => exact he.elim
  | halt hh w' => simp [SP] at hs

theorem wl_sound {r : Option Nat} {N : Nat} {P : Program} {ops : Array Oper} {K : Cont} {Q : Exit → Act → World → Prop} {ds : List Deferred} (hops : opsIn N ops = true) (l : List Oper) :
    ∀ (a : Act) (ρ : Env) (w : World), Fits N a ρ ds → l.all (opIn N) = true → (∀ a' ρ' w', Fits N a' ρ' ds → K ρ' w' → Q .normal a' w') →
      WL r P ops K l ρ w → wpListIn (FW r) 0 P ops Q l a w := by
  induction l with
  | nil => intro a ρ w h _ hK hs; exact hK _ _ _ h hs
  | cons o rest ih =>
    intro a ρ w h hl hK hs
    simp only [List.all_cons, Bool.and_eq_true] at hl
    simp only [wpListIn, h.wanted hops o]
    simp only [WL] at hs
    split
    · rename_i hw
      rw [if_pos hw] at hs
      exact sp_sound h hl.1 (fun a' ρ' w' h' hk => ih a' ρ' w' h' hl.2 hK hk) hs
    · rename_i hw
      rw [if_neg hw] at hs
      exact ⟨about_wide r o P w _, ih _ _ _ (h.put undef (Fits.dst hl.1)) hl.2 hK hs⟩

/-! ## Code -/
def QQ (N : Nat) (K : DCont) (Q : Exit → DCont) (e : Exit) (a : Act) (w : World) : Prop :=
  ∃ ρ ds, Fits N a ρ ds ∧ (match e with | .normal => K ρ ds w | e => Q e ρ ds w)

def W (r : Option Nat) (N : Nat) (P : Program) (c : Code) (K : DCont) (Q : Exit → DCont) (ρ : Env) (ds : List Deferred) (w : World) : Prop :=
  codeIn N c = true → ∀ a, Fits N a ρ ds → c.wpIn (FW r) 0 P (QQ N K Q) a w

section
variable {r : Option Nat} {N : Nat} {P : Program} {K : DCont} {Q : Exit → DCont} {ρ : Env} {ds : List Deferred} {w : World}

theorem W.mono {c : Code} {K' : DCont} {Q' : Exit → DCont} (h : W r N P c K Q ρ ds w) (hk : ∀ ρ ds w, K ρ ds w → K' ρ ds w) (hq : ∀ e ρ ds w, Q e ρ ds w → Q' e ρ ds w) : W r N P c K' Q' ρ ds w :=
  fun hc a ha => wpIn_mono (h hc a ha) fun e a' w' ⟨ρ', ds', hf, hh⟩ => ⟨ρ', ds', hf, by cases e <;> first | exact hk _ _ _ hh | exact hq _ _ _ _ hh⟩

theorem W.skip (h : K ρ ds w) : W r N P .skip K Q ρ ds w := fun _ _ ha => wpIn_skip ⟨ρ, ds, ha, h⟩
theorem W.ret (h : Q .ret ρ ds w) : W r N P .ret K Q ρ ds w := fun _ _ ha => wpIn_ret ⟨ρ, ds, ha, h⟩
theorem W.exit {id : Nat} (h : Q (.exit id) ρ ds w) : W r N P (.exit id) K Q ρ ds w := fun _ _ ha => wpIn_exit ⟨ρ, ds, ha, h⟩
theorem W.seq {x y : Code} (h : W r N P x (fun ρ ds w => W r N P y K Q ρ ds w) Q ρ ds w) : W r N P (.seq x y) K Q ρ ds w := by
  intro hc a ha
  simp only [codeIn, Bool.and_eq_true] at hc
  refine wpIn_seq (wpIn_mono (h hc.1 a ha) ?_)
  rintro e a' w' ⟨ρ', ds', hf, hh⟩
  cases e with
  | normal => exact hh hc.2 a' hf
  | _ => exact ⟨ρ', ds', hf, hh⟩
theorem W.cond {c : Operand} {x y : Code} (t : Bool) (hc : ev ρ c = .bool t) (ht : t = true → W r N P x K Q ρ ds w) (hf : t = false → W r N P y K Q ρ ds w) : W r N P (.cond c x y) K Q ρ ds w := by
  intro hci a ha
  simp only [codeIn, Bool.and_eq_true] at hci
  exact wpIn_cond_split (t := t) ((ha.eval hci.1).trans hc) (fun e => ht e hci.2.1 a ha) (fun e => hf e hci.2.2 a ha)
theorem W.cond_t {c : Operand} {x y : Code} (hc : ev ρ c = .bool true) (ht : W r N P x K Q ρ ds w) : W r N P (.cond c x y) K Q ρ ds w :=
  W.cond true hc (fun _ => ht) (fun e => by cases e)
theorem W.cond_f {c : Operand} {x y : Code} (hc : ev ρ c = .bool false) (hf : W r N P y K Q ρ ds w) : W r N P (.cond c x y) K Q ρ ds w :=
  W.cond false hc (fun e => by cases e) (fun _ => hf)

def Qblock (id : Nat) (K : DCont) (Q : Exit → DCont) : Exit → DCont
  | .exit id' => if id' = id then K else Q (.exit id')
  | e => Q e
theorem W.block {id : Nat} {c : Code} (h : W r N P c K (Qblock id K Q) ρ ds w) : W r N P (.block id c) K Q ρ ds w := by
  intro hc a ha
  refine wpIn_block (wpIn_mono (h hc a ha) ?_)
  rintro e a' w' ⟨ρ', ds', hf, hh⟩
  cases e with
  | exit id' =>
    simp only [Qblock] at hh
    simp only [Exit.inBlock]
    split at hh
    · rename_i e; rw [if_pos e]; exact ⟨ρ', ds', hf, hh⟩
    · rename_i e; rw [if_neg e]; exact ⟨ρ', ds', hf, hh⟩
  | normal => exact ⟨ρ', ds', hf, hh⟩
  | goto l => exact ⟨ρ', ds', hf, hh⟩
  | ret => exact ⟨ρ', ds', hf, hh⟩
  | panic c => exact ⟨ρ', ds', hf, hh⟩
  | outgrown => exact ⟨ρ', ds', hf, hh⟩

theorem W.loop {c : Code} (I : Nat → DCont) (m : Nat) (h0 : I m ρ ds w)
    (round : ∀ m ρ ds w, I m ρ ds w → W r N P c (fun ρ' ds' w' => ∃ m', m' < m ∧ I m' ρ' ds' w') Q ρ ds w) : W r N P (.loop c) K Q ρ ds w := by
  intro hc a ha b k cs hro hb hr
  have key : ∀ m a w, (∃ ρ ds, Fits N a ρ ds ∧ I m ρ ds w) →
      ∃ e a' w', QQ N K Q e a' w' ∧ ArrivesIn (Machine.fenced P (FW r)) P (lone (b.atR a (.code c :: .inLoop c :: k)) cs w) b k cs e a' w' := by
    intro m
    induction m using Nat.strongRecOn with
    | _ m ih =>
      rintro a w ⟨ρ, ds, hf, hI⟩
      obtain ⟨e, a₁, w₁, ⟨ρ₁, ds₁, hf₁, hq⟩, harr⟩ := round m ρ ds w hI hc a hf b (.inLoop c :: k) cs hro hb hr
      cases e with
      | normal =>
        obtain ⟨m', hlt, hI₁⟩ := hq
        obtain ⟨e₂, a₂, w₂, hq₂, harr₂⟩ := ih m' hlt a₁ w₁ ⟨ρ₁, ds₁, hf₁, hI₁⟩
        exact ⟨e₂, a₂, w₂, hq₂, .of_steps (StepsIn.trans harr (.one (fenced_calm hb hr rfl) stepR_inLoop)) harr₂⟩
      | exit id => exact ⟨_, a₁, w₁, ⟨ρ₁, ds₁, hf₁, hq⟩, .pass (x := .inLoop c) rfl (fun _ _ => .inl (by simp)) harr⟩
      | goto l => exact ⟨_, a₁, w₁, ⟨ρ₁, ds₁, hf₁, hq⟩, .pass (x := .inLoop c) rfl (fun _ _ => .inl (by simp)) harr⟩
      | ret => exact ⟨_, a₁, w₁, ⟨ρ₁, ds₁, hf₁, hq⟩, .pass (x := .inLoop c) rfl (fun _ _ => .inl (by simp)) harr⟩
      | panic ch => exact ⟨_, a₁, w₁, ⟨ρ₁, ds₁, hf₁, hq⟩, .pass (x := .inLoop c) rfl (fun _ _ => .inl (by simp)) harr⟩
      | outgrown => exact ⟨_, a₁, w₁, ⟨ρ₁, ds₁, hf₁, hq⟩, .pass (x := .inLoop c) rfl (fun _ _ => .inl (by simp)) harr⟩
  obtain ⟨e, a', w', hq, harr⟩ := key m a w ⟨ρ, ds, ha, h0⟩
  exact ⟨e, a', w', hq, .of_steps (.one (fenced_calm hb hr rfl) stepR_loop) harr⟩
end

/-! ## Regions in the text's order -/
section
variable {r : Option Nat} {N : Nat} {P : Program} {K : DCont} {Q : Exit → DCont} {ρ : Env} {ds : List Deferred} {w : World}

theorem W.region {id : Nat} {ops : Array Oper} (h : WL r P ops (fun ρ' w' => K ρ' ds w') ops.toList ρ w) : W r N P (.region id ops false) K Q ρ ds w := by
  intro hc a ha
  exact wpIn_region_list (wl_sound (ds := ds) hc ops.toList a ρ w ha hc (fun a' ρ' w' hf hk => ⟨ρ', ds, hf, hk⟩) h)

theorem W.reg {id : Nat} {ops : Array Oper} {y : Code} (h : WL r P ops (fun ρ' w' => W r N P y K Q ρ' ds w') ops.toList ρ w) : W r N P (.seq (.region id ops false) y) K Q ρ ds w :=
  W.seq (W.region h)
end

theorem WL.mono {r : Option Nat} {P : Program} {ops : Array Oper} {K K' : Cont} (hk : ∀ ρ w, K ρ w → K' ρ w) : ∀ (l : List Oper) (ρ : Env) (w : World), WL r P ops K l ρ w → WL r P ops K' l ρ w
  | [], _, _, h => hk _ _ h
  | o :: rest, ρ, w, h => by
    simp only [WL] at h ⊢
    split
    · rename_i hw; rw [if_pos hw] at h; exact SP.mono (WL.mono hk rest) h
    · rename_i hw; rw [if_neg hw] at h; exact WL.mono hk rest _ _ h

/-! ## Regions whose order is drawn -/
section anyorder
variable {r : Option Nat} {P : Program} {ops : Array Oper} {K : Cont}

def OPE (r : Option Nat) (P : Program) (ops : Array Oper) (i : Nat) (K : Cont) (ρ : Env) (w : World) : Prop :=
  match ops[i]? with
  | none => K ρ w
  | some o => if wantE ops ρ o = true then SP r P o K ρ ((execOp (ev ρ) o).run P w) else K (ρ.put o.dst undef) w

theorem OPE.mono {i : Nat} {K K' : Cont} {ρ : Env} {w : World} (h : ∀ ρ w, K ρ w → K' ρ w) (hs : OPE r P ops i K ρ w) : OPE r P ops i K' ρ w := by
  unfold OPE at *
  split
  · rename_i hn; simp only [hn] at hs; exact h _ _ hs
  · rename_i o ho
    simp only [ho] at hs
    split
    · rename_i hw; rw [if_pos hw] at hs; exact SP.mono h hs
    · rename_i hw; rw [if_neg hw] at hs; exact h _ _ hs

def WA (r : Option Nat) (P : Program) (ops : Array Oper) (st : Nat → Bool) (I : World → Prop) (K : Cont) : Nat → Array Bool → Env → World → Prop
  | 0, listed, ρ, w => Region.ready .any ops listed = [] ∧ K ρ w
  | fuel + 1, listed, ρ, w => (Region.ready .any ops listed = [] → K ρ w) ∧
    ∀ i ∈ Region.ready .any ops listed, OPE r P ops i (fun ρ' w' => (st i = false → I w → I w') ∧ WA r P ops st I K fuel (listed.setIfInBounds i true) ρ' w') ρ w

theorem ope_sound {N : Nat} {ds : List Deferred} (hops : opsIn N ops = true) {i : Nat} {a : Act} {ρ : Env} {w : World} {K : Act → World → Prop} {K' : Cont} {Q : Exit → Act → World → Prop}
    (h : Fits N a ρ ds) (hK : ∀ a' ρ' w', Fits N a' ρ' ds → K' ρ' w' → K a' w') (hs : OPE r P ops i K' ρ w) : wpOpIn (FW r) 0 P ops Q i K a w := by
  unfold OPE at hs
  unfold wpOpIn
  split
  · rename_i hn; simp only [hn] at hs; exact hK _ _ _ h hs
  · rename_i o ho
    simp only [ho] at hs
    have hin : opIn N o = true := List.all_eq_true.1 hops o (by simpa using Array.mem_of_getElem? ho)
    rw [h.wanted hops o]
    split
    · rename_i hw; rw [if_pos hw] at hs; exact sp_sound h hin hK hs
    · rename_i hw; rw [if_neg hw] at hs; exact ⟨about_wide r o P w _, hK _ _ _ (h.put undef (Fits.dst hin)) hs⟩

theorem wa_sound {N : Nat} {ds : List Deferred} (hops : opsIn N ops = true) {st : Nat → Bool} {I : World → Prop} {Q : Exit → Act → World → Prop}
    (hK : ∀ a' ρ' w', Fits N a' ρ' ds → K ρ' w' → Q .normal a' w') : ∀ (fuel : Nat) (listed : Array Bool) (a : Act) (ρ : Env) (w : World), Fits N a ρ ds →
      WA r P ops st I K fuel listed ρ w → wpAnyIn (FW r) 0 P .any ops Q fuel listed a w
  | 0, _, _, _, _, h, hs => ⟨hs.1, hK _ _ _ h hs.2⟩
  | fuel + 1, _, _, _, _, h, hs => ⟨fun hr => hK _ _ _ h (hs.1 hr), fun i hi => ope_sound hops h (fun _ _ _ hf hk => wa_sound hops hK fuel _ _ _ _ hf hk.2) (hs.2 i hi)⟩

theorem W.draw {N : Nat} {K : DCont} {Q : Exit → DCont} {ρ : Env} {ds : List Deferred} {w : World} {id : Nat} {ops : Array Oper} (st : Nat → Bool) (I : World → Prop) (hm : P.follows .mixedOrders = true)
    (h : WA r P ops st I (fun ρ' w' => K ρ' ds w') ops.size (Array.replicate ops.size false) ρ w.drew) : W r N P (.region id ops true) K Q ρ ds w := by
  intro hc a ha
  exact wpIn_region_any hm (wa_sound (ds := ds) hc (fun a' ρ' w' hf hk => ⟨ρ', ds, hf, hk⟩) _ _ _ _ _ ha h)

/-- What an operation yields in every world of J, the world unturned. -/
def YldE (P : Program) (ops : Array Oper) (o : Oper) (v : Value) (J : World → Prop) (ρ : Env) : Prop :=
  (wantE ops ρ o = true ∧ ∀ w, J w → (execOp (ev ρ) o).run P w = .ok (.value v) w) ∨ (wantE ops ρ o = false ∧ v = undef)

theorem ev_put {ρ : Env} {dst : Option Nat} {v : Value} {x : Operand} (h : ∀ d, dst = some d → x ≠ .tmp d) : ev (ρ.put dst v) x = ev ρ x := by
  cases dst with
  | none => rfl
  | some d =>
    cases x with
    | tmp t =>
      have hne : t ≠ d := fun e => h d rfl (e ▸ rfl)
      have : Nat.beq t d = false := by
        cases hb : Nat.beq t d with
        | false => rfl
        | true => exact absurd (Nat.eq_of_beq_eq_true hb) hne
      simp [ev, Env.put, Env.set, this]
    | _ => rfl

theorem set_comm (ρ : Env) {d e : Nat} (v u : Value) (h : d ≠ e) : (ρ.set d v).set e u = (ρ.set e u).set d v := by
  funext i
  simp only [Env.set]
  cases h1 : Nat.beq i e <;> cases h2 : Nat.beq i d <;> simp
  have := Nat.eq_of_beq_eq_true h1
  have := Nat.eq_of_beq_eq_true h2
  omega

theorem put_comm (ρ : Env) {x y : Option Nat} (v u : Value) (h : ∀ d, x = some d → y ≠ some d) : (ρ.put x v).put y u = (ρ.put y u).put x v := by
  cases x with
  | none => rfl
  | some d =>
    cases y with
    | none => rfl
    | some e => exact set_comm ρ v u (fun he => h d rfl (he ▸ rfl))

theorem execE_put (o : Oper) (hs : ∀ cs b, o.op ≠ .select cs b) (ρ : Env) (dst : Option Nat) (v : Value) (h : ∀ d, dst = some d → d ∉ o.looksAt ops) :
    execOp (ev (ρ.put dst v)) o = execOp (ev ρ) o :=
  execOp_congr o hs fun x hx => ev_put fun d hd hxd => h d hd (by
    subst hxd
    exact List.mem_append_left _ (List.mem_filterMap.2 ⟨.tmp d, by simpa using hx, rfl⟩))

theorem wantE_put (o : Oper) (ρ : Env) (dst : Option Nat) (v : Value) (h : ∀ d, dst = some d → d ∉ o.looksAt ops) : wantE ops (ρ.put dst v) o = wantE ops ρ o := by
  cases dst with
  | none => rfl
  | some d =>
    unfold wantE
    cases hg : o.guard with
    | none => rfl
    | some gw =>
      obtain ⟨g, want⟩ := gw
      simp only
      cases ht : (ops[g]?).bind (·.dst) with
      | none => rfl
      | some t =>
        have hne : t ≠ d := fun e => h d rfl (by subst e; simp [Oper.looksAt, hg, ht])
        have : Nat.beq t d = false := by
          cases hb : Nat.beq t d with
          | false => rfl
          | true => exact absurd (Nat.eq_of_beq_eq_true hb) hne
        simp [Env.put, Env.set, this]

theorem YldE.of_same {o : Oper} {v : Value} {J : World → Prop} {ρ ρ' : Env} (hy : YldE P ops o v J ρ) (he : execOp (ev ρ') o = execOp (ev ρ) o) (hw : wantE ops ρ' o = wantE ops ρ o) : YldE P ops o v J ρ' := by
  unfold YldE at *
  rw [he, hw]; exact hy

theorem YldE.ope {i : Nat} {o : Oper} {v : Value} {J : World → Prop} {ρ : Env} {w : World} {K : Cont} (hi : ops[i]? = some o) (hy : YldE P ops o v J ρ) (hJ : J w) (h : K (ρ.put o.dst v) w) : OPE r P ops i K ρ w := by
  unfold OPE
  simp only [hi]
  rcases hy with ⟨hw, hv⟩ | ⟨hw, rfl⟩
  · simp only [hw, if_true, hv w hJ, SP]; exact h
  · simp only [hw]; exact h

theorem OPE.put {j : Nat} {oi oj : Oper} {v : Value} {J : World → Prop} (hj : ops[j]? = some oj) (hap : oi.apart ops oj = true)
    (hsi : ∀ cs b, oi.op ≠ .select cs b) (hsj : ∀ cs b, oj.op ≠ .select cs b) {K : Cont} {ρ : Env} {w : World}
    (hy : YldE P ops oi v J ρ) (h : OPE r P ops j K (ρ.put oi.dst v) w) : OPE r P ops j (fun ρ' w' => YldE P ops oi v J ρ' ∧ K (ρ'.put oi.dst v) w') ρ w := by
  obtain ⟨h1, h2, h3⟩ := Oper.apart_spec hap
  have keep : ∀ (ρ : Env), YldE P ops oi v J ρ → ∀ u, YldE P ops oi v J (ρ.put oj.dst u) := fun ρ hy u =>
    hy.of_same (execE_put oi hsi ρ oj.dst u h3) (wantE_put oi ρ oj.dst u h3)
  unfold OPE at *
  simp only [hj] at *
  rw [wantE_put oj ρ oi.dst v h1, execE_put oj hsj ρ oi.dst v h1] at h
  split
  · rename_i hw
    rw [if_pos hw] at h
    generalize (execOp (ev ρ) oj).run P w = x at h ⊢
    cases x with
    | ok nx w' =>
      cases nx <;> simp only [SP] at h ⊢
      case value u => exact ⟨keep ρ hy u, by rw [← put_comm ρ v u h2]; exact h⟩
      case skip => exact ⟨keep ρ hy _, by rw [← put_comm ρ v undef h2]; exact h⟩
      case enter f args =>
        refine CallsIn.mono h fun e w'' he => ?_
        cases e with
        | returned u => exact ⟨keep ρ hy u, by rw [← put_comm ρ v u h2]; exact he⟩
        | panicked c => exact he
        | outgrown => exact he
      case round l f tmps assign body =>
        refine RoundIn.mono h fun e w'' he => ?_
        cases e with
        | returned u => exact ⟨keep ρ hy u, by rw [← put_comm ρ v u h2]; exact he⟩
        | panicked c => exact he
        | outgrown => exact he
    | halt hh w' => simp [SP] at h
  · rename_i hw
    rw [if_neg hw] at h
    exact ⟨keep ρ hy _, by rw [← put_comm ρ v undef h2]; exact h⟩

/-- j comes behind i, through edges that bind. -/
inductive Dep (ops : Array Oper) : Nat → Nat → Prop
  | direct {j i : Nat} {o : Oper} {e : Edge} (ho : ops[j]? = some o) (he : e ∈ o.after) (hb : Region.binds .any e = true) (hi : e.on = i) : Dep ops j i
  | step {j i : Nat} {o : Oper} {e : Edge} (ho : ops[j]? = some o) (he : e ∈ o.after) (hb : Region.binds .any e = true) (hd : Dep ops e.on i) : Dep ops j i

def Closed (ops : Array Oper) (listed : Array Bool) : Prop := ∀ k o, ops[k]? = some o → listed.getD k false = true → ∀ e ∈ o.after, Region.binds .any e = true → listed.getD e.on false = true

theorem Closed.dep {listed : Array Bool} (hc : Closed ops listed) {j i : Nat} (hd : Dep ops j i) (hall : ∀ o, ops[j]? = some o → ∀ e ∈ o.after, Region.binds .any e = true → listed.getD e.on false = true) : listed.getD i false = true := by
  induction hd with
  | direct ho he hb hi => rw [← hi]; exact hall _ ho _ he hb
  | step ho he hb _ ih => exact ih fun o ho' e' he' hb' => hc _ o ho' (hall _ ho _ he hb) e' he' hb'

theorem Closed.set {listed : Array Bool} (hc : Closed ops listed) {j : Nat} (hj : j ∈ Region.ready .any ops listed) : Closed ops (listed.setIfInBounds j true) := by
  intro k o ho hk e he hb
  by_cases hkj : j = k
  · subst hkj
    obtain ⟨_, o', ho', hall⟩ := mem_ready.1 hj
    rw [ho] at ho'; cases ho'
    exact getD_set_true (hall e he hb)
  · rw [getD_set_ne false hkj] at hk
    exact getD_set_true (hc k o ho hk e he hb)

theorem WA.first {st : Nat → Bool} {I J : World → Prop} {i : Nat} {oi : Oper} {v : Value} (hi : ops[i]? = some oi) (hsel : ∀ (j : Nat) (o : Oper) cs b, ops[j]? = some o → o.op ≠ .select cs b) :
    ∀ (fuel : Nat) (listed : Array Bool) (ρ : Env) (w : World), Closed ops listed →
      (∀ j oj, ops[j]? = some oj → j ≠ i → listed.getD j true = false → ¬ Dep ops j i → oi.apart ops oj = true ∧ ((st j = false ∧ J = I) ∨ ∀ w, J w)) →
      i ∈ Region.ready .any ops listed → YldE P ops oi v J ρ → J w →
      WA r P ops st I K fuel (listed.setIfInBounds i true) (ρ.put oi.dst v) w → WA r P ops st I K (fuel + 1) listed ρ w := by
  intro fuel
  induction fuel with
  | zero =>
    intro listed ρ w _ _ hr hy hJ H
    refine ⟨fun h => (by rw [h] at hr; cases hr), fun j hj => ?_⟩
    by_cases hji : j = i
    · subst hji; exact hy.ope hi hJ ⟨fun _ h => h, H⟩
    · have := ready_mono hj hji
      rw [H.1] at this
      cases this
  | succ fuel ih =>
    intro listed ρ w hcl hfree hr hy hJ H
    refine ⟨fun h => (by rw [h] at hr; cases hr), fun j hj => ?_⟩
    by_cases hji : j = i
    · subst hji; exact hy.ope hi hJ ⟨fun _ h => h, H⟩
    · have h1 := H.2 j (ready_mono hj hji)
      obtain ⟨hjun, oj, hoj, hall⟩ := mem_ready.1 hj
      have hnot : ¬ Dep ops j i := fun hd => by
        have h1 := hcl.dep hd (fun o ho e he hb => by rw [hoj] at ho; cases ho; exact hall e he hb)
        have h0 := (mem_ready.1 hr).1
        rcases Nat.lt_or_ge i listed.size with h' | h'
        · simp [h'] at h0 h1; rw [h0] at h1; cases h1
        · simp [Array.getElem?_eq_none h'] at h1
      obtain ⟨hap, hst⟩ := hfree j oj hoj hji hjun hnot
      have h2 := OPE.put hoj hap (fun cs b => hsel i oi cs b hi) (fun cs b => hsel j oj cs b hoj) hy h1
      have hfree' : ∀ k ok, ops[k]? = some ok → k ≠ i → (listed.setIfInBounds j true).getD k true = false → ¬ Dep ops k i →
          oi.apart ops ok = true ∧ ((st k = false ∧ J = I) ∨ ∀ w, J w) := fun k ok hk hki hun hno => by
        refine hfree k ok hk hki ?_ hno
        by_cases hjk : j = k
        · subst hjk; exact hjun
        · rw [getD_set_ne true hjk] at hun; exact hun
      refine OPE.mono (fun ρ' w' h3 => ⟨h3.2.1, ?_⟩) h2
      have hJ' : J w' := by
        rcases hst with ⟨hs, e⟩ | hA
        · subst e; exact h3.2.1 hs hJ
        · exact hA _
      refine ih (listed.setIfInBounds j true) ρ' w' (hcl.set hj) hfree' (ready_mono hr (Ne.symm hji)) h3.1 hJ' ?_
      rw [Array.setIfInBounds_comm _ _ hji]
      exact h3.2.2

/-! ### Who comes behind whom: reckoned once for a region -/
def ancOf (acc : List Nat) (o : Oper) : Nat :=
  o.after.toList.foldl (fun s e => if Region.binds .any e then s ||| ((1 <<< e.on) ||| acc.getD e.on 0) else s) 0
def ancs : List Oper → List Nat → List Nat
  | [], acc => acc
  | o :: rest, acc => ancs rest (acc ++ [ancOf acc o])

def AncOk (ops : Array Oper) (acc : List Nat) : Prop := ∀ j i, (acc.getD j 0).testBit i = true → Dep ops j i

theorem ancOf_spec {acc : List Nat} (hacc : AncOk ops acc) {j : Nat} {o : Oper} (ho : ops[j]? = some o) {i : Nat} (h : (ancOf acc o).testBit i = true) : Dep ops j i := by
  unfold ancOf at h
  have key : ∀ (l : List Edge) (s : Nat), (∀ e ∈ l, e ∈ o.after) → (s.testBit i = true → Dep ops j i) → (l.foldl (fun s e => if Region.binds .any e then s ||| ((1 <<< e.on) ||| acc.getD e.on 0) else s) s).testBit i = true → Dep ops j i := by
    intro l
    induction l with
    | nil => intro s _ hs h; exact hs h
    | cons e l ih =>
      intro s hl hs h
      simp only [List.foldl_cons] at h
      refine ih _ (fun e' he' => hl e' (by simp [he'])) (fun h' => ?_) h
      split at h'
      · rename_i hb
        rw [Nat.testBit_or, Nat.testBit_or, Bool.or_eq_true, Bool.or_eq_true] at h'
        rcases h' with h' | h' | h'
        · exact hs h'
        · rw [Nat.testBit_shiftLeft] at h'
          simp only [Bool.and_eq_true, decide_eq_true_eq] at h'
          have : i - e.on = 0 := by
            cases hh : i - e.on with
            | zero => rfl
            | succ n => rw [hh] at h'; simp [Nat.testBit_one_eq_true_iff_self_eq_zero] at h'
          exact .direct ho (hl e (by simp)) hb (by omega)
        · exact .step ho (hl e (by simp)) hb (hacc _ _ h')
      · exact hs h'
  exact key o.after.toList 0 (fun e he => by simpa using he) (fun h => by simp at h) h

theorem ancs_spec : ∀ (l : List Oper) (acc : List Nat), (∀ k, l[k]? = ops[acc.length + k]?) → AncOk ops acc → AncOk ops (ancs l acc)
  | [], _, _, h => h
  | o :: rest, acc, hl, h => by
    refine ancs_spec rest (acc ++ [ancOf acc o]) (fun k => ?_) fun j i hb => ?_
    · have := hl (k + 1)
      simpa [Nat.add_assoc, Nat.add_comm 1 k] using this
    · have ho : ops[acc.length]? = some o := by simpa using (hl 0).symm
      rcases Nat.lt_trichotomy j acc.length with hlt | heq | hgt
      · rw [List.getD_eq_getElem?_getD, List.getElem?_append_left hlt, ← List.getD_eq_getElem?_getD] at hb
        exact h j i hb
      · subst heq
        simp at hb
        exact ancOf_spec h ho hb
      · rw [List.getD_eq_getElem?_getD, List.getElem?_append_right (by omega)] at hb
        have : ([ancOf acc o] : List Nat)[j - acc.length]? = none := by simp; omega
        rw [this] at hb; simp at hb

def ancsOf (ops : Array Oper) : List Nat := ancs ops.toList []
theorem ancsOf_spec : AncOk ops (ancsOf ops) := ancs_spec ops.toList [] (fun k => by simp) (fun j i h => by simp at h)

/-! ### Taking many at once -/
/-- The operation i may be taken first: every other one that is still to come is behind it, or apart from it (and no store, if it looks at memory). -/
def freeB (ops : Array Oper) (ms : List Nat) (st : Nat → Bool) (pure : Bool) (listed : Array Bool) (i : Nat) : Bool :=
  match ops[i]? with
  | none => false
  | some oi => (Region.ready .any ops listed).contains i && (List.range ops.size).all fun j => j == i || listed.getD j true || (ms.getD j 0).testBit i || match ops[j]? with
      | some oj => oi.apart ops oj && (pure || !st j)
      | none => true

theorem freeB_spec {ms : List Nat} (hms : AncOk ops ms) {st : Nat → Bool} {pure : Bool} {i : Nat} {oi : Oper} {listed : Array Bool} (hi : ops[i]? = some oi) (h : freeB ops ms st pure listed i = true) :
    i ∈ Region.ready .any ops listed ∧ ∀ (j : Nat) (oj : Oper), ops[j]? = some oj → j ≠ i → listed.getD j true = false → ¬ Dep ops j i →
      oi.apart ops oj = true ∧ (pure = false → st j = false) := by
  simp only [freeB, hi, Bool.and_eq_true, List.all_eq_true, List.mem_range] at h
  refine ⟨by simpa using h.1, fun j oj hj hne hun hno => ?_⟩
  have h1 := h.2 j (Array.getElem?_eq_some_iff.1 hj).1
  simp only [hj, Bool.or_eq_true, beq_iff_eq, hne, false_or, hun, Bool.false_eq_true, Bool.and_eq_true, Bool.not_eq_true'] at h1
  rcases h1 with h1 | ⟨h1, h2⟩
  · exact absurd (hms j i h1) hno
  · exact ⟨h1, fun hp => h2.resolve_left (by rw [hp]; exact Bool.false_ne_true)⟩

/-- A row of quiet operations: each yields its value in every world of J. -/
def QL (P : Program) (ops : Array Oper) (J : World → Prop) (K : Env → Prop) : List Oper → Env → Prop
  | [], ρ => K ρ
  | o :: rest, ρ => ∃ v, YldE P ops o v J ρ ∧ QL P ops J K rest (ρ.put o.dst v)

def opsAt (ops : Array Oper) (idx : List Nat) : List Oper := idx.filterMap (ops[·]?)

def closedB (ops : Array Oper) (listed : Array Bool) : Bool := (List.range ops.size).all fun k => !listed.getD k false || ((ops[k]?).map fun o => o.after.all fun e => !Region.binds .any e || listed.getD e.on false).getD true
theorem closedB_spec {listed : Array Bool} (h : closedB ops listed = true) : Closed ops listed := by
  intro k o ho hk e he hb
  simp only [closedB, List.all_eq_true, List.mem_range] at h
  have h1 := h k (Array.getElem?_eq_some_iff.1 ho).1
  simp only [hk, Bool.not_true, Bool.false_or, ho, Option.map_some, Option.getD_some, Array.all_eq_true_iff_forall_mem, Bool.or_eq_true, Bool.not_eq_true'] at h1
  exact (h1 e he).resolve_left (by simp [hb])

def batchGo (ops : Array Oper) (ms : List Nat) (st : Nat → Bool) (pure : Bool) : Array Bool → List Nat → Bool
  | _, [] => true
  | listed, i :: rest => freeB ops ms st pure listed i && batchGo ops ms st pure (listed.setIfInBounds i true) rest
def batchB (ops : Array Oper) (st : Nat → Bool) (pure : Bool) (listed : Array Bool) (idx : List Nat) : Bool :=
  Region.noSelect ops && (closedB ops listed && batchGo ops (ancsOf ops) st pure listed idx)

theorem WA.batchGo {st : Nat → Bool} {I J : World → Prop} {pure : Bool} (hJ : (pure = false ∧ J = I) ∨ ∀ w, J w) (hs : Region.noSelect ops = true) (idx : List Nat) : ∀ {fuel : Nat} {listed : Array Bool} {ρ : Env} {w : World}
    (_ : Closed ops listed) (_ : Go.Eng.batchGo ops (ancsOf ops) st pure listed idx = true) (_ : J w)
    (_ : QL P ops J (fun ρ' => WA r P ops st I K fuel (idx.foldl (fun l i => l.setIfInBounds i true) listed) ρ' w) (opsAt ops idx) ρ),
    WA r P ops st I K (fuel + idx.length) listed ρ w := by
  induction idx with
  | nil => intro fuel listed ρ w _ _ _ h; simpa [opsAt, QL] using h
  | cons i rest ih =>
    intro fuel listed ρ w hcl hb hI h
    simp only [Go.Eng.batchGo, Bool.and_eq_true] at hb
    cases hi : ops[i]? with
    | none => simp [freeB, hi] at hb
    | some oi =>
      obtain ⟨hr, hf⟩ := freeB_spec ancsOf_spec hi hb.1
      simp only [opsAt, List.filterMap_cons, hi, QL] at h
      obtain ⟨v, hy, hq⟩ := h
      have := ih (fuel := fuel) (listed := listed.setIfInBounds i true) (ρ := ρ.put oi.dst v) (w := w) (hcl.set hr) hb.2 hI hq
      refine WA.first (J := J) hi (Region.noSelect_spec hs) (fuel + rest.length) listed ρ w hcl (fun j oj a b c d => ⟨(hf j oj a b c d).1, ?_⟩) hr hy hI this
      rcases hJ with ⟨hp, e⟩ | hA
      · exact .inl ⟨(hf j oj a b c d).2 hp, e⟩
      · exact .inr hA

theorem WA.batch {st : Nat → Bool} {I : World → Prop} (idx : List Nat) (fuel : Nat) {n : Nat} {listed : Array Bool} {ρ : Env} {w : World}
    (hb : (Nat.beq n (fuel + idx.length) && batchB ops st false listed idx) = true) (hI : I w)
    (h : QL P ops I (fun ρ' => WA r P ops st I K fuel (idx.foldl (fun l i => l.setIfInBounds i true) listed) ρ' w) (opsAt ops idx) ρ) :
    WA r P ops st I K n listed ρ w := by
  simp only [batchB, Bool.and_eq_true] at hb
  rw [Nat.eq_of_beq_eq_true hb.1]
  exact WA.batchGo (.inl ⟨rfl, rfl⟩) hb.2.1 idx (closedB_spec hb.2.2.1) hb.2.2.2 hI h

theorem WA.pures {st : Nat → Bool} {I : World → Prop} (idx : List Nat) (fuel : Nat) {n : Nat} {listed : Array Bool} {ρ : Env} {w : World}
    (hb : (Nat.beq n (fuel + idx.length) && batchB ops st true listed idx) = true)
    (h : QL P ops (fun _ => True) (fun ρ' => WA r P ops st I K fuel (idx.foldl (fun l i => l.setIfInBounds i true) listed) ρ' w) (opsAt ops idx) ρ) :
    WA r P ops st I K n listed ρ w := by
  simp only [batchB, Bool.and_eq_true] at hb
  rw [Nat.eq_of_beq_eq_true hb.1]
  exact WA.batchGo (.inr fun _ => trivial) hb.2.1 idx (closedB_spec hb.2.2.1) hb.2.2.2 trivial h

/-- What is left has one order alone. -/
def chainB (ops : Array Oper) (st : Nat → Bool) : Array Bool → List Nat → Bool
  | listed, [] => (Region.ready .any ops listed).isEmpty
  | listed, i :: rest => (Region.ready .any ops listed) == [i] && (st i && ((ops[i]?).isSome && chainB ops st (listed.setIfInBounds i true) rest))

theorem WA.done {st : Nat → Bool} {I : World → Prop} {fuel : Nat} {listed : Array Bool} {ρ : Env} {w : World} (hr : (Region.ready .any ops listed).isEmpty = true) (h : K ρ w) : WA r P ops st I K fuel listed ρ w := by
  have hr' : Region.ready .any ops listed = [] := by simpa using hr
  cases fuel with
  | zero => exact ⟨hr', h⟩
  | succ n => exact ⟨fun _ => h, fun i hi => by rw [hr'] at hi; cases hi⟩

theorem WA.chain' {st : Nat → Bool} {I : World → Prop} (idx : List Nat) : ∀ {fuel : Nat} {listed : Array Bool} {ρ : Env} {w : World} (_ : chainB ops st listed idx = true)
    (_ : WL r P ops K (opsAt ops idx) ρ w), WA r P ops st I K (fuel + idx.length) listed ρ w := by
  induction idx with
  | nil => intro fuel listed ρ w hc h; exact WA.done hc (by simpa [opsAt, WL] using h)
  | cons i rest ih =>
    intro fuel listed ρ w hc h
    simp only [chainB, Bool.and_eq_true, beq_iff_eq] at hc
    obtain ⟨hr, hst, hs, hc⟩ := hc
    refine ⟨fun e => (by rw [hr] at e; cases e), fun j hj => ?_⟩
    rw [hr] at hj
    obtain rfl : j = i := by simpa using hj
    cases hi : ops[j]? with
    | none => rw [hi] at hs; cases hs
    | some o =>
      simp only [opsAt, List.filterMap_cons, hi, WL] at h
      unfold OPE
      simp only [hi]
      split
      · rename_i hw
        rw [if_pos hw] at h
        exact SP.mono (fun ρ' w' hh => ⟨fun e => (by rw [hst] at e; cases e), ih hc hh⟩) h
      · rename_i hw
        rw [if_neg hw] at h
        exact ⟨fun e => (by rw [hst] at e; cases e), ih hc h⟩

theorem WA.chain {st : Nat → Bool} {I : World → Prop} (idx : List Nat) (fuel : Nat) {n : Nat} {listed : Array Bool} {ρ : Env} {w : World} (hc : (Nat.beq n (fuel + idx.length) && chainB ops st listed idx) = true)
    (h : WL r P ops K (opsAt ops idx) ρ w) : WA r P ops st I K n listed ρ w := by
  simp only [Bool.and_eq_true] at hc
  rw [Nat.eq_of_beq_eq_true hc.1]
  exact WA.chain' idx hc.2 h

/-- The one operation that can come next. -/
theorem WA.one {st : Nat → Bool} {I : World → Prop} (i : Nat) (fuel : Nat) {n : Nat} {listed : Array Bool} {ρ : Env} {w : World} (hc : (Nat.beq n (fuel + 1) && ((Region.ready .any ops listed) == [i] && (ops[i]?).isSome)) = true)
    (h : WL r P ops (fun ρ' w' => (st i = false → I w → I w') ∧ WA r P ops st I K fuel (listed.setIfInBounds i true) ρ' w') (opsAt ops [i]) ρ w) : WA r P ops st I K n listed ρ w := by
  simp only [Bool.and_eq_true, beq_iff_eq] at hc
  rw [Nat.eq_of_beq_eq_true hc.1]
  refine ⟨fun e => (by rw [hc.2.1] at e; cases e), fun j hj => ?_⟩
  rw [hc.2.1] at hj
  obtain rfl : j = i := by simpa using hj
  cases hi : ops[j]? with
  | none => rw [hi] at hc; simp at hc
  | some o =>
    simp only [opsAt, List.filterMap_cons, hi, List.filterMap_nil, WL] at h
    unfold OPE
    simp only [hi]
    exact h

theorem WA.both {st : Nat → Bool} {I : World → Prop} (i j : Nat) (fuel : Nat) {n : Nat} {listed : Array Bool} {ρ : Env} {w : World} (hc : (Nat.beq n (fuel + 1) && ((Region.ready .any ops listed) == [i, j] && ((ops[i]?).isSome && (ops[j]?).isSome))) = true)
    (h1 : WL r P ops (fun ρ' w' => (st i = false → I w → I w') ∧ WA r P ops st I K fuel (listed.setIfInBounds i true) ρ' w') (opsAt ops [i]) ρ w)
    (h2 : WL r P ops (fun ρ' w' => (st j = false → I w → I w') ∧ WA r P ops st I K fuel (listed.setIfInBounds j true) ρ' w') (opsAt ops [j]) ρ w) : WA r P ops st I K n listed ρ w := by
  simp only [Bool.and_eq_true, beq_iff_eq] at hc
  rw [Nat.eq_of_beq_eq_true hc.1]
  refine ⟨fun e => (by rw [hc.2.1] at e; cases e), fun q hq => ?_⟩
  rw [hc.2.1] at hq
  have hq : q = i ∨ q = j := by simpa using hq
  rcases hq with rfl | rfl
  · cases hi : ops[q]? with
    | none => rw [hi] at hc; simp at hc
    | some o =>
      simp only [opsAt, List.filterMap_cons, hi, List.filterMap_nil, WL] at h1
      unfold OPE
      simp only [hi]
      exact h1
  · cases hi : ops[q]? with
    | none => rw [hi] at hc; simp at hc
    | some o =>
      simp only [opsAt, List.filterMap_cons, hi, List.filterMap_nil, WL] at h2
      unfold OPE
      simp only [hi]
      exact h2

theorem WA.step {st : Nat → Bool} {I : World → Prop} (rs : List Nat) {fuel : Nat} {listed : Array Bool} {ρ : Env} {w : World} (hr : ((Region.ready .any ops listed) == rs && !rs.isEmpty) = true)
    (h : ∀ i ∈ rs, OPE r P ops i (fun ρ' w' => (st i = false → I w → I w') ∧ WA r P ops st I K fuel (listed.setIfInBounds i true) ρ' w') ρ w) : WA r P ops st I K (fuel + 1) listed ρ w := by
  simp only [Bool.and_eq_true, beq_iff_eq, Bool.not_eq_true'] at hr
  refine ⟨fun e => ?_, fun j hj => h j (by rw [← hr.1]; exact hj)⟩
  rw [hr.1] at e; rw [e] at hr; simp at hr
end anyorder

/-! ## Cuts -/
theorem WL.cut {r : Option Nat} {P : Program} {ops : Array Oper} {K : Cont} (M : Cont) : ∀ (n : Nat) {l : List Oper} {ρ : Env} {w : World} (_ : WL r P ops M (l.take n) ρ w)
    (_ : ∀ ρ' w', M ρ' w' → WL r P ops K (l.drop n) ρ' w'), WL r P ops K l ρ w
  | 0, l, ρ, w, h1, h2 => h2 ρ w (by simpa [WL] using h1)
  | n + 1, [], ρ, w, h1, h2 => by simpa using h2 ρ w (by simpa [WL] using h1)
  | n + 1, o :: rest, ρ, w, h1, h2 => by
    simp only [List.take_succ_cons, WL] at h1
    simp only [List.drop_succ_cons] at h2
    simp only [WL]
    split
    · rename_i hw; rw [if_pos hw] at h1
      exact SP.mono (fun ρ' w' h => WL.cut M n h h2) h1
    · rename_i hw; rw [if_neg hw] at h1
      exact WL.cut M n h1 h2

/-- The slots of these stretches. -/
def inS (S : List (Nat × Nat)) (i : Nat) : Bool := S.any fun p => Nat.ble p.1 i && Nat.blt i p.2
def Env.over (ρ : Env) (S : List (Nat × Nat)) (j : Env) : Env := fun i => bif inS S i then j i else ρ i
def Same (S : List (Nat × Nat)) (ρ ρ' : Env) : Prop := ∀ i, inS S i = false → ρ' i = ρ i
theorem Same.rfl' (S : List (Nat × Nat)) (ρ : Env) : Same S ρ ρ := fun _ _ => rfl
theorem Same.set {S : List (Nat × Nat)} {ρ ρ' : Env} {d : Nat} (v : Value) (hd : inS S d = true) (h : Same S ρ ρ') : Same S ρ (ρ'.set d v) := by
  intro i hi
  simp only [Env.set]
  cases hb : Nat.beq i d with
  | true => have := Nat.eq_of_beq_eq_true hb; subst this; rw [hd] at hi; cases hi
  | false => exact h i hi
theorem Same.over {S : List (Nat × Nat)} {ρ ρ' : Env} (j : Env) (h : Same S ρ ρ') : Same S ρ (ρ'.over S j) := by
  intro i hi
  simp only [Env.over, hi, cond_false]
  exact h i hi
theorem Same.eq {S : List (Nat × Nat)} {ρ ρ' : Env} (h : Same S ρ ρ') : ρ' = ρ.over S ρ' := by
  funext i
  simp only [Env.over]
  cases hi : inS S i with
  | true => rfl
  | false => exact h i hi
theorem set_self (ρ : Env) (d : Nat) : ρ.set d (ρ d) = ρ := by
  funext i
  simp only [Env.set]
  cases hb : Nat.beq i d with
  | true => have := Nat.eq_of_beq_eq_true hb; subst this; rfl
  | false => rfl

def Env.sets (ρ : Env) : List (Nat × Value) → Env
  | [] => ρ
  | (d, v) :: l => (ρ.sets l).set d v
def Holds (ρ : Env) : List (Nat × Value) → Prop
  | [] => True
  | (d, v) :: l => ρ d = v ∧ Holds ρ l
theorem Holds.eq {ρ : Env} : ∀ {l : List (Nat × Value)}, Holds ρ l → ρ = ρ.sets l
  | [], _ => rfl
  | (d, v) :: l, h => by
    simp only [Env.sets]
    rw [← h.2.eq, ← h.1, set_self]

/-- A stretch of operations whose ways meet again. -/
theorem WL.seg {r : Option Nat} {P : Program} {ops : Array Oper} {K : Cont} (n : Nat) (S : List (Nat × Nat)) (L : List (Nat × Value)) (I : World → Prop) {l : List Oper} {ρ : Env} {w : World}
    (h1 : WL r P ops (fun ρ' w' => Same S ρ ρ' ∧ Holds ρ' L ∧ I w') (l.take n) ρ w) (h2 : ∀ j w', I w' → WL r P ops K (l.drop n) ((ρ.over S j).sets L) w') : WL r P ops K l ρ w :=
  WL.cut _ n h1 fun ρ' w' ⟨hs, hL, hI⟩ => by
    have := h2 ρ' w' hI
    rwa [← hs.eq, ← hL.eq] at this

theorem W.seqM {r : Option Nat} {N : Nat} {P : Program} {K : DCont} {Q : Exit → DCont} {ρ : Env} {ds : List Deferred} {w : World} {x y : Code} (M : DCont) (h : W r N P x M Q ρ ds w)
    (h2 : ∀ ρ' ds' w', M ρ' ds' w' → W r N P y K Q ρ' ds' w') : W r N P (.seq x y) K Q ρ ds w :=
  W.seq (W.mono h h2 fun _ _ _ _ h => h)

/-- A statement whose ways meet again. -/
theorem W.seqS {r : Option Nat} {N : Nat} {P : Program} {K : DCont} {Q : Exit → DCont} {ρ : Env} {ds : List Deferred} {w : World} {x y : Code} (S : List (Nat × Nat)) (L : List (Nat × Value)) (I : World → Prop)
    (h : W r N P x (fun ρ' ds' w' => Same S ρ ρ' ∧ Holds ρ' L ∧ ds' = ds ∧ I w') Q ρ ds w)
    (h2 : ∀ j w', I w' → W r N P y K Q ((ρ.over S j).sets L) ds w') : W r N P (.seq x y) K Q ρ ds w :=
  W.seqM _ h fun ρ' ds' w' ⟨hs, hL, hd, hI⟩ => by
    subst hd
    have := h2 ρ' w' hI
    rwa [← hs.eq, ← hL.eq] at this
end Go.Eng
