import Derived.Test.YtkjecokkdbapkaaZzArg
namespace Go.Eng
set_option linter.all false
open Go Go.RowKit

/-! ## A range over a function -/
/-- Block b is o. -/
def Raw (w : World) (b : Nat) (o : Obj) : Prop := w.heap[b]? = some o
theorem Raw.lt {w : World} {b : Nat} {o : Obj} (h : Raw w b o) : b < w.heap.size := (Array.getElem?_eq_some_iff.1 h).1
theorem Ext.raw {w w' : World} {b : Nat} {o : Obj} (h : Ext w w') (hb : Raw w b o) : Raw w' b o := (h.block b hb.lt).trans hb
theorem Upd.raw {S : Nat → Prop} {w w' : World} {b : Nat} {o : Obj} (h : Upd S w w') (hS : ¬ S b) (hb : Raw w b o) : Raw w' b o := (h.block b hb.lt hS).trans hb

/-- A call of yield: a round, that tells whether it goes on. -/
def YldAt (P : Program) (l : Nat) (args : Array Value) (w : World) (R : Bool → World → Prop) : Prop :=
  ∃ fn tmps assign body, (Instr.yield l args).run P w = .ok (.round l fn tmps assign body) w ∧
    RoundIn (FW none) 0 P l fn tmps assign body w fun e w' => ∃ b, e = .returned (.bool b) ∧ R b w'
theorem YldAt.mono {P : Program} {l : Nat} {args : Array Value} {w : World} {R R' : Bool → World → Prop} (h : YldAt P l args w R) (hr : ∀ b w', R b w' → R' b w') : YldAt P l args w R' := by
  obtain ⟨fn, tmps, assign, body, hy, hR⟩ := h
  refine ⟨fn, tmps, assign, body, hy, RoundIn.mono hR ?_⟩
  rintro e w' ⟨b, he, hb⟩
  exact ⟨b, he, hr b w' hb⟩

section
variable {r : Option Nat} {P : Program} {ops : Array Oper} {K : Cont} {rest : List Oper} {ρ : Env} {w : World} {d : Nat} {ty : TypeId} {pos : String} {af : Array Edge} {g : Option (Nat × Bool)}
theorem WL.callY {x : Operand} {l : Nat} {args : List Operand} {ats : Array TypeId} {vs : List Value} {R : Bool → World → Prop} (hx : ev ρ x = .func (.yield l) #[] #[])
    (h : YldAt P l vs.toArray w R) (hvs : args.map (ev ρ) = vs) (hg : wantE ops ρ ⟨some d, .call ⟨.value x, args.toArray, ats⟩, ty, pos, af, g⟩ = true)
    (k : ∀ b w', R b w' → WL r P ops K rest (ρ.set d (.bool b)) w') :
    WL r P ops K (⟨some d, .call ⟨.value x, args.toArray, ats⟩, ty, pos, af, g⟩ :: rest) ρ w := by
  obtain ⟨fn, tmps, assign, body, hy, hR⟩ := h
  simp only [WL, hg, if_true]
  have : (execOp (ev ρ) ⟨some d, .call ⟨.value x, args.toArray, ats⟩, ty, pos, af, g⟩).run P w = .ok (.round l fn tmps assign body) w := by
    simp [execOp, resolve, hx, Deferred.ofValue, invoke, callFunc, ← hvs] at hy ⊢
    exact hy
  rw [this]
  show RoundIn (FW r) 0 P l fn tmps assign body w _
  have hR' : RoundIn (FW r) 0 P l fn tmps assign body w fun e w' => ∃ b, e = .returned (.bool b) ∧ R b w' := hR
  refine RoundIn.mono hR' ?_
  rintro e w' ⟨b, rfl, hb⟩
  exact k b w' hb
end

/-- What an iterator gives: xs, one by one, as long as the round says so; M is what it leans on. -/
def Iter {α : Type} (P : Program) (gf : FuncId) (lb : List Value) (encs : α → List Value) (xs : List α) (M : World → Prop) : Prop :=
  ∀ (l : Nat) (J Jx : List α → World → Prop) (W : World), (∀ pre W W', J pre W → Ext W W' → J pre W') → (∀ pre W W', Jx pre W → Ext W W' → Jx pre W') → (∀ pre W, J pre W → M W) → J [] W →
    (∀ pre x rest W, xs = pre ++ x :: rest → J pre W → YldAt P l (encs x).toArray W fun b W' => (b = true ∧ J (pre ++ [x]) W') ∨ (b = false ∧ Jx (pre ++ [x]) W')) →
    CallV P gf (.func (.yield l) #[] #[] :: lb).toArray W fun _ W' => J xs W' ∨ ∃ pre, pre <+: xs ∧ Jx pre W'

abbrev markD (D : Nat) : Deferred := { target := .collected D, args := #[] }

theorem upd_putObj (w : World) (b : Nat) (o : Obj) : Upd (fun k => k = b) w (w.putObj b o) :=
  ⟨rfl, rfl, rfl, by simp, fun k _ hk => World.putObj_heap_other hk⟩

/-- The loop variables' temporaries take what yield was called with. -/
def Env.zips (ρ : Env) : List (Tmp × Value) → Env
  | [] => ρ
  | (d, v) :: l => (ρ.set d v).zips l

theorem Fits.zips {N : Nat} : ∀ (l : List (Tmp × Value)) (t : Array Value) (ρ : Env) (ds : List Deferred), Fits N { tmps := t, defers := ds } ρ ds → l.all (fun p => Nat.blt p.1 N) = true →
    Fits N { tmps := l.foldl (fun t (p : Tmp × Value) => t.setIfInBounds p.1 p.2) t, defers := ds } (ρ.zips l) ds
  | [], _, _, _, h, _ => h
  | (d, v) :: l, t, ρ, ds, h, hl => by
    simp only [List.all_cons, Bool.and_eq_true] at hl
    simp only [List.foldl_cons, Env.zips]
    exact Fits.zips l _ _ ds (h.put (dst := some d) v hl.1) hl.2

section
variable {N : Nat} {P : Program} {K : DCont} {Q : Exit → DCont} {ρ : Env} {ds : List Deferred} {w : World}

def Qround {α : Type} (Ix : Code → List α → World → Prop) (pre : List α) (L D : Nat) (oL oD : Obj) : Exit → DCont
  | .ret => fun _ _ W => Ix .ret pre W ∧ Raw W L oL ∧ Raw W D oD
  | .exit id => fun _ _ W => Ix (.exit id) pre W ∧ Raw W L oL ∧ Raw W D oD
  | _ => fun _ _ _ => False

theorem W.range {α : Type} {g : Operand} {ps : Array Tmp} {assign body : Code} {gf : FuncId} {fn0 : Func} {c0 : Code} {lb : List Value} {encs : α → List Value} {xs : List α} {M : World → Prop}
    (hg : ev ρ g = .func (.func gf) #[] lb.toArray) (hf : P.funcs[gf]? = some fn0) (hb : fn0.body = some c0) (hnm : (fn0.name == "runtime.NumGoroutine") = false)
    (hit : Iter P gf lb encs xs M) (hps : ∀ x, (encs x).length = ps.size)
    (I : List α → World → Prop) (Ix : Code → List α → World → Prop)
    (hst : ∀ pre W W', I pre W → Upd (fun k => k = w.heap.size ∨ k = w.heap.size + 1) W W' → I pre W')
    (hstx : ∀ c pre W W', Ix c pre W → Upd (fun k => k = w.heap.size ∨ k = w.heap.size + 1) W W' → Ix c pre W')
    (hM : ∀ pre W, I pre W → M W) (h0 : ∀ W, Ext w W → W.heap.size = w.heap.size + 2 → I [] W)
    (hround : ∀ pre x rest WW oL oD, xs = pre ++ x :: rest → I pre WW → Raw WW (w.heap.size + 1) oL → Raw WW w.heap.size oD →
      W (some (w.heap.size + 1)) N P assign (fun ρ' ds' W' => ds' = [] ∧ Raw W' (w.heap.size + 1) oL ∧ Raw W' w.heap.size oD ∧
        ∀ W'' oL', Upd (fun k => k = w.heap.size + 1) W' W'' → W''.heap.size = W'.heap.size → Raw W'' (w.heap.size + 1) oL' → Raw W'' w.heap.size oD →
          W (some (w.heap.size + 1)) N P body (fun _ _ W3 => I (pre ++ [x]) W3 ∧ Raw W3 (w.heap.size + 1) oL' ∧ Raw W3 w.heap.size oD) (Qround Ix (pre ++ [x]) (w.heap.size + 1) w.heap.size oL' oD) ρ' [] W'')
        (fun _ _ _ _ => False) (ρ.zips (ps.toList.zip (encs x))) [] WW)
    (hdone : ∀ W', I xs W' → Raw W' w.heap.size (.deferred (some [])) → K ρ (markD w.heap.size :: ds) W')
    (hstop : ∀ c pre W', pre <+: xs → Ix c pre W' → Raw W' w.heap.size (.deferred (some [])) → W none N P c K Q ρ (markD w.heap.size :: ds) W') :
    W none N P (.rangeFunc g ps assign body) K Q ρ ds w := by
  intro hc a ha
  have hc' := hc
  simp only [codeIn, Bool.and_eq_true] at hc
  obtain ⟨hgN, hpsN, haN, hbN⟩ := hc
  refine wpIn_rangeFunc ?_
  intro fn hfn
  obtain ⟨rec, hrec⟩ : ∃ rec : LoopState → Option Code → Loop, rec = fun st pe => { state := st, pending := pe, fn, tmps := a.tmps, params := ps, assign, body, defers := w.heap.size } := ⟨_, rfl⟩
  obtain ⟨W1, hW1⟩ : ∃ W1, (w.alloc (.deferred (some []))).alloc (.loop (rec .ready none)) = W1 := ⟨_, rfl⟩
  have hL1 : Raw W1 (w.heap.size + 1) (.loop (rec .ready none)) := by
    rw [← hW1]; have := World.alloc_heap_new (w.alloc (.deferred (some []))) (.loop (rec .ready none)); rw [World.size_alloc] at this; exact this
  have hK0 : Raw (w.alloc (.deferred (some []))) w.heap.size (.deferred (some [])) := World.alloc_heap_new w _
  have hK1 : Raw W1 w.heap.size (.deferred (some [])) := by
    rw [← hW1]; exact (ext_alloc _ _).raw hK0
  have hE1 : Ext w W1 := by rw [← hW1]; exact (ext_alloc _ _).tr (ext_alloc _ _)
  have hI1 : I [] W1 := h0 W1 hE1 (by rw [← hW1]; simp)
  have fitA : Fits N { a with defers := markD w.heap.size :: a.defers } ρ (markD w.heap.size :: ds) := ⟨ha.size, ha.get, by simp [ha.defs]⟩
  refine ⟨w.heap.size + 1, [markD w.heap.size], W1, { target := .fn (.func gf) lb.toArray, args := #[.func (.yield (w.heap.size + 1)) #[] #[]] }, W1, gf,
    #[.func (.yield (w.heap.size + 1)) #[] #[]] ++ lb.toArray, W1, ?_, ?_, ?_, ?_, fun h => by simp [FW] at h, ?_⟩
  · rw [← hW1, hrec]; exact run_enterLoop_outer _ _ _ _ _
  · have := ha.eval hgN
    simp only [resolve, this, hg]
    simp [go_sem]
  · intro f' hf'; trivial
  · have he : (callFunc gf (#[.func (.yield (w.heap.size + 1)) #[] #[]] ++ lb.toArray)).run P W1 = .ok (.enter gf (#[.func (.yield (w.heap.size + 1)) #[] #[]] ++ lb.toArray)) W1 := by
      simp [callFunc, hf, hb]
      simpa using hnm
    simp [invoke, go_sem] at he ⊢
    exact he
  · have key := hit (w.heap.size + 1)
      (fun pre W => I pre W ∧ Raw W (w.heap.size + 1) (.loop (rec .ready none)) ∧ Raw W w.heap.size (.deferred (some [])))
      (fun pre W => ∃ c, codeIn N c = true ∧ Ix c pre W ∧ Raw W (w.heap.size + 1) (.loop (rec .done (some c))) ∧ Raw W w.heap.size (.deferred (some [])))
      W1 (fun pre W W' ⟨h1, h2, h3⟩ hx => ⟨hst _ _ _ h1 (hx.upd _), hx.raw h2, hx.raw h3⟩)
      (fun pre W W' ⟨c, hcN, h1, h2, h3⟩ hx => ⟨c, hcN, hstx _ _ _ _ h1 (hx.upd _), hx.raw h2, hx.raw h3⟩)
      (fun pre W h => hM _ _ h.1) ⟨hI1, hL1, hK1⟩ ?_
    · have key' : CallsIn (FW none) 0 P gf (.func (.yield (w.heap.size + 1)) #[] #[] :: lb).toArray W1 _ := callsIn_wide.2 key
      have e : (.func (.yield (w.heap.size + 1)) #[] #[] :: lb).toArray = #[.func (.yield (w.heap.size + 1)) #[] #[]] ++ lb.toArray := by simp
      rw [e] at key'
      refine CallsIn.mono key' ?_
      rintro e W2 ⟨v, rfl, (⟨hi, hl, hk⟩ | ⟨pre, hpre, c, hcN, hi, hl, hk⟩)⟩
      · refine ⟨none, W2.putObj (w.heap.size + 1) (.loop (rec .exhausted none)), ?_, ?_⟩
        · have := run_endLoop (P := P) hl (by rw [hrec]; simp)
          rw [hrec] at this ⊢; exact this
        · have hu := upd_putObj W2 (w.heap.size + 1) (.loop (rec .exhausted none))
          refine ⟨ρ, markD w.heap.size :: ds, fitA, ?_⟩
          exact hdone _ (hst _ _ _ hi (hu.mono fun k _ h => .inr h)) (hu.raw (by omega) hk)
      · refine ⟨some c, W2.putObj (w.heap.size + 1) (.loop (rec .exhausted (some c))), ?_, ?_⟩
        · have := run_endLoop (P := P) hl (by rw [hrec]; simp)
          rw [hrec] at this ⊢; exact this
        · have hu := upd_putObj W2 (w.heap.size + 1) (.loop (rec .exhausted (some c)))
          have hW := hstop c pre _ hpre (hstx _ _ _ _ hi (hu.mono fun k _ h => .inr h)) (hu.raw (by omega) hk)
          exact hW hcN _ fitA
    · rintro pre x rest WW hxs ⟨hi, hl, hk⟩
      have hpe : (encs x).toArray.size = (rec .ready none).params.size := by rw [hrec]; simpa using hps x
      have hy := run_yield (P := P) (args := (encs x).toArray) hl hpe
      rw [hrec] at hy
      refine ⟨fn, _, assign, body, hy, roundIn_of_wpIn trivial ?_⟩
      have hfit : Fits N { tmps := (ps.zip (encs x).toArray).foldl (fun tmps (t, a) => tmps.setIfInBounds t a) a.tmps, defers := [] } (ρ.zips (ps.toList.zip (encs x))) [] := by
        have h1 : Fits N { tmps := a.tmps, defers := [] } ρ [] := ⟨ha.size, ha.get, rfl⟩
        have h2 := Fits.zips (ps.toList.zip (encs x)) a.tmps ρ [] h1 (by
          rw [List.all_eq_true] at hpsN ⊢
          intro p hp
          exact hpsN p.1 (by simpa using (List.of_mem_zip hp).1))
        have e : (ps.zip (encs x).toArray).foldl (fun tmps (x : Tmp × Value) => tmps.setIfInBounds x.1 x.2) a.tmps = (ps.toList.zip (encs x)).foldl (fun t (p : Tmp × Value) => t.setIfInBounds p.1 p.2) a.tmps := by
          rw [← Array.foldl_toList, Array.toList_zip]
        have e' : ((ps.zip (encs x).toArray).foldl (fun tmps (t, a) => tmps.setIfInBounds t a) a.tmps) = (ps.toList.zip (encs x)).foldl (fun t (p : Tmp × Value) => t.setIfInBounds p.1 p.2) a.tmps := e
        rw [e']; exact h2
      have hw := hround pre x rest WW _ _ hxs hi hl hk haN _ hfit
      refine wpIn_mono (show assign.wpIn ((FW none).inRound (w.heap.size + 1)) 0 P _ _ _ from hw) ?_
      rintro e a' W' ⟨ρ', ds', hf', hh⟩
      cases e with
      | normal =>
        obtain ⟨rfl, hl', hk', hgo⟩ := hh
        refine ⟨_, run_beginRound hl' (by rw [hrec]), ?_⟩
        have hu := upd_putObj W' (w.heap.size + 1) (.loop { rec .ready none with state := .busy })
        have hbody := hgo _ (.loop { rec .ready none with state := .busy }) hu (by simp) (World.putObj_heap_same hl'.lt) (hu.raw (by omega) hk') hbN a' hf'
        refine wpIn_mono (show body.wpIn ((FW none).inRound (w.heap.size + 1)) 0 P _ _ _ from hbody) ?_
        have fin : ∀ (jump : Option Code) (W3 : World), Raw W3 (w.heap.size + 1) (.loop { rec .ready none with state := .busy }) → 
            (Instr.endRound (w.heap.size + 1) jump).run P W3 = .ok (.bool jump.isNone) (W3.putObj (w.heap.size + 1) (.loop (rec (if jump.isNone then .ready else .done) jump))) := fun jump W3 h3 => by
          have := run_endRound (P := P) jump h3
          rw [hrec] at this ⊢
          exact this
        rintro e a3 W3 ⟨ρ3, ds3, hf3, hp⟩
        cases e with
        | normal =>
          obtain ⟨hi3, hl3, hk3⟩ := hp
          have hu3 := upd_putObj W3 (w.heap.size + 1) (.loop (rec .ready none))
          exact ⟨_, _, fin none W3 hl3, true, rfl, .inl ⟨rfl, hst _ _ _ hi3 (hu3.mono fun k _ h => .inr h), World.putObj_heap_same hl3.lt, hu3.raw (by omega) hk3⟩⟩
        | ret =>
          obtain ⟨hi3, hl3, hk3⟩ := hp
          have hu3 := upd_putObj W3 (w.heap.size + 1) (.loop (rec .done (some .ret)))
          exact ⟨_, _, fin (some .ret) W3 hl3, false, rfl, .inr ⟨rfl, .ret, rfl, hstx _ _ _ _ hi3 (hu3.mono fun k _ h => .inr h), World.putObj_heap_same hl3.lt, hu3.raw (by omega) hk3⟩⟩
        | exit id =>
          obtain ⟨hi3, hl3, hk3⟩ := hp
          have hu3 := upd_putObj W3 (w.heap.size + 1) (.loop (rec .done (some (.exit id))))
          exact ⟨_, _, fin (some (.exit id)) W3 hl3, false, rfl, .inr ⟨rfl, .exit id, rfl, hstx _ _ _ _ hi3 (hu3.mono fun k _ h => .inr h), World.putObj_heap_same hl3.lt, hu3.raw (by omega) hk3⟩⟩
        | goto t => exact hp.elim
        | panic ch => exact hp.elim
        | outgrown => exact hp.elim
      | exit id => exact hh.elim
      | goto t => exact hh.elim
      | ret => exact hh.elim
      | panic ch => exact hh.elim
      | outgrown => exact hh.elim
end

theorem PR.mark {P : Program} {fn : Func} {R : Value → World → Prop} {ρ : Env} {w : World} {D : Nat} (hD : Raw w D (.deferred (some [])))
    (h : ∀ w', Upd (fun k => k = D) w w' → w'.heap.size = w.heap.size → PR P fn R ρ [] w') : PR P fn R ρ [markD D] w := by
  obtain ⟨w2, ht, v, hv, hR⟩ := h (w.putObj D (.deferred none)) (upd_putObj _ _ _) (by simp)
  cases ht
  exact ⟨_, ⟨D, _, rfl, run_takeDeferred hD, rfl⟩, v, hv, hR⟩
end Go.Eng
