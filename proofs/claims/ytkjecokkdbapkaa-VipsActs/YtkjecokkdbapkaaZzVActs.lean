import Derived.Test.YtkjecokkdbapkaaZzVDoc
import Derived.Test.YtkjecokkdbapkaaProg
namespace Go.Proofs.Ytkjecokkdbapkaa
set_option linter.all false
open Go Go.Eng Go.RowKit
set_option maxRecDepth 20000
set_option maxHeartbeats 2000000
set_option linter.unusedVariables false
set_option linter.unusedSimpArgs false
attribute [local irreducible] WL W QL WA SP

def zc92 : List Value := [.int .i64 0, .int .i64 0, .int .i64 0, .int .i64 0, .int .i64 0, .int .i64 0, .int .i64 0, .int .i64 0, .int .i64 0, .int .i64 0, .int .i64 0, .int .i64 0, .bool false, .bool false, .int .u8 0, .int .u8 0, .int .u8 0, .int .u8 0, .int .u8 0, .int .u8 0, .int .u8 0, .int .u8 0, .int .u8 0, .int .u8 0, .int .u8 0, .int .u8 0, .int .u8 0, .int .u8 0, .int .u8 0, .int .u8 0, .bool false, .int .u8 0, .int .u8 0, .int .u8 0, .int .u8 0, .int .u8 0, .int .u8 0, .int .u8 0, .int .u8 0, .int .u8 0, .int .u8 0, .int .u8 0, .int .u8 0, .int .u8 0, .int .u8 0, .int .u8 0, .int .u8 0, .int .u32 0, .slice none 0 0]
def zc94 : List Value := [.int .i64 0, .int .u8 0, .bool false, .int .u8 0, .int .u8 0, .int .u8 0, .int .u8 0, .int .u8 0, .int .u8 0, .int .u8 0, .int .u8 0, .int .u8 0, .int .u8 0, .int .u8 0, .int .u8 0, .int .u8 0, .int .u8 0, .int .u8 0, .int .u8 0, .int .u16 0, .slice none 0 0, .int .i64 0]
theorem agg94 : Agg Try.prog 94 22 := ⟨Try.isAgg94, Try.sizeOf94⟩
def pl92 : Nat → Option (Nat × Nat) := fun i => (#[(0, 48), (48, 1)] : Array (Nat × Nat))[i]?
theorem bld92 : Bld Try.prog 92 pl92 zc92 := ⟨_, fun parts w => by
  simp only [pl92, Instr.build, Sem.run_bind, Try.zeroValue92, Try.runUnderlying92, Result.andThen_ok, List.mapM_toArray, List.mapM_cons, List.mapM_nil, Try.sizeOf33, Try.sizeOf90, Sem.run_pure, Sem.run_map]
  rfl⟩
theorem fo94_0 : FO Try.prog 94 0 0 := fun a w => by kernel_rfl
theorem fo94_1 : FO Try.prog 94 1 1 := fun a w => by kernel_rfl
theorem fo94_2 : FO Try.prog 94 2 20 := fun a w => by kernel_rfl
theorem fo94_3 : FO Try.prog 94 3 21 := fun a w => by kernel_rfl
theorem siz94 : ∀ w, (sizeOf 94).run Try.prog w = .ok 22 w := Try.sizeOf94
theorem zer94 : Zer Try.prog 94 zc94 := ⟨_, Try.zeroValue94, rfl⟩

section
variable {P : Program} {ρ : Env} {w : World} {d : Option Nat} {ty : TypeId} {pos : String} {af : Array Edge} {g : Option (Nat × Bool)}
theorem R.neqBF {p : Bool} {x y : Operand} {t u : TypeId} (ht : P.underlying t = some .bool) (hx : ev ρ x = .bool p) (hy : ev ρ y = .bool p) : Run P ρ ⟨d, .binOp .neq t x y u, ty, pos, af, g⟩ w (.bool false) := by
  have := R.neqB (d := d) (ty := ty) (pos := pos) (af := af) (g := g) (u := u) (w := w) ht hx hy
  simpa using this
theorem R.eqlBT {p : Bool} {x y : Operand} {t u : TypeId} (ht : P.underlying t = some .bool) (hx : ev ρ x = .bool p) (hy : ev ρ y = .bool p) : Run P ρ ⟨d, .binOp .eql t x y u, ty, pos, af, g⟩ w (.bool true) := by
  have := R.eqlB (d := d) (ty := ty) (pos := pos) (af := af) (g := g) (u := u) (w := w) ht hx hy
  simpa using this
end
structure Act4 where
  (kind : Int) (v : Vip) (a : Option Addr) (c : Nat) (ms : List Mem) (n : Int)
def encA (x : Act4) : List Value := [i64 x.kind] ++ encVip x.v ++ [.slice x.a x.ms.length x.c, i64 x.n]
theorem encAE : Enc encA 22 := ⟨fun _ => rfl, fun _ => rfl⟩
abbrev rtA (b : Nat) (c : Cfg) (rl : List RE) (aE : Option Addr) (cE : Nat) : Asr where
  P w F := RTab w F b c rl aE cE
  upd h hu hS := h.upd hu hS
  lt h := h.lt
theorem Star.asTab {U : Nat → Prop} {w : World} {L : List Asr} {b : Nat} {c : Cfg} (hc : CfgOK c) (h : Star U w (boxA b (encCfg c ++ [.slice none 0 0]) :: L)) : Star U w (rtA b c [] none 0 :: L) := by
  obtain ⟨hn, F, ⟨hb, rfl⟩, hU, hs⟩ := h
  exact ⟨hn, (fun k => k = b), ⟨hb, Slw.nil _ _ _, fun k hk => absurd hk (owns_none k), rfl, fun k hk => by rw [show k = b from hk]; exact hb.lt, fun i e h _ => by simp at h, by decide, hc⟩, hU, hs⟩
def rAll (rl : List RE) (j : Nat) : List Nat := (List.range j).filter (fun u => rIn rl (u : Nat))
theorem rAll_succ (rl : List RE) (j : Nat) : rAll rl (j + 1) = rAll rl j ++ if rIn rl (j : Nat) = true then [j] else [] := filt_succ
theorem rAll_le (rl : List RE) (j : Nat) : (ofNats (rAll rl j)).length ≤ j := by
  have := List.length_filter_le (fun u : Nat => rIn rl (u : Nat)) (List.range j)
  rw [List.length_range] at this
  simp only [ofNats, List.length_map]; exact this
def vcfg (cl : List Int) (encap : Bool) : Cfg := { cfgOf cl with encap := encap }
theorem vcfg_ok (cl : List Int) (encap : Bool) : CfgOK (vcfg cl encap) := { cfgOf_ok cl with }

theorem VipsActs_calls (cl : List Int) (encap : Bool) (acts : List Act4) (k : Key) (a0 : Option Addr) (c0 : Nat) (a2 : Option Addr) (c2 : Nat) (w : World) (hL : Sli (fun n : Int => [i64 n]) 1 w a0 c0 cl) (hA : Sli encA 22 w a2 c2 acts) (hok : ∀ x ∈ acts, Sli encMem 19 w x.a x.c x.ms) : CallV Try.prog 7 #[.slice a0 cl.length c0, bl encap, .slice a2 acts.length c2, .agg (encKey k).toArray] w fun v w' => v = bl true ∧ Ext w w' := by
  have hX : Ext w w := Ext.rfl' w
  have hU : ∀ k, (fun k => w.heap.size ≤ k) k → w.heap.size ≤ k := fun _ h => h
  have hS : Star (fun k => w.heap.size ≤ k) w [] := Star.nil fun _ h => h
  generalize (fun k => w.heap.size ≤ k) = U at hU hS
  refine Calls.of_W (N := 278) Try.func7 rfl rfl rfl ?_
  refine W.reg ?_
  refine WL.box (v := .agg _) rfl rfl rfl ?_
  intro b1 w1 hb1 hs1 hx1 hB1
  replace hS := hS.pushBox hb1 hx1 hB1
  replace hX := hX.tr hx1
  clear hB1 hs1
  refine WL.y (R.asg (v := .bool false) rfl) rfl ?_
  refine WL.nil ?_
  refine W.seq ?_
  refine W.reg ?_
  refine WL.y (R.mv (v := .slice _ _ _) rfl) rfl ?_
  refine WL.y (R.lenS Try.underlying22 rfl) rfl ?_
  refine WL.fork (R.gtr rfl rfl) rfl (fun hc1_2 => ?_) (fun hc1_2 => ?_)
  · skip
    replace hc1_2 := of_decide_eq_true hc1_2
    refine WL.y (R.mv (v := .bool true) rfl) rfl ?_
    refine WL.skip rfl ?_
    refine WL.skip rfl ?_
    refine WL.skip rfl ?_
    refine WL.y (R.pkT (v := .bool true) rfl rfl) rfl ?_
    refine WL.nil ?_
    refine W.cond_t rfl ?_
    refine W.reg ?_
    refine WL.call Try.func19 rfl rfl (awake19_calls _) rfl rfl ?_
    rintro _ w2 ⟨rfl, hx2⟩
    replace hS := hS.ext hx2
    replace hX := hX.tr hx2
    refine WL.y (R.asg (v := .bool _) rfl) rfl ?_
    refine WL.nil ?_
    refine W.ret ?_
    exact PR.r1 rfl (.tmp rfl) ⟨rfl, hX⟩
  · skip
    replace hc1_2 := of_decide_eq_false hc1_2
    refine WL.y (R.mv (v := .bool false) rfl) rfl ?_
    refine WL.y (R.mv (v := .slice _ _ _) rfl) rfl ?_
    refine WL.y (R.lenS Try.underlying88 rfl) rfl ?_
    refine WL.fork (R.gtr rfl rfl) rfl (fun hc1_6 => ?_) (fun hc1_6 => ?_)
    · skip
      replace hc1_6 := of_decide_eq_true hc1_6
      refine WL.y (R.pkF (v := .bool true) rfl rfl) rfl ?_
      refine WL.nil ?_
      refine W.cond_t rfl ?_
      refine W.reg ?_
      refine WL.call Try.func19 rfl rfl (awake19_calls _) rfl rfl ?_
      rintro _ w3 ⟨rfl, hx3⟩
      replace hS := hS.ext hx3
      replace hX := hX.tr hx3
      refine WL.y (R.asg (v := .bool _) rfl) rfl ?_
      refine WL.nil ?_
      refine W.ret ?_
      exact PR.r1 rfl (.tmp rfl) ⟨rfl, hX⟩
    · skip
      replace hc1_6 := of_decide_eq_false hc1_6
      refine WL.y (R.pkF (v := .bool false) rfl rfl) rfl ?_
      refine WL.nil ?_
      refine W.cond_f rfl ?_
      refine W.skip ?_
      refine W.reg ?_
      refine WL.y (R.mv (v := .slice _ _ _) rfl) rfl ?_
      refine WL.call Try.func31 rfl rfl (Config_calls cl (by omega) a0 c0 _ (hL.ext hX)) rfl rfl ?_
      rintro _ w4 ⟨rfl, hx4⟩
      replace hS := hS.ext hx4
      replace hX := hX.tr hx4
      refine WL.alloc zer33 rfl ?_
      intro b5 w5 hb5 hs5 hx5 hB5
      replace hS := hS.pushBox hb5 hx5 hB5
      replace hX := hX.tr hx5
      clear hB5 hs5
      refine WL.store (v := .agg _) siz33 rfl rfl rfl rfl hS.blk0 (Nat.le_of_ble_eq_true rfl) rfl rfl ?_
      intro w6 hu6 hz6 hn6
      have hN := hS.box0 hu6 hn6
      replace hS := hN.1
      replace hX := hN.2 _ hX hU
      clear hN hn6 hu6 hz6
      refine WL.nil ?_
      refine W.reg ?_
      refine WL.y (R.mv (v := .bool _) rfl) rfl ?_
      refine WL.y (R.fieldAddr fo33_12 rfl) rfl ?_
      refine WL.store1 (v := .bool _) sca4 rfl rfl rfl hS.blk0 (Nat.le_of_ble_eq_true rfl) rfl ?_
      intro w7 hu7 hz7 hn7
      have hN := hS.box0 hu7 hn7
      replace hS := hN.1
      replace hX := hN.2 _ hX hU
      clear hN hn7 hu7 hz7
      replace hS : Star U w7 [boxA b5 (encCfg (vcfg cl encap)), boxA b1 (encKey k)] := hS
      refine WL.nil ?_
      refine W.reg ?_
      refine WL.y (R.loadA agg33 rfl (hS.blk0).r rfl rfl) rfl ?_
      refine WL.call Try.func20 rfl rfl (TNew_calls (vcfg cl encap) (vcfg_ok cl encap) _) rfl rfl ?_
      rintro _ w8 ⟨⟨bt, rfl, hT⟩, hx8⟩
      replace hS := hS.push hx8 (A := tabA bt (vcfg cl encap) l0) hT (fun k hk => hk.1)
      replace hX := hX.tr hx8
      clear hT
      refine WL.y (R.mv (v := .tuple _) rfl) rfl ?_
      refine WL.y (R.extract rfl rfl) rfl ?_
      refine WL.y (R.extract rfl rfl) rfl ?_
      refine WL.y (R.asg (v := .pointer _) rfl) rfl ?_
      refine WL.y (R.asg (v := .int _ _) rfl) rfl ?_
      refine WL.nil ?_
      refine W.reg ?_
      refine WL.y (R.loadA agg33 rfl (hS.blk1).r rfl rfl) rfl ?_
      refine WL.y (R.buildE (parts := [(0, .tmp 50)]) (vs := encCfg (vcfg cl encap) ++ [.slice none 0 0]) bld92 (by kernel_rfl) (by kernel_rfl)) rfl ?_
      refine WL.box (v := .agg _) rfl rfl rfl ?_
      intro b9 w9 hb9 hs9 hx9 hB9
      replace hS := hS.pushBox hb9 hx9 hB9
      replace hX := hX.tr hx9
      clear hB9 hs9
      obtain ⟨br, hbr⟩ : ∃ b, b = b9 := ⟨_, rfl⟩
      rw [← hbr] at hS ⊢
      clear hbr
      replace hS := Star.asTab (vcfg_ok cl encap) hS
      refine WL.y (R.asg (v := .pointer _) rfl) rfl ?_
      refine WL.nil ?_
      refine W.seq ?_
      refine W.reg ?_
      refine WL.y (R.mv (v := .int _ _) rfl) rfl ?_
      refine WL.y (R.neqF rfl rfl rfl) rfl ?_
      refine WL.y (R.mv (v := .bool false) rfl) rfl ?_
      refine WL.y (R.mv (v := .pointer _) rfl) rfl ?_
      refine WL.y (R.eqlNil Try.underlying24 rfl) rfl ?_
      refine WL.y (R.pkF (v := .bool false) rfl rfl) rfl ?_
      refine WL.nil ?_
      refine W.cond_f rfl ?_
      refine W.skip ?_
      refine W.seq ?_
      refine W.reg ?_
      refine WL.y (R.asg (v := .int _ _) rfl) rfl ?_
      refine WL.nil ?_
      refine W.block ?_
      refine W.loopS (ι := Nat × List (Option Ent) × List RE × Option Addr × Nat) [(8, 9), (13, 25), (59, 213)] (fun q => [(13, i64 (q.1 : Nat))]) (fun q => acts.length - q.1) (fun q w' => (q.1 ≤ acts.length ∧ Rel q.2.1 q.2.2.1) ∧ Ext w w' ∧ Star U w' [rtA br (vcfg cl encap) q.2.2.1 q.2.2.2.1 q.2.2.2.2, tabA bt (vcfg cl encap) q.2.1, boxA b5 (encCfg (vcfg cl encap)), boxA b1 (encKey k)]) ⟨0, l0, [], none, 0⟩ ⟨rfl, trivial⟩ ⟨⟨Nat.zero_le _, Rel.nil⟩, hX, hS⟩ ?_
      rintro ⟨i, tl, rl, aE, cE⟩ j1 w_1 ⟨⟨hi, hR⟩, hX, hS⟩
      dsimp only at hi hR hX hS ⊢
      refine W.seq ?_
      refine W.reg ?_
      refine WL.y (R.mv (v := .int _ _) rfl) rfl ?_
      refine WL.y (R.mv (v := .slice _ _ _) rfl) rfl ?_
      refine WL.y (R.lenS Try.underlying88 rfl) rfl ?_
      refine WL.fork (R.lss rfl rfl) rfl (fun hc10_3 => ?_) (fun hc10_3 => ?_)
      · skip
        replace hc10_3 := of_decide_eq_true hc10_3
        refine WL.nil ?_
        refine W.cond_t rfl ?_
        refine W.skip ?_
        refine W.seq ?_
        refine W.block ?_
        refine W.reg ?_
        refine WL.y (R.mv (v := .slice _ _ _) rfl) rfl ?_
        refine WL.y (R.mv (v := .int _ _) rfl) rfl ?_
        obtain ⟨g_acts, o_acts, cs_acts, rfl, hO_acts⟩ := hA.op (by omega)
        obtain ⟨x, hx_acts⟩ : ∃ x, acts[i]? = some x := ⟨_, List.getElem?_eq_getElem (by omega)⟩
        have hxs := hok x (List.mem_of_getElem? hx_acts)
        refine WL.y (R.indexS Try.underlying88 siz94 rfl rfl rfl (by first | omega | (simp; done) | (simp; omega))) rfl ?_
        refine WL.y (R.loadA agg94 rfl ((hO_acts.ext hX).blk).r (hO_acts.at encAE hx_acts) (encAE.len x)) rfl ?_
        refine WL.alloc zer94 rfl ?_
        intro b10 w10 hb10 hs10 hx10 hB10
        replace hS := hS.pushBox hb10 hx10 hB10
        replace hX := hX.tr hx10
        clear hB10 hs10
        refine WL.store (v := .agg _) siz94 rfl rfl rfl rfl hS.blk0 (Nat.le_of_ble_eq_true rfl) rfl rfl ?_
        intro w11 hu11 hz11 hn11
        have hN := hS.box0 hu11 hn11
        replace hS := hN.1
        replace hX := hN.2 _ hX hU
        clear hN hn11 hu11 hz11
        refine WL.nil ?_
        refine W.seq ?_
        refine W.reg ?_
        refine WL.y (R.fieldAddr fo94_2 rfl) rfl ?_
        refine WL.y (R.load sca52 rfl (hS.blk0).r rfl) rfl ?_
        refine WL.y (R.lenS Try.underlying52 rfl) rfl ?_
        refine WL.fork (R.gtr rfl rfl) rfl (fun hc13_3 => ?_) (fun hc13_3 => ?_)
        · skip
          replace hc13_3 := of_decide_eq_true hc13_3
          refine WL.nil ?_
          refine W.cond_t rfl ?_
          refine W.reg ?_
          refine WL.call Try.func19 rfl rfl (awake19_calls _) rfl rfl ?_
          rintro _ w12 ⟨rfl, hx12⟩
          replace hS := hS.ext hx12
          replace hX := hX.tr hx12
          refine WL.y (R.asg (v := .bool _) rfl) rfl ?_
          refine WL.nil ?_
          refine W.ret ?_
          exact PR.r1 rfl (.tmp rfl) ⟨rfl, hX⟩
        · skip
          replace hc13_3 := of_decide_eq_false hc13_3
          refine WL.nil ?_
          refine W.cond_f rfl ?_
          refine W.skip ?_
          refine W.seqX (ι := List (Option Ent) × List RE × Option Addr × Nat) [(8, 9), (15, 19), (74, 103)] (fun _ => []) (fun q w' => (Rel q.1 q.2.1) ∧ Ext w w' ∧ Star U w' [boxA b10 (encA x), rtA br (vcfg cl encap) q.2.1 q.2.2.1 q.2.2.2, tabA bt (vcfg cl encap) q.1, boxA b5 (encCfg (vcfg cl encap)), boxA b1 (encKey k)]) ?_ ?_
          · skip
            refine W.reg ?_
            refine WL.y (R.fieldAddr fo94_0 rfl) rfl ?_
            refine WL.y (R.load sca3 rfl (hS.blk0).r rfl) rfl ?_
            refine WL.fork (R.eql rfl rfl) rfl (fun hc15_2 => ?_) (fun hc15_2 => ?_)
            · skip
              replace hc15_2 := eq_of_beq hc15_2
              refine WL.nil ?_
              refine W.cond_t rfl ?_
              refine W.reg ?_
              refine WL.y (R.mv (v := .pointer _) rfl) rfl ?_
              refine WL.y (R.fieldAddr fo94_1 rfl) rfl ?_
              refine WL.y (R.loadA agg42 rfl (hS.blk0).r rfl rfl) rfl ?_
              refine WL.y (R.fieldAddr fo94_2 rfl) rfl ?_
              refine WL.y (R.load sca52 rfl (hS.blk0).r rfl) rfl ?_
              obtain ⟨F13, hT13, hFU13, hf13⟩ := hS.split2
              refine WL.call Try.func23 rfl rfl (Add_calls F13 bt (vcfg cl encap) tl _ hT13 x.v x.ms _ _ (hxs.ext hX)) rfl rfl ?_
              rintro _ w13 (⟨hae, rfl, hx13⟩ | ⟨hae, n0, b0, G13, hi0, hg0, rfl, hu13, hQ13, hF13⟩)
              · skip
                replace hS := hS.ext hx13
                replace hX := hX.tr hx13
                refine WL.y (R.mv (v := .tuple _) rfl) rfl ?_
                refine WL.y (R.extract rfl rfl) rfl ?_
                refine WL.y (R.extract rfl rfl) rfl ?_
                refine WL.y (R.asg (v := .int _ _) rfl) rfl ?_
                refine WL.y (R.asg (v := .int _ _) rfl) rfl ?_
                refine WL.nil ?_
                refine W.reg ?_
                refine WL.y (R.mv (v := .pointer _) rfl) rfl ?_
                refine WL.y (R.fieldAddr fo94_1 rfl) rfl ?_
                refine WL.y (R.loadA agg42 rfl (hS.blk0).r rfl rfl) rfl ?_
                refine WL.y (R.fieldAddr fo94_2 rfl) rfl ?_
                refine WL.y (R.load sca52 rfl (hS.blk0).r rfl) rfl ?_
                obtain ⟨F14, hT14, -, -⟩ := hS.split1
                refine WL.call Try.func55 rfl rfl (rAdd_err F14 br (vcfg cl encap) rl aE cE _ hT14 x.v x.ms (by omega) _ _ (hxs.ext hX) (by rw [← hR.err]; exact hae)) rfl rfl ?_
                rintro _ w14 ⟨rfl, hx14⟩
                clear hT14
                replace hS := hS.ext hx14
                replace hX := hX.tr hx14
                refine WL.y (R.mv (v := .tuple _) rfl) rfl ?_
                refine WL.y (R.extract rfl rfl) rfl ?_
                refine WL.y (R.extract rfl rfl) rfl ?_
                refine WL.y (R.asg (v := .int _ _) rfl) rfl ?_
                refine WL.y (R.asg (v := .int _ _) rfl) rfl ?_
                refine WL.nil ?_
                refine W.reg ?_
                refine WL.y (R.mv (v := .int _ _) rfl) rfl ?_
                refine WL.y (R.mv (v := .int _ _) rfl) rfl ?_
                refine WL.y (R.neqF rfl rfl rfl) rfl ?_
                refine WL.y (R.mv (v := .bool false) rfl) rfl ?_
                refine WL.y (R.mv (v := .int _ _) rfl) rfl ?_
                refine WL.y (R.mv (v := .int _ _) rfl) rfl ?_
                refine WL.y (R.neqF rfl rfl (hR.err _ _ _)) rfl ?_
                refine WL.y (R.pkF (v := .bool false) rfl rfl) rfl ?_
                refine WL.nil ?_
                refine W.cond_f rfl ?_
                refine W.skip ?_
                exact ⟨⟨tl, rl, aE, cE⟩, (by repeat (first | exact Same.rfl' _ _ | refine Same.set _ rfl ?_ | refine Same.over' _ rfl ?_ | refine Same.sets rfl ?_)), trivial, rfl, hR, hX, hS⟩
              · skip
                replace hS := hf13 hu13 (B := tabA bt (vcfg cl encap) (tl.set n0 (some ⟨x.v, b0, pNew (vcfg cl encap) x.ms⟩))) hQ13 hF13
                replace hX := hX.putU hu13 (fun k hk => hU k (hFU13 k hk))
                clear hf13 hFU13 hT13 hu13 hQ13 hF13
                have hr0 := rErr_0 ((hR.err _ _ _).symm.trans hae)
                obtain ⟨q1, q2, q3, q4, q5⟩ := hr0
                have hnf : n0 = rFree rl := by have := (hR.free q5).1; omega
                subst hnf
                refine WL.y (R.mv (v := .tuple _) rfl) rfl ?_
                refine WL.y (R.extract rfl rfl) rfl ?_
                refine WL.y (R.extract rfl rfl) rfl ?_
                refine WL.y (R.asg (v := .int _ _) rfl) rfl ?_
                refine WL.y (R.asg (v := .int _ _) rfl) rfl ?_
                refine WL.nil ?_
                refine W.reg ?_
                refine WL.y (R.mv (v := .pointer _) rfl) rfl ?_
                refine WL.y (R.fieldAddr fo94_1 rfl) rfl ?_
                refine WL.y (R.loadA agg42 rfl (hS.blk0).r rfl rfl) rfl ?_
                refine WL.y (R.fieldAddr fo94_2 rfl) rfl ?_
                refine WL.y (R.load sca52 rfl (hS.blk0).r rfl) rfl ?_
                obtain ⟨F15, hT15, hFU15, hf15⟩ := hS.split1
                refine WL.call Try.func55 rfl rfl (rAdd_ok F15 br (vcfg cl encap) rl aE cE _ hT15 x.v x.ms (by omega) _ _ (hxs.ext hX) q1 q2 q3 q4 q5) rfl rfl ?_
                rintro _ w15 ⟨G15, aN, cN, q0, rfl, hu15, hQ15, hF15⟩
                replace hS := hf15 hu15 (B := rtA br (vcfg cl encap) (rPut rl (rFree rl) ⟨true, x.v, some ⟨q0, 0, none⟩, x.ms⟩) aN cN) hQ15 hF15
                replace hX := hX.putU hu15 (fun k hk => hU k (hFU15 k hk))
                clear hf15 hFU15 hT15 hu15 hQ15 hF15
                refine WL.y (R.mv (v := .tuple _) rfl) rfl ?_
                refine WL.y (R.extract rfl rfl) rfl ?_
                refine WL.y (R.extract rfl rfl) rfl ?_
                refine WL.y (R.asg (v := .int _ _) rfl) rfl ?_
                refine WL.y (R.asg (v := .int _ _) rfl) rfl ?_
                refine WL.nil ?_
                refine W.reg ?_
                refine WL.y (R.mv (v := .int _ _) rfl) rfl ?_
                refine WL.y (R.mv (v := .int _ _) rfl) rfl ?_
                refine WL.y (R.neqF rfl rfl rfl) rfl ?_
                refine WL.y (R.mv (v := .bool false) rfl) rfl ?_
                refine WL.y (R.mv (v := .int _ _) rfl) rfl ?_
                refine WL.y (R.mv (v := .int _ _) rfl) rfl ?_
                refine WL.y (R.neqF rfl rfl rfl) rfl ?_
                refine WL.y (R.pkF (v := .bool false) rfl rfl) rfl ?_
                refine WL.nil ?_
                refine W.cond_f rfl ?_
                refine W.skip ?_
                exact ⟨⟨(tl.set (rFree rl) (some ⟨x.v, b0, pNew (vcfg cl encap) x.ms⟩)), (rPut rl (rFree rl) ⟨true, x.v, some ⟨q0, 0, none⟩, x.ms⟩), aN, cN⟩, (by repeat (first | exact Same.rfl' _ _ | refine Same.set _ rfl ?_ | refine Same.over' _ rfl ?_ | refine Same.sets rfl ?_)), trivial, rfl, hR.put q5 x.v b0 (pNew (vcfg cl encap) x.ms) (some ⟨q0, 0, none⟩), hX, hS⟩
            · skip
              replace hc15_2 := beq_F hc15_2
              refine WL.nil ?_
              refine W.cond_f rfl ?_
              refine W.skip ?_
              exact ⟨⟨tl, rl, aE, cE⟩, (by repeat (first | exact Same.rfl' _ _ | refine Same.set _ rfl ?_ | refine Same.over' _ rfl ?_ | refine Same.sets rfl ?_)), trivial, rfl, hR, hX, hS⟩
          · skip
            rintro ⟨tl, rl, aE, cE⟩ j2 w_2 ⟨hR, hX, hS⟩
            dsimp only at hR hX hS ⊢
            refine W.seqX (ι := List (Option Ent) × List RE × Option Addr × Nat) [(8, 9), (103, 117)] (fun _ => []) (fun q w' => (Rel q.1 q.2.1) ∧ Ext w w' ∧ Star U w' [boxA b10 (encA x), rtA br (vcfg cl encap) q.2.1 q.2.2.1 q.2.2.2, tabA bt (vcfg cl encap) q.1, boxA b5 (encCfg (vcfg cl encap)), boxA b1 (encKey k)]) ?_ ?_
            · skip
              by_cases hk2 : x.kind = 2
              · skip
                refine W.seq ?_
                have hI16 := (Ext.dr w_2).blk hS.blk0
                refine W.draw (fun j => [1000].contains j) (fun wI => Blk wI b10 (encA x)) rfl ?_
                refine WA.batch [0, 1, 2, 3, 4, 5, 6, 8, 9, 10] 4 (by kernel_rfl) hI16 ?_
                refine QL.y (fun wq hq => (R.fieldAddr fo94_0 rfl)) rfl ?_
                refine QL.y (fun wq hq => (R.load sca3 rfl hq.r rfl)) rfl ?_
                refine QL.y (fun wq hq => (R.eqlT rfl rfl hk2)) rfl ?_
                refine QL.y (fun wq hq => (R.mv (v := .bool true) rfl)) rfl ?_
                refine QL.y (fun wq hq => (R.mv (v := .pointer _) rfl)) rfl ?_
                refine QL.y (fun wq hq => (R.fieldAddr fo94_3 rfl)) rfl ?_
                refine QL.y (fun wq hq => (R.load sca3 rfl hq.r rfl)) rfl ?_
                refine QL.y (fun wq hq => (R.mv (v := .pointer _) rfl)) rfl ?_
                refine QL.y (fun wq hq => (R.fieldAddr fo94_3 rfl)) rfl ?_
                refine QL.y (fun wq hq => (R.load sca3 rfl hq.r rfl)) rfl ?_
                refine QL.nil ?_
                have hD16 := Ext.dr w_2
                have hD16z := hD16.size
                have hS0 := hS
                have hXo := hX
                replace hS := hS.ext hD16
                replace hX := hX.tr hD16
                refine WA.one 7 3 (by kernel_rfl) ?_
                have hX0 := hX
                rcases hth : tHas tl x.n with _ | e
                · skip
                  obtain ⟨F17, hT17, -, -⟩ := hS.split2
                  refine WL.call Try.func26 rfl rfl (Remove_no F17 bt (vcfg cl encap) tl _ hT17 x.n hth) rfl rfl ?_
                  rintro _ w17 ⟨rfl, hx17⟩
                  clear hT17
                  replace hS := hS.ext hx17
                  replace hX := hX.tr hx17
                  refine WL.nil ?_
                  refine ⟨fun _ _ => hS.blk0, ?_⟩
                  replace hI16 := hS.blk0
                  clear hX0
                  refine WA.one 11 2 (by kernel_rfl) ?_
                  have hX0 := hX
                  obtain ⟨F18, hT18, -, -⟩ := hS.split1
                  refine WL.call Try.func56 rfl rfl (rRemove_no F18 br (vcfg cl encap) rl aE cE _ hT18 x.n (by rw [← hR.has, hth]; rfl)) rfl rfl ?_
                  rintro _ w18 ⟨rfl, hx18⟩
                  clear hT18
                  replace hS := hS.ext hx18
                  replace hX := hX.tr hx18
                  refine WL.nil ?_
                  refine ⟨fun _ _ => hS.blk0, ?_⟩
                  replace hI16 := hS.blk0
                  clear hX0
                  refine WA.pures [12, 13] 0 (by kernel_rfl) ?_
                  refine QL.y (fun wq hq => (R.neqF rfl rfl rfl)) rfl ?_
                  refine QL.y (fun wq hq => (R.pkT (v := .bool false) rfl rfl)) rfl ?_
                  refine QL.nil ?_
                  refine WA.done (by kernel_rfl) ?_
                  refine W.cond_f rfl ?_
                  refine W.skip ?_
                  exact ⟨⟨tl, rl, aE, cE⟩, (by repeat (first | exact Same.rfl' _ _ | refine Same.set _ rfl ?_ | refine Same.over' _ rfl ?_ | refine Same.sets rfl ?_)), trivial, rfl, hR, hX, hS⟩
                · skip
                  obtain ⟨kk, y, hik, hkk, hy, hyu, hyv, hym⟩ := hR.get hth
                  obtain ⟨F17, hT17, hFU17, hf17⟩ := hS.split2
                  refine WL.call (vs := [.pointer (some ⟨bt, 0, none⟩), i64 (kk : Nat)]) Try.func26 rfl rfl (Remove_yes F17 bt (vcfg cl encap) tl _ hT17 kk e hkk) (by rw [← hik]; rfl) rfl ?_
                  rintro _ w17 ⟨rfl, hu17, hQ17, -⟩
                  replace hS := hf17 hu17 (B := tabA bt (vcfg cl encap) (tl.set kk none)) hQ17 (fun k hk => .inl hk)
                  replace hX := hX.putU hu17 (fun k hk => hU k (hFU17 k hk))
                  clear hf17 hFU17 hT17 hu17 hQ17
                  refine WL.nil ?_
                  refine ⟨fun _ _ => hS.blk0, ?_⟩
                  replace hI16 := hS.blk0
                  clear hX0
                  refine WA.one 11 2 (by kernel_rfl) ?_
                  have hX0 := hX
                  obtain ⟨F19, hT19, hFU19, hf19⟩ := hS.split1
                  refine WL.call (vs := [.pointer (some ⟨br, 0, none⟩), i64 (kk : Nat)]) Try.func56 rfl rfl (rRemove_yes F19 br (vcfg cl encap) rl aE cE _ hT19 kk y hy hyu) (by rw [← hik]; rfl) rfl ?_
                  rintro _ w19 ⟨rfl, hu19, hQ19⟩
                  replace hS := hf19 hu19 (B := rtA br (vcfg cl encap) (rl.set kk re0) aE cE) hQ19 (fun k hk => .inl hk)
                  replace hX := hX.putU hu19 (fun k hk => hU k (hFU19 k hk))
                  clear hf19 hFU19 hT19 hu19 hQ19
                  refine WL.nil ?_
                  refine ⟨fun _ _ => hS.blk0, ?_⟩
                  replace hI16 := hS.blk0
                  clear hX0
                  refine WA.pures [12, 13] 0 (by kernel_rfl) ?_
                  refine QL.y (fun wq hq => (R.neqF rfl rfl rfl)) rfl ?_
                  refine QL.y (fun wq hq => (R.pkT (v := .bool false) rfl rfl)) rfl ?_
                  refine QL.nil ?_
                  refine WA.done (by kernel_rfl) ?_
                  refine W.cond_f rfl ?_
                  refine W.skip ?_
                  exact ⟨⟨(tl.set kk none), (rl.set kk re0), aE, cE⟩, (by repeat (first | exact Same.rfl' _ _ | refine Same.set _ rfl ?_ | refine Same.over' _ rfl ?_ | refine Same.sets rfl ?_)), trivial, rfl, hR.del hy, hX, hS⟩
              · skip
                refine W.seq ?_
                have hI20 := (Ext.dr w_2).blk hS.blk0
                refine W.draw (fun j => [1000].contains j) (fun wI => Blk wI b10 (encA x)) rfl ?_
                refine WA.batch [0, 1, 2, 3, 4, 5, 6, 8, 9, 10] 4 (by kernel_rfl) hI20 ?_
                refine QL.y (fun wq hq => (R.fieldAddr fo94_0 rfl)) rfl ?_
                refine QL.y (fun wq hq => (R.load sca3 rfl hq.r rfl)) rfl ?_
                refine QL.y (fun wq hq => (R.eqlF rfl rfl hk2)) rfl ?_
                refine QL.y (fun wq hq => (R.mv (v := .bool false) rfl)) rfl ?_
                refine QL.skip rfl ?_
                refine QL.skip rfl ?_
                refine QL.skip rfl ?_
                refine QL.skip rfl ?_
                refine QL.skip rfl ?_
                refine QL.skip rfl ?_
                refine QL.nil ?_
                have hD20 := Ext.dr w_2
                have hD20z := hD20.size
                have hS0 := hS
                have hXo := hX
                replace hS := hS.ext hD20
                replace hX := hX.tr hD20
                refine WA.one 7 3 (by kernel_rfl) ?_
                have hX0 := hX
                refine WL.skip rfl ?_
                refine WL.nil ?_
                refine ⟨fun _ _ => hS.blk0, ?_⟩
                replace hI20 := hS.blk0
                clear hX0
                refine WA.one 11 2 (by kernel_rfl) ?_
                have hX0 := hX
                refine WL.skip rfl ?_
                refine WL.nil ?_
                refine ⟨fun _ _ => hS.blk0, ?_⟩
                replace hI20 := hS.blk0
                clear hX0
                refine WA.pures [12, 13] 0 (by kernel_rfl) ?_
                refine QL.skip rfl ?_
                refine QL.y (fun wq hq => (R.pkF (v := .bool false) rfl rfl)) rfl ?_
                refine QL.nil ?_
                refine WA.done (by kernel_rfl) ?_
                refine W.cond_f rfl ?_
                refine W.skip ?_
                exact ⟨⟨tl, rl, aE, cE⟩, (by repeat (first | exact Same.rfl' _ _ | refine Same.set _ rfl ?_ | refine Same.over' _ rfl ?_ | refine Same.sets rfl ?_)), trivial, rfl, hR, hX, hS⟩
            · skip
              rintro ⟨tl, rl, aE, cE⟩ j3 w_3 ⟨hR, hX, hS⟩
              dsimp only at hR hX hS ⊢
              refine W.reg ?_
              refine WL.y (R.mv (v := .pointer _) rfl) rfl ?_
              refine WL.y (R.fieldAddr fo94_1 rfl) rfl ?_
              refine WL.y (R.loadA agg42 rfl (hS.blk0).r rfl rfl) rfl ?_
              by_cases ht : tIdx tl x.v < 0
              · skip
                obtain ⟨F21, hT21, -, -⟩ := hS.split2
                refine WL.call Try.func57 rfl rfl ((Find_calls F21 bt (vcfg cl encap) tl _ hT21 x.v).val (y := .tuple #[i64 0, bl false]) (by unfold findR; rw [if_pos ht])) rfl rfl ?_
                rintro _ w21 ⟨rfl, hx21⟩
                clear hT21
                replace hS := hS.ext hx21
                replace hX := hX.tr hx21
                refine WL.y (R.mv (v := .tuple _) rfl) rfl ?_
                refine WL.y (R.extract rfl rfl) rfl ?_
                refine WL.y (R.extract rfl rfl) rfl ?_
                refine WL.y (R.asg (v := .int _ _) rfl) rfl ?_
                refine WL.y (R.asg (v := .bool false) rfl) rfl ?_
                refine WL.nil ?_
                refine W.reg ?_
                refine WL.y (R.mv (v := .pointer _) rfl) rfl ?_
                refine WL.y (R.fieldAddr fo94_1 rfl) rfl ?_
                refine WL.y (R.loadA agg42 rfl (hS.blk0).r rfl rfl) rfl ?_
                obtain ⟨F22, hT22, -, -⟩ := hS.split1
                refine WL.call Try.func58 rfl rfl ((rFind_calls F22 br (vcfg cl encap) rl aE cE _ hT22 x.v).val (y := i64 (tIdx tl x.v)) (by rw [hR.ix])) rfl rfl ?_
                rintro _ w22 ⟨rfl, hx22⟩
                clear hT22
                replace hS := hS.ext hx22
                replace hX := hX.tr hx22
                refine WL.y (R.asg (v := .int _ _) rfl) rfl ?_
                refine WL.nil ?_
                refine W.seq ?_
                refine W.seq ?_
                refine W.draw (fun j => [1000].contains j) (fun wI => Ext w22 wI) rfl ?_
                have hI23 := Ext.dr w22
                refine WA.pures [0, 1, 2, 3, 4, 5, 6, 7, 8, 9, 10, 11, 12, 13, 15] 13 (by kernel_rfl) ?_
                refine QL.y (fun wq hq => (R.mv (v := .bool false) rfl)) rfl ?_
                refine QL.y (fun wq hq => (R.mv (v := .int _ _) rfl)) rfl ?_
                refine QL.y (fun wq hq => (R.geqF rfl rfl (by omega))) rfl ?_
                refine QL.y (fun wq hq => (R.neqBF Try.underlying4 rfl rfl)) rfl ?_
                refine QL.y (fun wq hq => (R.mv (v := .bool false) rfl)) rfl ?_
                refine QL.y (fun wq hq => (R.mv (v := .bool false) rfl)) rfl ?_
                refine QL.y (fun wq hq => (R.mv (v := .bool false) rfl)) rfl ?_
                refine QL.skip rfl ?_
                refine QL.skip rfl ?_
                refine QL.skip rfl ?_
                refine QL.y (fun wq hq => (R.pkF (v := .bool false) rfl rfl)) rfl ?_
                refine QL.y (fun wq hq => (R.pkF (v := .bool false) rfl rfl)) rfl ?_
                refine QL.y (fun wq hq => (R.mv (v := .bool false) rfl)) rfl ?_
                refine QL.y (fun wq hq => (R.mv (v := .pointer _) rfl)) rfl ?_
                refine QL.y (fun wq hq => (R.mv (v := .pointer _) rfl)) rfl ?_
                refine QL.nil ?_
                have hD23 := Ext.dr w22
                have hD23z := hD23.size
                have hS0 := hS
                have hXo := hX
                replace hS := hS.ext hD23
                replace hX := hX.tr hD23
                refine WA.one 14 12 (by kernel_rfl) ?_
                have hX0 := hX
                have hIz24 := hI23.size
                obtain ⟨F24, hT24, -, -⟩ := hS.split2
                refine WL.call Try.func27 rfl rfl (Len_calls F24 bt (vcfg cl encap) tl _ hT24) rfl rfl ?_
                rintro _ w24 ⟨rfl, hx24⟩
                clear hT24
                replace hS := hS.ext hx24
                replace hX := hX.tr hx24
                refine WL.nil ?_
                refine ⟨fun _ h => h.tr hx24, ?_⟩
                replace hI23 := hI23.tr hx24
                clear hX0
                refine WA.one 16 11 (by kernel_rfl) ?_
                have hX0 := hX
                have hIz25 := hI23.size
                obtain ⟨F25, hT25, -, -⟩ := hS.split1
                refine WL.call Try.func59 rfl rfl ((rLen_calls F25 br (vcfg cl encap) rl aE cE _ hT25).val (y := i64 (count tl : Nat)) (by rw [hR.count])) rfl rfl ?_
                rintro _ w25 ⟨rfl, hx25⟩
                clear hT25
                replace hS := hS.ext hx25
                replace hX := hX.tr hx25
                refine WL.nil ?_
                refine ⟨fun _ h => h.tr hx25, ?_⟩
                replace hI23 := hI23.tr hx25
                clear hX0
                refine WA.batch [17, 18, 19, 20, 21, 23, 24] 4 (by kernel_rfl) hI23 ?_
                refine QL.y (fun wq hq => (R.neqF rfl rfl rfl)) rfl ?_
                refine QL.y (fun wq hq => (R.pkF (v := .bool false) rfl rfl)) rfl ?_
                refine QL.y (fun wq hq => (R.mv (v := .bool false) rfl)) rfl ?_
                refine QL.y (fun wq hq => (R.fieldAddr fo94_1 rfl)) rfl ?_
                refine QL.y (fun wq hq => (R.loadA agg42 rfl (hq.blkR (hS0.blk0).r) rfl rfl)) rfl ?_
                refine QL.y (fun wq hq => (R.fieldAddr fo94_1 rfl)) rfl ?_
                refine QL.y (fun wq hq => (R.loadA agg42 rfl (hq.blkR (hS0.blk0).r) rfl rfl)) rfl ?_
                refine QL.nil ?_
                refine WA.one 22 3 (by kernel_rfl) ?_
                have hX0 := hX
                have hIz26 := hI23.size
                refine WL.call Try.func60 rfl rfl (vipValid_calls x.v _) rfl rfl ?_
                rintro _ w26 ⟨rfl, hx26⟩
                replace hS := hS.ext hx26
                replace hX := hX.tr hx26
                refine WL.nil ?_
                refine ⟨fun _ h => h.tr hx26, ?_⟩
                replace hI23 := hI23.tr hx26
                clear hX0
                refine WA.one 25 2 (by kernel_rfl) ?_
                have hX0 := hX
                have hIz27 := hI23.size
                refine WL.call Try.func61 rfl rfl (rvipValid_calls x.v _) rfl rfl ?_
                rintro _ w27 ⟨rfl, hx27⟩
                replace hS := hS.ext hx27
                replace hX := hX.tr hx27
                refine WL.nil ?_
                refine ⟨fun _ h => h.tr hx27, ?_⟩
                replace hI23 := hI23.tr hx27
                clear hX0
                refine WA.pures [26, 27] 0 (by kernel_rfl) ?_
                refine QL.y (fun wq hq => (R.neqBF Try.underlying4 rfl rfl)) rfl ?_
                refine QL.y (fun wq hq => (R.pkF (v := .bool false) rfl rfl)) rfl ?_
                refine QL.nil ?_
                refine WA.done (by kernel_rfl) ?_
                refine W.cond_f rfl ?_
                refine W.skip ?_
                refine W.reg ?_
                refine WL.y (R.mv (v := .pointer _) rfl) rfl ?_
                refine WL.y (R.fieldAddr fo94_3 rfl) rfl ?_
                refine WL.y (R.load sca3 rfl (hS.blk0).r rfl) rfl ?_
                rcases hth : tHas tl x.n with _ | e
                · skip
                  obtain ⟨F28, hT28, -, -⟩ := hS.split2
                  refine WL.call Try.func25 rfl rfl ((Vip_calls F28 bt (vcfg cl encap) tl _ hT28 x.n).val (y := .tuple #[encVv vip0, bl false]) (by rw [hth])) rfl rfl ?_
                  rintro _ w28 ⟨rfl, hx28⟩
                  clear hT28
                  replace hS := hS.ext hx28
                  replace hX := hX.tr hx28
                  refine WL.y (R.mv (v := .tuple _) rfl) rfl ?_
                  refine WL.y (R.extract rfl rfl) rfl ?_
                  refine WL.y (R.extract rfl rfl) rfl ?_
                  refine WL.alloc zer42 rfl ?_
                  intro b29 w29 hb29 hs29 hx29 hB29
                  replace hS := hS.pushBox hb29 hx29 hB29
                  replace hX := hX.tr hx29
                  clear hB29 hs29
                  refine WL.store (v := .agg _) siz42 rfl rfl rfl rfl hS.blk0 (Nat.le_of_ble_eq_true rfl) rfl rfl ?_
                  intro w30 hu30 hz30 hn30
                  have hN := hS.box0 hu30 hn30
                  replace hS := hN.1
                  replace hX := hN.2 _ hX hU
                  clear hN hn30 hu30 hz30
                  refine WL.y (R.asg (v := .bool false) rfl) rfl ?_
                  refine WL.nil ?_
                  refine W.reg ?_
                  refine WL.y (R.mv (v := .pointer _) rfl) rfl ?_
                  refine WL.y (R.fieldAddr fo94_3 rfl) rfl ?_
                  refine WL.y (R.load sca3 rfl (hS.blk1).r rfl) rfl ?_
                  obtain ⟨F31, hT31, -, -⟩ := hS.split3
                  refine WL.call Try.func62 rfl rfl ((Pools_calls F31 bt (vcfg cl encap) tl _ hT31 x.n).val (y := .pointer none) (by rw [hth])) rfl rfl ?_
                  rintro _ w31 ⟨rfl, hx31⟩
                  clear hT31
                  replace hS := hS.ext hx31
                  replace hX := hX.tr hx31
                  refine WL.y (R.asg (v := .pointer _) rfl) rfl ?_
                  refine WL.nil ?_
                  refine W.seq ?_
                  refine W.draw (fun j => [1000].contains j) (fun wI => Ext w31 wI) rfl ?_
                  have hI32 := Ext.dr w31
                  refine WA.batch [0, 1, 2, 3] 42 (by kernel_rfl) hI32 ?_
                  refine QL.y (fun wq hq => (R.mv (v := .bool false) rfl)) rfl ?_
                  refine QL.y (fun wq hq => (R.mv (v := .pointer _) rfl)) rfl ?_
                  refine QL.y (fun wq hq => (R.fieldAddr fo94_3 rfl)) rfl ?_
                  refine QL.y (fun wq hq => (R.load sca3 rfl (hq.blkR (hS.blk1).r) rfl)) rfl ?_
                  refine QL.nil ?_
                  have hD32 := Ext.dr w31
                  have hD32z := hD32.size
                  have hS0 := hS
                  have hXo := hX
                  replace hS := hS.ext hD32
                  replace hX := hX.tr hD32
                  refine WA.one 4 41 (by kernel_rfl) ?_
                  have hX0 := hX
                  have hIz33 := hI32.size
                  obtain ⟨F33, hT33, -, -⟩ := hS.split2
                  refine WL.call Try.func63 rfl rfl ((rIn_calls F33 br (vcfg cl encap) rl aE cE _ hT33 x.n).val (y := bl false) (by rw [← hR.has, hth]; rfl)) rfl rfl ?_
                  rintro _ w33 ⟨rfl, hx33⟩
                  clear hT33
                  replace hS := hS.ext hx33
                  replace hX := hX.tr hx33
                  refine WL.nil ?_
                  refine ⟨fun _ h => h.tr hx33, ?_⟩
                  replace hI32 := hI32.tr hx33
                  clear hX0
                  refine WA.batch [5, 6, 7, 8, 9, 10, 11, 12, 13, 14, 15, 16, 17, 18, 19, 20, 21, 22, 23, 24, 25, 26, 27, 29, 30, 31, 32, 33, 34, 35, 36, 37, 38, 39, 40] 6 (by kernel_rfl) hI32 ?_
                  refine QL.y (fun wq hq => (R.neqBF Try.underlying4 rfl rfl)) rfl ?_
                  refine QL.y (fun wq hq => (R.mv (v := .bool false) rfl)) rfl ?_
                  refine QL.y (fun wq hq => (R.mv (v := .pointer _) rfl)) rfl ?_
                  refine QL.y (fun wq hq => (R.neqNil Try.underlying61 rfl)) rfl ?_
                  refine QL.y (fun wq hq => (R.mv (v := .bool false) rfl)) rfl ?_
                  refine QL.y (fun wq hq => (R.neqBF Try.underlying4 rfl rfl)) rfl ?_
                  refine QL.y (fun wq hq => (R.pkF (v := .bool false) rfl rfl)) rfl ?_
                  refine QL.y (fun wq hq => (R.mv (v := .bool false) rfl)) rfl ?_
                  refine QL.y (fun wq hq => (R.mv (v := .bool false) rfl)) rfl ?_
                  refine QL.y (fun wq hq => (R.mv (v := .bool false) rfl)) rfl ?_
                  refine QL.skip rfl ?_
                  refine QL.skip rfl ?_
                  refine QL.skip rfl ?_
                  refine QL.skip rfl ?_
                  refine QL.skip rfl ?_
                  refine QL.skip rfl ?_
                  refine QL.skip rfl ?_
                  refine QL.skip rfl ?_
                  refine QL.skip rfl ?_
                  refine QL.skip rfl ?_
                  refine QL.skip rfl ?_
                  refine QL.skip rfl ?_
                  refine QL.skip rfl ?_
                  refine QL.skip rfl ?_
                  refine QL.skip rfl ?_
                  refine QL.skip rfl ?_
                  refine QL.skip rfl ?_
                  refine QL.skip rfl ?_
                  refine QL.skip rfl ?_
                  refine QL.skip rfl ?_
                  refine QL.skip rfl ?_
                  refine QL.skip rfl ?_
                  refine QL.skip rfl ?_
                  refine QL.skip rfl ?_
                  refine QL.skip rfl ?_
                  refine QL.nil ?_
                  refine WA.one 28 5 (by kernel_rfl) ?_
                  have hX0 := hX
                  have hIz34 := hI32.size
                  refine WL.skip rfl ?_
                  refine WL.nil ?_
                  refine ⟨fun _ h => h, ?_⟩
                  clear hX0
                  refine WA.one 41 4 (by kernel_rfl) ?_
                  have hX0 := hX
                  have hIz34 := hI32.size
                  refine WL.skip rfl ?_
                  refine WL.nil ?_
                  refine ⟨fun _ h => h, ?_⟩
                  clear hX0
                  refine WA.pures [42, 43, 44, 45] 0 (by kernel_rfl) ?_
                  refine QL.skip rfl ?_
                  refine QL.skip rfl ?_
                  refine QL.y (fun wq hq => (R.pkF (v := .bool false) rfl rfl)) rfl ?_
                  refine QL.y (fun wq hq => (R.pkF (v := .bool false) rfl rfl)) rfl ?_
                  refine QL.nil ?_
                  refine WA.done (by kernel_rfl) ?_
                  refine W.cond_f rfl ?_
                  refine W.skip ?_
                  refine W.region ?_
                  refine WL.y (R.mv (v := .int _ _) rfl) rfl ?_
                  refine WL.y (R.addI rfl rfl (by omega)) rfl ?_
                  refine WL.y (R.asg (v := .int _ _) rfl) rfl ?_
                  refine WL.nil ?_
                  replace hS := hS.drop0
                  replace hS := hS.drop0
                  exact ⟨⟨i + 1, tl, rl, aE, cE⟩, (by simp only; omega), (by repeat (first | exact Same.rfl' _ _ | refine Same.set _ rfl ?_ | refine Same.over' _ rfl ?_ | refine Same.sets rfl ?_)), ⟨rfl, trivial⟩, rfl, ⟨by simp only; omega, hR⟩, hX, hS⟩
                · skip
                  obtain ⟨F28, hT28, -, -⟩ := hS.split2
                  refine WL.call Try.func25 rfl rfl ((Vip_calls F28 bt (vcfg cl encap) tl _ hT28 x.n).val (y := .tuple #[encVv e.v, bl true]) (by rw [hth])) rfl rfl ?_
                  rintro _ w28 ⟨rfl, hx28⟩
                  clear hT28
                  replace hS := hS.ext hx28
                  replace hX := hX.tr hx28
                  refine WL.y (R.mv (v := .tuple _) rfl) rfl ?_
                  refine WL.y (R.extract rfl rfl) rfl ?_
                  refine WL.y (R.extract rfl rfl) rfl ?_
                  refine WL.alloc zer42 rfl ?_
                  intro b34 w34 hb34 hs34 hx34 hB34
                  replace hS := hS.pushBox hb34 hx34 hB34
                  replace hX := hX.tr hx34
                  clear hB34 hs34
                  refine WL.store (v := .agg _) siz42 rfl rfl rfl rfl hS.blk0 (Nat.le_of_ble_eq_true rfl) rfl rfl ?_
                  intro w35 hu35 hz35 hn35
                  have hN := hS.box0 hu35 hn35
                  replace hS := hN.1
                  replace hX := hN.2 _ hX hU
                  clear hN hn35 hu35 hz35
                  refine WL.y (R.asg (v := .bool true) rfl) rfl ?_
                  refine WL.nil ?_
                  refine W.reg ?_
                  refine WL.y (R.mv (v := .pointer _) rfl) rfl ?_
                  refine WL.y (R.fieldAddr fo94_3 rfl) rfl ?_
                  refine WL.y (R.load sca3 rfl (hS.blk1).r rfl) rfl ?_
                  obtain ⟨F36, hT36, -, -⟩ := hS.split3
                  refine WL.call Try.func62 rfl rfl ((Pools_calls F36 bt (vcfg cl encap) tl _ hT36 x.n).val (y := .pointer (some ⟨e.b, 0, none⟩)) (by rw [hth])) rfl rfl ?_
                  rintro _ w36 ⟨rfl, hx36⟩
                  clear hT36
                  replace hS := hS.ext hx36
                  replace hX := hX.tr hx36
                  refine WL.y (R.asg (v := .pointer _) rfl) rfl ?_
                  refine WL.nil ?_
                  refine W.seq ?_
                  obtain ⟨kk, y, hik, hkk, hy, hyu, hyv, hym⟩ := hR.get hth
                  obtain ⟨FT, hT9, -⟩ := hS.get2
                  obtain ⟨q, rxq, Fq, hyq, hRq, -⟩ := hT9.each kk y hy hyu
                  obtain ⟨g28, o28, cs28, ea28, hO28⟩ := (hT9.ents.ro).op (by have := (List.getElem?_eq_some_iff.1 hy).1; omega)
                  have hkl := (List.getElem?_eq_some_iff.1 hy).1
                  refine W.draw (fun j => [1000].contains j) (fun wI => Ext w36 wI) rfl ?_
                  have hI37 := Ext.dr w36
                  refine WA.batch [0, 1, 2, 3] 42 (by kernel_rfl) hI37 ?_
                  refine QL.y (fun wq hq => (R.mv (v := .bool true) rfl)) rfl ?_
                  refine QL.y (fun wq hq => (R.mv (v := .pointer _) rfl)) rfl ?_
                  refine QL.y (fun wq hq => (R.fieldAddr fo94_3 rfl)) rfl ?_
                  refine QL.y (fun wq hq => (R.load sca3 rfl (hq.blkR (hS.blk1).r) rfl)) rfl ?_
                  refine QL.nil ?_
                  have hD37 := Ext.dr w36
                  have hD37z := hD37.size
                  have hS0 := hS
                  have hXo := hX
                  replace hS := hS.ext hD37
                  replace hX := hX.tr hD37
                  refine WA.one 4 41 (by kernel_rfl) ?_
                  have hX0 := hX
                  have hIz38 := hI37.size
                  obtain ⟨F38, hT38, -, -⟩ := hS.split2
                  refine WL.call Try.func63 rfl rfl ((rIn_calls F38 br (vcfg cl encap) rl aE cE _ hT38 x.n).val (y := bl true) (by rw [← hR.has, hth]; rfl)) rfl rfl ?_
                  rintro _ w38 ⟨rfl, hx38⟩
                  clear hT38
                  replace hS := hS.ext hx38
                  replace hX := hX.tr hx38
                  refine WL.nil ?_
                  refine ⟨fun _ h => h.tr hx38, ?_⟩
                  replace hI37 := hI37.tr hx38
                  clear hX0
                  refine WA.batch [5, 6, 7, 8, 9, 10, 11, 12, 13, 14, 15, 16, 17, 18, 19, 20, 21, 22, 23, 24, 25, 26, 27, 29, 30, 31, 32, 33, 34, 35, 36, 37, 38, 39, 40] 6 (by kernel_rfl) hI37 ?_
                  refine QL.y (fun wq hq => (R.neqBF Try.underlying4 rfl rfl)) rfl ?_
                  refine QL.y (fun wq hq => (R.mv (v := .bool false) rfl)) rfl ?_
                  refine QL.y (fun wq hq => (R.mv (v := .pointer _) rfl)) rfl ?_
                  refine QL.y (fun wq hq => (R.neqNil Try.underlying61 rfl)) rfl ?_
                  refine QL.y (fun wq hq => (R.mv (v := .bool true) rfl)) rfl ?_
                  refine QL.y (fun wq hq => (R.neqBF Try.underlying4 rfl rfl)) rfl ?_
                  refine QL.y (fun wq hq => (R.pkF (v := .bool false) rfl rfl)) rfl ?_
                  refine QL.y (fun wq hq => (R.mv (v := .bool false) rfl)) rfl ?_
                  refine QL.y (fun wq hq => (R.mv (v := .bool true) rfl)) rfl ?_
                  refine QL.y (fun wq hq => (R.mv (v := .bool true) rfl)) rfl ?_
                  refine QL.y (fun wq hq => (R.loadA agg42 rfl (hq.blkR (hS0.blk0).r) rfl rfl)) rfl ?_
                  refine QL.y (fun wq hq => (R.mv (v := .pointer _) rfl)) rfl ?_
                  refine QL.y (fun wq hq => (R.nilCheck rfl)) rfl ?_
                  refine QL.y (fun wq hq => (R.fieldAddr fo92_1 rfl)) rfl ?_
                  refine QL.y (fun wq hq => (R.load sca90 rfl (hq.blkR (((hS0.get2).elim fun _ h => RTab.blk h.1)).r) rfl)) rfl ?_
                  refine QL.y (fun wq hq => (R.fieldAddr fo94_3 rfl)) rfl ?_
                  refine QL.y (fun wq hq => (R.load sca3 rfl (hq.blkR (hS0.blk1).r) rfl)) rfl ?_
                  refine QL.y (fun wq hq => (R.indexS Try.underlying90 siz102 rfl ea28 (i := kk) (congrArg (Value.int .i64) hik) (by omega))) rfl ?_
                  refine QL.y (fun wq hq => (R.fieldAddr fo102_1 rfl)) rfl ?_
                  refine QL.y (fun wq hq => (R.loadA agg42 rfl (hq.blkR (hO28.blk).r) (hO28.fld encTE hy 1 19 (by decide)) rfl)) rfl ?_
                  refine QL.y (fun wq hq => (R.neqAT (xs := encVip e.v) (ys := encVip y.v) (q := true) eq42 (by decide) agg42 Try.eqGuardType42 rfl rfl (typed_vip _) (typed_vip _) (by rw [veq_vip, decide_eq_true hyv.symm]))) rfl ?_
                  refine QL.y (fun wq hq => (R.mv (v := .bool false) rfl)) rfl ?_
                  refine QL.y (fun wq hq => (R.mv (v := .pointer _) rfl)) rfl ?_
                  refine QL.y (fun wq hq => (R.mv (v := .pointer _) rfl)) rfl ?_
                  refine QL.y (fun wq hq => (R.nilCheck rfl)) rfl ?_
                  refine QL.y (fun wq hq => (R.fieldAddr fo92_1 rfl)) rfl ?_
                  refine QL.y (fun wq hq => (R.load sca90 rfl (hq.blkR (((hS0.get2).elim fun _ h => RTab.blk h.1)).r) rfl)) rfl ?_
                  refine QL.y (fun wq hq => (R.fieldAddr fo94_3 rfl)) rfl ?_
                  refine QL.y (fun wq hq => (R.load sca3 rfl (hq.blkR (hS0.blk1).r) rfl)) rfl ?_
                  refine QL.y (fun wq hq => (R.indexS Try.underlying90 siz102 rfl ea28 (i := kk) (congrArg (Value.int .i64) hik) (by omega))) rfl ?_
                  refine QL.y (fun wq hq => (R.fieldAddr fo102_2 rfl)) rfl ?_
                  refine QL.y (fun wq hq => (R.load sca64 rfl (hq.blkR (hO28.blk).r) ((hO28.cell encTE hy (j := 20) (by decide)).trans (congrArg some (congrArg Value.pointer hyq))))) rfl ?_
                  refine QL.y (fun wq hq => (R.nilCheck rfl)) rfl ?_
                  refine QL.y (fun wq hq => (R.fieldAddr fo75_4 rfl)) rfl ?_
                  refine QL.y (fun wq hq => (R.load sca52 rfl (hq.blkR (hRq.blk).r) rfl)) rfl ?_
                  refine QL.nil ?_
                  refine WA.one 28 5 (by kernel_rfl) ?_
                  have hX0 := hX
                  have hIz39 := hI37.size
                  obtain ⟨F39, hT39, -, -⟩ := hS.split3
                  obtain ⟨Fo39, hPo39, -, -⟩ := hT39.pool hkk
                  refine WL.call Try.func45 rfl rfl (Last_calls Fo39 e.b (vcfg cl encap) e.p _ hPo39) rfl rfl ?_
                  rintro _ w39 ⟨⟨a39, c39, rfl, hl39, hf39⟩, hx39⟩
                  clear hT39 hPo39
                  replace hS := hS.pushSli hx39 hl39 hf39
                  replace hX := hX.tr hx39
                  refine WL.nil ?_
                  refine ⟨fun _ h => h.tr hx39, ?_⟩
                  replace hI37 := hI37.tr hx39
                  clear hX0
                  refine WA.one 41 4 (by kernel_rfl) ?_
                  have hX0 := hX
                  have hIz40 := hI37.size
                  refine WL.call Try.func44 rfl rfl ((Members_calls e.p.last y.ms (by rw [← hym]; have := hRq.l32; exact Nat.le_trans this (by decide)) _ _ _ _ _ (hS.sli0) (hRq.last.ext hI37)).val (y := bl true) (by rw [decide_eq_true hym.symm])) rfl rfl ?_
                  rintro _ w40 ⟨rfl, hx40⟩
                  replace hS := hS.ext hx40
                  replace hX := hX.tr hx40
                  refine WL.nil ?_
                  refine ⟨fun _ h => h.tr hx40, ?_⟩
                  replace hI37 := hI37.tr hx40
                  clear hX0
                  refine WA.pures [42, 43, 44, 45] 0 (by kernel_rfl) ?_
                  refine QL.y (fun wq hq => (R.notT rfl)) rfl ?_
                  refine QL.y (fun wq hq => (R.pkF (v := .bool false) rfl rfl)) rfl ?_
                  refine QL.y (fun wq hq => (R.pkT (v := .bool false) rfl rfl)) rfl ?_
                  refine QL.y (fun wq hq => (R.pkF (v := .bool false) rfl rfl)) rfl ?_
                  refine QL.nil ?_
                  refine WA.done (by kernel_rfl) ?_
                  refine W.cond_f rfl ?_
                  refine W.skip ?_
                  refine W.region ?_
                  refine WL.y (R.mv (v := .int _ _) rfl) rfl ?_
                  refine WL.y (R.addI rfl rfl (by omega)) rfl ?_
                  refine WL.y (R.asg (v := .int _ _) rfl) rfl ?_
                  refine WL.nil ?_
                  replace hS := hS.drop0
                  replace hS := hS.drop0
                  replace hS := hS.drop0
                  exact ⟨⟨i + 1, tl, rl, aE, cE⟩, (by simp only; omega), (by repeat (first | exact Same.rfl' _ _ | refine Same.set _ rfl ?_ | refine Same.over' _ rfl ?_ | refine Same.sets rfl ?_)), ⟨rfl, trivial⟩, rfl, ⟨by simp only; omega, hR⟩, hX, hS⟩
              · skip
                obtain ⟨F21, hT21, -, -⟩ := hS.split2
                refine WL.call Try.func57 rfl rfl ((Find_calls F21 bt (vcfg cl encap) tl _ hT21 x.v).val (y := .tuple #[i64 (tIdx tl x.v), bl true]) (by unfold findR; rw [if_neg ht])) rfl rfl ?_
                rintro _ w21 ⟨rfl, hx21⟩
                clear hT21
                replace hS := hS.ext hx21
                replace hX := hX.tr hx21
                refine WL.y (R.mv (v := .tuple _) rfl) rfl ?_
                refine WL.y (R.extract rfl rfl) rfl ?_
                refine WL.y (R.extract rfl rfl) rfl ?_
                refine WL.y (R.asg (v := .int _ _) rfl) rfl ?_
                refine WL.y (R.asg (v := .bool true) rfl) rfl ?_
                refine WL.nil ?_
                refine W.reg ?_
                refine WL.y (R.mv (v := .pointer _) rfl) rfl ?_
                refine WL.y (R.fieldAddr fo94_1 rfl) rfl ?_
                refine WL.y (R.loadA agg42 rfl (hS.blk0).r rfl rfl) rfl ?_
                obtain ⟨F41, hT41, -, -⟩ := hS.split1
                refine WL.call Try.func58 rfl rfl ((rFind_calls F41 br (vcfg cl encap) rl aE cE _ hT41 x.v).val (y := i64 (tIdx tl x.v)) (by rw [hR.ix])) rfl rfl ?_
                rintro _ w41 ⟨rfl, hx41⟩
                clear hT41
                replace hS := hS.ext hx41
                replace hX := hX.tr hx41
                refine WL.y (R.asg (v := .int _ _) rfl) rfl ?_
                refine WL.nil ?_
                refine W.seq ?_
                refine W.seq ?_
                refine W.draw (fun j => [1000].contains j) (fun wI => Ext w41 wI) rfl ?_
                have hI42 := Ext.dr w41
                refine WA.pures [0, 1, 2, 3, 4, 5, 6, 7, 8, 9, 10, 11, 12, 13, 15] 13 (by kernel_rfl) ?_
                refine QL.y (fun wq hq => (R.mv (v := .bool true) rfl)) rfl ?_
                refine QL.y (fun wq hq => (R.mv (v := .int _ _) rfl)) rfl ?_
                refine QL.y (fun wq hq => (R.geqT rfl rfl (by omega))) rfl ?_
                refine QL.y (fun wq hq => (R.neqBF Try.underlying4 rfl rfl)) rfl ?_
                refine QL.y (fun wq hq => (R.mv (v := .bool false) rfl)) rfl ?_
                refine QL.y (fun wq hq => (R.mv (v := .bool true) rfl)) rfl ?_
                refine QL.y (fun wq hq => (R.mv (v := .bool true) rfl)) rfl ?_
                refine QL.y (fun wq hq => (R.mv (v := .int _ _) rfl)) rfl ?_
                refine QL.y (fun wq hq => (R.mv (v := .int _ _) rfl)) rfl ?_
                refine QL.y (fun wq hq => (R.neqF rfl rfl rfl)) rfl ?_
                refine QL.y (fun wq hq => (R.pkT (v := .bool false) rfl rfl)) rfl ?_
                refine QL.y (fun wq hq => (R.pkF (v := .bool false) rfl rfl)) rfl ?_
                refine QL.y (fun wq hq => (R.mv (v := .bool false) rfl)) rfl ?_
                refine QL.y (fun wq hq => (R.mv (v := .pointer _) rfl)) rfl ?_
                refine QL.y (fun wq hq => (R.mv (v := .pointer _) rfl)) rfl ?_
                refine QL.nil ?_
                have hD42 := Ext.dr w41
                have hD42z := hD42.size
                have hS0 := hS
                have hXo := hX
                replace hS := hS.ext hD42
                replace hX := hX.tr hD42
                refine WA.one 14 12 (by kernel_rfl) ?_
                have hX0 := hX
                have hIz43 := hI42.size
                obtain ⟨F43, hT43, -, -⟩ := hS.split2
                refine WL.call Try.func27 rfl rfl (Len_calls F43 bt (vcfg cl encap) tl _ hT43) rfl rfl ?_
                rintro _ w43 ⟨rfl, hx43⟩
                clear hT43
                replace hS := hS.ext hx43
                replace hX := hX.tr hx43
                refine WL.nil ?_
                refine ⟨fun _ h => h.tr hx43, ?_⟩
                replace hI42 := hI42.tr hx43
                clear hX0
                refine WA.one 16 11 (by kernel_rfl) ?_
                have hX0 := hX
                have hIz44 := hI42.size
                obtain ⟨F44, hT44, -, -⟩ := hS.split1
                refine WL.call Try.func59 rfl rfl ((rLen_calls F44 br (vcfg cl encap) rl aE cE _ hT44).val (y := i64 (count tl : Nat)) (by rw [hR.count])) rfl rfl ?_
                rintro _ w44 ⟨rfl, hx44⟩
                clear hT44
                replace hS := hS.ext hx44
                replace hX := hX.tr hx44
                refine WL.nil ?_
                refine ⟨fun _ h => h.tr hx44, ?_⟩
                replace hI42 := hI42.tr hx44
                clear hX0
                refine WA.batch [17, 18, 19, 20, 21, 23, 24] 4 (by kernel_rfl) hI42 ?_
                refine QL.y (fun wq hq => (R.neqF rfl rfl rfl)) rfl ?_
                refine QL.y (fun wq hq => (R.pkF (v := .bool false) rfl rfl)) rfl ?_
                refine QL.y (fun wq hq => (R.mv (v := .bool false) rfl)) rfl ?_
                refine QL.y (fun wq hq => (R.fieldAddr fo94_1 rfl)) rfl ?_
                refine QL.y (fun wq hq => (R.loadA agg42 rfl (hq.blkR (hS0.blk0).r) rfl rfl)) rfl ?_
                refine QL.y (fun wq hq => (R.fieldAddr fo94_1 rfl)) rfl ?_
                refine QL.y (fun wq hq => (R.loadA agg42 rfl (hq.blkR (hS0.blk0).r) rfl rfl)) rfl ?_
                refine QL.nil ?_
                refine WA.one 22 3 (by kernel_rfl) ?_
                have hX0 := hX
                have hIz45 := hI42.size
                refine WL.call Try.func60 rfl rfl (vipValid_calls x.v _) rfl rfl ?_
                rintro _ w45 ⟨rfl, hx45⟩
                replace hS := hS.ext hx45
                replace hX := hX.tr hx45
                refine WL.nil ?_
                refine ⟨fun _ h => h.tr hx45, ?_⟩
                replace hI42 := hI42.tr hx45
                clear hX0
                refine WA.one 25 2 (by kernel_rfl) ?_
                have hX0 := hX
                have hIz46 := hI42.size
                refine WL.call Try.func61 rfl rfl (rvipValid_calls x.v _) rfl rfl ?_
                rintro _ w46 ⟨rfl, hx46⟩
                replace hS := hS.ext hx46
                replace hX := hX.tr hx46
                refine WL.nil ?_
                refine ⟨fun _ h => h.tr hx46, ?_⟩
                replace hI42 := hI42.tr hx46
                clear hX0
                refine WA.pures [26, 27] 0 (by kernel_rfl) ?_
                refine QL.y (fun wq hq => (R.neqBF Try.underlying4 rfl rfl)) rfl ?_
                refine QL.y (fun wq hq => (R.pkF (v := .bool false) rfl rfl)) rfl ?_
                refine QL.nil ?_
                refine WA.done (by kernel_rfl) ?_
                refine W.cond_f rfl ?_
                refine W.skip ?_
                refine W.reg ?_
                refine WL.y (R.mv (v := .pointer _) rfl) rfl ?_
                refine WL.y (R.fieldAddr fo94_3 rfl) rfl ?_
                refine WL.y (R.load sca3 rfl (hS.blk0).r rfl) rfl ?_
                rcases hth : tHas tl x.n with _ | e
                · skip
                  obtain ⟨F47, hT47, -, -⟩ := hS.split2
                  refine WL.call Try.func25 rfl rfl ((Vip_calls F47 bt (vcfg cl encap) tl _ hT47 x.n).val (y := .tuple #[encVv vip0, bl false]) (by rw [hth])) rfl rfl ?_
                  rintro _ w47 ⟨rfl, hx47⟩
                  clear hT47
                  replace hS := hS.ext hx47
                  replace hX := hX.tr hx47
                  refine WL.y (R.mv (v := .tuple _) rfl) rfl ?_
                  refine WL.y (R.extract rfl rfl) rfl ?_
                  refine WL.y (R.extract rfl rfl) rfl ?_
                  refine WL.alloc zer42 rfl ?_
                  intro b48 w48 hb48 hs48 hx48 hB48
                  replace hS := hS.pushBox hb48 hx48 hB48
                  replace hX := hX.tr hx48
                  clear hB48 hs48
                  refine WL.store (v := .agg _) siz42 rfl rfl rfl rfl hS.blk0 (Nat.le_of_ble_eq_true rfl) rfl rfl ?_
                  intro w49 hu49 hz49 hn49
                  have hN := hS.box0 hu49 hn49
                  replace hS := hN.1
                  replace hX := hN.2 _ hX hU
                  clear hN hn49 hu49 hz49
                  refine WL.y (R.asg (v := .bool false) rfl) rfl ?_
                  refine WL.nil ?_
                  refine W.reg ?_
                  refine WL.y (R.mv (v := .pointer _) rfl) rfl ?_
                  refine WL.y (R.fieldAddr fo94_3 rfl) rfl ?_
                  refine WL.y (R.load sca3 rfl (hS.blk1).r rfl) rfl ?_
                  obtain ⟨F50, hT50, -, -⟩ := hS.split3
                  refine WL.call Try.func62 rfl rfl ((Pools_calls F50 bt (vcfg cl encap) tl _ hT50 x.n).val (y := .pointer none) (by rw [hth])) rfl rfl ?_
                  rintro _ w50 ⟨rfl, hx50⟩
                  clear hT50
                  replace hS := hS.ext hx50
                  replace hX := hX.tr hx50
                  refine WL.y (R.asg (v := .pointer _) rfl) rfl ?_
                  refine WL.nil ?_
                  refine W.seq ?_
                  refine W.draw (fun j => [1000].contains j) (fun wI => Ext w50 wI) rfl ?_
                  have hI51 := Ext.dr w50
                  refine WA.batch [0, 1, 2, 3] 42 (by kernel_rfl) hI51 ?_
                  refine QL.y (fun wq hq => (R.mv (v := .bool false) rfl)) rfl ?_
                  refine QL.y (fun wq hq => (R.mv (v := .pointer _) rfl)) rfl ?_
                  refine QL.y (fun wq hq => (R.fieldAddr fo94_3 rfl)) rfl ?_
                  refine QL.y (fun wq hq => (R.load sca3 rfl (hq.blkR (hS.blk1).r) rfl)) rfl ?_
                  refine QL.nil ?_
                  have hD51 := Ext.dr w50
                  have hD51z := hD51.size
                  have hS0 := hS
                  have hXo := hX
                  replace hS := hS.ext hD51
                  replace hX := hX.tr hD51
                  refine WA.one 4 41 (by kernel_rfl) ?_
                  have hX0 := hX
                  have hIz52 := hI51.size
                  obtain ⟨F52, hT52, -, -⟩ := hS.split2
                  refine WL.call Try.func63 rfl rfl ((rIn_calls F52 br (vcfg cl encap) rl aE cE _ hT52 x.n).val (y := bl false) (by rw [← hR.has, hth]; rfl)) rfl rfl ?_
                  rintro _ w52 ⟨rfl, hx52⟩
                  clear hT52
                  replace hS := hS.ext hx52
                  replace hX := hX.tr hx52
                  refine WL.nil ?_
                  refine ⟨fun _ h => h.tr hx52, ?_⟩
                  replace hI51 := hI51.tr hx52
                  clear hX0
                  refine WA.batch [5, 6, 7, 8, 9, 10, 11, 12, 13, 14, 15, 16, 17, 18, 19, 20, 21, 22, 23, 24, 25, 26, 27, 29, 30, 31, 32, 33, 34, 35, 36, 37, 38, 39, 40] 6 (by kernel_rfl) hI51 ?_
                  refine QL.y (fun wq hq => (R.neqBF Try.underlying4 rfl rfl)) rfl ?_
                  refine QL.y (fun wq hq => (R.mv (v := .bool false) rfl)) rfl ?_
                  refine QL.y (fun wq hq => (R.mv (v := .pointer _) rfl)) rfl ?_
                  refine QL.y (fun wq hq => (R.neqNil Try.underlying61 rfl)) rfl ?_
                  refine QL.y (fun wq hq => (R.mv (v := .bool false) rfl)) rfl ?_
                  refine QL.y (fun wq hq => (R.neqBF Try.underlying4 rfl rfl)) rfl ?_
                  refine QL.y (fun wq hq => (R.pkF (v := .bool false) rfl rfl)) rfl ?_
                  refine QL.y (fun wq hq => (R.mv (v := .bool false) rfl)) rfl ?_
                  refine QL.y (fun wq hq => (R.mv (v := .bool false) rfl)) rfl ?_
                  refine QL.y (fun wq hq => (R.mv (v := .bool false) rfl)) rfl ?_
                  refine QL.skip rfl ?_
                  refine QL.skip rfl ?_
                  refine QL.skip rfl ?_
                  refine QL.skip rfl ?_
                  refine QL.skip rfl ?_
                  refine QL.skip rfl ?_
                  refine QL.skip rfl ?_
                  refine QL.skip rfl ?_
                  refine QL.skip rfl ?_
                  refine QL.skip rfl ?_
                  refine QL.skip rfl ?_
                  refine QL.skip rfl ?_
                  refine QL.skip rfl ?_
                  refine QL.skip rfl ?_
                  refine QL.skip rfl ?_
                  refine QL.skip rfl ?_
                  refine QL.skip rfl ?_
                  refine QL.skip rfl ?_
                  refine QL.skip rfl ?_
                  refine QL.skip rfl ?_
                  refine QL.skip rfl ?_
                  refine QL.skip rfl ?_
                  refine QL.skip rfl ?_
                  refine QL.skip rfl ?_
                  refine QL.skip rfl ?_
                  refine QL.nil ?_
                  refine WA.one 28 5 (by kernel_rfl) ?_
                  have hX0 := hX
                  have hIz53 := hI51.size
                  refine WL.skip rfl ?_
                  refine WL.nil ?_
                  refine ⟨fun _ h => h, ?_⟩
                  clear hX0
                  refine WA.one 41 4 (by kernel_rfl) ?_
                  have hX0 := hX
                  have hIz53 := hI51.size
                  refine WL.skip rfl ?_
                  refine WL.nil ?_
                  refine ⟨fun _ h => h, ?_⟩
                  clear hX0
                  refine WA.pures [42, 43, 44, 45] 0 (by kernel_rfl) ?_
                  refine QL.skip rfl ?_
                  refine QL.skip rfl ?_
                  refine QL.y (fun wq hq => (R.pkF (v := .bool false) rfl rfl)) rfl ?_
                  refine QL.y (fun wq hq => (R.pkF (v := .bool false) rfl rfl)) rfl ?_
                  refine QL.nil ?_
                  refine WA.done (by kernel_rfl) ?_
                  refine W.cond_f rfl ?_
                  refine W.skip ?_
                  refine W.region ?_
                  refine WL.y (R.mv (v := .int _ _) rfl) rfl ?_
                  refine WL.y (R.addI rfl rfl (by omega)) rfl ?_
                  refine WL.y (R.asg (v := .int _ _) rfl) rfl ?_
                  refine WL.nil ?_
                  replace hS := hS.drop0
                  replace hS := hS.drop0
                  exact ⟨⟨i + 1, tl, rl, aE, cE⟩, (by simp only; omega), (by repeat (first | exact Same.rfl' _ _ | refine Same.set _ rfl ?_ | refine Same.over' _ rfl ?_ | refine Same.sets rfl ?_)), ⟨rfl, trivial⟩, rfl, ⟨by simp only; omega, hR⟩, hX, hS⟩
                · skip
                  obtain ⟨F47, hT47, -, -⟩ := hS.split2
                  refine WL.call Try.func25 rfl rfl ((Vip_calls F47 bt (vcfg cl encap) tl _ hT47 x.n).val (y := .tuple #[encVv e.v, bl true]) (by rw [hth])) rfl rfl ?_
                  rintro _ w47 ⟨rfl, hx47⟩
                  clear hT47
                  replace hS := hS.ext hx47
                  replace hX := hX.tr hx47
                  refine WL.y (R.mv (v := .tuple _) rfl) rfl ?_
                  refine WL.y (R.extract rfl rfl) rfl ?_
                  refine WL.y (R.extract rfl rfl) rfl ?_
                  refine WL.alloc zer42 rfl ?_
                  intro b53 w53 hb53 hs53 hx53 hB53
                  replace hS := hS.pushBox hb53 hx53 hB53
                  replace hX := hX.tr hx53
                  clear hB53 hs53
                  refine WL.store (v := .agg _) siz42 rfl rfl rfl rfl hS.blk0 (Nat.le_of_ble_eq_true rfl) rfl rfl ?_
                  intro w54 hu54 hz54 hn54
                  have hN := hS.box0 hu54 hn54
                  replace hS := hN.1
                  replace hX := hN.2 _ hX hU
                  clear hN hn54 hu54 hz54
                  refine WL.y (R.asg (v := .bool true) rfl) rfl ?_
                  refine WL.nil ?_
                  refine W.reg ?_
                  refine WL.y (R.mv (v := .pointer _) rfl) rfl ?_
                  refine WL.y (R.fieldAddr fo94_3 rfl) rfl ?_
                  refine WL.y (R.load sca3 rfl (hS.blk1).r rfl) rfl ?_
                  obtain ⟨F55, hT55, -, -⟩ := hS.split3
                  refine WL.call Try.func62 rfl rfl ((Pools_calls F55 bt (vcfg cl encap) tl _ hT55 x.n).val (y := .pointer (some ⟨e.b, 0, none⟩)) (by rw [hth])) rfl rfl ?_
                  rintro _ w55 ⟨rfl, hx55⟩
                  clear hT55
                  replace hS := hS.ext hx55
                  replace hX := hX.tr hx55
                  refine WL.y (R.asg (v := .pointer _) rfl) rfl ?_
                  refine WL.nil ?_
                  refine W.seq ?_
                  obtain ⟨kk, y, hik, hkk, hy, hyu, hyv, hym⟩ := hR.get hth
                  obtain ⟨FT, hT9, -⟩ := hS.get2
                  obtain ⟨q, rxq, Fq, hyq, hRq, -⟩ := hT9.each kk y hy hyu
                  obtain ⟨g28, o28, cs28, ea28, hO28⟩ := (hT9.ents.ro).op (by have := (List.getElem?_eq_some_iff.1 hy).1; omega)
                  have hkl := (List.getElem?_eq_some_iff.1 hy).1
                  refine W.draw (fun j => [1000].contains j) (fun wI => Ext w55 wI) rfl ?_
                  have hI56 := Ext.dr w55
                  refine WA.batch [0, 1, 2, 3] 42 (by kernel_rfl) hI56 ?_
                  refine QL.y (fun wq hq => (R.mv (v := .bool true) rfl)) rfl ?_
                  refine QL.y (fun wq hq => (R.mv (v := .pointer _) rfl)) rfl ?_
                  refine QL.y (fun wq hq => (R.fieldAddr fo94_3 rfl)) rfl ?_
                  refine QL.y (fun wq hq => (R.load sca3 rfl (hq.blkR (hS.blk1).r) rfl)) rfl ?_
                  refine QL.nil ?_
                  have hD56 := Ext.dr w55
                  have hD56z := hD56.size
                  have hS0 := hS
                  have hXo := hX
                  replace hS := hS.ext hD56
                  replace hX := hX.tr hD56
                  refine WA.one 4 41 (by kernel_rfl) ?_
                  have hX0 := hX
                  have hIz57 := hI56.size
                  obtain ⟨F57, hT57, -, -⟩ := hS.split2
                  refine WL.call Try.func63 rfl rfl ((rIn_calls F57 br (vcfg cl encap) rl aE cE _ hT57 x.n).val (y := bl true) (by rw [← hR.has, hth]; rfl)) rfl rfl ?_
                  rintro _ w57 ⟨rfl, hx57⟩
                  clear hT57
                  replace hS := hS.ext hx57
                  replace hX := hX.tr hx57
                  refine WL.nil ?_
                  refine ⟨fun _ h => h.tr hx57, ?_⟩
                  replace hI56 := hI56.tr hx57
                  clear hX0
                  refine WA.batch [5, 6, 7, 8, 9, 10, 11, 12, 13, 14, 15, 16, 17, 18, 19, 20, 21, 22, 23, 24, 25, 26, 27, 29, 30, 31, 32, 33, 34, 35, 36, 37, 38, 39, 40] 6 (by kernel_rfl) hI56 ?_
                  refine QL.y (fun wq hq => (R.neqBF Try.underlying4 rfl rfl)) rfl ?_
                  refine QL.y (fun wq hq => (R.mv (v := .bool false) rfl)) rfl ?_
                  refine QL.y (fun wq hq => (R.mv (v := .pointer _) rfl)) rfl ?_
                  refine QL.y (fun wq hq => (R.neqNil Try.underlying61 rfl)) rfl ?_
                  refine QL.y (fun wq hq => (R.mv (v := .bool true) rfl)) rfl ?_
                  refine QL.y (fun wq hq => (R.neqBF Try.underlying4 rfl rfl)) rfl ?_
                  refine QL.y (fun wq hq => (R.pkF (v := .bool false) rfl rfl)) rfl ?_
                  refine QL.y (fun wq hq => (R.mv (v := .bool false) rfl)) rfl ?_
                  refine QL.y (fun wq hq => (R.mv (v := .bool true) rfl)) rfl ?_
                  refine QL.y (fun wq hq => (R.mv (v := .bool true) rfl)) rfl ?_
                  refine QL.y (fun wq hq => (R.loadA agg42 rfl (hq.blkR (hS0.blk0).r) rfl rfl)) rfl ?_
                  refine QL.y (fun wq hq => (R.mv (v := .pointer _) rfl)) rfl ?_
                  refine QL.y (fun wq hq => (R.nilCheck rfl)) rfl ?_
                  refine QL.y (fun wq hq => (R.fieldAddr fo92_1 rfl)) rfl ?_
                  refine QL.y (fun wq hq => (R.load sca90 rfl (hq.blkR (((hS0.get2).elim fun _ h => RTab.blk h.1)).r) rfl)) rfl ?_
                  refine QL.y (fun wq hq => (R.fieldAddr fo94_3 rfl)) rfl ?_
                  refine QL.y (fun wq hq => (R.load sca3 rfl (hq.blkR (hS0.blk1).r) rfl)) rfl ?_
                  refine QL.y (fun wq hq => (R.indexS Try.underlying90 siz102 rfl ea28 (i := kk) (congrArg (Value.int .i64) hik) (by omega))) rfl ?_
                  refine QL.y (fun wq hq => (R.fieldAddr fo102_1 rfl)) rfl ?_
                  refine QL.y (fun wq hq => (R.loadA agg42 rfl (hq.blkR (hO28.blk).r) (hO28.fld encTE hy 1 19 (by decide)) rfl)) rfl ?_
                  refine QL.y (fun wq hq => (R.neqAT (xs := encVip e.v) (ys := encVip y.v) (q := true) eq42 (by decide) agg42 Try.eqGuardType42 rfl rfl (typed_vip _) (typed_vip _) (by rw [veq_vip, decide_eq_true hyv.symm]))) rfl ?_
                  refine QL.y (fun wq hq => (R.mv (v := .bool false) rfl)) rfl ?_
                  refine QL.y (fun wq hq => (R.mv (v := .pointer _) rfl)) rfl ?_
                  refine QL.y (fun wq hq => (R.mv (v := .pointer _) rfl)) rfl ?_
                  refine QL.y (fun wq hq => (R.nilCheck rfl)) rfl ?_
                  refine QL.y (fun wq hq => (R.fieldAddr fo92_1 rfl)) rfl ?_
                  refine QL.y (fun wq hq => (R.load sca90 rfl (hq.blkR (((hS0.get2).elim fun _ h => RTab.blk h.1)).r) rfl)) rfl ?_
                  refine QL.y (fun wq hq => (R.fieldAddr fo94_3 rfl)) rfl ?_
                  refine QL.y (fun wq hq => (R.load sca3 rfl (hq.blkR (hS0.blk1).r) rfl)) rfl ?_
                  refine QL.y (fun wq hq => (R.indexS Try.underlying90 siz102 rfl ea28 (i := kk) (congrArg (Value.int .i64) hik) (by omega))) rfl ?_
                  refine QL.y (fun wq hq => (R.fieldAddr fo102_2 rfl)) rfl ?_
                  refine QL.y (fun wq hq => (R.load sca64 rfl (hq.blkR (hO28.blk).r) ((hO28.cell encTE hy (j := 20) (by decide)).trans (congrArg some (congrArg Value.pointer hyq))))) rfl ?_
                  refine QL.y (fun wq hq => (R.nilCheck rfl)) rfl ?_
                  refine QL.y (fun wq hq => (R.fieldAddr fo75_4 rfl)) rfl ?_
                  refine QL.y (fun wq hq => (R.load sca52 rfl (hq.blkR (hRq.blk).r) rfl)) rfl ?_
                  refine QL.nil ?_
                  refine WA.one 28 5 (by kernel_rfl) ?_
                  have hX0 := hX
                  have hIz58 := hI56.size
                  obtain ⟨F58, hT58, -, -⟩ := hS.split3
                  obtain ⟨Fo58, hPo58, -, -⟩ := hT58.pool hkk
                  refine WL.call Try.func45 rfl rfl (Last_calls Fo58 e.b (vcfg cl encap) e.p _ hPo58) rfl rfl ?_
                  rintro _ w58 ⟨⟨a58, c58, rfl, hl58, hf58⟩, hx58⟩
                  clear hT58 hPo58
                  replace hS := hS.pushSli hx58 hl58 hf58
                  replace hX := hX.tr hx58
                  refine WL.nil ?_
                  refine ⟨fun _ h => h.tr hx58, ?_⟩
                  replace hI56 := hI56.tr hx58
                  clear hX0
                  refine WA.one 41 4 (by kernel_rfl) ?_
                  have hX0 := hX
                  have hIz59 := hI56.size
                  refine WL.call Try.func44 rfl rfl ((Members_calls e.p.last y.ms (by rw [← hym]; have := hRq.l32; exact Nat.le_trans this (by decide)) _ _ _ _ _ (hS.sli0) (hRq.last.ext hI56)).val (y := bl true) (by rw [decide_eq_true hym.symm])) rfl rfl ?_
                  rintro _ w59 ⟨rfl, hx59⟩
                  replace hS := hS.ext hx59
                  replace hX := hX.tr hx59
                  refine WL.nil ?_
                  refine ⟨fun _ h => h.tr hx59, ?_⟩
                  replace hI56 := hI56.tr hx59
                  clear hX0
                  refine WA.pures [42, 43, 44, 45] 0 (by kernel_rfl) ?_
                  refine QL.y (fun wq hq => (R.notT rfl)) rfl ?_
                  refine QL.y (fun wq hq => (R.pkF (v := .bool false) rfl rfl)) rfl ?_
                  refine QL.y (fun wq hq => (R.pkT (v := .bool false) rfl rfl)) rfl ?_
                  refine QL.y (fun wq hq => (R.pkF (v := .bool false) rfl rfl)) rfl ?_
                  refine QL.nil ?_
                  refine WA.done (by kernel_rfl) ?_
                  refine W.cond_f rfl ?_
                  refine W.skip ?_
                  refine W.region ?_
                  refine WL.y (R.mv (v := .int _ _) rfl) rfl ?_
                  refine WL.y (R.addI rfl rfl (by omega)) rfl ?_
                  refine WL.y (R.asg (v := .int _ _) rfl) rfl ?_
                  refine WL.nil ?_
                  replace hS := hS.drop0
                  replace hS := hS.drop0
                  replace hS := hS.drop0
                  exact ⟨⟨i + 1, tl, rl, aE, cE⟩, (by simp only; omega), (by repeat (first | exact Same.rfl' _ _ | refine Same.set _ rfl ?_ | refine Same.over' _ rfl ?_ | refine Same.sets rfl ?_)), ⟨rfl, trivial⟩, rfl, ⟨by simp only; omega, hR⟩, hX, hS⟩
      · skip
        replace hc10_3 := of_decide_eq_false hc10_3
        refine WL.nil ?_
        refine W.cond_f rfl ?_
        refine W.exit ?_
        refine W.reg ?_
        refine WL.y (R.asg (v := .slice _ _ _) rfl) rfl ?_
        refine WL.nil ?_
        refine W.seq ?_
        refine W.reg ?_
        replace hS := hS.pushNil (fun n : Int => [i64 n]) 1
        refine WL.y (R.asg (v := .int _ _) rfl) rfl ?_
        refine WL.nil ?_
        refine W.block ?_
        refine W.loopS (ι := Nat × Option Addr × Nat) [(25, 27), (213, 229)] (fun q => [(26, i64 (q.1 : Nat)), (25, .slice q.2.1 (ofNats (rAll rl q.1)).length q.2.2)]) (fun q => rl.length - q.1) (fun q w' => (q.1 ≤ rl.length) ∧ Ext w w' ∧ Star U w' [slwA (fun n : Int => [i64 n]) 1 q.2.1 q.2.2 (ofNats (rAll rl q.1)), rtA br (vcfg cl encap) rl aE cE, tabA bt (vcfg cl encap) tl, boxA b5 (encCfg (vcfg cl encap)), boxA b1 (encKey k)]) ⟨0, none, 0⟩ ⟨rfl, rfl, trivial⟩ ⟨Nat.zero_le _, hX, hS⟩ ?_
        rintro ⟨j, ao, co⟩ j4 w_4 ⟨hj, hX, hS⟩
        dsimp only at hj hX hS ⊢
        have hrl := rAll_le rl j
        have hr16 := hR.r16
        refine W.seq ?_
        refine W.reg ?_
        refine WL.y (R.mv (v := .int _ _) rfl) rfl ?_
        refine WL.y (R.mv (v := .pointer _) rfl) rfl ?_
        refine WL.y (R.nilCheck rfl) rfl ?_
        refine WL.y (R.fieldAddr fo92_1 rfl) rfl ?_
        refine WL.y (R.load sca90 rfl (((hS.get1).elim fun _ h => RTab.blk h.1)).r rfl) rfl ?_
        refine WL.y (R.lenS Try.underlying90 rfl) rfl ?_
        refine WL.fork (R.lss rfl rfl) rfl (fun hc32_6 => ?_) (fun hc32_6 => ?_)
        · skip
          replace hc32_6 := of_decide_eq_true hc32_6
          refine WL.nil ?_
          refine W.cond_t rfl ?_
          refine W.skip ?_
          refine W.seq ?_
          refine W.block ?_
          refine W.reg ?_
          refine WL.y (R.mv (v := .pointer _) rfl) rfl ?_
          refine WL.y (R.mv (v := .int _ _) rfl) rfl ?_
          obtain ⟨F60, hT60, -, -⟩ := hS.split1
          refine WL.call Try.func63 rfl rfl (CallV.fork (rIn_calls F60 br (vcfg cl encap) rl aE cE _ hT60 (j : Nat))) rfl rfl ?_
          rintro _ w60 (⟨hc34_2, rfl, hx60⟩ | ⟨hc34_2, rfl, hx60⟩)
          · skip
            replace hS := hS.ext hx60
            replace hX := hX.tr hx60
            refine WL.nil ?_
            refine W.cond_t rfl ?_
            refine W.region ?_
            refine WL.y (R.mv (v := .slice _ _ _) rfl) rfl ?_
            refine WL.y (R.mv (v := .int _ _) rfl) rfl ?_
            refine WL.buildSliceP (parts := [(0, .tmp 226)]) (ps := [(0, .int _ _)]) el22_3 rfl rfl rfl (by decide) rfl rfl ?_
            intro b61 w61 hb61 hs61 hx61 hB61
            have hL61 := Slw.one encI (((j : Nat) : Int)) hB61 rfl
            replace hS := hS.pushSlw hx61 hL61 (fun k hk => by rw [owns_some] at hk; simp only at hk; omega)
            replace hX := hX.tr hx61
            clear hL61 hB61 hs61
            refine WL.appendS el22_3 encI rfl rfl (hS.slw1) (by first | rfl | omega | (simp; done) | (simp; omega)) (hS.slw0).ro (by first | rfl | omega | (simp; done) | (simp; omega)) (by first | omega | (simp; omega)) (by first | omega | (simp; omega)) rfl ?_
            intro a62 c62 w62 hu62 hl62 hf62
            have hN := hS.app1 hu62 hl62 hf62
            replace hS := hN.1
            replace hX := hN.2 _ hX hU
            clear hN hu62 hl62 hf62
            replace hS := hS.drop0
            refine WL.y (R.asg (v := .slice _ _ _) rfl) rfl ?_
            refine WL.nil ?_
            refine W.region ?_
            refine WL.y (R.mv (v := .int _ _) rfl) rfl ?_
            refine WL.y (R.addI rfl rfl (by omega)) rfl ?_
            refine WL.y (R.asg (v := .int _ _) rfl) rfl ?_
            refine WL.nil ?_
            rw [show ofNats (rAll rl j) ++ [((j : Nat) : Int)] = ofNats (rAll rl (j + 1)) by rw [rAll_succ, if_pos hc34_2]; simp [ofNats]] at hS
            exact ⟨⟨j + 1, a62, c62⟩, (by simp only; omega), (by repeat (first | exact Same.rfl' _ _ | refine Same.set _ rfl ?_ | refine Same.over' _ rfl ?_ | refine Same.sets rfl ?_)), ⟨rfl, by show _ = Value.slice _ (ofNats (rAll rl (j + 1))).length _; rw [rAll_succ, if_pos hc34_2]; simp [ofNats]; rfl, trivial⟩, rfl, by simp only; omega, hX, hS⟩
          · skip
            replace hS := hS.ext hx60
            replace hX := hX.tr hx60
            refine WL.nil ?_
            refine W.cond_f rfl ?_
            refine W.skip ?_
            refine W.region ?_
            refine WL.y (R.mv (v := .int _ _) rfl) rfl ?_
            refine WL.y (R.addI rfl rfl (by omega)) rfl ?_
            refine WL.y (R.asg (v := .int _ _) rfl) rfl ?_
            refine WL.nil ?_
            rw [show ofNats (rAll rl j) = ofNats (rAll rl (j + 1)) by rw [rAll_succ, if_neg (by rw [hc34_2]; decide), List.append_nil]] at hS
            exact ⟨⟨j + 1, ao, co⟩, (by simp only; omega), (by repeat (first | exact Same.rfl' _ _ | refine Same.set _ rfl ?_ | refine Same.over' _ rfl ?_ | refine Same.sets rfl ?_)), ⟨rfl, by show _ = Value.slice _ (ofNats (rAll rl (j + 1))).length _; rw [rAll_succ, if_neg (by rw [hc34_2]; decide), List.append_nil]; rfl, trivial⟩, rfl, by simp only; omega, hX, hS⟩
        · skip
          replace hc32_6 := of_decide_eq_false hc32_6
          refine WL.nil ?_
          refine W.cond_f rfl ?_
          refine W.exit ?_
          refine W.reg ?_
          refine WL.y (R.mv (v := .pointer _) rfl) rfl ?_
          refine WL.y (R.loadA agg37 rfl (hS.blk4).r rfl rfl) rfl ?_
          obtain rfl : j = rl.length := by omega
          have hall : allL tl = rAll rl rl.length := hR.all
          rcases (show (keyOK k = false) ∨ (keyOK k = true ∧ tIdx tl (keyVip k) < 0) ∨ (keyOK k = true ∧ ¬ tIdx tl (keyVip k) < 0) from by cases keyOK k <;> simp; omega) with hko | ⟨hko, hti⟩ | ⟨hko, hti⟩
          · skip
            obtain ⟨F63, hT63, -, -⟩ := hS.split2
            refine WL.call Try.func28 rfl rfl ((Of_calls F63 bt (vcfg cl encap) tl _ hT63 k).val (y := .tuple #[i64 0, bl false]) (by unfold ofR; rw [hko]; rfl)) rfl rfl ?_
            rintro _ w63 ⟨rfl, hx63⟩
            clear hT63
            replace hS := hS.ext hx63
            replace hX := hX.tr hx63
            refine WL.y (R.mv (v := .tuple _) rfl) rfl ?_
            refine WL.y (R.extract rfl rfl) rfl ?_
            refine WL.y (R.extract rfl rfl) rfl ?_
            refine WL.y (R.asg (v := .int _ _) rfl) rfl ?_
            refine WL.y (R.asg (v := .bool false) rfl) rfl ?_
            refine WL.nil ?_
            refine W.reg ?_
            refine WL.y (R.mv (v := .pointer _) rfl) rfl ?_
            refine WL.y (R.loadA agg37 rfl (hS.blk4).r rfl rfl) rfl ?_
            refine WL.call Try.func64 rfl rfl (rkeyVip_calls k _) rfl rfl ?_
            rintro _ w64 ⟨rfl, hx64⟩
            replace hS := hS.ext hx64
            replace hX := hX.tr hx64
            obtain ⟨F65, hT65, -, -⟩ := hS.split1
            refine WL.call Try.func58 rfl rfl ((rFind_calls F65 br (vcfg cl encap) rl aE cE _ hT65 (keyVip k)).val (y := i64 (tIdx tl (keyVip k))) (by rw [hR.ix])) rfl rfl ?_
            rintro _ w65 ⟨rfl, hx65⟩
            clear hT65
            replace hS := hS.ext hx65
            replace hX := hX.tr hx65
            refine WL.y (R.asg (v := .int _ _) rfl) rfl ?_
            refine WL.nil ?_
            refine W.reg ?_
            refine WL.y (R.loadA agg37 rfl (hS.blk4).r rfl rfl) rfl ?_
            refine WL.call Try.func65 rfl rfl ((rkeyValid_calls k _).val (y := bl false) (by rw [hko])) rfl rfl ?_
            rintro _ w66 ⟨rfl, hx66⟩
            replace hS := hS.ext hx66
            replace hX := hX.tr hx66
            refine WL.y (R.mv (v := .bool false) rfl) rfl ?_
            refine WL.skip rfl ?_
            refine WL.skip rfl ?_
            refine WL.y (R.pkF (v := .bool false) rfl rfl) rfl ?_
            refine WL.y (R.asg (v := .bool false) rfl) rfl ?_
            refine WL.nil ?_
            refine W.reg ?_
            refine WL.y (R.mv (v := .slice _ _ _) rfl) rfl ?_
            refine WL.y (R.lenS Try.underlying22 rfl) rfl ?_
            refine WL.y (R.quoI rfl rfl (by omega) (by omega)) rfl ?_
            obtain ⟨hh, hhh⟩ : ∃ h : Nat, h = (ofNats (rAll rl rl.length)).length / 2 := ⟨_, rfl⟩
            rw [show (((ofNats (rAll rl rl.length)).length : Nat) : Int).tdiv 2 = ((hh : Nat) : Int) by rw [hhh]; rfl]
            have hlec := Sli.lec (hS.slw0).ro
            refine WL.y (R.asg (v := .int _ _) rfl) rfl ?_
            refine WL.nil ?_
            refine W.seq ?_
            refine W.draw (fun j => [1000].contains j) (fun wI => Ext w66 wI) rfl ?_
            have hI67 := Ext.dr w66
            refine WA.pures [0, 1, 2, 3, 4, 5, 6, 7, 8, 9, 10, 11, 12, 13, 15] 16 (by kernel_rfl) ?_
            refine QL.y (fun wq hq => (R.mv (v := .bool false) rfl)) rfl ?_
            refine QL.y (fun wq hq => (R.mv (v := .bool false) rfl)) rfl ?_
            refine QL.y (fun wq hq => (R.eqlBT Try.underlying4 rfl rfl)) rfl ?_
            refine QL.y (fun wq hq => (R.mv (v := .bool true) rfl)) rfl ?_
            refine QL.y (fun wq hq => (R.mv (v := .bool false) rfl)) rfl ?_
            refine QL.y (fun wq hq => (R.notF rfl)) rfl ?_
            refine QL.y (fun wq hq => (R.mv (v := .bool true) rfl)) rfl ?_
            refine QL.skip rfl ?_
            refine QL.skip rfl ?_
            refine QL.skip rfl ?_
            refine QL.y (fun wq hq => (R.pkT (v := .bool true) rfl rfl)) rfl ?_
            refine QL.y (fun wq hq => (R.pkT (v := .bool true) rfl rfl)) rfl ?_
            refine QL.y (fun wq hq => (R.mv (v := .bool true) rfl)) rfl ?_
            refine QL.y (fun wq hq => (R.mv (v := .pointer _) rfl)) rfl ?_
            refine QL.y (fun wq hq => (R.mv (v := .slice _ _ _) rfl)) rfl ?_
            refine QL.nil ?_
            have hD67 := Ext.dr w66
            have hD67z := hD67.size
            have hS0 := hS
            have hXo := hX
            replace hS := hS.ext hD67
            replace hX := hX.tr hD67
            refine WA.one 14 15 (by kernel_rfl) ?_
            have hX0 := hX
            have hIz68 := hI67.size
            obtain ⟨F68, hT68, -, -⟩ := hS.split2
            refine WL.call Try.func66 rfl rfl (all19_calls F68 bt (vcfg cl encap) tl _ hT68 (-1)) rfl rfl ?_
            rintro _ w68 ⟨⟨a68, c68, rfl, hl68, hf68⟩, hx68⟩
            replace hS := hS.pushSli hx68 hl68 hf68
            replace hX := hX.tr hx68
            clear hT68
            refine WL.nil ?_
            refine ⟨fun _ h => h.tr hx68, ?_⟩
            replace hI67 := hI67.tr hx68
            clear hX0
            refine WA.one 16 14 (by kernel_rfl) ?_
            have hX0 := hX
            have hIz69 := hI67.size
            have hal := allL_le tl
            refine WL.call (vs := [.slice a68 (ofNats (takeM (-1) (allL tl))).length c68, .slice ao (ofNats (rAll rl rl.length)).length co]) Try.func46 rfl rfl ((Ints_calls (ofNats (takeM (-1) (allL tl))) (ofNats (rAll rl rl.length)) (by simp only [ofNats, List.length_map, takeM]; split <;> (try simp only [List.length_take]) <;> omega) _ _ _ _ _ (hS.sli0) (hS.slw1).ro).val (y := bl true) (by rw [decide_eq_true (show ofNats (takeM (-1) (allL tl)) = ofNats (rAll rl rl.length) by rw [hall]; rfl)])) (by rw [show (ofNats (takeM (-1) (allL tl))).length = (takeM (-1) (allL tl)).length by simp [ofNats]]; rfl) rfl ?_
            rintro _ w69 ⟨rfl, hx69⟩
            replace hS := hS.ext hx69
            replace hX := hX.tr hx69
            refine WL.nil ?_
            refine ⟨fun _ h => h.tr hx69, ?_⟩
            replace hI67 := hI67.tr hx69
            clear hX0
            refine WA.pures [17, 18, 19, 20, 22, 23, 24] 7 (by kernel_rfl) ?_
            refine QL.y (fun wq hq => (R.pkT (v := .bool true) rfl rfl)) rfl ?_
            refine QL.y (fun wq hq => (R.mv (v := .bool true) rfl)) rfl ?_
            refine QL.y (fun wq hq => (R.mv (v := .pointer _) rfl)) rfl ?_
            refine QL.y (fun wq hq => (R.mv (v := .int _ _) rfl)) rfl ?_
            refine QL.y (fun wq hq => (R.mv (v := .slice _ _ _) rfl)) rfl ?_
            refine QL.y (fun wq hq => (R.mv (v := .int _ _) rfl)) rfl ?_
            refine QL.y (fun wq hq => (R.sliceH Try.underlying22 siz3 rfl (h := hh) rfl (by omega))) rfl ?_
            refine QL.nil ?_
            refine WA.one 21 6 (by kernel_rfl) ?_
            have hX0 := hX
            have hIz70 := hI67.size
            obtain ⟨F70, hT70, -, -⟩ := hS.split3
            refine WL.call Try.func66 rfl rfl (all19_calls F70 bt (vcfg cl encap) tl _ hT70 ((hh : Nat) : Int)) rfl rfl ?_
            rintro _ w70 ⟨⟨a70, c70, rfl, hl70, hf70⟩, hx70⟩
            replace hS := hS.pushSli hx70 hl70 hf70
            replace hX := hX.tr hx70
            clear hT70
            refine WL.nil ?_
            refine ⟨fun _ h => h.tr hx70, ?_⟩
            replace hI67 := hI67.tr hx70
            clear hX0
            refine WA.one 25 5 (by kernel_rfl) ?_
            have hX0 := hX
            have hIz71 := hI67.size
            have hal := allL_le tl
            refine WL.call (vs := [.slice a70 (ofNats (takeM ((hh : Nat) : Int) (allL tl))).length c70, .slice ao ((ofNats (rAll rl rl.length)).take hh).length co]) Try.func46 rfl rfl ((Ints_calls (ofNats (takeM ((hh : Nat) : Int) (allL tl))) ((ofNats (rAll rl rl.length)).take hh) (by simp only [ofNats, List.length_map, takeM]; split <;> (try simp only [List.length_take]) <;> omega) _ _ _ _ _ (hS.sli0) (Sli.takeL encI (hS.slw2).ro hh)).val (y := bl true) (by rw [decide_eq_true (show ofNats (takeM ((hh : Nat) : Int) (allL tl)) = (ofNats (rAll rl rl.length)).take hh by rw [hall]; simp [ofNats, takeM, List.map_take])])) (by rw [show (ofNats (takeM ((hh : Nat) : Int) (allL tl))).length = (takeM ((hh : Nat) : Int) (allL tl)).length by simp [ofNats]]; rw [List.length_take, Nat.min_eq_left (show hh ≤ (ofNats (rAll rl rl.length)).length by omega)]; rfl) rfl ?_
            rintro _ w71 ⟨rfl, hx71⟩
            replace hS := hS.ext hx71
            replace hX := hX.tr hx71
            refine WL.nil ?_
            refine ⟨fun _ h => h.tr hx71, ?_⟩
            replace hI67 := hI67.tr hx71
            clear hX0
            refine WA.pures [26, 27] 3 (by kernel_rfl) ?_
            refine QL.y (fun wq hq => (R.pkT (v := .bool true) rfl rfl)) rfl ?_
            refine QL.y (fun wq hq => (R.mv (v := .bool true) rfl)) rfl ?_
            refine QL.nil ?_
            refine WA.one 28 2 (by kernel_rfl) ?_
            have hX0 := hX
            have hIz72 := hI67.size
            refine WL.call Try.func19 rfl rfl (awake19_calls _) rfl rfl ?_
            rintro _ w72 ⟨rfl, hx72⟩
            replace hS := hS.ext hx72
            replace hX := hX.tr hx72
            refine WL.nil ?_
            refine ⟨fun _ h => h.tr hx72, ?_⟩
            replace hI67 := hI67.tr hx72
            clear hX0
            refine WA.pures [29, 30] 0 (by kernel_rfl) ?_
            refine QL.y (fun wq hq => (R.pkT (v := .bool _) rfl rfl)) rfl ?_
            refine QL.y (fun wq hq => (R.asg (v := .bool _) rfl)) rfl ?_
            refine QL.nil ?_
            refine WA.done (by kernel_rfl) ?_
            refine W.ret ?_
            exact PR.r1 rfl (.tmp rfl) ⟨rfl, hX⟩
          · skip
            obtain ⟨F63, hT63, -, -⟩ := hS.split2
            refine WL.call Try.func28 rfl rfl ((Of_calls F63 bt (vcfg cl encap) tl _ hT63 k).val (y := .tuple #[i64 0, bl false]) (by unfold ofR findR; rw [hko, if_pos rfl, if_pos hti])) rfl rfl ?_
            rintro _ w63 ⟨rfl, hx63⟩
            clear hT63
            replace hS := hS.ext hx63
            replace hX := hX.tr hx63
            refine WL.y (R.mv (v := .tuple _) rfl) rfl ?_
            refine WL.y (R.extract rfl rfl) rfl ?_
            refine WL.y (R.extract rfl rfl) rfl ?_
            refine WL.y (R.asg (v := .int _ _) rfl) rfl ?_
            refine WL.y (R.asg (v := .bool false) rfl) rfl ?_
            refine WL.nil ?_
            refine W.reg ?_
            refine WL.y (R.mv (v := .pointer _) rfl) rfl ?_
            refine WL.y (R.loadA agg37 rfl (hS.blk4).r rfl rfl) rfl ?_
            refine WL.call Try.func64 rfl rfl (rkeyVip_calls k _) rfl rfl ?_
            rintro _ w73 ⟨rfl, hx73⟩
            replace hS := hS.ext hx73
            replace hX := hX.tr hx73
            obtain ⟨F74, hT74, -, -⟩ := hS.split1
            refine WL.call Try.func58 rfl rfl ((rFind_calls F74 br (vcfg cl encap) rl aE cE _ hT74 (keyVip k)).val (y := i64 (tIdx tl (keyVip k))) (by rw [hR.ix])) rfl rfl ?_
            rintro _ w74 ⟨rfl, hx74⟩
            clear hT74
            replace hS := hS.ext hx74
            replace hX := hX.tr hx74
            refine WL.y (R.asg (v := .int _ _) rfl) rfl ?_
            refine WL.nil ?_
            refine W.reg ?_
            refine WL.y (R.loadA agg37 rfl (hS.blk4).r rfl rfl) rfl ?_
            refine WL.call Try.func65 rfl rfl ((rkeyValid_calls k _).val (y := bl true) (by rw [hko])) rfl rfl ?_
            rintro _ w75 ⟨rfl, hx75⟩
            replace hS := hS.ext hx75
            replace hX := hX.tr hx75
            refine WL.y (R.mv (v := .bool true) rfl) rfl ?_
            refine WL.y (R.mv (v := .int _ _) rfl) rfl ?_
            refine WL.y (R.geqF rfl rfl (by omega)) rfl ?_
            refine WL.y (R.pkT (v := .bool false) rfl rfl) rfl ?_
            refine WL.y (R.asg (v := .bool false) rfl) rfl ?_
            refine WL.nil ?_
            refine W.reg ?_
            refine WL.y (R.mv (v := .slice _ _ _) rfl) rfl ?_
            refine WL.y (R.lenS Try.underlying22 rfl) rfl ?_
            refine WL.y (R.quoI rfl rfl (by omega) (by omega)) rfl ?_
            obtain ⟨hh, hhh⟩ : ∃ h : Nat, h = (ofNats (rAll rl rl.length)).length / 2 := ⟨_, rfl⟩
            rw [show (((ofNats (rAll rl rl.length)).length : Nat) : Int).tdiv 2 = ((hh : Nat) : Int) by rw [hhh]; rfl]
            have hlec := Sli.lec (hS.slw0).ro
            refine WL.y (R.asg (v := .int _ _) rfl) rfl ?_
            refine WL.nil ?_
            refine W.seq ?_
            refine W.draw (fun j => [1000].contains j) (fun wI => Ext w75 wI) rfl ?_
            have hI76 := Ext.dr w75
            refine WA.pures [0, 1, 2, 3, 4, 5, 6, 7, 8, 9, 10, 11, 12, 13, 15] 16 (by kernel_rfl) ?_
            refine QL.y (fun wq hq => (R.mv (v := .bool false) rfl)) rfl ?_
            refine QL.y (fun wq hq => (R.mv (v := .bool false) rfl)) rfl ?_
            refine QL.y (fun wq hq => (R.eqlBT Try.underlying4 rfl rfl)) rfl ?_
            refine QL.y (fun wq hq => (R.mv (v := .bool true) rfl)) rfl ?_
            refine QL.y (fun wq hq => (R.mv (v := .bool false) rfl)) rfl ?_
            refine QL.y (fun wq hq => (R.notF rfl)) rfl ?_
            refine QL.y (fun wq hq => (R.mv (v := .bool true) rfl)) rfl ?_
            refine QL.skip rfl ?_
            refine QL.skip rfl ?_
            refine QL.skip rfl ?_
            refine QL.y (fun wq hq => (R.pkT (v := .bool true) rfl rfl)) rfl ?_
            refine QL.y (fun wq hq => (R.pkT (v := .bool true) rfl rfl)) rfl ?_
            refine QL.y (fun wq hq => (R.mv (v := .bool true) rfl)) rfl ?_
            refine QL.y (fun wq hq => (R.mv (v := .pointer _) rfl)) rfl ?_
            refine QL.y (fun wq hq => (R.mv (v := .slice _ _ _) rfl)) rfl ?_
            refine QL.nil ?_
            have hD76 := Ext.dr w75
            have hD76z := hD76.size
            have hS0 := hS
            have hXo := hX
            replace hS := hS.ext hD76
            replace hX := hX.tr hD76
            refine WA.one 14 15 (by kernel_rfl) ?_
            have hX0 := hX
            have hIz77 := hI76.size
            obtain ⟨F77, hT77, -, -⟩ := hS.split2
            refine WL.call Try.func66 rfl rfl (all19_calls F77 bt (vcfg cl encap) tl _ hT77 (-1)) rfl rfl ?_
            rintro _ w77 ⟨⟨a77, c77, rfl, hl77, hf77⟩, hx77⟩
            replace hS := hS.pushSli hx77 hl77 hf77
            replace hX := hX.tr hx77
            clear hT77
            refine WL.nil ?_
            refine ⟨fun _ h => h.tr hx77, ?_⟩
            replace hI76 := hI76.tr hx77
            clear hX0
            refine WA.one 16 14 (by kernel_rfl) ?_
            have hX0 := hX
            have hIz78 := hI76.size
            have hal := allL_le tl
            refine WL.call (vs := [.slice a77 (ofNats (takeM (-1) (allL tl))).length c77, .slice ao (ofNats (rAll rl rl.length)).length co]) Try.func46 rfl rfl ((Ints_calls (ofNats (takeM (-1) (allL tl))) (ofNats (rAll rl rl.length)) (by simp only [ofNats, List.length_map, takeM]; split <;> (try simp only [List.length_take]) <;> omega) _ _ _ _ _ (hS.sli0) (hS.slw1).ro).val (y := bl true) (by rw [decide_eq_true (show ofNats (takeM (-1) (allL tl)) = ofNats (rAll rl rl.length) by rw [hall]; rfl)])) (by rw [show (ofNats (takeM (-1) (allL tl))).length = (takeM (-1) (allL tl)).length by simp [ofNats]]; rfl) rfl ?_
            rintro _ w78 ⟨rfl, hx78⟩
            replace hS := hS.ext hx78
            replace hX := hX.tr hx78
            refine WL.nil ?_
            refine ⟨fun _ h => h.tr hx78, ?_⟩
            replace hI76 := hI76.tr hx78
            clear hX0
            refine WA.pures [17, 18, 19, 20, 22, 23, 24] 7 (by kernel_rfl) ?_
            refine QL.y (fun wq hq => (R.pkT (v := .bool true) rfl rfl)) rfl ?_
            refine QL.y (fun wq hq => (R.mv (v := .bool true) rfl)) rfl ?_
            refine QL.y (fun wq hq => (R.mv (v := .pointer _) rfl)) rfl ?_
            refine QL.y (fun wq hq => (R.mv (v := .int _ _) rfl)) rfl ?_
            refine QL.y (fun wq hq => (R.mv (v := .slice _ _ _) rfl)) rfl ?_
            refine QL.y (fun wq hq => (R.mv (v := .int _ _) rfl)) rfl ?_
            refine QL.y (fun wq hq => (R.sliceH Try.underlying22 siz3 rfl (h := hh) rfl (by omega))) rfl ?_
            refine QL.nil ?_
            refine WA.one 21 6 (by kernel_rfl) ?_
            have hX0 := hX
            have hIz79 := hI76.size
            obtain ⟨F79, hT79, -, -⟩ := hS.split3
            refine WL.call Try.func66 rfl rfl (all19_calls F79 bt (vcfg cl encap) tl _ hT79 ((hh : Nat) : Int)) rfl rfl ?_
            rintro _ w79 ⟨⟨a79, c79, rfl, hl79, hf79⟩, hx79⟩
            replace hS := hS.pushSli hx79 hl79 hf79
            replace hX := hX.tr hx79
            clear hT79
            refine WL.nil ?_
            refine ⟨fun _ h => h.tr hx79, ?_⟩
            replace hI76 := hI76.tr hx79
            clear hX0
            refine WA.one 25 5 (by kernel_rfl) ?_
            have hX0 := hX
            have hIz80 := hI76.size
            have hal := allL_le tl
            refine WL.call (vs := [.slice a79 (ofNats (takeM ((hh : Nat) : Int) (allL tl))).length c79, .slice ao ((ofNats (rAll rl rl.length)).take hh).length co]) Try.func46 rfl rfl ((Ints_calls (ofNats (takeM ((hh : Nat) : Int) (allL tl))) ((ofNats (rAll rl rl.length)).take hh) (by simp only [ofNats, List.length_map, takeM]; split <;> (try simp only [List.length_take]) <;> omega) _ _ _ _ _ (hS.sli0) (Sli.takeL encI (hS.slw2).ro hh)).val (y := bl true) (by rw [decide_eq_true (show ofNats (takeM ((hh : Nat) : Int) (allL tl)) = (ofNats (rAll rl rl.length)).take hh by rw [hall]; simp [ofNats, takeM, List.map_take])])) (by rw [show (ofNats (takeM ((hh : Nat) : Int) (allL tl))).length = (takeM ((hh : Nat) : Int) (allL tl)).length by simp [ofNats]]; rw [List.length_take, Nat.min_eq_left (show hh ≤ (ofNats (rAll rl rl.length)).length by omega)]; rfl) rfl ?_
            rintro _ w80 ⟨rfl, hx80⟩
            replace hS := hS.ext hx80
            replace hX := hX.tr hx80
            refine WL.nil ?_
            refine ⟨fun _ h => h.tr hx80, ?_⟩
            replace hI76 := hI76.tr hx80
            clear hX0
            refine WA.pures [26, 27] 3 (by kernel_rfl) ?_
            refine QL.y (fun wq hq => (R.pkT (v := .bool true) rfl rfl)) rfl ?_
            refine QL.y (fun wq hq => (R.mv (v := .bool true) rfl)) rfl ?_
            refine QL.nil ?_
            refine WA.one 28 2 (by kernel_rfl) ?_
            have hX0 := hX
            have hIz81 := hI76.size
            refine WL.call Try.func19 rfl rfl (awake19_calls _) rfl rfl ?_
            rintro _ w81 ⟨rfl, hx81⟩
            replace hS := hS.ext hx81
            replace hX := hX.tr hx81
            refine WL.nil ?_
            refine ⟨fun _ h => h.tr hx81, ?_⟩
            replace hI76 := hI76.tr hx81
            clear hX0
            refine WA.pures [29, 30] 0 (by kernel_rfl) ?_
            refine QL.y (fun wq hq => (R.pkT (v := .bool _) rfl rfl)) rfl ?_
            refine QL.y (fun wq hq => (R.asg (v := .bool _) rfl)) rfl ?_
            refine QL.nil ?_
            refine WA.done (by kernel_rfl) ?_
            refine W.ret ?_
            exact PR.r1 rfl (.tmp rfl) ⟨rfl, hX⟩
          · skip
            obtain ⟨F63, hT63, -, -⟩ := hS.split2
            refine WL.call Try.func28 rfl rfl ((Of_calls F63 bt (vcfg cl encap) tl _ hT63 k).val (y := .tuple #[i64 (tIdx tl (keyVip k)), bl true]) (by unfold ofR findR; rw [hko, if_pos rfl, if_neg hti])) rfl rfl ?_
            rintro _ w63 ⟨rfl, hx63⟩
            clear hT63
            replace hS := hS.ext hx63
            replace hX := hX.tr hx63
            refine WL.y (R.mv (v := .tuple _) rfl) rfl ?_
            refine WL.y (R.extract rfl rfl) rfl ?_
            refine WL.y (R.extract rfl rfl) rfl ?_
            refine WL.y (R.asg (v := .int _ _) rfl) rfl ?_
            refine WL.y (R.asg (v := .bool true) rfl) rfl ?_
            refine WL.nil ?_
            refine W.reg ?_
            refine WL.y (R.mv (v := .pointer _) rfl) rfl ?_
            refine WL.y (R.loadA agg37 rfl (hS.blk4).r rfl rfl) rfl ?_
            refine WL.call Try.func64 rfl rfl (rkeyVip_calls k _) rfl rfl ?_
            rintro _ w82 ⟨rfl, hx82⟩
            replace hS := hS.ext hx82
            replace hX := hX.tr hx82
            obtain ⟨F83, hT83, -, -⟩ := hS.split1
            refine WL.call Try.func58 rfl rfl ((rFind_calls F83 br (vcfg cl encap) rl aE cE _ hT83 (keyVip k)).val (y := i64 (tIdx tl (keyVip k))) (by rw [hR.ix])) rfl rfl ?_
            rintro _ w83 ⟨rfl, hx83⟩
            clear hT83
            replace hS := hS.ext hx83
            replace hX := hX.tr hx83
            refine WL.y (R.asg (v := .int _ _) rfl) rfl ?_
            refine WL.nil ?_
            refine W.reg ?_
            refine WL.y (R.loadA agg37 rfl (hS.blk4).r rfl rfl) rfl ?_
            refine WL.call Try.func65 rfl rfl ((rkeyValid_calls k _).val (y := bl true) (by rw [hko])) rfl rfl ?_
            rintro _ w84 ⟨rfl, hx84⟩
            replace hS := hS.ext hx84
            replace hX := hX.tr hx84
            refine WL.y (R.mv (v := .bool true) rfl) rfl ?_
            refine WL.y (R.mv (v := .int _ _) rfl) rfl ?_
            refine WL.y (R.geqT rfl rfl (by omega)) rfl ?_
            refine WL.y (R.pkT (v := .bool true) rfl rfl) rfl ?_
            refine WL.y (R.asg (v := .bool true) rfl) rfl ?_
            refine WL.nil ?_
            refine W.reg ?_
            refine WL.y (R.mv (v := .slice _ _ _) rfl) rfl ?_
            refine WL.y (R.lenS Try.underlying22 rfl) rfl ?_
            refine WL.y (R.quoI rfl rfl (by omega) (by omega)) rfl ?_
            obtain ⟨hh, hhh⟩ : ∃ h : Nat, h = (ofNats (rAll rl rl.length)).length / 2 := ⟨_, rfl⟩
            rw [show (((ofNats (rAll rl rl.length)).length : Nat) : Int).tdiv 2 = ((hh : Nat) : Int) by rw [hhh]; rfl]
            have hlec := Sli.lec (hS.slw0).ro
            refine WL.y (R.asg (v := .int _ _) rfl) rfl ?_
            refine WL.nil ?_
            refine W.seq ?_
            refine W.draw (fun j => [1000].contains j) (fun wI => Ext w84 wI) rfl ?_
            have hI85 := Ext.dr w84
            refine WA.pures [0, 1, 2, 3, 4, 5, 6, 7, 8, 9, 10, 11, 12, 13, 15] 16 (by kernel_rfl) ?_
            refine QL.y (fun wq hq => (R.mv (v := .bool true) rfl)) rfl ?_
            refine QL.y (fun wq hq => (R.mv (v := .bool true) rfl)) rfl ?_
            refine QL.y (fun wq hq => (R.eqlBT Try.underlying4 rfl rfl)) rfl ?_
            refine QL.y (fun wq hq => (R.mv (v := .bool true) rfl)) rfl ?_
            refine QL.y (fun wq hq => (R.mv (v := .bool true) rfl)) rfl ?_
            refine QL.y (fun wq hq => (R.notT rfl)) rfl ?_
            refine QL.y (fun wq hq => (R.mv (v := .bool false) rfl)) rfl ?_
            refine QL.y (fun wq hq => (R.mv (v := .int _ _) rfl)) rfl ?_
            refine QL.y (fun wq hq => (R.mv (v := .int _ _) rfl)) rfl ?_
            refine QL.y (fun wq hq => (R.eqlT rfl rfl rfl)) rfl ?_
            refine QL.y (fun wq hq => (R.pkF (v := .bool true) rfl rfl)) rfl ?_
            refine QL.y (fun wq hq => (R.pkT (v := .bool true) rfl rfl)) rfl ?_
            refine QL.y (fun wq hq => (R.mv (v := .bool true) rfl)) rfl ?_
            refine QL.y (fun wq hq => (R.mv (v := .pointer _) rfl)) rfl ?_
            refine QL.y (fun wq hq => (R.mv (v := .slice _ _ _) rfl)) rfl ?_
            refine QL.nil ?_
            have hD85 := Ext.dr w84
            have hD85z := hD85.size
            have hS0 := hS
            have hXo := hX
            replace hS := hS.ext hD85
            replace hX := hX.tr hD85
            refine WA.one 14 15 (by kernel_rfl) ?_
            have hX0 := hX
            have hIz86 := hI85.size
            obtain ⟨F86, hT86, -, -⟩ := hS.split2
            refine WL.call Try.func66 rfl rfl (all19_calls F86 bt (vcfg cl encap) tl _ hT86 (-1)) rfl rfl ?_
            rintro _ w86 ⟨⟨a86, c86, rfl, hl86, hf86⟩, hx86⟩
            replace hS := hS.pushSli hx86 hl86 hf86
            replace hX := hX.tr hx86
            clear hT86
            refine WL.nil ?_
            refine ⟨fun _ h => h.tr hx86, ?_⟩
            replace hI85 := hI85.tr hx86
            clear hX0
            refine WA.one 16 14 (by kernel_rfl) ?_
            have hX0 := hX
            have hIz87 := hI85.size
            have hal := allL_le tl
            refine WL.call (vs := [.slice a86 (ofNats (takeM (-1) (allL tl))).length c86, .slice ao (ofNats (rAll rl rl.length)).length co]) Try.func46 rfl rfl ((Ints_calls (ofNats (takeM (-1) (allL tl))) (ofNats (rAll rl rl.length)) (by simp only [ofNats, List.length_map, takeM]; split <;> (try simp only [List.length_take]) <;> omega) _ _ _ _ _ (hS.sli0) (hS.slw1).ro).val (y := bl true) (by rw [decide_eq_true (show ofNats (takeM (-1) (allL tl)) = ofNats (rAll rl rl.length) by rw [hall]; rfl)])) (by rw [show (ofNats (takeM (-1) (allL tl))).length = (takeM (-1) (allL tl)).length by simp [ofNats]]; rfl) rfl ?_
            rintro _ w87 ⟨rfl, hx87⟩
            replace hS := hS.ext hx87
            replace hX := hX.tr hx87
            refine WL.nil ?_
            refine ⟨fun _ h => h.tr hx87, ?_⟩
            replace hI85 := hI85.tr hx87
            clear hX0
            refine WA.pures [17, 18, 19, 20, 22, 23, 24] 7 (by kernel_rfl) ?_
            refine QL.y (fun wq hq => (R.pkT (v := .bool true) rfl rfl)) rfl ?_
            refine QL.y (fun wq hq => (R.mv (v := .bool true) rfl)) rfl ?_
            refine QL.y (fun wq hq => (R.mv (v := .pointer _) rfl)) rfl ?_
            refine QL.y (fun wq hq => (R.mv (v := .int _ _) rfl)) rfl ?_
            refine QL.y (fun wq hq => (R.mv (v := .slice _ _ _) rfl)) rfl ?_
            refine QL.y (fun wq hq => (R.mv (v := .int _ _) rfl)) rfl ?_
            refine QL.y (fun wq hq => (R.sliceH Try.underlying22 siz3 rfl (h := hh) rfl (by omega))) rfl ?_
            refine QL.nil ?_
            refine WA.one 21 6 (by kernel_rfl) ?_
            have hX0 := hX
            have hIz88 := hI85.size
            obtain ⟨F88, hT88, -, -⟩ := hS.split3
            refine WL.call Try.func66 rfl rfl (all19_calls F88 bt (vcfg cl encap) tl _ hT88 ((hh : Nat) : Int)) rfl rfl ?_
            rintro _ w88 ⟨⟨a88, c88, rfl, hl88, hf88⟩, hx88⟩
            replace hS := hS.pushSli hx88 hl88 hf88
            replace hX := hX.tr hx88
            clear hT88
            refine WL.nil ?_
            refine ⟨fun _ h => h.tr hx88, ?_⟩
            replace hI85 := hI85.tr hx88
            clear hX0
            refine WA.one 25 5 (by kernel_rfl) ?_
            have hX0 := hX
            have hIz89 := hI85.size
            have hal := allL_le tl
            refine WL.call (vs := [.slice a88 (ofNats (takeM ((hh : Nat) : Int) (allL tl))).length c88, .slice ao ((ofNats (rAll rl rl.length)).take hh).length co]) Try.func46 rfl rfl ((Ints_calls (ofNats (takeM ((hh : Nat) : Int) (allL tl))) ((ofNats (rAll rl rl.length)).take hh) (by simp only [ofNats, List.length_map, takeM]; split <;> (try simp only [List.length_take]) <;> omega) _ _ _ _ _ (hS.sli0) (Sli.takeL encI (hS.slw2).ro hh)).val (y := bl true) (by rw [decide_eq_true (show ofNats (takeM ((hh : Nat) : Int) (allL tl)) = (ofNats (rAll rl rl.length)).take hh by rw [hall]; simp [ofNats, takeM, List.map_take])])) (by rw [show (ofNats (takeM ((hh : Nat) : Int) (allL tl))).length = (takeM ((hh : Nat) : Int) (allL tl)).length by simp [ofNats]]; rw [List.length_take, Nat.min_eq_left (show hh ≤ (ofNats (rAll rl rl.length)).length by omega)]; rfl) rfl ?_
            rintro _ w89 ⟨rfl, hx89⟩
            replace hS := hS.ext hx89
            replace hX := hX.tr hx89
            refine WL.nil ?_
            refine ⟨fun _ h => h.tr hx89, ?_⟩
            replace hI85 := hI85.tr hx89
            clear hX0
            refine WA.pures [26, 27] 3 (by kernel_rfl) ?_
            refine QL.y (fun wq hq => (R.pkT (v := .bool true) rfl rfl)) rfl ?_
            refine QL.y (fun wq hq => (R.mv (v := .bool true) rfl)) rfl ?_
            refine QL.nil ?_
            refine WA.one 28 2 (by kernel_rfl) ?_
            have hX0 := hX
            have hIz90 := hI85.size
            refine WL.call Try.func19 rfl rfl (awake19_calls _) rfl rfl ?_
            rintro _ w90 ⟨rfl, hx90⟩
            replace hS := hS.ext hx90
            replace hX := hX.tr hx90
            refine WL.nil ?_
            refine ⟨fun _ h => h.tr hx90, ?_⟩
            replace hI85 := hI85.tr hx90
            clear hX0
            refine WA.pures [29, 30] 0 (by kernel_rfl) ?_
            refine QL.y (fun wq hq => (R.pkT (v := .bool _) rfl rfl)) rfl ?_
            refine QL.y (fun wq hq => (R.asg (v := .bool _) rfl)) rfl ?_
            refine QL.nil ?_
            refine WA.done (by kernel_rfl) ?_
            refine W.ret ?_
            exact PR.r1 rfl (.tmp rfl) ⟨rfl, hX⟩
end Go.Proofs.Ytkjecokkdbapkaa
