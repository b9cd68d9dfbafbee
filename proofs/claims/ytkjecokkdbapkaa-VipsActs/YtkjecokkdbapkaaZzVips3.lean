import Derived.Test.YtkjecokkdbapkaaZzVips2
import Derived.Test.YtkjecokkdbapkaaProg
namespace Go.Proofs.Ytkjecokkdbapkaa
set_option linter.all false
open Go Go.Eng Go.RowKit
set_option maxRecDepth 20000
set_option maxHeartbeats 2000000
set_option linter.unusedVariables false
set_option linter.unusedSimpArgs false
attribute [local irreducible] WL W QL WA SP

def zc186 : List Value := [.int .u8 0, .bool false, .int .u8 0, .int .u8 0, .int .u8 0, .int .u8 0, .int .u8 0, .int .u8 0, .int .u8 0, .int .u8 0, .int .u8 0, .int .u8 0, .int .u8 0, .int .u8 0, .int .u8 0, .int .u8 0, .int .u8 0, .int .u8 0, .int .u16 0, .pointer none]
def zc189 : List Value := encCfg cfg0 ++ (List.replicate 16 (encVip ⟨0, adr0, 0⟩ ++ [.pointer none])).flatten ++ [.map none]
def pl186 : Nat → Option (Nat × Nat) := fun i => (#[(0, 19), (19, 1)] : Array (Nat × Nat))[i]?
theorem bld186 : Bld Try.prog 186 pl186 zc186 := ⟨_, fun parts w => by
  simp only [pl186, Instr.build, Sem.run_bind, Try.zeroValue186, Try.runUnderlying186, Result.andThen_ok, List.mapM_toArray, List.mapM_cons, List.mapM_nil, Try.sizeOf42, Try.sizeOf61, Sem.run_pure, Sem.run_map]
  rfl⟩
def pl189 : Nat → Option (Nat × Nat) := fun i => (#[(0, 48), (48, 320), (368, 1)] : Array (Nat × Nat))[i]?
theorem bld189 : Bld Try.prog 189 pl189 zc189 := ⟨_, fun parts w => by
  simp only [pl189, Instr.build, Sem.run_bind, Try.zeroValue189, Try.runUnderlying189, Result.andThen_ok, List.mapM_toArray, List.mapM_cons, List.mapM_nil, Try.sizeOf33, Try.sizeOf184, Try.sizeOf187, Sem.run_pure, Sem.run_map]
  rfl⟩
theorem siz187 : ∀ w, (sizeOf 187).run Try.prog w = .ok 320 w := Try.sizeOf187
theorem siz189 : ∀ w, (sizeOf 189).run Try.prog w = .ok 369 w := Try.sizeOf189

theorem TNew_zero (w : World) : CallV Try.prog 20 #[.agg (encCfg cfg0).toArray] w fun v w' => v = .tuple #[.pointer none, i64 1] ∧ Ext w w' := by
  have hX : Ext w w := Ext.rfl' w
  refine Calls.of_W (N := 14) Try.func20 rfl rfl rfl ?_
  refine W.reg ?_
  refine WL.box (v := .agg _) rfl rfl rfl ?_
  intro b1 w1 hb1 hs1 hx1 hB1
  have hge1 := hX.size
  replace hX := hX.tr hx1
  refine WL.y (R.asg (v := .pointer _) rfl) rfl ?_
  refine WL.y (R.asg (v := .int _ _) rfl) rfl ?_
  refine WL.nil ?_
  refine W.seq ?_
  refine W.reg ?_
  refine WL.y (R.loadA agg33 rfl (hB1).r rfl rfl) rfl ?_
  refine WL.call Try.func108 rfl rfl (check_zero _) rfl rfl ?_
  rintro _ w2 ⟨rfl, hx2⟩
  have hz2 := hx2.size
  replace hX := hX.tr hx2
  replace hB1 := hx2.blk hB1
  refine WL.y (R.asg (v := .int _ _) rfl) rfl ?_
  refine WL.nil ?_
  refine W.reg ?_
  refine WL.y (R.mv (v := .int _ _) rfl) rfl ?_
  refine WL.y (R.neqT rfl rfl (by decide)) rfl ?_
  refine WL.nil ?_
  refine W.cond_t rfl ?_
  refine W.reg ?_
  refine WL.y (R.mv (v := .int _ _) rfl) rfl ?_
  refine WL.y (R.asg (v := .pointer _) rfl) rfl ?_
  refine WL.y (R.asg (v := .int _ _) rfl) rfl ?_
  refine WL.nil ?_
  refine W.ret ?_
  exact PR.r2 rfl (.tmp rfl) (.tmp rfl) ⟨rfl, hX⟩

theorem tab_new {w : World} {bt bm : Nat} {c : Cfg} {N : Nat} (hc : CfgOK c) (hB : Blk w bt (encCfg c ++ (List.replicate 16 (encE none)).flatten ++ [.map (some bm)])) (hM : MapAt encVv w bm []) (h1 : N ≤ bt) (h2 : N ≤ bm) (hne : bt ≠ bm) :
    TabAt w (fun k => N ≤ k ∧ k < w.heap.size) bt c (List.replicate 16 none) := by
  have hno : ∀ (i : Nat) (e : Ent), (List.replicate 16 (none : Option Ent))[i]? = some (some e) → False := fun i e h => by
    have := List.mem_of_getElem? h
    rw [List.mem_replicate] at this
    cases this.2
  refine ⟨bm, _, [], fun _ _ => False, TabO.mk ⟨hB, by simp, Nat.le_of_ble_eq_true (by kernel_rfl), by kernel_rfl⟩ (by simp) (by kernel_rfl) (by kernel_rfl) (by kernel_rfl) hM (fun v => ?_) rfl
    (fun i j e e' h => (hno i e h).elim) (fun i e h => (hno i e h).elim) (fun i j k e e' h => (hno i e h).elim) ⟨h1, hB.lt⟩ ⟨h2, hM.lt⟩ hne (fun k hk => hk.2) hc⟩
  have : tIdx (List.replicate 16 none) v = -1 := idx_none fun i x hx => by
    cases x with
    | none => rfl
    | some e => exact (hno i e hx).elim
  rw [this]; rfl

theorem TNew_calls (c : Cfg) (hc : CfgOK c) (w : World) : CallV Try.prog 20 #[.agg (encCfg c).toArray] w fun v w' => (∃ bt, v = .tuple #[.pointer (some ⟨bt, 0, none⟩), i64 0] ∧ TabAt w' (fun k => w.heap.size ≤ k ∧ k < w'.heap.size) bt c (List.replicate 16 none)) ∧ Ext w w' := by
  have hX : Ext w w := Ext.rfl' w
  refine Calls.of_W (N := 14) Try.func20 rfl rfl rfl ?_
  refine W.reg ?_
  refine WL.box (v := .agg _) rfl rfl rfl ?_
  intro b1 w1 hb1 hs1 hx1 hB1
  have hge1 := hX.size
  replace hX := hX.tr hx1
  refine WL.y (R.asg (v := .pointer _) rfl) rfl ?_
  refine WL.y (R.asg (v := .int _ _) rfl) rfl ?_
  refine WL.nil ?_
  refine W.seq ?_
  refine W.reg ?_
  refine WL.y (R.loadA agg33 rfl (hB1).r rfl rfl) rfl ?_
  refine WL.call Try.func108 rfl rfl ((check_calls c hc _).val (y := i64 0) rfl) rfl rfl ?_
  rintro _ w2 ⟨rfl, hx2⟩
  have hz2 := hx2.size
  replace hX := hX.tr hx2
  replace hB1 := hx2.blk hB1
  refine WL.y (R.asg (v := .int _ _) rfl) rfl ?_
  refine WL.nil ?_
  refine W.reg ?_
  refine WL.y (R.mv (v := .int _ _) rfl) rfl ?_
  refine WL.y (R.neqF rfl rfl rfl) rfl ?_
  refine WL.nil ?_
  refine W.cond_f rfl ?_
  refine W.skip ?_
  refine W.reg ?_
  refine WL.y (R.loadA agg33 rfl (hB1).r rfl rfl) rfl ?_
  refine WL.makeMap encVv rfl ?_
  intro b3 w3 hb3 hs3 hx3 hB3
  have hge3 := hX.size
  replace hX := hX.tr hx3
  replace hB1 := hx3.blk hB1
  refine WL.y (R.buildE (parts := [(0, .tmp 10), (2, .tmp 11)]) (vs := encCfg c ++ (List.replicate 16 (encE none)).flatten ++ [.map (some b3)]) bld189 (by kernel_rfl) (by kernel_rfl)) rfl ?_
  refine WL.box (v := .agg _) rfl rfl rfl ?_
  intro b4 w4 hb4 hs4 hx4 hB4
  have hge4 := hX.size
  replace hX := hX.tr hx4
  replace hB1 := hx4.blk hB1
  replace hB3 := hx4.map hB3
  refine WL.y (R.asg (v := .pointer _) rfl) rfl ?_
  refine WL.y (R.asg (v := .int _ _) rfl) rfl ?_
  refine WL.nil ?_
  refine W.ret ?_
  exact PR.r2 rfl (.tmp rfl) (.tmp rfl) ⟨⟨b4, rfl, tab_new hc hB4 hB3 (by omega) (by omega) (by omega)⟩, hX⟩

theorem Remove_no (F : Nat → Prop) (bt : Nat) (c : Cfg) (l : List (Option Ent)) (w : World) (hT : TabAt w F bt c l) (i : Int) (hi : tHas l i = none) : CallV Try.prog 26 #[.pointer (some ⟨bt, 0, none⟩), i64 i] w fun r w' => r = i64 4 ∧ Ext w w' := by
  have hX : Ext w w := Ext.rfl' w
  obtain ⟨bm, cs, ml, Fs, H⟩ := hT
  have hA := H.arr
  have hl16 := H.len
  have hM := H.mp
  have hbt := hA.blk.lt
  have hbm := hM.lt
  refine Calls.of_W (N := 26) Try.func26 rfl rfl rfl ?_
  refine W.reg ?_
  refine WL.y (R.asg (v := .int _ _) rfl) rfl ?_
  refine WL.nil ?_
  refine W.seq ?_
  refine W.reg ?_
  refine WL.y (R.mv (v := .pointer _) rfl) rfl ?_
  refine WL.y (R.mv (v := .int _ _) rfl) rfl ?_
  refine WL.call Try.func114 rfl rfl ((has_calls F bt c l _ ⟨bm, cs, ml, Fs, H.ext hX⟩ i).val (y := bl false) (by rw [hi]; rfl)) rfl rfl ?_
  rintro _ w1 ⟨rfl, hx1⟩
  have hz1 := hx1.size
  replace hX := hX.tr hx1
  replace hA := hA.ext hx1
  replace hM := hx1.map hM
  refine WL.y (R.notF rfl) rfl ?_
  refine WL.nil ?_
  refine W.cond_t rfl ?_
  refine W.reg ?_
  refine WL.y (R.asg (v := .int _ _) rfl) rfl ?_
  refine WL.nil ?_
  refine W.ret ?_
  exact PR.r1 rfl (.tmp rfl) ⟨rfl, hX⟩

theorem Remove_yes (F : Nat → Prop) (bt : Nat) (c : Cfg) (l : List (Option Ent)) (w : World) (hT : TabAt w F bt c l) (k : Nat) (e : Ent) (hk : l[k]? = some (some e)) : CallV Try.prog 26 #[.pointer (some ⟨bt, 0, none⟩), i64 (k : Nat)] w fun r w' => r = i64 0 ∧ Upd F w w' ∧ TabAt w' F bt c (l.set k none) ∧ ∃ Fe, PoolAt w' Fe e.b c e.p ∧ ∀ k, Fe k → F k := by
  have hU : Upd F w w := Upd.rfl' F w
  have hX : Ext w w := Ext.rfl' w
  obtain ⟨bm, cs, ml, Fs, H⟩ := hT
  have hA := H.arr
  have hl16 := H.len
  have hM := H.mp
  have hbt := hA.blk.lt
  have hbm := hM.lt
  have hne := H.ne
  have hkl : k < l.length := (List.getElem?_eq_some_iff.1 hk).1
  have hUP : Upd (fun k => k = bt ∨ k = bm) w w := Upd.rfl' _ w
  refine Calls.of_W (N := 26) Try.func26 rfl rfl rfl ?_
  refine W.reg ?_
  refine WL.y (R.asg (v := .int _ _) rfl) rfl ?_
  refine WL.nil ?_
  refine W.seq ?_
  refine W.reg ?_
  refine WL.y (R.mv (v := .pointer _) rfl) rfl ?_
  refine WL.y (R.mv (v := .int _ _) rfl) rfl ?_
  refine WL.call Try.func114 rfl rfl ((has_calls F bt c l _ ⟨bm, cs, ml, Fs, H⟩ k).val (y := bl true) (by rw [tHas_at hk]; rfl)) rfl rfl ?_
  rintro _ w1 ⟨rfl, hx1⟩
  have hz1 := hx1.size
  replace hUP := hUP.tr (hx1.upd _)
  replace hU := hU.tr (hx1.upd _)
  replace hA := hA.ext hx1
  replace hM := hx1.map hM
  refine WL.y (R.notT rfl) rfl ?_
  refine WL.nil ?_
  refine W.cond_f rfl ?_
  refine W.skip ?_
  refine W.seq ?_
  refine W.draw (fun j => [11].contains j) (fun wI => Ext w1 wI) rfl ?_
  have hI2 := Ext.dr w1
  refine WA.batch [0, 1, 2, 3, 4, 5, 6, 7, 8, 9, 10] 1 (by kernel_rfl) hI2 ?_
  refine QL.y (fun wq hq => (R.mv (v := .pointer _) rfl)) rfl ?_
  refine QL.y (fun wq hq => (R.nilCheck rfl)) rfl ?_
  refine QL.y (fun wq hq => (R.fieldAddr fo189_2 rfl)) rfl ?_
  refine QL.y (fun wq hq => (R.load sca184 rfl (hq.blkR (hA.blk).r) H.map)) rfl ?_
  refine QL.y (fun wq hq => (R.mv (v := .pointer _) rfl)) rfl ?_
  refine QL.y (fun wq hq => (R.mv (v := .int _ _) rfl)) rfl ?_
  refine QL.y (fun wq hq => (R.nilCheck rfl)) rfl ?_
  refine QL.y (fun wq hq => (R.fieldAddr fo189_1 rfl)) rfl ?_
  refine QL.y (fun wq hq => (R.indexA Try.underlying187 siz186 rfl rfl (i := k) (by omega))) rfl ?_
  refine QL.y (fun wq hq => (R.fieldAddr fo186_0 rfl)) rfl ?_
  refine QL.y (fun wq hq => (R.loadA agg42 rfl (hq.blkR (hA.blk).r) (hA.fld encEE hk 0 19 (by decide)) rfl)) rfl ?_
  refine QL.nil ?_
  have hD2 := Ext.dr w1
  have hD2z := hD2.size
  replace hUP := hUP.tr (hD2.upd _)
  replace hU := hU.tr (hD2.upd _)
  replace hA := hA.ext hD2
  replace hM := hD2.map hM
  refine WA.chain [11] 0 (by kernel_rfl) ?_
  refine WL.delete keyVipL Try.underlying184 rfl hM (k := e.v) rfl rfl ?_
  intro w3 hu3 hz3 hn3
  replace hUP := hUP.tr (hu3.mono (fun k _ hk => by subst hk; first | exact .inl rfl | exact .inr rfl))
  replace hU := hU.tr (hu3.mono (fun k _ hk => by subst hk; first | exact H.ft | exact H.fm))
  replace hA := hA.updB hu3 (by omega)
  replace hM := hn3; clear hn3
  refine WL.nil ?_
  refine W.reg ?_
  refine WL.y (R.mv (v := .pointer _) rfl) rfl ?_
  refine WL.y (R.mv (v := .int _ _) rfl) rfl ?_
  refine WL.y (R.buildE (parts := []) (vs := encE none) bld186 (by kernel_rfl) (by kernel_rfl)) rfl ?_
  refine WL.y (R.nilCheck rfl) rfl ?_
  refine WL.y (R.fieldAddr fo189_1 rfl) rfl ?_
  refine WL.y (R.indexA Try.underlying187 siz186 rfl rfl (i := k) (by omega)) rfl ?_
  refine WL.store (v := .agg _) siz186 rfl rfl rfl rfl hA.blk (hA.bound (by omega)) rfl rfl ?_
  intro w4 hu4 hz4 hn4
  replace hUP := hUP.tr (hu4.mono (fun k _ hk => by subst hk; first | exact .inl rfl | exact .inr rfl))
  replace hU := hU.tr (hu4.mono (fun k _ hk => by subst hk; first | exact H.ft | exact H.fm))
  replace hM := hu4.map (by omega) hM
  replace hA := hA.put encEE (by omega) (none) hn4; clear hn4
  refine WL.nil ?_
  refine W.reg ?_
  refine WL.y (R.asg (v := .int _ _) rfl) rfl ?_
  refine WL.nil ?_
  refine W.ret ?_
  have hT := H.del hk hU.size hA hM (fun i q hq => (H.pool i q hq).1.upd hUP (fun k' hk' hs => by have := (H.pool i q hq).2 k' hk'; rcases hs with rfl | rfl <;> omega))
  exact PR.r1 rfl (.tmp rfl) ⟨rfl, hU, ⟨_, _, _, _, hT⟩, Fs k, (H.pool k e hk).1.upd hUP (fun k' hk' hs => by have := (H.pool k e hk).2 k' hk'; rcases hs with rfl | rfl <;> omega), fun k' hk' => ((H.pool k e hk).2 k' hk').1⟩
end Go.Proofs.Ytkjecokkdbapkaa
