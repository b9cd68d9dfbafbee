import Derived.Test.YtkjecokkdbapkaaZzRef8
import Derived.Test.YtkjecokkdbapkaaProg
namespace Go.Proofs.Ytkjecokkdbapkaa
set_option linter.all false
open Go Go.Eng Go.RowKit
set_option maxRecDepth 20000
set_option maxHeartbeats 2000000
set_option linter.unusedVariables false
set_option linter.unusedSimpArgs false
attribute [local irreducible] WL W QL WA SP

def zc75 : List Value := [.int .i64 0, .int .i64 0, .int .i64 0, .int .i64 0, .int .i64 0, .int .i64 0, .int .i64 0, .int .i64 0, .int .i64 0, .int .i64 0, .int .i64 0, .int .i64 0, .bool false, .bool false, .int .u8 0, .int .u8 0, .int .u8 0, .int .u8 0, .int .u8 0, .int .u8 0, .int .u8 0, .int .u8 0, .int .u8 0, .int .u8 0, .int .u8 0, .int .u8 0, .int .u8 0, .int .u8 0, .int .u8 0, .int .u8 0, .bool false, .int .u8 0, .int .u8 0, .int .u8 0, .int .u8 0, .int .u8 0, .int .u8 0, .int .u8 0, .int .u8 0, .int .u8 0, .int .u8 0, .int .u8 0, .int .u8 0, .int .u8 0, .int .u8 0, .int .u8 0, .int .u8 0, .int .u32 0, .slice none 0 0, .int .i64 0, .int .i64 0, .slice none 0 0]
def pl75 : Nat → Option (Nat × Nat) := fun i => (#[(0, 48), (48, 1), (49, 1), (50, 1), (51, 1)] : Array (Nat × Nat))[i]?
theorem bld75 : Bld Try.prog 75 pl75 zc75 := ⟨_, fun parts w => by
  simp only [pl75, Instr.build, Sem.run_bind, Try.zeroValue75, Try.runUnderlying75, Result.andThen_ok, List.mapM_toArray, List.mapM_cons, List.mapM_nil, Try.sizeOf3, Try.sizeOf33, Try.sizeOf52, Try.sizeOf73, Sem.run_pure, Sem.run_map]
  rfl⟩

theorem Star.raiseAt {U : Nat → Prop} {w : World} {L1 L2 : List Asr} {A : Asr} (h : Star U w (L1 ++ A :: L2)) : Star U w (A :: (L1 ++ L2)) := ⟨h.new, h.sep.out⟩

theorem _root_.Go.Eng.Star.raise1 {U : Nat → Prop} {w : World} {L : List Asr} {A0 A : Asr} (h : Star U w (A0 :: A :: L)) : Star U w (A :: A0 :: L) := Star.raiseAt (L1 := [A0]) h

theorem _root_.Go.Eng.Star.raise2 {U : Nat → Prop} {w : World} {L : List Asr} {A0 A1 A : Asr} (h : Star U w (A0 :: A1 :: A :: L)) : Star U w (A :: A0 :: A1 :: L) := Star.raiseAt (L1 := [A0, A1]) h

theorem _root_.Go.Eng.Star.raise3 {U : Nat → Prop} {w : World} {L : List Asr} {A0 A1 A2 A : Asr} (h : Star U w (A0 :: A1 :: A2 :: A :: L)) : Star U w (A :: A0 :: A1 :: A2 :: L) := Star.raiseAt (L1 := [A0, A1, A2]) h

theorem _root_.Go.Eng.Star.raise4 {U : Nat → Prop} {w : World} {L : List Asr} {A0 A1 A2 A3 A : Asr} (h : Star U w (A0 :: A1 :: A2 :: A3 :: A :: L)) : Star U w (A :: A0 :: A1 :: A2 :: A3 :: L) := Star.raiseAt (L1 := [A0, A1, A2, A3]) h

theorem _root_.Go.Eng.Star.raise5 {U : Nat → Prop} {w : World} {L : List Asr} {A0 A1 A2 A3 A4 A : Asr} (h : Star U w (A0 :: A1 :: A2 :: A3 :: A4 :: A :: L)) : Star U w (A :: A0 :: A1 :: A2 :: A3 :: A4 :: L) := Star.raiseAt (L1 := [A0, A1, A2, A3, A4]) h

theorem newapart {U : Nat → Prop} {w : World} {L : List Asr} {aS aM : Option Addr} {cS cM bp gl nv : Nat} {ds : List Dip} {ms : List Mem} {cells : List Value} {rs : List RR}
    (h : Star U w (sliA encDip 18 aS cS ds :: boxA bp cells :: slwA encMem 19 aM cM ms :: slwA encR 4 (some ⟨gl, 0, none⟩) nv rs :: L)) :
    (∀ k, ownsC aS cS k → U k ∧ k ≠ bp ∧ k ≠ gl) ∧ (∀ k, ownsC aM cM k → U k ∧ k ≠ bp ∧ k ≠ gl) ∧ bp ≠ gl ∧ U bp ∧ U gl := by
  obtain ⟨-, FS, ⟨-, rfl⟩, hSU, FP, ⟨-, rfl⟩, hPU, FM, ⟨-, rfl⟩, hMU, FV, ⟨-, rfl⟩, hVU, -⟩ := h
  have hb := hPU bp rfl
  have hg := hVU gl ((owns_some _ _).2 rfl)
  exact ⟨fun k hk => ⟨hSU k hk, fun e => hb.2 (e ▸ hk), fun e => hg.1.1.2 (e ▸ hk)⟩, fun k hk => ⟨(hMU k hk.1).1.1, fun e => (hMU k hk.1).2 e, fun e => hg.2 (e ▸ hk.1)⟩, fun e => hg.1.2 e.symm, hb.1, hg.1.1.1⟩

theorem rNew_bad (c : Cfg) (hc : CfgOK c) (ms : List Mem) (h63 : ms.length ≤ 1000000000) (a : Option Addr) (cc : Nat) (w : World) (hM : Sli encMem 19 w a cc ms) (hm : memsOK ms = false) : CallV Try.prog 33 #[.agg (encCfg c).toArray, .slice a ms.length cc] w fun v w' => v = .pointer none ∧ Ext w w' := by
  have hX : Ext w w := Ext.rfl' w
  have hU : ∀ k, (fun k => w.heap.size ≤ k) k → w.heap.size ≤ k := fun _ h => h
  have hS : Star (fun k => w.heap.size ≤ k) w [] := Star.nil fun _ h => h
  generalize (fun k => w.heap.size ≤ k) = U at hU hS
  refine Calls.of_W (N := 40) Try.func33 rfl rfl rfl ?_
  refine W.reg ?_
  refine WL.box (v := .agg _) rfl rfl rfl ?_
  intro b1 w1 hb1 hs1 hx1 hB1
  replace hS := hS.pushBox hb1 hx1 hB1
  replace hX := hX.tr hx1
  clear hB1 hs1
  refine WL.y (R.asg (v := .pointer _) rfl) rfl ?_
  refine WL.nil ?_
  refine W.seq ?_
  refine W.reg ?_
  refine WL.y (R.loadA agg33 rfl (hS.blk0).r rfl rfl) rfl ?_
  refine WL.call Try.func120 rfl rfl ((refCheck_calls c hc _).val (y := bl true) rfl) rfl rfl ?_
  rintro _ w2 ⟨rfl, hx2⟩
  replace hS := hS.ext hx2
  replace hX := hX.tr hx2
  refine WL.y (R.notT rfl) rfl ?_
  refine WL.y (R.mv (v := .bool false) rfl) rfl ?_
  refine WL.y (R.mv (v := .slice _ _ _) rfl) rfl ?_
  refine WL.call Try.func121 rfl rfl ((refMembers_calls ms (by omega) a cc _ (hM.ext hX)).val (y := bl false) (by rw [hm])) rfl rfl ?_
  rintro _ w3 ⟨rfl, hx3⟩
  replace hS := hS.ext hx3
  replace hX := hX.tr hx3
  refine WL.y (R.notF rfl) rfl ?_
  refine WL.y (R.pkF (v := .bool true) rfl rfl) rfl ?_
  refine WL.nil ?_
  refine W.cond_t rfl ?_
  refine W.reg ?_
  refine WL.y (R.asg (v := .pointer _) rfl) rfl ?_
  refine WL.nil ?_
  refine W.ret ?_
  exact PR.r1 rfl (.tmp rfl) ⟨rfl, hX⟩

theorem rNew_good (c : Cfg) (hc : CfgOK c) (ms : List Mem) (h63 : ms.length ≤ 1000000000) (a : Option Addr) (cc : Nat) (w : World) (hM : Sli encMem 19 w a cc ms) (hm : memsOK ms = true) : CallV Try.prog 33 #[.agg (encCfg c).toArray, .slice a ms.length cc] w fun v w' => (∃ b R', v = .pointer (some ⟨b, 0, none⟩) ∧ w.heap.size ≤ b ∧ RPool w' (fun k => w.heap.size ≤ k ∧ k < w'.heap.size) b c (pNew c ms) R') ∧ Ext w w' := by
  have hX : Ext w w := Ext.rfl' w
  have hU : ∀ k, (fun k => w.heap.size ≤ k) k → w.heap.size ≤ k := fun _ h => h
  have hS : Star (fun k => w.heap.size ≤ k) w [] := Star.nil fun _ h => h
  generalize (fun k => w.heap.size ≤ k) = U at hU hS
  obtain ⟨ns, hns⟩ : ∃ n : Nat, c.slots = n := ⟨c.slots.toNat, by have := hc.slots; omega⟩
  obtain ⟨nv, hnv⟩ : ∃ n : Nat, c.versions = n := ⟨c.versions.toNat, by have := hc.versions; omega⟩
  have hns2 : c.slots.toNat = ns := by omega
  have hnv2 : c.versions.toNat = nv := by omega
  have hvb := hc.versions
  have hsb := hc.slots
  have hml := memsOK_len hm
  refine Calls.of_W (N := 40) Try.func33 rfl rfl rfl ?_
  refine W.reg ?_
  refine WL.box (v := .agg _) rfl rfl rfl ?_
  intro b1 w1 hb1 hs1 hx1 hB1
  replace hS := hS.pushBox hb1 hx1 hB1
  replace hX := hX.tr hx1
  clear hB1 hs1
  refine WL.y (R.asg (v := .pointer _) rfl) rfl ?_
  refine WL.nil ?_
  refine W.seq ?_
  refine W.reg ?_
  refine WL.y (R.loadA agg33 rfl (hS.blk0).r rfl rfl) rfl ?_
  refine WL.call Try.func120 rfl rfl ((refCheck_calls c hc _).val (y := bl true) rfl) rfl rfl ?_
  rintro _ w2 ⟨rfl, hx2⟩
  replace hS := hS.ext hx2
  replace hX := hX.tr hx2
  refine WL.y (R.notT rfl) rfl ?_
  refine WL.y (R.mv (v := .bool false) rfl) rfl ?_
  refine WL.y (R.mv (v := .slice _ _ _) rfl) rfl ?_
  refine WL.call Try.func121 rfl rfl ((refMembers_calls ms (by omega) a cc _ (hM.ext hX)).val (y := bl true) (by rw [hm])) rfl rfl ?_
  rintro _ w3 ⟨rfl, hx3⟩
  replace hS := hS.ext hx3
  replace hX := hX.tr hx3
  refine WL.y (R.notT rfl) rfl ?_
  refine WL.y (R.pkF (v := .bool false) rfl rfl) rfl ?_
  refine WL.nil ?_
  refine W.cond_f rfl ?_
  refine W.skip ?_
  refine W.seqX (ι := Nat × Nat × Option Addr × Nat) [(5, 6), (16, 25)] (fun q => [(5, .pointer (some ⟨q.1, 0, none⟩))]) (fun q w' => (True) ∧ Ext w w' ∧ Star U w' [boxA q.1 (encCfg c ++ [.slice (some ⟨q.2.1, 0, none⟩) nv nv, i64 0, i64 0, .slice q.2.2.1 ms.length q.2.2.2]), slwA encMem 19 q.2.2.1 q.2.2.2 ms, slwA encR 4 (some ⟨q.2.1, 0, none⟩) nv (List.replicate nv rr0), boxA b1 (encCfg c)]) ?_ ?_
  · skip
    refine W.draw (fun j => [1000].contains j) (fun wI => Ext w3 wI) rfl ?_
    have hI4 := Ext.dr w3
    refine WA.batch [0, 1, 2, 5] 6 (by kernel_rfl) hI4 ?_
    refine QL.y (fun wq hq => (R.loadA agg33 rfl (hq.blkR (hS.blk0).r) rfl rfl)) rfl ?_
    refine QL.y (fun wq hq => (R.fieldAddr fo33_6 rfl)) rfl ?_
    refine QL.y (fun wq hq => (R.load sca3 rfl (hq.blkR (hS.blk0).r) rfl)) rfl ?_
    refine QL.y (fun wq hq => (R.mv (v := .slice _ _ _) rfl)) rfl ?_
    refine QL.nil ?_
    have hD4 := Ext.dr w3
    have hD4z := hD4.size
    have hS0 := hS
    have hXo := hX
    replace hS := hS.ext hD4
    replace hX := hX.tr hD4
    refine WA.both 3 4 5 (by kernel_rfl) ?_ ?_
    · skip
      have hX0 := hX
      have hIz5 := hI4.size
      refine WL.makeSlice el73_211 (congrArg (Value.int .i64) hnv) (congrArg (Value.int .i64) hnv) (by omega) (by omega) rfl ?_
      intro b5 w5 hb5 hs5 hx5 hB5
      have hL5 := (SlO.made encRE rr0 rfl hB5).cl
      replace hS := hS.pushSlw hx5 hL5 (fun k hk => by rw [owns_some] at hk; simp only at hk; omega)
      replace hX := hX.tr hx5
      clear hL5 hB5 hs5
      refine WL.nil ?_
      refine ⟨fun _ h => h.tr hx5, ?_⟩
      replace hI4 := hI4.tr hx5
      clear hX0
      refine WA.one 4 4 (by kernel_rfl) ?_
      have hX0 := hX
      have hIz6 := hI4.size
      refine WL.buildSlice0 el52_57 (by decide) rfl ?_
      intro b6 w6 hb6 hs6 hx6 hB6
      have hL6 : Slw encMem 19 w6 (some ⟨b6, 0, none⟩) 0 [] := Slw.zero hB6
      replace hS := hS.pushSlw hx6 hL6 (fun k hk => by rw [owns_some] at hk; simp only at hk; omega)
      replace hX := hX.tr hx6
      clear hL6 hB6 hs6
      refine WL.nil ?_
      refine ⟨fun _ h => h.tr hx6, ?_⟩
      replace hI4 := hI4.tr hx6
      clear hX0
      refine WA.one 6 3 (by kernel_rfl) ?_
      have hX0 := hX
      have hIz7 := hI4.size
      refine WL.appendS el52_57 encM rfl rfl (hS.slw0) (by first | rfl | omega | (simp; done) | (simp; omega)) (hM.ext hX) (by first | rfl | omega | (simp; done) | (simp; omega)) (by first | omega | (simp; omega)) (by first | omega | (simp; omega)) rfl ?_
      intro a7 c7 w7 hu7 hl7 hf7
      have hxa7 := hI4.putU hu7 (fun k hk => by rw [owns_some] at hk; simp only at hk; omega)
      have hN := hS.app0 hu7 hl7 hf7
      replace hS := hN.1
      replace hX := hN.2 _ hX hU
      clear hN hu7 hl7 hf7
      refine WL.nil ?_
      refine ⟨fun _ _ => hxa7, ?_⟩
      replace hI4 := hxa7
      clear hX0
      refine WA.pures [7] 2 (by kernel_rfl) ?_
      refine QL.y (fun wq hq => (R.buildE (parts := [(0, .tmp 16), (1, .tmp 19), (4, .tmp 22)]) (vs := encCfg c ++ [.slice (some ⟨b5, 0, none⟩) nv nv, i64 0, i64 0, .slice a7 (0 + ms.length) c7]) bld75 (by kernel_rfl) (by kernel_rfl))) rfl ?_
      refine QL.nil ?_
      refine WA.one 8 1 (by kernel_rfl) ?_
      have hX0 := hX
      have hIz8 := hI4.size
      refine WL.box (v := .agg _) rfl rfl rfl ?_
      intro b8 w8 hb8 hs8 hx8 hB8
      replace hS := hS.pushBox hb8 hx8 hB8
      replace hX := hX.tr hx8
      clear hB8 hs8
      refine WL.nil ?_
      refine ⟨fun _ h => h.tr hx8, ?_⟩
      replace hI4 := hI4.tr hx8
      clear hX0
      refine WA.pures [9] 0 (by kernel_rfl) ?_
      refine QL.y (fun wq hq => (R.asg (v := .pointer _) rfl)) rfl ?_
      refine QL.nil ?_
      refine WA.done (by kernel_rfl) ?_
      rw [show (0 : Nat) + ms.length = ms.length from Nat.zero_add _] at hS
      exact ⟨⟨b8, b5, a7, c7⟩, (by repeat (first | exact Same.rfl' _ _ | refine Same.set _ rfl ?_ | refine Same.over' _ rfl ?_ | refine Same.sets rfl ?_)), ⟨rfl, trivial⟩, rfl, trivial, hX, hS⟩
    · skip
      have hX0 := hX
      have hIz9 := hI4.size
      refine WL.buildSlice0 el52_57 (by decide) rfl ?_
      intro b9 w9 hb9 hs9 hx9 hB9
      have hL9 : Slw encMem 19 w9 (some ⟨b9, 0, none⟩) 0 [] := Slw.zero hB9
      replace hS := hS.pushSlw hx9 hL9 (fun k hk => by rw [owns_some] at hk; simp only at hk; omega)
      replace hX := hX.tr hx9
      clear hL9 hB9 hs9
      refine WL.nil ?_
      refine ⟨fun _ h => h.tr hx9, ?_⟩
      replace hI4 := hI4.tr hx9
      clear hX0
      refine WA.both 3 6 4 (by kernel_rfl) ?_ ?_
      · skip
        have hX0 := hX
        have hIz10 := hI4.size
        refine WL.makeSlice el73_211 (congrArg (Value.int .i64) hnv) (congrArg (Value.int .i64) hnv) (by omega) (by omega) rfl ?_
        intro b10 w10 hb10 hs10 hx10 hB10
        have hL10 := (SlO.made encRE rr0 rfl hB10).cl
        replace hS := hS.pushSlw hx10 hL10 (fun k hk => by rw [owns_some] at hk; simp only at hk; omega)
        replace hX := hX.tr hx10
        clear hL10 hB10 hs10
        refine WL.nil ?_
        refine ⟨fun _ h => h.tr hx10, ?_⟩
        replace hI4 := hI4.tr hx10
        clear hX0
        refine WA.one 6 3 (by kernel_rfl) ?_
        have hX0 := hX
        have hIz11 := hI4.size
        refine WL.appendS el52_57 encM rfl rfl (hS.slw1) (by first | rfl | omega | (simp; done) | (simp; omega)) (hM.ext hX) (by first | rfl | omega | (simp; done) | (simp; omega)) (by first | omega | (simp; omega)) (by first | omega | (simp; omega)) rfl ?_
        intro a11 c11 w11 hu11 hl11 hf11
        have hxa11 := hI4.putU hu11 (fun k hk => by rw [owns_some] at hk; simp only at hk; omega)
        have hN := hS.app1 hu11 hl11 hf11
        replace hS := hN.1
        replace hX := hN.2 _ hX hU
        clear hN hu11 hl11 hf11
        refine WL.nil ?_
        refine ⟨fun _ _ => hxa11, ?_⟩
        replace hI4 := hxa11
        clear hX0
        refine WA.pures [7] 2 (by kernel_rfl) ?_
        refine QL.y (fun wq hq => (R.buildE (parts := [(0, .tmp 16), (1, .tmp 19), (4, .tmp 22)]) (vs := encCfg c ++ [.slice (some ⟨b10, 0, none⟩) nv nv, i64 0, i64 0, .slice a11 (0 + ms.length) c11]) bld75 (by kernel_rfl) (by kernel_rfl))) rfl ?_
        refine QL.nil ?_
        refine WA.one 8 1 (by kernel_rfl) ?_
        have hX0 := hX
        have hIz12 := hI4.size
        refine WL.box (v := .agg _) rfl rfl rfl ?_
        intro b12 w12 hb12 hs12 hx12 hB12
        replace hS := hS.pushBox hb12 hx12 hB12
        replace hX := hX.tr hx12
        clear hB12 hs12
        refine WL.nil ?_
        refine ⟨fun _ h => h.tr hx12, ?_⟩
        replace hI4 := hI4.tr hx12
        clear hX0
        refine WA.pures [9] 0 (by kernel_rfl) ?_
        refine QL.y (fun wq hq => (R.asg (v := .pointer _) rfl)) rfl ?_
        refine QL.nil ?_
        refine WA.done (by kernel_rfl) ?_
        rw [show (0 : Nat) + ms.length = ms.length from Nat.zero_add _] at hS
        replace hS := hS.raise3
        replace hS := hS.raise2
        replace hS := hS.raise3
        replace hS := hS.raise3
        exact ⟨⟨b12, b10, a11, c11⟩, (by repeat (first | exact Same.rfl' _ _ | refine Same.set _ rfl ?_ | refine Same.over' _ rfl ?_ | refine Same.sets rfl ?_)), ⟨rfl, trivial⟩, rfl, trivial, hX, hS⟩
      · skip
        have hX0 := hX
        have hIz13 := hI4.size
        refine WL.appendS el52_57 encM rfl rfl (hS.slw0) (by first | rfl | omega | (simp; done) | (simp; omega)) (hM.ext hX) (by first | rfl | omega | (simp; done) | (simp; omega)) (by first | omega | (simp; omega)) (by first | omega | (simp; omega)) rfl ?_
        intro a13 c13 w13 hu13 hl13 hf13
        have hxa13 := hI4.putU hu13 (fun k hk => by rw [owns_some] at hk; simp only at hk; omega)
        have hN := hS.app0 hu13 hl13 hf13
        replace hS := hN.1
        replace hX := hN.2 _ hX hU
        clear hN hu13 hl13 hf13
        refine WL.nil ?_
        refine ⟨fun _ _ => hxa13, ?_⟩
        replace hI4 := hxa13
        clear hX0
        refine WA.one 3 3 (by kernel_rfl) ?_
        have hX0 := hX
        have hIz14 := hI4.size
        refine WL.makeSlice el73_211 (congrArg (Value.int .i64) hnv) (congrArg (Value.int .i64) hnv) (by omega) (by omega) rfl ?_
        intro b14 w14 hb14 hs14 hx14 hB14
        have hL14 := (SlO.made encRE rr0 rfl hB14).cl
        replace hS := hS.pushSlw hx14 hL14 (fun k hk => by rw [owns_some] at hk; simp only at hk; omega)
        replace hX := hX.tr hx14
        clear hL14 hB14 hs14
        refine WL.nil ?_
        refine ⟨fun _ h => h.tr hx14, ?_⟩
        replace hI4 := hI4.tr hx14
        clear hX0
        refine WA.pures [7] 2 (by kernel_rfl) ?_
        refine QL.y (fun wq hq => (R.buildE (parts := [(0, .tmp 16), (1, .tmp 19), (4, .tmp 22)]) (vs := encCfg c ++ [.slice (some ⟨b14, 0, none⟩) nv nv, i64 0, i64 0, .slice a13 (0 + ms.length) c13]) bld75 (by kernel_rfl) (by kernel_rfl))) rfl ?_
        refine QL.nil ?_
        refine WA.one 8 1 (by kernel_rfl) ?_
        have hX0 := hX
        have hIz15 := hI4.size
        refine WL.box (v := .agg _) rfl rfl rfl ?_
        intro b15 w15 hb15 hs15 hx15 hB15
        replace hS := hS.pushBox hb15 hx15 hB15
        replace hX := hX.tr hx15
        clear hB15 hs15
        refine WL.nil ?_
        refine ⟨fun _ h => h.tr hx15, ?_⟩
        replace hI4 := hI4.tr hx15
        clear hX0
        refine WA.pures [9] 0 (by kernel_rfl) ?_
        refine QL.y (fun wq hq => (R.asg (v := .pointer _) rfl)) rfl ?_
        refine QL.nil ?_
        refine WA.done (by kernel_rfl) ?_
        rw [show (0 : Nat) + ms.length = ms.length from Nat.zero_add _] at hS
        replace hS := hS.raise3
        replace hS := hS.raise2
        replace hS := hS.raise3
        replace hS := hS.raise3
        exact ⟨⟨b15, b14, a13, c13⟩, (by repeat (first | exact Same.rfl' _ _ | refine Same.set _ rfl ?_ | refine Same.over' _ rfl ?_ | refine Same.sets rfl ?_)), ⟨rfl, trivial⟩, rfl, trivial, hX, hS⟩
  · skip
    rintro ⟨bp, gl, aM, cM⟩ j1 w_1 ⟨-, hX, hS⟩
    dsimp only at hX hS ⊢
    refine W.reg ?_
    refine WL.y (R.mv (v := .slice _ _ _) rfl) rfl ?_
    refine WL.y (R.fieldAddr fo33_5 rfl) rfl ?_
    refine WL.y (R.load sca3 rfl (hS.blk3).r rfl) rfl ?_
    refine WL.call (vs := [.slice none 0 0, .slice a ms.length cc, i64 ((ns : Nat) : Int)]) Try.func122 rfl rfl (refFill_calls [] ms ns none a 0 cc _ (Sli.nil _ _ _) (hM.ext hX) (by omega) hm (.inl rfl)) (by rw [← hns]; rfl) rfl ?_
    rintro _ w16 ⟨⟨a16, c16, rfl, hl16, hf16⟩, hx16⟩
    replace hS := hS.pushSli hx16 hl16 hf16
    replace hX := hX.tr hx16
    refine WL.y (R.mv (v := .tuple _) rfl) rfl ?_
    refine WL.y (R.extract rfl rfl) rfl ?_
    refine WL.y (R.extract rfl rfl) rfl ?_
    refine WL.y (R.asg (v := .slice _ _ _) rfl) rfl ?_
    refine WL.y (R.asg (v := .int _ _) rfl) rfl ?_
    refine WL.nil ?_
    refine W.reg ?_
    refine WL.y (R.mv (v := .pointer _) rfl) rfl ?_
    refine WL.y (R.nilCheck rfl) rfl ?_
    refine WL.y (R.fieldAddr fo75_1 rfl) rfl ?_
    refine WL.y (R.load sca73 rfl (hS.blk1).r rfl) rfl ?_
    refine WL.y (R.mv (v := .slice _ _ _) rfl) rfl ?_
    refine WL.y (R.buildE (parts := [(0, .const (.bool true)), (3, .tmp 36)]) (vs := encR ⟨true, false, 0, a16, (fill [] ms ns).length, c16⟩) bld211 (by kernel_rfl) (by kernel_rfl)) rfl ?_
    obtain ⟨cs1, hO1⟩ := (hS.slw3).op2 (by first | omega | (simp; done) | (simp; omega))
    obtain ⟨r, hr_1⟩ : ∃ x_, (List.replicate nv rr0)[0]? = some x_ := ⟨_, List.getElem?_eq_getElem (by first | omega | (simp; done) | (simp; omega))⟩
    refine WL.y (R.indexS (i := 0) Try.underlying73 siz211 rfl rfl rfl (by first | omega | (simp; done) | (simp; omega))) rfl ?_
    refine WL.store (v := .agg _) siz211 rfl rfl rfl rfl hO1.blk (hO1.bound (List.getElem?_eq_some_iff.1 hr_1).1) rfl rfl ?_
    intro w17 hu17 hz17 hn17
    have hQ := hO1.put encRE (List.getElem?_eq_some_iff.1 hr_1).1 (⟨true, false, 0, a16, (fill [] ms ns).length, c16⟩ : RR) hn17
    have hN := hS.app3 (hu17.mono fun k _ h => (owns_some _ k).2 h) hQ.cl (.inl rfl)
    replace hS := hN.1
    replace hX := hN.2 _ hX hU
    clear hN hQ hn17 hu17 hz17
    refine WL.nil ?_
    refine W.reg ?_
    refine WL.y (R.mv (v := .pointer _) rfl) rfl ?_
    refine WL.y (R.asg (v := .pointer _) rfl) rfl ?_
    refine WL.nil ?_
    refine W.ret ?_
    replace hS := hS.raise3
    replace hS := hS.raise3
    replace hS := hS.raise3
    replace hS := hS.raise3
    obtain ⟨hoS, hoM, hne, hub, hug⟩ := newapart hS
    have hBk := hS.blk1
    have hSM := (hS.slw2).ro
    have hSS := hS.sli0
    obtain ⟨csV, hV⟩ := (hS.slw3).op2 (by simp; omega)
    have hvl : (pNew c ms).vs.length = nv := by simp [pNew, hnv2]
    have hsl : (pNew c ms).sl = fill [] ms ns := by simp [pNew, hns2]
    have hRP : RPool w17 (fun k => w.heap.size ≤ k ∧ k < w17.heap.size) bp c (pNew c ms) ⟨gl, nv, (List.replicate nv rr0).set 0 ⟨true, false, 0, a16, (fill [] ms ns).length, c16⟩, aM, cM, 0⟩ := {
      blk := by rw [hvl]; exact hBk
      vers := ⟨_, hV⟩
      len := by rw [hvl]; simp
      each := fun i r v h1 h2 => by
        simp only [pNew, hnv2, hns2] at h2
        rcases set_get h1 with ⟨rfl, rfl⟩ | ⟨hi, h1⟩
        · rcases set_get h2 with ⟨_, rfl⟩ | ⟨hi, _⟩
          · exact ⟨rfl, rfl, rfl, hSS, fun k hk => ⟨⟨hU k (hoS k hk).1, hSS.lt k hk⟩, (hoS k hk).2⟩⟩
          · exact absurd rfl hi
        · rcases set_get h2 with ⟨e, _⟩ | ⟨_, h2⟩
          · exact absurd e hi
          · rw [List.getElem?_replicate] at h1 h2
            split at h1
            · cases h1
              rename_i hlt'
              rw [if_pos hlt'] at h2
              cases h2
              exact ⟨rfl, rfl, rfl, Sli.nil _ _ _, fun k hk => absurd hk.1 (owns_none k)⟩
            · cases h1
      last := hSM
      ownM := fun k hk => ⟨⟨hU k (hoM k hk).1, hSM.lt k hk⟩, (hoM k hk).2⟩
      fb := ⟨hU _ hub, hBk.lt⟩
      fg := ⟨hU _ hug, hV.blk.lt⟩
      ne := hne
      lt := fun k hk => hk.2
      v64 := by rw [hvl]; omega
      l32 := memsOK_len hm
      sv := fun v hv => by
        simp only [pNew, hnv2, hns2] at hv
        rcases mem_set_or hv with hv | rfl
        · rw [List.mem_replicate] at hv
          rw [hv.2]; simp [ver0]
        · exact fill_le (by omega) hm
      ok := hc
      nn := ⟨Int.le_refl _, by show (0 : Int) < ((pNew c ms).vs.length : Nat); rw [hvl]; omega⟩
      li := ⟨_, by simp only [pNew]; exact List.getElem?_set_self (by simp; omega), rfl⟩
      s0 := by rw [hsl, hns2]; by_cases h0 : ms.length = 0; exact .inl (by simp [fill, h0]); exact .inr (fill_length (by omega) hm (by omega)) }
    exact PR.r1 rfl (.tmp rfl) ⟨⟨bp, _, rfl, hU _ hub, hRP⟩, hX⟩
end Go.Proofs.Ytkjecokkdbapkaa
