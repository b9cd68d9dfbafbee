import Derived.Test.YtkjecokkdbapkaaZzRef7
import Derived.Test.YtkjecokkdbapkaaProg
namespace Go.Proofs.Ytkjecokkdbapkaa
set_option linter.all false
open Go Go.Eng Go.RowKit
set_option maxRecDepth 20000
set_option maxHeartbeats 2000000
set_option linter.unusedVariables false
set_option linter.unusedSimpArgs false
attribute [local irreducible] WL W QL WA SP

theorem fo75_0 : FO Try.prog 75 0 0 := fun a w => by kernel_rfl
theorem fo75_3 : FO Try.prog 75 3 50 := fun a w => by kernel_rfl
theorem fo75_4 : FO Try.prog 75 4 51 := fun a w => by kernel_rfl

theorem rReserve_bad (F : Nat → Prop) (b : Nat) (c : Cfg) (p : PSt) (rx : RX) (w : World) (H : RPool w F b c p rx) (ms : List Mem) (a : Option Addr) (cc : Nat) (hS : Sli encMem 19 w a cc ms) (h63 : ms.length ≤ 1000000000) (hm : memsOK ms = false) : CallV Try.prog 36 #[.pointer (some ⟨b, 0, none⟩), .slice a ms.length cc] w fun r w' => r = .tuple #[i64 0, i64 1] ∧ Ext w w' := by
  have hX : Ext w w := Ext.rfl' w
  obtain ⟨csl, hV⟩ := H.vers
  have hBp := H.blk
  have hlen := H.len
  have h16 := H.v64
  have hSl := hS.lt
  have hSr := hS
  refine Calls.of_W (N := 64) Try.func36 rfl rfl rfl ?_
  refine W.reg ?_
  refine WL.y (R.asg (v := .int _ _) rfl) rfl ?_
  refine WL.y (R.asg (v := .int _ _) rfl) rfl ?_
  refine WL.nil ?_
  refine W.seq ?_
  refine W.reg ?_
  refine WL.y (R.mv (v := .slice _ _ _) rfl) rfl ?_
  refine WL.call Try.func121 rfl rfl ((refMembers_calls ms (by omega) a cc _ hS).val (y := bl false) (by rw [hm])) rfl rfl ?_
  rintro _ w1 ⟨rfl, hx1⟩
  have hz1 := hx1.size
  replace hX := hX.tr hx1
  replace hBp := hx1.blk hBp
  replace hV := hV.ext hx1
  replace hS := hS.ext hx1
  refine WL.y (R.notF rfl) rfl ?_
  refine WL.nil ?_
  refine W.cond_t rfl ?_
  refine W.reg ?_
  refine WL.y (R.asg (v := .int _ _) rfl) rfl ?_
  refine WL.y (R.asg (v := .int _ _) rfl) rfl ?_
  refine WL.nil ?_
  refine W.ret ?_
  exact PR.r2 rfl (.tmp rfl) (.tmp rfl) ⟨rfl, hX⟩

theorem rReserve_full (F : Nat → Prop) (b : Nat) (c : Cfg) (p : PSt) (rx : RX) (w : World) (H : RPool w F b c p rx) (ms : List Mem) (a : Option Addr) (cc : Nat) (hS : Sli encMem 19 w a cc ms) (hm : memsOK ms = true) (hf : pFirst p = p.vs.length) : CallV Try.prog 36 #[.pointer (some ⟨b, 0, none⟩), .slice a ms.length cc] w fun r w' => r = .tuple #[i64 0, i64 3] ∧ Ext w w' := by
  have hX : Ext w w := Ext.rfl' w
  obtain ⟨csl, hV⟩ := H.vers
  have hBp := H.blk
  have hlen := H.len
  have h16 := H.v64
  have hSl := hS.lt
  have hSr := hS
  refine Calls.of_W (N := 64) Try.func36 rfl rfl rfl ?_
  refine W.reg ?_
  refine WL.y (R.asg (v := .int _ _) rfl) rfl ?_
  refine WL.y (R.asg (v := .int _ _) rfl) rfl ?_
  refine WL.nil ?_
  refine W.seq ?_
  refine W.reg ?_
  refine WL.y (R.mv (v := .slice _ _ _) rfl) rfl ?_
  refine WL.call Try.func121 rfl rfl ((refMembers_calls ms (by have := memsOK_len hm; omega) a cc _ hS).val (y := bl true) (by rw [hm])) rfl rfl ?_
  rintro _ w1 ⟨rfl, hx1⟩
  have hz1 := hx1.size
  replace hX := hX.tr hx1
  replace hBp := hx1.blk hBp
  replace hV := hV.ext hx1
  replace hS := hS.ext hx1
  refine WL.y (R.notT rfl) rfl ?_
  refine WL.nil ?_
  refine W.cond_f rfl ?_
  refine W.skip ?_
  refine W.seq ?_
  refine W.reg ?_
  refine WL.y (R.asg (v := .int _ _) rfl) rfl ?_
  refine WL.nil ?_
  refine W.block ?_
  refine W.loopS (ι := Nat) [(4, 9), (12, 64)] (fun v => [(6, i64 (v : Nat))]) (fun v => p.vs.length - v) (fun v w' => Ext w w' ∧ v ≤ p.vs.length ∧ ∀ j, j < v → pLive p (j : Nat) = true) 0 ⟨rfl, trivial⟩ ⟨hX, Nat.zero_le _, fun j hj => absurd hj (by omega)⟩ ?_
  rintro v j wl ⟨hX, hv, hall⟩
  have hBp := hX.blk H.blk
  refine W.seq ?_
  refine W.reg ?_
  refine WL.y (R.mv (v := .int _ _) rfl) rfl ?_
  refine WL.y (R.mv (v := .pointer _) rfl) rfl ?_
  refine WL.y (R.nilCheck rfl) rfl ?_
  refine WL.y (R.fieldAddr fo75_1 rfl) rfl ?_
  refine WL.y (R.load sca73 rfl (hBp).r rfl) rfl ?_
  refine WL.y (R.lenS Try.underlying73 rfl) rfl ?_
  refine WL.fork (R.lss rfl rfl) rfl (fun hc4_6 => ?_) (fun hc4_6 => ?_)
  · skip
    replace hc4_6 := of_decide_eq_true hc4_6
    refine WL.nil ?_
    refine W.cond_t rfl ?_
    refine W.skip ?_
    refine W.seq ?_
    refine W.block ?_
    refine W.seq ?_
    refine W.reg ?_
    refine WL.y (R.mv (v := .pointer _) rfl) rfl ?_
    refine WL.y (R.mv (v := .int _ _) rfl) rfl ?_
    refine WL.call Try.func124 rfl rfl (CallV.fork (rlive_calls F b c p rx _ (H.ext hX) (v : Nat))) rfl rfl ?_
    rintro _ w2 (⟨hc6_2, rfl, hx2⟩ | ⟨hc6_2, rfl, hx2⟩)
    · skip
      have hz2 := hx2.size
      replace hX := hX.tr hx2
      replace hBp := hx2.blk hBp
      skip
      refine WL.nil ?_
      refine W.cond_t rfl ?_
      refine W.exit ?_
      refine W.region ?_
      refine WL.y (R.mv (v := .int _ _) rfl) rfl ?_
      refine WL.y (R.addI rfl rfl (by omega)) rfl ?_
      refine WL.y (R.asg (v := .int _ _) rfl) rfl ?_
      refine WL.nil ?_
      exact ⟨v + 1, (by omega), (by repeat (first | exact Same.rfl' _ _ | refine Same.set _ rfl ?_ | refine Same.over' _ rfl ?_ | refine Same.sets rfl ?_)), ⟨rfl, trivial⟩, rfl, hX, by omega, fun j hj => by rcases Nat.lt_or_ge j v with h | h; exact hall j h; (obtain rfl : j = v := by omega); exact hc6_2⟩
    · skip
      have hz2 := hx2.size
      replace hX := hX.tr hx2
      replace hBp := hx2.blk hBp
      have hpf := pFirst_eq hv hall hc6_2
      omega
  · skip
    replace hc4_6 := of_decide_eq_false hc4_6
    refine WL.nil ?_
    refine W.cond_f rfl ?_
    refine W.exit ?_
    refine W.reg ?_
    refine WL.y (R.asg (v := .int _ _) rfl) rfl ?_
    refine WL.y (R.asg (v := .int _ _) rfl) rfl ?_
    refine WL.nil ?_
    refine W.ret ?_
    exact PR.r2 rfl (.tmp rfl) (.tmp rfl) ⟨rfl, hX⟩

theorem rReserve_ok (F : Nat → Prop) (b : Nat) (c : Cfg) (p : PSt) (rx : RX) (w : World) (H : RPool w F b c p rx) (ms : List Mem) (a : Option Addr) (cc : Nat) (hS : Sli encMem 19 w a cc ms) (hdis : ∀ k, ownsC a cc k → ¬ F k) (hm : memsOK ms = true) (hf : pFirst p < p.vs.length) : CallV Try.prog 36 #[.pointer (some ⟨b, 0, none⟩), .slice a ms.length cc] w fun r w' => ∃ F2 R', r = .tuple #[i64 (pFirst p : Nat), i64 0] ∧ Upd F w w' ∧ RPool w' F2 b c (pReserve c p ms) R' ∧ ∀ k, F2 k → F k ∨ w.heap.size ≤ k := by
  have hX : Ext w w := Ext.rfl' w
  obtain ⟨csl, hV⟩ := H.vers
  have hBp := H.blk
  have hlen := H.len
  have h16 := H.v64
  have hSl : ∀ k, ownsC a cc k → k < w.heap.size ∧ k ≠ b ∧ k ≠ rx.gl := fun k hk => ⟨hS.lt k hk, fun e => hdis k hk (e ▸ H.fb), fun e => hdis k hk (e ▸ H.fg)⟩
  have hSr := hS
  have hne := H.ne
  obtain ⟨ns, hns⟩ : ∃ n : Nat, c.slots = n := ⟨c.slots.toNat, by have := H.ok.slots; omega⟩
  have hns2 : c.slots.toNat = ns := by omega
  have hsb := H.ok.slots
  have hlt0 := H.lt
  obtain ⟨v0, hv0, hs0⟩ := H.li
  have hlil := (List.getElem?_eq_some_iff.1 hv0).1
  obtain ⟨r0, hr0⟩ : ∃ r, rx.rvs[rx.li]? = some r := ⟨_, List.getElem?_eq_getElem (by omega)⟩
  obtain ⟨-, -, e30, hO0, e50⟩ := H.each _ r0 v0 hr0 hv0
  rw [hs0] at hO0 e30
  have en0 : Value.slice r0.a r0.n r0.c = .slice r0.a p.sl.length r0.c := by rw [e30]
  have hml := memsOK_len hm
  refine Calls.of_W (N := 64) Try.func36 rfl rfl rfl ?_
  refine W.reg ?_
  refine WL.y (R.asg (v := .int _ _) rfl) rfl ?_
  refine WL.y (R.asg (v := .int _ _) rfl) rfl ?_
  refine WL.nil ?_
  refine W.seq ?_
  refine W.reg ?_
  refine WL.y (R.mv (v := .slice _ _ _) rfl) rfl ?_
  refine WL.call Try.func121 rfl rfl ((refMembers_calls ms (by have := memsOK_len hm; omega) a cc _ hS).val (y := bl true) (by rw [hm])) rfl rfl ?_
  rintro _ w1 ⟨rfl, hx1⟩
  have hz1 := hx1.size
  replace hX := hX.tr hx1
  replace hBp := hx1.blk hBp
  replace hV := hV.ext hx1
  replace hS := hS.ext hx1
  refine WL.y (R.notT rfl) rfl ?_
  refine WL.nil ?_
  refine W.cond_f rfl ?_
  refine W.skip ?_
  refine W.seq ?_
  refine W.reg ?_
  refine WL.y (R.asg (v := .int _ _) rfl) rfl ?_
  refine WL.nil ?_
  refine W.block ?_
  refine W.loopS (ι := Nat) [(4, 9), (12, 64)] (fun v => [(6, i64 (v : Nat))]) (fun v => p.vs.length - v) (fun v w' => Ext w w' ∧ v ≤ p.vs.length ∧ ∀ j, j < v → pLive p (j : Nat) = true) 0 ⟨rfl, trivial⟩ ⟨hX, Nat.zero_le _, fun j hj => absurd hj (by omega)⟩ ?_
  rintro v j wl ⟨hX, hv, hall⟩
  have hBp := hX.blk H.blk
  refine W.seq ?_
  refine W.reg ?_
  refine WL.y (R.mv (v := .int _ _) rfl) rfl ?_
  refine WL.y (R.mv (v := .pointer _) rfl) rfl ?_
  refine WL.y (R.nilCheck rfl) rfl ?_
  refine WL.y (R.fieldAddr fo75_1 rfl) rfl ?_
  refine WL.y (R.load sca73 rfl (hBp).r rfl) rfl ?_
  refine WL.y (R.lenS Try.underlying73 rfl) rfl ?_
  refine WL.fork (R.lss rfl rfl) rfl (fun hc4_6 => ?_) (fun hc4_6 => ?_)
  · skip
    replace hc4_6 := of_decide_eq_true hc4_6
    refine WL.nil ?_
    refine W.cond_t rfl ?_
    refine W.skip ?_
    refine W.seq ?_
    refine W.block ?_
    refine W.seq ?_
    refine W.reg ?_
    refine WL.y (R.mv (v := .pointer _) rfl) rfl ?_
    refine WL.y (R.mv (v := .int _ _) rfl) rfl ?_
    refine WL.call Try.func124 rfl rfl (CallV.fork (rlive_calls F b c p rx _ (H.ext hX) (v : Nat))) rfl rfl ?_
    rintro _ w2 (⟨hc6_2, rfl, hx2⟩ | ⟨hc6_2, rfl, hx2⟩)
    · skip
      have hz2 := hx2.size
      replace hX := hX.tr hx2
      replace hBp := hx2.blk hBp
      refine WL.nil ?_
      refine W.cond_t rfl ?_
      refine W.exit ?_
      refine W.region ?_
      refine WL.y (R.mv (v := .int _ _) rfl) rfl ?_
      refine WL.y (R.addI rfl rfl (by omega)) rfl ?_
      refine WL.y (R.asg (v := .int _ _) rfl) rfl ?_
      refine WL.nil ?_
      exact ⟨v + 1, (by omega), (by repeat (first | exact Same.rfl' _ _ | refine Same.set _ rfl ?_ | refine Same.over' _ rfl ?_ | refine Same.sets rfl ?_)), ⟨rfl, trivial⟩, rfl, hX, by omega, fun j hj => by rcases Nat.lt_or_ge j v with h | h; exact hall j h; (obtain rfl : j = v := by omega); exact hc6_2⟩
    · skip
      have hz2 := hx2.size
      replace hX := hX.tr hx2
      replace hBp := hx2.blk hBp
      refine WL.nil ?_
      refine W.cond_f rfl ?_
      refine W.skip ?_
      refine W.seq ?_
      have hpf := pFirst_eq hv hall hc6_2
      replace hBp := hX.blk H.blk
      obtain ⟨csl2, hV2⟩ := H.vers
      replace hV := hV2.ext hX
      replace hS := hSr.ext hX
      have hXs := hX.size
      have hz0 := H.lt _ H.fb
      have hz1 := H.lt _ H.fg
      have hU : Upd F w w2 := hX.upd _
      have hUP : Upd (fun k => k = b ∨ k = rx.gl) w w2 := hX.upd _
      refine W.draw (fun j => [17].contains j) (fun wI => Ext w2 wI) rfl ?_
      have hI3 := Ext.dr w2
      refine WA.batch [0, 1, 2, 3, 4, 5, 6, 7, 8, 9, 10, 11, 12, 13, 14, 15, 16] 6 (by kernel_rfl) hI3 ?_
      refine QL.y (fun wq hq => (R.mv (v := .pointer _) rfl)) rfl ?_
      refine QL.y (fun wq hq => (R.nilCheck rfl)) rfl ?_
      refine QL.y (fun wq hq => (R.fieldAddr fo75_1 rfl)) rfl ?_
      refine QL.y (fun wq hq => (R.load sca73 rfl (hq.blkR (hBp).r) rfl)) rfl ?_
      refine QL.y (fun wq hq => (R.mv (v := .pointer _) rfl)) rfl ?_
      refine QL.y (fun wq hq => (R.nilCheck rfl)) rfl ?_
      refine QL.y (fun wq hq => (R.fieldAddr fo75_3 rfl)) rfl ?_
      refine QL.y (fun wq hq => (R.load sca3 rfl (hq.blkR (hBp).r) rfl)) rfl ?_
      refine QL.y (fun wq hq => (R.indexS Try.underlying73 siz211 rfl rfl rfl (by omega))) rfl ?_
      refine QL.y (fun wq hq => (R.fieldAddr fo211_3 rfl)) rfl ?_
      refine QL.y (fun wq hq => (R.load sca81 rfl (hq.blkR (hV.blk).r) ((hV.cell encRE hr0 (j := 3) (by decide)).trans (congrArg some en0)))) rfl ?_
      refine QL.y (fun wq hq => (R.mv (v := .slice _ _ _) rfl)) rfl ?_
      refine QL.y (fun wq hq => (R.mv (v := .pointer _) rfl)) rfl ?_
      refine QL.y (fun wq hq => (R.nilCheck rfl)) rfl ?_
      refine QL.y (fun wq hq => (R.fieldAddr fo75_0 rfl)) rfl ?_
      refine QL.y (fun wq hq => (R.fieldAddr fo33_5 rfl)) rfl ?_
      refine QL.y (fun wq hq => (R.load sca3 rfl (hq.blkR (hBp).r) rfl)) rfl ?_
      refine QL.nil ?_
      have hD3 := Ext.dr w2
      have hD3z := hD3.size
      replace hUP := hUP.tr (hD3.upd _)
      replace hU := hU.tr (hD3.upd _)
      replace hBp := hD3.blk hBp
      replace hV := hV.ext hD3
      replace hS := hS.ext hD3
      refine WA.one 17 5 (by kernel_rfl) ?_
      refine WL.call (vs := [.slice r0.a p.sl.length r0.c, .slice a ms.length cc, i64 ((ns : Nat) : Int)]) Try.func122 rfl rfl (refFill_calls p.sl ms ns r0.a a r0.c cc _ (hO0.upd hUP (fun k hk hs => by have := e50 k hk; omega)) hS (by omega) hm (by rw [← hns2]; exact H.s0)) (by rw [← hns]; rfl) rfl ?_
      rintro _ w4 ⟨⟨aF, cF, rfl, hSF, hoF⟩, hx4⟩
      have hz4 := hx4.size
      have hUsz := hU.size
      replace hUP := hUP.tr (hx4.upd _)
      replace hU := hU.tr (hx4.upd _)
      replace hBp := hx4.blk hBp
      replace hV := hV.ext hx4
      replace hS := hS.ext hx4
      have hoFl : ∀ k, ownsC aF cF k → w.heap.size ≤ k ∧ k < w4.heap.size := fun k hk => ⟨by have := hoF k hk.1; omega, hSF.lt k hk⟩
      refine WL.nil ?_
      refine ⟨fun h => (by cases h), ?_⟩
      refine WA.pures [18, 19, 20, 21, 22] 0 (by kernel_rfl) ?_
      refine QL.y (fun wq hq => (R.mv (v := .tuple _) rfl)) rfl ?_
      refine QL.y (fun wq hq => (R.extract rfl rfl)) rfl ?_
      refine QL.y (fun wq hq => (R.extract rfl rfl)) rfl ?_
      refine QL.y (fun wq hq => (R.asg (v := .slice _ _ _) rfl)) rfl ?_
      refine QL.y (fun wq hq => (R.asg (v := .int _ _) rfl)) rfl ?_
      refine QL.nil ?_
      refine WA.done (by kernel_rfl) ?_
      refine W.reg ?_
      refine WL.y (R.mv (v := .pointer _) rfl) rfl ?_
      refine WL.y (R.nilCheck rfl) rfl ?_
      refine WL.y (R.fieldAddr fo75_1 rfl) rfl ?_
      refine WL.y (R.load sca73 rfl (hBp).r rfl) rfl ?_
      refine WL.y (R.mv (v := .int _ _) rfl) rfl ?_
      refine WL.y (R.mv (v := .slice _ _ _) rfl) rfl ?_
      refine WL.y (R.buildP (parts := [(0, .const (.bool true)), (1, .const (.bool true)), (3, .tmp 50)]) (ps := [(0, (.bool true)), (1, (.bool true)), (3, .slice _ _ _)]) bld211 rfl rfl) rfl ?_
      refine WL.y (R.indexS Try.underlying73 siz211 rfl rfl rfl (by omega)) rfl ?_
      refine WL.store (v := .agg _) siz211 rfl rfl rfl rfl hV.blk (hV.bound (by first | omega | (simp; omega))) rfl rfl ?_
      intro w5 hu5 hz5 hn5
      replace hUP := hUP.tr (hu5.mono (fun k _ hk => by subst hk; first | exact .inl rfl | exact .inr rfl))
      replace hU := hU.tr (hu5.mono (fun k _ hk => by subst hk; first | exact H.fb | exact H.fg))
      replace hBp := hu5.blk (by omega) hBp
      replace hS := hS.updB hu5 (fun k hk => by first | (have := (hSl) k hk; omega) | (have := (hSl) k hk.1; omega))
      replace hSF := hSF.updB hu5 (fun k hk => by first | (have := (hoFl) k hk; omega) | (have := (hoFl) k hk.1; omega))
      replace hV := hV.put encRE (by first | omega | (simp; omega)) (⟨true, true, 0, aF, (fill p.sl ms ns).length, cF⟩ : RR) hn5; clear hn5
      refine WL.nil ?_
      refine W.reg ?_
      refine WL.y (R.mv (v := .pointer _) rfl) rfl ?_
      refine WL.y (R.mv (v := .int _ _) rfl) rfl ?_
      refine WL.y (R.nilCheck rfl) rfl ?_
      refine WL.y (R.fieldAddr fo75_3 rfl) rfl ?_
      refine WL.store1 (v := .int _ _) sca3 rfl rfl rfl hBp (Nat.le_of_ble_eq_true rfl) rfl ?_
      intro w6 hu6 hz6 hn6
      replace hUP := hUP.tr (hu6.mono (fun k _ hk => by subst hk; first | exact .inl rfl | exact .inr rfl))
      replace hU := hU.tr (hu6.mono (fun k _ hk => by subst hk; first | exact H.fb | exact H.fg))
      replace hV := hV.updB hu6 (by omega)
      replace hS := hS.updB hu6 (fun k hk => by first | (have := (hSl) k hk; omega) | (have := (hSl) k hk.1; omega))
      replace hSF := hSF.updB hu6 (fun k hk => by first | (have := (hoFl) k hk; omega) | (have := (hoFl) k hk.1; omega))
      replace hBp := hn6; clear hn6
      refine WL.nil ?_
      refine W.reg ?_
      refine WL.y (R.mv (v := .pointer _) rfl) rfl ?_
      have hszB := hU.size
      have hltF := hSF.lt
      have hltS := hS.lt
      refine WL.buildSlice0 el52_57 (by decide) rfl ?_
      intro b7 w7 hb7 hs7 hx7 hB7
      replace hUP := hUP.tr (hx7.upd _)
      replace hU := hU.tr (hx7.upd _)
      replace hBp := hx7.blk hBp
      replace hV := hV.ext hx7
      replace hS := hS.ext hx7
      replace hSF := hSF.ext hx7
      refine WL.y (R.mv (v := .slice _ _ _) rfl) rfl ?_
      refine WL.appendS (xs := []) el52_57 encM rfl rfl (Slw.zero hB7) rfl hS rfl (by omega) (by omega) rfl ?_
      intro aM cM w8 hu8 hsl8 hf8
      have hno : ∀ k, k < w.heap.size → ¬ owns (some ⟨b7, 0, none⟩) k := fun k hk h => by rw [owns_some] at h; simp only at h; omega
      have hoM : ∀ k, owns aM k → w.heap.size ≤ k := own_step (fun k hk => by rw [owns_some] at hk; simp only at hk; omega) hf8 (fun k hk => by omega)
      rw [show (0 : Nat) + ms.length = ms.length from Nat.zero_add _]
      replace hUP := hUP.tr' hu8 (fun k h1 h2 => absurd h2 (hno k h1))
      replace hU := hU.tr' hu8 (fun k h1 h2 => absurd h2 (hno k h1))
      replace hBp := hu8.blk (hno _ hz0) hBp
      replace hV := hV.upd hu8 (hno _ hz1)
      replace hSF := hSF.upd hu8 (fun k hk h => by rw [owns_some] at h; simp only at h; have := hltF k hk; omega)
      have hSM : Sli encMem 19 w8 aM cM ms := hsl8.ro
      have hoMl : ∀ k, ownsC aM cM k → w.heap.size ≤ k ∧ k < w8.heap.size := fun k hk => ⟨hoM k hk.1, hSM.lt k hk⟩
      refine WL.y (R.nilCheck rfl) rfl ?_
      refine WL.y (R.fieldAddr fo75_4 rfl) rfl ?_
      refine WL.store1 (v := .slice _ _ _) sca52 rfl rfl rfl hBp (Nat.le_of_ble_eq_true rfl) rfl ?_
      intro w9 hu9 hz9 hn9
      replace hUP := hUP.tr (hu9.mono (fun k _ hk => by subst hk; first | exact .inl rfl | exact .inr rfl))
      replace hU := hU.tr (hu9.mono (fun k _ hk => by subst hk; first | exact H.fb | exact H.fg))
      replace hV := hV.updB hu9 (by omega)
      replace hSF := hSF.updB hu9 (fun k hk => by first | (have := (hoFl) k hk; omega) | (have := (hoFl) k hk.1; omega))
      replace hSM := hSM.updB hu9 (fun k hk => by first | (have := (hoMl) k hk; omega) | (have := (hoMl) k hk.1; omega))
      replace hBp := hn9; clear hn9
      refine WL.nil ?_
      refine W.reg ?_
      refine WL.y (R.mv (v := .int _ _) rfl) rfl ?_
      refine WL.y (R.asg (v := .int _ _) rfl) rfl ?_
      refine WL.y (R.asg (v := .int _ _) rfl) rfl ?_
      refine WL.nil ?_
      refine W.ret ?_
      have hF2lt : ∀ k, (F k ∨ (w.heap.size ≤ k ∧ k < w9.heap.size)) → k < w9.heap.size := fun k hk => by rcases hk with h | h; exact Nat.lt_of_lt_of_le (hlt0 k h) hU.size; exact h.2
      have hfl := fill_le (old := p.sl) (ms := ms) (n := ns) (by omega) hm
      have hh := H.turn hUP (F' := fun k => F k ∨ (w.heap.size ≤ k ∧ k < w9.heap.size)) (fun k h => .inl h) hF2lt (k := v) (v' := ⟨fill p.sl ms ns, 0, true⟩) (now' := p.now) (last' := ms) (sl' := fill p.sl ms ns) (li' := v) (by omega) hBp ⟨_, hV⟩ ⟨rfl, rfl, rfl, hSF, fun j hj => ⟨.inr ⟨by have := hoF j hj.1; omega, hSF.lt j hj⟩, by have := hoF j hj.1; omega, by have := hoF j hj.1; omega⟩⟩
        hSM (fun j hj => ⟨.inr ⟨hoM j hj.1, hSM.lt j hj⟩, by have := hoM j hj.1; omega, by have := hoM j hj.1; omega⟩)
        hml hfl (by rw [hns2]; by_cases h0 : ms.length = 0; exact .inl (by simp [fill, h0]); exact .inr (fill_length (by omega) hm (by omega))) H.nn ⟨_, List.getElem?_set_self (by omega), rfl⟩
      exact PR.r2 rfl (.tmp rfl) (.tmp rfl) ⟨_, _, by rw [hpf]; rfl, hU, by simp only [pReserve, hns2, hpf]; exact hh, fun k hk => by rcases hk with h | h; exact .inl h; exact .inr h.1⟩
  · skip
    replace hc4_6 := of_decide_eq_false hc4_6
    refine WL.nil ?_
    refine W.cond_f rfl ?_
    refine W.exit ?_
    refine W.reg ?_
    refine WL.y (R.asg (v := .int _ _) rfl) rfl ?_
    refine WL.y (R.asg (v := .int _ _) rfl) rfl ?_
    refine WL.nil ?_
    refine W.ret ?_
    obtain rfl : v = p.vs.length := by omega
    have hpf := pFirst_eq (Nat.le_refl _) hall (pLive_big (by omega))
    omega
end Go.Proofs.Ytkjecokkdbapkaa
