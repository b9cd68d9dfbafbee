import Derived.Test.YtkjecokkdbapkaaZzRef6
import Derived.Test.YtkjecokkdbapkaaZzLive18b
import Derived.Test.YtkjecokkdbapkaaProg
namespace Go.Proofs.Ytkjecokkdbapkaa
set_option linter.all false
open Go Go.Eng Go.RowKit
set_option maxRecDepth 20000
set_option maxHeartbeats 2000000
set_option linter.unusedVariables false
set_option linter.unusedSimpArgs false
attribute [local irreducible] WL W QL WA SP

def pl211 : Nat → Option (Nat × Nat) := fun i => (#[(0, 1), (1, 1), (2, 1), (3, 1)] : Array (Nat × Nat))[i]?
theorem bld211 : Bld Try.prog 211 pl211 zc211 := ⟨_, fun parts w => by
  simp only [pl211, Instr.build, Sem.run_bind, Try.zeroValue211, Try.runUnderlying211, Result.andThen_ok, List.mapM_toArray, List.mapM_cons, List.mapM_nil, Try.sizeOf3, Try.sizeOf4, Try.sizeOf81, Sem.run_pure, Sem.run_map]
  rfl⟩
theorem fo211_0 : FO Try.prog 211 0 0 := fun a w => by kernel_rfl
theorem sca64 : Sca Try.prog 64 := ⟨Try.isAgg64, Try.sizeOf64⟩

theorem rLive_calls (F : Nat → Prop) (b : Nat) (c : Cfg) (p : PSt) (rx : RX) (w : World) (H : RPool w F b c p rx) : CallV Try.prog 48 #[.pointer (some ⟨b, 0, none⟩)] w fun v w' => (∃ a' c', v = .slice a' (ofNats (liveL p)).length c' ∧ Sli (fun n : Int => [i64 n]) 1 w' a' c' (ofNats (liveL p)) ∧ ∀ k, owns a' k → w.heap.size ≤ k) ∧ Ext w w' := by
  have hX : Ext w w := Ext.rfl' w
  have hU : ∀ k, (fun k => w.heap.size ≤ k) k → w.heap.size ≤ k := fun _ h => h
  have hS : Star (fun k => w.heap.size ≤ k) w [] := Star.nil fun _ h => h
  generalize (fun k => w.heap.size ≤ k) = U at hU hS
  have h16 := H.v64
  refine Calls.of_W (N := 22) Try.func48 rfl rfl rfl ?_
  refine W.reg ?_
  refine WL.y (R.asg (v := .slice _ _ _) rfl) rfl ?_
  refine WL.nil ?_
  refine W.reg ?_
  refine WL.y (R.asg (v := .slice _ _ _) rfl) rfl ?_
  refine WL.nil ?_
  refine W.seq ?_
  refine W.reg ?_
  replace hS := hS.pushNil (fun n : Int => [i64 n]) 1
  refine WL.y (R.asg (v := .int _ _) rfl) rfl ?_
  refine WL.nil ?_
  refine W.block ?_
  refine W.loopS (ι := Nat × Option Addr × Nat) [(3, 21)] (fun q => [(4, i64 (q.1 : Nat)), (3, .slice q.2.1 (ofNats ((List.range q.1).filter (fun u => pLive p (u : Nat)))).length q.2.2)]) (fun q => p.vs.length - q.1) (fun q w' => (q.1 ≤ p.vs.length) ∧ Ext w w' ∧ Star U w' [slwA (fun n : Int => [i64 n]) 1 q.2.1 q.2.2 (ofNats ((List.range q.1).filter (fun u => pLive p (u : Nat))))]) ⟨0, none, 0⟩ ⟨rfl, rfl, trivial⟩ ⟨Nat.zero_le _, hX, hS⟩ ?_
  rintro ⟨v, ao, co⟩ j1 w_1 ⟨hv, hX, hS⟩
  dsimp only at hv hX hS ⊢
  have hfl := List.length_filter_le (fun u : Nat => pLive p (u : Nat)) (List.range v)
  rw [List.length_range] at hfl
  have hol : (ofNats ((List.range v).filter (fun u => pLive p (u : Nat)))).length ≤ 16 := by simp only [ofNats, List.length_map]; omega
  refine W.seq ?_
  refine W.reg ?_
  refine WL.y (R.mv (v := .int _ _) rfl) rfl ?_
  refine WL.y (R.mv (v := .pointer _) rfl) rfl ?_
  refine WL.y (R.nilCheck rfl) rfl ?_
  refine WL.y (R.fieldAddr fo75_1 rfl) rfl ?_
  refine WL.y (R.load sca73 rfl ((hX.blk H.blk)).r rfl) rfl ?_
  refine WL.y (R.lenS Try.underlying73 rfl) rfl ?_
  refine WL.fork (R.lss rfl rfl) rfl (fun hc3_6 => ?_) (fun hc3_6 => ?_)
  · skip
    replace hc3_6 := of_decide_eq_true hc3_6
    refine WL.nil ?_
    refine W.cond_t rfl ?_
    refine W.skip ?_
    refine W.seq ?_
    refine W.block ?_
    refine W.reg ?_
    refine WL.y (R.mv (v := .pointer _) rfl) rfl ?_
    refine WL.y (R.mv (v := .int _ _) rfl) rfl ?_
    refine WL.call Try.func124 rfl rfl (CallV.fork (rlive_calls F b c p rx _ (H.ext hX) (v : Nat))) rfl rfl ?_
    rintro _ w1 (⟨hc5_2, rfl, hx1⟩ | ⟨hc5_2, rfl, hx1⟩)
    · skip
      replace hS := hS.ext hx1
      replace hX := hX.tr hx1
      refine WL.nil ?_
      refine W.cond_t rfl ?_
      refine W.region ?_
      refine WL.y (R.mv (v := .slice _ _ _) rfl) rfl ?_
      refine WL.y (R.mv (v := .int _ _) rfl) rfl ?_
      refine WL.buildSliceP (parts := [(0, .tmp 18)]) (ps := [(0, .int _ _)]) el22_3 rfl rfl rfl (by decide) rfl rfl ?_
      intro b2 w2 hb2 hs2 hx2 hB2
      have hL2 := Slw.one encI (((v : Nat) : Int)) hB2 rfl
      replace hS := hS.pushSlw hx2 hL2 (fun k hk => by rw [owns_some] at hk; simp only at hk; omega)
      replace hX := hX.tr hx2
      clear hL2 hB2 hs2
      refine WL.appendS el22_3 encI rfl rfl (hS.slw1) (by first | rfl | omega | (simp; done) | (simp; omega)) (hS.slw0).ro (by first | rfl | omega | (simp; done) | (simp; omega)) (by first | omega | (simp; omega)) (by first | omega | (simp; omega)) rfl ?_
      intro a3 c3 w3 hu3 hl3 hf3
      have hN := hS.app1 hu3 hl3 hf3
      replace hS := hN.1
      replace hX := hN.2 _ hX hU
      clear hN hu3 hl3 hf3
      replace hS := hS.drop0
      refine WL.y (R.asg (v := .slice _ _ _) rfl) rfl ?_
      refine WL.nil ?_
      refine W.region ?_
      refine WL.y (R.mv (v := .int _ _) rfl) rfl ?_
      refine WL.y (R.addI rfl rfl (by omega)) rfl ?_
      refine WL.y (R.asg (v := .int _ _) rfl) rfl ?_
      refine WL.nil ?_
      rw [show ofNats ((List.range v).filter (fun u => pLive p (u : Nat))) ++ [((v : Nat) : Int)] = ofNats ((List.range (v + 1)).filter (fun u => pLive p (u : Nat))) by simp only [filt_succ, hc5_2, if_pos, ofNats, List.map_append]; rfl] at hS
      exact ⟨⟨v + 1, a3, c3⟩, (by simp only; omega), (by repeat (first | exact Same.rfl' _ _ | refine Same.set _ rfl ?_ | refine Same.over' _ rfl ?_ | refine Same.sets rfl ?_)), ⟨rfl, by simp only [filt_succ, hc5_2, if_pos, ofNats, List.map_append, List.length_append]; rfl, trivial⟩, rfl, by simp only; omega, hX, hS⟩
    · skip
      replace hS := hS.ext hx1
      replace hX := hX.tr hx1
      refine WL.nil ?_
      refine W.cond_f rfl ?_
      refine W.skip ?_
      refine W.region ?_
      refine WL.y (R.mv (v := .int _ _) rfl) rfl ?_
      refine WL.y (R.addI rfl rfl (by omega)) rfl ?_
      refine WL.y (R.asg (v := .int _ _) rfl) rfl ?_
      refine WL.nil ?_
      rw [show ofNats ((List.range v).filter (fun u => pLive p (u : Nat))) = ofNats ((List.range (v + 1)).filter (fun u => pLive p (u : Nat))) by simp [filt_succ, hc5_2]] at hS
      exact ⟨⟨v + 1, _, _⟩, (by simp only; omega), (by repeat (first | exact Same.rfl' _ _ | refine Same.set _ rfl ?_ | refine Same.over' _ rfl ?_ | refine Same.sets rfl ?_)), ⟨rfl, by show _ = Value.slice ao (ofNats ((List.range (v + 1)).filter (fun u : Nat => pLive p (u : Nat)))).length co; rw [show (List.range (v + 1)).filter (fun u : Nat => pLive p (u : Nat)) = (List.range v).filter (fun u : Nat => pLive p (u : Nat)) by simp [filt_succ, hc5_2]]; rfl, trivial⟩, rfl, by simp only; omega, hX, hS⟩
  · skip
    replace hc3_6 := of_decide_eq_false hc3_6
    refine WL.nil ?_
    refine W.cond_f rfl ?_
    refine W.exit ?_
    refine W.reg ?_
    refine WL.y (R.mv (v := .slice _ _ _) rfl) rfl ?_
    refine WL.y (R.asg (v := .slice _ _ _) rfl) rfl ?_
    refine WL.nil ?_
    refine W.ret ?_
    obtain rfl : v = p.vs.length := by omega
    obtain ⟨_, ⟨hs, rfl⟩, hfu⟩ := hS.get0
    exact PR.r1 rfl (.tmp rfl) ⟨⟨ao, co, rfl, hs.ro, fun k hk => hU k (hfu k hk)⟩, hX⟩

theorem rServe_out (F : Nat → Prop) (b : Nat) (c : Cfg) (p : PSt) (rx : RX) (w : World) (H : RPool w F b c p rx) (v : Int) (hv : v < 0 ∨ p.vs.length ≤ v) : CallV Try.prog 38 #[.pointer (some ⟨b, 0, none⟩), i64 v] w fun r w' => r = i64 4 ∧ Ext w w' := by
  have hX : Ext w w := Ext.rfl' w
  obtain ⟨csl, hV⟩ := H.vers
  have hBp := H.blk
  have hlen := H.len
  have h16 := H.v64
  refine Calls.of_W (N := 38) Try.func38 rfl rfl rfl ?_
  refine W.reg ?_
  refine WL.y (R.asg (v := .int _ _) rfl) rfl ?_
  refine WL.nil ?_
  refine W.seq ?_
  refine W.reg ?_
  refine WL.y (R.mv (v := .int _ _) rfl) rfl ?_
  refine WL.fork (R.lss rfl rfl) rfl (fun hc1_1 => ?_) (fun hc1_1 => ?_)
  · skip
    replace hc1_1 := of_decide_eq_true hc1_1
    refine WL.y (R.mv (v := .bool true) rfl) rfl ?_
    refine WL.skip rfl ?_
    refine WL.skip rfl ?_
    refine WL.skip rfl ?_
    refine WL.skip rfl ?_
    refine WL.skip rfl ?_
    refine WL.skip rfl ?_
    refine WL.skip rfl ?_
    refine WL.y (R.pkT (v := .bool true) rfl rfl) rfl ?_
    refine WL.y (R.mv (v := .bool true) rfl) rfl ?_
    refine WL.skip rfl ?_
    refine WL.skip rfl ?_
    refine WL.skip rfl ?_
    refine WL.skip rfl ?_
    refine WL.skip rfl ?_
    refine WL.skip rfl ?_
    refine WL.skip rfl ?_
    refine WL.skip rfl ?_
    refine WL.skip rfl ?_
    refine WL.y (R.pkT (v := .bool true) rfl rfl) rfl ?_
    refine WL.nil ?_
    refine W.cond_t rfl ?_
    refine W.reg ?_
    refine WL.y (R.asg (v := .int _ _) rfl) rfl ?_
    refine WL.nil ?_
    refine W.ret ?_
    exact PR.r1 rfl (.tmp rfl) ⟨rfl, hX⟩
  · skip
    replace hc1_1 := of_decide_eq_false hc1_1
    refine WL.y (R.mv (v := .bool false) rfl) rfl ?_
    refine WL.y (R.mv (v := .int _ _) rfl) rfl ?_
    refine WL.y (R.mv (v := .pointer _) rfl) rfl ?_
    refine WL.y (R.nilCheck rfl) rfl ?_
    refine WL.y (R.fieldAddr fo75_1 rfl) rfl ?_
    refine WL.y (R.load sca73 rfl (hBp).r rfl) rfl ?_
    refine WL.y (R.lenS Try.underlying73 rfl) rfl ?_
    refine WL.fork (R.geq rfl rfl) rfl (fun hc1_9 => ?_) (fun hc1_9 => ?_)
    · skip
      replace hc1_9 := of_decide_eq_true hc1_9
      skip
      refine WL.y (R.pkF (v := .bool true) rfl rfl) rfl ?_
      refine WL.y (R.mv (v := .bool true) rfl) rfl ?_
      refine WL.skip rfl ?_
      refine WL.skip rfl ?_
      refine WL.skip rfl ?_
      refine WL.skip rfl ?_
      refine WL.skip rfl ?_
      refine WL.skip rfl ?_
      refine WL.skip rfl ?_
      refine WL.skip rfl ?_
      refine WL.skip rfl ?_
      refine WL.y (R.pkT (v := .bool true) rfl rfl) rfl ?_
      refine WL.nil ?_
      refine W.cond_t rfl ?_
      refine W.reg ?_
      refine WL.y (R.asg (v := .int _ _) rfl) rfl ?_
      refine WL.nil ?_
      refine W.ret ?_
      exact PR.r1 rfl (.tmp rfl) ⟨rfl, hX⟩
    · skip
      replace hc1_9 := of_decide_eq_false hc1_9
      exact absurd hv (by omega)

theorem rServe_no (F : Nat → Prop) (b : Nat) (c : Cfg) (p : PSt) (rx : RX) (w : World) (H : RPool w F b c p rx) (k : Nat) (x : Ver) (hx : p.vs[k]? = some x) (hres : x.res = false) : CallV Try.prog 38 #[.pointer (some ⟨b, 0, none⟩), i64 (k : Nat)] w fun r w' => r = i64 4 ∧ Ext w w' := by
  have hX : Ext w w := Ext.rfl' w
  obtain ⟨csl, hV⟩ := H.vers
  have hBp := H.blk
  have hlen := H.len
  have h16 := H.v64
  obtain ⟨r, hr⟩ : ∃ r, rx.rvs[k]? = some r := ⟨_, List.getElem?_eq_getElem (by have := (List.getElem?_eq_some_iff.1 hx).1; omega)⟩
  obtain ⟨e1, e2, e3, e4, e5⟩ := H.each k r x hr hx
  have hkl := (List.getElem?_eq_some_iff.1 hx).1
  have hnn := H.nn
  refine Calls.of_W (N := 38) Try.func38 rfl rfl rfl ?_
  refine W.reg ?_
  refine WL.y (R.asg (v := .int _ _) rfl) rfl ?_
  refine WL.nil ?_
  refine W.seq ?_
  refine W.reg ?_
  refine WL.y (R.mv (v := .int _ _) rfl) rfl ?_
  refine WL.y (R.lssF rfl rfl (by omega)) rfl ?_
  refine WL.y (R.mv (v := .bool false) rfl) rfl ?_
  refine WL.y (R.mv (v := .int _ _) rfl) rfl ?_
  refine WL.y (R.mv (v := .pointer _) rfl) rfl ?_
  refine WL.y (R.nilCheck rfl) rfl ?_
  refine WL.y (R.fieldAddr fo75_1 rfl) rfl ?_
  refine WL.y (R.load sca73 rfl (hBp).r rfl) rfl ?_
  refine WL.y (R.lenS Try.underlying73 rfl) rfl ?_
  refine WL.y (R.geqF rfl rfl (by omega)) rfl ?_
  refine WL.y (R.pkF (v := .bool false) rfl rfl) rfl ?_
  refine WL.y (R.mv (v := .bool false) rfl) rfl ?_
  refine WL.y (R.mv (v := .pointer _) rfl) rfl ?_
  refine WL.y (R.nilCheck rfl) rfl ?_
  refine WL.y (R.fieldAddr fo75_1 rfl) rfl ?_
  refine WL.y (R.load sca73 rfl (hBp).r rfl) rfl ?_
  refine WL.y (R.mv (v := .int _ _) rfl) rfl ?_
  refine WL.y (R.indexS Try.underlying73 siz211 rfl rfl rfl (by omega)) rfl ?_
  refine WL.y (R.fieldAddr fo211_1 rfl) rfl ?_
  refine WL.y (R.load sca4 rfl (hV.blk).r ((hV.cell encRE hr (j := 1) (by decide)).trans (congrArg some (congrArg Value.bool (e2.trans hres))))) rfl ?_
  refine WL.y (R.notF rfl) rfl ?_
  refine WL.y (R.pkF (v := .bool true) rfl rfl) rfl ?_
  refine WL.nil ?_
  refine W.cond_t rfl ?_
  refine W.reg ?_
  refine WL.y (R.asg (v := .int _ _) rfl) rfl ?_
  refine WL.nil ?_
  refine W.ret ?_
  exact PR.r1 rfl (.tmp rfl) ⟨rfl, hX⟩

theorem rServe_ok (F : Nat → Prop) (b : Nat) (c : Cfg) (p : PSt) (rx : RX) (w : World) (H : RPool w F b c p rx) (k : Nat) (x : Ver) (hx : p.vs[k]? = some x) (hres : x.res = true) : CallV Try.prog 38 #[.pointer (some ⟨b, 0, none⟩), i64 (k : Nat)] w fun r w' => ∃ R', r = i64 0 ∧ Upd F w w' ∧ RPool w' F b c (⟨p.vs.set k ⟨x.slots, x.refs, false⟩, k, p.last, p.sl⟩) R' := by
  have hU : Upd F w w := Upd.rfl' F w
  have hX : Ext w w := Ext.rfl' w
  obtain ⟨csl, hV⟩ := H.vers
  have hBp := H.blk
  have hlen := H.len
  have h16 := H.v64
  have hne := H.ne
  have hUP : Upd (fun k => k = b ∨ k = rx.gl) w w := Upd.rfl' _ w
  obtain ⟨r, hr⟩ : ∃ r, rx.rvs[k]? = some r := ⟨_, List.getElem?_eq_getElem (by have := (List.getElem?_eq_some_iff.1 hx).1; omega)⟩
  obtain ⟨e1, e2, e3, e4, e5⟩ := H.each k r x hr hx
  have hkl := (List.getElem?_eq_some_iff.1 hx).1
  have hnn := H.nn
  refine Calls.of_W (N := 38) Try.func38 rfl rfl rfl ?_
  refine W.reg ?_
  refine WL.y (R.asg (v := .int _ _) rfl) rfl ?_
  refine WL.nil ?_
  refine W.seq ?_
  refine W.reg ?_
  refine WL.y (R.mv (v := .int _ _) rfl) rfl ?_
  refine WL.y (R.lssF rfl rfl (by omega)) rfl ?_
  refine WL.y (R.mv (v := .bool false) rfl) rfl ?_
  refine WL.y (R.mv (v := .int _ _) rfl) rfl ?_
  refine WL.y (R.mv (v := .pointer _) rfl) rfl ?_
  refine WL.y (R.nilCheck rfl) rfl ?_
  refine WL.y (R.fieldAddr fo75_1 rfl) rfl ?_
  refine WL.y (R.load sca73 rfl (hBp).r rfl) rfl ?_
  refine WL.y (R.lenS Try.underlying73 rfl) rfl ?_
  refine WL.y (R.geqF rfl rfl (by omega)) rfl ?_
  refine WL.y (R.pkF (v := .bool false) rfl rfl) rfl ?_
  refine WL.y (R.mv (v := .bool false) rfl) rfl ?_
  refine WL.y (R.mv (v := .pointer _) rfl) rfl ?_
  refine WL.y (R.nilCheck rfl) rfl ?_
  refine WL.y (R.fieldAddr fo75_1 rfl) rfl ?_
  refine WL.y (R.load sca73 rfl (hBp).r rfl) rfl ?_
  refine WL.y (R.mv (v := .int _ _) rfl) rfl ?_
  refine WL.y (R.indexS Try.underlying73 siz211 rfl rfl rfl (by omega)) rfl ?_
  refine WL.y (R.fieldAddr fo211_1 rfl) rfl ?_
  refine WL.y (R.load sca4 rfl (hV.blk).r ((hV.cell encRE hr (j := 1) (by decide)).trans (congrArg some (congrArg Value.bool (e2.trans hres))))) rfl ?_
  refine WL.y (R.notT rfl) rfl ?_
  refine WL.y (R.pkF (v := .bool false) rfl rfl) rfl ?_
  refine WL.nil ?_
  refine W.cond_f rfl ?_
  refine W.skip ?_
  refine W.reg ?_
  refine WL.y (R.mv (v := .pointer _) rfl) rfl ?_
  refine WL.y (R.nilCheck rfl) rfl ?_
  refine WL.y (R.fieldAddr fo75_1 rfl) rfl ?_
  refine WL.y (R.load sca73 rfl (hBp).r rfl) rfl ?_
  refine WL.y (R.mv (v := .int _ _) rfl) rfl ?_
  refine WL.y (R.indexS Try.underlying73 siz211 rfl rfl rfl (by omega)) rfl ?_
  refine WL.y (R.fieldAddr fo211_1 rfl) rfl ?_
  refine WL.store1 (v := .bool _) sca4 rfl rfl rfl hV.blk (by have := hV.bound (List.getElem?_eq_some_iff.1 hr).1; omega) rfl ?_
  intro w1 hu1 hz1 hn1
  replace hUP := hUP.tr (hu1.mono (fun k _ hk => by subst hk; first | exact .inl rfl | exact .inr rfl))
  replace hU := hU.tr (hu1.mono (fun k _ hk => by subst hk; first | exact H.fb | exact H.fg))
  replace hBp := hu1.blk (by omega) hBp
  replace hV := hV.set encRE hr (j := 1) (by decide) (y := (⟨r.lv, false, r.refs, r.a, r.n, r.c⟩ : RR)) rfl hn1; clear hn1
  refine WL.nil ?_
  refine W.reg ?_
  refine WL.y (R.mv (v := .pointer _) rfl) rfl ?_
  refine WL.y (R.mv (v := .int _ _) rfl) rfl ?_
  refine WL.y (R.nilCheck rfl) rfl ?_
  refine WL.y (R.fieldAddr fo75_2 rfl) rfl ?_
  refine WL.store1 (v := .int _ _) sca3 rfl rfl rfl hBp (Nat.le_of_ble_eq_true rfl) rfl ?_
  intro w2 hu2 hz2 hn2
  replace hUP := hUP.tr (hu2.mono (fun k _ hk => by subst hk; first | exact .inl rfl | exact .inr rfl))
  replace hU := hU.tr (hu2.mono (fun k _ hk => by subst hk; first | exact H.fb | exact H.fg))
  replace hV := hV.updB hu2 (by omega)
  replace hBp := hn2; clear hn2
  refine WL.nil ?_
  refine W.reg ?_
  refine WL.y (R.asg (v := .int _ _) rfl) rfl ?_
  refine WL.nil ?_
  refine W.ret ?_
  exact PR.r1 rfl (.tmp rfl) ⟨_, rfl, hU, H.turnS hUP (r' := ⟨r.lv, false, r.refs, r.a, r.n, r.c⟩) (v' := ⟨x.slots, x.refs, false⟩) (now' := k) hr hx ⟨rfl, rfl, rfl⟩ rfl (by first | rfl | (show r.refs = x.refs; exact e1) | (show r.refs + 1 = x.refs + 1; rw [e1]) | (show r.refs - 1 = x.refs - 1; rw [e1])) (by first | rfl | exact e2) hBp ⟨_, hV⟩ (by omega)⟩

theorem rRef_dead (F : Nat → Prop) (b : Nat) (c : Cfg) (p : PSt) (rx : RX) (w : World) (H : RPool w F b c p rx) (v : Int) (hl : pLive p v = false) : CallV Try.prog 40 #[.pointer (some ⟨b, 0, none⟩), i64 v] w fun r w' => r = i64 4 ∧ Ext w w' := by
  have hX : Ext w w := Ext.rfl' w
  obtain ⟨csl, hV⟩ := H.vers
  have hBp := H.blk
  have hlen := H.len
  have h16 := H.v64
  refine Calls.of_W (N := 20) Try.func40 rfl rfl rfl ?_
  refine W.reg ?_
  refine WL.y (R.asg (v := .int _ _) rfl) rfl ?_
  refine WL.nil ?_
  refine W.seq ?_
  refine W.reg ?_
  refine WL.y (R.mv (v := .pointer _) rfl) rfl ?_
  refine WL.y (R.mv (v := .int _ _) rfl) rfl ?_
  refine WL.call Try.func124 rfl rfl ((rlive_calls F b c p rx _ H v).val (y := bl false) (by rw [hl])) rfl rfl ?_
  rintro _ w1 ⟨rfl, hx1⟩
  have hz1 := hx1.size
  replace hX := hX.tr hx1
  replace hBp := hx1.blk hBp
  replace hV := hV.ext hx1
  refine WL.y (R.notF rfl) rfl ?_
  refine WL.nil ?_
  refine W.cond_t rfl ?_
  refine W.reg ?_
  refine WL.y (R.asg (v := .int _ _) rfl) rfl ?_
  refine WL.nil ?_
  refine W.ret ?_
  exact PR.r1 rfl (.tmp rfl) ⟨rfl, hX⟩

theorem rRef_ok (F : Nat → Prop) (b : Nat) (c : Cfg) (p : PSt) (rx : RX) (w : World) (H : RPool w F b c p rx) (k : Nat) (x : Ver) (hl : pLive p k = true) (hx : p.vs[k]? = some x) (hb : 0 ≤ x.refs ∧ x.refs < 4611686018427387904) : CallV Try.prog 40 #[.pointer (some ⟨b, 0, none⟩), i64 (k : Nat)] w fun r w' => ∃ R', r = i64 0 ∧ Upd F w w' ∧ RPool w' F b c (pSet p k ⟨x.slots, x.refs + 1, x.res⟩) R' := by
  have hU : Upd F w w := Upd.rfl' F w
  have hX : Ext w w := Ext.rfl' w
  obtain ⟨csl, hV⟩ := H.vers
  have hBp := H.blk
  have hlen := H.len
  have h16 := H.v64
  have hne := H.ne
  have hUP : Upd (fun k => k = b ∨ k = rx.gl) w w := Upd.rfl' _ w
  obtain ⟨r, hr⟩ : ∃ r, rx.rvs[k]? = some r := ⟨_, List.getElem?_eq_getElem (by have := (List.getElem?_eq_some_iff.1 hx).1; omega)⟩
  obtain ⟨e1, e2, e3, e4, e5⟩ := H.each k r x hr hx
  have hkl := (List.getElem?_eq_some_iff.1 hx).1
  have hnn := H.nn
  refine Calls.of_W (N := 20) Try.func40 rfl rfl rfl ?_
  refine W.reg ?_
  refine WL.y (R.asg (v := .int _ _) rfl) rfl ?_
  refine WL.nil ?_
  refine W.seq ?_
  refine W.reg ?_
  refine WL.y (R.mv (v := .pointer _) rfl) rfl ?_
  refine WL.y (R.mv (v := .int _ _) rfl) rfl ?_
  refine WL.call Try.func124 rfl rfl ((rlive_calls F b c p rx _ H k).val (y := bl true) (by rw [hl])) rfl rfl ?_
  rintro _ w1 ⟨rfl, hx1⟩
  have hz1 := hx1.size
  replace hUP := hUP.tr (hx1.upd _)
  replace hU := hU.tr (hx1.upd _)
  replace hBp := hx1.blk hBp
  replace hV := hV.ext hx1
  refine WL.y (R.notT rfl) rfl ?_
  refine WL.nil ?_
  refine W.cond_f rfl ?_
  refine W.skip ?_
  refine W.reg ?_
  refine WL.y (R.mv (v := .pointer _) rfl) rfl ?_
  refine WL.y (R.nilCheck rfl) rfl ?_
  refine WL.y (R.fieldAddr fo75_1 rfl) rfl ?_
  refine WL.y (R.load sca73 rfl (hBp).r rfl) rfl ?_
  refine WL.y (R.mv (v := .int _ _) rfl) rfl ?_
  refine WL.y (R.indexS Try.underlying73 siz211 rfl rfl rfl (by omega)) rfl ?_
  refine WL.y (R.fieldAddr fo211_2 rfl) rfl ?_
  refine WL.y (R.load sca3 rfl (hV.blk).r ((hV.cell encRE hr (j := 2) (by decide)))) rfl ?_
  refine WL.y (R.addI rfl rfl (by omega)) rfl ?_
  refine WL.y (R.indexS Try.underlying73 siz211 rfl rfl rfl (by omega)) rfl ?_
  refine WL.y (R.fieldAddr fo211_2 rfl) rfl ?_
  refine WL.store1 (v := .int _ _) sca3 rfl rfl rfl hV.blk (by have := hV.bound (List.getElem?_eq_some_iff.1 hr).1; omega) rfl ?_
  intro w2 hu2 hz2 hn2
  replace hUP := hUP.tr (hu2.mono (fun k _ hk => by subst hk; first | exact .inl rfl | exact .inr rfl))
  replace hU := hU.tr (hu2.mono (fun k _ hk => by subst hk; first | exact H.fb | exact H.fg))
  replace hBp := hu2.blk (by omega) hBp
  replace hV := hV.set encRE hr (j := 2) (by decide) (y := (⟨r.lv, r.res, r.refs + 1, r.a, r.n, r.c⟩ : RR)) rfl hn2; clear hn2
  refine WL.nil ?_
  refine W.reg ?_
  refine WL.y (R.asg (v := .int _ _) rfl) rfl ?_
  refine WL.nil ?_
  refine W.ret ?_
  exact PR.r1 rfl (.tmp rfl) ⟨_, rfl, hU, H.turnS hUP (r' := ⟨r.lv, r.res, r.refs + 1, r.a, r.n, r.c⟩) (v' := ⟨x.slots, x.refs + 1, x.res⟩) (now' := p.now) hr hx ⟨rfl, rfl, rfl⟩ rfl (by first | rfl | (show r.refs = x.refs; exact e1) | (show r.refs + 1 = x.refs + 1; rw [e1]) | (show r.refs - 1 = x.refs - 1; rw [e1])) (by first | rfl | exact e2) hBp ⟨_, hV⟩ (by omega)⟩

theorem rUnref_dead (F : Nat → Prop) (b : Nat) (c : Cfg) (p : PSt) (rx : RX) (w : World) (H : RPool w F b c p rx) (v : Int) (hl : pLive p v = false) : CallV Try.prog 42 #[.pointer (some ⟨b, 0, none⟩), i64 v] w fun r w' => r = i64 4 ∧ Ext w w' := by
  have hX : Ext w w := Ext.rfl' w
  obtain ⟨csl, hV⟩ := H.vers
  have hBp := H.blk
  have hlen := H.len
  have h16 := H.v64
  refine Calls.of_W (N := 29) Try.func42 rfl rfl rfl ?_
  refine W.reg ?_
  refine WL.y (R.asg (v := .int _ _) rfl) rfl ?_
  refine WL.nil ?_
  refine W.seq ?_
  refine W.reg ?_
  refine WL.y (R.mv (v := .pointer _) rfl) rfl ?_
  refine WL.y (R.mv (v := .int _ _) rfl) rfl ?_
  refine WL.call Try.func124 rfl rfl ((rlive_calls F b c p rx _ H v).val (y := bl false) (by rw [hl])) rfl rfl ?_
  rintro _ w1 ⟨rfl, hx1⟩
  have hz1 := hx1.size
  replace hX := hX.tr hx1
  replace hBp := hx1.blk hBp
  replace hV := hV.ext hx1
  refine WL.y (R.notF rfl) rfl ?_
  refine WL.nil ?_
  refine W.cond_t rfl ?_
  refine W.reg ?_
  refine WL.y (R.asg (v := .int _ _) rfl) rfl ?_
  refine WL.nil ?_
  refine W.ret ?_
  exact PR.r1 rfl (.tmp rfl) ⟨rfl, hX⟩

theorem rUnref_busy (F : Nat → Prop) (b : Nat) (c : Cfg) (p : PSt) (rx : RX) (w : World) (H : RPool w F b c p rx) (k : Nat) (x : Ver) (hl : pLive p k = true) (hx : p.vs[k]? = some x) (h0 : x.refs = 0) : CallV Try.prog 42 #[.pointer (some ⟨b, 0, none⟩), i64 (k : Nat)] w fun r w' => r = i64 5 ∧ Ext w w' := by
  have hX : Ext w w := Ext.rfl' w
  obtain ⟨csl, hV⟩ := H.vers
  have hBp := H.blk
  have hlen := H.len
  have h16 := H.v64
  obtain ⟨r, hr⟩ : ∃ r, rx.rvs[k]? = some r := ⟨_, List.getElem?_eq_getElem (by have := (List.getElem?_eq_some_iff.1 hx).1; omega)⟩
  obtain ⟨e1, e2, e3, e4, e5⟩ := H.each k r x hr hx
  have hkl := (List.getElem?_eq_some_iff.1 hx).1
  have hnn := H.nn
  refine Calls.of_W (N := 29) Try.func42 rfl rfl rfl ?_
  refine W.reg ?_
  refine WL.y (R.asg (v := .int _ _) rfl) rfl ?_
  refine WL.nil ?_
  refine W.seq ?_
  refine W.reg ?_
  refine WL.y (R.mv (v := .pointer _) rfl) rfl ?_
  refine WL.y (R.mv (v := .int _ _) rfl) rfl ?_
  refine WL.call Try.func124 rfl rfl ((rlive_calls F b c p rx _ H k).val (y := bl true) (by rw [hl])) rfl rfl ?_
  rintro _ w1 ⟨rfl, hx1⟩
  have hz1 := hx1.size
  replace hX := hX.tr hx1
  replace hBp := hx1.blk hBp
  replace hV := hV.ext hx1
  refine WL.y (R.notT rfl) rfl ?_
  refine WL.nil ?_
  refine W.cond_f rfl ?_
  refine W.skip ?_
  refine W.seq ?_
  refine W.reg ?_
  refine WL.y (R.mv (v := .pointer _) rfl) rfl ?_
  refine WL.y (R.nilCheck rfl) rfl ?_
  refine WL.y (R.fieldAddr fo75_1 rfl) rfl ?_
  refine WL.y (R.load sca73 rfl (hBp).r rfl) rfl ?_
  refine WL.y (R.mv (v := .int _ _) rfl) rfl ?_
  refine WL.y (R.indexS Try.underlying73 siz211 rfl rfl rfl (by omega)) rfl ?_
  refine WL.y (R.fieldAddr fo211_2 rfl) rfl ?_
  refine WL.y (R.load sca3 rfl (hV.blk).r ((hV.cell encRE hr (j := 2) (by decide)))) rfl ?_
  refine WL.y (R.eqlT rfl rfl (e1.trans h0)) rfl ?_
  refine WL.nil ?_
  refine W.cond_t rfl ?_
  refine W.reg ?_
  refine WL.y (R.asg (v := .int _ _) rfl) rfl ?_
  refine WL.nil ?_
  refine W.ret ?_
  exact PR.r1 rfl (.tmp rfl) ⟨rfl, hX⟩

theorem rUnref_ok (F : Nat → Prop) (b : Nat) (c : Cfg) (p : PSt) (rx : RX) (w : World) (H : RPool w F b c p rx) (k : Nat) (x : Ver) (hl : pLive p k = true) (hx : p.vs[k]? = some x) (hb : 1 ≤ x.refs ∧ x.refs < 4611686018427387904) : CallV Try.prog 42 #[.pointer (some ⟨b, 0, none⟩), i64 (k : Nat)] w fun r w' => ∃ R', r = i64 0 ∧ Upd F w w' ∧ RPool w' F b c (pSet p k ⟨x.slots, x.refs - 1, x.res⟩) R' := by
  have hU : Upd F w w := Upd.rfl' F w
  have hX : Ext w w := Ext.rfl' w
  obtain ⟨csl, hV⟩ := H.vers
  have hBp := H.blk
  have hlen := H.len
  have h16 := H.v64
  have hne := H.ne
  have hUP : Upd (fun k => k = b ∨ k = rx.gl) w w := Upd.rfl' _ w
  obtain ⟨r, hr⟩ : ∃ r, rx.rvs[k]? = some r := ⟨_, List.getElem?_eq_getElem (by have := (List.getElem?_eq_some_iff.1 hx).1; omega)⟩
  obtain ⟨e1, e2, e3, e4, e5⟩ := H.each k r x hr hx
  have hkl := (List.getElem?_eq_some_iff.1 hx).1
  have hnn := H.nn
  refine Calls.of_W (N := 29) Try.func42 rfl rfl rfl ?_
  refine W.reg ?_
  refine WL.y (R.asg (v := .int _ _) rfl) rfl ?_
  refine WL.nil ?_
  refine W.seq ?_
  refine W.reg ?_
  refine WL.y (R.mv (v := .pointer _) rfl) rfl ?_
  refine WL.y (R.mv (v := .int _ _) rfl) rfl ?_
  refine WL.call Try.func124 rfl rfl ((rlive_calls F b c p rx _ H k).val (y := bl true) (by rw [hl])) rfl rfl ?_
  rintro _ w1 ⟨rfl, hx1⟩
  have hz1 := hx1.size
  replace hUP := hUP.tr (hx1.upd _)
  replace hU := hU.tr (hx1.upd _)
  replace hBp := hx1.blk hBp
  replace hV := hV.ext hx1
  refine WL.y (R.notT rfl) rfl ?_
  refine WL.nil ?_
  refine W.cond_f rfl ?_
  refine W.skip ?_
  refine W.seq ?_
  refine W.reg ?_
  refine WL.y (R.mv (v := .pointer _) rfl) rfl ?_
  refine WL.y (R.nilCheck rfl) rfl ?_
  refine WL.y (R.fieldAddr fo75_1 rfl) rfl ?_
  refine WL.y (R.load sca73 rfl (hBp).r rfl) rfl ?_
  refine WL.y (R.mv (v := .int _ _) rfl) rfl ?_
  refine WL.y (R.indexS Try.underlying73 siz211 rfl rfl rfl (by omega)) rfl ?_
  refine WL.y (R.fieldAddr fo211_2 rfl) rfl ?_
  refine WL.y (R.load sca3 rfl (hV.blk).r ((hV.cell encRE hr (j := 2) (by decide)))) rfl ?_
  refine WL.y (R.eqlF rfl rfl (by omega)) rfl ?_
  refine WL.nil ?_
  refine W.cond_f rfl ?_
  refine W.skip ?_
  refine W.reg ?_
  refine WL.y (R.mv (v := .pointer _) rfl) rfl ?_
  refine WL.y (R.nilCheck rfl) rfl ?_
  refine WL.y (R.fieldAddr fo75_1 rfl) rfl ?_
  refine WL.y (R.load sca73 rfl (hBp).r rfl) rfl ?_
  refine WL.y (R.mv (v := .int _ _) rfl) rfl ?_
  refine WL.y (R.indexS Try.underlying73 siz211 rfl rfl rfl (by omega)) rfl ?_
  refine WL.y (R.fieldAddr fo211_2 rfl) rfl ?_
  refine WL.y (R.load sca3 rfl (hV.blk).r ((hV.cell encRE hr (j := 2) (by decide)))) rfl ?_
  refine WL.y (R.subI rfl rfl (by omega)) rfl ?_
  refine WL.y (R.indexS Try.underlying73 siz211 rfl rfl rfl (by omega)) rfl ?_
  refine WL.y (R.fieldAddr fo211_2 rfl) rfl ?_
  refine WL.store1 (v := .int _ _) sca3 rfl rfl rfl hV.blk (by have := hV.bound (List.getElem?_eq_some_iff.1 hr).1; omega) rfl ?_
  intro w2 hu2 hz2 hn2
  replace hUP := hUP.tr (hu2.mono (fun k _ hk => by subst hk; first | exact .inl rfl | exact .inr rfl))
  replace hU := hU.tr (hu2.mono (fun k _ hk => by subst hk; first | exact H.fb | exact H.fg))
  replace hBp := hu2.blk (by omega) hBp
  replace hV := hV.set encRE hr (j := 2) (by decide) (y := (⟨r.lv, r.res, r.refs - 1, r.a, r.n, r.c⟩ : RR)) rfl hn2; clear hn2
  refine WL.nil ?_
  refine W.reg ?_
  refine WL.y (R.asg (v := .int _ _) rfl) rfl ?_
  refine WL.nil ?_
  refine W.ret ?_
  exact PR.r1 rfl (.tmp rfl) ⟨_, rfl, hU, H.turnS hUP (r' := ⟨r.lv, r.res, r.refs - 1, r.a, r.n, r.c⟩) (v' := ⟨x.slots, x.refs - 1, x.res⟩) (now' := p.now) hr hx ⟨rfl, rfl, rfl⟩ rfl (by first | rfl | (show r.refs = x.refs; exact e1) | (show r.refs + 1 = x.refs + 1; rw [e1]) | (show r.refs - 1 = x.refs - 1; rw [e1])) (by first | rfl | exact e2) hBp ⟨_, hV⟩ (by omega)⟩
end Go.Proofs.Ytkjecokkdbapkaa
