import Derived.Test.YtkjecokkdbapkaaZzSome18
import Derived.Test.YtkjecokkdbapkaaProg
namespace Go.Proofs.Ytkjecokkdbapkaa
set_option linter.all false
open Go Go.Eng Go.RowKit
set_option maxRecDepth 20000
set_option maxHeartbeats 2000000
set_option linter.unusedVariables false
set_option linter.unusedSimpArgs false
attribute [local irreducible] WL W QL WA SP



theorem Now_nil (w : World) : CallV Try.prog 43 #[.pointer none] w fun r w' => r = i64 0 ∧ Ext w w' := by
  have hX : Ext w w := Ext.rfl' w
  refine Calls.of_W (N := 9) Try.func43 rfl rfl rfl ?_
  refine W.reg ?_
  refine WL.y (R.asg (v := .int _ _) rfl) rfl ?_
  refine WL.nil ?_
  refine W.seq ?_
  refine W.reg ?_
  refine WL.y (R.mv (v := .pointer _) rfl) rfl ?_
  refine WL.y (R.eqlNil Try.underlying61 rfl) rfl ?_
  refine WL.nil ?_
  refine W.cond_t rfl ?_
  refine W.reg ?_
  refine WL.y (R.asg (v := .int _ _) rfl) rfl ?_
  refine WL.nil ?_
  refine W.ret ?_
  exact PR.r1 rfl (.tmp rfl) ⟨rfl, hX⟩

theorem live_nil (v : Int) (w : World) : CallV Try.prog 123 #[.pointer none, i64 v] w fun r w' => r = bl false ∧ Ext w w' := by
  have hX : Ext w w := Ext.rfl' w
  refine Calls.of_W (N := 49) Try.func123 rfl rfl rfl ?_
  refine W.reg ?_
  refine WL.y (R.asg (v := .bool false) rfl) rfl ?_
  refine WL.nil ?_
  refine W.reg ?_
  refine WL.y (R.mv (v := .pointer _) rfl) rfl ?_
  refine WL.y (R.neqNil Try.underlying61 rfl) rfl ?_
  refine WL.y (R.mv (v := .bool false) rfl) rfl ?_
  refine WL.skip rfl ?_
  refine WL.skip rfl ?_
  refine WL.y (R.pkF (v := .bool false) rfl rfl) rfl ?_
  refine WL.y (R.mv (v := .bool false) rfl) rfl ?_
  refine WL.skip rfl ?_
  refine WL.skip rfl ?_
  refine WL.skip rfl ?_
  refine WL.skip rfl ?_
  refine WL.skip rfl ?_
  refine WL.skip rfl ?_
  refine WL.skip rfl ?_
  refine WL.y (R.pkF (v := .bool false) rfl rfl) rfl ?_
  refine WL.y (R.mv (v := .bool false) rfl) rfl ?_
  refine WL.skip rfl ?_
  refine WL.skip rfl ?_
  refine WL.skip rfl ?_
  refine WL.skip rfl ?_
  refine WL.skip rfl ?_
  refine WL.skip rfl ?_
  refine WL.skip rfl ?_
  refine WL.skip rfl ?_
  refine WL.skip rfl ?_
  refine WL.skip rfl ?_
  refine WL.skip rfl ?_
  refine WL.skip rfl ?_
  refine WL.skip rfl ?_
  refine WL.skip rfl ?_
  refine WL.skip rfl ?_
  refine WL.skip rfl ?_
  refine WL.skip rfl ?_
  refine WL.skip rfl ?_
  refine WL.skip rfl ?_
  refine WL.skip rfl ?_
  refine WL.skip rfl ?_
  refine WL.skip rfl ?_
  refine WL.skip rfl ?_
  refine WL.skip rfl ?_
  refine WL.skip rfl ?_
  refine WL.skip rfl ?_
  refine WL.skip rfl ?_
  refine WL.y (R.pkF (v := .bool false) rfl rfl) rfl ?_
  refine WL.y (R.asg (v := .bool false) rfl) rfl ?_
  refine WL.nil ?_
  refine W.ret ?_
  exact PR.r1 rfl (.tmp rfl) ⟨rfl, hX⟩

theorem Ref_nil (v : Int) (w : World) : CallV Try.prog 39 #[.pointer none, i64 v] w fun r w' => r = i64 4 ∧ Ext w w' := by
  have hX : Ext w w := Ext.rfl' w
  refine Calls.of_W (N := 20) Try.func39 rfl rfl rfl ?_
  refine W.reg ?_
  refine WL.y (R.asg (v := .int _ _) rfl) rfl ?_
  refine WL.nil ?_
  refine W.seq ?_
  refine W.reg ?_
  refine WL.y (R.mv (v := .pointer _) rfl) rfl ?_
  refine WL.y (R.mv (v := .int _ _) rfl) rfl ?_
  refine WL.call Try.func123 rfl rfl (live_nil v _) rfl rfl ?_
  rintro _ w1 ⟨rfl, hx1⟩
  have hz1 := hx1.size
  replace hX := hX.tr hx1
  refine WL.y (R.notF rfl) rfl ?_
  refine WL.nil ?_
  refine W.cond_t rfl ?_
  refine W.reg ?_
  refine WL.y (R.asg (v := .int _ _) rfl) rfl ?_
  refine WL.nil ?_
  refine W.ret ?_
  exact PR.r1 rfl (.tmp rfl) ⟨rfl, hX⟩

def cfg2 (seed : Int) : Cfg := { roomy seed with versions := 2 }
theorem cfg2_ok (seed : Int) : CfgOK (cfg2 seed) := { roomy_ok seed with versions := by simp [cfg2] }
abbrev q0 : PSt := pNew (cfg2 1) (someM 0 2)
abbrev q1 : PSt := pReserve (cfg2 1) q0 (someM 1 2)
abbrev q2 : PSt := ⟨q1.vs.set 1 ⟨fill q0.sl (someM 1 2) 32, 0, false⟩, 1, q1.last, q1.sl⟩
abbrev q3 : PSt := pReserve (cfg2 1) q2 []
theorem q0_first : pFirst q0 = 1 := by kernel_rfl
theorem q1_at : q1.vs[1]? = some ⟨fill q0.sl (someM 1 2) 32, 0, true⟩ := by kernel_rfl
theorem q1_full : pFirst q1 = q1.vs.length := by kernel_rfl
theorem q1_live : pLive q1 (1 : Nat) = true := by kernel_rfl
theorem q2_at : q2.vs[1]? = some ⟨fill q0.sl (someM 1 2) 32, 0, false⟩ := by kernel_rfl
theorem q2_live : pLive q2 (1 : Nat) = true := by kernel_rfl
theorem q2_first : pFirst q2 = 0 := by kernel_rfl
theorem q3_at : q3.vs[1]? = some ⟨fill q0.sl (someM 1 2) 32, 0, false⟩ := by kernel_rfl
theorem q3_0 : q3.vs[0]? = some ⟨[], 0, true⟩ := by kernel_rfl
theorem q3_live (v : Nat) (h : v < 2) : pLive q3 (v : Nat) = true := by
  rcases v with _ | _ | v
  · kernel_rfl
  · kernel_rfl
  · omega
theorem pSet_live {p : PSt} {k : Nat} {v : Ver} (hk : (k : Int) = p.now) (h : pLive p (k : Nat) = true) : pLive (pSet p k v) (k : Nat) = true := by
  have h2 := pLive_bd h
  exact pLive_now (by simpa [pSet] using h2.2) hk
abbrev q4 : PSt := pSet q3 1 ⟨fill q0.sl (someM 1 2) 32, 0 + 1, false⟩
abbrev q5 : PSt := pSet q4 1 ⟨fill q0.sl (someM 1 2) 32, 0 + 1 - 1, false⟩
theorem q4_at : q4.vs[1]? = some ⟨fill q0.sl (someM 1 2) 32, 0 + 1, false⟩ := by kernel_rfl
theorem q5_at : q5.vs[1]? = some ⟨fill q0.sl (someM 1 2) 32, 0 + 1 - 1, false⟩ := by kernel_rfl
theorem q5_0 : q5.vs[0]? = some ⟨[], 0, true⟩ := by kernel_rfl
theorem q4_live : pLive q4 (1 : Nat) = true := by kernel_rfl
theorem q5_live (v : Nat) (h : v < 2) : pLive q5 (v : Nat) = true := by
  rcases v with _ | _ | v
  · kernel_rfl
  · kernel_rfl
  · omega
theorem q5_liveL : liveL q5 = [0, 1] := by kernel_rfl
theorem q_slot : ∃ d, (fill q0.sl (someM 1 2) 32)[31]? = some d := by
  have h : (fill q0.sl (someM 1 2) 32).length = 32 := fill_length (by decide) (someM_ok 1 2) (by rw [someM_len]; decide)
  exact ⟨_, List.getElem?_eq_getElem (by omega)⟩

theorem awake18_calls (w : World) : CallV Try.prog 30 #[] w fun v w' => v = bl true ∧ Ext w w' := by
  have hX : Ext w w := Ext.rfl' w
  have hU : ∀ k, (fun k => w.heap.size ≤ k) k → w.heap.size ≤ k := fun _ h => h
  have hS : Star (fun k => w.heap.size ≤ k) w [] := Star.nil fun _ h => h
  generalize (fun k => w.heap.size ≤ k) = U at hU hS
  refine Calls.of_W (N := 160) Try.func30 rfl rfl rfl ?_
  refine W.reg ?_
  refine WL.y (R.asg (v := .bool false) rfl) rfl ?_
  refine WL.nil ?_
  refine W.reg ?_
  refine WL.call Try.func21 rfl rfl (roomy_calls 1 _) rfl rfl ?_
  rintro _ w1 ⟨rfl, hx1⟩
  replace hS := hS.ext hx1
  replace hX := hX.tr hx1
  refine WL.alloc zer33 rfl ?_
  intro b2 w2 hb2 hs2 hx2 hB2
  replace hS := hS.pushBox hb2 hx2 hB2
  replace hX := hX.tr hx2
  clear hB2 hs2
  refine WL.store (v := .agg _) siz33 rfl rfl rfl rfl hS.blk0 (Nat.le_of_ble_eq_true rfl) rfl rfl ?_
  intro w3 hu3 hz3 hn3
  have hN := hS.box0 hu3 hn3
  replace hS := hN.1
  replace hX := hN.2 _ hX hU
  clear hN hn3 hu3 hz3
  refine WL.nil ?_
  refine W.reg ?_
  refine WL.y (R.fieldAddr fo33_6 rfl) rfl ?_
  refine WL.store1 (v := .int _ _) sca3 rfl rfl rfl hS.blk0 (Nat.le_of_ble_eq_true rfl) rfl ?_
  intro w4 hu4 hz4 hn4
  have hN := hS.box0 hu4 hn4
  replace hS := hN.1
  replace hX := hN.2 _ hX hU
  clear hN hn4 hu4 hz4
  refine WL.nil ?_
  refine W.seq ?_
  refine W.draw (fun j => [1000].contains j) (fun wI => Ext w4 wI) rfl ?_
  have hI5 := Ext.dr w4
  refine WA.batch [0] 7 (by kernel_rfl) hI5 ?_
  refine QL.y (fun wq hq => (R.loadA agg33 rfl (hq.blkR (hS.blk0).r) rfl rfl)) rfl ?_
  refine QL.nil ?_
  have hD5 := Ext.dr w4
  have hD5z := hD5.size
  have hS0 := hS
  have hXo := hX
  replace hS := hS.ext hD5
  replace hX := hX.tr hD5
  refine WA.one 1 6 (by kernel_rfl) ?_
  have hX0 := hX
  refine WL.call Try.func35 rfl rfl (some18_calls 0 2 (by decide) _) rfl rfl ?_
  rintro _ w6 ⟨⟨a6, c6, rfl, hl6, hf6⟩, hx6⟩
  replace hS := hS.pushSli hx6 hl6 hf6
  replace hX := hX.tr hx6
  refine WL.nil ?_
  refine ⟨fun _ h => h.tr hx6, ?_⟩
  replace hI5 := hI5.tr hx6
  clear hX0
  refine WA.one 2 5 (by kernel_rfl) ?_
  have hX0 := hX
  refine WL.call Try.func32 rfl rfl (New_good (cfg2 1) (cfg2_ok 1) (someM 0 2) _ _ _ (hS.sli0) (someM_ok 0 2)) rfl rfl ?_
  rintro _ w7 ⟨⟨bp, rfl, hb7, hP7⟩, hx7⟩
  replace hS := hS.push hx7 (A := poolA bp (cfg2 1) (pNew (cfg2 1) (someM 0 2))) hP7 (fun k hk => hk.1)
  replace hX := hX.tr hx7
  refine WL.nil ?_
  refine ⟨fun _ h => h.tr hx7, ?_⟩
  replace hI5 := hI5.tr hx7
  clear hX0
  refine WA.pures [3, 4, 5, 6, 7] 0 (by kernel_rfl) ?_
  refine QL.y (fun wq hq => (R.mv (v := .tuple _) rfl)) rfl ?_
  refine QL.y (fun wq hq => (R.extract rfl rfl)) rfl ?_
  refine QL.y (fun wq hq => (R.extract rfl rfl)) rfl ?_
  refine QL.y (fun wq hq => (R.asg (v := .pointer _) rfl)) rfl ?_
  refine QL.y (fun wq hq => (R.asg (v := .int _ _) rfl)) rfl ?_
  refine QL.nil ?_
  refine WA.done (by kernel_rfl) ?_
  refine W.reg ?_
  refine WL.y (R.buildE (parts := []) (vs := encCfg cfg0) bld33 (by kernel_rfl) (by kernel_rfl)) rfl ?_
  refine WL.call Try.func32 rfl rfl (New_zero _ _ _ _) rfl rfl ?_
  rintro _ w8 ⟨rfl, hx8⟩
  replace hS := hS.ext hx8
  replace hX := hX.tr hx8
  refine WL.y (R.mv (v := .tuple _) rfl) rfl ?_
  refine WL.y (R.extract rfl rfl) rfl ?_
  refine WL.y (R.extract rfl rfl) rfl ?_
  refine WL.y (R.asg (v := .pointer _) rfl) rfl ?_
  refine WL.y (R.asg (v := .int _ _) rfl) rfl ?_
  refine WL.nil ?_
  refine W.seq ?_
  refine W.reg ?_
  refine WL.y (R.mv (v := .int _ _) rfl) rfl ?_
  refine WL.y (R.neqF rfl rfl rfl) rfl ?_
  refine WL.y (R.mv (v := .bool false) rfl) rfl ?_
  refine WL.y (R.mv (v := .pointer _) rfl) rfl ?_
  refine WL.y (R.eqlNil Try.underlying61 rfl) rfl ?_
  refine WL.y (R.pkF (v := .bool false) rfl rfl) rfl ?_
  refine WL.nil ?_
  refine W.cond_f rfl ?_
  refine W.skip ?_
  refine W.reg ?_
  refine WL.y (R.mv (v := .pointer _) rfl) rfl ?_
  refine WL.call Try.func35 rfl rfl (some18_calls 1 2 (by decide) _) rfl rfl ?_
  rintro _ w9 ⟨⟨a9, c9, rfl, hl9, hf9⟩, hx9⟩
  replace hS := hS.pushSli hx9 hl9 hf9
  replace hX := hX.tr hx9
  obtain ⟨F10, hP10, hFU10, hR10, hf10⟩ := hS.splitR1
  refine WL.call Try.func34 rfl rfl (Reserve_ok F10 bp (cfg2 1) q0 _ hP10 (someM 1 2) _ _ (hS.sli0) (fun k hk => (hR10.sliD0 k hk).2) (someM_ok 1 2) (by rw [q0_first]; decide)) rfl rfl ?_
  rintro _ w10 ⟨G10, rfl, hu10, hQ10, hF10⟩
  replace hS := hf10 hu10 (B := poolA bp (cfg2 1) (pReserve (cfg2 1) q0 (someM 1 2))) hQ10 hF10
  replace hX := hX.putU hu10 (fun k hk => hU k (hFU10 k hk))
  clear hf10 hFU10 hP10 hu10 hQ10 hR10 hF10
  refine WL.y (R.mv (v := .tuple _) rfl) rfl ?_
  refine WL.y (R.extract rfl rfl) rfl ?_
  refine WL.y (R.extract rfl rfl) rfl ?_
  refine WL.y (R.asg (v := .int _ _) rfl) rfl ?_
  refine WL.y (R.asg (v := .int _ _) rfl) rfl ?_
  refine WL.nil ?_
  refine W.reg ?_
  refine WL.y (R.mv (v := .pointer _) rfl) rfl ?_
  obtain ⟨F11, hP11, -, -⟩ := hS.split1
  refine WL.call Try.func34 rfl rfl (Reserve_full F11 bp (cfg2 1) q1 _ hP11 [] _ _ (Sli.nil encMem 19 _) rfl q1_full) rfl rfl ?_
  rintro _ w11 ⟨rfl, hx11⟩
  clear hP11
  replace hS := hS.ext hx11
  replace hX := hX.tr hx11
  refine WL.y (R.mv (v := .tuple _) rfl) rfl ?_
  refine WL.y (R.extract rfl rfl) rfl ?_
  refine WL.y (R.extract rfl rfl) rfl ?_
  refine WL.y (R.asg (v := .int _ _) rfl) rfl ?_
  refine WL.y (R.asg (v := .int _ _) rfl) rfl ?_
  refine WL.nil ?_
  refine W.reg ?_
  refine WL.y (R.mv (v := .pointer _) rfl) rfl ?_
  refine WL.y (R.mv (v := .int _ _) rfl) rfl ?_
  obtain ⟨F12, hP12, hFU12, hf12⟩ := hS.split1
  refine WL.call Try.func37 rfl rfl (Serve_ok F12 bp (cfg2 1) q1 _ hP12 1 _ q1_live q1_at rfl) rfl rfl ?_
  rintro _ w12 ⟨rfl, hu12, hQ12⟩
  replace hS := hf12 hu12 (B := poolA bp (cfg2 1) q2) hQ12 (fun k hk => .inl hk)
  replace hX := hX.putU hu12 (fun k hk => hU k (hFU12 k hk))
  clear hf12 hFU12 hP12 hu12 hQ12
  refine WL.y (R.asg (v := .int _ _) rfl) rfl ?_
  refine WL.nil ?_
  refine W.reg ?_
  refine WL.y (R.mv (v := .pointer _) rfl) rfl ?_
  refine WL.y (R.mv (v := .int _ _) rfl) rfl ?_
  obtain ⟨F13, hP13, -, -⟩ := hS.split1
  refine WL.call Try.func37 rfl rfl (Serve_no F13 bp (cfg2 1) q2 _ hP13 1 _ q2_live q2_at rfl) rfl rfl ?_
  rintro _ w13 ⟨rfl, hx13⟩
  replace hS := hS.ext hx13
  replace hX := hX.tr hx13
  clear hP13
  refine WL.y (R.asg (v := .int _ _) rfl) rfl ?_
  refine WL.nil ?_
  refine W.reg ?_
  refine WL.y (R.mv (v := .pointer _) rfl) rfl ?_
  obtain ⟨F14, hP14, hFU14, hR14, hf14⟩ := hS.splitR1
  refine WL.call Try.func34 rfl rfl (Reserve_ok F14 bp (cfg2 1) q2 _ hP14 [] _ _ (Sli.nil encMem 19 _) (fun k hk => absurd hk.1 (owns_none k)) rfl (by rw [q2_first]; decide)) rfl rfl ?_
  rintro _ w14 ⟨G14, rfl, hu14, hQ14, hF14⟩
  replace hS := hf14 hu14 (B := poolA bp (cfg2 1) q3) hQ14 hF14
  replace hX := hX.putU hu14 (fun k hk => hU k (hFU14 k hk))
  clear hf14 hFU14 hP14 hu14 hQ14 hR14 hF14
  refine WL.y (R.mv (v := .tuple _) rfl) rfl ?_
  refine WL.y (R.extract rfl rfl) rfl ?_
  refine WL.y (R.extract rfl rfl) rfl ?_
  refine WL.y (R.asg (v := .int _ _) rfl) rfl ?_
  refine WL.y (R.asg (v := .int _ _) rfl) rfl ?_
  refine WL.nil ?_
  refine W.reg ?_
  refine WL.y (R.mv (v := .pointer _) rfl) rfl ?_
  refine WL.y (R.mv (v := .int _ _) rfl) rfl ?_
  obtain ⟨F15, hP15, hFU15, hf15⟩ := hS.split1
  refine WL.call Try.func39 rfl rfl (Ref_ok F15 bp (cfg2 1) q3 _ hP15 1 _ (q3_live 1 (by decide)) q3_at (by decide)) rfl rfl ?_
  rintro _ w15 ⟨rfl, hu15, hQ15⟩
  replace hS := hf15 hu15 (B := poolA bp (cfg2 1) q4) hQ15 (fun k hk => .inl hk)
  replace hX := hX.putU hu15 (fun k hk => hU k (hFU15 k hk))
  clear hf15 hFU15 hP15 hu15 hQ15
  refine WL.y (R.mv (v := .pointer _) rfl) rfl ?_
  refine WL.y (R.mv (v := .int _ _) rfl) rfl ?_
  obtain ⟨F16, hP16, hFU16, hf16⟩ := hS.split1
  refine WL.call Try.func41 rfl rfl (Unref_ok F16 bp (cfg2 1) q4 _ hP16 1 _ q4_live q4_at (by decide)) rfl rfl ?_
  rintro _ w16 ⟨rfl, hu16, hQ16⟩
  replace hS := hf16 hu16 (B := poolA bp (cfg2 1) q5) hQ16 (fun k hk => .inl hk)
  replace hX := hX.putU hu16 (fun k hk => hU k (hFU16 k hk))
  clear hf16 hFU16 hP16 hu16 hQ16
  refine WL.y (R.mv (v := .pointer _) rfl) rfl ?_
  refine WL.y (R.mv (v := .int _ _) rfl) rfl ?_
  obtain ⟨F17, hP17, -, -⟩ := hS.split1
  refine WL.call Try.func41 rfl rfl (Unref_busy F17 bp (cfg2 1) q5 _ hP17 1 _ (q5_live 1 (by decide)) q5_at rfl) rfl rfl ?_
  rintro _ w17 ⟨rfl, hx17⟩
  replace hS := hS.ext hx17
  replace hX := hX.tr hx17
  clear hP17
  refine WL.y (R.asg (v := .int _ _) rfl) rfl ?_
  refine WL.y (R.asg (v := .int _ _) rfl) rfl ?_
  refine WL.y (R.asg (v := .int _ _) rfl) rfl ?_
  refine WL.nil ?_
  refine W.reg ?_
  refine WL.y (R.mv (v := .pointer _) rfl) rfl ?_
  refine WL.y (R.mv (v := .int _ _) rfl) rfl ?_
  obtain ⟨F18, hP18, -, -⟩ := hS.split1
  refine WL.call Try.func50 rfl rfl (Dip_out F18 bp (cfg2 1) q5 _ hP18 0 _ 0 (q5_live 0 (by decide)) q5_0 (.inr (Int.le_refl _))) rfl rfl ?_
  rintro _ w18 ⟨rfl, hx18⟩
  replace hS := hS.ext hx18
  replace hX := hX.tr hx18
  clear hP18
  refine WL.y (R.mv (v := .tuple _) rfl) rfl ?_
  refine WL.y (R.extract rfl rfl) rfl ?_
  refine WL.y (R.extract rfl rfl) rfl ?_
  refine WL.alloc zer54 rfl ?_
  intro b19 w19 hb19 hs19 hx19 hB19
  replace hS := hS.pushBox hb19 hx19 hB19
  replace hX := hX.tr hx19
  clear hB19 hs19
  refine WL.store (v := .agg _) siz54 rfl rfl rfl rfl hS.blk0 (Nat.le_of_ble_eq_true rfl) rfl rfl ?_
  intro w20 hu20 hz20 hn20
  have hN := hS.box0 hu20 hn20
  replace hS := hN.1
  replace hX := hN.2 _ hX hU
  clear hN hn20 hu20 hz20
  refine WL.y (R.asg (v := .bool false) rfl) rfl ?_
  refine WL.nil ?_
  refine W.reg ?_
  refine WL.y (R.mv (v := .pointer _) rfl) rfl ?_
  refine WL.y (R.mv (v := .int _ _) rfl) rfl ?_
  obtain ⟨d31, hd31⟩ := q_slot
  obtain ⟨F21, hP21, -, -⟩ := hS.split2
  refine WL.call Try.func50 rfl rfl (Dip_in F21 bp (cfg2 1) q5 _ hP21 1 _ 31 d31 (q5_live 1 (by decide)) q5_at hd31) rfl rfl ?_
  rintro _ w21 ⟨rfl, hx21⟩
  replace hS := hS.ext hx21
  replace hX := hX.tr hx21
  clear hP21
  refine WL.y (R.mv (v := .tuple _) rfl) rfl ?_
  refine WL.y (R.extract rfl rfl) rfl ?_
  refine WL.y (R.extract rfl rfl) rfl ?_
  refine WL.alloc zer54 rfl ?_
  intro b22 w22 hb22 hs22 hx22 hB22
  replace hS := hS.pushBox hb22 hx22 hB22
  replace hX := hX.tr hx22
  clear hB22 hs22
  refine WL.store (v := .agg _) siz54 rfl rfl rfl rfl hS.blk0 (Nat.le_of_ble_eq_true rfl) rfl rfl ?_
  intro w23 hu23 hz23 hn23
  have hN := hS.box0 hu23 hn23
  replace hS := hN.1
  replace hX := hN.2 _ hX hU
  clear hN hn23 hu23 hz23
  refine WL.y (R.asg (v := .bool true) rfl) rfl ?_
  refine WL.nil ?_
  refine W.reg ?_
  refine WL.y (R.asg (v := .pointer _) rfl) rfl ?_
  refine WL.nil ?_
  refine W.reg ?_
  refine WL.y (R.mv (v := .int _ _) rfl) rfl ?_
  refine WL.y (R.eqlT rfl rfl rfl) rfl ?_
  refine WL.y (R.mv (v := .bool true) rfl) rfl ?_
  refine WL.y (R.mv (v := .int _ _) rfl) rfl ?_
  refine WL.y (R.eqlT rfl rfl rfl) rfl ?_
  refine WL.y (R.pkT (v := .bool true) rfl rfl) rfl ?_
  refine WL.y (R.mv (v := .bool true) rfl) rfl ?_
  refine WL.y (R.mv (v := .int _ _) rfl) rfl ?_
  refine WL.y (R.eqlT rfl rfl rfl) rfl ?_
  refine WL.y (R.pkT (v := .bool true) rfl rfl) rfl ?_
  refine WL.y (R.mv (v := .bool true) rfl) rfl ?_
  refine WL.y (R.mv (v := .int _ _) rfl) rfl ?_
  refine WL.y (R.eqlT rfl rfl rfl) rfl ?_
  refine WL.y (R.pkT (v := .bool true) rfl rfl) rfl ?_
  refine WL.y (R.mv (v := .bool true) rfl) rfl ?_
  refine WL.y (R.mv (v := .int _ _) rfl) rfl ?_
  refine WL.y (R.eqlT rfl rfl rfl) rfl ?_
  refine WL.y (R.pkT (v := .bool true) rfl rfl) rfl ?_
  refine WL.y (R.mv (v := .bool true) rfl) rfl ?_
  refine WL.y (R.mv (v := .int _ _) rfl) rfl ?_
  refine WL.y (R.eqlT rfl rfl rfl) rfl ?_
  refine WL.y (R.pkT (v := .bool true) rfl rfl) rfl ?_
  refine WL.y (R.mv (v := .bool true) rfl) rfl ?_
  refine WL.y (R.mv (v := .int _ _) rfl) rfl ?_
  refine WL.y (R.eqlT rfl rfl rfl) rfl ?_
  refine WL.y (R.pkT (v := .bool true) rfl rfl) rfl ?_
  refine WL.y (R.mv (v := .bool true) rfl) rfl ?_
  refine WL.y (R.mv (v := .int _ _) rfl) rfl ?_
  refine WL.y (R.eqlT rfl rfl rfl) rfl ?_
  refine WL.y (R.pkT (v := .bool true) rfl rfl) rfl ?_
  refine WL.y (R.mv (v := .bool true) rfl) rfl ?_
  refine WL.y (R.mv (v := .int _ _) rfl) rfl ?_
  refine WL.y (R.eqlT rfl rfl rfl) rfl ?_
  refine WL.y (R.pkT (v := .bool true) rfl rfl) rfl ?_
  refine WL.y (R.mv (v := .bool true) rfl) rfl ?_
  refine WL.y (R.mv (v := .int _ _) rfl) rfl ?_
  refine WL.y (R.eqlT rfl rfl rfl) rfl ?_
  refine WL.y (R.pkT (v := .bool true) rfl rfl) rfl ?_
  refine WL.y (R.mv (v := .bool true) rfl) rfl ?_
  refine WL.y (R.mv (v := .int _ _) rfl) rfl ?_
  refine WL.y (R.eqlT rfl rfl rfl) rfl ?_
  refine WL.y (R.pkT (v := .bool true) rfl rfl) rfl ?_
  refine WL.y (R.mv (v := .bool true) rfl) rfl ?_
  refine WL.y (R.mv (v := .bool false) rfl) rfl ?_
  refine WL.y (R.notF rfl) rfl ?_
  refine WL.y (R.pkT (v := .bool true) rfl rfl) rfl ?_
  refine WL.y (R.mv (v := .bool true) rfl) rfl ?_
  refine WL.y (R.mv (v := .bool true) rfl) rfl ?_
  refine WL.y (R.pkT (v := .bool true) rfl rfl) rfl ?_
  refine WL.y (R.mv (v := .bool true) rfl) rfl ?_
  refine WL.y (R.mv (v := .pointer _) rfl) rfl ?_
  obtain ⟨F24, hP24, -, -⟩ := hS.split3
  refine WL.call Try.func43 rfl rfl (Now_calls F24 bp (cfg2 1) q5 _ hP24) rfl rfl ?_
  rintro _ w24 ⟨rfl, hx24⟩
  replace hS := hS.ext hx24
  replace hX := hX.tr hx24
  clear hP24
  refine WL.y (R.eqlT rfl rfl rfl) rfl ?_
  refine WL.y (R.pkT (v := .bool true) rfl rfl) rfl ?_
  refine WL.y (R.mv (v := .bool true) rfl) rfl ?_
  refine WL.y (R.mv (v := .pointer _) rfl) rfl ?_
  obtain ⟨F25, hP25, -, -⟩ := hS.split3
  refine WL.call Try.func45 rfl rfl (Last_calls F25 bp (cfg2 1) q5 _ hP25) rfl rfl ?_
  rintro _ w25 ⟨⟨a25, c25, rfl, hl25, hf25⟩, hx25⟩
  replace hS := hS.pushSli hx25 hl25 hf25
  replace hX := hX.tr hx25
  clear hP25
  refine WL.y (R.lenS Try.underlying52 rfl) rfl ?_
  refine WL.y (R.eqlT rfl rfl (by kernel_rfl)) rfl ?_
  refine WL.y (R.pkT (v := .bool true) rfl rfl) rfl ?_
  refine WL.y (R.mv (v := .bool true) rfl) rfl ?_
  refine WL.y (R.mv (v := .pointer _) rfl) rfl ?_
  obtain ⟨F26, hP26, -, -⟩ := hS.split4
  refine WL.call Try.func47 rfl rfl (live18_calls F26 bp (cfg2 1) q5 _ hP26 (-1)) rfl rfl ?_
  rintro _ w26 ⟨⟨a26, c26, rfl, hl26, hf26⟩, hx26⟩
  replace hS := hS.pushSli hx26 hl26 hf26
  replace hX := hX.tr hx26
  clear hP26
  refine WL.buildSliceP (parts := [(0, .const (.int .i64 0)), (1, .const (.int .i64 1))]) (ps := [(0, (.int .i64 0)), (1, (.int .i64 1))]) el22_3 rfl rfl rfl (by decide) rfl rfl ?_
  intro b27 w27 hb27 hs27 hx27 hB27
  have hL27 := Slw.many encI [0, 1] hB27 rfl
  replace hS := hS.pushSlw hx27 hL27 (fun k hk => by rw [owns_some] at hk; simp only at hk; omega)
  replace hX := hX.tr hx27
  clear hL27 hB27 hs27
  refine WL.call Try.func46 rfl rfl ((Ints_calls (ofNats (takeM (-1) (liveL q5))) [0, 1] (by rw [show takeM (-1) (liveL q5) = liveL q5 from rfl, q5_liveL]; decide) _ _ _ _ _ (hS.sli1) (hS.slw0).ro).val (y := bl true) (by rw [show takeM (-1) (liveL q5) = liveL q5 from rfl, q5_liveL]; rfl)) rfl rfl ?_
  rintro _ w28 ⟨rfl, hx28⟩
  replace hS := hS.ext hx28
  replace hX := hX.tr hx28
  refine WL.y (R.pkT (v := .bool true) rfl rfl) rfl ?_
  refine WL.y (R.mv (v := .bool true) rfl) rfl ?_
  refine WL.y (R.mv (v := .pointer _) rfl) rfl ?_
  refine WL.call Try.func39 rfl rfl (Ref_nil 0 _) rfl rfl ?_
  rintro _ w29 ⟨rfl, hx29⟩
  replace hS := hS.ext hx29
  replace hX := hX.tr hx29
  refine WL.y (R.eqlT rfl rfl rfl) rfl ?_
  refine WL.y (R.pkT (v := .bool true) rfl rfl) rfl ?_
  refine WL.y (R.mv (v := .bool true) rfl) rfl ?_
  refine WL.y (R.mv (v := .pointer _) rfl) rfl ?_
  refine WL.call Try.func43 rfl rfl (Now_nil _) rfl rfl ?_
  rintro _ w30 ⟨rfl, hx30⟩
  replace hS := hS.ext hx30
  replace hX := hX.tr hx30
  refine WL.y (R.eqlT rfl rfl rfl) rfl ?_
  refine WL.y (R.pkT (v := .bool true) rfl rfl) rfl ?_
  refine WL.y (R.asg (v := .bool true) rfl) rfl ?_
  refine WL.nil ?_
  refine W.ret ?_
  exact PR.r1 rfl (.tmp rfl) ⟨rfl, hX⟩
end Go.Proofs.Ytkjecokkdbapkaa
