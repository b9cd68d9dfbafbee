import Derived.Test.YtkjecokkdbapkaaZzLaw18
import Derived.Test.YtkjecokkdbapkaaProg
namespace Go.Proofs.Ytkjecokkdbapkaa
set_option linter.all false
open Go Go.Eng Go.RowKit
set_option maxRecDepth 20000
set_option maxHeartbeats 2000000
set_option linter.unusedVariables false
set_option linter.unusedSimpArgs false
attribute [local irreducible] WL W QL WA SP



def rs0 : List Dip := fill [] (someM 2 3) 32
def rs1 : List Dip := fill rs0 (someM 4 2) 32
def rs2 : List Dip := fill rs1 (someM 5 2) 32
def rA (r : Int) : PSt := ⟨[⟨rs0, r, false⟩, ver0], 0, someM 2 3, rs0⟩
def rB (r : Int) : PSt := ⟨[⟨rs0, r, false⟩, ⟨rs1, 0, true⟩], 0, someM 4 2, rs1⟩
def rC (r : Int) : PSt := ⟨[⟨rs0, r, false⟩, ⟨rs1, 0, false⟩], 1, someM 4 2, rs1⟩
def rD : PSt := ⟨[⟨rs2, 0, true⟩, ⟨rs1, 0, false⟩], 1, someM 5 2, rs2⟩
theorem rA_0 : pNew (cfg2 4) (someM 2 3) = rA 0 := by kernel_rfl
theorem rA_live (r : Int) : pLive (rA r) (0 : Nat) = true := rfl
theorem rA_first (r : Int) : pFirst (rA r) = 1 := pFirst_eq (p := rA r) (v := 1) (by show 1 ≤ 2; decide) (fun j hj => by (obtain rfl : j = 0 := by omega); rfl) rfl
theorem rA_get (r : Int) : pGet (rA r) (0 : Int) = some ⟨rs0, r, false⟩ := rfl
theorem rB_eq (r : Int) : pReserve (cfg2 4) (rA r) (someM 4 2) = rB r := by
  simp only [pReserve, rA_first]; rfl
theorem rC_live0 (r : Int) : pLive (rC r) (0 : Nat) = decide (0 < r) := by simp [pLive, rC]
theorem rC_live1 (r : Int) : pLive (rC r) (1 : Nat) = true := rfl
theorem rC_full (r : Int) (h : 0 < r) : pFirst (rC r) = (rC r).vs.length := pFirst_eq (p := rC r) (v := 2) (by show 2 ≤ 2; decide) (fun j hj => by
  rcases j with _ | _ | j
  · rw [rC_live0, decide_eq_true h]
  · rfl
  · omega) rfl
theorem rC_free : pFirst (rC 0) = 0 := pFirst_eq (p := rC 0) (v := 0) (by decide) (fun j hj => absurd hj (by omega)) rfl
theorem rC_get (r : Int) (h : 0 < r) : pGet (rC r) (0 : Int) = some ⟨rs0, r, false⟩ := pGet_at (k := 0) (by rw [rC_live0, decide_eq_true h]) rfl
theorem rD_eq : pReserve (cfg2 4) (rC 0) (someM 5 2) = rD := by
  simp only [pReserve, rC_free]; rfl
theorem rD_get : pGet rD (0 : Int) = some ⟨rs2, 0, true⟩ := rfl
theorem rD_live : liveL rD = [0, 1] := by kernel_rfl
theorem rs0_len : rs0.length = 32 := fill_length (by decide) (someM_ok 2 3) (by rw [someM_len]; decide)

theorem PoolsRefs_calls (n k : Int) (w : World) : CallV Try.prog 6 #[i64 n, i64 k] w fun v w' => v = bl true ∧ Ext w w' := by
  have hX : Ext w w := Ext.rfl' w
  have hU : ∀ k, (fun k => w.heap.size ≤ k) k → w.heap.size ≤ k := fun _ h => h
  have hS : Star (fun k => w.heap.size ≤ k) w [] := Star.nil fun _ h => h
  generalize (fun k => w.heap.size ≤ k) = U at hU hS
  refine Calls.of_W (N := 139) Try.func6 rfl rfl rfl ?_
  refine W.reg ?_
  refine WL.y (R.asg (v := .bool false) rfl) rfl ?_
  refine WL.nil ?_
  refine W.seq ?_
  refine W.reg ?_
  refine WL.y (R.mv (v := .int _ _) rfl) rfl ?_
  refine WL.fork (R.lss rfl rfl) rfl (fun hc1_1 => ?_) (fun hc1_1 => ?_)
  · skip
    replace hc1_1 := of_decide_eq_true hc1_1
    refine WL.y (R.mv (v := .bool true) rfl) rfl ?_
    refine WL.skip rfl ?_
    refine WL.skip rfl ?_
    refine WL.y (R.pkT (v := .bool true) rfl rfl) rfl ?_
    refine WL.y (R.mv (v := .bool true) rfl) rfl ?_
    refine WL.skip rfl ?_
    refine WL.skip rfl ?_
    refine WL.y (R.pkT (v := .bool true) rfl rfl) rfl ?_
    refine WL.y (R.mv (v := .bool true) rfl) rfl ?_
    refine WL.skip rfl ?_
    refine WL.skip rfl ?_
    refine WL.y (R.pkT (v := .bool true) rfl rfl) rfl ?_
    refine WL.nil ?_
    refine W.cond_t rfl ?_
    refine W.reg ?_
    refine WL.call Try.func30 rfl rfl (awake18_calls _) rfl rfl ?_
    rintro _ w1 ⟨rfl, hx1⟩
    replace hS := hS.ext hx1
    replace hX := hX.tr hx1
    refine WL.y (R.asg (v := .bool _) rfl) rfl ?_
    refine WL.nil ?_
    refine W.ret ?_
    exact PR.r1 rfl (.tmp rfl) ⟨rfl, hX⟩
  · skip
    replace hc1_1 := of_decide_eq_false hc1_1
    refine WL.y (R.mv (v := .bool false) rfl) rfl ?_
    refine WL.y (R.mv (v := .int _ _) rfl) rfl ?_
    refine WL.fork (R.gtr rfl rfl) rfl (fun hc1_4 => ?_) (fun hc1_4 => ?_)
    · skip
      replace hc1_4 := of_decide_eq_true hc1_4
      refine WL.y (R.pkF (v := .bool true) rfl rfl) rfl ?_
      refine WL.y (R.mv (v := .bool true) rfl) rfl ?_
      refine WL.skip rfl ?_
      refine WL.skip rfl ?_
      refine WL.y (R.pkT (v := .bool true) rfl rfl) rfl ?_
      refine WL.y (R.mv (v := .bool true) rfl) rfl ?_
      refine WL.skip rfl ?_
      refine WL.skip rfl ?_
      refine WL.y (R.pkT (v := .bool true) rfl rfl) rfl ?_
      refine WL.nil ?_
      refine W.cond_t rfl ?_
      refine W.reg ?_
      refine WL.call Try.func30 rfl rfl (awake18_calls _) rfl rfl ?_
      rintro _ w2 ⟨rfl, hx2⟩
      replace hS := hS.ext hx2
      replace hX := hX.tr hx2
      refine WL.y (R.asg (v := .bool _) rfl) rfl ?_
      refine WL.nil ?_
      refine W.ret ?_
      exact PR.r1 rfl (.tmp rfl) ⟨rfl, hX⟩
    · skip
      replace hc1_4 := of_decide_eq_false hc1_4
      refine WL.y (R.pkF (v := .bool false) rfl rfl) rfl ?_
      refine WL.y (R.mv (v := .bool false) rfl) rfl ?_
      refine WL.y (R.mv (v := .int _ _) rfl) rfl ?_
      refine WL.fork (R.lss rfl rfl) rfl (fun hc1_8 => ?_) (fun hc1_8 => ?_)
      · skip
        replace hc1_8 := of_decide_eq_true hc1_8
        refine WL.y (R.pkF (v := .bool true) rfl rfl) rfl ?_
        refine WL.y (R.mv (v := .bool true) rfl) rfl ?_
        refine WL.skip rfl ?_
        refine WL.skip rfl ?_
        refine WL.y (R.pkT (v := .bool true) rfl rfl) rfl ?_
        refine WL.nil ?_
        refine W.cond_t rfl ?_
        refine W.reg ?_
        refine WL.call Try.func30 rfl rfl (awake18_calls _) rfl rfl ?_
        rintro _ w3 ⟨rfl, hx3⟩
        replace hS := hS.ext hx3
        replace hX := hX.tr hx3
        refine WL.y (R.asg (v := .bool _) rfl) rfl ?_
        refine WL.nil ?_
        refine W.ret ?_
        exact PR.r1 rfl (.tmp rfl) ⟨rfl, hX⟩
      · skip
        replace hc1_8 := of_decide_eq_false hc1_8
        refine WL.y (R.pkF (v := .bool false) rfl rfl) rfl ?_
        refine WL.y (R.mv (v := .bool false) rfl) rfl ?_
        refine WL.y (R.mv (v := .int _ _) rfl) rfl ?_
        refine WL.fork (R.gtr rfl rfl) rfl (fun hc1_12 => ?_) (fun hc1_12 => ?_)
        · skip
          replace hc1_12 := of_decide_eq_true hc1_12
          refine WL.y (R.pkF (v := .bool true) rfl rfl) rfl ?_
          refine WL.nil ?_
          refine W.cond_t rfl ?_
          refine W.reg ?_
          refine WL.call Try.func30 rfl rfl (awake18_calls _) rfl rfl ?_
          rintro _ w4 ⟨rfl, hx4⟩
          replace hS := hS.ext hx4
          replace hX := hX.tr hx4
          refine WL.y (R.asg (v := .bool _) rfl) rfl ?_
          refine WL.nil ?_
          refine W.ret ?_
          exact PR.r1 rfl (.tmp rfl) ⟨rfl, hX⟩
        · skip
          replace hc1_12 := of_decide_eq_false hc1_12
          refine WL.y (R.pkF (v := .bool false) rfl rfl) rfl ?_
          refine WL.nil ?_
          refine W.cond_f rfl ?_
          refine W.skip ?_
          refine W.reg ?_
          refine WL.call Try.func21 rfl rfl (roomy_calls 4 _) rfl rfl ?_
          rintro _ w5 ⟨rfl, hx5⟩
          replace hS := hS.ext hx5
          replace hX := hX.tr hx5
          refine WL.alloc zer33 rfl ?_
          intro b6 w6 hb6 hs6 hx6 hB6
          replace hS := hS.pushBox hb6 hx6 hB6
          replace hX := hX.tr hx6
          clear hB6 hs6
          refine WL.store (v := .agg _) siz33 rfl rfl rfl rfl hS.blk0 (Nat.le_of_ble_eq_true rfl) rfl rfl ?_
          intro w7 hu7 hz7 hn7
          have hN := hS.box0 hu7 hn7
          replace hS := hN.1
          replace hX := hN.2 _ hX hU
          clear hN hn7 hu7 hz7
          refine WL.nil ?_
          refine W.reg ?_
          refine WL.y (R.fieldAddr fo33_6 rfl) rfl ?_
          refine WL.store1 (v := .int _ _) sca3 rfl rfl rfl hS.blk0 (Nat.le_of_ble_eq_true rfl) rfl ?_
          intro w8 hu8 hz8 hn8
          have hN := hS.box0 hu8 hn8
          replace hS := hN.1
          replace hX := hN.2 _ hX hU
          clear hN hn8 hu8 hz8
          obtain ⟨bc, rfl⟩ : ∃ b, b = b6 := ⟨_, rfl⟩
          obtain ⟨N, rfl⟩ : ∃ N : Nat, n = N := ⟨n.toNat, by omega⟩
          obtain ⟨K, rfl⟩ : ∃ K : Nat, k = K := ⟨k.toNat, by omega⟩
          refine WL.nil ?_
          refine W.seq ?_
          refine W.draw (fun j => [1000].contains j) (fun wI => Ext w8 wI) rfl ?_
          have hI9 := Ext.dr w8
          refine WA.batch [0] 7 (by kernel_rfl) hI9 ?_
          refine QL.y (fun wq hq => (R.loadA agg33 rfl (hq.blkR (hS.blk0).r) rfl rfl)) rfl ?_
          refine QL.nil ?_
          have hD9 := Ext.dr w8
          have hD9z := hD9.size
          have hS0 := hS
          have hXo := hX
          replace hS := hS.ext hD9
          replace hX := hX.tr hD9
          refine WA.one 1 6 (by kernel_rfl) ?_
          have hX0 := hX
          refine WL.call Try.func35 rfl rfl (some18_calls 2 3 (by decide) _) rfl rfl ?_
          rintro _ w10 ⟨⟨a10, c10, rfl, hl10, hf10⟩, hx10⟩
          replace hS := hS.pushSli hx10 hl10 hf10
          replace hX := hX.tr hx10
          refine WL.nil ?_
          refine ⟨fun _ h => h.tr hx10, ?_⟩
          replace hI9 := hI9.tr hx10
          clear hX0
          refine WA.one 2 5 (by kernel_rfl) ?_
          have hX0 := hX
          refine WL.call Try.func32 rfl rfl (New_good (cfg2 4) (cfg2_ok 4) (someM 2 3) _ _ _ (hS.sli0) (someM_ok 2 3)) rfl rfl ?_
          rintro _ w11 ⟨⟨bp, rfl, hb11, hP11⟩, hx11⟩
          replace hS := hS.push hx11 (A := poolA bp (cfg2 4) (pNew (cfg2 4) (someM 2 3))) hP11 (fun k hk => hk.1)
          replace hX := hX.tr hx11
          rw [rA_0] at hS
          refine WL.nil ?_
          refine ⟨fun _ h => h.tr hx11, ?_⟩
          replace hI9 := hI9.tr hx11
          clear hX0
          refine WA.pures [3, 4, 5, 6, 7] 0 (by kernel_rfl) ?_
          refine QL.y (fun wq hq => (R.mv (v := .tuple _) rfl)) rfl ?_
          refine QL.y (fun wq hq => (R.extract rfl rfl)) rfl ?_
          refine QL.y (fun wq hq => (R.extract rfl rfl)) rfl ?_
          refine QL.y (fun wq hq => (R.asg (v := .pointer _) rfl)) rfl ?_
          refine QL.y (fun wq hq => (R.asg (v := .int _ _) rfl)) rfl ?_
          refine QL.nil ?_
          refine WA.done (by kernel_rfl) ?_
          refine W.seq ?_
          refine W.reg ?_
          refine WL.y (R.mv (v := .int _ _) rfl) rfl ?_
          refine WL.y (R.neqF rfl rfl rfl) rfl ?_
          refine WL.y (R.mv (v := .bool false) rfl) rfl ?_
          refine WL.y (R.mv (v := .pointer _) rfl) rfl ?_
          refine WL.y (R.eqlNil Try.underlying61 rfl) rfl ?_
          refine WL.y (R.pkF (v := .bool false) rfl rfl) rfl ?_
          refine WL.nil ?_
          refine W.cond_f rfl ?_
          refine W.skip ?_
          refine W.seqX (ι := Unit) [(4, 5), (8, 9), (45, 60)] (fun _ => []) (fun _ w' => (True) ∧ Ext w w' ∧ Star U w' [poolA bp (cfg2 4) (rA ((N : Nat) : Int)), boxA bc (encCfg (cfg2 4))]) ?_ ?_
          · skip
            refine W.reg ?_
            refine WL.y (R.asg (v := .int _ _) rfl) rfl ?_
            refine WL.nil ?_
            refine W.block ?_
            replace hS := hS.drop1
            refine W.loopS (ι := Nat) [(4, 5), (8, 9), (45, 60)] (fun q => [(8, i64 (q : Nat))]) (fun q => N - q) (fun q w' => (q ≤ N) ∧ Ext w w' ∧ Star U w' [poolA bp (cfg2 4) (rA ((q : Nat) : Int)), boxA bc (encCfg (cfg2 4))]) 0 ⟨rfl, trivial⟩ ⟨Nat.zero_le _, hX, hS⟩ ?_
            rintro i j1 w_1 ⟨hp, hX, hS⟩
            refine W.seq ?_
            refine W.reg ?_
            refine WL.y (R.mv (v := .int _ _) rfl) rfl ?_
            refine WL.y (R.mv (v := .int _ _) rfl) rfl ?_
            refine WL.fork (R.lss rfl rfl) rfl (fun hc9_2 => ?_) (fun hc9_2 => ?_)
            · skip
              replace hc9_2 := of_decide_eq_true hc9_2
              refine WL.nil ?_
              refine W.cond_t rfl ?_
              refine W.skip ?_
              refine W.seq ?_
              refine W.block ?_
              refine W.reg ?_
              refine WL.y (R.mv (v := .pointer _) rfl) rfl ?_
              obtain ⟨F12, hP12, hFU12, hf12⟩ := hS.split0
              refine WL.call Try.func39 rfl rfl (Ref_ok F12 bp (cfg2 4) (rA ((i : Nat) : Int)) _ hP12 0 ⟨rs0, ((i : Nat) : Int), false⟩ (rA_live _) rfl (by simp only; omega)) rfl rfl ?_
              rintro _ w12 ⟨rfl, hu12, hQ12⟩
              replace hS := hf12 hu12 (B := poolA bp (cfg2 4) (rA (((i : Nat) : Int) + 1))) hQ12 (fun k hk => .inl hk)
              replace hX := hX.putU hu12 (fun k hk => hU k (hFU12 k hk))
              clear hf12 hFU12 hP12 hu12 hQ12
              refine WL.y (R.neqF rfl rfl rfl) rfl ?_
              refine WL.y (R.mv (v := .bool false) rfl) rfl ?_
              refine WL.y (R.mv (v := .pointer _) rfl) rfl ?_
              obtain ⟨F13, hP13, -, -⟩ := hS.split0
              refine WL.call Try.func51 rfl rfl ((Refs_calls F13 bp (cfg2 4) (rA (((i : Nat) : Int) + 1)) _ hP13 0).val (y := i64 (((i : Nat) : Int) + 1)) (by rw [rA_get])) rfl rfl ?_
              rintro _ w13 ⟨rfl, hx13⟩
              replace hS := hS.ext hx13
              replace hX := hX.tr hx13
              clear hP13
              refine WL.y (R.mv (v := .int _ _) rfl) rfl ?_
              refine WL.y (R.addI rfl rfl (by omega)) rfl ?_
              refine WL.y (R.neqF rfl rfl rfl) rfl ?_
              refine WL.y (R.pkF (v := .bool false) rfl rfl) rfl ?_
              refine WL.nil ?_
              refine W.cond_f rfl ?_
              refine W.skip ?_
              refine W.region ?_
              refine WL.y (R.mv (v := .int _ _) rfl) rfl ?_
              refine WL.y (R.addI rfl rfl (by omega)) rfl ?_
              refine WL.y (R.asg (v := .int _ _) rfl) rfl ?_
              refine WL.nil ?_
              exact ⟨i + 1, (by omega), (by repeat (first | exact Same.rfl' _ _ | refine Same.set _ rfl ?_ | refine Same.over' _ rfl ?_ | refine Same.sets rfl ?_)), ⟨rfl, trivial⟩, rfl, (by omega), hX, hS⟩
            · skip
              replace hc9_2 := of_decide_eq_false hc9_2
              refine WL.nil ?_
              refine W.cond_f rfl ?_
              refine W.exit ?_
              obtain rfl : i = N := by omega
              exact ⟨(), (by repeat (first | exact Same.rfl' _ _ | refine Same.set _ rfl ?_ | refine Same.over' _ rfl ?_ | refine Same.sets rfl ?_)), trivial, rfl, trivial, hX, hS⟩
          · skip
            rintro _ j2 w_2 ⟨-, hX, hS⟩
            refine W.reg ?_
            refine WL.y (R.mv (v := .pointer _) rfl) rfl ?_
            refine WL.call Try.func35 rfl rfl (some18_calls 4 2 (by decide) _) rfl rfl ?_
            rintro _ w14 ⟨⟨a14, c14, rfl, hl14, hf14⟩, hx14⟩
            replace hS := hS.pushSli hx14 hl14 hf14
            replace hX := hX.tr hx14
            obtain ⟨F15, hP15, hFU15, hR15, hf15⟩ := hS.splitR1
            refine WL.call Try.func34 rfl rfl (Reserve_ok F15 bp (cfg2 4) (rA ((N : Nat) : Int)) _ hP15 (someM 4 2) _ _ (hS.sli0) (fun k hk => (hR15.sliD0 k hk).2) (someM_ok 4 2) (by rw [rA_first]; show 1 < 2; decide)) rfl rfl ?_
            rintro _ w15 ⟨G15, rfl, hu15, hQ15, hF15⟩
            replace hS := hf15 hu15 (B := poolA bp (cfg2 4) (pReserve (cfg2 4) (rA ((N : Nat) : Int)) (someM 4 2))) hQ15 hF15
            replace hX := hX.putU hu15 (fun k hk => hU k (hFU15 k hk))
            clear hf15 hFU15 hP15 hu15 hQ15 hR15 hF15
            rw [rB_eq] at hS
            refine WL.y (R.mv (v := .tuple _) rfl) rfl ?_
            refine WL.y (R.extract rfl rfl) rfl ?_
            refine WL.y (R.extract rfl rfl) rfl ?_
            refine WL.y (R.asg (v := .int _ _) rfl) rfl ?_
            refine WL.y (R.asg (v := .int _ _) rfl) rfl ?_
            refine WL.nil ?_
            refine W.seq ?_
            refine W.reg ?_
            refine WL.y (R.mv (v := .int _ _) rfl) rfl ?_
            refine WL.y (R.neqF rfl rfl rfl) rfl ?_
            refine WL.y (R.mv (v := .bool false) rfl) rfl ?_
            refine WL.y (R.mv (v := .int _ _) rfl) rfl ?_
            refine WL.y (R.neqF rfl rfl rfl) rfl ?_
            refine WL.y (R.pkF (v := .bool false) rfl rfl) rfl ?_
            refine WL.y (R.mv (v := .bool false) rfl) rfl ?_
            refine WL.y (R.mv (v := .pointer _) rfl) rfl ?_
            obtain ⟨F16, hP16, hFU16, hf16⟩ := hS.split1
            refine WL.call Try.func37 rfl rfl (Serve_ok F16 bp (cfg2 4) (rB ((N : Nat) : Int)) _ hP16 1 ⟨rs1, 0, true⟩ rfl rfl rfl) rfl rfl ?_
            rintro _ w16 ⟨rfl, hu16, hQ16⟩
            replace hS := hf16 hu16 (B := poolA bp (cfg2 4) (rC ((N : Nat) : Int))) hQ16 (fun k hk => .inl hk)
            replace hX := hX.putU hu16 (fun k hk => hU k (hFU16 k hk))
            clear hf16 hFU16 hP16 hu16 hQ16
            refine WL.y (R.neqF rfl rfl rfl) rfl ?_
            refine WL.y (R.pkF (v := .bool false) rfl rfl) rfl ?_
            refine WL.nil ?_
            refine W.cond_f rfl ?_
            refine W.skip ?_
            refine W.seqX (ι := Unit) [(4, 5), (11, 13), (77, 89)] (fun _ => []) (fun _ w' => (True) ∧ Ext w w' ∧ Star U w' [poolA bp (cfg2 4) (rC ((N - K : Nat) : Int)), boxA bc (encCfg (cfg2 4))]) ?_ ?_
            · skip
              refine W.reg ?_
              refine WL.y (R.asg (v := .int _ _) rfl) rfl ?_
              refine WL.nil ?_
              refine W.block ?_
              replace hS := hS.drop0
              refine W.loopS (ι := Nat) [(4, 5), (11, 13), (77, 89)] (fun q => [(11, i64 (q : Nat))]) (fun q => K - q) (fun q w' => (q ≤ K) ∧ Ext w w' ∧ Star U w' [poolA bp (cfg2 4) (rC ((N - q : Nat) : Int)), boxA bc (encCfg (cfg2 4))]) 0 ⟨rfl, trivial⟩ ⟨Nat.zero_le _, hX, hS⟩ ?_
              rintro j j3 w_3 ⟨hp, hX, hS⟩
              refine W.seq ?_
              refine W.reg ?_
              refine WL.y (R.mv (v := .int _ _) rfl) rfl ?_
              refine WL.y (R.mv (v := .int _ _) rfl) rfl ?_
              refine WL.fork (R.lss rfl rfl) rfl (fun hc17_2 => ?_) (fun hc17_2 => ?_)
              · skip
                replace hc17_2 := of_decide_eq_true hc17_2
                refine WL.nil ?_
                refine W.cond_t rfl ?_
                refine W.skip ?_
                refine W.seq ?_
                refine W.block ?_
                refine W.reg ?_
                refine WL.y (R.asg (v := .int _ _) rfl) rfl ?_
                refine WL.nil ?_
                refine W.seq ?_
                refine W.reg ?_
                refine WL.y (R.mv (v := .int _ _) rfl) rfl ?_
                refine WL.y (R.mv (v := .int _ _) rfl) rfl ?_
                refine WL.fork (R.geq rfl rfl) rfl (fun hc20_2 => ?_) (fun hc20_2 => ?_)
                · skip
                  replace hc20_2 := of_decide_eq_true hc20_2
                  refine WL.nil ?_
                  refine W.cond_t rfl ?_
                  refine W.region ?_
                  refine WL.y (R.asg (v := .int _ _) rfl) rfl ?_
                  refine WL.nil ?_
                  refine W.reg ?_
                  refine WL.y (R.mv (v := .pointer _) rfl) rfl ?_
                  obtain ⟨F17, hP17, -, -⟩ := hS.split0
                  refine WL.call Try.func41 rfl rfl (Unref_dead F17 bp (cfg2 4) (rC ((N - j : Nat) : Int)) _ hP17 0 (by have := rC_live0 ((N - j : Nat) : Int); rw [decide_eq_false (by omega)] at this; exact this)) rfl rfl ?_
                  rintro _ w17 ⟨rfl, hx17⟩
                  replace hS := hS.ext hx17
                  replace hX := hX.tr hx17
                  clear hP17
                  refine WL.y (R.mv (v := .int _ _) rfl) rfl ?_
                  refine WL.y (R.neqF rfl rfl rfl) rfl ?_
                  refine WL.nil ?_
                  refine W.cond_f rfl ?_
                  refine W.skip ?_
                  refine W.region ?_
                  refine WL.y (R.mv (v := .int _ _) rfl) rfl ?_
                  refine WL.y (R.addI rfl rfl (by omega)) rfl ?_
                  refine WL.y (R.asg (v := .int _ _) rfl) rfl ?_
                  refine WL.nil ?_
                  rw [show N - j = N - (j + 1) by omega] at hS
                  exact ⟨j + 1, (by omega), (by repeat (first | exact Same.rfl' _ _ | refine Same.set _ rfl ?_ | refine Same.over' _ rfl ?_ | refine Same.sets rfl ?_)), ⟨rfl, trivial⟩, rfl, (by omega), hX, hS⟩
                · skip
                  replace hc20_2 := of_decide_eq_false hc20_2
                  refine WL.nil ?_
                  refine W.cond_f rfl ?_
                  refine W.skip ?_
                  refine W.reg ?_
                  refine WL.y (R.mv (v := .pointer _) rfl) rfl ?_
                  obtain ⟨F18, hP18, hFU18, hf18⟩ := hS.split0
                  refine WL.call Try.func41 rfl rfl (Unref_ok F18 bp (cfg2 4) (rC ((N - j : Nat) : Int)) _ hP18 0 ⟨rs0, ((N - j : Nat) : Int), false⟩ (by rw [rC_live0, decide_eq_true (by omega)]) rfl (by simp only; omega)) rfl rfl ?_
                  rintro _ w18 ⟨rfl, hu18, hQ18⟩
                  replace hS := hf18 hu18 (B := poolA bp (cfg2 4) (rC (((N - j : Nat) : Int) - 1))) hQ18 (fun k hk => .inl hk)
                  replace hX := hX.putU hu18 (fun k hk => hU k (hFU18 k hk))
                  clear hf18 hFU18 hP18 hu18 hQ18
                  refine WL.y (R.mv (v := .int _ _) rfl) rfl ?_
                  refine WL.y (R.neqF rfl rfl rfl) rfl ?_
                  refine WL.nil ?_
                  refine W.cond_f rfl ?_
                  refine W.skip ?_
                  refine W.region ?_
                  refine WL.y (R.mv (v := .int _ _) rfl) rfl ?_
                  refine WL.y (R.addI rfl rfl (by omega)) rfl ?_
                  refine WL.y (R.asg (v := .int _ _) rfl) rfl ?_
                  refine WL.nil ?_
                  rw [show (((N - j : Nat) : Int) - 1) = ((N - (j + 1) : Nat) : Int) by omega] at hS
                  exact ⟨j + 1, (by omega), (by repeat (first | exact Same.rfl' _ _ | refine Same.set _ rfl ?_ | refine Same.over' _ rfl ?_ | refine Same.sets rfl ?_)), ⟨rfl, trivial⟩, rfl, (by omega), hX, hS⟩
              · skip
                replace hc17_2 := of_decide_eq_false hc17_2
                refine WL.nil ?_
                refine W.cond_f rfl ?_
                refine W.exit ?_
                obtain rfl : j = K := by omega
                exact ⟨(), (by repeat (first | exact Same.rfl' _ _ | refine Same.set _ rfl ?_ | refine Same.over' _ rfl ?_ | refine Same.sets rfl ?_)), trivial, rfl, trivial, hX, hS⟩
            · skip
              rintro _ j4 w_4 ⟨-, hX, hS⟩
              refine W.reg ?_
              refine WL.y (R.mv (v := .int _ _) rfl) rfl ?_
              refine WL.y (R.mv (v := .int _ _) rfl) rfl ?_
              refine WL.y (R.subI rfl rfl (by omega)) rfl ?_
              refine WL.y (R.max2 rfl rfl) rfl ?_
              refine WL.y (R.asg (v := i64 ((N - K : Nat) : Int)) (congrArg (Value.int .i64) (by omega))) rfl ?_
              refine WL.nil ?_
              refine W.reg ?_
              refine WL.y (R.mv (v := .pointer _) rfl) rfl ?_
              refine WL.call Try.func35 rfl rfl (some18_calls 5 2 (by decide) _) rfl rfl ?_
              rintro _ w19 ⟨⟨a19, c19, rfl, hl19, hf19⟩, hx19⟩
              replace hS := hS.pushSli hx19 hl19 hf19
              replace hX := hX.tr hx19
              by_cases hNK : 0 < N - K
              · skip
                obtain ⟨F20, hP20, -, -⟩ := hS.split1
                refine WL.call Try.func34 rfl rfl (Reserve_full F20 bp (cfg2 4) (rC ((N - K : Nat) : Int)) _ hP20 (someM 5 2) _ _ (hS.sli0) (someM_ok 5 2) (rC_full _ (by omega))) rfl rfl ?_
                rintro _ w20 ⟨rfl, hx20⟩
                clear hP20
                replace hS := hS.ext hx20
                replace hX := hX.tr hx20
                refine WL.y (R.mv (v := .tuple _) rfl) rfl ?_
                refine WL.y (R.extract rfl rfl) rfl ?_
                refine WL.y (R.extract rfl rfl) rfl ?_
                refine WL.y (R.asg (v := .int _ _) rfl) rfl ?_
                refine WL.y (R.asg (v := .int _ _) rfl) rfl ?_
                refine WL.nil ?_
                refine W.seq ?_
                refine W.reg ?_
                refine WL.y (R.mv (v := .int _ _) rfl) rfl ?_
                refine WL.y (R.gtrT rfl rfl (by omega)) rfl ?_
                refine WL.nil ?_
                refine W.cond_t rfl ?_
                refine W.reg ?_
                refine WL.y (R.mv (v := .int _ _) rfl) rfl ?_
                refine WL.y (R.eqlT rfl rfl rfl) rfl ?_
                refine WL.y (R.mv (v := .bool true) rfl) rfl ?_
                refine WL.y (R.mv (v := .pointer _) rfl) rfl ?_
                obtain ⟨F21, hP21, -, -⟩ := hS.split1
                refine WL.call Try.func51 rfl rfl ((Refs_calls F21 bp (cfg2 4) (rC ((N - K : Nat) : Int)) _ hP21 0).val (y := i64 (((N - K : Nat) : Int))) (by rw [rC_get _ (by omega)])) rfl rfl ?_
                rintro _ w21 ⟨rfl, hx21⟩
                replace hS := hS.ext hx21
                replace hX := hX.tr hx21
                clear hP21
                refine WL.y (R.mv (v := .int _ _) rfl) rfl ?_
                refine WL.y (R.eqlT rfl rfl rfl) rfl ?_
                refine WL.y (R.pkT (v := .bool true) rfl rfl) rfl ?_
                refine WL.y (R.mv (v := .bool true) rfl) rfl ?_
                refine WL.y (R.mv (v := .pointer _) rfl) rfl ?_
                obtain ⟨F22, hP22, -, -⟩ := hS.split1
                refine WL.call Try.func54 rfl rfl (Slots_calls F22 bp (cfg2 4) (rC ((N - K : Nat) : Int)) _ hP22 0) rfl rfl ?_
                rintro _ w22 ⟨⟨a22, c22, rfl, hl22, hf22⟩, hx22⟩
                replace hS := hS.pushSli hx22 hl22 hf22
                replace hX := hX.tr hx22
                clear hP22
                have hsl32 : (0 : Int) < ((match pGet (rC ((N - K : Nat) : Int)) 0 with | some x => x.slots | none => [] : List Dip).length : Int) := by rw [rC_get _ (by omega)]; show (0 : Int) < (rs0.length : Int); rw [rs0_len]; decide
                refine WL.y (R.lenS Try.underlying81 rfl) rfl ?_
                refine WL.y (R.gtrT rfl rfl hsl32) rfl ?_
                refine WL.y (R.pkT (v := .bool true) rfl rfl) rfl ?_
                refine WL.y (R.mv (v := .bool true) rfl) rfl ?_
                refine WL.call Try.func30 rfl rfl (awake18_calls _) rfl rfl ?_
                rintro _ w23 ⟨rfl, hx23⟩
                replace hS := hS.ext hx23
                replace hX := hX.tr hx23
                refine WL.y (R.pkT (v := .bool _) rfl rfl) rfl ?_
                refine WL.y (R.asg (v := .bool _) rfl) rfl ?_
                refine WL.nil ?_
                refine W.ret ?_
                exact PR.r1 rfl (.tmp rfl) ⟨rfl, hX⟩
              · skip
                have h0 : N - K = 0 := by omega
                rw [h0] at hS
                obtain ⟨F20, hP20, hFU20, hR20, hf20⟩ := hS.splitR1
                refine WL.call Try.func34 rfl rfl (Reserve_ok F20 bp (cfg2 4) (rC 0) _ hP20 (someM 5 2) _ _ (hS.sli0) (fun k hk => (hR20.sliD0 k hk).2) (someM_ok 5 2) (by rw [rC_free]; decide)) rfl rfl ?_
                rintro _ w20 ⟨G20, rfl, hu20, hQ20, hF20⟩
                replace hS := hf20 hu20 (B := poolA bp (cfg2 4) (pReserve (cfg2 4) (rC 0) (someM 5 2))) hQ20 hF20
                replace hX := hX.putU hu20 (fun k hk => hU k (hFU20 k hk))
                clear hf20 hFU20 hP20 hu20 hQ20 hR20 hF20
                rw [rD_eq] at hS
                refine WL.y (R.mv (v := .tuple _) rfl) rfl ?_
                refine WL.y (R.extract rfl rfl) rfl ?_
                refine WL.y (R.extract rfl rfl) rfl ?_
                refine WL.y (R.asg (v := .int _ _) rfl) rfl ?_
                refine WL.y (R.asg (v := .int _ _) rfl) rfl ?_
                refine WL.nil ?_
                refine W.seq ?_
                refine W.reg ?_
                refine WL.y (R.mv (v := .int _ _) rfl) rfl ?_
                refine WL.y (R.gtrF rfl rfl (by omega)) rfl ?_
                refine WL.nil ?_
                refine W.cond_f rfl ?_
                refine W.skip ?_
                refine W.reg ?_
                refine WL.y (R.mv (v := .int _ _) rfl) rfl ?_
                refine WL.y (R.eqlT rfl rfl rfl) rfl ?_
                refine WL.y (R.mv (v := .bool true) rfl) rfl ?_
                refine WL.y (R.mv (v := .pointer _) rfl) rfl ?_
                obtain ⟨F24, hP24, -, -⟩ := hS.split1
                refine WL.call Try.func51 rfl rfl ((Refs_calls F24 bp (cfg2 4) rD _ hP24 0).val (y := i64 (0)) (by rw [rD_get])) rfl rfl ?_
                rintro _ w24 ⟨rfl, hx24⟩
                replace hS := hS.ext hx24
                replace hX := hX.tr hx24
                clear hP24
                refine WL.y (R.eqlT rfl rfl rfl) rfl ?_
                refine WL.y (R.pkT (v := .bool true) rfl rfl) rfl ?_
                refine WL.y (R.mv (v := .bool true) rfl) rfl ?_
                refine WL.y (R.mv (v := .pointer _) rfl) rfl ?_
                obtain ⟨F25, hP25, -, -⟩ := hS.split1
                refine WL.call Try.func47 rfl rfl (live18_calls F25 bp (cfg2 4) rD _ hP25 (-1)) rfl rfl ?_
                rintro _ w25 ⟨⟨a25, c25, rfl, hl25, hf25⟩, hx25⟩
                replace hS := hS.pushSli hx25 hl25 hf25
                replace hX := hX.tr hx25
                clear hP25
                refine WL.buildSliceP (parts := [(0, .const (.int .i64 0)), (1, .const (.int .i64 1))]) (ps := [(0, (.int .i64 0)), (1, (.int .i64 1))]) el22_3 rfl rfl rfl (by decide) rfl rfl ?_
                intro b26 w26 hb26 hs26 hx26 hB26
                have hL26 := Slw.many encI [0, 1] hB26 rfl
                replace hS := hS.pushSlw hx26 hL26 (fun k hk => by rw [owns_some] at hk; simp only at hk; omega)
                replace hX := hX.tr hx26
                clear hL26 hB26 hs26
                refine WL.call Try.func46 rfl rfl ((Ints_calls (ofNats (takeM (-1) (liveL rD))) [0, 1] (by rw [show takeM (-1) (liveL rD) = liveL rD from rfl, rD_live]; decide) _ _ _ _ _ (hS.sli1) (hS.slw0).ro).val (y := bl true) (by rw [show takeM (-1) (liveL rD) = liveL rD from rfl, rD_live]; rfl)) rfl rfl ?_
                rintro _ w27 ⟨rfl, hx27⟩
                replace hS := hS.ext hx27
                replace hX := hX.tr hx27
                refine WL.y (R.pkT (v := .bool true) rfl rfl) rfl ?_
                refine WL.y (R.mv (v := .bool true) rfl) rfl ?_
                refine WL.y (R.mv (v := .pointer _) rfl) rfl ?_
                obtain ⟨F28, hP28, -, -⟩ := hS.split3
                refine WL.call Try.func43 rfl rfl (Now_calls F28 bp (cfg2 4) rD _ hP28) rfl rfl ?_
                rintro _ w28 ⟨rfl, hx28⟩
                replace hS := hS.ext hx28
                replace hX := hX.tr hx28
                clear hP28
                refine WL.y (R.eqlT rfl rfl rfl) rfl ?_
                refine WL.y (R.pkT (v := .bool true) rfl rfl) rfl ?_
                refine WL.y (R.mv (v := .bool true) rfl) rfl ?_
                refine WL.call Try.func30 rfl rfl (awake18_calls _) rfl rfl ?_
                rintro _ w29 ⟨rfl, hx29⟩
                replace hS := hS.ext hx29
                replace hX := hX.tr hx29
                refine WL.y (R.pkT (v := .bool _) rfl rfl) rfl ?_
                refine WL.y (R.asg (v := .bool _) rfl) rfl ?_
                refine WL.nil ?_
                refine W.ret ?_
                exact PR.r1 rfl (.tmp rfl) ⟨rfl, hX⟩
end Go.Proofs.Ytkjecokkdbapkaa
