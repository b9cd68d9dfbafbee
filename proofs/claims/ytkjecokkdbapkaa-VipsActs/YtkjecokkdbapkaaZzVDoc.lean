import Derived.Test.YtkjecokkdbapkaaZzRefP
import Derived.Test.YtkjecokkdbapkaaProg
import Derived.Test.YtkjecokkdbapkaaZzLive18b
namespace Go.Proofs.Ytkjecokkdbapkaa
set_option linter.all false
open Go Go.Eng Go.RowKit
set_option maxRecDepth 20000
set_option maxHeartbeats 2000000
set_option linter.unusedVariables false
set_option linter.unusedSimpArgs false
attribute [local irreducible] WL W QL WA SP

theorem fo102_0 : FO Try.prog 102 0 0 := fun a w => by kernel_rfl
theorem fo102_1 : FO Try.prog 102 1 1 := fun a w => by kernel_rfl
theorem fo102_2 : FO Try.prog 102 2 20 := fun a w => by kernel_rfl
theorem fo92_1 : FO Try.prog 92 1 48 := fun a w => by kernel_rfl
theorem sca90 : Sca Try.prog 90 := ⟨Try.isAgg90, Try.sizeOf90⟩
theorem siz102 : ∀ w, (sizeOf 102).run Try.prog w = .ok 21 w := Try.sizeOf102

theorem rvipValid_6 (v : Vip) (hp : v.proto = 6) (w : World) : CallV Try.prog 61 #[.agg (encVip v).toArray] w fun r w' => r = bl (adrOK v.adr) ∧ Ext w w' := by
  have hX : Ext w w := Ext.rfl' w
  refine Calls.of_W (N := 16) Try.func61 rfl rfl rfl ?_
  refine W.reg ?_
  refine WL.box (v := .agg _) rfl rfl rfl ?_
  intro b1 w1 hb1 hs1 hx1 hB1
  have hge1 := hX.size
  replace hX := hX.tr hx1
  refine WL.y (R.asg (v := .bool false) rfl) rfl ?_
  refine WL.nil ?_
  refine W.reg ?_
  refine WL.y (R.fieldAddr fo42_0 rfl) rfl ?_
  refine WL.y (R.load sca5 rfl (hB1).r rfl) rfl ?_
  refine WL.y (R.eqlT rfl rfl (by rw [hp]; rfl)) rfl ?_
  refine WL.y (R.mv (v := .bool true) rfl) rfl ?_
  refine WL.skip rfl ?_
  refine WL.skip rfl ?_
  refine WL.skip rfl ?_
  refine WL.y (R.pkT (v := .bool true) rfl rfl) rfl ?_
  refine WL.y (R.mv (v := .bool true) rfl) rfl ?_
  refine WL.y (R.fieldAddr fo42_1 rfl) rfl ?_
  refine WL.y (R.loadA agg30 rfl (hB1).r rfl rfl) rfl ?_
  refine WL.call Try.func129 rfl rfl (refValid_calls v.adr _) rfl rfl ?_
  rintro _ w2 ⟨rfl, hx2⟩
  have hz2 := hx2.size
  replace hX := hX.tr hx2
  replace hB1 := hx2.blk hB1
  refine WL.y (R.pkT (v := .bool _) rfl rfl) rfl ?_
  refine WL.y (R.asg (v := .bool _) rfl) rfl ?_
  refine WL.nil ?_
  refine W.ret ?_
  exact PR.r1 rfl (.tmp rfl) ⟨rfl, hX⟩

theorem rvipValid_17 (v : Vip) (hp : v.proto = 17) (w : World) : CallV Try.prog 61 #[.agg (encVip v).toArray] w fun r w' => r = bl (adrOK v.adr) ∧ Ext w w' := by
  have hX : Ext w w := Ext.rfl' w
  refine Calls.of_W (N := 16) Try.func61 rfl rfl rfl ?_
  refine W.reg ?_
  refine WL.box (v := .agg _) rfl rfl rfl ?_
  intro b1 w1 hb1 hs1 hx1 hB1
  have hge1 := hX.size
  replace hX := hX.tr hx1
  refine WL.y (R.asg (v := .bool false) rfl) rfl ?_
  refine WL.nil ?_
  refine W.reg ?_
  refine WL.y (R.fieldAddr fo42_0 rfl) rfl ?_
  refine WL.y (R.load sca5 rfl (hB1).r rfl) rfl ?_
  refine WL.y (R.eqlF rfl rfl (by rw [hp]; decide)) rfl ?_
  refine WL.y (R.mv (v := .bool false) rfl) rfl ?_
  refine WL.y (R.fieldAddr fo42_0 rfl) rfl ?_
  refine WL.y (R.load sca5 rfl (hB1).r rfl) rfl ?_
  refine WL.y (R.eqlT rfl rfl (by rw [hp]; rfl)) rfl ?_
  refine WL.y (R.pkF (v := .bool true) rfl rfl) rfl ?_
  refine WL.y (R.mv (v := .bool true) rfl) rfl ?_
  refine WL.y (R.fieldAddr fo42_1 rfl) rfl ?_
  refine WL.y (R.loadA agg30 rfl (hB1).r rfl rfl) rfl ?_
  refine WL.call Try.func129 rfl rfl (refValid_calls v.adr _) rfl rfl ?_
  rintro _ w2 ⟨rfl, hx2⟩
  have hz2 := hx2.size
  replace hX := hX.tr hx2
  replace hB1 := hx2.blk hB1
  refine WL.y (R.pkT (v := .bool _) rfl rfl) rfl ?_
  refine WL.y (R.asg (v := .bool _) rfl) rfl ?_
  refine WL.nil ?_
  refine W.ret ?_
  exact PR.r1 rfl (.tmp rfl) ⟨rfl, hX⟩

theorem rvipValid_no (v : Vip) (h6 : ¬ v.proto = 6) (h17 : ¬ v.proto = 17) (w : World) : CallV Try.prog 61 #[.agg (encVip v).toArray] w fun r w' => r = bl false ∧ Ext w w' := by
  have hX : Ext w w := Ext.rfl' w
  refine Calls.of_W (N := 16) Try.func61 rfl rfl rfl ?_
  refine W.reg ?_
  refine WL.box (v := .agg _) rfl rfl rfl ?_
  intro b1 w1 hb1 hs1 hx1 hB1
  have hge1 := hX.size
  replace hX := hX.tr hx1
  refine WL.y (R.asg (v := .bool false) rfl) rfl ?_
  refine WL.nil ?_
  refine W.reg ?_
  refine WL.y (R.fieldAddr fo42_0 rfl) rfl ?_
  refine WL.y (R.load sca5 rfl (hB1).r rfl) rfl ?_
  refine WL.y (R.eqlF rfl rfl (proto_ne h6)) rfl ?_
  refine WL.y (R.mv (v := .bool false) rfl) rfl ?_
  refine WL.y (R.fieldAddr fo42_0 rfl) rfl ?_
  refine WL.y (R.load sca5 rfl (hB1).r rfl) rfl ?_
  refine WL.y (R.eqlF rfl rfl (proto_ne h17)) rfl ?_
  refine WL.y (R.pkF (v := .bool false) rfl rfl) rfl ?_
  refine WL.y (R.mv (v := .bool false) rfl) rfl ?_
  refine WL.skip rfl ?_
  refine WL.skip rfl ?_
  refine WL.skip rfl ?_
  refine WL.y (R.pkF (v := .bool false) rfl rfl) rfl ?_
  refine WL.y (R.asg (v := .bool false) rfl) rfl ?_
  refine WL.nil ?_
  refine W.ret ?_
  exact PR.r1 rfl (.tmp rfl) ⟨rfl, hX⟩

theorem rvipValid_calls (v : Vip) (w : World) : CallV Try.prog 61 #[.agg (encVip v).toArray] w fun r w' => r = bl (vipOK v) ∧ Ext w w' := by
  by_cases h6 : v.proto = 6
  · exact (rvipValid_6 v h6 w).mono fun r w' h => ⟨h.1.trans (by simp [vipOK, protoOK, h6]), h.2⟩
  · by_cases h17 : v.proto = 17
    · exact (rvipValid_17 v h17 w).mono fun r w' h => ⟨h.1.trans (by simp [vipOK, protoOK, h17]), h.2⟩
    · exact (rvipValid_no v h6 h17 w).mono fun r w' h => ⟨h.1.trans (by simp [vipOK, protoOK, h6, h17]), h.2⟩

theorem rkeyValid_6_s (k : Key) (hp : k.proto = 6) (hs : adrOK k.src = false) (w : World) : CallV Try.prog 65 #[.agg (encKey k).toArray] w fun r w' => r = bl false ∧ Ext w w' := by
  have hX : Ext w w := Ext.rfl' w
  refine Calls.of_W (N := 30) Try.func65 rfl rfl rfl ?_
  refine W.reg ?_
  refine WL.box (v := .agg _) rfl rfl rfl ?_
  intro b1 w1 hb1 hs1 hx1 hB1
  have hge1 := hX.size
  replace hX := hX.tr hx1
  refine WL.y (R.asg (v := .bool false) rfl) rfl ?_
  refine WL.nil ?_
  refine W.reg ?_
  refine WL.y (R.fieldAddr fo37_0 rfl) rfl ?_
  refine WL.y (R.load sca5 rfl (hB1).r rfl) rfl ?_
  refine WL.y (R.eqlT rfl rfl (by rw [hp]; rfl)) rfl ?_
  refine WL.y (R.mv (v := .bool true) rfl) rfl ?_
  refine WL.skip rfl ?_
  refine WL.skip rfl ?_
  refine WL.skip rfl ?_
  refine WL.y (R.pkT (v := .bool true) rfl rfl) rfl ?_
  refine WL.y (R.mv (v := .bool true) rfl) rfl ?_
  refine WL.y (R.fieldAddr fo37_1 rfl) rfl ?_
  refine WL.y (R.loadA agg30 rfl (hB1).r rfl rfl) rfl ?_
  refine WL.call Try.func129 rfl rfl ((refValid_calls k.src _).val (y := bl false) (by rw [hs])) rfl rfl ?_
  rintro _ w2 ⟨rfl, hx2⟩
  have hz2 := hx2.size
  replace hX := hX.tr hx2
  replace hB1 := hx2.blk hB1
  refine WL.y (R.pkT (v := .bool false) rfl rfl) rfl ?_
  refine WL.y (R.mv (v := .bool false) rfl) rfl ?_
  refine WL.skip rfl ?_
  refine WL.skip rfl ?_
  refine WL.skip rfl ?_
  refine WL.y (R.pkF (v := .bool false) rfl rfl) rfl ?_
  refine WL.y (R.mv (v := .bool false) rfl) rfl ?_
  refine WL.skip rfl ?_
  refine WL.skip rfl ?_
  refine WL.skip rfl ?_
  refine WL.skip rfl ?_
  refine WL.skip rfl ?_
  refine WL.skip rfl ?_
  refine WL.skip rfl ?_
  refine WL.y (R.pkF (v := .bool false) rfl rfl) rfl ?_
  refine WL.y (R.asg (v := .bool false) rfl) rfl ?_
  refine WL.nil ?_
  refine W.ret ?_
  exact PR.r1 rfl (.tmp rfl) ⟨rfl, hX⟩

theorem rkeyValid_6_d (k : Key) (hp : k.proto = 6) (hs : adrOK k.src = true) (hd : adrOK k.dst = false) (w : World) : CallV Try.prog 65 #[.agg (encKey k).toArray] w fun r w' => r = bl false ∧ Ext w w' := by
  have hX : Ext w w := Ext.rfl' w
  refine Calls.of_W (N := 30) Try.func65 rfl rfl rfl ?_
  refine W.reg ?_
  refine WL.box (v := .agg _) rfl rfl rfl ?_
  intro b1 w1 hb1 hs1 hx1 hB1
  have hge1 := hX.size
  replace hX := hX.tr hx1
  refine WL.y (R.asg (v := .bool false) rfl) rfl ?_
  refine WL.nil ?_
  refine W.reg ?_
  refine WL.y (R.fieldAddr fo37_0 rfl) rfl ?_
  refine WL.y (R.load sca5 rfl (hB1).r rfl) rfl ?_
  refine WL.y (R.eqlT rfl rfl (by rw [hp]; rfl)) rfl ?_
  refine WL.y (R.mv (v := .bool true) rfl) rfl ?_
  refine WL.skip rfl ?_
  refine WL.skip rfl ?_
  refine WL.skip rfl ?_
  refine WL.y (R.pkT (v := .bool true) rfl rfl) rfl ?_
  refine WL.y (R.mv (v := .bool true) rfl) rfl ?_
  refine WL.y (R.fieldAddr fo37_1 rfl) rfl ?_
  refine WL.y (R.loadA agg30 rfl (hB1).r rfl rfl) rfl ?_
  refine WL.call Try.func129 rfl rfl ((refValid_calls k.src _).val (y := bl true) (by rw [hs])) rfl rfl ?_
  rintro _ w2 ⟨rfl, hx2⟩
  have hz2 := hx2.size
  replace hX := hX.tr hx2
  replace hB1 := hx2.blk hB1
  refine WL.y (R.pkT (v := .bool true) rfl rfl) rfl ?_
  refine WL.y (R.mv (v := .bool true) rfl) rfl ?_
  refine WL.y (R.fieldAddr fo37_2 rfl) rfl ?_
  refine WL.y (R.loadA agg30 rfl (hB1).r rfl rfl) rfl ?_
  refine WL.call Try.func129 rfl rfl ((refValid_calls k.dst _).val (y := bl false) (by rw [hd])) rfl rfl ?_
  rintro _ w3 ⟨rfl, hx3⟩
  have hz3 := hx3.size
  replace hX := hX.tr hx3
  replace hB1 := hx3.blk hB1
  refine WL.y (R.pkT (v := .bool false) rfl rfl) rfl ?_
  refine WL.y (R.mv (v := .bool false) rfl) rfl ?_
  refine WL.skip rfl ?_
  refine WL.skip rfl ?_
  refine WL.skip rfl ?_
  refine WL.skip rfl ?_
  refine WL.skip rfl ?_
  refine WL.skip rfl ?_
  refine WL.skip rfl ?_
  refine WL.y (R.pkF (v := .bool false) rfl rfl) rfl ?_
  refine WL.y (R.asg (v := .bool false) rfl) rfl ?_
  refine WL.nil ?_
  refine W.ret ?_
  exact PR.r1 rfl (.tmp rfl) ⟨rfl, hX⟩

theorem rkeyValid_6_k (k : Key) (hp : k.proto = 6) (hs : adrOK k.src = true) (hd : adrOK k.dst = true) (w : World) : CallV Try.prog 65 #[.agg (encKey k).toArray] w fun r w' => r = bl (k.src.v6 == k.dst.v6) ∧ Ext w w' := by
  have hX : Ext w w := Ext.rfl' w
  refine Calls.of_W (N := 30) Try.func65 rfl rfl rfl ?_
  refine W.reg ?_
  refine WL.box (v := .agg _) rfl rfl rfl ?_
  intro b1 w1 hb1 hs1 hx1 hB1
  have hge1 := hX.size
  replace hX := hX.tr hx1
  refine WL.y (R.asg (v := .bool false) rfl) rfl ?_
  refine WL.nil ?_
  refine W.reg ?_
  refine WL.y (R.fieldAddr fo37_0 rfl) rfl ?_
  refine WL.y (R.load sca5 rfl (hB1).r rfl) rfl ?_
  refine WL.y (R.eqlT rfl rfl (by rw [hp]; rfl)) rfl ?_
  refine WL.y (R.mv (v := .bool true) rfl) rfl ?_
  refine WL.skip rfl ?_
  refine WL.skip rfl ?_
  refine WL.skip rfl ?_
  refine WL.y (R.pkT (v := .bool true) rfl rfl) rfl ?_
  refine WL.y (R.mv (v := .bool true) rfl) rfl ?_
  refine WL.y (R.fieldAddr fo37_1 rfl) rfl ?_
  refine WL.y (R.loadA agg30 rfl (hB1).r rfl rfl) rfl ?_
  refine WL.call Try.func129 rfl rfl ((refValid_calls k.src _).val (y := bl true) (by rw [hs])) rfl rfl ?_
  rintro _ w2 ⟨rfl, hx2⟩
  have hz2 := hx2.size
  replace hX := hX.tr hx2
  replace hB1 := hx2.blk hB1
  refine WL.y (R.pkT (v := .bool true) rfl rfl) rfl ?_
  refine WL.y (R.mv (v := .bool true) rfl) rfl ?_
  refine WL.y (R.fieldAddr fo37_2 rfl) rfl ?_
  refine WL.y (R.loadA agg30 rfl (hB1).r rfl rfl) rfl ?_
  refine WL.call Try.func129 rfl rfl ((refValid_calls k.dst _).val (y := bl true) (by rw [hd])) rfl rfl ?_
  rintro _ w3 ⟨rfl, hx3⟩
  have hz3 := hx3.size
  replace hX := hX.tr hx3
  replace hB1 := hx3.blk hB1
  refine WL.y (R.pkT (v := .bool true) rfl rfl) rfl ?_
  refine WL.y (R.mv (v := .bool true) rfl) rfl ?_
  refine WL.y (R.fieldAddr fo37_1 rfl) rfl ?_
  refine WL.y (R.fieldAddr fo30_0 rfl) rfl ?_
  refine WL.y (R.load sca4 rfl (hB1).r rfl) rfl ?_
  refine WL.y (R.fieldAddr fo37_2 rfl) rfl ?_
  refine WL.y (R.fieldAddr fo30_0 rfl) rfl ?_
  refine WL.y (R.load sca4 rfl (hB1).r rfl) rfl ?_
  refine WL.y (R.eqlB Try.underlying4 rfl rfl) rfl ?_
  refine WL.y (R.pkT (v := .bool _) rfl rfl) rfl ?_
  refine WL.y (R.asg (v := .bool _) rfl) rfl ?_
  refine WL.nil ?_
  refine W.ret ?_
  exact PR.r1 rfl (.tmp rfl) ⟨rfl, hX⟩

theorem rkeyValid_17_s (k : Key) (hp : k.proto = 17) (hs : adrOK k.src = false) (w : World) : CallV Try.prog 65 #[.agg (encKey k).toArray] w fun r w' => r = bl false ∧ Ext w w' := by
  have hX : Ext w w := Ext.rfl' w
  refine Calls.of_W (N := 30) Try.func65 rfl rfl rfl ?_
  refine W.reg ?_
  refine WL.box (v := .agg _) rfl rfl rfl ?_
  intro b1 w1 hb1 hs1 hx1 hB1
  have hge1 := hX.size
  replace hX := hX.tr hx1
  refine WL.y (R.asg (v := .bool false) rfl) rfl ?_
  refine WL.nil ?_
  refine W.reg ?_
  refine WL.y (R.fieldAddr fo37_0 rfl) rfl ?_
  refine WL.y (R.load sca5 rfl (hB1).r rfl) rfl ?_
  refine WL.y (R.eqlF rfl rfl (by rw [hp]; decide)) rfl ?_
  refine WL.y (R.mv (v := .bool false) rfl) rfl ?_
  refine WL.y (R.fieldAddr fo37_0 rfl) rfl ?_
  refine WL.y (R.load sca5 rfl (hB1).r rfl) rfl ?_
  refine WL.y (R.eqlT rfl rfl (by rw [hp]; rfl)) rfl ?_
  refine WL.y (R.pkF (v := .bool true) rfl rfl) rfl ?_
  refine WL.y (R.mv (v := .bool true) rfl) rfl ?_
  refine WL.y (R.fieldAddr fo37_1 rfl) rfl ?_
  refine WL.y (R.loadA agg30 rfl (hB1).r rfl rfl) rfl ?_
  refine WL.call Try.func129 rfl rfl ((refValid_calls k.src _).val (y := bl false) (by rw [hs])) rfl rfl ?_
  rintro _ w2 ⟨rfl, hx2⟩
  have hz2 := hx2.size
  replace hX := hX.tr hx2
  replace hB1 := hx2.blk hB1
  refine WL.y (R.pkT (v := .bool false) rfl rfl) rfl ?_
  refine WL.y (R.mv (v := .bool false) rfl) rfl ?_
  refine WL.skip rfl ?_
  refine WL.skip rfl ?_
  refine WL.skip rfl ?_
  refine WL.y (R.pkF (v := .bool false) rfl rfl) rfl ?_
  refine WL.y (R.mv (v := .bool false) rfl) rfl ?_
  refine WL.skip rfl ?_
  refine WL.skip rfl ?_
  refine WL.skip rfl ?_
  refine WL.skip rfl ?_
  refine WL.skip rfl ?_
  refine WL.skip rfl ?_
  refine WL.skip rfl ?_
  refine WL.y (R.pkF (v := .bool false) rfl rfl) rfl ?_
  refine WL.y (R.asg (v := .bool false) rfl) rfl ?_
  refine WL.nil ?_
  refine W.ret ?_
  exact PR.r1 rfl (.tmp rfl) ⟨rfl, hX⟩

theorem rkeyValid_17_d (k : Key) (hp : k.proto = 17) (hs : adrOK k.src = true) (hd : adrOK k.dst = false) (w : World) : CallV Try.prog 65 #[.agg (encKey k).toArray] w fun r w' => r = bl false ∧ Ext w w' := by
  have hX : Ext w w := Ext.rfl' w
  refine Calls.of_W (N := 30) Try.func65 rfl rfl rfl ?_
  refine W.reg ?_
  refine WL.box (v := .agg _) rfl rfl rfl ?_
  intro b1 w1 hb1 hs1 hx1 hB1
  have hge1 := hX.size
  replace hX := hX.tr hx1
  refine WL.y (R.asg (v := .bool false) rfl) rfl ?_
  refine WL.nil ?_
  refine W.reg ?_
  refine WL.y (R.fieldAddr fo37_0 rfl) rfl ?_
  refine WL.y (R.load sca5 rfl (hB1).r rfl) rfl ?_
  refine WL.y (R.eqlF rfl rfl (by rw [hp]; decide)) rfl ?_
  refine WL.y (R.mv (v := .bool false) rfl) rfl ?_
  refine WL.y (R.fieldAddr fo37_0 rfl) rfl ?_
  refine WL.y (R.load sca5 rfl (hB1).r rfl) rfl ?_
  refine WL.y (R.eqlT rfl rfl (by rw [hp]; rfl)) rfl ?_
  refine WL.y (R.pkF (v := .bool true) rfl rfl) rfl ?_
  refine WL.y (R.mv (v := .bool true) rfl) rfl ?_
  refine WL.y (R.fieldAddr fo37_1 rfl) rfl ?_
  refine WL.y (R.loadA agg30 rfl (hB1).r rfl rfl) rfl ?_
  refine WL.call Try.func129 rfl rfl ((refValid_calls k.src _).val (y := bl true) (by rw [hs])) rfl rfl ?_
  rintro _ w2 ⟨rfl, hx2⟩
  have hz2 := hx2.size
  replace hX := hX.tr hx2
  replace hB1 := hx2.blk hB1
  refine WL.y (R.pkT (v := .bool true) rfl rfl) rfl ?_
  refine WL.y (R.mv (v := .bool true) rfl) rfl ?_
  refine WL.y (R.fieldAddr fo37_2 rfl) rfl ?_
  refine WL.y (R.loadA agg30 rfl (hB1).r rfl rfl) rfl ?_
  refine WL.call Try.func129 rfl rfl ((refValid_calls k.dst _).val (y := bl false) (by rw [hd])) rfl rfl ?_
  rintro _ w3 ⟨rfl, hx3⟩
  have hz3 := hx3.size
  replace hX := hX.tr hx3
  replace hB1 := hx3.blk hB1
  refine WL.y (R.pkT (v := .bool false) rfl rfl) rfl ?_
  refine WL.y (R.mv (v := .bool false) rfl) rfl ?_
  refine WL.skip rfl ?_
  refine WL.skip rfl ?_
  refine WL.skip rfl ?_
  refine WL.skip rfl ?_
  refine WL.skip rfl ?_
  refine WL.skip rfl ?_
  refine WL.skip rfl ?_
  refine WL.y (R.pkF (v := .bool false) rfl rfl) rfl ?_
  refine WL.y (R.asg (v := .bool false) rfl) rfl ?_
  refine WL.nil ?_
  refine W.ret ?_
  exact PR.r1 rfl (.tmp rfl) ⟨rfl, hX⟩

theorem rkeyValid_17_k (k : Key) (hp : k.proto = 17) (hs : adrOK k.src = true) (hd : adrOK k.dst = true) (w : World) : CallV Try.prog 65 #[.agg (encKey k).toArray] w fun r w' => r = bl (k.src.v6 == k.dst.v6) ∧ Ext w w' := by
  have hX : Ext w w := Ext.rfl' w
  refine Calls.of_W (N := 30) Try.func65 rfl rfl rfl ?_
  refine W.reg ?_
  refine WL.box (v := .agg _) rfl rfl rfl ?_
  intro b1 w1 hb1 hs1 hx1 hB1
  have hge1 := hX.size
  replace hX := hX.tr hx1
  refine WL.y (R.asg (v := .bool false) rfl) rfl ?_
  refine WL.nil ?_
  refine W.reg ?_
  refine WL.y (R.fieldAddr fo37_0 rfl) rfl ?_
  refine WL.y (R.load sca5 rfl (hB1).r rfl) rfl ?_
  refine WL.y (R.eqlF rfl rfl (by rw [hp]; decide)) rfl ?_
  refine WL.y (R.mv (v := .bool false) rfl) rfl ?_
  refine WL.y (R.fieldAddr fo37_0 rfl) rfl ?_
  refine WL.y (R.load sca5 rfl (hB1).r rfl) rfl ?_
  refine WL.y (R.eqlT rfl rfl (by rw [hp]; rfl)) rfl ?_
  refine WL.y (R.pkF (v := .bool true) rfl rfl) rfl ?_
  refine WL.y (R.mv (v := .bool true) rfl) rfl ?_
  refine WL.y (R.fieldAddr fo37_1 rfl) rfl ?_
  refine WL.y (R.loadA agg30 rfl (hB1).r rfl rfl) rfl ?_
  refine WL.call Try.func129 rfl rfl ((refValid_calls k.src _).val (y := bl true) (by rw [hs])) rfl rfl ?_
  rintro _ w2 ⟨rfl, hx2⟩
  have hz2 := hx2.size
  replace hX := hX.tr hx2
  replace hB1 := hx2.blk hB1
  refine WL.y (R.pkT (v := .bool true) rfl rfl) rfl ?_
  refine WL.y (R.mv (v := .bool true) rfl) rfl ?_
  refine WL.y (R.fieldAddr fo37_2 rfl) rfl ?_
  refine WL.y (R.loadA agg30 rfl (hB1).r rfl rfl) rfl ?_
  refine WL.call Try.func129 rfl rfl ((refValid_calls k.dst _).val (y := bl true) (by rw [hd])) rfl rfl ?_
  rintro _ w3 ⟨rfl, hx3⟩
  have hz3 := hx3.size
  replace hX := hX.tr hx3
  replace hB1 := hx3.blk hB1
  refine WL.y (R.pkT (v := .bool true) rfl rfl) rfl ?_
  refine WL.y (R.mv (v := .bool true) rfl) rfl ?_
  refine WL.y (R.fieldAddr fo37_1 rfl) rfl ?_
  refine WL.y (R.fieldAddr fo30_0 rfl) rfl ?_
  refine WL.y (R.load sca4 rfl (hB1).r rfl) rfl ?_
  refine WL.y (R.fieldAddr fo37_2 rfl) rfl ?_
  refine WL.y (R.fieldAddr fo30_0 rfl) rfl ?_
  refine WL.y (R.load sca4 rfl (hB1).r rfl) rfl ?_
  refine WL.y (R.eqlB Try.underlying4 rfl rfl) rfl ?_
  refine WL.y (R.pkT (v := .bool _) rfl rfl) rfl ?_
  refine WL.y (R.asg (v := .bool _) rfl) rfl ?_
  refine WL.nil ?_
  refine W.ret ?_
  exact PR.r1 rfl (.tmp rfl) ⟨rfl, hX⟩

theorem rkeyValid_no (k : Key) (h6 : ¬ k.proto = 6) (h17 : ¬ k.proto = 17) (w : World) : CallV Try.prog 65 #[.agg (encKey k).toArray] w fun r w' => r = bl false ∧ Ext w w' := by
  have hX : Ext w w := Ext.rfl' w
  refine Calls.of_W (N := 30) Try.func65 rfl rfl rfl ?_
  refine W.reg ?_
  refine WL.box (v := .agg _) rfl rfl rfl ?_
  intro b1 w1 hb1 hs1 hx1 hB1
  have hge1 := hX.size
  replace hX := hX.tr hx1
  refine WL.y (R.asg (v := .bool false) rfl) rfl ?_
  refine WL.nil ?_
  refine W.reg ?_
  refine WL.y (R.fieldAddr fo37_0 rfl) rfl ?_
  refine WL.y (R.load sca5 rfl (hB1).r rfl) rfl ?_
  refine WL.y (R.eqlF rfl rfl (proto_ne h6)) rfl ?_
  refine WL.y (R.mv (v := .bool false) rfl) rfl ?_
  refine WL.y (R.fieldAddr fo37_0 rfl) rfl ?_
  refine WL.y (R.load sca5 rfl (hB1).r rfl) rfl ?_
  refine WL.y (R.eqlF rfl rfl (proto_ne h17)) rfl ?_
  refine WL.y (R.pkF (v := .bool false) rfl rfl) rfl ?_
  refine WL.y (R.mv (v := .bool false) rfl) rfl ?_
  refine WL.skip rfl ?_
  refine WL.skip rfl ?_
  refine WL.skip rfl ?_
  refine WL.y (R.pkF (v := .bool false) rfl rfl) rfl ?_
  refine WL.y (R.mv (v := .bool false) rfl) rfl ?_
  refine WL.skip rfl ?_
  refine WL.skip rfl ?_
  refine WL.skip rfl ?_
  refine WL.y (R.pkF (v := .bool false) rfl rfl) rfl ?_
  refine WL.y (R.mv (v := .bool false) rfl) rfl ?_
  refine WL.skip rfl ?_
  refine WL.skip rfl ?_
  refine WL.skip rfl ?_
  refine WL.skip rfl ?_
  refine WL.skip rfl ?_
  refine WL.skip rfl ?_
  refine WL.skip rfl ?_
  refine WL.y (R.pkF (v := .bool false) rfl rfl) rfl ?_
  refine WL.y (R.asg (v := .bool false) rfl) rfl ?_
  refine WL.nil ?_
  refine W.ret ?_
  exact PR.r1 rfl (.tmp rfl) ⟨rfl, hX⟩

theorem rkeyValid_calls (k : Key) (w : World) : CallV Try.prog 65 #[.agg (encKey k).toArray] w fun r w' => r = bl (keyOK k) ∧ Ext w w' := by
  have eb : ∀ a b : Bool, (a == b) = decide (a = b) := by decide
  cases hs : adrOK k.src <;> cases hd : adrOK k.dst <;> by_cases h6 : k.proto = 6
  all_goals first
    | exact (rkeyValid_6_k k h6 hs hd w).mono fun r w' h => ⟨h.1.trans (by simp [keyOK, protoOK, h6, hs, hd, eb]), h.2⟩
    | exact (rkeyValid_6_d k h6 hs hd w).mono fun r w' h => ⟨h.1.trans (by simp [keyOK, protoOK, h6, hs, hd, eb]), h.2⟩
    | exact (rkeyValid_6_s k h6 hs w).mono fun r w' h => ⟨h.1.trans (by simp [keyOK, protoOK, h6, hs, hd, eb]), h.2⟩
    | skip
  all_goals by_cases h17 : k.proto = 17
  all_goals first
    | exact (rkeyValid_17_k k h17 hs hd w).mono fun r w' h => ⟨h.1.trans (by simp [keyOK, protoOK, h17, hs, hd, eb]), h.2⟩
    | exact (rkeyValid_17_d k h17 hs hd w).mono fun r w' h => ⟨h.1.trans (by simp [keyOK, protoOK, h17, hs, hd, eb]), h.2⟩
    | exact (rkeyValid_17_s k h17 hs w).mono fun r w' h => ⟨h.1.trans (by simp [keyOK, protoOK, h17, hs, hd, eb]), h.2⟩
    | exact (rkeyValid_no k h6 h17 w).mono fun r w' h => ⟨h.1.trans (by simp [keyOK, protoOK, h6, h17, hs, hd, eb]), h.2⟩

theorem rkeyVip_calls (k : Key) (w : World) : CallV Try.prog 64 #[.agg (encKey k).toArray] w fun r w' => r = .agg (encVip (keyVip k)).toArray ∧ Ext w w' := by
  have hX : Ext w w := Ext.rfl' w
  refine Calls.of_W (N := 10) Try.func64 rfl rfl rfl ?_
  refine W.reg ?_
  refine WL.box (v := .agg _) rfl rfl rfl ?_
  intro b1 w1 hb1 hs1 hx1 hB1
  have hge1 := hX.size
  replace hX := hX.tr hx1
  refine WL.alloc zer42 rfl ?_
  intro b2 w2 hb2 hs2 hx2 hB2
  have hge2 := hX.size
  replace hX := hX.tr hx2
  replace hB1 := hx2.blk hB1
  refine WL.nil ?_
  refine W.reg ?_
  refine WL.y (R.fieldAddr fo37_0 rfl) rfl ?_
  refine WL.y (R.load sca5 rfl (hB1).r rfl) rfl ?_
  refine WL.y (R.fieldAddr fo37_2 rfl) rfl ?_
  refine WL.y (R.loadA agg30 rfl (hB1).r rfl rfl) rfl ?_
  refine WL.y (R.fieldAddr fo37_4 rfl) rfl ?_
  refine WL.y (R.load sca35 rfl (hB1).r rfl) rfl ?_
  refine WL.y (R.buildP (parts := [(0, .tmp 4), (1, .tmp 6), (2, .tmp 8)]) (ps := [(0, .int _ _), (1, .agg _), (2, .int _ _)]) bld42 rfl rfl) rfl ?_
  refine WL.store (v := .agg _) siz42 rfl rfl rfl rfl hB2 (Nat.le_of_ble_eq_true rfl) rfl rfl ?_
  intro w3 hu3 hz3 hn3
  replace hX := hX.put hu3 (by omega)
  replace hB1 := hu3.blk (by omega) hB1
  replace hB2 := hn3; clear hn3
  refine WL.nil ?_
  refine W.ret ?_
  exact PR.r1 rfl (.agg agg42 rfl hB2 rfl) ⟨rfl, hX⟩

/-! ### The document's VIPs -/
structure RE where
  (u : Bool) (v : Vip) (q : Option Addr) (ms : List Mem)
def encT (e : RE) : List Value := [bl e.u] ++ encVip e.v ++ [.pointer e.q]
theorem encTE : Enc encT 21 := ⟨fun _ => rfl, fun _ => rfl⟩
def re0 : RE := ⟨false, vip0, none, []⟩
structure RTab (w : World) (F : Nat → Prop) (b : Nat) (c : Cfg) (rl : List RE) (aE : Option Addr) (cE : Nat) : Prop where
  blk : Blk w b (encCfg c ++ [.slice aE rl.length cE])
  ents : Slw encT 21 w aE cE rl
  ownE : ∀ k, owns aE k → F k ∧ k ≠ b
  fb : F b
  lt : ∀ k, F k → k < w.heap.size
  each : ∀ (i : Nat) (e : RE), rl[i]? = some e → e.u = true → ∃ q rx Fq, e.q = some ⟨q, 0, none⟩ ∧ RPool w Fq q c (pNew c e.ms) rx ∧ ∀ k, Fq k → F k ∧ k ≠ b ∧ ¬ owns aE k
  l16 : rl.length ≤ 16
  ok : CfgOK c
theorem RTab.upd {S : Nat → Prop} {w w' : World} {F : Nat → Prop} {b : Nat} {c : Cfg} {rl : List RE} {aE : Option Addr} {cE : Nat} (h : RTab w F b c rl aE cE) (hu : Upd S w w') (hS : ∀ k, F k → ¬ S k) : RTab w' F b c rl aE cE where
  blk := hu.blk (hS _ h.fb) h.blk
  ents := h.ents.upd hu (fun k hk => hS k (h.ownE k hk).1)
  ownE := h.ownE
  fb := h.fb
  lt k hk := Nat.lt_of_lt_of_le (h.lt k hk) hu.size
  each i e h1 h2 := by
    obtain ⟨q, rx, Fq, e1, e2, e3⟩ := h.each i e h1 h2
    exact ⟨q, rx, Fq, e1, e2.upd hu (fun k hk => hS k (e3 k hk).1), e3⟩
  l16 := h.l16
  ok := h.ok
theorem RTab.ext {w w' : World} {F : Nat → Prop} {b : Nat} {c : Cfg} {rl : List RE} {aE : Option Addr} {cE : Nat} (h : RTab w F b c rl aE cE) (hu : Ext w w') : RTab w' F b c rl aE cE := h.upd (hu.upd fun _ => False) (fun _ _ h => h)
def isR (v : Vip) (e : RE) : Bool := e.u && decide (e.v = v)
def rIdx (rl : List RE) (v : Vip) : Int := idx (isR v) rl
def rIn (rl : List RE) (i : Int) : Bool := decide (0 ≤ i) && match rl[i.toNat]? with | some e => e.u | none => false
def rCount (rl : List RE) : Nat := (rl.filter (·.u)).length
theorem rIn_at {rl : List RE} {k : Nat} {e : RE} (h : rl[k]? = some e) : rIn rl k = e.u := by simp [rIn, h]
theorem rIn_neg {rl : List RE} {i : Int} (h : ¬ 0 ≤ i) : rIn rl i = false := by simp [rIn, h]
theorem rIn_big {rl : List RE} {i : Int} (h : ¬ i < rl.length) : rIn rl i = false := by
  unfold rIn
  rw [List.getElem?_eq_none (by omega)]
  simp

theorem rIn_calls (F : Nat → Prop) (b : Nat) (c : Cfg) (rl : List RE) (aE : Option Addr) (cE : Nat) (w : World) (H : RTab w F b c rl aE cE) (i : Int) : CallV Try.prog 63 #[.pointer (some ⟨b, 0, none⟩), i64 i] w fun r w' => r = bl (rIn rl i) ∧ Ext w w' := by
  have hX : Ext w w := Ext.rfl' w
  have hU : ∀ k, (fun k => w.heap.size ≤ k) k → w.heap.size ≤ k := fun _ h => h
  have hS : Star (fun k => w.heap.size ≤ k) w [] := Star.nil fun _ h => h
  generalize (fun k => w.heap.size ≤ k) = U at hU hS
  have hE := H.ents.ro
  have h16 := H.l16
  refine Calls.of_W (N := 26) Try.func63 rfl rfl rfl ?_
  refine W.reg ?_
  refine WL.y (R.asg (v := .bool false) rfl) rfl ?_
  refine WL.nil ?_
  refine W.reg ?_
  refine WL.y (R.mv (v := .int _ _) rfl) rfl ?_
  refine WL.fork (R.geq rfl rfl) rfl (fun hc1_1 => ?_) (fun hc1_1 => ?_)
  · skip
    replace hc1_1 := of_decide_eq_true hc1_1
    refine WL.y (R.mv (v := .bool true) rfl) rfl ?_
    refine WL.y (R.mv (v := .int _ _) rfl) rfl ?_
    refine WL.y (R.mv (v := .pointer _) rfl) rfl ?_
    refine WL.y (R.nilCheck rfl) rfl ?_
    refine WL.y (R.fieldAddr fo92_1 rfl) rfl ?_
    refine WL.y (R.load sca90 rfl ((hX.blk H.blk)).r rfl) rfl ?_
    refine WL.y (R.lenS Try.underlying90 rfl) rfl ?_
    refine WL.fork (R.lss rfl rfl) rfl (fun hc1_9 => ?_) (fun hc1_9 => ?_)
    · skip
      replace hc1_9 := of_decide_eq_true hc1_9
      refine WL.y (R.pkT (v := .bool true) rfl rfl) rfl ?_
      refine WL.y (R.mv (v := .bool true) rfl) rfl ?_
      obtain ⟨k, rfl⟩ : ∃ k : Nat, i = k := ⟨i.toNat, by omega⟩
      refine WL.y (R.mv (v := .pointer _) rfl) rfl ?_
      refine WL.y (R.nilCheck rfl) rfl ?_
      refine WL.y (R.fieldAddr fo92_1 rfl) rfl ?_
      refine WL.y (R.load sca90 rfl ((hX.blk H.blk)).r rfl) rfl ?_
      refine WL.y (R.mv (v := .int _ _) rfl) rfl ?_
      obtain ⟨g_rl, o_rl, cs_rl, rfl, hO_rl⟩ := hE.op (by omega)
      obtain ⟨x, hx_rl⟩ : ∃ x, rl[k]? = some x := ⟨_, List.getElem?_eq_getElem (by omega)⟩
      refine WL.y (R.indexS Try.underlying90 siz102 rfl rfl rfl (by first | omega | (simp; done) | (simp; omega))) rfl ?_
      refine WL.y (R.fieldAddr fo102_0 rfl) rfl ?_
      refine WL.y (R.load sca4 rfl ((hO_rl.ext hX).blk).r (hO_rl.cell encTE hx_rl (j := 0) (by decide))) rfl ?_
      refine WL.y (R.pkT (v := .bool _) rfl rfl) rfl ?_
      refine WL.y (R.asg (v := .bool _) rfl) rfl ?_
      refine WL.nil ?_
      refine W.ret ?_
      exact PR.r1 rfl (.tmp rfl) ⟨by rw [rIn_at hx_rl]; rfl, hX⟩
    · skip
      replace hc1_9 := of_decide_eq_false hc1_9
      refine WL.y (R.pkT (v := .bool false) rfl rfl) rfl ?_
      refine WL.y (R.mv (v := .bool false) rfl) rfl ?_
      refine WL.skip rfl ?_
      refine WL.skip rfl ?_
      refine WL.skip rfl ?_
      refine WL.skip rfl ?_
      refine WL.skip rfl ?_
      refine WL.skip rfl ?_
      refine WL.skip rfl ?_
      refine WL.skip rfl ?_
      refine WL.y (R.pkF (v := .bool false) rfl rfl) rfl ?_
      refine WL.y (R.asg (v := .bool false) rfl) rfl ?_
      refine WL.nil ?_
      refine W.ret ?_
      exact PR.r1 rfl (.tmp rfl) ⟨by rw [rIn_big hc1_9]; rfl, hX⟩
  · skip
    replace hc1_1 := of_decide_eq_false hc1_1
    refine WL.y (R.mv (v := .bool false) rfl) rfl ?_
    refine WL.skip rfl ?_
    refine WL.skip rfl ?_
    refine WL.skip rfl ?_
    refine WL.skip rfl ?_
    refine WL.skip rfl ?_
    refine WL.skip rfl ?_
    refine WL.skip rfl ?_
    refine WL.y (R.pkF (v := .bool false) rfl rfl) rfl ?_
    refine WL.y (R.mv (v := .bool false) rfl) rfl ?_
    refine WL.skip rfl ?_
    refine WL.skip rfl ?_
    refine WL.skip rfl ?_
    refine WL.skip rfl ?_
    refine WL.skip rfl ?_
    refine WL.skip rfl ?_
    refine WL.skip rfl ?_
    refine WL.skip rfl ?_
    refine WL.y (R.pkF (v := .bool false) rfl rfl) rfl ?_
    refine WL.y (R.asg (v := .bool false) rfl) rfl ?_
    refine WL.nil ?_
    refine W.ret ?_
    exact PR.r1 rfl (.tmp rfl) ⟨by rw [rIn_neg hc1_1]; rfl, hX⟩

theorem rFind_calls (F : Nat → Prop) (b : Nat) (c : Cfg) (rl : List RE) (aE : Option Addr) (cE : Nat) (w : World) (H : RTab w F b c rl aE cE) (v : Vip) : CallV Try.prog 58 #[.pointer (some ⟨b, 0, none⟩), encVv v] w fun r w' => r = i64 (rIdx rl v) ∧ Ext w w' := by
  have hX : Ext w w := Ext.rfl' w
  have hU : ∀ k, (fun k => w.heap.size ≤ k) k → w.heap.size ≤ k := fun _ h => h
  have hS : Star (fun k => w.heap.size ≤ k) w [] := Star.nil fun _ h => h
  generalize (fun k => w.heap.size ≤ k) = U at hU hS
  have hE := H.ents.ro
  have h16 := H.l16
  refine Calls.of_W (N := 36) Try.func58 rfl rfl rfl ?_
  refine W.reg ?_
  refine WL.box (v := .agg _) rfl rfl rfl ?_
  intro b1 w1 hb1 hs1 hx1 hB1
  replace hS := hS.pushBox hb1 hx1 hB1
  replace hX := hX.tr hx1
  clear hB1 hs1
  refine WL.y (R.asg (v := .int _ _) rfl) rfl ?_
  refine WL.nil ?_
  refine W.seq ?_
  refine W.reg ?_
  refine WL.y (R.asg (v := .int _ _) rfl) rfl ?_
  refine WL.nil ?_
  refine W.block ?_
  refine W.loopS (ι := Nat) [(4, 36)] (fun q => [(5, i64 (q : Nat))]) (fun q => rl.length - q) (fun q w' => (q ≤ rl.length ∧ (rl.take q).all (fun x => !isR v x) = true) ∧ Ext w w' ∧ Star U w' [boxA b1 (encVip v)]) 0 ⟨rfl, trivial⟩ ⟨⟨Nat.zero_le _, rfl⟩, hX, hS⟩ ?_
  rintro i j1 w_1 ⟨⟨hi, hall⟩, hX, hS⟩
  refine W.seq ?_
  refine W.reg ?_
  refine WL.y (R.mv (v := .int _ _) rfl) rfl ?_
  refine WL.y (R.mv (v := .pointer _) rfl) rfl ?_
  refine WL.y (R.nilCheck rfl) rfl ?_
  refine WL.y (R.fieldAddr fo92_1 rfl) rfl ?_
  refine WL.y (R.load sca90 rfl ((hX.blk H.blk)).r rfl) rfl ?_
  refine WL.y (R.lenS Try.underlying90 rfl) rfl ?_
  refine WL.fork (R.lss rfl rfl) rfl (fun hc2_6 => ?_) (fun hc2_6 => ?_)
  · skip
    replace hc2_6 := of_decide_eq_true hc2_6
    refine WL.nil ?_
    refine W.cond_t rfl ?_
    refine W.skip ?_
    refine W.seq ?_
    refine W.block ?_
    obtain ⟨g_rl, o_rl, cs_rl, rfl, hO_rl⟩ := hE.op (by omega)
    obtain ⟨x, hx_rl⟩ : ∃ x, rl[i]? = some x := ⟨_, List.getElem?_eq_getElem (by omega)⟩
    cases hxu : x.u
    · skip
      refine W.seq ?_
      refine W.draw (fun j => [1000].contains j) (fun wI => Ext w_1 wI) rfl ?_
      have hI2 := Ext.dr w_1
      refine WA.batch [0, 1, 2, 3, 4, 5, 6, 7, 8, 9, 10, 11, 12, 13, 14, 15, 16, 17, 18, 19] 0 (by kernel_rfl) hI2 ?_
      refine QL.y (fun wq hq => (R.mv (v := .pointer _) rfl)) rfl ?_
      refine QL.y (fun wq hq => (R.nilCheck rfl)) rfl ?_
      refine QL.y (fun wq hq => (R.fieldAddr fo92_1 rfl)) rfl ?_
      refine QL.y (fun wq hq => (R.load sca90 rfl (hq.blkR ((hX.blk H.blk)).r) rfl)) rfl ?_
      refine QL.y (fun wq hq => (R.mv (v := .int _ _) rfl)) rfl ?_
      refine QL.y (fun wq hq => (R.indexS Try.underlying90 siz102 rfl rfl rfl (by first | omega | (simp; done) | (simp; omega)))) rfl ?_
      refine QL.y (fun wq hq => (R.fieldAddr fo102_0 rfl)) rfl ?_
      refine QL.y (fun wq hq => (R.load sca4 rfl (hq.blkR ((hO_rl.ext hX).blk).r) ((hO_rl.cell encTE hx_rl (j := 0) (by decide)).trans (congrArg (fun b => some (bl b)) hxu)))) rfl ?_
      refine QL.y (fun wq hq => (R.mv (v := .bool false) rfl)) rfl ?_
      refine QL.skip rfl ?_
      refine QL.skip rfl ?_
      refine QL.skip rfl ?_
      refine QL.skip rfl ?_
      refine QL.skip rfl ?_
      refine QL.skip rfl ?_
      refine QL.skip rfl ?_
      refine QL.skip rfl ?_
      refine QL.skip rfl ?_
      refine QL.skip rfl ?_
      refine QL.y (fun wq hq => (R.pkF (v := .bool false) rfl rfl)) rfl ?_
      refine QL.nil ?_
      have hD2 := Ext.dr w_1
      have hD2z := hD2.size
      have hS0 := hS
      have hXo := hX
      replace hS := hS.ext hD2
      replace hX := hX.tr hD2
      refine WA.done (by kernel_rfl) ?_
      refine W.cond_f rfl ?_
      refine W.skip ?_
      refine W.region ?_
      refine WL.y (R.mv (v := .int _ _) rfl) rfl ?_
      refine WL.y (R.addI rfl rfl (by omega)) rfl ?_
      refine WL.y (R.asg (v := .int _ _) rfl) rfl ?_
      refine WL.nil ?_
      exact ⟨i + 1, (by omega), (by repeat (first | exact Same.rfl' _ _ | refine Same.set _ rfl ?_ | refine Same.over' _ rfl ?_ | refine Same.sets rfl ?_)), ⟨rfl, trivial⟩, rfl, ⟨by omega, by rw [take_snoc hx_rl, List.all_append, hall]; simp [isR, hxu]⟩, hX, hS⟩
    · skip
      refine W.seq ?_
      refine W.draw (fun j => [1000].contains j) (fun wI => Ext w_1 wI) rfl ?_
      have hI3 := Ext.dr w_1
      refine WA.batch [0, 1, 2, 3, 4, 5, 6, 7, 8, 9, 10, 11, 12, 13, 14, 15, 16, 17, 18, 19] 0 (by kernel_rfl) hI3 ?_
      refine QL.y (fun wq hq => (R.mv (v := .pointer _) rfl)) rfl ?_
      refine QL.y (fun wq hq => (R.nilCheck rfl)) rfl ?_
      refine QL.y (fun wq hq => (R.fieldAddr fo92_1 rfl)) rfl ?_
      refine QL.y (fun wq hq => (R.load sca90 rfl (hq.blkR ((hX.blk H.blk)).r) rfl)) rfl ?_
      refine QL.y (fun wq hq => (R.mv (v := .int _ _) rfl)) rfl ?_
      refine QL.y (fun wq hq => (R.indexS Try.underlying90 siz102 rfl rfl rfl (by first | omega | (simp; done) | (simp; omega)))) rfl ?_
      refine QL.y (fun wq hq => (R.fieldAddr fo102_0 rfl)) rfl ?_
      refine QL.y (fun wq hq => (R.load sca4 rfl (hq.blkR ((hO_rl.ext hX).blk).r) ((hO_rl.cell encTE hx_rl (j := 0) (by decide)).trans (congrArg (fun b => some (bl b)) hxu)))) rfl ?_
      refine QL.y (fun wq hq => (R.mv (v := .bool true) rfl)) rfl ?_
      refine QL.y (fun wq hq => (R.mv (v := .pointer _) rfl)) rfl ?_
      refine QL.y (fun wq hq => (R.nilCheck rfl)) rfl ?_
      refine QL.y (fun wq hq => (R.fieldAddr fo92_1 rfl)) rfl ?_
      refine QL.y (fun wq hq => (R.load sca90 rfl (hq.blkR ((hX.blk H.blk)).r) rfl)) rfl ?_
      refine QL.y (fun wq hq => (R.mv (v := .int _ _) rfl)) rfl ?_
      refine QL.y (fun wq hq => (R.indexS Try.underlying90 siz102 rfl rfl rfl (by first | omega | (simp; done) | (simp; omega)))) rfl ?_
      refine QL.y (fun wq hq => (R.fieldAddr fo102_1 rfl)) rfl ?_
      refine QL.y (fun wq hq => (R.loadA agg42 rfl (hq.blkR ((hO_rl.ext hX).blk).r) (hO_rl.fld encTE hx_rl 1 19 (by decide)) rfl)) rfl ?_
      refine QL.y (fun wq hq => (R.loadA agg42 rfl (hq.blkR (hS.blk0).r) rfl rfl)) rfl ?_
      refine QL.y (fun wq hq => (R.eqlAT (xs := encVip x.v) (ys := encVip v) (q := decide (x.v = v)) eq42 (by decide) agg42 Try.eqGuardType42 rfl rfl (typed_vip _) (typed_vip _) (veq_vip _ _))) rfl ?_
      refine QL.y (fun wq hq => (R.pkT (v := .bool _) rfl rfl)) rfl ?_
      refine QL.nil ?_
      have hD3 := Ext.dr w_1
      have hD3z := hD3.size
      have hS0 := hS
      have hXo := hX
      replace hS := hS.ext hD3
      replace hX := hX.tr hD3
      refine WA.done (by kernel_rfl) ?_
      refine W.cond _ rfl (fun hdd => ?_) (fun hdd => ?_)
      · skip
        replace hdd := of_decide_eq_true hdd
        refine W.reg ?_
        refine WL.y (R.mv (v := .int _ _) rfl) rfl ?_
        refine WL.y (R.asg (v := .int _ _) rfl) rfl ?_
        refine WL.nil ?_
        refine W.ret ?_
        exact PR.r1 rfl (.tmp rfl) ⟨by rw [rIdx, idx_hit hall hx_rl (by simp [isR, hxu, hdd])]; rfl, hX⟩
      · skip
        replace hdd := of_decide_eq_false hdd
        refine W.skip ?_
        refine W.region ?_
        refine WL.y (R.mv (v := .int _ _) rfl) rfl ?_
        refine WL.y (R.addI rfl rfl (by omega)) rfl ?_
        refine WL.y (R.asg (v := .int _ _) rfl) rfl ?_
        refine WL.nil ?_
        exact ⟨i + 1, (by omega), (by repeat (first | exact Same.rfl' _ _ | refine Same.set _ rfl ?_ | refine Same.over' _ rfl ?_ | refine Same.sets rfl ?_)), ⟨rfl, trivial⟩, rfl, ⟨by omega, by rw [take_snoc hx_rl, List.all_append, hall]; simp [isR, hxu, hdd]⟩, hX, hS⟩
  · skip
    replace hc2_6 := of_decide_eq_false hc2_6
    refine WL.nil ?_
    refine W.cond_f rfl ?_
    refine W.exit ?_
    refine W.reg ?_
    refine WL.y (R.asg (v := .int _ _) rfl) rfl ?_
    refine WL.nil ?_
    refine W.ret ?_
    exact PR.r1 rfl (.tmp rfl) ⟨by rw [rIdx, idx_miss hall (by omega)]; rfl, hX⟩

theorem rLen_calls (F : Nat → Prop) (b : Nat) (c : Cfg) (rl : List RE) (aE : Option Addr) (cE : Nat) (w : World) (H : RTab w F b c rl aE cE) : CallV Try.prog 59 #[.pointer (some ⟨b, 0, none⟩)] w fun r w' => r = i64 (rCount rl : Nat) ∧ Ext w w' := by
  have hX : Ext w w := Ext.rfl' w
  have hU : ∀ k, (fun k => w.heap.size ≤ k) k → w.heap.size ≤ k := fun _ h => h
  have hS : Star (fun k => w.heap.size ≤ k) w [] := Star.nil fun _ h => h
  generalize (fun k => w.heap.size ≤ k) = U at hU hS
  have hE := H.ents.ro
  have h16 := H.l16
  refine Calls.of_W (N := 25) Try.func59 rfl rfl rfl ?_
  refine W.reg ?_
  refine WL.y (R.asg (v := .int _ _) rfl) rfl ?_
  refine WL.nil ?_
  refine W.reg ?_
  refine WL.y (R.asg (v := .int _ _) rfl) rfl ?_
  refine WL.nil ?_
  refine W.seq ?_
  refine W.reg ?_
  refine WL.y (R.asg (v := .int _ _) rfl) rfl ?_
  refine WL.nil ?_
  refine W.block ?_
  refine W.loopS (ι := Nat) [(3, 24)] (fun q => [(4, i64 (q : Nat)), (3, i64 (rCount (rl.take q) : Nat))]) (fun q => rl.length - q) (fun q w' => (q ≤ rl.length) ∧ Ext w w' ∧ Star U w' []) 0 ⟨rfl, rfl, trivial⟩ ⟨Nat.zero_le _, hX, hS⟩ ?_
  rintro i j1 w_1 ⟨hi, hX, hS⟩
  have hcl : rCount (rl.take i) ≤ 16 := Nat.le_trans (List.length_filter_le _ _) (by rw [List.length_take]; omega)
  refine W.seq ?_
  refine W.reg ?_
  refine WL.y (R.mv (v := .int _ _) rfl) rfl ?_
  refine WL.y (R.mv (v := .pointer _) rfl) rfl ?_
  refine WL.y (R.nilCheck rfl) rfl ?_
  refine WL.y (R.fieldAddr fo92_1 rfl) rfl ?_
  refine WL.y (R.load sca90 rfl ((hX.blk H.blk)).r rfl) rfl ?_
  refine WL.y (R.lenS Try.underlying90 rfl) rfl ?_
  refine WL.fork (R.lss rfl rfl) rfl (fun hc3_6 => ?_) (fun hc3_6 => ?_)
  · skip
    replace hc3_6 := of_decide_eq_true hc3_6
    refine WL.nil ?_
    refine W.cond_t rfl ?_
    refine W.skip ?_
    refine W.seq ?_
    refine W.block ?_
    obtain ⟨g_rl, o_rl, cs_rl, rfl, hO_rl⟩ := hE.op (by omega)
    obtain ⟨x, hx_rl⟩ : ∃ x, rl[i]? = some x := ⟨_, List.getElem?_eq_getElem (by omega)⟩
    cases hxu : x.u
    · skip
      refine W.reg ?_
      refine WL.y (R.mv (v := .pointer _) rfl) rfl ?_
      refine WL.y (R.nilCheck rfl) rfl ?_
      refine WL.y (R.fieldAddr fo92_1 rfl) rfl ?_
      refine WL.y (R.load sca90 rfl ((hX.blk H.blk)).r rfl) rfl ?_
      refine WL.y (R.mv (v := .int _ _) rfl) rfl ?_
      refine WL.y (R.indexS Try.underlying90 siz102 rfl rfl rfl (by first | omega | (simp; done) | (simp; omega))) rfl ?_
      refine WL.y (R.fieldAddr fo102_0 rfl) rfl ?_
      refine WL.y (R.load sca4 rfl ((hO_rl.ext hX).blk).r ((hO_rl.cell encTE hx_rl (j := 0) (by decide)).trans (congrArg (fun b => some (bl b)) hxu))) rfl ?_
      refine WL.nil ?_
      refine W.cond_f rfl ?_
      refine W.skip ?_
      refine W.region ?_
      refine WL.y (R.mv (v := .int _ _) rfl) rfl ?_
      refine WL.y (R.addI rfl rfl (by omega)) rfl ?_
      refine WL.y (R.asg (v := .int _ _) rfl) rfl ?_
      refine WL.nil ?_
      exact ⟨i + 1, (by omega), (by repeat (first | exact Same.rfl' _ _ | refine Same.set _ rfl ?_ | refine Same.over' _ rfl ?_ | refine Same.sets rfl ?_)), ⟨rfl, by show i64 _ = i64 _; unfold rCount; rw [take_snoc hx_rl, List.filter_append, List.length_append]; simp [hxu], trivial⟩, rfl, by omega, hX, hS⟩
    · skip
      refine W.reg ?_
      refine WL.y (R.mv (v := .pointer _) rfl) rfl ?_
      refine WL.y (R.nilCheck rfl) rfl ?_
      refine WL.y (R.fieldAddr fo92_1 rfl) rfl ?_
      refine WL.y (R.load sca90 rfl ((hX.blk H.blk)).r rfl) rfl ?_
      refine WL.y (R.mv (v := .int _ _) rfl) rfl ?_
      refine WL.y (R.indexS Try.underlying90 siz102 rfl rfl rfl (by first | omega | (simp; done) | (simp; omega))) rfl ?_
      refine WL.y (R.fieldAddr fo102_0 rfl) rfl ?_
      refine WL.y (R.load sca4 rfl ((hO_rl.ext hX).blk).r ((hO_rl.cell encTE hx_rl (j := 0) (by decide)).trans (congrArg (fun b => some (bl b)) hxu))) rfl ?_
      refine WL.nil ?_
      refine W.cond_t rfl ?_
      refine W.region ?_
      refine WL.y (R.mv (v := .int _ _) rfl) rfl ?_
      refine WL.y (R.addI rfl rfl (by omega)) rfl ?_
      refine WL.y (R.asg (v := .int _ _) rfl) rfl ?_
      refine WL.nil ?_
      refine W.region ?_
      refine WL.y (R.mv (v := .int _ _) rfl) rfl ?_
      refine WL.y (R.addI rfl rfl (by omega)) rfl ?_
      refine WL.y (R.asg (v := .int _ _) rfl) rfl ?_
      refine WL.nil ?_
      exact ⟨i + 1, (by omega), (by repeat (first | exact Same.rfl' _ _ | refine Same.set _ rfl ?_ | refine Same.over' _ rfl ?_ | refine Same.sets rfl ?_)), ⟨rfl, by show i64 _ = i64 _; unfold rCount; rw [take_snoc hx_rl, List.filter_append, List.length_append]; simp [hxu], trivial⟩, rfl, by omega, hX, hS⟩
  · skip
    replace hc3_6 := of_decide_eq_false hc3_6
    refine WL.nil ?_
    refine W.cond_f rfl ?_
    refine W.exit ?_
    refine W.reg ?_
    refine WL.y (R.mv (v := .int _ _) rfl) rfl ?_
    refine WL.y (R.asg (v := .int _ _) rfl) rfl ?_
    refine WL.nil ?_
    refine W.ret ?_
    obtain rfl : i = rl.length := by omega
    exact PR.r1 rfl (.tmp rfl) ⟨by rw [List.take_length]; rfl, hX⟩
end Go.Proofs.Ytkjecokkdbapkaa

namespace Go.Proofs.Ytkjecokkdbapkaa
set_option linter.all false
open Go Go.Eng Go.RowKit
set_option maxRecDepth 20000
set_option maxHeartbeats 2000000
set_option linter.unusedVariables false
set_option linter.unusedSimpArgs false
attribute [local irreducible] WL W QL WA SP

def zc102 : List Value := [.bool false, .int .u8 0, .bool false, .int .u8 0, .int .u8 0, .int .u8 0, .int .u8 0, .int .u8 0, .int .u8 0, .int .u8 0, .int .u8 0, .int .u8 0, .int .u8 0, .int .u8 0, .int .u8 0, .int .u8 0, .int .u8 0, .int .u8 0, .int .u8 0, .int .u16 0, .pointer none]
theorem agg102 : Agg Try.prog 102 21 := ⟨Try.isAgg102, Try.sizeOf102⟩
def pl102 : Nat → Option (Nat × Nat) := fun i => (#[(0, 1), (1, 19), (20, 1)] : Array (Nat × Nat))[i]?
theorem bld102 : Bld Try.prog 102 pl102 zc102 := ⟨_, fun parts w => by
  simp only [pl102, Instr.build, Sem.run_bind, Try.zeroValue102, Try.runUnderlying102, Result.andThen_ok, List.mapM_toArray, List.mapM_cons, List.mapM_nil, Try.sizeOf4, Try.sizeOf42, Try.sizeOf64, Sem.run_pure, Sem.run_map]
  rfl⟩
theorem el90_102 : Elem Try.prog 90 102 21 32 zc102 := ⟨Try.underlying90, ⟨Try.t102, .agg _, rfl, rfl, rfl, rfl, rfl⟩, rfl, rfl⟩
theorem zer102 : Zer Try.prog 102 zc102 := ⟨_, Try.zeroValue102, rfl⟩

theorem kinds_all (v : Vip) (ms : List Mem) : kinds v ms = !(ms.all fun x => x.dip.adr.v6 == v.adr.v6) := by
  unfold kinds
  cases h : ms.all (fun x => x.dip.adr.v6 == v.adr.v6) with
  | true =>
    rw [idx_none (fun i x hx => ?_)]
    · rfl
    · rw [List.all_eq_true] at h
      simp [h x (List.mem_of_getElem? hx)]
  | false =>
    by_cases hn : idx (fun x : Mem => !(x.dip.adr.v6 == v.adr.v6)) ms < 0
    · have h2 := idx_neg hn
      rw [List.all_eq_false] at h
      obtain ⟨x, hx, hb⟩ := h
      obtain ⟨i, hi⟩ := List.getElem?_of_mem hx
      have := h2 i x hi
      simp at this
      exact absurd (by simp [this]) hb
    · simp; omega

theorem rKinds_e (c : Cfg) (v : Vip) (ms : List Mem) (h63 : ms.length ≤ 1000000000) (a : Option Addr) (cc : Nat) (w : World) (hM : Sli encMem 19 w a cc ms) (hen : c.encap = true) : CallV Try.prog 127 #[.agg (encCfg c).toArray, encVv v, .slice a ms.length cc] w fun r w' => r = bl (c.encap || ms.all fun x => x.dip.adr.v6 == v.adr.v6) ∧ Ext w w' := by
  have hX : Ext w w := Ext.rfl' w
  have hU : ∀ k, (fun k => w.heap.size ≤ k) k → w.heap.size ≤ k := fun _ h => h
  have hS : Star (fun k => w.heap.size ≤ k) w [] := Star.nil fun _ h => h
  generalize (fun k => w.heap.size ≤ k) = U at hU hS
  refine Calls.of_W (N := 30) Try.func127 rfl rfl rfl ?_
  refine W.reg ?_
  refine WL.box (v := .agg _) rfl rfl rfl ?_
  intro b1 w1 hb1 hs1 hx1 hB1
  replace hS := hS.pushBox hb1 hx1 hB1
  replace hX := hX.tr hx1
  clear hB1 hs1
  refine WL.box (v := .agg _) rfl rfl rfl ?_
  intro b2 w2 hb2 hs2 hx2 hB2
  replace hS := hS.pushBox hb2 hx2 hB2
  replace hX := hX.tr hx2
  clear hB2 hs2
  refine WL.y (R.asg (v := .bool false) rfl) rfl ?_
  refine WL.nil ?_
  refine W.seq ?_
  refine W.reg ?_
  refine WL.y (R.asg (v := .int _ _) rfl) rfl ?_
  refine WL.nil ?_
  refine W.block ?_
  refine W.loopS (ι := Unit) [(6, 30)] (fun _ => [(7, i64 0)]) (fun _ => 0) (fun _ w' => (True) ∧ Ext w w' ∧ Star U w' [boxA b2 (encVip v), boxA b1 (encCfg c)]) () ⟨rfl, trivial⟩ ⟨trivial, hX, hS⟩ ?_
  rintro _ j1 w_1 ⟨-, hX, hS⟩
  refine W.seq ?_
  refine W.reg ?_
  refine WL.y (R.mv (v := .int _ _) rfl) rfl ?_
  refine WL.y (R.mv (v := .slice _ _ _) rfl) rfl ?_
  refine WL.y (R.lenS Try.underlying52 rfl) rfl ?_
  refine WL.fork (R.lss rfl rfl) rfl (fun hc2_3 => ?_) (fun hc2_3 => ?_)
  · skip
    replace hc2_3 := of_decide_eq_true hc2_3
    refine WL.y (R.mv (v := .bool true) rfl) rfl ?_
    refine WL.y (R.fieldAddr fo33_12 rfl) rfl ?_
    refine WL.y (R.load sca4 rfl (hS.blk1).r (congrArg (fun b => some (bl b)) hen)) rfl ?_
    refine WL.y (R.notT rfl) rfl ?_
    refine WL.y (R.pkT (v := .bool false) rfl rfl) rfl ?_
    refine WL.nil ?_
    refine W.cond_f rfl ?_
    refine W.exit ?_
    refine W.reg ?_
    refine WL.y (R.asg (v := .bool true) rfl) rfl ?_
    refine WL.nil ?_
    refine W.ret ?_
    exact PR.r1 rfl (.tmp rfl) ⟨by rw [hen]; rfl, hX⟩
  · skip
    replace hc2_3 := of_decide_eq_false hc2_3
    refine WL.y (R.mv (v := .bool false) rfl) rfl ?_
    refine WL.skip rfl ?_
    refine WL.skip rfl ?_
    refine WL.skip rfl ?_
    refine WL.y (R.pkF (v := .bool false) rfl rfl) rfl ?_
    refine WL.nil ?_
    refine W.cond_f rfl ?_
    refine W.exit ?_
    refine W.reg ?_
    refine WL.y (R.asg (v := .bool true) rfl) rfl ?_
    refine WL.nil ?_
    refine W.ret ?_
    exact PR.r1 rfl (.tmp rfl) ⟨by rw [hen]; rfl, hX⟩

theorem rKinds_n (c : Cfg) (v : Vip) (ms : List Mem) (h63 : ms.length ≤ 1000000000) (a : Option Addr) (cc : Nat) (w : World) (hM : Sli encMem 19 w a cc ms) (hen : c.encap = false) : CallV Try.prog 127 #[.agg (encCfg c).toArray, encVv v, .slice a ms.length cc] w fun r w' => r = bl (c.encap || ms.all fun x => x.dip.adr.v6 == v.adr.v6) ∧ Ext w w' := by
  have hX : Ext w w := Ext.rfl' w
  have hU : ∀ k, (fun k => w.heap.size ≤ k) k → w.heap.size ≤ k := fun _ h => h
  have hS : Star (fun k => w.heap.size ≤ k) w [] := Star.nil fun _ h => h
  generalize (fun k => w.heap.size ≤ k) = U at hU hS
  refine Calls.of_W (N := 30) Try.func127 rfl rfl rfl ?_
  refine W.reg ?_
  refine WL.box (v := .agg _) rfl rfl rfl ?_
  intro b1 w1 hb1 hs1 hx1 hB1
  replace hS := hS.pushBox hb1 hx1 hB1
  replace hX := hX.tr hx1
  clear hB1 hs1
  refine WL.box (v := .agg _) rfl rfl rfl ?_
  intro b2 w2 hb2 hs2 hx2 hB2
  replace hS := hS.pushBox hb2 hx2 hB2
  replace hX := hX.tr hx2
  clear hB2 hs2
  refine WL.y (R.asg (v := .bool false) rfl) rfl ?_
  refine WL.nil ?_
  refine W.seq ?_
  refine W.reg ?_
  refine WL.y (R.asg (v := .int _ _) rfl) rfl ?_
  refine WL.nil ?_
  refine W.block ?_
  refine W.loopS (ι := Nat) [(6, 30)] (fun q => [(7, i64 (q : Nat))]) (fun q => ms.length - q) (fun q w' => (q ≤ ms.length ∧ (ms.take q).all (fun x => x.dip.adr.v6 == v.adr.v6) = true) ∧ Ext w w' ∧ Star U w' [boxA b2 (encVip v), boxA b1 (encCfg c)]) 0 ⟨rfl, trivial⟩ ⟨⟨Nat.zero_le _, rfl⟩, hX, hS⟩ ?_
  rintro i j1 w_1 ⟨⟨hi, hall⟩, hX, hS⟩
  refine W.seq ?_
  refine W.reg ?_
  refine WL.y (R.mv (v := .int _ _) rfl) rfl ?_
  refine WL.y (R.mv (v := .slice _ _ _) rfl) rfl ?_
  refine WL.y (R.lenS Try.underlying52 rfl) rfl ?_
  refine WL.fork (R.lss rfl rfl) rfl (fun hc2_3 => ?_) (fun hc2_3 => ?_)
  · skip
    replace hc2_3 := of_decide_eq_true hc2_3
    refine WL.y (R.mv (v := .bool true) rfl) rfl ?_
    refine WL.y (R.fieldAddr fo33_12 rfl) rfl ?_
    refine WL.y (R.load sca4 rfl (hS.blk1).r (congrArg (fun b => some (bl b)) hen)) rfl ?_
    refine WL.y (R.notF rfl) rfl ?_
    refine WL.y (R.pkT (v := .bool true) rfl rfl) rfl ?_
    refine WL.nil ?_
    refine W.cond_t rfl ?_
    refine W.skip ?_
    refine W.seq ?_
    refine W.block ?_
    refine W.seq ?_
    refine W.draw (fun j => [1000].contains j) (fun wI => Ext w_1 wI) rfl ?_
    have hI3 := Ext.dr w_1
    refine WA.batch [0, 1, 2, 3, 4, 5, 6, 7, 8, 9, 10] 0 (by kernel_rfl) hI3 ?_
    refine QL.y (fun wq hq => (R.mv (v := .slice _ _ _) rfl)) rfl ?_
    refine QL.y (fun wq hq => (R.mv (v := .int _ _) rfl)) rfl ?_
    obtain ⟨g_ms, o_ms, cs_ms, rfl, hO_ms⟩ := hM.op (by omega)
    obtain ⟨x, hx_ms⟩ : ∃ x, ms[i]? = some x := ⟨_, List.getElem?_eq_getElem (by omega)⟩
    refine QL.y (fun wq hq => (R.indexS Try.underlying52 siz57 rfl rfl rfl (by first | omega | (simp; done) | (simp; omega)))) rfl ?_
    refine QL.y (fun wq hq => (R.fieldAddr fo57_0 rfl)) rfl ?_
    refine QL.y (fun wq hq => (R.fieldAddr fo54_0 rfl)) rfl ?_
    refine QL.y (fun wq hq => (R.fieldAddr fo30_0 rfl)) rfl ?_
    refine QL.y (fun wq hq => (R.load sca4 rfl (hq.blkR ((hO_ms.ext hX).blk).r) (hO_ms.cell encM hx_ms (j := 0) (by decide)))) rfl ?_
    refine QL.y (fun wq hq => (R.fieldAddr fo42_1 rfl)) rfl ?_
    refine QL.y (fun wq hq => (R.fieldAddr fo30_0 rfl)) rfl ?_
    refine QL.y (fun wq hq => (R.load sca4 rfl (hq.blkR (hS.blk0).r) rfl)) rfl ?_
    refine QL.y (fun wq hq => (R.neqB Try.underlying4 rfl rfl)) rfl ?_
    refine QL.nil ?_
    have hD3 := Ext.dr w_1
    have hD3z := hD3.size
    have hS0 := hS
    have hXo := hX
    replace hS := hS.ext hD3
    replace hX := hX.tr hD3
    refine WA.done (by kernel_rfl) ?_
    refine W.cond _ rfl (fun hdd => ?_) (fun hdd => ?_)
    · skip
      refine W.reg ?_
      refine WL.y (R.asg (v := .bool false) rfl) rfl ?_
      refine WL.nil ?_
      refine W.ret ?_
      exact PR.r1 rfl (.tmp rfl) ⟨by rw [hen, show (ms.all fun x => x.dip.adr.v6 == v.adr.v6) = false from by rw [List.all_eq_false]; exact ⟨x, List.mem_of_getElem? hx_ms, by simpa using hdd⟩]; rfl, hX⟩
    · skip
      refine W.skip ?_
      refine W.region ?_
      refine WL.y (R.mv (v := .int _ _) rfl) rfl ?_
      refine WL.y (R.addI rfl rfl (by omega)) rfl ?_
      refine WL.y (R.asg (v := .int _ _) rfl) rfl ?_
      refine WL.nil ?_
      exact ⟨i + 1, (by omega), (by repeat (first | exact Same.rfl' _ _ | refine Same.set _ rfl ?_ | refine Same.over' _ rfl ?_ | refine Same.sets rfl ?_)), ⟨rfl, trivial⟩, rfl, ⟨by omega, by rw [take_snoc hx_ms, List.all_append, hall]; simpa using hdd⟩, hX, hS⟩
  · skip
    replace hc2_3 := of_decide_eq_false hc2_3
    refine WL.y (R.mv (v := .bool false) rfl) rfl ?_
    refine WL.skip rfl ?_
    refine WL.skip rfl ?_
    refine WL.skip rfl ?_
    refine WL.y (R.pkF (v := .bool false) rfl rfl) rfl ?_
    refine WL.nil ?_
    refine W.cond_f rfl ?_
    refine W.exit ?_
    refine W.reg ?_
    refine WL.y (R.asg (v := .bool true) rfl) rfl ?_
    refine WL.nil ?_
    refine W.ret ?_
    exact PR.r1 rfl (.tmp rfl) ⟨by (obtain rfl : i = ms.length := by omega); rw [List.take_length] at hall; rw [hall, Bool.or_true]; rfl, hX⟩

theorem rKinds_calls (c : Cfg) (v : Vip) (ms : List Mem) (h63 : ms.length ≤ 1000000000) (a : Option Addr) (cc : Nat) (w : World) (hM : Sli encMem 19 w a cc ms) : CallV Try.prog 127 #[.agg (encCfg c).toArray, encVv v, .slice a ms.length cc] w fun r w' => r = bl (c.encap || ms.all fun x => x.dip.adr.v6 == v.adr.v6) ∧ Ext w w' := by
  cases h : c.encap with
  | true => rw [← h]; exact rKinds_e c v ms h63 a cc w hM h
  | false => rw [← h]; exact rKinds_n c v ms h63 a cc w hM h

theorem rRemove_no (F : Nat → Prop) (b : Nat) (c : Cfg) (rl : List RE) (aE : Option Addr) (cE : Nat) (w : World) (H : RTab w F b c rl aE cE) (i : Int) (hi : rIn rl i = false) : CallV Try.prog 56 #[.pointer (some ⟨b, 0, none⟩), i64 i] w fun r w' => r = i64 4 ∧ Ext w w' := by
  have hX : Ext w w := Ext.rfl' w
  have hU : ∀ k, (fun k => w.heap.size ≤ k) k → w.heap.size ≤ k := fun _ h => h
  have hS : Star (fun k => w.heap.size ≤ k) w [] := Star.nil fun _ h => h
  generalize (fun k => w.heap.size ≤ k) = U at hU hS
  have hE := H.ents.ro
  have h16 := H.l16
  refine Calls.of_W (N := 16) Try.func56 rfl rfl rfl ?_
  refine W.reg ?_
  refine WL.y (R.asg (v := .int _ _) rfl) rfl ?_
  refine WL.nil ?_
  refine W.seq ?_
  refine W.reg ?_
  refine WL.y (R.mv (v := .pointer _) rfl) rfl ?_
  refine WL.y (R.mv (v := .int _ _) rfl) rfl ?_
  refine WL.call Try.func63 rfl rfl ((rIn_calls F b c rl aE cE _ (H.ext hX) i).val (y := bl false) (by rw [hi])) rfl rfl ?_
  rintro _ w1 ⟨rfl, hx1⟩
  replace hS := hS.ext hx1
  replace hX := hX.tr hx1
  refine WL.y (R.notF rfl) rfl ?_
  refine WL.nil ?_
  refine W.cond_t rfl ?_
  refine W.reg ?_
  refine WL.y (R.asg (v := .int _ _) rfl) rfl ?_
  refine WL.nil ?_
  refine W.ret ?_
  exact PR.r1 rfl (.tmp rfl) ⟨rfl, hX⟩

theorem RTab.turn {w w' : World} {F F' : Nat → Prop} {b : Nat} {c : Cfg} {rl : List RE} {aE : Option Addr} {cE : Nat} (H : RTab w F b c rl aE cE) (hu : Upd (fun k => k = b ∨ owns aE k) w w') (hF : ∀ k, F k → F' k) (hlt : ∀ k, F' k → k < w'.heap.size)
    {rl' : List RE} {aE' : Option Addr} {cE' : Nat} (hb : Blk w' b (encCfg c ++ [.slice aE' rl'.length cE'])) (hE : Slw encT 21 w' aE' cE' rl') (ho : ∀ k, owns aE' k → F' k ∧ k ≠ b ∧ (owns aE k ∨ w.heap.size ≤ k)) (h16 : rl'.length ≤ 16)
    {e0 : RE} (hin : ∀ (i : Nat) (e : RE), rl'[i]? = some e → (∃ j : Nat, rl[j]? = some e) ∨ e = e0)
    (h0 : e0.u = true → ∃ q rx Fq, e0.q = some ⟨q, 0, none⟩ ∧ RPool w' Fq q c (pNew c e0.ms) rx ∧ ∀ k, Fq k → F' k ∧ k ≠ b ∧ ¬ owns aE' k) : RTab w' F' b c rl' aE' cE' where
  blk := hb
  ents := hE
  ownE k hk := ⟨(ho k hk).1, (ho k hk).2.1⟩
  fb := hF _ H.fb
  lt := hlt
  each i e h1 h2 := by
    rcases hin i e h1 with ⟨j, hj⟩ | rfl
    · obtain ⟨q, rx, Fq, e1, e2, e3⟩ := H.each j e hj h2
      refine ⟨q, rx, Fq, e1, e2.upd hu (fun k hk hs => ?_), fun k hk => ⟨hF k (e3 k hk).1, (e3 k hk).2.1, fun hn => ?_⟩⟩
      · rcases hs with hs | hs
        · exact (e3 k hk).2.1 hs
        · exact (e3 k hk).2.2 hs
      · rcases (ho k hn).2.2 with h | h
        · exact (e3 k hk).2.2 h
        · have := e2.lt k hk; omega
    · exact h0 h2
  l16 := h16
  ok := H.ok
theorem set_in {l : List RE} {k : Nat} {e0 : RE} (i : Nat) (e : RE) (h : (l.set k e0)[i]? = some e) : (∃ j : Nat, l[j]? = some e) ∨ e = e0 := by
  rcases set_cases h with ⟨_, rfl⟩ | ⟨_, h⟩
  · exact .inr rfl
  · exact .inl ⟨i, h⟩

theorem rRemove_yes (F : Nat → Prop) (b : Nat) (c : Cfg) (rl : List RE) (aE : Option Addr) (cE : Nat) (w : World) (H : RTab w F b c rl aE cE) (k : Nat) (e : RE) (hk : rl[k]? = some e) (hue : e.u = true) : CallV Try.prog 56 #[.pointer (some ⟨b, 0, none⟩), i64 (k : Nat)] w fun r w' => r = i64 0 ∧ Upd F w w' ∧ RTab w' F b c (rl.set k re0) aE cE := by
  have hU : Upd F w w := Upd.rfl' F w
  have hX : Ext w w := Ext.rfl' w
  have hUP : Upd (fun k => k = b ∨ owns aE k) w w := Upd.rfl' _ w
  have hBp := H.blk
  have h16 := H.l16
  obtain ⟨g, off, csl, rfl, hV⟩ := H.ents.op (by have := (List.getElem?_eq_some_iff.1 hk).1; omega)
  have hgo := H.ownE g ((owns_some _ _).2 rfl)
  have hgF := hgo.1
  have hne : b ≠ g := fun e => hgo.2 e.symm
  have hkl := (List.getElem?_eq_some_iff.1 hk).1
  refine Calls.of_W (N := 16) Try.func56 rfl rfl rfl ?_
  refine W.reg ?_
  refine WL.y (R.asg (v := .int _ _) rfl) rfl ?_
  refine WL.nil ?_
  refine W.seq ?_
  refine W.reg ?_
  refine WL.y (R.mv (v := .pointer _) rfl) rfl ?_
  refine WL.y (R.mv (v := .int _ _) rfl) rfl ?_
  refine WL.call Try.func63 rfl rfl ((rIn_calls F b c rl _ cE _ H (k : Nat)).val (y := bl true) (by rw [rIn_at hk, hue])) rfl rfl ?_
  rintro _ w1 ⟨rfl, hx1⟩
  have hz1 := hx1.size
  replace hUP := hUP.tr (hx1.upd _)
  replace hU := hU.tr (hx1.upd _)
  replace hBp := hx1.blk hBp
  replace hV := hV.ext hx1
  refine WL.y (R.notT rfl) rfl ?_
  refine WL.nil ?_
  refine W.cond_f rfl ?_
  refine W.skip ?_
  refine W.reg ?_
  refine WL.y (R.mv (v := .pointer _) rfl) rfl ?_
  refine WL.y (R.nilCheck rfl) rfl ?_
  refine WL.y (R.fieldAddr fo92_1 rfl) rfl ?_
  refine WL.y (R.load sca90 rfl (hBp).r rfl) rfl ?_
  refine WL.y (R.mv (v := .int _ _) rfl) rfl ?_
  refine WL.y (R.buildE (parts := []) (vs := encT re0) bld102 (by kernel_rfl) (by kernel_rfl)) rfl ?_
  refine WL.y (R.indexS Try.underlying90 siz102 rfl rfl rfl (by omega)) rfl ?_
  refine WL.store (v := .agg _) siz102 rfl rfl rfl rfl hV.blk (hV.bound (by first | omega | (simp; omega))) rfl rfl ?_
  intro w2 hu2 hz2 hn2
  replace hUP := hUP.tr (hu2.mono (fun k _ hk => by subst hk; first | exact .inl rfl | exact .inr ((owns_some _ _).2 rfl)))
  replace hU := hU.tr (hu2.mono (fun k _ hk => by subst hk; first | exact H.fb | exact hgF))
  replace hBp := hu2.blk (by omega) hBp
  replace hV := hV.put encTE (by first | omega | (simp; omega)) re0 hn2; clear hn2
  refine WL.nil ?_
  refine W.reg ?_
  refine WL.y (R.asg (v := .int _ _) rfl) rfl ?_
  refine WL.nil ?_
  refine W.ret ?_
  exact PR.r1 rfl (.tmp rfl) ⟨rfl, hU, H.turn hUP (fun _ h => h) (fun j hj => Nat.lt_of_lt_of_le (H.lt j hj) hU.size) (e0 := re0) (by rw [List.length_set]; exact hBp) hV.cl (fun j hj => ⟨(H.ownE j hj).1, (H.ownE j hj).2, .inl hj⟩) (by rw [List.length_set]; exact h16) set_in (fun h => by cases h)⟩
end Go.Proofs.Ytkjecokkdbapkaa

namespace Go.Proofs.Ytkjecokkdbapkaa
set_option linter.all false
open Go Go.Eng Go.RowKit
set_option maxRecDepth 20000
set_option maxHeartbeats 2000000
set_option linter.unusedVariables false
set_option linter.unusedSimpArgs false
attribute [local irreducible] WL W QL WA SP

theorem fo92_0 : FO Try.prog 92 0 0 := fun a w => by kernel_rfl

def rFree (rl : List RE) : Nat := rl.findIdx (fun x => !x.u)
theorem rFree_all {rl : List RE} (h : rl.all (·.u) = true) : rFree rl = rl.length := by
  rw [rFree, List.findIdx_eq_length]
  intro x hx
  rw [List.all_eq_true] at h
  simp [h x hx]
theorem rFree_at {rl : List RE} {i : Nat} {x : RE} (h : (rl.take i).all (·.u) = true) (hx : rl[i]? = some x) (hu : x.u = false) : rFree rl = i := by
  obtain ⟨hi, e⟩ := List.getElem?_eq_some_iff.1 hx
  rw [rFree, List.findIdx_eq hi]
  refine ⟨by rw [e, hu]; rfl, fun j hj => ?_⟩
  rw [List.all_eq_true] at h
  have := h rl[j] (by rw [List.mem_take_iff_getElem]; exact ⟨j, by omega, rfl⟩)
  simp [this]
def rAddErr (c : Cfg) (rl : List RE) (v : Vip) (ms : List Mem) : Int :=
  if (vipOK v && memsOK ms) = false then 1 else if (!c.encap && kinds v ms) = true then 1 else if ¬ rIdx rl v < 0 then 6 else if 16 ≤ rFree rl then 3 else 0
def rPut (rl : List RE) (n : Nat) (e : RE) : List RE := if n < rl.length then rl.set n e else rl ++ [e]
theorem kk_bool {c : Cfg} {v : Vip} {ms : List Mem} {b : Bool} (h : (!c.encap && kinds v ms) = !b) : (c.encap || ms.all fun x => x.dip.adr.v6 == v.adr.v6) = b := by
  rw [kinds_all] at h
  revert h
  cases c.encap <;> cases (ms.all fun x => x.dip.adr.v6 == v.adr.v6) <;> cases b <;> decide

theorem rAdd_bad1 (F : Nat → Prop) (b : Nat) (c : Cfg) (rl : List RE) (aE : Option Addr) (cE : Nat) (w : World) (H : RTab w F b c rl aE cE) (v : Vip) (ms : List Mem) (h63 : ms.length ≤ 1000000000) (a : Option Addr) (cc : Nat) (hM : Sli encMem 19 w a cc ms) (hv : vipOK v = false) : CallV Try.prog 55 #[.pointer (some ⟨b, 0, none⟩), encVv v, .slice a ms.length cc] w fun r w' => r = .tuple #[i64 0, i64 1] ∧ Ext w w' := by
  have hX : Ext w w := Ext.rfl' w
  have hU : ∀ k, (fun k => w.heap.size ≤ k) k → w.heap.size ≤ k := fun _ h => h
  have hS : Star (fun k => w.heap.size ≤ k) w [] := Star.nil fun _ h => h
  generalize (fun k => w.heap.size ≤ k) = U at hU hS
  have hE := H.ents.ro
  have h16 := H.l16
  refine Calls.of_W (N := 86) Try.func55 rfl rfl rfl ?_
  refine W.reg ?_
  refine WL.box (v := .agg _) rfl rfl rfl ?_
  intro b1 w1 hb1 hs1 hx1 hB1
  replace hS := hS.pushBox hb1 hx1 hB1
  replace hX := hX.tr hx1
  clear hB1 hs1
  refine WL.y (R.asg (v := .int _ _) rfl) rfl ?_
  refine WL.y (R.asg (v := .int _ _) rfl) rfl ?_
  refine WL.nil ?_
  refine W.seq ?_
  refine W.seq ?_
  refine W.draw (fun j => [1000].contains j) (fun wI => Ext w1 wI) rfl ?_
  have hI2 := Ext.dr w1
  refine WA.batch [0] 17 (by kernel_rfl) hI2 ?_
  refine QL.y (fun wq hq => (R.loadA agg42 rfl (hq.blkR (hS.blk0).r) rfl rfl)) rfl ?_
  refine QL.nil ?_
  have hD2 := Ext.dr w1
  have hD2z := hD2.size
  have hS0 := hS
  have hXo := hX
  replace hS := hS.ext hD2
  replace hX := hX.tr hD2
  refine WA.one 1 16 (by kernel_rfl) ?_
  have hX0 := hX
  have hIz3 := hI2.size
  refine WL.call Try.func61 rfl rfl ((rvipValid_calls v _).val (y := bl false) (by rw [hv])) rfl rfl ?_
  rintro _ w3 ⟨rfl, hx3⟩
  replace hS := hS.ext hx3
  replace hX := hX.tr hx3
  refine WL.nil ?_
  refine ⟨fun _ h => h.tr hx3, ?_⟩
  replace hI2 := hI2.tr hx3
  clear hX0
  refine WA.pures [2, 3, 4] 13 (by kernel_rfl) ?_
  refine QL.y (fun wq hq => (R.notF rfl)) rfl ?_
  refine QL.y (fun wq hq => (R.mv (v := .bool true) rfl)) rfl ?_
  refine QL.skip rfl ?_
  refine QL.nil ?_
  refine WA.one 5 12 (by kernel_rfl) ?_
  have hX0 := hX
  have hIz4 := hI2.size
  refine WL.skip rfl ?_
  refine WL.nil ?_
  refine ⟨fun _ h => h, ?_⟩
  clear hX0
  refine WA.batch [6, 7, 8, 9, 10, 11, 12, 13, 14] 3 (by kernel_rfl) hI2 ?_
  refine QL.skip rfl ?_
  refine QL.y (fun wq hq => (R.pkT (v := .bool true) rfl rfl)) rfl ?_
  refine QL.y (fun wq hq => (R.mv (v := .bool true) rfl)) rfl ?_
  refine QL.skip rfl ?_
  refine QL.skip rfl ?_
  refine QL.skip rfl ?_
  refine QL.skip rfl ?_
  refine QL.skip rfl ?_
  refine QL.skip rfl ?_
  refine QL.nil ?_
  refine WA.one 15 2 (by kernel_rfl) ?_
  have hX0 := hX
  have hIz4 := hI2.size
  refine WL.skip rfl ?_
  refine WL.nil ?_
  refine ⟨fun _ h => h, ?_⟩
  clear hX0
  refine WA.pures [16, 17] 0 (by kernel_rfl) ?_
  refine QL.skip rfl ?_
  refine QL.y (fun wq hq => (R.pkT (v := .bool true) rfl rfl)) rfl ?_
  refine QL.nil ?_
  refine WA.done (by kernel_rfl) ?_
  refine W.cond_t rfl ?_
  refine W.reg ?_
  refine WL.y (R.asg (v := .int _ _) rfl) rfl ?_
  refine WL.y (R.asg (v := .int _ _) rfl) rfl ?_
  refine WL.nil ?_
  refine W.ret ?_
  exact PR.r2 rfl (.tmp rfl) (.tmp rfl) ⟨rfl, hX⟩

theorem rAdd_bad2 (F : Nat → Prop) (b : Nat) (c : Cfg) (rl : List RE) (aE : Option Addr) (cE : Nat) (w : World) (H : RTab w F b c rl aE cE) (v : Vip) (ms : List Mem) (h63 : ms.length ≤ 1000000000) (a : Option Addr) (cc : Nat) (hM : Sli encMem 19 w a cc ms) (hv : vipOK v = true) (hm : memsOK ms = false) : CallV Try.prog 55 #[.pointer (some ⟨b, 0, none⟩), encVv v, .slice a ms.length cc] w fun r w' => r = .tuple #[i64 0, i64 1] ∧ Ext w w' := by
  have hX : Ext w w := Ext.rfl' w
  have hU : ∀ k, (fun k => w.heap.size ≤ k) k → w.heap.size ≤ k := fun _ h => h
  have hS : Star (fun k => w.heap.size ≤ k) w [] := Star.nil fun _ h => h
  generalize (fun k => w.heap.size ≤ k) = U at hU hS
  have hE := H.ents.ro
  have h16 := H.l16
  refine Calls.of_W (N := 86) Try.func55 rfl rfl rfl ?_
  refine W.reg ?_
  refine WL.box (v := .agg _) rfl rfl rfl ?_
  intro b1 w1 hb1 hs1 hx1 hB1
  replace hS := hS.pushBox hb1 hx1 hB1
  replace hX := hX.tr hx1
  clear hB1 hs1
  refine WL.y (R.asg (v := .int _ _) rfl) rfl ?_
  refine WL.y (R.asg (v := .int _ _) rfl) rfl ?_
  refine WL.nil ?_
  refine W.seq ?_
  refine W.seq ?_
  refine W.draw (fun j => [1000].contains j) (fun wI => Ext w1 wI) rfl ?_
  have hI2 := Ext.dr w1
  refine WA.batch [0] 17 (by kernel_rfl) hI2 ?_
  refine QL.y (fun wq hq => (R.loadA agg42 rfl (hq.blkR (hS.blk0).r) rfl rfl)) rfl ?_
  refine QL.nil ?_
  have hD2 := Ext.dr w1
  have hD2z := hD2.size
  have hS0 := hS
  have hXo := hX
  replace hS := hS.ext hD2
  replace hX := hX.tr hD2
  refine WA.one 1 16 (by kernel_rfl) ?_
  have hX0 := hX
  have hIz3 := hI2.size
  refine WL.call Try.func61 rfl rfl ((rvipValid_calls v _).val (y := bl true) (by rw [hv])) rfl rfl ?_
  rintro _ w3 ⟨rfl, hx3⟩
  replace hS := hS.ext hx3
  replace hX := hX.tr hx3
  refine WL.nil ?_
  refine ⟨fun _ h => h.tr hx3, ?_⟩
  replace hI2 := hI2.tr hx3
  clear hX0
  refine WA.pures [2, 3, 4] 13 (by kernel_rfl) ?_
  refine QL.y (fun wq hq => (R.notT rfl)) rfl ?_
  refine QL.y (fun wq hq => (R.mv (v := .bool false) rfl)) rfl ?_
  refine QL.y (fun wq hq => (R.mv (v := .slice _ _ _) rfl)) rfl ?_
  refine QL.nil ?_
  refine WA.one 5 12 (by kernel_rfl) ?_
  have hX0 := hX
  have hIz4 := hI2.size
  refine WL.call Try.func121 rfl rfl ((refMembers_calls ms (by omega) a cc _ (hM.ext hX)).val (y := bl false) (by rw [hm])) rfl rfl ?_
  rintro _ w4 ⟨rfl, hx4⟩
  replace hS := hS.ext hx4
  replace hX := hX.tr hx4
  refine WL.nil ?_
  refine ⟨fun _ h => h.tr hx4, ?_⟩
  replace hI2 := hI2.tr hx4
  clear hX0
  refine WA.batch [6, 7, 8, 9, 10, 11, 12, 13, 14] 3 (by kernel_rfl) hI2 ?_
  refine QL.y (fun wq hq => (R.notF rfl)) rfl ?_
  refine QL.y (fun wq hq => (R.pkF (v := .bool true) rfl rfl)) rfl ?_
  refine QL.y (fun wq hq => (R.mv (v := .bool true) rfl)) rfl ?_
  refine QL.skip rfl ?_
  refine QL.skip rfl ?_
  refine QL.skip rfl ?_
  refine QL.skip rfl ?_
  refine QL.skip rfl ?_
  refine QL.skip rfl ?_
  refine QL.nil ?_
  refine WA.one 15 2 (by kernel_rfl) ?_
  have hX0 := hX
  have hIz5 := hI2.size
  refine WL.skip rfl ?_
  refine WL.nil ?_
  refine ⟨fun _ h => h, ?_⟩
  clear hX0
  refine WA.pures [16, 17] 0 (by kernel_rfl) ?_
  refine QL.skip rfl ?_
  refine QL.y (fun wq hq => (R.pkT (v := .bool true) rfl rfl)) rfl ?_
  refine QL.nil ?_
  refine WA.done (by kernel_rfl) ?_
  refine W.cond_t rfl ?_
  refine W.reg ?_
  refine WL.y (R.asg (v := .int _ _) rfl) rfl ?_
  refine WL.y (R.asg (v := .int _ _) rfl) rfl ?_
  refine WL.nil ?_
  refine W.ret ?_
  exact PR.r2 rfl (.tmp rfl) (.tmp rfl) ⟨rfl, hX⟩

theorem rAdd_bad3 (F : Nat → Prop) (b : Nat) (c : Cfg) (rl : List RE) (aE : Option Addr) (cE : Nat) (w : World) (H : RTab w F b c rl aE cE) (v : Vip) (ms : List Mem) (h63 : ms.length ≤ 1000000000) (a : Option Addr) (cc : Nat) (hM : Sli encMem 19 w a cc ms) (hv : vipOK v = true) (hm : memsOK ms = true) (hkd : (!c.encap && kinds v ms) = !false) : CallV Try.prog 55 #[.pointer (some ⟨b, 0, none⟩), encVv v, .slice a ms.length cc] w fun r w' => r = .tuple #[i64 0, i64 1] ∧ Ext w w' := by
  have hX : Ext w w := Ext.rfl' w
  have hU : ∀ k, (fun k => w.heap.size ≤ k) k → w.heap.size ≤ k := fun _ h => h
  have hS : Star (fun k => w.heap.size ≤ k) w [] := Star.nil fun _ h => h
  generalize (fun k => w.heap.size ≤ k) = U at hU hS
  have hE := H.ents.ro
  have h16 := H.l16
  refine Calls.of_W (N := 86) Try.func55 rfl rfl rfl ?_
  refine W.reg ?_
  refine WL.box (v := .agg _) rfl rfl rfl ?_
  intro b1 w1 hb1 hs1 hx1 hB1
  replace hS := hS.pushBox hb1 hx1 hB1
  replace hX := hX.tr hx1
  clear hB1 hs1
  refine WL.y (R.asg (v := .int _ _) rfl) rfl ?_
  refine WL.y (R.asg (v := .int _ _) rfl) rfl ?_
  refine WL.nil ?_
  refine W.seq ?_
  refine W.seq ?_
  refine W.draw (fun j => [1000].contains j) (fun wI => Ext w1 wI) rfl ?_
  have hI2 := Ext.dr w1
  refine WA.batch [0] 17 (by kernel_rfl) hI2 ?_
  refine QL.y (fun wq hq => (R.loadA agg42 rfl (hq.blkR (hS.blk0).r) rfl rfl)) rfl ?_
  refine QL.nil ?_
  have hD2 := Ext.dr w1
  have hD2z := hD2.size
  have hS0 := hS
  have hXo := hX
  replace hS := hS.ext hD2
  replace hX := hX.tr hD2
  refine WA.one 1 16 (by kernel_rfl) ?_
  have hX0 := hX
  have hIz3 := hI2.size
  refine WL.call Try.func61 rfl rfl ((rvipValid_calls v _).val (y := bl true) (by rw [hv])) rfl rfl ?_
  rintro _ w3 ⟨rfl, hx3⟩
  replace hS := hS.ext hx3
  replace hX := hX.tr hx3
  refine WL.nil ?_
  refine ⟨fun _ h => h.tr hx3, ?_⟩
  replace hI2 := hI2.tr hx3
  clear hX0
  refine WA.pures [2, 3, 4] 13 (by kernel_rfl) ?_
  refine QL.y (fun wq hq => (R.notT rfl)) rfl ?_
  refine QL.y (fun wq hq => (R.mv (v := .bool false) rfl)) rfl ?_
  refine QL.y (fun wq hq => (R.mv (v := .slice _ _ _) rfl)) rfl ?_
  refine QL.nil ?_
  refine WA.one 5 12 (by kernel_rfl) ?_
  have hX0 := hX
  have hIz4 := hI2.size
  refine WL.call Try.func121 rfl rfl ((refMembers_calls ms (by omega) a cc _ (hM.ext hX)).val (y := bl true) (by rw [hm])) rfl rfl ?_
  rintro _ w4 ⟨rfl, hx4⟩
  replace hS := hS.ext hx4
  replace hX := hX.tr hx4
  refine WL.nil ?_
  refine ⟨fun _ h => h.tr hx4, ?_⟩
  replace hI2 := hI2.tr hx4
  clear hX0
  refine WA.batch [6, 7, 8, 9, 10, 11, 12, 13, 14] 3 (by kernel_rfl) hI2 ?_
  refine QL.y (fun wq hq => (R.notT rfl)) rfl ?_
  refine QL.y (fun wq hq => (R.pkF (v := .bool false) rfl rfl)) rfl ?_
  refine QL.y (fun wq hq => (R.mv (v := .bool false) rfl)) rfl ?_
  refine QL.y (fun wq hq => (R.mv (v := .pointer _) rfl)) rfl ?_
  refine QL.y (fun wq hq => (R.nilCheck rfl)) rfl ?_
  refine QL.y (fun wq hq => (R.fieldAddr fo92_0 rfl)) rfl ?_
  refine QL.y (fun wq hq => (R.loadA agg33 rfl (hq.blkR ((hXo.blk H.blk)).r) rfl rfl)) rfl ?_
  refine QL.y (fun wq hq => (R.loadA agg42 rfl (hq.blkR (hS0.blk0).r) rfl rfl)) rfl ?_
  refine QL.y (fun wq hq => (R.mv (v := .slice _ _ _) rfl)) rfl ?_
  refine QL.nil ?_
  refine WA.one 15 2 (by kernel_rfl) ?_
  have hX0 := hX
  have hIz5 := hI2.size
  refine WL.call Try.func127 rfl rfl ((rKinds_calls c v ms h63 a cc _ (hM.ext hX)).val (y := bl false) (by rw [kk_bool (b := false) hkd])) rfl rfl ?_
  rintro _ w5 ⟨rfl, hx5⟩
  replace hS := hS.ext hx5
  replace hX := hX.tr hx5
  refine WL.nil ?_
  refine ⟨fun _ h => h.tr hx5, ?_⟩
  replace hI2 := hI2.tr hx5
  clear hX0
  refine WA.pures [16, 17] 0 (by kernel_rfl) ?_
  refine QL.y (fun wq hq => (R.notF rfl)) rfl ?_
  refine QL.y (fun wq hq => (R.pkF (v := .bool true) rfl rfl)) rfl ?_
  refine QL.nil ?_
  refine WA.done (by kernel_rfl) ?_
  refine W.cond_t rfl ?_
  refine W.reg ?_
  refine WL.y (R.asg (v := .int _ _) rfl) rfl ?_
  refine WL.y (R.asg (v := .int _ _) rfl) rfl ?_
  refine WL.nil ?_
  refine W.ret ?_
  exact PR.r2 rfl (.tmp rfl) (.tmp rfl) ⟨rfl, hX⟩

theorem rAdd_have (F : Nat → Prop) (b : Nat) (c : Cfg) (rl : List RE) (aE : Option Addr) (cE : Nat) (w : World) (H : RTab w F b c rl aE cE) (v : Vip) (ms : List Mem) (h63 : ms.length ≤ 1000000000) (a : Option Addr) (cc : Nat) (hM : Sli encMem 19 w a cc ms) (hv : vipOK v = true) (hm : memsOK ms = true) (hkd : (!c.encap && kinds v ms) = !true) (ht : ¬ rIdx rl v < 0) : CallV Try.prog 55 #[.pointer (some ⟨b, 0, none⟩), encVv v, .slice a ms.length cc] w fun r w' => r = .tuple #[i64 0, i64 6] ∧ Ext w w' := by
  have hX : Ext w w := Ext.rfl' w
  have hU : ∀ k, (fun k => w.heap.size ≤ k) k → w.heap.size ≤ k := fun _ h => h
  have hS : Star (fun k => w.heap.size ≤ k) w [] := Star.nil fun _ h => h
  generalize (fun k => w.heap.size ≤ k) = U at hU hS
  have hE := H.ents.ro
  have h16 := H.l16
  refine Calls.of_W (N := 86) Try.func55 rfl rfl rfl ?_
  refine W.reg ?_
  refine WL.box (v := .agg _) rfl rfl rfl ?_
  intro b1 w1 hb1 hs1 hx1 hB1
  replace hS := hS.pushBox hb1 hx1 hB1
  replace hX := hX.tr hx1
  clear hB1 hs1
  refine WL.y (R.asg (v := .int _ _) rfl) rfl ?_
  refine WL.y (R.asg (v := .int _ _) rfl) rfl ?_
  refine WL.nil ?_
  refine W.seq ?_
  refine W.seq ?_
  refine W.draw (fun j => [1000].contains j) (fun wI => Ext w1 wI) rfl ?_
  have hI2 := Ext.dr w1
  refine WA.batch [0] 17 (by kernel_rfl) hI2 ?_
  refine QL.y (fun wq hq => (R.loadA agg42 rfl (hq.blkR (hS.blk0).r) rfl rfl)) rfl ?_
  refine QL.nil ?_
  have hD2 := Ext.dr w1
  have hD2z := hD2.size
  have hS0 := hS
  have hXo := hX
  replace hS := hS.ext hD2
  replace hX := hX.tr hD2
  refine WA.one 1 16 (by kernel_rfl) ?_
  have hX0 := hX
  have hIz3 := hI2.size
  refine WL.call Try.func61 rfl rfl ((rvipValid_calls v _).val (y := bl true) (by rw [hv])) rfl rfl ?_
  rintro _ w3 ⟨rfl, hx3⟩
  replace hS := hS.ext hx3
  replace hX := hX.tr hx3
  refine WL.nil ?_
  refine ⟨fun _ h => h.tr hx3, ?_⟩
  replace hI2 := hI2.tr hx3
  clear hX0
  refine WA.pures [2, 3, 4] 13 (by kernel_rfl) ?_
  refine QL.y (fun wq hq => (R.notT rfl)) rfl ?_
  refine QL.y (fun wq hq => (R.mv (v := .bool false) rfl)) rfl ?_
  refine QL.y (fun wq hq => (R.mv (v := .slice _ _ _) rfl)) rfl ?_
  refine QL.nil ?_
  refine WA.one 5 12 (by kernel_rfl) ?_
  have hX0 := hX
  have hIz4 := hI2.size
  refine WL.call Try.func121 rfl rfl ((refMembers_calls ms (by omega) a cc _ (hM.ext hX)).val (y := bl true) (by rw [hm])) rfl rfl ?_
  rintro _ w4 ⟨rfl, hx4⟩
  replace hS := hS.ext hx4
  replace hX := hX.tr hx4
  refine WL.nil ?_
  refine ⟨fun _ h => h.tr hx4, ?_⟩
  replace hI2 := hI2.tr hx4
  clear hX0
  refine WA.batch [6, 7, 8, 9, 10, 11, 12, 13, 14] 3 (by kernel_rfl) hI2 ?_
  refine QL.y (fun wq hq => (R.notT rfl)) rfl ?_
  refine QL.y (fun wq hq => (R.pkF (v := .bool false) rfl rfl)) rfl ?_
  refine QL.y (fun wq hq => (R.mv (v := .bool false) rfl)) rfl ?_
  refine QL.y (fun wq hq => (R.mv (v := .pointer _) rfl)) rfl ?_
  refine QL.y (fun wq hq => (R.nilCheck rfl)) rfl ?_
  refine QL.y (fun wq hq => (R.fieldAddr fo92_0 rfl)) rfl ?_
  refine QL.y (fun wq hq => (R.loadA agg33 rfl (hq.blkR ((hXo.blk H.blk)).r) rfl rfl)) rfl ?_
  refine QL.y (fun wq hq => (R.loadA agg42 rfl (hq.blkR (hS0.blk0).r) rfl rfl)) rfl ?_
  refine QL.y (fun wq hq => (R.mv (v := .slice _ _ _) rfl)) rfl ?_
  refine QL.nil ?_
  refine WA.one 15 2 (by kernel_rfl) ?_
  have hX0 := hX
  have hIz5 := hI2.size
  refine WL.call Try.func127 rfl rfl ((rKinds_calls c v ms h63 a cc _ (hM.ext hX)).val (y := bl true) (by rw [kk_bool (b := true) hkd])) rfl rfl ?_
  rintro _ w5 ⟨rfl, hx5⟩
  replace hS := hS.ext hx5
  replace hX := hX.tr hx5
  refine WL.nil ?_
  refine ⟨fun _ h => h.tr hx5, ?_⟩
  replace hI2 := hI2.tr hx5
  clear hX0
  refine WA.pures [16, 17] 0 (by kernel_rfl) ?_
  refine QL.y (fun wq hq => (R.notT rfl)) rfl ?_
  refine QL.y (fun wq hq => (R.pkF (v := .bool false) rfl rfl)) rfl ?_
  refine QL.nil ?_
  refine WA.done (by kernel_rfl) ?_
  refine W.cond_f rfl ?_
  refine W.skip ?_
  refine W.seq ?_
  refine W.reg ?_
  refine WL.y (R.mv (v := .pointer _) rfl) rfl ?_
  refine WL.y (R.loadA agg42 rfl (hS.blk0).r rfl rfl) rfl ?_
  refine WL.call Try.func58 rfl rfl (rFind_calls F b c rl aE cE _ (H.ext hX) v) rfl rfl ?_
  rintro _ w6 ⟨rfl, hx6⟩
  replace hS := hS.ext hx6
  replace hX := hX.tr hx6
  refine WL.y (R.geqT rfl rfl (by omega)) rfl ?_
  refine WL.nil ?_
  refine W.cond_t rfl ?_
  refine W.reg ?_
  refine WL.y (R.asg (v := .int _ _) rfl) rfl ?_
  refine WL.y (R.asg (v := .int _ _) rfl) rfl ?_
  refine WL.nil ?_
  refine W.ret ?_
  exact PR.r2 rfl (.tmp rfl) (.tmp rfl) ⟨rfl, hX⟩

theorem rAdd_full (F : Nat → Prop) (b : Nat) (c : Cfg) (rl : List RE) (aE : Option Addr) (cE : Nat) (w : World) (H : RTab w F b c rl aE cE) (v : Vip) (ms : List Mem) (h63 : ms.length ≤ 1000000000) (a : Option Addr) (cc : Nat) (hM : Sli encMem 19 w a cc ms) (hv : vipOK v = true) (hm : memsOK ms = true) (hkd : (!c.encap && kinds v ms) = !true) (ht : rIdx rl v < 0) (hf : 16 ≤ rFree rl) : CallV Try.prog 55 #[.pointer (some ⟨b, 0, none⟩), encVv v, .slice a ms.length cc] w fun r w' => r = .tuple #[i64 0, i64 3] ∧ Ext w w' := by
  have hX : Ext w w := Ext.rfl' w
  have hU : ∀ k, (fun k => w.heap.size ≤ k) k → w.heap.size ≤ k := fun _ h => h
  have hS : Star (fun k => w.heap.size ≤ k) w [] := Star.nil fun _ h => h
  generalize (fun k => w.heap.size ≤ k) = U at hU hS
  have hE := H.ents.ro
  have h16 := H.l16
  refine Calls.of_W (N := 86) Try.func55 rfl rfl rfl ?_
  refine W.reg ?_
  refine WL.box (v := .agg _) rfl rfl rfl ?_
  intro b1 w1 hb1 hs1 hx1 hB1
  replace hS := hS.pushBox hb1 hx1 hB1
  replace hX := hX.tr hx1
  clear hB1 hs1
  refine WL.y (R.asg (v := .int _ _) rfl) rfl ?_
  refine WL.y (R.asg (v := .int _ _) rfl) rfl ?_
  refine WL.nil ?_
  refine W.seq ?_
  refine W.seq ?_
  refine W.draw (fun j => [1000].contains j) (fun wI => Ext w1 wI) rfl ?_
  have hI2 := Ext.dr w1
  refine WA.batch [0] 17 (by kernel_rfl) hI2 ?_
  refine QL.y (fun wq hq => (R.loadA agg42 rfl (hq.blkR (hS.blk0).r) rfl rfl)) rfl ?_
  refine QL.nil ?_
  have hD2 := Ext.dr w1
  have hD2z := hD2.size
  have hS0 := hS
  have hXo := hX
  replace hS := hS.ext hD2
  replace hX := hX.tr hD2
  refine WA.one 1 16 (by kernel_rfl) ?_
  have hX0 := hX
  have hIz3 := hI2.size
  refine WL.call Try.func61 rfl rfl ((rvipValid_calls v _).val (y := bl true) (by rw [hv])) rfl rfl ?_
  rintro _ w3 ⟨rfl, hx3⟩
  replace hS := hS.ext hx3
  replace hX := hX.tr hx3
  refine WL.nil ?_
  refine ⟨fun _ h => h.tr hx3, ?_⟩
  replace hI2 := hI2.tr hx3
  clear hX0
  refine WA.pures [2, 3, 4] 13 (by kernel_rfl) ?_
  refine QL.y (fun wq hq => (R.notT rfl)) rfl ?_
  refine QL.y (fun wq hq => (R.mv (v := .bool false) rfl)) rfl ?_
  refine QL.y (fun wq hq => (R.mv (v := .slice _ _ _) rfl)) rfl ?_
  refine QL.nil ?_
  refine WA.one 5 12 (by kernel_rfl) ?_
  have hX0 := hX
  have hIz4 := hI2.size
  refine WL.call Try.func121 rfl rfl ((refMembers_calls ms (by omega) a cc _ (hM.ext hX)).val (y := bl true) (by rw [hm])) rfl rfl ?_
  rintro _ w4 ⟨rfl, hx4⟩
  replace hS := hS.ext hx4
  replace hX := hX.tr hx4
  refine WL.nil ?_
  refine ⟨fun _ h => h.tr hx4, ?_⟩
  replace hI2 := hI2.tr hx4
  clear hX0
  refine WA.batch [6, 7, 8, 9, 10, 11, 12, 13, 14] 3 (by kernel_rfl) hI2 ?_
  refine QL.y (fun wq hq => (R.notT rfl)) rfl ?_
  refine QL.y (fun wq hq => (R.pkF (v := .bool false) rfl rfl)) rfl ?_
  refine QL.y (fun wq hq => (R.mv (v := .bool false) rfl)) rfl ?_
  refine QL.y (fun wq hq => (R.mv (v := .pointer _) rfl)) rfl ?_
  refine QL.y (fun wq hq => (R.nilCheck rfl)) rfl ?_
  refine QL.y (fun wq hq => (R.fieldAddr fo92_0 rfl)) rfl ?_
  refine QL.y (fun wq hq => (R.loadA agg33 rfl (hq.blkR ((hXo.blk H.blk)).r) rfl rfl)) rfl ?_
  refine QL.y (fun wq hq => (R.loadA agg42 rfl (hq.blkR (hS0.blk0).r) rfl rfl)) rfl ?_
  refine QL.y (fun wq hq => (R.mv (v := .slice _ _ _) rfl)) rfl ?_
  refine QL.nil ?_
  refine WA.one 15 2 (by kernel_rfl) ?_
  have hX0 := hX
  have hIz5 := hI2.size
  refine WL.call Try.func127 rfl rfl ((rKinds_calls c v ms h63 a cc _ (hM.ext hX)).val (y := bl true) (by rw [kk_bool (b := true) hkd])) rfl rfl ?_
  rintro _ w5 ⟨rfl, hx5⟩
  replace hS := hS.ext hx5
  replace hX := hX.tr hx5
  refine WL.nil ?_
  refine ⟨fun _ h => h.tr hx5, ?_⟩
  replace hI2 := hI2.tr hx5
  clear hX0
  refine WA.pures [16, 17] 0 (by kernel_rfl) ?_
  refine QL.y (fun wq hq => (R.notT rfl)) rfl ?_
  refine QL.y (fun wq hq => (R.pkF (v := .bool false) rfl rfl)) rfl ?_
  refine QL.nil ?_
  refine WA.done (by kernel_rfl) ?_
  refine W.cond_f rfl ?_
  refine W.skip ?_
  refine W.seq ?_
  refine W.reg ?_
  refine WL.y (R.mv (v := .pointer _) rfl) rfl ?_
  refine WL.y (R.loadA agg42 rfl (hS.blk0).r rfl rfl) rfl ?_
  refine WL.call Try.func58 rfl rfl (rFind_calls F b c rl aE cE _ (H.ext hX) v) rfl rfl ?_
  rintro _ w6 ⟨rfl, hx6⟩
  replace hS := hS.ext hx6
  replace hX := hX.tr hx6
  refine WL.y (R.geqF rfl rfl (by omega)) rfl ?_
  refine WL.nil ?_
  refine W.cond_f rfl ?_
  refine W.skip ?_
  refine W.reg ?_
  refine WL.y (R.asg (v := .int _ _) rfl) rfl ?_
  refine WL.nil ?_
  refine W.seqX (ι := Nat) [(8, 9), (32, 51)] (fun q => [(8, i64 (q : Nat))]) (fun q w' => (q = rFree rl ∧ q ≤ rl.length) ∧ Ext w w' ∧ Star U w' [boxA b1 (encVip v)]) ?_ ?_
  · skip
    refine W.block ?_
    refine W.loopS (ι := Nat) [(8, 9), (32, 51)] (fun q => [(8, i64 (q : Nat))]) (fun q => rl.length - q) (fun q w' => (q ≤ rl.length ∧ (rl.take q).all (·.u) = true) ∧ Ext w w' ∧ Star U w' [boxA b1 (encVip v)]) 0 ⟨rfl, trivial⟩ ⟨⟨Nat.zero_le _, rfl⟩, hX, hS⟩ ?_
    rintro i j1 w_1 ⟨⟨hi, hall⟩, hX, hS⟩
    refine W.seq ?_
    refine W.reg ?_
    refine WL.y (R.mv (v := .int _ _) rfl) rfl ?_
    refine WL.y (R.mv (v := .pointer _) rfl) rfl ?_
    refine WL.y (R.nilCheck rfl) rfl ?_
    refine WL.y (R.fieldAddr fo92_1 rfl) rfl ?_
    refine WL.y (R.load sca90 rfl ((hX.blk H.blk)).r rfl) rfl ?_
    refine WL.y (R.lenS Try.underlying90 rfl) rfl ?_
    refine WL.fork (R.lss rfl rfl) rfl (fun hc6_6 => ?_) (fun hc6_6 => ?_)
    · skip
      replace hc6_6 := of_decide_eq_true hc6_6
      refine WL.y (R.mv (v := .bool true) rfl) rfl ?_
      refine WL.y (R.mv (v := .pointer _) rfl) rfl ?_
      refine WL.y (R.nilCheck rfl) rfl ?_
      refine WL.y (R.fieldAddr fo92_1 rfl) rfl ?_
      refine WL.y (R.load sca90 rfl ((hX.blk H.blk)).r rfl) rfl ?_
      refine WL.y (R.mv (v := .int _ _) rfl) rfl ?_
      obtain ⟨g_rl, o_rl, cs_rl, rfl, hO_rl⟩ := hE.op (by omega)
      obtain ⟨x, hx_rl⟩ : ∃ x, rl[i]? = some x := ⟨_, List.getElem?_eq_getElem (by omega)⟩
      refine WL.y (R.indexS Try.underlying90 siz102 rfl rfl rfl (by first | omega | (simp; done) | (simp; omega))) rfl ?_
      refine WL.y (R.fieldAddr fo102_0 rfl) rfl ?_
      refine WL.fork (R.load sca4 rfl ((hO_rl.ext hX).blk).r (hO_rl.cell encTE hx_rl (j := 0) (by decide))) rfl (fun hc6_15 => ?_) (fun hc6_15 => ?_)
      · skip
        refine WL.y (R.pkT (v := .bool true) rfl rfl) rfl ?_
        refine WL.nil ?_
        refine W.cond_t rfl ?_
        refine W.skip ?_
        refine W.block ?_
        refine W.region ?_
        refine WL.y (R.mv (v := .int _ _) rfl) rfl ?_
        refine WL.y (R.addI rfl rfl (by omega)) rfl ?_
        refine WL.y (R.asg (v := .int _ _) rfl) rfl ?_
        refine WL.nil ?_
        exact ⟨i + 1, (by omega), (by repeat (first | exact Same.rfl' _ _ | refine Same.set _ rfl ?_ | refine Same.over' _ rfl ?_ | refine Same.sets rfl ?_)), ⟨rfl, trivial⟩, rfl, ⟨by omega, by rw [take_snoc hx_rl, List.all_append, hall]; simp [hc6_15]⟩, hX, hS⟩
      · skip
        refine WL.y (R.pkT (v := .bool false) rfl rfl) rfl ?_
        refine WL.nil ?_
        refine W.cond_f rfl ?_
        refine W.exit ?_
        exact ⟨i, (by repeat (first | exact Same.rfl' _ _ | refine Same.set _ rfl ?_ | refine Same.over' _ rfl ?_ | refine Same.sets rfl ?_)), ⟨rfl, trivial⟩, rfl, ⟨(rFree_at hall hx_rl hc6_15).symm, hi⟩, hX, hS⟩
    · skip
      replace hc6_6 := of_decide_eq_false hc6_6
      refine WL.y (R.mv (v := .bool false) rfl) rfl ?_
      refine WL.skip rfl ?_
      refine WL.skip rfl ?_
      refine WL.skip rfl ?_
      refine WL.skip rfl ?_
      refine WL.skip rfl ?_
      refine WL.skip rfl ?_
      refine WL.skip rfl ?_
      refine WL.skip rfl ?_
      refine WL.y (R.pkF (v := .bool false) rfl rfl) rfl ?_
      refine WL.nil ?_
      refine W.cond_f rfl ?_
      refine W.exit ?_
      exact ⟨i, (by repeat (first | exact Same.rfl' _ _ | refine Same.set _ rfl ?_ | refine Same.over' _ rfl ?_ | refine Same.sets rfl ?_)), ⟨rfl, trivial⟩, rfl, ⟨by (have hie : i = rl.length := by omega); rw [hie, List.take_length] at hall; rw [hie, rFree_all hall], hi⟩, hX, hS⟩
  · skip
    rintro n j2 w_2 ⟨⟨hn, hnl⟩, hX, hS⟩
    refine W.seq ?_
    refine W.reg ?_
    refine WL.y (R.mv (v := .int _ _) rfl) rfl ?_
    refine WL.y (R.geqT rfl rfl (by omega)) rfl ?_
    refine WL.nil ?_
    refine W.cond_t rfl ?_
    refine W.reg ?_
    refine WL.y (R.asg (v := .int _ _) rfl) rfl ?_
    refine WL.y (R.asg (v := .int _ _) rfl) rfl ?_
    refine WL.nil ?_
    refine W.ret ?_
    exact PR.r2 rfl (.tmp rfl) (.tmp rfl) ⟨rfl, hX⟩

theorem rAdd_ok (F : Nat → Prop) (b : Nat) (c : Cfg) (rl : List RE) (aE : Option Addr) (cE : Nat) (w : World) (H : RTab w F b c rl aE cE) (v : Vip) (ms : List Mem) (h63 : ms.length ≤ 1000000000) (a : Option Addr) (cc : Nat) (hM : Sli encMem 19 w a cc ms) (hv : vipOK v = true) (hm : memsOK ms = true) (hkd : (!c.encap && kinds v ms) = !true) (ht : rIdx rl v < 0) (hf : rFree rl < 16) : CallV Try.prog 55 #[.pointer (some ⟨b, 0, none⟩), encVv v, .slice a ms.length cc] w fun r w' => ∃ F2 aE' cE' q, r = .tuple #[i64 (rFree rl : Nat), i64 0] ∧ Upd F w w' ∧ RTab w' F2 b c (rPut rl (rFree rl) ⟨true, v, some ⟨q, 0, none⟩, ms⟩) aE' cE' ∧ ∀ k, F2 k → F k ∨ w.heap.size ≤ k := by
  have hX : Ext w w := Ext.rfl' w
  have hU : ∀ k, (fun k => w.heap.size ≤ k) k → w.heap.size ≤ k := fun _ h => h
  have hS : Star (fun k => w.heap.size ≤ k) w [] := Star.nil fun _ h => h
  generalize (fun k => w.heap.size ≤ k) = U at hU hS
  have hE := H.ents.ro
  have h16 := H.l16
  refine Calls.of_W (N := 86) Try.func55 rfl rfl rfl ?_
  refine W.reg ?_
  refine WL.box (v := .agg _) rfl rfl rfl ?_
  intro b1 w1 hb1 hs1 hx1 hB1
  replace hS := hS.pushBox hb1 hx1 hB1
  replace hX := hX.tr hx1
  clear hB1 hs1
  refine WL.y (R.asg (v := .int _ _) rfl) rfl ?_
  refine WL.y (R.asg (v := .int _ _) rfl) rfl ?_
  refine WL.nil ?_
  refine W.seq ?_
  refine W.seq ?_
  refine W.draw (fun j => [1000].contains j) (fun wI => Ext w1 wI) rfl ?_
  have hI2 := Ext.dr w1
  refine WA.batch [0] 17 (by kernel_rfl) hI2 ?_
  refine QL.y (fun wq hq => (R.loadA agg42 rfl (hq.blkR (hS.blk0).r) rfl rfl)) rfl ?_
  refine QL.nil ?_
  have hD2 := Ext.dr w1
  have hD2z := hD2.size
  have hS0 := hS
  have hXo := hX
  replace hS := hS.ext hD2
  replace hX := hX.tr hD2
  refine WA.one 1 16 (by kernel_rfl) ?_
  have hX0 := hX
  have hIz3 := hI2.size
  refine WL.call Try.func61 rfl rfl ((rvipValid_calls v _).val (y := bl true) (by rw [hv])) rfl rfl ?_
  rintro _ w3 ⟨rfl, hx3⟩
  replace hS := hS.ext hx3
  replace hX := hX.tr hx3
  refine WL.nil ?_
  refine ⟨fun _ h => h.tr hx3, ?_⟩
  replace hI2 := hI2.tr hx3
  clear hX0
  refine WA.pures [2, 3, 4] 13 (by kernel_rfl) ?_
  refine QL.y (fun wq hq => (R.notT rfl)) rfl ?_
  refine QL.y (fun wq hq => (R.mv (v := .bool false) rfl)) rfl ?_
  refine QL.y (fun wq hq => (R.mv (v := .slice _ _ _) rfl)) rfl ?_
  refine QL.nil ?_
  refine WA.one 5 12 (by kernel_rfl) ?_
  have hX0 := hX
  have hIz4 := hI2.size
  refine WL.call Try.func121 rfl rfl ((refMembers_calls ms (by omega) a cc _ (hM.ext hX)).val (y := bl true) (by rw [hm])) rfl rfl ?_
  rintro _ w4 ⟨rfl, hx4⟩
  replace hS := hS.ext hx4
  replace hX := hX.tr hx4
  refine WL.nil ?_
  refine ⟨fun _ h => h.tr hx4, ?_⟩
  replace hI2 := hI2.tr hx4
  clear hX0
  refine WA.batch [6, 7, 8, 9, 10, 11, 12, 13, 14] 3 (by kernel_rfl) hI2 ?_
  refine QL.y (fun wq hq => (R.notT rfl)) rfl ?_
  refine QL.y (fun wq hq => (R.pkF (v := .bool false) rfl rfl)) rfl ?_
  refine QL.y (fun wq hq => (R.mv (v := .bool false) rfl)) rfl ?_
  refine QL.y (fun wq hq => (R.mv (v := .pointer _) rfl)) rfl ?_
  refine QL.y (fun wq hq => (R.nilCheck rfl)) rfl ?_
  refine QL.y (fun wq hq => (R.fieldAddr fo92_0 rfl)) rfl ?_
  refine QL.y (fun wq hq => (R.loadA agg33 rfl (hq.blkR ((hXo.blk H.blk)).r) rfl rfl)) rfl ?_
  refine QL.y (fun wq hq => (R.loadA agg42 rfl (hq.blkR (hS0.blk0).r) rfl rfl)) rfl ?_
  refine QL.y (fun wq hq => (R.mv (v := .slice _ _ _) rfl)) rfl ?_
  refine QL.nil ?_
  refine WA.one 15 2 (by kernel_rfl) ?_
  have hX0 := hX
  have hIz5 := hI2.size
  refine WL.call Try.func127 rfl rfl ((rKinds_calls c v ms h63 a cc _ (hM.ext hX)).val (y := bl true) (by rw [kk_bool (b := true) hkd])) rfl rfl ?_
  rintro _ w5 ⟨rfl, hx5⟩
  replace hS := hS.ext hx5
  replace hX := hX.tr hx5
  refine WL.nil ?_
  refine ⟨fun _ h => h.tr hx5, ?_⟩
  replace hI2 := hI2.tr hx5
  clear hX0
  refine WA.pures [16, 17] 0 (by kernel_rfl) ?_
  refine QL.y (fun wq hq => (R.notT rfl)) rfl ?_
  refine QL.y (fun wq hq => (R.pkF (v := .bool false) rfl rfl)) rfl ?_
  refine QL.nil ?_
  refine WA.done (by kernel_rfl) ?_
  refine W.cond_f rfl ?_
  refine W.skip ?_
  refine W.seq ?_
  refine W.reg ?_
  refine WL.y (R.mv (v := .pointer _) rfl) rfl ?_
  refine WL.y (R.loadA agg42 rfl (hS.blk0).r rfl rfl) rfl ?_
  refine WL.call Try.func58 rfl rfl (rFind_calls F b c rl aE cE _ (H.ext hX) v) rfl rfl ?_
  rintro _ w6 ⟨rfl, hx6⟩
  replace hS := hS.ext hx6
  replace hX := hX.tr hx6
  refine WL.y (R.geqF rfl rfl (by omega)) rfl ?_
  refine WL.nil ?_
  refine W.cond_f rfl ?_
  refine W.skip ?_
  refine W.reg ?_
  refine WL.y (R.asg (v := .int _ _) rfl) rfl ?_
  refine WL.nil ?_
  refine W.seqX (ι := Nat) [(8, 9), (32, 51)] (fun q => [(8, i64 (q : Nat))]) (fun q w' => (q = rFree rl ∧ q ≤ rl.length) ∧ Ext w w' ∧ Star U w' [boxA b1 (encVip v)]) ?_ ?_
  · skip
    refine W.block ?_
    refine W.loopS (ι := Nat) [(8, 9), (32, 51)] (fun q => [(8, i64 (q : Nat))]) (fun q => rl.length - q) (fun q w' => (q ≤ rl.length ∧ (rl.take q).all (·.u) = true) ∧ Ext w w' ∧ Star U w' [boxA b1 (encVip v)]) 0 ⟨rfl, trivial⟩ ⟨⟨Nat.zero_le _, rfl⟩, hX, hS⟩ ?_
    rintro i j1 w_1 ⟨⟨hi, hall⟩, hX, hS⟩
    refine W.seq ?_
    refine W.reg ?_
    refine WL.y (R.mv (v := .int _ _) rfl) rfl ?_
    refine WL.y (R.mv (v := .pointer _) rfl) rfl ?_
    refine WL.y (R.nilCheck rfl) rfl ?_
    refine WL.y (R.fieldAddr fo92_1 rfl) rfl ?_
    refine WL.y (R.load sca90 rfl ((hX.blk H.blk)).r rfl) rfl ?_
    refine WL.y (R.lenS Try.underlying90 rfl) rfl ?_
    refine WL.fork (R.lss rfl rfl) rfl (fun hc6_6 => ?_) (fun hc6_6 => ?_)
    · skip
      replace hc6_6 := of_decide_eq_true hc6_6
      refine WL.y (R.mv (v := .bool true) rfl) rfl ?_
      refine WL.y (R.mv (v := .pointer _) rfl) rfl ?_
      refine WL.y (R.nilCheck rfl) rfl ?_
      refine WL.y (R.fieldAddr fo92_1 rfl) rfl ?_
      refine WL.y (R.load sca90 rfl ((hX.blk H.blk)).r rfl) rfl ?_
      refine WL.y (R.mv (v := .int _ _) rfl) rfl ?_
      obtain ⟨g_rl, o_rl, cs_rl, rfl, hO_rl⟩ := hE.op (by omega)
      obtain ⟨x, hx_rl⟩ : ∃ x, rl[i]? = some x := ⟨_, List.getElem?_eq_getElem (by omega)⟩
      refine WL.y (R.indexS Try.underlying90 siz102 rfl rfl rfl (by first | omega | (simp; done) | (simp; omega))) rfl ?_
      refine WL.y (R.fieldAddr fo102_0 rfl) rfl ?_
      refine WL.fork (R.load sca4 rfl ((hO_rl.ext hX).blk).r (hO_rl.cell encTE hx_rl (j := 0) (by decide))) rfl (fun hc6_15 => ?_) (fun hc6_15 => ?_)
      · skip
        refine WL.y (R.pkT (v := .bool true) rfl rfl) rfl ?_
        refine WL.nil ?_
        refine W.cond_t rfl ?_
        refine W.skip ?_
        refine W.block ?_
        refine W.region ?_
        refine WL.y (R.mv (v := .int _ _) rfl) rfl ?_
        refine WL.y (R.addI rfl rfl (by omega)) rfl ?_
        refine WL.y (R.asg (v := .int _ _) rfl) rfl ?_
        refine WL.nil ?_
        exact ⟨i + 1, (by omega), (by repeat (first | exact Same.rfl' _ _ | refine Same.set _ rfl ?_ | refine Same.over' _ rfl ?_ | refine Same.sets rfl ?_)), ⟨rfl, trivial⟩, rfl, ⟨by omega, by rw [take_snoc hx_rl, List.all_append, hall]; simp [hc6_15]⟩, hX, hS⟩
      · skip
        refine WL.y (R.pkT (v := .bool false) rfl rfl) rfl ?_
        refine WL.nil ?_
        refine W.cond_f rfl ?_
        refine W.exit ?_
        exact ⟨i, (by repeat (first | exact Same.rfl' _ _ | refine Same.set _ rfl ?_ | refine Same.over' _ rfl ?_ | refine Same.sets rfl ?_)), ⟨rfl, trivial⟩, rfl, ⟨(rFree_at hall hx_rl hc6_15).symm, hi⟩, hX, hS⟩
    · skip
      replace hc6_6 := of_decide_eq_false hc6_6
      refine WL.y (R.mv (v := .bool false) rfl) rfl ?_
      refine WL.skip rfl ?_
      refine WL.skip rfl ?_
      refine WL.skip rfl ?_
      refine WL.skip rfl ?_
      refine WL.skip rfl ?_
      refine WL.skip rfl ?_
      refine WL.skip rfl ?_
      refine WL.skip rfl ?_
      refine WL.y (R.pkF (v := .bool false) rfl rfl) rfl ?_
      refine WL.nil ?_
      refine W.cond_f rfl ?_
      refine W.exit ?_
      exact ⟨i, (by repeat (first | exact Same.rfl' _ _ | refine Same.set _ rfl ?_ | refine Same.over' _ rfl ?_ | refine Same.sets rfl ?_)), ⟨rfl, trivial⟩, rfl, ⟨by (have hie : i = rl.length := by omega); rw [hie, List.take_length] at hall; rw [hie, rFree_all hall], hi⟩, hX, hS⟩
  · skip
    rintro n j2 w_2 ⟨⟨hn, hnl⟩, hX, hS⟩
    refine W.seq ?_
    refine W.reg ?_
    refine WL.y (R.mv (v := .int _ _) rfl) rfl ?_
    refine WL.y (R.geqF rfl rfl (by omega)) rfl ?_
    refine WL.nil ?_
    refine W.cond_f rfl ?_
    refine W.skip ?_
    refine W.seqX (ι := Nat × RX × Nat) [(9, 10), (53, 61)] (fun q => [(9, .pointer (some ⟨q.2.2, 0, none⟩))]) (fun q w' => (True) ∧ Ext w w' ∧ Star U w' [rpA q.1 c (pNew c ms) q.2.1, boxA q.2.2 (encT (⟨true, v, some ⟨q.1, 0, none⟩, ms⟩ : RE)), boxA b1 (encVip v)]) ?_ ?_
    · skip
      refine W.draw (fun j => [9].contains j) (fun wI => Ext w_2 wI) rfl ?_
      have hI7 := Ext.dr w_2
      refine WA.batch [0, 1, 2, 3, 4, 5] 4 (by kernel_rfl) hI7 ?_
      refine QL.y (fun wq hq => (R.loadA agg42 rfl (hq.blkR (hS.blk0).r) rfl rfl)) rfl ?_
      refine QL.y (fun wq hq => (R.mv (v := .pointer _) rfl)) rfl ?_
      refine QL.y (fun wq hq => (R.nilCheck rfl)) rfl ?_
      refine QL.y (fun wq hq => (R.fieldAddr fo92_0 rfl)) rfl ?_
      refine QL.y (fun wq hq => (R.loadA agg33 rfl (hq.blkR ((hX.blk H.blk)).r) rfl rfl)) rfl ?_
      refine QL.y (fun wq hq => (R.mv (v := .slice _ _ _) rfl)) rfl ?_
      refine QL.nil ?_
      have hD7 := Ext.dr w_2
      have hD7z := hD7.size
      have hS0 := hS
      have hXo := hX
      replace hS := hS.ext hD7
      replace hX := hX.tr hD7
      refine WA.both 6 8 3 (by kernel_rfl) ?_ ?_
      · skip
        have hX0 := hX
        have hIz8 := hI7.size
        refine WL.call Try.func33 rfl rfl (rNew_good c H.ok ms (by omega) _ _ _ (hM.ext hX) hm) rfl rfl ?_
        rintro _ w8 ⟨⟨q0, rxq, rfl, hb8, hP8⟩, hx8⟩
        replace hS := hS.push hx8 (A := rpA q0 c (pNew c ms) rxq) hP8 (fun k hk => hk.1)
        replace hX := hX.tr hx8
        refine WL.nil ?_
        refine ⟨fun _ h => h.tr hx8, ?_⟩
        replace hI7 := hI7.tr hx8
        clear hX0
        refine WA.pures [7] 2 (by kernel_rfl) ?_
        refine QL.y (fun wq hq => (R.buildE (parts := [(0, .const (.bool true)), (1, .tmp 53), (2, .tmp 59)]) (vs := encT (⟨true, v, some ⟨q0, 0, none⟩, ms⟩ : RE)) bld102 (by kernel_rfl) (by kernel_rfl))) rfl ?_
        refine QL.nil ?_
        refine WA.one 8 1 (by kernel_rfl) ?_
        have hX0 := hX
        have hIz9 := hI7.size
        refine WL.alloc zer102 rfl ?_
        intro b9 w9 hb9 hs9 hx9 hB9
        replace hS := hS.pushBox hb9 hx9 hB9
        replace hX := hX.tr hx9
        clear hB9 hs9
        refine WL.nil ?_
        refine ⟨fun _ h => h.tr hx9, ?_⟩
        replace hI7 := hI7.tr hx9
        clear hX0
        refine WA.chain [9] 0 (by kernel_rfl) ?_
        refine WL.store (v := .agg _) siz102 rfl rfl rfl rfl hS.blk0 (Nat.le_of_ble_eq_true rfl) rfl rfl ?_
        intro w10 hu10 hz10 hn10
        have hN := hS.box0 hu10 hn10
        replace hS := hN.1
        replace hX := hN.2 _ hX hU
        clear hN hn10 hu10 hz10
        refine WL.nil ?_
        replace hS := hS.raise2
        replace hS := hS.raise1
        replace hS := hS.raise2
        exact ⟨⟨q0, rxq, b9⟩, (by repeat (first | exact Same.rfl' _ _ | refine Same.set _ rfl ?_ | refine Same.over' _ rfl ?_ | refine Same.sets rfl ?_)), ⟨rfl, trivial⟩, rfl, trivial, hX, hS⟩
      · skip
        have hX0 := hX
        have hIz11 := hI7.size
        refine WL.alloc zer102 rfl ?_
        intro b11 w11 hb11 hs11 hx11 hB11
        replace hS := hS.pushBox hb11 hx11 hB11
        replace hX := hX.tr hx11
        clear hB11 hs11
        refine WL.nil ?_
        refine ⟨fun _ h => h.tr hx11, ?_⟩
        replace hI7 := hI7.tr hx11
        clear hX0
        refine WA.one 6 2 (by kernel_rfl) ?_
        have hX0 := hX
        have hIz12 := hI7.size
        refine WL.call Try.func33 rfl rfl (rNew_good c H.ok ms (by omega) _ _ _ (hM.ext hX) hm) rfl rfl ?_
        rintro _ w12 ⟨⟨q0, rxq, rfl, hb12, hP12⟩, hx12⟩
        replace hS := hS.push hx12 (A := rpA q0 c (pNew c ms) rxq) hP12 (fun k hk => hk.1)
        replace hX := hX.tr hx12
        refine WL.nil ?_
        refine ⟨fun _ h => h.tr hx12, ?_⟩
        replace hI7 := hI7.tr hx12
        clear hX0
        refine WA.pures [7] 1 (by kernel_rfl) ?_
        refine QL.y (fun wq hq => (R.buildE (parts := [(0, .const (.bool true)), (1, .tmp 53), (2, .tmp 59)]) (vs := encT (⟨true, v, some ⟨q0, 0, none⟩, ms⟩ : RE)) bld102 (by kernel_rfl) (by kernel_rfl))) rfl ?_
        refine QL.nil ?_
        refine WA.chain [9] 0 (by kernel_rfl) ?_
        refine WL.store (v := .agg _) siz102 rfl rfl rfl rfl hS.blk1 (Nat.le_of_ble_eq_true rfl) rfl rfl ?_
        intro w13 hu13 hz13 hn13
        have hN := hS.box1 hu13 hn13
        replace hS := hN.1
        replace hX := hN.2 _ hX hU
        clear hN hn13 hu13 hz13
        refine WL.nil ?_
        exact ⟨⟨q0, rxq, b11⟩, (by repeat (first | exact Same.rfl' _ _ | refine Same.set _ rfl ?_ | refine Same.over' _ rfl ?_ | refine Same.sets rfl ?_)), ⟨rfl, trivial⟩, rfl, trivial, hX, hS⟩
    · skip
      rintro ⟨q0, rxq, bn⟩ j3 w_3 ⟨-, hX, hS⟩
      dsimp only at hX hS ⊢
      have hbw := H.lt _ H.fb
      have hEw := fun k hk => H.lt k (H.ownE k hk).1
      refine W.seq ?_
      refine W.reg ?_
      refine WL.y (R.mv (v := .int _ _) rfl) rfl ?_
      refine WL.y (R.mv (v := .pointer _) rfl) rfl ?_
      refine WL.y (R.nilCheck rfl) rfl ?_
      refine WL.y (R.fieldAddr fo92_1 rfl) rfl ?_
      refine WL.y (R.load sca90 rfl ((hX.blk H.blk)).r rfl) rfl ?_
      refine WL.y (R.lenS Try.underlying90 rfl) rfl ?_
      refine WL.fork (R.lss rfl rfl) rfl (fun hc11_6 => ?_) (fun hc11_6 => ?_)
      · skip
        replace hc11_6 := of_decide_eq_true hc11_6
        refine WL.nil ?_
        refine W.cond_t rfl ?_
        obtain ⟨g_rl, o_rl, cs_rl, ea, hO_rl⟩ := hE.op (by omega)
        have hoE := H.ownE
        subst ea
        obtain ⟨csl, hV⟩ := (H.ents).op2 (by omega)
        refine W.draw (fun j => [7].contains j) (fun wI => Ext w_3 wI) rfl ?_
        have hI14 := Ext.dr w_3
        refine WA.batch [0, 1, 2, 3, 4, 5, 6] 1 (by kernel_rfl) hI14 ?_
        refine QL.y (fun wq hq => (R.mv (v := .pointer _) rfl)) rfl ?_
        refine QL.y (fun wq hq => (R.nilCheck rfl)) rfl ?_
        refine QL.y (fun wq hq => (R.fieldAddr fo92_1 rfl)) rfl ?_
        refine QL.y (fun wq hq => (R.load sca90 rfl (hq.blkR ((hX.blk H.blk)).r) rfl)) rfl ?_
        refine QL.y (fun wq hq => (R.mv (v := .int _ _) rfl)) rfl ?_
        refine QL.y (fun wq hq => (R.loadA agg102 rfl (hq.blkR (hS.blk1).r) rfl rfl)) rfl ?_
        obtain ⟨x, hx_rl⟩ : ∃ x, rl[n]? = some x := ⟨_, List.getElem?_eq_getElem (by omega)⟩
        refine QL.y (fun wq hq => (R.indexS Try.underlying90 siz102 rfl rfl rfl (by first | omega | (simp; done) | (simp; omega)))) rfl ?_
        refine QL.nil ?_
        have hD14 := Ext.dr w_3
        have hD14z := hD14.size
        have hS0 := hS
        have hXo := hX
        replace hS := hS.ext hD14
        replace hX := hX.tr hD14
        refine WA.chain [7] 0 (by kernel_rfl) ?_
        obtain ⟨FN, hN, hNU⟩ := hS.get0
        refine WL.store (v := .agg _) siz102 rfl rfl rfl rfl (hV.ext hX).blk ((hV.ext hX).bound (by omega)) rfl rfl ?_
        intro w15 hu15 hz15 hn15
        have hQ := (hV.ext hX).put encTE (by omega) (⟨true, v, some ⟨q0, 0, none⟩, ms⟩ : RE) hn15
        have hgk : owns (some ⟨g_rl, o_rl, none⟩) g_rl := (owns_some _ _).2 rfl
        have hUF : Upd F w w15 := (hX.upd F).tr (hu15.mono fun k _ hk => by subst hk; exact (H.ownE k hgk).1)
        have hUP : Upd (fun k => k = b ∨ owns (some ⟨g_rl, o_rl, none⟩) k) w w15 := (hX.upd _).tr (hu15.mono fun k _ hk => by subst hk; exact .inr hgk)
        have hgw := hEw g_rl hgk
        have hN2 := hN.upd hu15 (fun k hk e => by subst e; have := hU _ (hNU _ hk); omega)
        have hNw := hN2.lt
        have hB2 := hu15.blk (fun e => (H.ownE b (by rw [e]; exact hgk)).2 rfl) (hX.blk H.blk)
        refine WL.nil ?_
        refine W.reg ?_
        refine WL.y (R.mv (v := .int _ _) rfl) rfl ?_
        refine WL.y (R.asg (v := .int _ _) rfl) rfl ?_
        refine WL.y (R.asg (v := .int _ _) rfl) rfl ?_
        refine WL.nil ?_
        refine W.ret ?_
        have hT := H.turn hUP (F' := (fun k => F k ∨ (w.heap.size ≤ k ∧ k < w15.heap.size))) (fun k h => .inl h) (fun k hk => by rcases hk with h | h; exact Nat.lt_of_lt_of_le (H.lt k h) hUF.size; exact h.2) (rl' := rl.set n (⟨true, v, some ⟨q0, 0, none⟩, ms⟩ : RE)) (e0 := (⟨true, v, some ⟨q0, 0, none⟩, ms⟩ : RE)) (by rw [List.length_set]; exact hB2) hQ.cl (fun j hj => ⟨.inl (H.ownE j hj).1, (H.ownE j hj).2, .inl hj⟩) (by rw [List.length_set]; exact h16) set_in
          (fun _ => ⟨q0, rxq, FN, rfl, hN2, fun k hk => ⟨.inr ⟨hU k (hNU k hk), hNw k hk⟩, fun e => by (have := hU k (hNU k hk)); omega, fun ho => by (have := hU k (hNU k hk)); (have := hEw k ho); omega⟩⟩)
        exact PR.r2 rfl (.tmp rfl) (.tmp rfl) ⟨_, _, _, q0, by rw [hn]; rfl, hUF, by rw [← hn]; unfold rPut; rw [if_pos (by omega)]; exact hT, fun k hk => by rcases hk with h | h; exact .inl h; exact .inr h.1⟩
      · skip
        replace hc11_6 := of_decide_eq_false hc11_6
        refine WL.nil ?_
        refine W.cond_f rfl ?_
        refine W.draw (fun j => [7, 8, 9, 10].contains j) (fun wI => Ext w_3 wI) rfl ?_
        have hI16 := Ext.dr w_3
        refine WA.pures [0, 1, 2, 3] 7 (by kernel_rfl) ?_
        refine QL.y (fun wq hq => (R.mv (v := .pointer _) rfl)) rfl ?_
        refine QL.y (fun wq hq => (R.mv (v := .pointer _) rfl)) rfl ?_
        refine QL.y (fun wq hq => (R.nilCheck rfl)) rfl ?_
        refine QL.y (fun wq hq => (R.fieldAddr fo92_1 rfl)) rfl ?_
        refine QL.nil ?_
        refine WA.batch [4, 5] 5 (by kernel_rfl) hI16 ?_
        refine QL.y (fun wq hq => (R.load sca90 rfl (hq.blkR ((hX.blk H.blk)).r) rfl)) rfl ?_
        refine QL.y (fun wq hq => (R.loadA agg102 rfl (hq.blkR (hS.blk1).r) rfl rfl)) rfl ?_
        refine QL.nil ?_
        have hD16 := Ext.dr w_3
        have hD16z := hD16.size
        have hS0 := hS
        have hXo := hX
        replace hS := hS.ext hD16
        replace hX := hX.tr hD16
        refine WA.one 6 4 (by kernel_rfl) ?_
        have hX0 := hX
        have hIz17 := hI16.size
        refine WL.buildSliceP (parts := [(0, .tmp 80)]) (ps := [(0, .agg _)]) el90_102 rfl rfl rfl (by decide) rfl rfl ?_
        intro b17 w17 hb17 hs17 hx17 hB17
        have hL17 := Slw.one encTE ((⟨true, v, some ⟨q0, 0, none⟩, ms⟩ : RE)) hB17 rfl
        replace hS := hS.pushSlw hx17 hL17 (fun k hk => by rw [owns_some] at hk; simp only at hk; omega)
        replace hX := hX.tr hx17
        clear hL17 hB17 hs17
        refine WL.nil ?_
        refine ⟨fun _ h => h.tr hx17, ?_⟩
        replace hI16 := hI16.tr hx17
        clear hX0
        refine WA.chain [7, 8, 9, 10] 0 (by kernel_rfl) ?_
        obtain ⟨FN, hN, hNU⟩ := hS.get1
        have hNl0 := hN.lt
        refine WL.appendS el90_102 encTE rfl rfl (H.ents.ext hX) rfl (hS.slw0).ro rfl (by first | omega | (simp; omega)) (by first | omega | (simp; omega)) rfl ?_
        intro aN cN w18 hu18 hQ hf18
        have hUF : Upd F w w18 := (hX.upd F).tr (hu18.mono fun k _ hk => (H.ownE k (hk)).1)
        have hUP : Upd (fun k => k = b ∨ owns aE k) w w18 := (hX.upd _).tr (hu18.mono fun k _ hk => .inr (hk))
        have hSu : ∀ k, U k → ¬ owns aE k := fun k hk h => by have := hU k hk; have := hEw k h; omega
        have hN2 := hN.upd hu18 (fun k hk h => hSu k (hNU k hk) h)
        have hB2 := hu18.blk (fun h => (H.ownE b h).2 rfl) (hX.blk H.blk)
        have hXz := hX.size
        have hfN : ∀ k, owns aN k → owns aE k ∨ w17.heap.size ≤ k := fun k hk => by rcases hf18 with h | h; exact .inl (h ▸ hk); exact .inr (h k hk)
        refine WL.y (R.nilCheck rfl) rfl ?_
        refine WL.y (R.fieldAddr fo92_1 rfl) rfl ?_
        have hQl := hQ.lt
        refine WL.store1 (v := .slice _ _ _) sca90 rfl rfl rfl hB2 (Nat.le_of_ble_eq_true rfl) rfl ?_
        intro w19 hu19 hz19 hn19
        replace hUF := hUF.tr (hu19.mono fun k _ hk => by subst hk; exact H.fb)
        replace hUP := hUP.tr (hu19.mono fun k _ hk => .inl hk)
        replace hN2 := hN2.upd hu19 (fun k hk e => by subst e; have := hU _ (hNU _ hk); omega)
        have hNw := hN2.lt
        replace hQ := hQ.updB hu19 (fun k hk e => by rcases hfN k hk with h | h; exact (H.ownE k h).2 e; omega)
        have hB3 := hn19
        refine WL.nil ?_
        refine W.reg ?_
        refine WL.y (R.mv (v := .int _ _) rfl) rfl ?_
        refine WL.y (R.asg (v := .int _ _) rfl) rfl ?_
        refine WL.y (R.asg (v := .int _ _) rfl) rfl ?_
        refine WL.nil ?_
        refine W.ret ?_
        have hT := H.turn hUP (F' := (fun k => F k ∨ (w.heap.size ≤ k ∧ k < w19.heap.size))) (fun k h => .inl h) (fun k hk => by rcases hk with h | h; exact Nat.lt_of_lt_of_le (H.lt k h) hUF.size; exact h.2) (rl' := rl ++ [(⟨true, v, some ⟨q0, 0, none⟩, ms⟩ : RE)]) (e0 := (⟨true, v, some ⟨q0, 0, none⟩, ms⟩ : RE)) (by rw [List.length_append]; exact hB3) hQ (fun j hj => ⟨by rcases hfN j hj with h | h; exact .inl (H.ownE j h).1; exact .inr ⟨by omega, Nat.lt_of_lt_of_le (hQl j hj) (by omega)⟩, fun e => by rcases hfN j hj with h | h; exact (H.ownE j h).2 e; omega, by rcases hfN j hj with h | h; exact .inl h; exact .inr (by omega)⟩) (by simp; omega)
          (fun i e h => by
            rcases Nat.lt_or_ge i rl.length with hl | hl
            · rw [List.getElem?_append_left hl] at h; exact .inl ⟨i, h⟩
            · rw [List.getElem?_append_right hl] at h
              cases hd : i - rl.length with
              | zero => rw [hd] at h; simp at h; exact .inr h.symm
              | succ k => rw [hd] at h; simp at h)
          (fun _ => ⟨q0, rxq, FN, rfl, hN2, fun k hk => ⟨.inr ⟨hU k (hNU k hk), hNw k hk⟩, fun e => by (have := hU k (hNU k hk)); omega, fun ho => by (have := hU k (hNU k hk)); (have := hNl0 k hk); rcases hfN k ho with h | h; (have := hEw k h; omega); omega⟩⟩)
        exact PR.r2 rfl (.tmp rfl) (.tmp rfl) ⟨_, _, _, q0, by rw [hn]; rfl, hUF, by rw [← hn]; unfold rPut; rw [if_neg (by omega)]; exact hT, fun k hk => by rcases hk with h | h; exact .inl h; exact .inr h.1⟩
end Go.Proofs.Ytkjecokkdbapkaa

namespace Go.Proofs.Ytkjecokkdbapkaa
set_option linter.all false
open Go Go.Eng Go.RowKit
set_option maxRecDepth 20000
set_option maxHeartbeats 2000000
set_option linter.unusedVariables false
set_option linter.unusedSimpArgs false
attribute [local irreducible] WL W QL WA SP

theorem sca24 : Sca Try.prog 24 := ⟨Try.isAgg24, Try.sizeOf24⟩

def allL (l : List (Option Ent)) : List Nat := (List.range 16).filter (fun n => (tHas l (n : Nat)).isSome)
def vipAt (l : List (Option Ent)) (n : Nat) : Vip := match tHas l n with | some e => e.v | none => vip0
theorem allL_le (l : List (Option Ent)) : (allL l).length ≤ 16 := by
  have h1 := List.length_filter_le (fun n : Nat => (tHas l (n : Nat)).isSome) (List.range 16)
  rw [List.length_range] at h1
  exact h1

theorem All_iter (F : Nat → Prop) (bt bc : Nat) (c : Cfg) (l : List (Option Ent)) : Iter Try.prog 171 [.pointer (some ⟨bc, 0, none⟩)] (fun n : Nat => [i64 (n : Nat), encVv (vipAt l n)]) (allL l) (fun W => Blk W bc [.pointer (some ⟨bt, 0, none⟩)] ∧ TabAt W F bt c l) := by
  intro lY J Jx w hJ hJx hM hj hY
  refine Calls.of_W (N := 24) Try.func171 rfl rfl rfl ?_
  refine W.reg ?_
  refine WL.y (R.mv (v := .int _ _) rfl) rfl ?_
  refine WL.nil ?_
  refine W.block ?_
  refine W.loopS (ι := Nat) [(3, 24)] (fun n => [(6, i64 (n : Nat))]) (fun n => 16 - n) (fun n w' => n ≤ 16 ∧ J ((List.range n).filter (fun n => (tHas l (n : Nat)).isSome)) w') 0 ⟨rfl, trivial⟩ ⟨Nat.zero_le _, hj⟩ ?_
  rintro n j wl ⟨hn, hj⟩
  refine W.reg ?_
  refine WL.fork (R.lss rfl rfl) rfl (fun hc1_0 => ?_) (fun hc1_0 => ?_)
  · skip
    replace hc1_0 := of_decide_eq_true hc1_0
    refine WL.nil ?_
    refine W.seq ?_
    refine W.cond_t rfl ?_
    refine W.skip ?_
    refine W.seq ?_
    refine W.block ?_
    refine W.reg ?_
    refine WL.y (R.mv (v := .int _ _) rfl) rfl ?_
    refine WL.y (R.asg (v := .int _ _) rfl) rfl ?_
    refine WL.nil ?_
    rcases hth : tHas l (n : Nat) with _ | e
    · skip
      refine W.reg ?_
      refine WL.y (R.load sca24 rfl ((hM _ _ hj).1).r rfl) rfl ?_
      refine WL.y (R.mv (v := .int _ _) rfl) rfl ?_
      refine WL.call Try.func25 rfl rfl ((Vip_calls F bt c l _ (hM _ _ hj).2 (n : Nat)).val (y := .tuple #[encVv vip0, bl false]) (by rw [hth])) rfl rfl ?_
      rintro _ w1 ⟨rfl, hx1⟩
      replace hj := hJ _ _ _ hj hx1
      refine WL.y (R.mv (v := .tuple _) rfl) rfl ?_
      refine WL.y (R.extract rfl rfl) rfl ?_
      refine WL.y (R.extract rfl rfl) rfl ?_
      refine WL.alloc zer42 rfl ?_
      intro b2 w2 hb2 hs2 hx2 hB2
      have hbn := hb2
      refine WL.store (v := .agg _) siz42 rfl rfl rfl rfl hB2 (Nat.le_of_ble_eq_true rfl) rfl rfl ?_
      intro w3 hu3 hz3 hBV
      have hxc := hx2.put hu3 (by omega)
      replace hj := hJ _ _ _ hj hxc
      refine WL.y (R.asg (v := .bool false) rfl) rfl ?_
      refine WL.nil ?_
      refine W.reg ?_
      refine WL.y (R.mv (v := .bool false) rfl) rfl ?_
      refine WL.y (R.mv (v := .bool false) rfl) rfl ?_
      refine WL.skip rfl ?_
      refine WL.skip rfl ?_
      refine WL.skip rfl ?_
      refine WL.skip rfl ?_
      refine WL.skip rfl ?_
      refine WL.y (R.pkF (v := .bool false) rfl rfl) rfl ?_
      refine WL.nil ?_
      refine W.cond_f rfl ?_
      refine W.skip ?_
      refine W.region ?_
      refine WL.y (R.addI rfl rfl (by omega)) rfl ?_
      refine WL.y (R.mv (v := .int _ _) rfl) rfl ?_
      refine WL.nil ?_
      exact ⟨n + 1, (by omega), (by repeat (first | exact Same.rfl' _ _ | refine Same.set _ rfl ?_ | refine Same.over' _ rfl ?_ | refine Same.sets rfl ?_)), ⟨rfl, trivial⟩, rfl, by omega, (by rw [filt_succ, hth]; simpa using hj)⟩
    · skip
      refine W.reg ?_
      refine WL.y (R.load sca24 rfl ((hM _ _ hj).1).r rfl) rfl ?_
      refine WL.y (R.mv (v := .int _ _) rfl) rfl ?_
      refine WL.call Try.func25 rfl rfl ((Vip_calls F bt c l _ (hM _ _ hj).2 (n : Nat)).val (y := .tuple #[encVv e.v, bl true]) (by rw [hth])) rfl rfl ?_
      rintro _ w4 ⟨rfl, hx4⟩
      replace hj := hJ _ _ _ hj hx4
      refine WL.y (R.mv (v := .tuple _) rfl) rfl ?_
      refine WL.y (R.extract rfl rfl) rfl ?_
      refine WL.y (R.extract rfl rfl) rfl ?_
      refine WL.alloc zer42 rfl ?_
      intro b5 w5 hb5 hs5 hx5 hB5
      have hbn := hb5
      refine WL.store (v := .agg _) siz42 rfl rfl rfl rfl hB5 (Nat.le_of_ble_eq_true rfl) rfl rfl ?_
      intro w6 hu6 hz6 hBV
      have hxc := hx5.put hu6 (by omega)
      replace hj := hJ _ _ _ hj hxc
      refine WL.y (R.asg (v := .bool true) rfl) rfl ?_
      refine WL.nil ?_
      refine W.reg ?_
      refine WL.y (R.mv (v := .bool true) rfl) rfl ?_
      refine WL.y (R.mv (v := .bool true) rfl) rfl ?_
      refine WL.y (R.mv (v := _) rfl) rfl ?_
      refine WL.y (R.mv (v := .int _ _) rfl) rfl ?_
      refine WL.y (R.loadA agg42 rfl (hBV).r rfl rfl) rfl ?_
      obtain ⟨rest, hsp⟩ := filt_split (f := fun n : Nat => (tHas l (n : Nat)).isSome) (show n < 16 by omega) (by rw [hth]; rfl)
      have hva : vipAt l n = e.v := by unfold vipAt; rw [hth]
      refine WL.callY (vs := [i64 (n : Nat), encVv (vipAt l n)]) rfl (hY _ n rest _ hsp hj) (by rw [hva]; rfl) rfl ?_
      rintro _ w7 (⟨rfl, hj⟩ | ⟨rfl, hjx⟩)
      · skip
        refine WL.y (R.notT rfl) rfl ?_
        refine WL.y (R.pkT (v := .bool false) rfl rfl) rfl ?_
        refine WL.nil ?_
        refine W.cond_f rfl ?_
        refine W.skip ?_
        refine W.region ?_
        refine WL.y (R.addI rfl rfl (by omega)) rfl ?_
        refine WL.y (R.mv (v := .int _ _) rfl) rfl ?_
        refine WL.nil ?_
        exact ⟨n + 1, (by omega), (by repeat (first | exact Same.rfl' _ _ | refine Same.set _ rfl ?_ | refine Same.over' _ rfl ?_ | refine Same.sets rfl ?_)), ⟨rfl, trivial⟩, rfl, by omega, (by rw [filt_succ, hth]; exact hj)⟩
      · skip
        refine WL.y (R.notF rfl) rfl ?_
        refine WL.y (R.pkT (v := .bool true) rfl rfl) rfl ?_
        refine WL.nil ?_
        refine W.cond_t rfl ?_
        refine W.ret ?_
        exact PR.r0 rfl (.inr ⟨_, ⟨rest, by rw [List.append_assoc]; exact hsp.symm⟩, hjx⟩)
  · skip
    replace hc1_0 := of_decide_eq_false hc1_0
    refine WL.nil ?_
    refine W.seq ?_
    refine W.cond_f rfl ?_
    refine W.exit ?_
    obtain rfl : n = 16 := by omega
    exact PR.r0 rfl (.inl hj)

theorem All_calls (q : Option Addr) (w : World) : CallV Try.prog 130 #[.pointer q] w fun v w' => ∃ bc, v = .func (.func 171) #[] #[.pointer (some ⟨bc, 0, none⟩)] ∧ Blk w' bc [.pointer q] ∧ w.heap.size ≤ bc ∧ Ext w w' := by
  have hX : Ext w w := Ext.rfl' w
  refine Calls.of_W (N := 4) Try.func130 rfl rfl rfl ?_
  refine W.reg ?_
  refine WL.box (v := .pointer _) rfl rfl rfl ?_
  intro b1 w1 hb1 hs1 hx1 hB1
  have hge1 := hX.size
  replace hX := hX.tr hx1
  refine WL.y (R.asg (v := _) rfl) rfl ?_
  refine WL.nil ?_
  refine W.reg ?_
  refine WL.y (R.makeFuncP (cap := [.tmp 1]) (vs := [.pointer _]) rfl) rfl ?_
  refine WL.y (R.asg (v := _) rfl) rfl ?_
  refine WL.nil ?_
  refine W.ret ?_
  exact PR.r1 rfl (.tmp rfl) ⟨b1, rfl, hB1, by omega, hX⟩

theorem all19_calls (F : Nat → Prop) (bt : Nat) (c : Cfg) (l : List (Option Ent)) (w : World) (hT : TabAt w F bt c l) (most : Int) : CallV Try.prog 66 #[.pointer (some ⟨bt, 0, none⟩), i64 most] w fun v w' => (∃ a' c', v = .slice a' (takeM most (allL l)).length c' ∧ Sli (fun n : Int => [i64 n]) 1 w' a' c' (ofNats (takeM most (allL l))) ∧ ∀ k, owns a' k → w.heap.size ≤ k) ∧ Ext w w' := by
  have hX : Ext w w := Ext.rfl' w
  have hU : ∀ k, (fun k => w.heap.size ≤ k) k → w.heap.size ≤ k := fun _ h => h
  have hS : Star (fun k => w.heap.size ≤ k) w [] := Star.nil fun _ h => h
  generalize (fun k => w.heap.size ≤ k) = U at hU hS
  refine Calls.of_W (N := 24) Try.func66 rfl rfl rfl ?_
  refine W.reg ?_
  refine WL.box (v := .int _ _) rfl rfl rfl ?_
  intro b1 w1 hb1 hs1 hx1 hB1
  replace hS := hS.pushBox hb1 hx1 hB1
  replace hX := hX.tr hx1
  clear hB1 hs1
  refine WL.y (R.asg (v := .slice _ _ _) rfl) rfl ?_
  refine WL.nil ?_
  refine W.reg ?_
  refine WL.alloc zer22 rfl ?_
  intro b2 w2 hb2 hs2 hx2 hB2
  replace hS := hS.pushBox hb2 hx2 hB2
  replace hX := hX.tr hx2
  clear hB2 hs2
  refine WL.nil ?_
  refine W.reg ?_
  replace hS := hS.pushNil (fun n : Int => [i64 n]) 1
  refine WL.y (R.mv (v := .pointer _) rfl) rfl ?_
  refine WL.call Try.func130 rfl rfl (All_calls _ _) rfl rfl ?_
  rintro _ w3 ⟨bc, rfl, hbc, hge3, hx3⟩
  replace hS := hS.push hx3 (A := boxA bc _) (F := fun k => k = bc) ⟨hbc, rfl⟩ (fun k hk => by omega)
  replace hX := hX.tr hx3
  refine WL.y (R.asg (v := _) rfl) rfl ?_
  refine WL.nil ?_
  refine W.seq ?_
  refine W.reg ?_
  refine WL.y (R.mv (v := _) rfl) rfl ?_
  refine WL.y (R.eqlNilF Try.underlying219 rfl) rfl ?_
  refine WL.nil ?_
  refine W.cond_f rfl ?_
  refine W.skip ?_
  refine W.seq ?_
  refine W.reg ?_
  refine WL.y (R.mv (v := _) rfl) rfl ?_
  refine WL.nil ?_
  refine W.block ?_
  obtain ⟨wk4, hwk4⟩ : ∃ W, W = w3 := ⟨_, rfl⟩
  rw [← hwk4] at hS hX ⊢
  clear hwk4
  have hXz4 := hX.size
  have hUn4 := hS.new
  refine W.range (gf := 171) (lb := [.pointer (some ⟨bc, 0, none⟩)]) rfl Try.func171 rfl rfl (All_iter F bt bc c l) (fun _ => rfl) (fun pre W => ∃ q : Option Addr × Nat, (∀ j, j < pre.length → ¬ (j : Int) = most) ∧ Ext w W ∧ Star (offD U wk4.heap.size) W [boxA bc [.pointer (some ⟨bt, 0, none⟩)], slwA (fun n : Int => [i64 n]) 1 q.1 q.2 (ofNats pre), boxA b2 [.slice q.1 pre.length q.2], boxA b1 [i64 most]]) (fun c pre W => (c = (.exit 0) ∧ ∃ q : Option Addr × Nat, ((pre.dropLast.length : Int) = most) ∧ Ext w W ∧ Star (offD U wk4.heap.size) W [boxA bc [.pointer (some ⟨bt, 0, none⟩)], slwA (fun n : Int => [i64 n]) 1 q.1 q.2 (ofNats pre.dropLast), boxA b2 [.slice q.1 pre.dropLast.length q.2], boxA b1 [i64 most]])) ?_ ?_ ?_ ?_ ?_ ?_ ?_
  · rintro pre W W' ⟨q, hp, hX, hS⟩ hu
    exact ⟨q, hp, hX.putU hu (fun k hk => by rcases hk with rfl | rfl <;> omega), hS.updD hu⟩
  · rintro c pre W W' ⟨hc, q, hp, hX, hS⟩ hu
    exact ⟨hc, q, hp, hX.putU hu (fun k hk => by rcases hk with rfl | rfl <;> omega), hS.updD hu⟩
  · rintro pre W ⟨⟨ao, co⟩, hp, hX, hS⟩
    dsimp only at hS
    exact ⟨hS.blk0, hT.ext hX⟩
  · intro W hx hz
    exact ⟨⟨none, 0⟩, (fun j hj => absurd hj (by simp)), hX.tr hx, hS.shutD hx hz⟩
  · skip
    rintro pre x rest WW oL oD hsp ⟨⟨ao, co⟩, hp, hX, hS⟩ hRL hRD
    try dsimp only at hX hS ⊢
    have hlp := allL_le l
    rw [hsp] at hlp
    simp at hlp
    refine W.region ?_
    refine WL.y (R.asg (v := .int _ _) rfl) rfl ?_
    refine WL.nil ?_
    refine ⟨rfl, hRL, hRD, ?_⟩
    intro W2 oL2 hu2 hz2 hRL hRD
    replace hX := hX.putU hu2 (fun k hk => by omega)
    replace hS := hS.updL hu2
    replace hS := hS.inD hRL hRD (hUn4 _ (by omega)) (hUn4 _ (by omega))
    clear hRL hRD hu2 hz2
    refine W.block ?_
    refine W.seq ?_
    refine W.reg ?_
    refine WL.y (R.load sca22 rfl (hS.blk4).r rfl) rfl ?_
    refine WL.y (R.lenS Try.underlying22 rfl) rfl ?_
    refine WL.y (R.load sca3 rfl (hS.blk5).r rfl) rfl ?_
    refine WL.fork (R.eql rfl rfl) rfl (fun hc7_3 => ?_) (fun hc7_3 => ?_)
    · skip
      replace hc7_3 := eq_of_beq hc7_3
      refine WL.nil ?_
      refine W.cond_t rfl ?_
      refine W.exit ?_
      rw [show pre = (pre ++ [x]).dropLast from List.dropLast_concat.symm] at hS
      obtain ⟨hS, hRL, hRD⟩ := hS.outD
      exact ⟨⟨rfl, ⟨ao, co⟩, (by rw [List.dropLast_concat]; exact hc7_3), hX, hS⟩, hRL, hRD⟩
    · skip
      replace hc7_3 := beq_F hc7_3
      refine WL.nil ?_
      refine W.cond_f rfl ?_
      refine W.skip ?_
      refine W.region ?_
      refine WL.y (R.load sca22 rfl (hS.blk4).r rfl) rfl ?_
      refine WL.y (R.mv (v := .int _ _) rfl) rfl ?_
      refine WL.buildSliceP (parts := [(0, .tmp 20)]) (ps := [(0, .int _ _)]) el22_3 rfl rfl rfl (by decide) rfl rfl ?_
      intro b5 w5 hb5 hs5 hx5 hB5
      have hL5 := Slw.one encI _ hB5 rfl
      replace hS := hS.pushSlw hx5 hL5 (fun k hk => by rw [owns_some] at hk; simp only at hk; omega)
      replace hX := hX.tr hx5
      clear hL5 hB5 hs5
      refine WL.appendS el22_3 encI rfl rfl (hS.slw4) (by simp) (hS.slw0).ro (by first | rfl | omega | (simp; done) | (simp; omega)) (by first | omega | (simp; omega)) (by first | omega | (simp; omega)) rfl ?_
      intro a6 c6 w6 hu6 hl6 hf6
      have hN := hS.app4 hu6 hl6 hf6
      replace hS := hN.1
      replace hX := hN.2 _ hX hU
      clear hN hu6 hl6 hf6
      replace hS := hS.drop0
      refine WL.store1 (v := .slice _ _ _) sca22 rfl rfl rfl hS.blk4 (Nat.le_of_ble_eq_true rfl) rfl ?_
      intro w7 hu7 hz7 hn7
      have hN := hS.box4 hu7 hn7
      replace hS := hN.1
      replace hX := hN.2 _ hX hU
      clear hN hn7 hu7 hz7
      refine WL.nil ?_
      rw [show pre.length + 1 = (pre ++ [x]).length by simp, show ofNats pre ++ [((x : Nat) : Int)] = ofNats (pre ++ [x]) by simp [ofNats]] at hS
      obtain ⟨hS, hRL, hRD⟩ := hS.outD
      exact ⟨⟨⟨a6, c6⟩, (fun j hj => by rw [List.length_append] at hj; simp at hj; rcases Nat.lt_or_ge j pre.length with h | h; exact hp j h; (obtain rfl : j = pre.length := by omega); exact hc7_3), hX, hS⟩, hRL, hRD⟩
  · skip
    rintro WZ ⟨⟨ao, co⟩, hp, hX, hS⟩ hD
    try dsimp only at hX hS ⊢
    replace hS := hS.onD hD (hUn4 _ (by omega))
    clear hD
    have htk := takeM_all hp
    refine W.reg ?_
    refine WL.y (R.load sca22 rfl (hS.blk3).r rfl) rfl ?_
    refine WL.y (R.asg (v := .slice _ _ _) rfl) rfl ?_
    refine WL.nil ?_
    refine W.ret ?_
    refine PR.mark (hS.raw0) ?_
    intro w8 hu8 hz8
    replace hX := hX.putU hu8 (fun k hk => by omega)
    replace hS := hS.endD hu8
    obtain ⟨_, ⟨hsl, rfl⟩, hfu⟩ := hS.get1
    exact PR.r1 rfl (.tmp rfl) ⟨⟨ao, co, by rw [htk]; rfl, by rw [htk]; exact hsl.ro, fun k hk => hU k (hfu k hk)⟩, hX⟩
  · skip
    rintro c pre WZ hpre ⟨rfl, ⟨ao, co⟩, hp, hX, hS⟩ hD
    try dsimp only at hX hS ⊢
    replace hS := hS.onD hD (hUn4 _ (by omega))
    clear hD
    have htk := takeM_pre hpre hp
    refine W.exit ?_
    refine W.reg ?_
    refine WL.y (R.load sca22 rfl (hS.blk3).r rfl) rfl ?_
    refine WL.y (R.asg (v := .slice _ _ _) rfl) rfl ?_
    refine WL.nil ?_
    refine W.ret ?_
    refine PR.mark (hS.raw0) ?_
    intro w9 hu9 hz9
    replace hX := hX.putU hu9 (fun k hk => by omega)
    replace hS := hS.endD hu9
    obtain ⟨_, ⟨hsl, rfl⟩, hfu⟩ := hS.get1
    exact PR.r1 rfl (.tmp rfl) ⟨⟨ao, co, by rw [htk]; rfl, by rw [htk]; exact hsl.ro, fun k hk => hU k (hfu k hk)⟩, hX⟩
end Go.Proofs.Ytkjecokkdbapkaa

namespace Go.Proofs.Ytkjecokkdbapkaa
set_option linter.all false
open Go Go.Eng Go.RowKit
set_option maxRecDepth 20000
set_option maxHeartbeats 2000000
set_option linter.unusedVariables false
set_option linter.unusedSimpArgs false
attribute [local irreducible] WL W QL WA SP



/-! ### The code's table and the document's hold the same -/
def aL (l : List (Option Ent)) (i : Nat) : Option (Vip × List Mem) := (l[i]?).join.map fun e => (e.v, e.p.last)
def aR (rl : List RE) (i : Nat) : Option (Vip × List Mem) := match rl[i]? with | some e => if e.u = true then some (e.v, e.ms) else none | none => none
structure Rel (l : List (Option Ent)) (rl : List RE) : Prop where
  l16 : l.length = 16
  r16 : rl.length ≤ 16
  same : ∀ i, aL l i = aR rl i
theorem idx_first {α : Type} {p : α → Bool} {l : List α} {i : Nat} (h : idx p l = i) {j : Nat} {x : α} (hj : j < i) (hx : l[j]? = some x) : p x = false := by
  obtain ⟨hl, e⟩ := List.getElem?_eq_some_iff.1 hx
  unfold idx at h
  split at h
  · have : j < l.findIdx p := by omega
    have := List.not_of_lt_findIdx this
    rw [e] at this
    simpa using this
  · omega
theorem idx_ptw {α β : Type} {p : α → Bool} {q : β → Bool} {l1 : List α} {l2 : List β} (h : ∀ i : Nat, (l1[i]?).any p = (l2[i]?).any q) : idx p l1 = idx q l2 := by
  by_cases h1 : idx p l1 < 0
  · have hn := idx_neg h1
    rw [idx_none (fun i x hx => hn i x hx), idx_none (fun i y hy => ?_)]
    have := h i
    rw [hy, Option.any_some] at this
    rw [← this]
    cases hx : l1[i]? with
    | none => rfl
    | some x => simp [hn i x hx]
  · obtain ⟨i, x, e1, hx, hp⟩ := idx_nonneg h1
    rw [e1]
    have hi := h i
    rw [hx, Option.any_some, hp] at hi
    cases hy : l2[i]? with
    | none => rw [hy] at hi; cases hi
    | some y =>
      rw [hy, Option.any_some] at hi
      refine (idx_hit ?_ hy hi.symm).symm
      rw [List.all_eq_true]
      intro z hz
      rw [List.mem_take_iff_getElem] at hz
      obtain ⟨j, hj, rfl⟩ := hz
      have hj2 := h j
      rw [List.getElem?_eq_getElem (show j < l2.length by omega), Option.any_some] at hj2
      rw [← hj2]
      cases hw : l1[j]? with
      | none => rfl
      | some w => simp [idx_first e1 (by omega) hw]
theorem filt_rng {α : Type} {p : α → Bool} {l : List α} : ∀ n, ((l.take n).filter p).length = ((List.range n).filter (fun i => (l[i]?).any p)).length
  | 0 => by simp
  | n + 1 => by
    rw [filt_succ, List.length_append, ← filt_rng n]
    cases hx : l[n]? with
    | none =>
      rw [List.getElem?_eq_none_iff] at hx
      rw [List.take_of_length_le (by omega), List.take_of_length_le (by omega)]
      simp
    | some x =>
      rw [take_snoc hx, List.filter_append, List.length_append]
      cases hp : p x <;> simp [hp]
theorem aL_some {l : List (Option Ent)} {k : Nat} {e : Ent} (h : l[k]? = some (some e)) : aL l k = some (e.v, e.p.last) := by simp [aL, h]
theorem aL_none {l : List (Option Ent)} {k : Nat} (h : l[k]? = some none) : aL l k = none := by simp [aL, h]
theorem aR_at {rl : List RE} {k : Nat} {e : RE} (h : rl[k]? = some e) : aR rl k = if e.u = true then some (e.v, e.ms) else none := by simp [aR, h]
theorem aR_out {rl : List RE} {k : Nat} (h : rl.length ≤ k) : aR rl k = none := by
  unfold aR; rw [List.getElem?_eq_none (by omega)]
theorem any_isV (l : List (Option Ent)) (v : Vip) (i : Nat) : (l[i]?).any (isV v) = (aL l i).any (fun y => decide (y.1 = v)) := by
  unfold aL
  cases h : l[i]? with
  | none => rfl
  | some o => cases o <;> simp [isV]
theorem any_isR (rl : List RE) (v : Vip) (i : Nat) : (rl[i]?).any (isR v) = (aR rl i).any (fun y => decide (y.1 = v)) := by
  unfold aR
  cases h : rl[i]? with
  | none => rfl
  | some e => cases hu : e.u <;> simp [isR, hu]
theorem any_used (rl : List RE) (i : Nat) : (rl[i]?).any (·.u) = (aR rl i).isSome := by
  unfold aR
  cases h : rl[i]? with
  | none => rfl
  | some e => cases hu : e.u <;> simp [hu]
theorem any_some (l : List (Option Ent)) (i : Nat) : (l[i]?).any Option.isSome = (aL l i).isSome := by
  unfold aL
  cases h : l[i]? with
  | none => rfl
  | some o => cases o <;> simp
theorem Rel.ix {l : List (Option Ent)} {rl : List RE} (h : Rel l rl) (v : Vip) : tIdx l v = rIdx rl v := by
  unfold tIdx rIdx
  exact idx_ptw fun i => by rw [any_isV, any_isR, h.same]
theorem Rel.count {l : List (Option Ent)} {rl : List RE} (h : Rel l rl) : count l = rCount rl := by
  unfold Ytkjecokkdbapkaa.count rCount
  have h1 := filt_rng (p := Option.isSome) (l := l) 16
  have h2 := filt_rng (p := fun e : RE => e.u) (l := rl) 16
  rw [List.take_of_length_le (by have := h.l16; omega)] at h1
  rw [List.take_of_length_le (by have := h.r16; omega)] at h2
  rw [h1, h2]
  congr 1
  exact List.filter_congr fun i _ => by rw [any_some, any_used, h.same]
theorem tHas_isSome (l : List (Option Ent)) (i : Int) : (tHas l i).isSome = (decide (0 ≤ i) && (aL l i.toNat).isSome) := by
  unfold tHas aL
  by_cases h : 0 ≤ i
  · rw [if_pos h]; simp [h]
  · rw [if_neg h]; simp [h]
theorem rIn_isSome (rl : List RE) (i : Int) : rIn rl i = (decide (0 ≤ i) && (aR rl i.toNat).isSome) := by
  unfold rIn aR
  congr 1
  cases h : rl[i.toNat]? with
  | none => rfl
  | some e => cases hu : e.u <;> simp [hu]
theorem Rel.has {l : List (Option Ent)} {rl : List RE} (h : Rel l rl) (i : Int) : (tHas l i).isSome = rIn rl i := by rw [tHas_isSome, rIn_isSome, h.same]
theorem Rel.get {l : List (Option Ent)} {rl : List RE} (h : Rel l rl) {i : Int} {e : Ent} (he : tHas l i = some e) : ∃ (k : Nat) (x : RE), i = k ∧ l[k]? = some (some e) ∧ rl[k]? = some x ∧ x.u = true ∧ x.v = e.v ∧ x.ms = e.p.last := by
  obtain ⟨k, rfl, hk⟩ := tHas_some he
  have h1 := h.same k
  rw [aL_some hk] at h1
  cases hx : rl[k]? with
  | none => unfold aR at h1; rw [hx] at h1; cases h1
  | some x =>
    rw [aR_at hx] at h1
    cases hu : x.u with
    | false => rw [hu] at h1; cases h1
    | true =>
      rw [hu, if_pos rfl] at h1
      injection h1 with h1
      injection h1 with h1 h2
      exact ⟨k, x, rfl, hk, hx ▸ rfl, hu, h1.symm, h2.symm⟩
theorem Rel.all {l : List (Option Ent)} {rl : List RE} (h : Rel l rl) : allL l = (List.range rl.length).filter (fun i => rIn rl (i : Nat)) := by
  unfold allL
  have hr := h.r16
  obtain ⟨d, hd⟩ : ∃ d, 16 = rl.length + d := ⟨16 - rl.length, by omega⟩
  rw [hd, List.range_add, List.filter_append]
  have : ((List.range d).map (rl.length + ·)).filter (fun n : Nat => (tHas l (n : Nat)).isSome) = [] := by
    rw [List.filter_eq_nil_iff]
    intro x hx
    obtain ⟨j, _, rfl⟩ := List.mem_map.1 hx
    rw [h.has, rIn_big (by omega)]
    decide
  rw [this, List.append_nil]
  exact List.filter_congr fun i _ => h.has _
theorem rFree_le (rl : List RE) : rFree rl ≤ rl.length := List.findIdx_le_length
theorem rFree_used {rl : List RE} {j : Nat} {x : RE} (h : j < rFree rl) (hx : rl[j]? = some x) : x.u = true := by
  obtain ⟨hl, e⟩ := List.getElem?_eq_some_iff.1 hx
  have := List.not_of_lt_findIdx h
  rw [e] at this
  simpa using this
theorem rFree_aR {rl : List RE} : aR rl (rFree rl) = none := by
  by_cases h : rFree rl < rl.length
  · rw [aR_at (List.getElem?_eq_getElem h)]
    have := List.findIdx_getElem (w := h) (p := fun x : RE => !x.u) (xs := rl)
    simp only [Bool.not_eq_true'] at this
    rw [show rl[rFree rl].u = false from this]; rfl
  · exact aR_out (by omega)
theorem Rel.free {l : List (Option Ent)} {rl : List RE} (h : Rel l rl) (hf : rFree rl < 16) : idx Option.isNone l = rFree rl ∧ l[rFree rl]? = some none := by
  have h16 := h.l16
  have hg : l[rFree rl]? = some none := by
    have h1 := h.same (rFree rl)
    rw [rFree_aR] at h1
    unfold aL at h1
    rw [List.getElem?_eq_getElem (by omega)] at h1 ⊢
    cases ho : l[rFree rl] with
    | none => rfl
    | some e => rw [ho] at h1; cases h1
  refine ⟨idx_hit (x := none) ?_ hg rfl, hg⟩
  rw [List.all_eq_true]
  intro z hz
  rw [List.mem_take_iff_getElem] at hz
  obtain ⟨j, hj, rfl⟩ := hz
  have hjl := rFree_le rl
  have hu := rFree_used (show j < rFree rl by omega) (List.getElem?_eq_getElem (show j < rl.length by omega))
  have h1 := h.same j
  rw [aR_at (List.getElem?_eq_getElem (show j < rl.length by omega)), hu, if_pos rfl] at h1
  unfold aL at h1
  rw [List.getElem?_eq_getElem (show j < l.length by omega)] at h1
  cases ho : l[j] with
  | none => rw [ho] at h1; cases h1
  | some e => rfl
theorem Rel.full {l : List (Option Ent)} {rl : List RE} (h : Rel l rl) (hf : 16 ≤ rFree rl) : idx Option.isNone l < 0 := by
  have hr := h.r16
  have hle := rFree_le rl
  rw [idx_none (fun i x hx => ?_)]
  · decide
  have hi := (List.getElem?_eq_some_iff.1 hx).1
  have h16 := h.l16
  have hu := rFree_used (show i < rFree rl by omega) (List.getElem?_eq_getElem (show i < rl.length by omega))
  have h1 := h.same i
  rw [aR_at (List.getElem?_eq_getElem (show i < rl.length by omega)), hu, if_pos rfl] at h1
  unfold aL at h1
  rw [hx] at h1
  cases x with
  | none => cases h1
  | some e => rfl
theorem Rel.err {l : List (Option Ent)} {rl : List RE} (h : Rel l rl) (c : Cfg) (v : Vip) (ms : List Mem) : addErr c l v ms = rAddErr c rl v ms := by
  unfold addErr rAddErr
  rw [h.ix]
  by_cases hf : rFree rl < 16
  · rw [(h.free hf).1, if_neg (show ¬ ((rFree rl : Nat) : Int) < 0 by omega), if_neg (show ¬ 16 ≤ rFree rl by omega)]
  · rw [if_pos (h.full (by omega)), if_pos (show 16 ≤ rFree rl by omega)]
theorem rErr_0 {c : Cfg} {rl : List RE} {v : Vip} {ms : List Mem} (h : rAddErr c rl v ms = 0) : vipOK v = true ∧ memsOK ms = true ∧ (!c.encap && kinds v ms) = !true ∧ rIdx rl v < 0 ∧ rFree rl < 16 := by
  unfold rAddErr at h
  split at h
  · cases h
  · rename_i h1
    split at h
    · cases h
    · rename_i h2
      split at h
      · cases h
      · rename_i h3
        split at h
        · cases h
        · rename_i h4
          simp only [Bool.not_eq_false, Bool.and_eq_true] at h1
          exact ⟨h1.1, h1.2, by simpa using h2, by omega, by omega⟩
theorem Rel.put {l : List (Option Ent)} {rl : List RE} (h : Rel l rl) (hf : rFree rl < 16) (v : Vip) (b : Nat) (p : PSt) (q : Option Addr) : Rel (l.set (rFree rl) (some ⟨v, b, p⟩)) (rPut rl (rFree rl) ⟨true, v, q, p.last⟩) := by
  have h16 := h.l16
  have hr := h.r16
  have hle := rFree_le rl
  refine ⟨by simpa using h16, ?_, fun i => ?_⟩
  · unfold rPut; split
    · simpa using hr
    · simp; omega
  · have e1 : aL (l.set (rFree rl) (some ⟨v, b, p⟩)) i = if i = rFree rl then some (v, p.last) else aL l i := by
      by_cases e : i = rFree rl
      · subst e; rw [if_pos rfl]; exact aL_some (List.getElem?_set_self (by omega))
      · rw [if_neg e]; unfold aL; rw [List.getElem?_set_ne (Ne.symm e)]
    rw [e1, h.same]
    unfold rPut
    by_cases e : i = rFree rl
    · subst e
      rw [if_pos rfl]
      split
      · rw [aR_at (List.getElem?_set_self (by omega))]; rfl
      · rw [aR_at (e := ⟨true, v, q, p.last⟩) (by rw [show rFree rl = rl.length by omega]; simp)]; rfl
    · rw [if_neg e]
      split
      · unfold aR; rw [List.getElem?_set_ne (Ne.symm e)]
      · rcases Nat.lt_or_ge i rl.length with hl | hl
        · unfold aR; rw [List.getElem?_append_left hl]
        · rw [aR_out hl, aR_out (by simp; omega)]
theorem Rel.del {l : List (Option Ent)} {rl : List RE} (h : Rel l rl) {k : Nat} {x : RE} (hx : rl[k]? = some x) : Rel (l.set k none) (rl.set k re0) := by
  have h16 := h.l16
  have hr := h.r16
  have hk := (List.getElem?_eq_some_iff.1 hx).1
  refine ⟨by simpa using h16, by simpa using hr, fun i => ?_⟩
  by_cases e : i = k
  · subst e
    rw [aL_none (List.getElem?_set_self (by omega)), aR_at (List.getElem?_set_self (by omega))]; rfl
  · have h1 := h.same i
    unfold aL aR at h1 ⊢
    rw [List.getElem?_set_ne (Ne.symm e), List.getElem?_set_ne (Ne.symm e)]
    exact h1
theorem Rel.nil : Rel l0 [] := ⟨rfl, by decide, fun i => by
  rw [aR_out (Nat.zero_le _)]
  unfold aL
  rw [List.getElem?_replicate]
  split <;> rfl⟩

theorem rAdd_err (F : Nat → Prop) (b : Nat) (c : Cfg) (rl : List RE) (aE : Option Addr) (cE : Nat) (w : World) (H : RTab w F b c rl aE cE) (v : Vip) (ms : List Mem) (h63 : ms.length ≤ 1000000000) (a : Option Addr) (cc : Nat) (hM : Sli encMem 19 w a cc ms) (he : rAddErr c rl v ms ≠ 0) : CallV Try.prog 55 #[.pointer (some ⟨b, 0, none⟩), encVv v, .slice a ms.length cc] w fun r w' => r = .tuple #[i64 0, i64 (rAddErr c rl v ms)] ∧ Ext w w' := by
  cases hv : vipOK v with
  | false => rw [show rAddErr c rl v ms = 1 by simp [rAddErr, hv]]; exact rAdd_bad1 F b c rl aE cE w H v ms h63 a cc hM hv
  | true =>
  cases hm : memsOK ms with
  | false => rw [show rAddErr c rl v ms = 1 by simp [rAddErr, hv, hm]]; exact rAdd_bad2 F b c rl aE cE w H v ms h63 a cc hM hv hm
  | true =>
  cases hk : (!c.encap && kinds v ms) with
  | true => rw [show rAddErr c rl v ms = 1 by unfold rAddErr; rw [hv, hm, hk]; rfl]; exact rAdd_bad3 F b c rl aE cE w H v ms h63 a cc hM hv hm hk
  | false =>
  by_cases ht : rIdx rl v < 0
  · by_cases hf : 16 ≤ rFree rl
    · rw [show rAddErr c rl v ms = 3 by unfold rAddErr; rw [hv, hm, hk]; simp [ht, hf]]; exact rAdd_full F b c rl aE cE w H v ms h63 a cc hM hv hm hk ht hf
    · exact absurd (by unfold rAddErr; rw [hv, hm, hk]; simp [ht, hf]) he
  · rw [show rAddErr c rl v ms = 6 by unfold rAddErr; rw [hv, hm, hk]; simp [ht]]; exact rAdd_have F b c rl aE cE w H v ms h63 a cc hM hv hm hk ht
end Go.Proofs.Ytkjecokkdbapkaa

namespace Go.Proofs.Ytkjecokkdbapkaa
set_option linter.all false
open Go Go.Eng Go.RowKit
set_option maxRecDepth 20000
set_option maxHeartbeats 2000000
set_option linter.unusedVariables false
set_option linter.unusedSimpArgs false
attribute [local irreducible] WL W QL WA SP



theorem flat_same {α : Type} {enc : α → List Value} {sz : Nat} (E : Enc enc sz) {l : List α} {k : Nat} {x y : α} (h : l[k]? = some x) (e : enc y = enc x) : (l.set k y).flatMap enc = l.flatMap enc := by
  have hlt := (List.getElem?_eq_some_iff.1 h).1
  rw [← flat_set E l k y hlt, e]
  refine putAt_take_drop ?_ ?_
  · rw [flat_len E, E.len]
    have : (k + 1) * sz ≤ l.length * sz := Nat.mul_le_mul_right _ hlt
    rw [Nat.add_mul] at this; omega
  · rw [E.len]; exact flat_at E l k x h
/-- A pool of the table is turned. -/
theorem TabAt.pool {w : World} {F : Nat → Prop} {bt : Nat} {c : Cfg} {l : List (Option Ent)} {k : Nat} {e : Ent} (h : TabAt w F bt c l) (he : l[k]? = some (some e)) :
    ∃ Fo, PoolAt w Fo e.b c e.p ∧ (∀ j, Fo j → F j) ∧ ∀ {w' : World} {F2 : Nat → Prop} {p' : PSt}, Upd Fo w w' → PoolAt w' F2 e.b c p' → (∀ j, F2 j → Fo j ∨ w.heap.size ≤ j) →
      ∃ F3, TabAt w' F3 bt c (l.set k (some ⟨e.v, e.b, p'⟩)) ∧ ∀ j, F3 j → F j ∨ w.heap.size ≤ j := by
  obtain ⟨bm, cs, ml, Fs, H⟩ := h
  refine ⟨Fs k, (H.pool k e he).1, fun j hj => ((H.pool k e he).2 j hj).1, fun {w' F2 p'} hu hQ hF2 => ?_⟩
  have hlt := (List.getElem?_eq_some_iff.1 he).1
  have hk := fun j hj => (H.pool k e he).2 j hj
  have hget : ∀ {i : Nat} {q : Ent}, (l.set k (some ⟨e.v, e.b, p'⟩))[i]? = some (some q) → (i = k ∧ q = ⟨e.v, e.b, p'⟩) ∨ (i ≠ k ∧ l[i]? = some (some q)) := fun h => by
    rcases set_cases h with ⟨h1, h2⟩ | h2
    · exact .inl ⟨h1, Option.some.inj h2⟩
    · exact .inr h2
  refine ⟨fun j => F j ∨ F2 j, ⟨bm, cs, ml, fun i j => if i = k then F2 j else Fs i j, ?_⟩, fun j hj => ?_⟩
  · refine { arr := ⟨hu.blk (fun h => (hk _ h).2.1 rfl) H.arr.blk, by simpa using H.arr.le, H.arr.room, ?_⟩, len := by simpa using H.len, clen := H.clen, cfg := H.cfg, map := H.map, mp := hu.map (fun h => (hk _ h).2.2 rfl) H.mp, rel := fun v => ?_,
             mlen := ?_, uniq := ?_, pool := ?_, disj := ?_, ft := .inl H.ft, fm := .inl H.fm, ne := H.ne, lt := ?_, ok := H.ok }
    · rw [List.length_set, H.arr.flat]; exact (flat_same encEE he (y := some ⟨e.v, e.b, p'⟩) rfl).symm
    · rw [H.rel v]
      have : tIdx (l.set k (some ⟨e.v, e.b, p'⟩)) v = tIdx l v := idx_set_same he rfl
      rw [this]
    · have := count_set (x := some ⟨e.v, e.b, p'⟩) he
      simp at this
      rw [H.mlen, this]
    · intro i j q q' h1 h2 hv
      rcases hget h1 with ⟨rfl, rfl⟩ | ⟨hi, g1⟩ <;> rcases hget h2 with ⟨rfl, rfl⟩ | ⟨hj, g2⟩
      · rfl
      · exact H.uniq _ _ _ _ he g2 hv
      · exact H.uniq _ _ _ _ g1 he hv
      · exact H.uniq _ _ _ _ g1 g2 hv
    · intro i q h1
      rcases hget h1 with ⟨rfl, rfl⟩ | ⟨hi, g1⟩
      · simp only [if_true]
        refine ⟨hQ, fun j hj => ⟨.inr hj, ?_, ?_⟩⟩
        · intro e'; subst e'
          rcases hF2 _ hj with h | h
          · exact (hk _ h).2.1 rfl
          · have := H.lt _ H.ft; omega
        · intro e'; subst e'
          rcases hF2 _ hj with h | h
          · exact (hk _ h).2.2 rfl
          · have := H.lt _ H.fm; omega
      · simp only [hi, if_false]
        exact ⟨(H.pool i q g1).1.upd hu fun j hj hs => hi (H.disj i k j q e g1 he hj hs), fun j hj => ⟨.inl ((H.pool i q g1).2 j hj).1, ((H.pool i q g1).2 j hj).2⟩⟩
    · intro i j t q q' h1 h2 hk1 hk2
      rcases hget h1 with ⟨rfl, rfl⟩ | ⟨hi, g1⟩ <;> rcases hget h2 with ⟨rfl, rfl⟩ | ⟨hj, g2⟩
      · rfl
      · simp only [if_true, hj, if_false] at hk1 hk2
        rcases hF2 _ hk1 with h | h
        · exact H.disj _ _ _ _ _ he g2 h hk2
        · have := H.lt _ ((H.pool j q' g2).2 t hk2).1; omega
      · simp only [if_true, hi, if_false] at hk1 hk2
        rcases hF2 _ hk2 with h | h
        · exact H.disj _ _ _ _ _ g1 he hk1 h
        · have := H.lt _ ((H.pool i q g1).2 t hk1).1; omega
      · simp only [hi, hj, if_false] at hk1 hk2
        exact H.disj _ _ _ _ _ g1 g2 hk1 hk2
    · rintro j (hj | hj)
      · exact Nat.lt_of_lt_of_le (H.lt j hj) hu.size
      · exact hQ.lt j hj
  · rcases hj with hj | hj
    · exact .inl hj
    · rcases hF2 j hj with h | h
      · exact .inl (hk j h).1
      · exact .inr h
/-! ### VipsPools -/

theorem Sli.takeL {α : Type} {enc : α → List Value} {sz : Nat} (E : Enc enc sz) {w : World} {a : Option Addr} {c : Nat} {xs : List α} (h : Sli enc sz w a c xs) (k : Nat) : Sli enc sz w a c (xs.take k) := by
  rcases h with ⟨h1, h2⟩ | ⟨g, off, cs, e, ho⟩
  · exact .inl ⟨h1, by rw [h2]; simp⟩
  · refine .inr ⟨g, off, cs, e, ho.blk, Nat.le_trans (by simp; omega) ho.le, ho.room, ?_⟩
    have e1 : xs.flatMap enc = (xs.take k).flatMap enc ++ (xs.drop k).flatMap enc := by rw [← List.flatMap_append, List.take_append_drop]
    have e2 := congrArg (List.take ((xs.take k).length * sz)) (ho.flat.trans e1)
    rw [List.take_take, Nat.min_eq_left (Nat.mul_le_mul_right sz (by simp; omega)), List.take_left' (flat_len E _)] at e2
    exact e2
theorem Sli.lec {α : Type} {enc : α → List Value} {sz : Nat} {w : World} {a : Option Addr} {c : Nat} {xs : List α} (h : Sli enc sz w a c xs) : xs.length ≤ c := by
  rcases h with ⟨h1, h2⟩ | ⟨g, off, cs, e, ho⟩
  · rw [h1, h2]; exact Nat.le_refl _
  · exact ho.le


end Go.Proofs.Ytkjecokkdbapkaa
