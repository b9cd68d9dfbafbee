import Derived.Test.YtkjecokkdbapkaaZzRef1
import Derived.Test.YtkjecokkdbapkaaProg
namespace Go.Proofs.Ytkjecokkdbapkaa
set_option linter.all false
open Go Go.Eng Go.RowKit
set_option maxRecDepth 20000
set_option maxHeartbeats 2000000
set_option linter.unusedVariables false
set_option linter.unusedSimpArgs false
attribute [local irreducible] WL W QL WA SP



theorem rwithin_T (n lo hi : Int) (w : World) (h1 : lo ≤ n) (h2 : n ≤ hi) : CallV Try.prog 166 #[i64 n, i64 lo, i64 hi] w fun v w' => v = bl true ∧ w' = w := by
  refine Calls.of_W (N := 15) Try.func166 rfl rfl rfl ?_
  refine W.reg ?_
  refine WL.y (R.asg (v := .bool false) rfl) rfl ?_
  refine WL.nil ?_
  refine W.reg ?_
  refine WL.y (R.mv (v := .int _ _) rfl) rfl ?_
  refine WL.y (R.mv (v := .int _ _) rfl) rfl ?_
  refine WL.y (R.geqT rfl rfl h1) rfl ?_
  refine WL.y (R.mv (v := .bool true) rfl) rfl ?_
  refine WL.y (R.mv (v := .int _ _) rfl) rfl ?_
  refine WL.y (R.mv (v := .int _ _) rfl) rfl ?_
  refine WL.y (R.leqT rfl rfl h2) rfl ?_
  refine WL.y (R.pkT (v := .bool true) rfl rfl) rfl ?_
  refine WL.y (R.asg (v := .bool true) rfl) rfl ?_
  refine WL.nil ?_
  refine W.ret ?_
  exact PR.r1 rfl (.tmp rfl) ⟨rfl, rfl⟩

theorem rpower_T (n lo hi : Int) (w : World) (h1 : lo ≤ n) (h2 : n ≤ hi) (k : Nat) (hk : k < 17) (hp : n = ((2 ^ k : Nat) : Int)) : CallV Try.prog 167 #[i64 n, i64 lo, i64 hi] w fun v w' => v = bl true ∧ w' = w := by
  subst hp
  have hb : (0 : Int) < ((2 ^ k : Nat) : Int) := by have : 0 < 2 ^ k := Nat.pow_pos (by omega); omega
  have hb2 : ((2 ^ k : Nat) : Int) ≤ 65536 := by have : 2 ^ k ≤ 2 ^ 16 := Nat.pow_le_pow_right (by omega) (by omega); omega
  refine Calls.of_W (N := 22) Try.func167 rfl rfl rfl ?_
  refine W.reg ?_
  refine WL.y (R.asg (v := .bool false) rfl) rfl ?_
  refine WL.nil ?_
  refine W.reg ?_
  refine WL.y (R.mv (v := .int _ _) rfl) rfl ?_
  refine WL.y (R.mv (v := .int _ _) rfl) rfl ?_
  refine WL.y (R.geqT rfl rfl h1) rfl ?_
  refine WL.y (R.mv (v := .bool true) rfl) rfl ?_
  refine WL.y (R.mv (v := .int _ _) rfl) rfl ?_
  refine WL.y (R.mv (v := .int _ _) rfl) rfl ?_
  refine WL.y (R.leqT rfl rfl h2) rfl ?_
  refine WL.y (R.pkT (v := .bool true) rfl rfl) rfl ?_
  refine WL.y (R.mv (v := .bool true) rfl) rfl ?_
  refine WL.y (R.mv (v := .int _ _) rfl) rfl ?_
  refine WL.y (R.mv (v := .int _ _) rfl) rfl ?_
  refine WL.y (R.subI rfl rfl (by omega)) rfl ?_
  refine WL.y (R.bits rfl rfl rfl (and_pow k hk _ _)) rfl ?_
  refine WL.y (R.eqlT rfl rfl rfl) rfl ?_
  refine WL.y (R.pkT (v := .bool true) rfl rfl) rfl ?_
  refine WL.y (R.asg (v := .bool true) rfl) rfl ?_
  refine WL.nil ?_
  refine W.ret ?_
  exact PR.r1 rfl (.tmp rfl) ⟨rfl, rfl⟩

theorem refCheck_f (c : Cfg) (h : CfgOK c) (he : c.encap = false) (w : World) : CallV Try.prog 120 #[.agg (encCfg c).toArray] w fun v w' => v = bl true ∧ Ext w w' := by
  have hX : Ext w w := Ext.rfl' w
  have hU : ∀ k, (fun k => w.heap.size ≤ k) k → w.heap.size ≤ k := fun _ h => h
  have hS : Star (fun k => w.heap.size ≤ k) w [] := Star.nil fun _ h => h
  generalize (fun k => w.heap.size ≤ k) = U at hU hS
  obtain ⟨ks, hks1, hks⟩ := h.sizeP
  obtain ⟨kb, hkb1, hkb⟩ := h.bloomP
  refine Calls.of_W (N := 87) Try.func120 rfl rfl rfl ?_
  refine W.reg ?_
  refine WL.box (v := .agg _) rfl rfl rfl ?_
  intro b1 w1 hb1 hs1 hx1 hB1
  replace hS := hS.pushBox hb1 hx1 hB1
  replace hX := hX.tr hx1
  clear hB1 hs1
  refine WL.y (R.asg (v := .bool false) rfl) rfl ?_
  refine WL.nil ?_
  refine W.reg ?_
  refine WL.y (R.fieldAddr fo33_0 rfl) rfl ?_
  refine WL.y (R.load sca3 rfl (hS.blk0).r rfl) rfl ?_
  refine WL.call Try.func166 rfl rfl (rwithin_T _ _ _ _ h.stages.1 h.stages.2) rfl rfl ?_
  rintro _ _ ⟨rfl, rfl⟩
  refine WL.y (R.mv (v := .bool true) rfl) rfl ?_
  refine WL.y (R.fieldAddr fo33_1 rfl) rfl ?_
  refine WL.y (R.load sca3 rfl (hS.blk0).r rfl) rfl ?_
  refine WL.call Try.func167 rfl rfl (rpower_T _ _ _ _ h.size.1 h.size.2 ks (by omega) hks) rfl rfl ?_
  rintro _ _ ⟨rfl, rfl⟩
  refine WL.y (R.pkT (v := .bool true) rfl rfl) rfl ?_
  refine WL.y (R.mv (v := .bool true) rfl) rfl ?_
  refine WL.y (R.fieldAddr fo33_2 rfl) rfl ?_
  refine WL.y (R.load sca3 rfl (hS.blk0).r rfl) rfl ?_
  refine WL.call Try.func166 rfl rfl (rwithin_T _ _ _ _ h.digest.1 h.digest.2) rfl rfl ?_
  rintro _ _ ⟨rfl, rfl⟩
  refine WL.y (R.pkT (v := .bool true) rfl rfl) rfl ?_
  refine WL.y (R.mv (v := .bool true) rfl) rfl ?_
  refine WL.y (R.fieldAddr fo33_3 rfl) rfl ?_
  refine WL.y (R.load sca3 rfl (hS.blk0).r rfl) rfl ?_
  refine WL.call Try.func167 rfl rfl (rpower_T _ _ _ _ h.bloom.1 h.bloom.2 kb (by omega) hkb) rfl rfl ?_
  rintro _ _ ⟨rfl, rfl⟩
  refine WL.y (R.pkT (v := .bool true) rfl rfl) rfl ?_
  refine WL.y (R.mv (v := .bool true) rfl) rfl ?_
  refine WL.y (R.fieldAddr fo33_4 rfl) rfl ?_
  refine WL.y (R.load sca3 rfl (hS.blk0).r rfl) rfl ?_
  refine WL.call Try.func166 rfl rfl (rwithin_T _ _ _ _ h.hashes.1 h.hashes.2) rfl rfl ?_
  rintro _ _ ⟨rfl, rfl⟩
  refine WL.y (R.pkT (v := .bool true) rfl rfl) rfl ?_
  refine WL.y (R.mv (v := .bool true) rfl) rfl ?_
  refine WL.y (R.fieldAddr fo33_5 rfl) rfl ?_
  refine WL.y (R.load sca3 rfl (hS.blk0).r rfl) rfl ?_
  refine WL.call Try.func166 rfl rfl (rwithin_T _ _ _ _ h.slots.1 h.slots.2) rfl rfl ?_
  rintro _ _ ⟨rfl, rfl⟩
  refine WL.y (R.pkT (v := .bool true) rfl rfl) rfl ?_
  refine WL.y (R.mv (v := .bool true) rfl) rfl ?_
  refine WL.y (R.fieldAddr fo33_6 rfl) rfl ?_
  refine WL.y (R.load sca3 rfl (hS.blk0).r rfl) rfl ?_
  refine WL.call Try.func166 rfl rfl (rwithin_T _ _ _ _ h.versions.1 h.versions.2) rfl rfl ?_
  rintro _ _ ⟨rfl, rfl⟩
  refine WL.y (R.pkT (v := .bool true) rfl rfl) rfl ?_
  refine WL.y (R.mv (v := .bool true) rfl) rfl ?_
  refine WL.y (R.fieldAddr fo33_7 rfl) rfl ?_
  refine WL.y (R.load sca3 rfl (hS.blk0).r rfl) rfl ?_
  refine WL.call Try.func166 rfl rfl (rwithin_T _ _ _ _ h.queue.1 h.queue.2) rfl rfl ?_
  rintro _ _ ⟨rfl, rfl⟩
  refine WL.y (R.pkT (v := .bool true) rfl rfl) rfl ?_
  refine WL.y (R.mv (v := .bool true) rfl) rfl ?_
  refine WL.y (R.fieldAddr fo33_8 rfl) rfl ?_
  refine WL.y (R.load sca3 rfl (hS.blk0).r rfl) rfl ?_
  refine WL.call Try.func166 rfl rfl (rwithin_T _ _ _ _ h.evict.1 h.evict.2) rfl rfl ?_
  rintro _ _ ⟨rfl, rfl⟩
  refine WL.y (R.pkT (v := .bool true) rfl rfl) rfl ?_
  refine WL.y (R.mv (v := .bool true) rfl) rfl ?_
  refine WL.y (R.fieldAddr fo33_9 rfl) rfl ?_
  refine WL.y (R.load sca3 rfl (hS.blk0).r rfl) rfl ?_
  refine WL.call Try.func166 rfl rfl (rwithin_T _ _ _ _ h.idle.1 h.idle.2) rfl rfl ?_
  rintro _ _ ⟨rfl, rfl⟩
  refine WL.y (R.pkT (v := .bool true) rfl rfl) rfl ?_
  refine WL.y (R.mv (v := .bool true) rfl) rfl ?_
  refine WL.y (R.fieldAddr fo33_10 rfl) rfl ?_
  refine WL.y (R.load sca3 rfl (hS.blk0).r rfl) rfl ?_
  refine WL.call Try.func166 rfl rfl (rwithin_T _ _ _ _ h.linger.1 h.linger.2) rfl rfl ?_
  rintro _ _ ⟨rfl, rfl⟩
  refine WL.y (R.pkT (v := .bool true) rfl rfl) rfl ?_
  refine WL.y (R.mv (v := .bool true) rfl) rfl ?_
  refine WL.y (R.fieldAddr fo33_11 rfl) rfl ?_
  refine WL.y (R.load sca3 rfl (hS.blk0).r rfl) rfl ?_
  refine WL.call Try.func166 rfl rfl (rwithin_T _ _ _ _ h.fails.1 h.fails.2) rfl rfl ?_
  rintro _ _ ⟨rfl, rfl⟩
  refine WL.y (R.pkT (v := .bool true) rfl rfl) rfl ?_
  refine WL.y (R.mv (v := .bool true) rfl) rfl ?_
  refine WL.y (R.fieldAddr fo33_13 rfl) rfl ?_
  refine WL.y (R.loadA agg30 rfl (hS.blk0).r rfl rfl) rfl ?_
  refine WL.call Try.func129 rfl rfl ((refValid_calls adr0 _).val (y := bl true) rfl) rfl rfl ?_
  rintro _ w14 ⟨rfl, hx14⟩
  replace hS := hS.ext hx14
  replace hX := hX.tr hx14
  refine WL.y (R.pkT (v := .bool true) rfl rfl) rfl ?_
  refine WL.y (R.mv (v := .bool true) rfl) rfl ?_
  refine WL.y (R.fieldAddr fo33_14 rfl) rfl ?_
  refine WL.y (R.loadA agg30 rfl (hS.blk0).r rfl rfl) rfl ?_
  refine WL.call Try.func129 rfl rfl ((refValid_calls ⟨c.six, b0⟩ _).val (y := bl true) (by rw [adrOK_b0])) rfl rfl ?_
  rintro _ w15 ⟨rfl, hx15⟩
  replace hS := hS.ext hx15
  replace hX := hX.tr hx15
  refine WL.y (R.pkT (v := .bool true) rfl rfl) rfl ?_
  refine WL.y (R.mv (v := .bool true) rfl) rfl ?_
  refine WL.y (R.fieldAddr fo33_12 rfl) rfl ?_
  refine WL.y (R.load (v := bl false) sca4 rfl (hS.blk0).r (by rw [← he]; rfl)) rfl ?_
  refine WL.y (R.notF rfl) rfl ?_
  refine WL.y (R.mv (v := .bool true) rfl) rfl ?_
  refine WL.skip rfl ?_
  refine WL.skip rfl ?_
  refine WL.skip rfl ?_
  refine WL.skip rfl ?_
  refine WL.skip rfl ?_
  refine WL.skip rfl ?_
  refine WL.skip rfl ?_
  refine WL.skip rfl ?_
  refine WL.skip rfl ?_
  refine WL.y (R.pkT (v := .bool true) rfl rfl) rfl ?_
  refine WL.y (R.pkT (v := .bool true) rfl rfl) rfl ?_
  refine WL.y (R.asg (v := .bool true) rfl) rfl ?_
  refine WL.nil ?_
  refine W.ret ?_
  exact PR.r1 rfl (.tmp rfl) ⟨rfl, hX⟩

theorem refCheck_t (c : Cfg) (h : CfgOK c) (he : c.encap = true) (w : World) : CallV Try.prog 120 #[.agg (encCfg c).toArray] w fun v w' => v = bl true ∧ Ext w w' := by
  have hX : Ext w w := Ext.rfl' w
  have hU : ∀ k, (fun k => w.heap.size ≤ k) k → w.heap.size ≤ k := fun _ h => h
  have hS : Star (fun k => w.heap.size ≤ k) w [] := Star.nil fun _ h => h
  generalize (fun k => w.heap.size ≤ k) = U at hU hS
  obtain ⟨ks, hks1, hks⟩ := h.sizeP
  obtain ⟨kb, hkb1, hkb⟩ := h.bloomP
  refine Calls.of_W (N := 87) Try.func120 rfl rfl rfl ?_
  refine W.reg ?_
  refine WL.box (v := .agg _) rfl rfl rfl ?_
  intro b1 w1 hb1 hs1 hx1 hB1
  replace hS := hS.pushBox hb1 hx1 hB1
  replace hX := hX.tr hx1
  clear hB1 hs1
  refine WL.y (R.asg (v := .bool false) rfl) rfl ?_
  refine WL.nil ?_
  refine W.reg ?_
  refine WL.y (R.fieldAddr fo33_0 rfl) rfl ?_
  refine WL.y (R.load sca3 rfl (hS.blk0).r rfl) rfl ?_
  refine WL.call Try.func166 rfl rfl (rwithin_T _ _ _ _ h.stages.1 h.stages.2) rfl rfl ?_
  rintro _ _ ⟨rfl, rfl⟩
  refine WL.y (R.mv (v := .bool true) rfl) rfl ?_
  refine WL.y (R.fieldAddr fo33_1 rfl) rfl ?_
  refine WL.y (R.load sca3 rfl (hS.blk0).r rfl) rfl ?_
  refine WL.call Try.func167 rfl rfl (rpower_T _ _ _ _ h.size.1 h.size.2 ks (by omega) hks) rfl rfl ?_
  rintro _ _ ⟨rfl, rfl⟩
  refine WL.y (R.pkT (v := .bool true) rfl rfl) rfl ?_
  refine WL.y (R.mv (v := .bool true) rfl) rfl ?_
  refine WL.y (R.fieldAddr fo33_2 rfl) rfl ?_
  refine WL.y (R.load sca3 rfl (hS.blk0).r rfl) rfl ?_
  refine WL.call Try.func166 rfl rfl (rwithin_T _ _ _ _ h.digest.1 h.digest.2) rfl rfl ?_
  rintro _ _ ⟨rfl, rfl⟩
  refine WL.y (R.pkT (v := .bool true) rfl rfl) rfl ?_
  refine WL.y (R.mv (v := .bool true) rfl) rfl ?_
  refine WL.y (R.fieldAddr fo33_3 rfl) rfl ?_
  refine WL.y (R.load sca3 rfl (hS.blk0).r rfl) rfl ?_
  refine WL.call Try.func167 rfl rfl (rpower_T _ _ _ _ h.bloom.1 h.bloom.2 kb (by omega) hkb) rfl rfl ?_
  rintro _ _ ⟨rfl, rfl⟩
  refine WL.y (R.pkT (v := .bool true) rfl rfl) rfl ?_
  refine WL.y (R.mv (v := .bool true) rfl) rfl ?_
  refine WL.y (R.fieldAddr fo33_4 rfl) rfl ?_
  refine WL.y (R.load sca3 rfl (hS.blk0).r rfl) rfl ?_
  refine WL.call Try.func166 rfl rfl (rwithin_T _ _ _ _ h.hashes.1 h.hashes.2) rfl rfl ?_
  rintro _ _ ⟨rfl, rfl⟩
  refine WL.y (R.pkT (v := .bool true) rfl rfl) rfl ?_
  refine WL.y (R.mv (v := .bool true) rfl) rfl ?_
  refine WL.y (R.fieldAddr fo33_5 rfl) rfl ?_
  refine WL.y (R.load sca3 rfl (hS.blk0).r rfl) rfl ?_
  refine WL.call Try.func166 rfl rfl (rwithin_T _ _ _ _ h.slots.1 h.slots.2) rfl rfl ?_
  rintro _ _ ⟨rfl, rfl⟩
  refine WL.y (R.pkT (v := .bool true) rfl rfl) rfl ?_
  refine WL.y (R.mv (v := .bool true) rfl) rfl ?_
  refine WL.y (R.fieldAddr fo33_6 rfl) rfl ?_
  refine WL.y (R.load sca3 rfl (hS.blk0).r rfl) rfl ?_
  refine WL.call Try.func166 rfl rfl (rwithin_T _ _ _ _ h.versions.1 h.versions.2) rfl rfl ?_
  rintro _ _ ⟨rfl, rfl⟩
  refine WL.y (R.pkT (v := .bool true) rfl rfl) rfl ?_
  refine WL.y (R.mv (v := .bool true) rfl) rfl ?_
  refine WL.y (R.fieldAddr fo33_7 rfl) rfl ?_
  refine WL.y (R.load sca3 rfl (hS.blk0).r rfl) rfl ?_
  refine WL.call Try.func166 rfl rfl (rwithin_T _ _ _ _ h.queue.1 h.queue.2) rfl rfl ?_
  rintro _ _ ⟨rfl, rfl⟩
  refine WL.y (R.pkT (v := .bool true) rfl rfl) rfl ?_
  refine WL.y (R.mv (v := .bool true) rfl) rfl ?_
  refine WL.y (R.fieldAddr fo33_8 rfl) rfl ?_
  refine WL.y (R.load sca3 rfl (hS.blk0).r rfl) rfl ?_
  refine WL.call Try.func166 rfl rfl (rwithin_T _ _ _ _ h.evict.1 h.evict.2) rfl rfl ?_
  rintro _ _ ⟨rfl, rfl⟩
  refine WL.y (R.pkT (v := .bool true) rfl rfl) rfl ?_
  refine WL.y (R.mv (v := .bool true) rfl) rfl ?_
  refine WL.y (R.fieldAddr fo33_9 rfl) rfl ?_
  refine WL.y (R.load sca3 rfl (hS.blk0).r rfl) rfl ?_
  refine WL.call Try.func166 rfl rfl (rwithin_T _ _ _ _ h.idle.1 h.idle.2) rfl rfl ?_
  rintro _ _ ⟨rfl, rfl⟩
  refine WL.y (R.pkT (v := .bool true) rfl rfl) rfl ?_
  refine WL.y (R.mv (v := .bool true) rfl) rfl ?_
  refine WL.y (R.fieldAddr fo33_10 rfl) rfl ?_
  refine WL.y (R.load sca3 rfl (hS.blk0).r rfl) rfl ?_
  refine WL.call Try.func166 rfl rfl (rwithin_T _ _ _ _ h.linger.1 h.linger.2) rfl rfl ?_
  rintro _ _ ⟨rfl, rfl⟩
  refine WL.y (R.pkT (v := .bool true) rfl rfl) rfl ?_
  refine WL.y (R.mv (v := .bool true) rfl) rfl ?_
  refine WL.y (R.fieldAddr fo33_11 rfl) rfl ?_
  refine WL.y (R.load sca3 rfl (hS.blk0).r rfl) rfl ?_
  refine WL.call Try.func166 rfl rfl (rwithin_T _ _ _ _ h.fails.1 h.fails.2) rfl rfl ?_
  rintro _ _ ⟨rfl, rfl⟩
  refine WL.y (R.pkT (v := .bool true) rfl rfl) rfl ?_
  refine WL.y (R.mv (v := .bool true) rfl) rfl ?_
  refine WL.y (R.fieldAddr fo33_13 rfl) rfl ?_
  refine WL.y (R.loadA agg30 rfl (hS.blk0).r rfl rfl) rfl ?_
  refine WL.call Try.func129 rfl rfl ((refValid_calls adr0 _).val (y := bl true) rfl) rfl rfl ?_
  rintro _ w14 ⟨rfl, hx14⟩
  replace hS := hS.ext hx14
  replace hX := hX.tr hx14
  refine WL.y (R.pkT (v := .bool true) rfl rfl) rfl ?_
  refine WL.y (R.mv (v := .bool true) rfl) rfl ?_
  refine WL.y (R.fieldAddr fo33_14 rfl) rfl ?_
  refine WL.y (R.loadA agg30 rfl (hS.blk0).r rfl rfl) rfl ?_
  refine WL.call Try.func129 rfl rfl ((refValid_calls ⟨c.six, b0⟩ _).val (y := bl true) (by rw [adrOK_b0])) rfl rfl ?_
  rintro _ w15 ⟨rfl, hx15⟩
  replace hS := hS.ext hx15
  replace hX := hX.tr hx15
  refine WL.y (R.pkT (v := .bool true) rfl rfl) rfl ?_
  refine WL.y (R.mv (v := .bool true) rfl) rfl ?_
  refine WL.y (R.fieldAddr fo33_12 rfl) rfl ?_
  refine WL.y (R.load (v := bl true) sca4 rfl (hS.blk0).r (by rw [← he]; rfl)) rfl ?_
  refine WL.y (R.notT rfl) rfl ?_
  refine WL.y (R.mv (v := .bool false) rfl) rfl ?_
  refine WL.y (R.fieldAddr fo33_13 rfl) rfl ?_
  refine WL.y (R.fieldAddr fo30_0 rfl) rfl ?_
  refine WL.y (R.load (v := bl false) sca4 rfl (hS.blk0).r rfl) rfl ?_
  refine WL.y (R.notF rfl) rfl ?_
  refine WL.y (R.mv (v := .bool true) rfl) rfl ?_
  refine WL.y (R.fieldAddr fo33_14 rfl) rfl ?_
  refine WL.y (R.fieldAddr fo30_0 rfl) rfl ?_
  refine WL.y (R.load (v := bl true) sca4 rfl (hS.blk0).r (by rw [← h.six]; rfl)) rfl ?_
  refine WL.y (R.pkT (v := .bool true) rfl rfl) rfl ?_
  refine WL.y (R.pkF (v := .bool true) rfl rfl) rfl ?_
  refine WL.y (R.pkT (v := .bool true) rfl rfl) rfl ?_
  refine WL.y (R.asg (v := .bool true) rfl) rfl ?_
  refine WL.nil ?_
  refine W.ret ?_
  exact PR.r1 rfl (.tmp rfl) ⟨rfl, hX⟩

theorem refCheck_calls (c : Cfg) (h : CfgOK c) (w : World) : CallV Try.prog 120 #[.agg (encCfg c).toArray] w fun v w' => v = bl true ∧ Ext w w' := by
  cases he : c.encap
  · exact refCheck_f c h he w
  · exact refCheck_t c h he w
theorem memsOK_bad {ms : List Mem} {i : Nat} {x : Mem} (h : ms[i]? = some x) (hb : memOK x = false) : memsOK ms = false := by
  have : ms.all memOK = false := by
    rw [List.all_eq_false]
    exact ⟨x, List.mem_of_getElem? h, by simp [hb]⟩
  simp [memsOK, this]
theorem memsOK_dup {ms : List Mem} {i j : Nat} {x y : Mem} (hij : i < j) (h : ms[i]? = some x) (h2 : ms[j]? = some y) (e : x.dip = y.dip) : memsOK ms = false := by
  have : ¬ (ms.map (·.dip)).Nodup := by
    intro hn
    rw [List.Nodup, List.pairwise_iff_getElem] at hn
    obtain ⟨hi, e1⟩ := List.getElem?_eq_some_iff.1 h
    obtain ⟨hj, e2⟩ := List.getElem?_eq_some_iff.1 h2
    have := hn i j (by simpa using hi) (by simpa using hj) hij
    rw [List.getElem_map, List.getElem_map, e1, e2] at this
    exact this e
  simp [memsOK, this]
theorem nodup_snocD {l : List Dip} {d : Dip} (h : l.Nodup) (hd : d ∉ l) : (l ++ [d]).Nodup := by
  rw [List.nodup_append]
  exact ⟨h, by simp, fun a ha b hb => by simp at hb; subst hb; exact fun e => hd (e ▸ ha)⟩
theorem not_mem_take {ms : List Mem} {i : Nat} {d : Dip} (h : ∀ (j : Nat) (y : Mem), j < i → ms[j]? = some y → ¬ y.dip = d) : d ∉ (ms.take i).map (·.dip) := by
  intro hm
  obtain ⟨y, hy, e⟩ := List.mem_map.1 hm
  rw [List.mem_take_iff_getElem] at hy
  obtain ⟨j, hj, rfl⟩ := hy
  exact h j _ (by omega) (List.getElem?_eq_getElem (by omega)) e

theorem refMembers_calls (ms : List Mem) (h63 : ms.length ≤ 1000000000000) (a : Option Addr) (c : Nat) (w : World) (hM : Sli encMem 19 w a c ms) : CallV Try.prog 121 #[.slice a ms.length c] w fun v w' => v = bl (memsOK ms) ∧ Ext w w' := by
  have hX : Ext w w := Ext.rfl' w
  have hU : ∀ k, (fun k => w.heap.size ≤ k) k → w.heap.size ≤ k := fun _ h => h
  have hS : Star (fun k => w.heap.size ≤ k) w [] := Star.nil fun _ h => h
  generalize (fun k => w.heap.size ≤ k) = U at hU hS
  refine Calls.of_W (N := 54) Try.func121 rfl rfl rfl ?_
  refine W.reg ?_
  refine WL.y (R.asg (v := .bool false) rfl) rfl ?_
  refine WL.nil ?_
  refine W.seqX (ι := Unit) [(2, 51)] (fun _ => []) (fun _ w' => (ms.all memOK = true ∧ (ms.map (·.dip)).Nodup) ∧ Ext w w' ∧ Star U w' []) ?_ ?_
  · skip
    refine W.reg ?_
    refine WL.y (R.asg (v := .int _ _) rfl) rfl ?_
    refine WL.nil ?_
    refine W.block ?_
    refine W.loopS (ι := Nat) [(2, 51)] (fun q => [(3, i64 (q : Nat))]) (fun q => ms.length - q) (fun q w' => (q ≤ ms.length ∧ (ms.take q).all memOK = true ∧ ((ms.take q).map (·.dip)).Nodup) ∧ Ext w w' ∧ Star U w' []) 0 ⟨rfl, trivial⟩ ⟨⟨Nat.zero_le _, rfl, List.nodup_nil⟩, hX, hS⟩ ?_
    rintro i j1 w_1 ⟨⟨hi, hall, hnd⟩, hX, hS⟩
    refine W.seq ?_
    refine W.reg ?_
    refine WL.y (R.mv (v := .int _ _) rfl) rfl ?_
    refine WL.y (R.mv (v := .slice _ _ _) rfl) rfl ?_
    refine WL.y (R.lenS Try.underlying52 rfl) rfl ?_
    refine WL.fork (R.lss rfl rfl) rfl (fun hc2_3 => ?_) (fun hc2_3 => ?_)
    · skip
      replace hc2_3 := of_decide_eq_true hc2_3
      refine WL.nil ?_
      refine W.cond_t rfl ?_
      refine W.skip ?_
      refine W.seq ?_
      refine W.block ?_
      refine W.seq ?_
      refine W.reg ?_
      refine WL.y (R.mv (v := .slice _ _ _) rfl) rfl ?_
      refine WL.y (R.mv (v := .int _ _) rfl) rfl ?_
      obtain ⟨g_ms, o_ms, cs_ms, rfl, hO_ms⟩ := hM.op (by omega)
      obtain ⟨x, hx_ms⟩ : ∃ x, ms[i]? = some x := ⟨_, List.getElem?_eq_getElem (by omega)⟩
      refine WL.y (R.indexS Try.underlying52 siz57 rfl rfl rfl (by first | omega | (simp; omega))) rfl ?_
      refine WL.y (R.fieldAddr fo57_0 rfl) rfl ?_
      refine WL.y (R.fieldAddr fo54_0 rfl) rfl ?_
      refine WL.y (R.loadA agg30 rfl ((hO_ms.ext hX).blk).r (hO_ms.fld encM hx_ms 0 17 (by decide)) rfl) rfl ?_
      refine WL.call Try.func129 rfl rfl (CallV.fork (refValid_calls x.dip.adr _)) rfl rfl ?_
      rintro _ w1 (⟨hc4_6, rfl, hx1⟩ | ⟨hc4_6, rfl, hx1⟩)
      · skip
        replace hS := hS.ext hx1
        replace hX := hX.tr hx1
        refine WL.y (R.notT rfl) rfl ?_
        refine WL.y (R.mv (v := .bool false) rfl) rfl ?_
        refine WL.y (R.mv (v := .slice _ _ _) rfl) rfl ?_
        refine WL.y (R.mv (v := .int _ _) rfl) rfl ?_
        refine WL.y (R.indexS Try.underlying52 siz57 rfl rfl rfl (by first | omega | (simp; omega))) rfl ?_
        refine WL.y (R.fieldAddr fo57_1 rfl) rfl ?_
        refine WL.y (R.load sca3 rfl ((hO_ms.ext hX).blk).r (hO_ms.cell encM hx_ms (j := 18) (by decide))) rfl ?_
        refine WL.fork (R.lss rfl rfl) rfl (fun hc4_14 => ?_) (fun hc4_14 => ?_)
        · skip
          replace hc4_14 := of_decide_eq_true hc4_14
          refine WL.y (R.pkF (v := .bool true) rfl rfl) rfl ?_
          refine WL.y (R.mv (v := .bool true) rfl) rfl ?_
          refine WL.skip rfl ?_
          refine WL.skip rfl ?_
          refine WL.skip rfl ?_
          refine WL.skip rfl ?_
          refine WL.skip rfl ?_
          refine WL.skip rfl ?_
          refine WL.y (R.pkT (v := .bool true) rfl rfl) rfl ?_
          refine WL.nil ?_
          refine W.cond_t rfl ?_
          refine W.reg ?_
          refine WL.y (R.asg (v := .bool false) rfl) rfl ?_
          refine WL.nil ?_
          refine W.ret ?_
          exact PR.r1 rfl (.tmp rfl) ⟨by rw [memsOK_bad hx_ms (by simp [memOK, show ¬ 1 ≤ x.wt by omega])]; rfl, hX⟩
        · skip
          replace hc4_14 := of_decide_eq_false hc4_14
          refine WL.y (R.pkF (v := .bool false) rfl rfl) rfl ?_
          refine WL.y (R.mv (v := .bool false) rfl) rfl ?_
          refine WL.y (R.mv (v := .slice _ _ _) rfl) rfl ?_
          refine WL.y (R.mv (v := .int _ _) rfl) rfl ?_
          refine WL.y (R.indexS Try.underlying52 siz57 rfl rfl rfl (by first | omega | (simp; omega))) rfl ?_
          refine WL.y (R.fieldAddr fo57_1 rfl) rfl ?_
          refine WL.y (R.load sca3 rfl ((hO_ms.ext hX).blk).r (hO_ms.cell encM hx_ms (j := 18) (by decide))) rfl ?_
          refine WL.fork (R.gtr rfl rfl) rfl (fun hc4_22 => ?_) (fun hc4_22 => ?_)
          · skip
            replace hc4_22 := of_decide_eq_true hc4_22
            refine WL.y (R.pkF (v := .bool true) rfl rfl) rfl ?_
            refine WL.nil ?_
            refine W.cond_t rfl ?_
            refine W.reg ?_
            refine WL.y (R.asg (v := .bool false) rfl) rfl ?_
            refine WL.nil ?_
            refine W.ret ?_
            exact PR.r1 rfl (.tmp rfl) ⟨by rw [memsOK_bad hx_ms (by simp [memOK, show ¬ x.wt ≤ 16 by omega])]; rfl, hX⟩
          · skip
            replace hc4_22 := of_decide_eq_false hc4_22
            refine WL.y (R.pkF (v := .bool false) rfl rfl) rfl ?_
            refine WL.nil ?_
            refine W.cond_f rfl ?_
            refine W.skip ?_
            refine W.reg ?_
            refine WL.y (R.asg (v := .int _ _) rfl) rfl ?_
            refine WL.nil ?_
            refine W.block ?_
            refine W.loopS (ι := Nat) [(2, 3), (4, 5), (35, 51)] (fun q => [(4, i64 (q : Nat))]) (fun q => i - q) (fun q w' => (q ≤ i ∧ ∀ (j : Nat) (y : Mem), j < q → ms[j]? = some y → ¬ y.dip = x.dip) ∧ Ext w w' ∧ Star U w' []) 0 ⟨rfl, trivial⟩ ⟨⟨Nat.zero_le _, fun j y hj => absurd hj (by omega)⟩, hX, hS⟩ ?_
            rintro k j2 w_2 ⟨⟨hk, hd⟩, hX, hS⟩
            refine W.seq ?_
            refine W.reg ?_
            refine WL.y (R.mv (v := .int _ _) rfl) rfl ?_
            refine WL.y (R.mv (v := .int _ _) rfl) rfl ?_
            refine WL.fork (R.lss rfl rfl) rfl (fun hc7_2 => ?_) (fun hc7_2 => ?_)
            · skip
              replace hc7_2 := of_decide_eq_true hc7_2
              refine WL.nil ?_
              refine W.cond_t rfl ?_
              refine W.skip ?_
              refine W.seq ?_
              refine W.block ?_
              refine W.seq ?_
              refine W.draw (fun j => [1000].contains j) (fun wI => Ext w_2 wI) rfl ?_
              have hI2 := Ext.dr w_2
              refine WA.batch [0, 1, 2, 3, 4, 5, 6, 7, 8, 9, 10] 0 (by kernel_rfl) hI2 ?_
              refine QL.y (fun wq hq => (R.mv (v := .slice _ _ _) rfl)) rfl ?_
              refine QL.y (fun wq hq => (R.mv (v := .int _ _) rfl)) rfl ?_
              obtain ⟨y, hy_ms⟩ : ∃ x, ms[k]? = some x := ⟨_, List.getElem?_eq_getElem (by omega)⟩
              refine QL.y (fun wq hq => (R.indexS Try.underlying52 siz57 rfl rfl rfl (by first | omega | (simp; omega)))) rfl ?_
              refine QL.y (fun wq hq => (R.fieldAddr fo57_0 rfl)) rfl ?_
              refine QL.y (fun wq hq => (R.loadA agg54 rfl (hq.blkR ((hO_ms.ext hX).blk).r) (hO_ms.fld encM hy_ms 0 18 (by decide)) rfl)) rfl ?_
              refine QL.y (fun wq hq => (R.mv (v := .slice _ _ _) rfl)) rfl ?_
              refine QL.y (fun wq hq => (R.mv (v := .int _ _) rfl)) rfl ?_
              refine QL.y (fun wq hq => (R.indexS Try.underlying52 siz57 rfl rfl rfl (by first | omega | (simp; omega)))) rfl ?_
              refine QL.y (fun wq hq => (R.fieldAddr fo57_0 rfl)) rfl ?_
              refine QL.y (fun wq hq => (R.loadA agg54 rfl (hq.blkR ((hO_ms.ext hX).blk).r) (hO_ms.fld encM hx_ms 0 18 (by decide)) rfl)) rfl ?_
              refine QL.y (fun wq hq => (R.eqlAT (xs := encDip y.dip) (ys := encDip x.dip) (q := decide (y.dip = x.dip)) eq54 (by decide) agg54 Try.eqGuardType54 rfl rfl (typed_dip _) (typed_dip _) (veq_dip _ _))) rfl ?_
              refine QL.nil ?_
              have hD2 := Ext.dr w_2
              have hD2z := hD2.size
              have hS0 := hS
              have hXo := hX
              replace hS := hS.ext hD2
              replace hX := hX.tr hD2
              refine WA.done (by kernel_rfl) ?_
              refine W.cond _ rfl (fun hdd => ?_) (fun hdd => ?_)
              · skip
                replace hdd := of_decide_eq_true hdd
                refine W.reg ?_
                refine WL.y (R.asg (v := .bool false) rfl) rfl ?_
                refine WL.nil ?_
                refine W.ret ?_
                exact PR.r1 rfl (.tmp rfl) ⟨by rw [memsOK_dup (show k < i by omega) hy_ms hx_ms hdd]; rfl, hX⟩
              · skip
                replace hdd := of_decide_eq_false hdd
                refine W.skip ?_
                refine W.region ?_
                refine WL.y (R.mv (v := .int _ _) rfl) rfl ?_
                refine WL.y (R.addI rfl rfl (by omega)) rfl ?_
                refine WL.y (R.asg (v := .int _ _) rfl) rfl ?_
                refine WL.nil ?_
                exact ⟨k + 1, (by omega), (by repeat (first | exact Same.rfl' _ _ | refine Same.set _ rfl ?_ | refine Same.over' _ rfl ?_ | refine Same.sets rfl ?_)), ⟨rfl, trivial⟩, rfl, ⟨by omega, fun j z hj hz => by rcases Nat.lt_or_ge j k with h | h; exact hd j z h hz; (obtain rfl : j = k := by omega); rw [hy_ms] at hz; cases hz; exact hdd⟩, hX, hS⟩
            · skip
              replace hc7_2 := of_decide_eq_false hc7_2
              refine WL.nil ?_
              refine W.cond_f rfl ?_
              refine W.exit ?_
              refine W.region ?_
              refine WL.y (R.mv (v := .int _ _) rfl) rfl ?_
              refine WL.y (R.addI rfl rfl (by omega)) rfl ?_
              refine WL.y (R.asg (v := .int _ _) rfl) rfl ?_
              refine WL.nil ?_
              have hki : k = i := by omega
              rw [hki] at hd
              exact ⟨i + 1, (by omega), (by repeat (first | exact Same.rfl' _ _ | refine Same.set _ rfl ?_ | refine Same.over' _ rfl ?_ | refine Same.sets rfl ?_)), ⟨rfl, trivial⟩, rfl, ⟨by omega, by rw [take_snoc hx_ms, List.all_append, hall]; simp [memOK, hc4_6, show 1 ≤ x.wt by omega, show x.wt ≤ 16 by omega], by rw [take_snoc hx_ms, List.map_append]; exact nodup_snocD hnd (not_mem_take hd)⟩, hX, hS⟩
      · skip
        replace hS := hS.ext hx1
        replace hX := hX.tr hx1
        refine WL.y (R.notF rfl) rfl ?_
        refine WL.y (R.mv (v := .bool true) rfl) rfl ?_
        refine WL.skip rfl ?_
        refine WL.skip rfl ?_
        refine WL.skip rfl ?_
        refine WL.skip rfl ?_
        refine WL.skip rfl ?_
        refine WL.skip rfl ?_
        refine WL.y (R.pkT (v := .bool true) rfl rfl) rfl ?_
        refine WL.y (R.mv (v := .bool true) rfl) rfl ?_
        refine WL.skip rfl ?_
        refine WL.skip rfl ?_
        refine WL.skip rfl ?_
        refine WL.skip rfl ?_
        refine WL.skip rfl ?_
        refine WL.skip rfl ?_
        refine WL.y (R.pkT (v := .bool true) rfl rfl) rfl ?_
        refine WL.nil ?_
        refine W.cond_t rfl ?_
        refine W.reg ?_
        refine WL.y (R.asg (v := .bool false) rfl) rfl ?_
        refine WL.nil ?_
        refine W.ret ?_
        exact PR.r1 rfl (.tmp rfl) ⟨by rw [memsOK_bad hx_ms (by simp [memOK, hc4_6])]; rfl, hX⟩
    · skip
      replace hc2_3 := of_decide_eq_false hc2_3
      refine WL.nil ?_
      refine W.cond_f rfl ?_
      refine W.exit ?_
      obtain rfl : i = ms.length := by omega
      rw [List.take_length] at hall hnd
      exact ⟨(), (by repeat (first | exact Same.rfl' _ _ | refine Same.set _ rfl ?_ | refine Same.over' _ rfl ?_ | refine Same.sets rfl ?_)), trivial, rfl, ⟨hall, hnd⟩, hX, hS⟩
  · skip
    rintro _ j3 w_3 ⟨⟨hall2, hnd2⟩, hX, hS⟩
    refine W.reg ?_
    refine WL.y (R.mv (v := .slice _ _ _) rfl) rfl ?_
    refine WL.y (R.lenS Try.underlying52 rfl) rfl ?_
    refine WL.y (R.leq rfl rfl) rfl ?_
    refine WL.y (R.asg (v := .bool _) rfl) rfl ?_
    refine WL.nil ?_
    refine W.ret ?_
    exact PR.r1 rfl (.tmp rfl) ⟨by show bl (decide ((ms.length : Int) ≤ 32)) = _; simp only [memsOK, hall2, hnd2, decide_true, Bool.and_true]; congr 1; rw [decide_eq_decide]; omega, hX⟩

theorem place_calls (ms : List Mem) (h63 : ms.length ≤ 1000000000000) (d : Dip) (a : Option Addr) (c : Nat) (w : World) (hM : Sli encMem 19 w a c ms) : CallV Try.prog 169 #[.slice a ms.length c, .agg (encDip d).toArray] w fun v w' => v = i64 (idx (fun x : Mem => decide (x.dip = d)) ms) ∧ Ext w w' := by
  have hX : Ext w w := Ext.rfl' w
  have hU : ∀ k, (fun k => w.heap.size ≤ k) k → w.heap.size ≤ k := fun _ h => h
  have hS : Star (fun k => w.heap.size ≤ k) w [] := Star.nil fun _ h => h
  generalize (fun k => w.heap.size ≤ k) = U at hU hS
  refine Calls.of_W (N := 20) Try.func169 rfl rfl rfl ?_
  refine W.reg ?_
  refine WL.box (v := .agg _) rfl rfl rfl ?_
  intro b1 w1 hb1 hs1 hx1 hB1
  replace hS := hS.pushBox hb1 hx1 hB1
  replace hX := hX.tr hx1
  clear hB1 hs1
  refine WL.y (R.asg (v := .int _ _) rfl) rfl ?_
  refine WL.nil ?_
  refine W.seq ?_
  refine W.reg ?_
  refine WL.y (R.asg (v := .int _ _) rfl) rfl ?_
  refine WL.nil ?_
  refine W.block ?_
  refine W.loopS (ι := Nat) [(4, 20)] (fun q => [(5, i64 (q : Nat))]) (fun q => ms.length - q) (fun q w' => (q ≤ ms.length ∧ (ms.take q).all (fun x => !decide (x.dip = d)) = true) ∧ Ext w w' ∧ Star U w' [boxA b1 (encDip d)]) 0 ⟨rfl, trivial⟩ ⟨⟨Nat.zero_le _, rfl⟩, hX, hS⟩ ?_
  rintro i j1 w_1 ⟨⟨hi, hall⟩, hX, hS⟩
  refine W.seq ?_
  refine W.reg ?_
  refine WL.y (R.mv (v := .int _ _) rfl) rfl ?_
  refine WL.y (R.mv (v := .slice _ _ _) rfl) rfl ?_
  refine WL.y (R.lenS Try.underlying52 rfl) rfl ?_
  refine WL.fork (R.lss rfl rfl) rfl (fun hc2_3 => ?_) (fun hc2_3 => ?_)
  · skip
    replace hc2_3 := of_decide_eq_true hc2_3
    refine WL.nil ?_
    refine W.cond_t rfl ?_
    refine W.skip ?_
    refine W.seq ?_
    refine W.block ?_
    refine W.seq ?_
    refine W.draw (fun j => [1000].contains j) (fun wI => Ext w_1 wI) rfl ?_
    have hI2 := Ext.dr w_1
    refine WA.batch [0, 1, 2, 3, 4, 5, 6] 0 (by kernel_rfl) hI2 ?_
    refine QL.y (fun wq hq => (R.mv (v := .slice _ _ _) rfl)) rfl ?_
    refine QL.y (fun wq hq => (R.mv (v := .int _ _) rfl)) rfl ?_
    obtain ⟨g_ms, o_ms, cs_ms, rfl, hO_ms⟩ := hM.op (by omega)
    obtain ⟨x, hx_ms⟩ : ∃ x, ms[i]? = some x := ⟨_, List.getElem?_eq_getElem (by omega)⟩
    refine QL.y (fun wq hq => (R.indexS Try.underlying52 siz57 rfl rfl rfl (by first | omega | (simp; omega)))) rfl ?_
    refine QL.y (fun wq hq => (R.fieldAddr fo57_0 rfl)) rfl ?_
    refine QL.y (fun wq hq => (R.loadA agg54 rfl (hq.blkR ((hO_ms.ext hX).blk).r) (hO_ms.fld encM hx_ms 0 18 (by decide)) rfl)) rfl ?_
    refine QL.y (fun wq hq => (R.loadA agg54 rfl (hq.blkR (hS.blk0).r) rfl rfl)) rfl ?_
    refine QL.y (fun wq hq => (R.eqlAT (xs := encDip x.dip) (ys := encDip d) (q := decide (x.dip = d)) eq54 (by decide) agg54 Try.eqGuardType54 rfl rfl (typed_dip _) (typed_dip _) (veq_dip _ _))) rfl ?_
    refine QL.nil ?_
    have hD2 := Ext.dr w_1
    have hD2z := hD2.size
    have hS0 := hS
    have hXo := hX
    replace hS := hS.ext hD2
    replace hX := hX.tr hD2
    refine WA.done (by kernel_rfl) ?_
    refine W.cond _ rfl (fun hdd => ?_) (fun hdd => ?_)
    · skip
      replace hdd := of_decide_eq_true hdd
      refine W.reg ?_
      refine WL.y (R.mv (v := .int _ _) rfl) rfl ?_
      refine WL.y (R.asg (v := .int _ _) rfl) rfl ?_
      refine WL.nil ?_
      refine W.ret ?_
      exact PR.r1 rfl (.tmp rfl) ⟨by rw [idx_hit hall hx_ms (by simpa using hdd)]; rfl, hX⟩
    · skip
      replace hdd := of_decide_eq_false hdd
      refine W.skip ?_
      refine W.region ?_
      refine WL.y (R.mv (v := .int _ _) rfl) rfl ?_
      refine WL.y (R.addI rfl rfl (by omega)) rfl ?_
      refine WL.y (R.asg (v := .int _ _) rfl) rfl ?_
      refine WL.nil ?_
      exact ⟨i + 1, (by omega), (by repeat (first | exact Same.rfl' _ _ | refine Same.set _ rfl ?_ | refine Same.over' _ rfl ?_ | refine Same.sets rfl ?_)), ⟨rfl, trivial⟩, rfl, ⟨by omega, by rw [take_snoc hx_ms, List.all_append, hall]; simp [hdd]⟩, hX, hS⟩
  · skip
    replace hc2_3 := of_decide_eq_false hc2_3
    refine WL.nil ?_
    refine W.cond_f rfl ?_
    refine W.exit ?_
    refine W.reg ?_
    refine WL.y (R.asg (v := .int _ _) rfl) rfl ?_
    refine WL.nil ?_
    refine W.ret ?_
    exact PR.r1 rfl (.tmp rfl) ⟨by rw [idx_miss hall (by omega)]; rfl, hX⟩
end Go.Proofs.Ytkjecokkdbapkaa
