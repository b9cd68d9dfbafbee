import Derived.Test.YtkjecokkdbapkaaZzLoop
import Derived.Test.YtkjecokkdbapkaaProg
namespace Go.Proofs.Ytkjecokkdbapkaa
set_option linter.all false
open Go Go.Eng Go.RowKit
set_option maxRecDepth 20000
set_option maxHeartbeats 2000000
set_option linter.unusedVariables false
set_option linter.unusedSimpArgs false
attribute [local irreducible] WL W QL WA SP

def zc42 : List Value := [.int .u8 0, .bool false, .int .u8 0, .int .u8 0, .int .u8 0, .int .u8 0, .int .u8 0, .int .u8 0, .int .u8 0, .int .u8 0, .int .u8 0, .int .u8 0, .int .u8 0, .int .u8 0, .int .u8 0, .int .u8 0, .int .u8 0, .int .u8 0, .int .u16 0]
def zc291 : List Value := [.int .u8 0, .int .u8 0, .int .u8 0, .int .u8 0, .int .u8 0, .int .u8 0, .int .u8 0, .int .u8 0, .int .u8 0, .int .u8 0, .int .u8 0, .int .u8 0]
theorem agg291 : Agg Try.prog 291 12 := ⟨Try.isAgg291, Try.sizeOf291⟩
theorem agg30 : Agg Try.prog 30 17 := ⟨Try.isAgg30, Try.sizeOf30⟩
theorem agg33 : Agg Try.prog 33 48 := ⟨Try.isAgg33, Try.sizeOf33⟩
theorem agg37 : Agg Try.prog 37 37 := ⟨Try.isAgg37, Try.sizeOf37⟩
theorem agg42 : Agg Try.prog 42 19 := ⟨Try.isAgg42, Try.sizeOf42⟩
theorem agg54 : Agg Try.prog 54 18 := ⟨Try.isAgg54, Try.sizeOf54⟩
def pl291 : Nat → Option (Nat × Nat) := fun i => some (i * 1, 1)
theorem bld291 : Bld Try.prog 291 pl291 zc291 := ⟨_, fun parts w => by
  simp only [Instr.build, Sem.run_bind, Try.zeroValue291, Try.runUnderlying291, Result.andThen_ok, Try.sizeOf5]
  rfl⟩
def pl42 : Nat → Option (Nat × Nat) := fun i => (#[(0, 1), (1, 17), (18, 1)] : Array (Nat × Nat))[i]?
theorem bld42 : Bld Try.prog 42 pl42 zc42 := ⟨_, fun parts w => by
  simp only [pl42, Instr.build, Sem.run_bind, Try.zeroValue42, Try.runUnderlying42, Result.andThen_ok, List.mapM_toArray, List.mapM_cons, List.mapM_nil, Try.sizeOf5, Try.sizeOf30, Try.sizeOf35, Sem.run_pure, Sem.run_map]
  rfl⟩
theorem fo30_0 : FO Try.prog 30 0 0 := fun a w => by kernel_rfl
theorem fo30_1 : FO Try.prog 30 1 1 := fun a w => by kernel_rfl
theorem fo33_0 : FO Try.prog 33 0 0 := fun a w => by kernel_rfl
theorem fo33_1 : FO Try.prog 33 1 1 := fun a w => by kernel_rfl
theorem fo33_10 : FO Try.prog 33 10 10 := fun a w => by kernel_rfl
theorem fo33_11 : FO Try.prog 33 11 11 := fun a w => by kernel_rfl
theorem fo33_12 : FO Try.prog 33 12 12 := fun a w => by kernel_rfl
theorem fo33_13 : FO Try.prog 33 13 13 := fun a w => by kernel_rfl
theorem fo33_14 : FO Try.prog 33 14 30 := fun a w => by kernel_rfl
theorem fo33_2 : FO Try.prog 33 2 2 := fun a w => by kernel_rfl
theorem fo33_3 : FO Try.prog 33 3 3 := fun a w => by kernel_rfl
theorem fo33_4 : FO Try.prog 33 4 4 := fun a w => by kernel_rfl
theorem fo33_5 : FO Try.prog 33 5 5 := fun a w => by kernel_rfl
theorem fo33_6 : FO Try.prog 33 6 6 := fun a w => by kernel_rfl
theorem fo33_7 : FO Try.prog 33 7 7 := fun a w => by kernel_rfl
theorem fo33_8 : FO Try.prog 33 8 8 := fun a w => by kernel_rfl
theorem fo33_9 : FO Try.prog 33 9 9 := fun a w => by kernel_rfl
theorem fo37_0 : FO Try.prog 37 0 0 := fun a w => by kernel_rfl
theorem fo37_1 : FO Try.prog 37 1 1 := fun a w => by kernel_rfl
theorem fo37_2 : FO Try.prog 37 2 18 := fun a w => by kernel_rfl
theorem fo37_4 : FO Try.prog 37 4 36 := fun a w => by kernel_rfl
theorem fo42_0 : FO Try.prog 42 0 0 := fun a w => by kernel_rfl
theorem fo42_1 : FO Try.prog 42 1 1 := fun a w => by kernel_rfl
theorem sca3 : Sca Try.prog 3 := ⟨Try.isAgg3, Try.sizeOf3⟩
theorem sca35 : Sca Try.prog 35 := ⟨Try.isAgg35, Try.sizeOf35⟩
theorem sca4 : Sca Try.prog 4 := ⟨Try.isAgg4, Try.sizeOf4⟩
theorem sca5 : Sca Try.prog 5 := ⟨Try.isAgg5, Try.sizeOf5⟩
theorem siz42 : ∀ w, (sizeOf 42).run Try.prog w = .ok 19 w := Try.sizeOf42
theorem siz5 : ∀ w, (sizeOf 5).run Try.prog w = .ok 1 w := Try.sizeOf5
theorem zer291 : Zer Try.prog 291 zc291 := ⟨_, Try.zeroValue291, rfl⟩
theorem zer42 : Zer Try.prog 42 zc42 := ⟨_, Try.zeroValue42, rfl⟩
theorem eq5 : FlatEq Try.prog 5 [some .u8] 1 := FlatEq.int Try.underlying5 sca5
theorem eq291 : FlatEq Try.prog 291 [some .u8, some .u8, some .u8, some .u8, some .u8, some .u8, some .u8, some .u8, some .u8, some .u8, some .u8, some .u8] 2 := FlatEq.array (n := 12) (c := [some .u8]) Try.underlying291 agg291 siz5 eq5

theorem round_calls (k n : Int) (w : World) (hn : 0 < n) (hn2 : n ≤ 4611686018427387904) : CallV Try.prog 24 #[i64 k, i64 n] w fun v w' => v = i64 ((k.tmod n + n).tmod n) ∧ w' = w := by
  have h1 : -n < k.tmod n ∧ k.tmod n < n := by
    have := Int.tmod_lt_of_pos k hn
    have := Int.lt_tmod_of_pos k hn
    omega
  refine Calls.of_W (N := 12) Try.func24 rfl rfl rfl ?_
  refine W.reg ?_
  refine WL.y (R.asg (v := .int _ _) rfl) rfl ?_
  refine WL.nil ?_
  refine W.reg ?_
  refine WL.y (R.mv (v := .int _ _) rfl) rfl ?_
  refine WL.y (R.mv (v := .int _ _) rfl) rfl ?_
  refine WL.y (R.rem rfl rfl (by omega)) rfl ?_
  refine WL.y (R.mv (v := .int _ _) rfl) rfl ?_
  refine WL.y (R.addI rfl rfl (by omega)) rfl ?_
  refine WL.y (R.mv (v := .int _ _) rfl) rfl ?_
  refine WL.y (R.rem rfl rfl (by omega)) rfl ?_
  refine WL.y (R.asg (v := .int _ _) rfl) rfl ?_
  refine WL.nil ?_
  refine W.ret ?_
  exact PR.r1 rfl (.tmp rfl) ⟨rfl, rfl⟩

theorem within_T (n lo hi : Int) (w : World) (h1 : lo ≤ n) (h2 : n ≤ hi) : CallV Try.prog 161 #[i64 n, i64 lo, i64 hi] w fun v w' => v = bl true ∧ w' = w := by
  refine Calls.of_W (N := 15) Try.func161 rfl rfl rfl ?_
  refine W.reg ?_
  refine WL.y (R.asg (v := .bool false) rfl) rfl ?_
  refine WL.nil ?_
  refine W.reg ?_
  refine WL.y (R.mv (v := .int _ _) rfl) rfl ?_
  refine WL.y (R.mv (v := .int _ _) rfl) rfl ?_
  refine WL.y (R.geqT rfl rfl h1) rfl ?_
  refine WL.y (R.mv (v := .bool true) rfl) rfl ?_
  refine WL.y (R.mv (v := .int _ _) rfl) rfl ?_
  refine WL.y (R.mv (v := .int _ _) rfl) rfl ?_
  refine WL.y (R.leqT rfl rfl h2) rfl ?_
  refine WL.y (R.pkT (v := .bool true) rfl rfl) rfl ?_
  refine WL.y (R.asg (v := .bool true) rfl) rfl ?_
  refine WL.nil ?_
  refine W.ret ?_
  exact PR.r1 rfl (.tmp rfl) ⟨rfl, rfl⟩

theorem within_F (n lo hi : Int) (w : World) (h1 : n < lo) : CallV Try.prog 161 #[i64 n, i64 lo, i64 hi] w fun v w' => v = bl false ∧ w' = w := by
  refine Calls.of_W (N := 15) Try.func161 rfl rfl rfl ?_
  refine W.reg ?_
  refine WL.y (R.asg (v := .bool false) rfl) rfl ?_
  refine WL.nil ?_
  refine W.reg ?_
  refine WL.y (R.mv (v := .int _ _) rfl) rfl ?_
  refine WL.y (R.mv (v := .int _ _) rfl) rfl ?_
  refine WL.y (R.geqF rfl rfl (by omega)) rfl ?_
  refine WL.y (R.mv (v := .bool false) rfl) rfl ?_
  refine WL.skip rfl ?_
  refine WL.skip rfl ?_
  refine WL.skip rfl ?_
  refine WL.y (R.pkF (v := .bool false) rfl rfl) rfl ?_
  refine WL.y (R.asg (v := .bool false) rfl) rfl ?_
  refine WL.nil ?_
  refine W.ret ?_
  exact PR.r1 rfl (.tmp rfl) ⟨rfl, rfl⟩

theorem and_pow (k : Nat) (hk : k < 17) (P : Program) (w : World) : (Op.intBits .and .i64 ((2 ^ k : Nat) : Int) (((2 ^ k : Nat) : Int) - 1)).run P w = .ok (i64 0) w := by
  have h : ∀ k, k < 17 → (BitVec.ofInt IntKind.i64.bits ((2 ^ k : Nat) : Int) &&& BitVec.ofInt IntKind.i64.bits (((2 ^ k : Nat) : Int) - 1)) = 0#IntKind.i64.bits := by decide
  have := h k hk
  show Sem.run P (pure (Value.int .i64 (IntKind.i64.wrap ((BitVec.ofInt IntKind.i64.bits ((2 ^ k : Nat) : Int) &&& BitVec.ofInt IntKind.i64.bits (((2 ^ k : Nat) : Int) - 1)).toNat : Int)))) w = _
  rw [this]; rfl

theorem power_T (n lo hi : Int) (w : World) (h1 : lo ≤ n) (h2 : n ≤ hi) (k : Nat) (hk : k < 17) (hp : n = ((2 ^ k : Nat) : Int)) : CallV Try.prog 162 #[i64 n, i64 lo, i64 hi] w fun v w' => v = bl true ∧ w' = w := by
  subst hp
  have hb : (0 : Int) < ((2 ^ k : Nat) : Int) := by have : 0 < 2 ^ k := Nat.pow_pos (by omega); omega
  have hb2 : ((2 ^ k : Nat) : Int) ≤ 65536 := by have : 2 ^ k ≤ 2 ^ 16 := Nat.pow_le_pow_right (by omega) (by omega); omega
  refine Calls.of_W (N := 18) Try.func162 rfl rfl rfl ?_
  refine W.reg ?_
  refine WL.y (R.asg (v := .bool false) rfl) rfl ?_
  refine WL.nil ?_
  refine W.reg ?_
  refine WL.y (R.mv (v := .int _ _) rfl) rfl ?_
  refine WL.y (R.mv (v := .int _ _) rfl) rfl ?_
  refine WL.y (R.mv (v := .int _ _) rfl) rfl ?_
  refine WL.call Try.func161 rfl rfl (within_T _ _ _ _ (by omega) (by omega)) rfl rfl ?_
  rintro _ _ ⟨rfl, rfl⟩
  refine WL.y (R.mv (v := .bool true) rfl) rfl ?_
  refine WL.y (R.mv (v := .int _ _) rfl) rfl ?_
  refine WL.y (R.mv (v := .int _ _) rfl) rfl ?_
  refine WL.y (R.subI rfl rfl (by omega)) rfl ?_
  refine WL.y (R.bits rfl rfl rfl (and_pow k hk _ _)) rfl ?_
  refine WL.y (R.eqlT rfl rfl rfl) rfl ?_
  refine WL.y (R.pkT (v := .bool true) rfl rfl) rfl ?_
  refine WL.y (R.asg (v := .bool true) rfl) rfl ?_
  refine WL.nil ?_
  refine W.ret ?_
  exact PR.r1 rfl (.tmp rfl) ⟨rfl, rfl⟩

theorem power_F (n lo hi : Int) (w : World) (h1 : n < lo) : CallV Try.prog 162 #[i64 n, i64 lo, i64 hi] w fun v w' => v = bl false ∧ w' = w := by
  refine Calls.of_W (N := 18) Try.func162 rfl rfl rfl ?_
  refine W.reg ?_
  refine WL.y (R.asg (v := .bool false) rfl) rfl ?_
  refine WL.nil ?_
  refine W.reg ?_
  refine WL.y (R.mv (v := .int _ _) rfl) rfl ?_
  refine WL.y (R.mv (v := .int _ _) rfl) rfl ?_
  refine WL.y (R.mv (v := .int _ _) rfl) rfl ?_
  refine WL.call Try.func161 rfl rfl (within_F _ _ _ _ (by omega)) rfl rfl ?_
  rintro _ _ ⟨rfl, rfl⟩
  refine WL.y (R.mv (v := .bool false) rfl) rfl ?_
  refine WL.skip rfl ?_
  refine WL.skip rfl ?_
  refine WL.skip rfl ?_
  refine WL.skip rfl ?_
  refine WL.skip rfl ?_
  refine WL.y (R.pkF (v := .bool false) rfl rfl) rfl ?_
  refine WL.y (R.asg (v := .bool false) rfl) rfl ?_
  refine WL.nil ?_
  refine W.ret ?_
  exact PR.r1 rfl (.tmp rfl) ⟨rfl, rfl⟩

theorem adrValid_t (b : B16) (w : World) : CallV Try.prog 128 #[.agg (encAdr ⟨true, b⟩).toArray] w fun v w' => v = bl true ∧ Ext w w' := by
  have hX : Ext w w := Ext.rfl' w
  refine Calls.of_W (N := 13) Try.func128 rfl rfl rfl ?_
  refine W.reg ?_
  refine WL.box (v := .agg _) rfl rfl rfl ?_
  intro b1 w1 hb1 hs1 hx1 hB1
  have hge1 := hX.size
  replace hX := hX.tr hx1
  refine WL.y (R.asg (v := .bool false) rfl) rfl ?_
  refine WL.nil ?_
  refine W.reg ?_
  refine WL.y (R.fieldAddr fo30_0 rfl) rfl ?_
  refine WL.y (R.load sca4 rfl (hB1).r rfl) rfl ?_
  refine WL.y (R.mv (v := .bool true) rfl) rfl ?_
  refine WL.skip rfl ?_
  refine WL.skip rfl ?_
  refine WL.skip rfl ?_
  refine WL.skip rfl ?_
  refine WL.skip rfl ?_
  refine WL.skip rfl ?_
  refine WL.y (R.pkT (v := .bool true) rfl rfl) rfl ?_
  refine WL.y (R.asg (v := .bool true) rfl) rfl ?_
  refine WL.nil ?_
  refine W.ret ?_
  exact PR.r1 rfl (.tmp rfl) ⟨rfl, hX⟩

theorem adrValid_f (b : B16) (w : World) : CallV Try.prog 128 #[.agg (encAdr ⟨false, b⟩).toArray] w fun v w' => v = bl (veqL [u8 b.b4, u8 b.b5, u8 b.b6, u8 b.b7, u8 b.b8, u8 b.b9, u8 b.b10, u8 b.b11, u8 b.b12, u8 b.b13, u8 b.b14, u8 b.b15] zc291) ∧ Ext w w' := by
  have hX : Ext w w := Ext.rfl' w
  refine Calls.of_W (N := 13) Try.func128 rfl rfl rfl ?_
  refine W.reg ?_
  refine WL.box (v := .agg _) rfl rfl rfl ?_
  intro b1 w1 hb1 hs1 hx1 hB1
  have hge1 := hX.size
  replace hX := hX.tr hx1
  refine WL.y (R.asg (v := .bool false) rfl) rfl ?_
  refine WL.nil ?_
  refine W.reg ?_
  refine WL.y (R.fieldAddr fo30_0 rfl) rfl ?_
  refine WL.y (R.load sca4 rfl (hB1).r rfl) rfl ?_
  refine WL.y (R.mv (v := .bool false) rfl) rfl ?_
  refine WL.y (R.fieldAddr fo30_1 rfl) rfl ?_
  refine WL.y (R.sliceAL (l := 4) Try.underlying28 siz5 rfl rfl (by decide)) rfl ?_
  refine WL.y (R.arrayAt Try.underlying291 rfl (by decide)) rfl ?_
  refine WL.y (R.loadA agg291 rfl (hB1).r rfl rfl) rfl ?_
  refine WL.y (R.buildP (parts := []) (ps := []) bld291 rfl rfl) rfl ?_
  refine WL.y (R.eqlA eq291 (by decide) agg291 Try.eqGuardType291 rfl rfl rfl rfl) rfl ?_
  refine WL.y (R.pkF (v := .bool _) rfl rfl) rfl ?_
  refine WL.y (R.asg (v := .bool _) rfl) rfl ?_
  refine WL.nil ?_
  refine W.ret ?_
  exact PR.r1 rfl (.tmp rfl) ⟨rfl, hX⟩

theorem adrValid_calls (a : Adr) (w : World) : CallV Try.prog 128 #[.agg (encAdr a).toArray] w fun v w' => v = bl (adrOK a) ∧ Ext w w' := by
  obtain ⟨v6, b⟩ := a
  cases v6
  · refine (adrValid_f b w).mono fun v w' h => ⟨h.1.trans ?_, h.2⟩
    congr 1
    have e0 : ∀ x : UInt8, ((x.toNat : Int) == 0) = decide (x = 0) := fun x => beq_u8 x 0
    simp only [zc291, veqL, veq, e0, Bool.and_true, adrOK, Bool.false_or, B16.list]
    rw [Bool.eq_iff_iff]
    simp [List.replicate]
  · exact (adrValid_t b w).mono fun v w' h => ⟨h.1.trans (by simp [adrOK]), h.2⟩

theorem adrOK_b0 (s : Bool) : adrOK ⟨s, b0⟩ = true := by cases s <;> rfl

theorem check_f (c : Cfg) (h : CfgOK c) (he : c.encap = false) (w : World) : CallV Try.prog 108 #[.agg (encCfg c).toArray] w fun v w' => v = i64 0 ∧ Ext w w' := by
  have hX : Ext w w := Ext.rfl' w
  obtain ⟨ks, hks1, hks⟩ := h.sizeP
  obtain ⟨kb, hkb1, hkb⟩ := h.bloomP
  refine Calls.of_W (N := 99) Try.func108 rfl rfl rfl ?_
  refine W.reg ?_
  refine WL.box (v := .agg _) rfl rfl rfl ?_
  intro b1 w1 hb1 hs1 hx1 hB1
  have hge1 := hX.size
  replace hX := hX.tr hx1
  refine WL.y (R.asg (v := .int _ _) rfl) rfl ?_
  refine WL.nil ?_
  refine W.reg ?_
  refine WL.y (R.fieldAddr fo33_0 rfl) rfl ?_
  refine WL.y (R.load sca3 rfl (hB1).r rfl) rfl ?_
  refine WL.call Try.func161 rfl rfl (within_T _ _ _ _ h.stages.1 h.stages.2) rfl rfl ?_
  rintro _ _ ⟨rfl, rfl⟩
  refine WL.y (R.mv (v := .bool true) rfl) rfl ?_
  refine WL.y (R.fieldAddr fo33_1 rfl) rfl ?_
  refine WL.y (R.load sca3 rfl (hB1).r rfl) rfl ?_
  refine WL.call Try.func162 rfl rfl (power_T _ _ _ _ h.size.1 h.size.2 ks (by omega) hks) rfl rfl ?_
  rintro _ _ ⟨rfl, rfl⟩
  refine WL.y (R.pkT (v := .bool true) rfl rfl) rfl ?_
  refine WL.y (R.mv (v := .bool true) rfl) rfl ?_
  refine WL.y (R.fieldAddr fo33_2 rfl) rfl ?_
  refine WL.y (R.load sca3 rfl (hB1).r rfl) rfl ?_
  refine WL.call Try.func161 rfl rfl (within_T _ _ _ _ h.digest.1 h.digest.2) rfl rfl ?_
  rintro _ _ ⟨rfl, rfl⟩
  refine WL.y (R.pkT (v := .bool true) rfl rfl) rfl ?_
  refine WL.y (R.mv (v := .bool true) rfl) rfl ?_
  refine WL.y (R.fieldAddr fo33_3 rfl) rfl ?_
  refine WL.y (R.load sca3 rfl (hB1).r rfl) rfl ?_
  refine WL.call Try.func162 rfl rfl (power_T _ _ _ _ h.bloom.1 h.bloom.2 kb (by omega) hkb) rfl rfl ?_
  rintro _ _ ⟨rfl, rfl⟩
  refine WL.y (R.pkT (v := .bool true) rfl rfl) rfl ?_
  refine WL.y (R.mv (v := .bool true) rfl) rfl ?_
  refine WL.y (R.fieldAddr fo33_4 rfl) rfl ?_
  refine WL.y (R.load sca3 rfl (hB1).r rfl) rfl ?_
  refine WL.call Try.func161 rfl rfl (within_T _ _ _ _ h.hashes.1 h.hashes.2) rfl rfl ?_
  rintro _ _ ⟨rfl, rfl⟩
  refine WL.y (R.pkT (v := .bool true) rfl rfl) rfl ?_
  refine WL.y (R.asg (v := .bool true) rfl) rfl ?_
  refine WL.nil ?_
  refine W.reg ?_
  refine WL.y (R.fieldAddr fo33_5 rfl) rfl ?_
  refine WL.y (R.load sca3 rfl (hB1).r rfl) rfl ?_
  refine WL.call Try.func161 rfl rfl (within_T _ _ _ _ h.slots.1 h.slots.2) rfl rfl ?_
  rintro _ _ ⟨rfl, rfl⟩
  refine WL.y (R.mv (v := .bool true) rfl) rfl ?_
  refine WL.y (R.fieldAddr fo33_6 rfl) rfl ?_
  refine WL.y (R.load sca3 rfl (hB1).r rfl) rfl ?_
  refine WL.call Try.func161 rfl rfl (within_T _ _ _ _ h.versions.1 h.versions.2) rfl rfl ?_
  rintro _ _ ⟨rfl, rfl⟩
  refine WL.y (R.pkT (v := .bool true) rfl rfl) rfl ?_
  refine WL.y (R.mv (v := .bool true) rfl) rfl ?_
  refine WL.y (R.fieldAddr fo33_7 rfl) rfl ?_
  refine WL.y (R.load sca3 rfl (hB1).r rfl) rfl ?_
  refine WL.call Try.func161 rfl rfl (within_T _ _ _ _ h.queue.1 h.queue.2) rfl rfl ?_
  rintro _ _ ⟨rfl, rfl⟩
  refine WL.y (R.pkT (v := .bool true) rfl rfl) rfl ?_
  refine WL.y (R.mv (v := .bool true) rfl) rfl ?_
  refine WL.y (R.fieldAddr fo33_8 rfl) rfl ?_
  refine WL.y (R.load sca3 rfl (hB1).r rfl) rfl ?_
  refine WL.call Try.func161 rfl rfl (within_T _ _ _ _ h.evict.1 h.evict.2) rfl rfl ?_
  rintro _ _ ⟨rfl, rfl⟩
  refine WL.y (R.pkT (v := .bool true) rfl rfl) rfl ?_
  refine WL.y (R.asg (v := .bool true) rfl) rfl ?_
  refine WL.nil ?_
  refine W.reg ?_
  refine WL.y (R.fieldAddr fo33_9 rfl) rfl ?_
  refine WL.y (R.load sca3 rfl (hB1).r rfl) rfl ?_
  refine WL.call Try.func161 rfl rfl (within_T _ _ _ _ h.idle.1 h.idle.2) rfl rfl ?_
  rintro _ _ ⟨rfl, rfl⟩
  refine WL.y (R.mv (v := .bool true) rfl) rfl ?_
  refine WL.y (R.fieldAddr fo33_10 rfl) rfl ?_
  refine WL.y (R.load sca3 rfl (hB1).r rfl) rfl ?_
  refine WL.call Try.func161 rfl rfl (within_T _ _ _ _ h.linger.1 h.linger.2) rfl rfl ?_
  rintro _ _ ⟨rfl, rfl⟩
  refine WL.y (R.pkT (v := .bool true) rfl rfl) rfl ?_
  refine WL.y (R.mv (v := .bool true) rfl) rfl ?_
  refine WL.y (R.fieldAddr fo33_11 rfl) rfl ?_
  refine WL.y (R.load sca3 rfl (hB1).r rfl) rfl ?_
  refine WL.call Try.func161 rfl rfl (within_T _ _ _ _ h.fails.1 h.fails.2) rfl rfl ?_
  rintro _ _ ⟨rfl, rfl⟩
  refine WL.y (R.pkT (v := .bool true) rfl rfl) rfl ?_
  refine WL.y (R.asg (v := .bool true) rfl) rfl ?_
  refine WL.nil ?_
  refine W.reg ?_
  refine WL.y (R.fieldAddr fo33_13 rfl) rfl ?_
  refine WL.y (R.loadA agg30 rfl (hB1).r rfl rfl) rfl ?_
  refine WL.call Try.func128 rfl rfl ((adrValid_calls adr0 _).val (y := bl true) rfl) rfl rfl ?_
  rintro _ w14 ⟨rfl, hx14⟩
  have hz14 := hx14.size
  replace hX := hX.tr hx14
  replace hB1 := hx14.blk hB1
  refine WL.y (R.mv (v := .bool true) rfl) rfl ?_
  refine WL.y (R.fieldAddr fo33_14 rfl) rfl ?_
  refine WL.y (R.loadA agg30 rfl (hB1).r rfl rfl) rfl ?_
  refine WL.call Try.func128 rfl rfl ((adrValid_calls ⟨c.six, b0⟩ _).val (y := bl true) (by rw [adrOK_b0])) rfl rfl ?_
  rintro _ w15 ⟨rfl, hx15⟩
  have hz15 := hx15.size
  replace hX := hX.tr hx15
  replace hB1 := hx15.blk hB1
  refine WL.y (R.pkT (v := .bool true) rfl rfl) rfl ?_
  refine WL.y (R.mv (v := .bool true) rfl) rfl ?_
  refine WL.y (R.fieldAddr fo33_12 rfl) rfl ?_
  refine WL.y (R.load (v := bl false) sca4 rfl hB1.r (by rw [← he]; rfl)) rfl ?_
  refine WL.y (R.notF rfl) rfl ?_
  refine WL.y (R.mv (v := .bool true) rfl) rfl ?_
  refine WL.skip rfl ?_
  refine WL.skip rfl ?_
  refine WL.skip rfl ?_
  refine WL.skip rfl ?_
  refine WL.skip rfl ?_
  refine WL.skip rfl ?_
  refine WL.skip rfl ?_
  refine WL.skip rfl ?_
  refine WL.skip rfl ?_
  refine WL.y (R.pkT (v := .bool true) rfl rfl) rfl ?_
  refine WL.y (R.pkT (v := .bool true) rfl rfl) rfl ?_
  refine WL.y (R.asg (v := .bool true) rfl) rfl ?_
  refine WL.nil ?_
  refine W.seq ?_
  refine W.reg ?_
  refine WL.y (R.mv (v := .bool true) rfl) rfl ?_
  refine WL.y (R.notT rfl) rfl ?_
  refine WL.y (R.mv (v := .bool false) rfl) rfl ?_
  refine WL.y (R.mv (v := .bool true) rfl) rfl ?_
  refine WL.y (R.notT rfl) rfl ?_
  refine WL.y (R.pkF (v := .bool false) rfl rfl) rfl ?_
  refine WL.y (R.mv (v := .bool false) rfl) rfl ?_
  refine WL.y (R.mv (v := .bool true) rfl) rfl ?_
  refine WL.y (R.notT rfl) rfl ?_
  refine WL.y (R.pkF (v := .bool false) rfl rfl) rfl ?_
  refine WL.y (R.mv (v := .bool false) rfl) rfl ?_
  refine WL.y (R.mv (v := .bool true) rfl) rfl ?_
  refine WL.y (R.notT rfl) rfl ?_
  refine WL.y (R.pkF (v := .bool false) rfl rfl) rfl ?_
  refine WL.nil ?_
  refine W.cond_f rfl ?_
  refine W.skip ?_
  refine W.reg ?_
  refine WL.y (R.asg (v := .int _ _) rfl) rfl ?_
  refine WL.nil ?_
  refine W.ret ?_
  exact PR.r1 rfl (.tmp rfl) ⟨rfl, hX⟩

theorem check_t (c : Cfg) (h : CfgOK c) (he : c.encap = true) (w : World) : CallV Try.prog 108 #[.agg (encCfg c).toArray] w fun v w' => v = i64 0 ∧ Ext w w' := by
  have hX : Ext w w := Ext.rfl' w
  obtain ⟨ks, hks1, hks⟩ := h.sizeP
  obtain ⟨kb, hkb1, hkb⟩ := h.bloomP
  refine Calls.of_W (N := 99) Try.func108 rfl rfl rfl ?_
  refine W.reg ?_
  refine WL.box (v := .agg _) rfl rfl rfl ?_
  intro b1 w1 hb1 hs1 hx1 hB1
  have hge1 := hX.size
  replace hX := hX.tr hx1
  refine WL.y (R.asg (v := .int _ _) rfl) rfl ?_
  refine WL.nil ?_
  refine W.reg ?_
  refine WL.y (R.fieldAddr fo33_0 rfl) rfl ?_
  refine WL.y (R.load sca3 rfl (hB1).r rfl) rfl ?_
  refine WL.call Try.func161 rfl rfl (within_T _ _ _ _ h.stages.1 h.stages.2) rfl rfl ?_
  rintro _ _ ⟨rfl, rfl⟩
  refine WL.y (R.mv (v := .bool true) rfl) rfl ?_
  refine WL.y (R.fieldAddr fo33_1 rfl) rfl ?_
  refine WL.y (R.load sca3 rfl (hB1).r rfl) rfl ?_
  refine WL.call Try.func162 rfl rfl (power_T _ _ _ _ h.size.1 h.size.2 ks (by omega) hks) rfl rfl ?_
  rintro _ _ ⟨rfl, rfl⟩
  refine WL.y (R.pkT (v := .bool true) rfl rfl) rfl ?_
  refine WL.y (R.mv (v := .bool true) rfl) rfl ?_
  refine WL.y (R.fieldAddr fo33_2 rfl) rfl ?_
  refine WL.y (R.load sca3 rfl (hB1).r rfl) rfl ?_
  refine WL.call Try.func161 rfl rfl (within_T _ _ _ _ h.digest.1 h.digest.2) rfl rfl ?_
  rintro _ _ ⟨rfl, rfl⟩
  refine WL.y (R.pkT (v := .bool true) rfl rfl) rfl ?_
  refine WL.y (R.mv (v := .bool true) rfl) rfl ?_
  refine WL.y (R.fieldAddr fo33_3 rfl) rfl ?_
  refine WL.y (R.load sca3 rfl (hB1).r rfl) rfl ?_
  refine WL.call Try.func162 rfl rfl (power_T _ _ _ _ h.bloom.1 h.bloom.2 kb (by omega) hkb) rfl rfl ?_
  rintro _ _ ⟨rfl, rfl⟩
  refine WL.y (R.pkT (v := .bool true) rfl rfl) rfl ?_
  refine WL.y (R.mv (v := .bool true) rfl) rfl ?_
  refine WL.y (R.fieldAddr fo33_4 rfl) rfl ?_
  refine WL.y (R.load sca3 rfl (hB1).r rfl) rfl ?_
  refine WL.call Try.func161 rfl rfl (within_T _ _ _ _ h.hashes.1 h.hashes.2) rfl rfl ?_
  rintro _ _ ⟨rfl, rfl⟩
  refine WL.y (R.pkT (v := .bool true) rfl rfl) rfl ?_
  refine WL.y (R.asg (v := .bool true) rfl) rfl ?_
  refine WL.nil ?_
  refine W.reg ?_
  refine WL.y (R.fieldAddr fo33_5 rfl) rfl ?_
  refine WL.y (R.load sca3 rfl (hB1).r rfl) rfl ?_
  refine WL.call Try.func161 rfl rfl (within_T _ _ _ _ h.slots.1 h.slots.2) rfl rfl ?_
  rintro _ _ ⟨rfl, rfl⟩
  refine WL.y (R.mv (v := .bool true) rfl) rfl ?_
  refine WL.y (R.fieldAddr fo33_6 rfl) rfl ?_
  refine WL.y (R.load sca3 rfl (hB1).r rfl) rfl ?_
  refine WL.call Try.func161 rfl rfl (within_T _ _ _ _ h.versions.1 h.versions.2) rfl rfl ?_
  rintro _ _ ⟨rfl, rfl⟩
  refine WL.y (R.pkT (v := .bool true) rfl rfl) rfl ?_
  refine WL.y (R.mv (v := .bool true) rfl) rfl ?_
  refine WL.y (R.fieldAddr fo33_7 rfl) rfl ?_
  refine WL.y (R.load sca3 rfl (hB1).r rfl) rfl ?_
  refine WL.call Try.func161 rfl rfl (within_T _ _ _ _ h.queue.1 h.queue.2) rfl rfl ?_
  rintro _ _ ⟨rfl, rfl⟩
  refine WL.y (R.pkT (v := .bool true) rfl rfl) rfl ?_
  refine WL.y (R.mv (v := .bool true) rfl) rfl ?_
  refine WL.y (R.fieldAddr fo33_8 rfl) rfl ?_
  refine WL.y (R.load sca3 rfl (hB1).r rfl) rfl ?_
  refine WL.call Try.func161 rfl rfl (within_T _ _ _ _ h.evict.1 h.evict.2) rfl rfl ?_
  rintro _ _ ⟨rfl, rfl⟩
  refine WL.y (R.pkT (v := .bool true) rfl rfl) rfl ?_
  refine WL.y (R.asg (v := .bool true) rfl) rfl ?_
  refine WL.nil ?_
  refine W.reg ?_
  refine WL.y (R.fieldAddr fo33_9 rfl) rfl ?_
  refine WL.y (R.load sca3 rfl (hB1).r rfl) rfl ?_
  refine WL.call Try.func161 rfl rfl (within_T _ _ _ _ h.idle.1 h.idle.2) rfl rfl ?_
  rintro _ _ ⟨rfl, rfl⟩
  refine WL.y (R.mv (v := .bool true) rfl) rfl ?_
  refine WL.y (R.fieldAddr fo33_10 rfl) rfl ?_
  refine WL.y (R.load sca3 rfl (hB1).r rfl) rfl ?_
  refine WL.call Try.func161 rfl rfl (within_T _ _ _ _ h.linger.1 h.linger.2) rfl rfl ?_
  rintro _ _ ⟨rfl, rfl⟩
  refine WL.y (R.pkT (v := .bool true) rfl rfl) rfl ?_
  refine WL.y (R.mv (v := .bool true) rfl) rfl ?_
  refine WL.y (R.fieldAddr fo33_11 rfl) rfl ?_
  refine WL.y (R.load sca3 rfl (hB1).r rfl) rfl ?_
  refine WL.call Try.func161 rfl rfl (within_T _ _ _ _ h.fails.1 h.fails.2) rfl rfl ?_
  rintro _ _ ⟨rfl, rfl⟩
  refine WL.y (R.pkT (v := .bool true) rfl rfl) rfl ?_
  refine WL.y (R.asg (v := .bool true) rfl) rfl ?_
  refine WL.nil ?_
  refine W.reg ?_
  refine WL.y (R.fieldAddr fo33_13 rfl) rfl ?_
  refine WL.y (R.loadA agg30 rfl (hB1).r rfl rfl) rfl ?_
  refine WL.call Try.func128 rfl rfl ((adrValid_calls adr0 _).val (y := bl true) rfl) rfl rfl ?_
  rintro _ w14 ⟨rfl, hx14⟩
  have hz14 := hx14.size
  replace hX := hX.tr hx14
  replace hB1 := hx14.blk hB1
  refine WL.y (R.mv (v := .bool true) rfl) rfl ?_
  refine WL.y (R.fieldAddr fo33_14 rfl) rfl ?_
  refine WL.y (R.loadA agg30 rfl (hB1).r rfl rfl) rfl ?_
  refine WL.call Try.func128 rfl rfl ((adrValid_calls ⟨c.six, b0⟩ _).val (y := bl true) (by rw [adrOK_b0])) rfl rfl ?_
  rintro _ w15 ⟨rfl, hx15⟩
  have hz15 := hx15.size
  replace hX := hX.tr hx15
  replace hB1 := hx15.blk hB1
  refine WL.y (R.pkT (v := .bool true) rfl rfl) rfl ?_
  refine WL.y (R.mv (v := .bool true) rfl) rfl ?_
  refine WL.y (R.fieldAddr fo33_12 rfl) rfl ?_
  refine WL.y (R.load (v := bl true) sca4 rfl hB1.r (by rw [← he]; rfl)) rfl ?_
  refine WL.y (R.notT rfl) rfl ?_
  refine WL.y (R.mv (v := .bool false) rfl) rfl ?_
  refine WL.y (R.fieldAddr fo33_13 rfl) rfl ?_
  refine WL.y (R.fieldAddr fo30_0 rfl) rfl ?_
  refine WL.y (R.load (v := bl false) sca4 rfl hB1.r rfl) rfl ?_
  refine WL.y (R.notF rfl) rfl ?_
  refine WL.y (R.mv (v := .bool true) rfl) rfl ?_
  refine WL.y (R.fieldAddr fo33_14 rfl) rfl ?_
  refine WL.y (R.fieldAddr fo30_0 rfl) rfl ?_
  refine WL.y (R.load (v := bl true) sca4 rfl hB1.r (by rw [← h.six]; rfl)) rfl ?_
  refine WL.y (R.pkT (v := .bool true) rfl rfl) rfl ?_
  refine WL.y (R.pkF (v := .bool true) rfl rfl) rfl ?_
  refine WL.y (R.pkT (v := .bool true) rfl rfl) rfl ?_
  refine WL.y (R.asg (v := .bool true) rfl) rfl ?_
  refine WL.nil ?_
  refine W.seq ?_
  refine W.reg ?_
  refine WL.y (R.mv (v := .bool true) rfl) rfl ?_
  refine WL.y (R.notT rfl) rfl ?_
  refine WL.y (R.mv (v := .bool false) rfl) rfl ?_
  refine WL.y (R.mv (v := .bool true) rfl) rfl ?_
  refine WL.y (R.notT rfl) rfl ?_
  refine WL.y (R.pkF (v := .bool false) rfl rfl) rfl ?_
  refine WL.y (R.mv (v := .bool false) rfl) rfl ?_
  refine WL.y (R.mv (v := .bool true) rfl) rfl ?_
  refine WL.y (R.notT rfl) rfl ?_
  refine WL.y (R.pkF (v := .bool false) rfl rfl) rfl ?_
  refine WL.y (R.mv (v := .bool false) rfl) rfl ?_
  refine WL.y (R.mv (v := .bool true) rfl) rfl ?_
  refine WL.y (R.notT rfl) rfl ?_
  refine WL.y (R.pkF (v := .bool false) rfl rfl) rfl ?_
  refine WL.nil ?_
  refine W.cond_f rfl ?_
  refine W.skip ?_
  refine W.reg ?_
  refine WL.y (R.asg (v := .int _ _) rfl) rfl ?_
  refine WL.nil ?_
  refine W.ret ?_
  exact PR.r1 rfl (.tmp rfl) ⟨rfl, hX⟩

theorem check_calls (c : Cfg) (h : CfgOK c) (w : World) : CallV Try.prog 108 #[.agg (encCfg c).toArray] w fun v w' => v = i64 0 ∧ Ext w w' := by
  cases he : c.encap
  · exact check_f c h he w
  · exact check_t c h he w

theorem check_zero (w : World) : CallV Try.prog 108 #[.agg (encCfg cfg0).toArray] w fun v w' => v = i64 1 ∧ Ext w w' := by
  have hX : Ext w w := Ext.rfl' w
  refine Calls.of_W (N := 99) Try.func108 rfl rfl rfl ?_
  refine W.reg ?_
  refine WL.box (v := .agg _) rfl rfl rfl ?_
  intro b1 w1 hb1 hs1 hx1 hB1
  have hge1 := hX.size
  replace hX := hX.tr hx1
  refine WL.y (R.asg (v := .int _ _) rfl) rfl ?_
  refine WL.nil ?_
  refine W.reg ?_
  refine WL.y (R.fieldAddr fo33_0 rfl) rfl ?_
  refine WL.y (R.load sca3 rfl (hB1).r rfl) rfl ?_
  refine WL.call Try.func161 rfl rfl (within_F _ _ _ _ (by decide)) rfl rfl ?_
  rintro _ _ ⟨rfl, rfl⟩
  refine WL.y (R.mv (v := .bool false) rfl) rfl ?_
  refine WL.skip rfl ?_
  refine WL.skip rfl ?_
  refine WL.skip rfl ?_
  refine WL.y (R.pkF (v := .bool false) rfl rfl) rfl ?_
  refine WL.y (R.mv (v := .bool false) rfl) rfl ?_
  refine WL.skip rfl ?_
  refine WL.skip rfl ?_
  refine WL.skip rfl ?_
  refine WL.y (R.pkF (v := .bool false) rfl rfl) rfl ?_
  refine WL.y (R.mv (v := .bool false) rfl) rfl ?_
  refine WL.skip rfl ?_
  refine WL.skip rfl ?_
  refine WL.skip rfl ?_
  refine WL.y (R.pkF (v := .bool false) rfl rfl) rfl ?_
  refine WL.y (R.mv (v := .bool false) rfl) rfl ?_
  refine WL.skip rfl ?_
  refine WL.skip rfl ?_
  refine WL.skip rfl ?_
  refine WL.y (R.pkF (v := .bool false) rfl rfl) rfl ?_
  refine WL.y (R.asg (v := .bool false) rfl) rfl ?_
  refine WL.nil ?_
  refine W.reg ?_
  refine WL.y (R.fieldAddr fo33_5 rfl) rfl ?_
  refine WL.y (R.load sca3 rfl (hB1).r rfl) rfl ?_
  refine WL.call Try.func161 rfl rfl (within_F _ _ _ _ (by decide)) rfl rfl ?_
  rintro _ _ ⟨rfl, rfl⟩
  refine WL.y (R.mv (v := .bool false) rfl) rfl ?_
  refine WL.skip rfl ?_
  refine WL.skip rfl ?_
  refine WL.skip rfl ?_
  refine WL.y (R.pkF (v := .bool false) rfl rfl) rfl ?_
  refine WL.y (R.mv (v := .bool false) rfl) rfl ?_
  refine WL.skip rfl ?_
  refine WL.skip rfl ?_
  refine WL.skip rfl ?_
  refine WL.y (R.pkF (v := .bool false) rfl rfl) rfl ?_
  refine WL.y (R.mv (v := .bool false) rfl) rfl ?_
  refine WL.skip rfl ?_
  refine WL.skip rfl ?_
  refine WL.skip rfl ?_
  refine WL.y (R.pkF (v := .bool false) rfl rfl) rfl ?_
  refine WL.y (R.asg (v := .bool false) rfl) rfl ?_
  refine WL.nil ?_
  refine W.reg ?_
  refine WL.y (R.fieldAddr fo33_9 rfl) rfl ?_
  refine WL.y (R.load sca3 rfl (hB1).r rfl) rfl ?_
  refine WL.call Try.func161 rfl rfl (within_F _ _ _ _ (by decide)) rfl rfl ?_
  rintro _ _ ⟨rfl, rfl⟩
  refine WL.y (R.mv (v := .bool false) rfl) rfl ?_
  refine WL.skip rfl ?_
  refine WL.skip rfl ?_
  refine WL.skip rfl ?_
  refine WL.y (R.pkF (v := .bool false) rfl rfl) rfl ?_
  refine WL.y (R.mv (v := .bool false) rfl) rfl ?_
  refine WL.skip rfl ?_
  refine WL.skip rfl ?_
  refine WL.skip rfl ?_
  refine WL.y (R.pkF (v := .bool false) rfl rfl) rfl ?_
  refine WL.y (R.asg (v := .bool false) rfl) rfl ?_
  refine WL.nil ?_
  refine W.reg ?_
  refine WL.y (R.fieldAddr fo33_13 rfl) rfl ?_
  refine WL.y (R.loadA agg30 rfl (hB1).r rfl rfl) rfl ?_
  refine WL.call Try.func128 rfl rfl ((adrValid_calls adr0 _).val (y := bl true) rfl) rfl rfl ?_
  rintro _ w5 ⟨rfl, hx5⟩
  have hz5 := hx5.size
  replace hX := hX.tr hx5
  replace hB1 := hx5.blk hB1
  refine WL.y (R.mv (v := .bool true) rfl) rfl ?_
  refine WL.y (R.fieldAddr fo33_14 rfl) rfl ?_
  refine WL.y (R.loadA agg30 rfl (hB1).r rfl rfl) rfl ?_
  refine WL.call Try.func128 rfl rfl ((adrValid_calls adr0 _).val (y := bl true) rfl) rfl rfl ?_
  rintro _ w6 ⟨rfl, hx6⟩
  have hz6 := hx6.size
  replace hX := hX.tr hx6
  replace hB1 := hx6.blk hB1
  refine WL.y (R.pkT (v := .bool true) rfl rfl) rfl ?_
  refine WL.y (R.mv (v := .bool true) rfl) rfl ?_
  refine WL.y (R.fieldAddr fo33_12 rfl) rfl ?_
  refine WL.y (R.load sca4 rfl (hB1).r rfl) rfl ?_
  refine WL.y (R.notF rfl) rfl ?_
  refine WL.y (R.mv (v := .bool true) rfl) rfl ?_
  refine WL.skip rfl ?_
  refine WL.skip rfl ?_
  refine WL.skip rfl ?_
  refine WL.skip rfl ?_
  refine WL.skip rfl ?_
  refine WL.skip rfl ?_
  refine WL.skip rfl ?_
  refine WL.skip rfl ?_
  refine WL.skip rfl ?_
  refine WL.y (R.pkT (v := .bool true) rfl rfl) rfl ?_
  refine WL.y (R.pkT (v := .bool true) rfl rfl) rfl ?_
  refine WL.y (R.asg (v := .bool true) rfl) rfl ?_
  refine WL.nil ?_
  refine W.seq ?_
  refine W.reg ?_
  refine WL.y (R.mv (v := .bool false) rfl) rfl ?_
  refine WL.y (R.notF rfl) rfl ?_
  refine WL.y (R.mv (v := .bool true) rfl) rfl ?_
  refine WL.skip rfl ?_
  refine WL.skip rfl ?_
  refine WL.y (R.pkT (v := .bool true) rfl rfl) rfl ?_
  refine WL.y (R.mv (v := .bool true) rfl) rfl ?_
  refine WL.skip rfl ?_
  refine WL.skip rfl ?_
  refine WL.y (R.pkT (v := .bool true) rfl rfl) rfl ?_
  refine WL.y (R.mv (v := .bool true) rfl) rfl ?_
  refine WL.skip rfl ?_
  refine WL.skip rfl ?_
  refine WL.y (R.pkT (v := .bool true) rfl rfl) rfl ?_
  refine WL.nil ?_
  refine W.cond_t rfl ?_
  refine W.reg ?_
  refine WL.y (R.asg (v := .int _ _) rfl) rfl ?_
  refine WL.nil ?_
  refine W.ret ?_
  exact PR.r1 rfl (.tmp rfl) ⟨rfl, hX⟩

def protoOK (p : UInt8) : Bool := decide (p = 6) || decide (p = 17)
def vipOK (v : Vip) : Bool := protoOK v.proto && adrOK v.adr
def keyOK (k : Key) : Bool := protoOK k.proto && adrOK k.src && adrOK k.dst && decide (k.src.v6 = k.dst.v6)
def keyVip (k : Key) : Vip := ⟨k.proto, k.dst, k.dport⟩
theorem proto_ne {p q : UInt8} (h : ¬ p = q) : ¬ ((p.toNat : Int) = (q.toNat : Int)) := fun e => h (UInt8.toNat_inj.1 (by omega))

theorem vipValid_6 (v : Vip) (hp : v.proto = 6) (w : World) : CallV Try.prog 60 #[.agg (encVip v).toArray] w fun r w' => r = bl (adrOK v.adr) ∧ Ext w w' := by
  have hX : Ext w w := Ext.rfl' w
  refine Calls.of_W (N := 16) Try.func60 rfl rfl rfl ?_
  refine W.reg ?_
  refine WL.box (v := .agg _) rfl rfl rfl ?_
  intro b1 w1 hb1 hs1 hx1 hB1
  have hge1 := hX.size
  replace hX := hX.tr hx1
  refine WL.y (R.asg (v := .bool false) rfl) rfl ?_
  refine WL.nil ?_
  refine W.reg ?_
  refine WL.y (R.fieldAddr fo42_0 rfl) rfl ?_
  refine WL.y (R.load sca5 rfl (hB1).r rfl) rfl ?_
  refine WL.y (R.eqlT rfl rfl (by rw [hp]; rfl)) rfl ?_
  refine WL.y (R.mv (v := .bool true) rfl) rfl ?_
  refine WL.skip rfl ?_
  refine WL.skip rfl ?_
  refine WL.skip rfl ?_
  refine WL.y (R.pkT (v := .bool true) rfl rfl) rfl ?_
  refine WL.y (R.mv (v := .bool true) rfl) rfl ?_
  refine WL.y (R.fieldAddr fo42_1 rfl) rfl ?_
  refine WL.y (R.loadA agg30 rfl (hB1).r rfl rfl) rfl ?_
  refine WL.call Try.func128 rfl rfl (adrValid_calls v.adr _) rfl rfl ?_
  rintro _ w2 ⟨rfl, hx2⟩
  have hz2 := hx2.size
  replace hX := hX.tr hx2
  replace hB1 := hx2.blk hB1
  refine WL.y (R.pkT (v := .bool _) rfl rfl) rfl ?_
  refine WL.y (R.asg (v := .bool _) rfl) rfl ?_
  refine WL.nil ?_
  refine W.ret ?_
  exact PR.r1 rfl (.tmp rfl) ⟨rfl, hX⟩

theorem vipValid_17 (v : Vip) (hp : v.proto = 17) (w : World) : CallV Try.prog 60 #[.agg (encVip v).toArray] w fun r w' => r = bl (adrOK v.adr) ∧ Ext w w' := by
  have hX : Ext w w := Ext.rfl' w
  refine Calls.of_W (N := 16) Try.func60 rfl rfl rfl ?_
  refine W.reg ?_
  refine WL.box (v := .agg _) rfl rfl rfl ?_
  intro b1 w1 hb1 hs1 hx1 hB1
  have hge1 := hX.size
  replace hX := hX.tr hx1
  refine WL.y (R.asg (v := .bool false) rfl) rfl ?_
  refine WL.nil ?_
  refine W.reg ?_
  refine WL.y (R.fieldAddr fo42_0 rfl) rfl ?_
  refine WL.y (R.load sca5 rfl (hB1).r rfl) rfl ?_
  refine WL.y (R.eqlF rfl rfl (by rw [hp]; decide)) rfl ?_
  refine WL.y (R.mv (v := .bool false) rfl) rfl ?_
  refine WL.y (R.fieldAddr fo42_0 rfl) rfl ?_
  refine WL.y (R.load sca5 rfl (hB1).r rfl) rfl ?_
  refine WL.y (R.eqlT rfl rfl (by rw [hp]; rfl)) rfl ?_
  refine WL.y (R.pkF (v := .bool true) rfl rfl) rfl ?_
  refine WL.y (R.mv (v := .bool true) rfl) rfl ?_
  refine WL.y (R.fieldAddr fo42_1 rfl) rfl ?_
  refine WL.y (R.loadA agg30 rfl (hB1).r rfl rfl) rfl ?_
  refine WL.call Try.func128 rfl rfl (adrValid_calls v.adr _) rfl rfl ?_
  rintro _ w2 ⟨rfl, hx2⟩
  have hz2 := hx2.size
  replace hX := hX.tr hx2
  replace hB1 := hx2.blk hB1
  refine WL.y (R.pkT (v := .bool _) rfl rfl) rfl ?_
  refine WL.y (R.asg (v := .bool _) rfl) rfl ?_
  refine WL.nil ?_
  refine W.ret ?_
  exact PR.r1 rfl (.tmp rfl) ⟨rfl, hX⟩

theorem vipValid_no (v : Vip) (h6 : ¬ v.proto = 6) (h17 : ¬ v.proto = 17) (w : World) : CallV Try.prog 60 #[.agg (encVip v).toArray] w fun r w' => r = bl false ∧ Ext w w' := by
  have hX : Ext w w := Ext.rfl' w
  refine Calls.of_W (N := 16) Try.func60 rfl rfl rfl ?_
  refine W.reg ?_
  refine WL.box (v := .agg _) rfl rfl rfl ?_
  intro b1 w1 hb1 hs1 hx1 hB1
  have hge1 := hX.size
  replace hX := hX.tr hx1
  refine WL.y (R.asg (v := .bool false) rfl) rfl ?_
  refine WL.nil ?_
  refine W.reg ?_
  refine WL.y (R.fieldAddr fo42_0 rfl) rfl ?_
  refine WL.y (R.load sca5 rfl (hB1).r rfl) rfl ?_
  refine WL.y (R.eqlF rfl rfl (proto_ne h6)) rfl ?_
  refine WL.y (R.mv (v := .bool false) rfl) rfl ?_
  refine WL.y (R.fieldAddr fo42_0 rfl) rfl ?_
  refine WL.y (R.load sca5 rfl (hB1).r rfl) rfl ?_
  refine WL.y (R.eqlF rfl rfl (proto_ne h17)) rfl ?_
  refine WL.y (R.pkF (v := .bool false) rfl rfl) rfl ?_
  refine WL.y (R.mv (v := .bool false) rfl) rfl ?_
  refine WL.skip rfl ?_
  refine WL.skip rfl ?_
  refine WL.skip rfl ?_
  refine WL.y (R.pkF (v := .bool false) rfl rfl) rfl ?_
  refine WL.y (R.asg (v := .bool false) rfl) rfl ?_
  refine WL.nil ?_
  refine W.ret ?_
  exact PR.r1 rfl (.tmp rfl) ⟨rfl, hX⟩

theorem vipValid_calls (v : Vip) (w : World) : CallV Try.prog 60 #[.agg (encVip v).toArray] w fun r w' => r = bl (vipOK v) ∧ Ext w w' := by
  by_cases h6 : v.proto = 6
  · exact (vipValid_6 v h6 w).mono fun r w' h => ⟨h.1.trans (by simp [vipOK, protoOK, h6]), h.2⟩
  · by_cases h17 : v.proto = 17
    · exact (vipValid_17 v h17 w).mono fun r w' h => ⟨h.1.trans (by simp [vipOK, protoOK, h17]), h.2⟩
    · exact (vipValid_no v h6 h17 w).mono fun r w' h => ⟨h.1.trans (by simp [vipOK, protoOK, h6, h17]), h.2⟩

theorem keyValid_6_s (k : Key) (hp : k.proto = 6) (hs : adrOK k.src = false) (w : World) : CallV Try.prog 115 #[.agg (encKey k).toArray] w fun r w' => r = bl false ∧ Ext w w' := by
  have hX : Ext w w := Ext.rfl' w
  refine Calls.of_W (N := 30) Try.func115 rfl rfl rfl ?_
  refine W.reg ?_
  refine WL.box (v := .agg _) rfl rfl rfl ?_
  intro b1 w1 hb1 hs1 hx1 hB1
  have hge1 := hX.size
  replace hX := hX.tr hx1
  refine WL.y (R.asg (v := .bool false) rfl) rfl ?_
  refine WL.nil ?_
  refine W.reg ?_
  refine WL.y (R.fieldAddr fo37_0 rfl) rfl ?_
  refine WL.y (R.load sca5 rfl (hB1).r rfl) rfl ?_
  refine WL.y (R.eqlT rfl rfl (by rw [hp]; rfl)) rfl ?_
  refine WL.y (R.mv (v := .bool true) rfl) rfl ?_
  refine WL.skip rfl ?_
  refine WL.skip rfl ?_
  refine WL.skip rfl ?_
  refine WL.y (R.pkT (v := .bool true) rfl rfl) rfl ?_
  refine WL.y (R.mv (v := .bool true) rfl) rfl ?_
  refine WL.y (R.fieldAddr fo37_1 rfl) rfl ?_
  refine WL.y (R.loadA agg30 rfl (hB1).r rfl rfl) rfl ?_
  refine WL.call Try.func128 rfl rfl ((adrValid_calls k.src _).val (y := bl false) (by rw [hs])) rfl rfl ?_
  rintro _ w2 ⟨rfl, hx2⟩
  have hz2 := hx2.size
  replace hX := hX.tr hx2
  replace hB1 := hx2.blk hB1
  refine WL.y (R.pkT (v := .bool false) rfl rfl) rfl ?_
  refine WL.y (R.mv (v := .bool false) rfl) rfl ?_
  refine WL.skip rfl ?_
  refine WL.skip rfl ?_
  refine WL.skip rfl ?_
  refine WL.y (R.pkF (v := .bool false) rfl rfl) rfl ?_
  refine WL.y (R.mv (v := .bool false) rfl) rfl ?_
  refine WL.skip rfl ?_
  refine WL.skip rfl ?_
  refine WL.skip rfl ?_
  refine WL.skip rfl ?_
  refine WL.skip rfl ?_
  refine WL.skip rfl ?_
  refine WL.skip rfl ?_
  refine WL.y (R.pkF (v := .bool false) rfl rfl) rfl ?_
  refine WL.y (R.asg (v := .bool false) rfl) rfl ?_
  refine WL.nil ?_
  refine W.ret ?_
  exact PR.r1 rfl (.tmp rfl) ⟨rfl, hX⟩

theorem keyValid_6_d (k : Key) (hp : k.proto = 6) (hs : adrOK k.src = true) (hd : adrOK k.dst = false) (w : World) : CallV Try.prog 115 #[.agg (encKey k).toArray] w fun r w' => r = bl false ∧ Ext w w' := by
  have hX : Ext w w := Ext.rfl' w
  refine Calls.of_W (N := 30) Try.func115 rfl rfl rfl ?_
  refine W.reg ?_
  refine WL.box (v := .agg _) rfl rfl rfl ?_
  intro b1 w1 hb1 hs1 hx1 hB1
  have hge1 := hX.size
  replace hX := hX.tr hx1
  refine WL.y (R.asg (v := .bool false) rfl) rfl ?_
  refine WL.nil ?_
  refine W.reg ?_
  refine WL.y (R.fieldAddr fo37_0 rfl) rfl ?_
  refine WL.y (R.load sca5 rfl (hB1).r rfl) rfl ?_
  refine WL.y (R.eqlT rfl rfl (by rw [hp]; rfl)) rfl ?_
  refine WL.y (R.mv (v := .bool true) rfl) rfl ?_
  refine WL.skip rfl ?_
  refine WL.skip rfl ?_
  refine WL.skip rfl ?_
  refine WL.y (R.pkT (v := .bool true) rfl rfl) rfl ?_
  refine WL.y (R.mv (v := .bool true) rfl) rfl ?_
  refine WL.y (R.fieldAddr fo37_1 rfl) rfl ?_
  refine WL.y (R.loadA agg30 rfl (hB1).r rfl rfl) rfl ?_
  refine WL.call Try.func128 rfl rfl ((adrValid_calls k.src _).val (y := bl true) (by rw [hs])) rfl rfl ?_
  rintro _ w2 ⟨rfl, hx2⟩
  have hz2 := hx2.size
  replace hX := hX.tr hx2
  replace hB1 := hx2.blk hB1
  refine WL.y (R.pkT (v := .bool true) rfl rfl) rfl ?_
  refine WL.y (R.mv (v := .bool true) rfl) rfl ?_
  refine WL.y (R.fieldAddr fo37_2 rfl) rfl ?_
  refine WL.y (R.loadA agg30 rfl (hB1).r rfl rfl) rfl ?_
  refine WL.call Try.func128 rfl rfl ((adrValid_calls k.dst _).val (y := bl false) (by rw [hd])) rfl rfl ?_
  rintro _ w3 ⟨rfl, hx3⟩
  have hz3 := hx3.size
  replace hX := hX.tr hx3
  replace hB1 := hx3.blk hB1
  refine WL.y (R.pkT (v := .bool false) rfl rfl) rfl ?_
  refine WL.y (R.mv (v := .bool false) rfl) rfl ?_
  refine WL.skip rfl ?_
  refine WL.skip rfl ?_
  refine WL.skip rfl ?_
  refine WL.skip rfl ?_
  refine WL.skip rfl ?_
  refine WL.skip rfl ?_
  refine WL.skip rfl ?_
  refine WL.y (R.pkF (v := .bool false) rfl rfl) rfl ?_
  refine WL.y (R.asg (v := .bool false) rfl) rfl ?_
  refine WL.nil ?_
  refine W.ret ?_
  exact PR.r1 rfl (.tmp rfl) ⟨rfl, hX⟩

theorem keyValid_6_k (k : Key) (hp : k.proto = 6) (hs : adrOK k.src = true) (hd : adrOK k.dst = true) (w : World) : CallV Try.prog 115 #[.agg (encKey k).toArray] w fun r w' => r = bl (k.src.v6 == k.dst.v6) ∧ Ext w w' := by
  have hX : Ext w w := Ext.rfl' w
  refine Calls.of_W (N := 30) Try.func115 rfl rfl rfl ?_
  refine W.reg ?_
  refine WL.box (v := .agg _) rfl rfl rfl ?_
  intro b1 w1 hb1 hs1 hx1 hB1
  have hge1 := hX.size
  replace hX := hX.tr hx1
  refine WL.y (R.asg (v := .bool false) rfl) rfl ?_
  refine WL.nil ?_
  refine W.reg ?_
  refine WL.y (R.fieldAddr fo37_0 rfl) rfl ?_
  refine WL.y (R.load sca5 rfl (hB1).r rfl) rfl ?_
  refine WL.y (R.eqlT rfl rfl (by rw [hp]; rfl)) rfl ?_
  refine WL.y (R.mv (v := .bool true) rfl) rfl ?_
  refine WL.skip rfl ?_
  refine WL.skip rfl ?_
  refine WL.skip rfl ?_
  refine WL.y (R.pkT (v := .bool true) rfl rfl) rfl ?_
  refine WL.y (R.mv (v := .bool true) rfl) rfl ?_
  refine WL.y (R.fieldAddr fo37_1 rfl) rfl ?_
  refine WL.y (R.loadA agg30 rfl (hB1).r rfl rfl) rfl ?_
  refine WL.call Try.func128 rfl rfl ((adrValid_calls k.src _).val (y := bl true) (by rw [hs])) rfl rfl ?_
  rintro _ w2 ⟨rfl, hx2⟩
  have hz2 := hx2.size
  replace hX := hX.tr hx2
  replace hB1 := hx2.blk hB1
  refine WL.y (R.pkT (v := .bool true) rfl rfl) rfl ?_
  refine WL.y (R.mv (v := .bool true) rfl) rfl ?_
  refine WL.y (R.fieldAddr fo37_2 rfl) rfl ?_
  refine WL.y (R.loadA agg30 rfl (hB1).r rfl rfl) rfl ?_
  refine WL.call Try.func128 rfl rfl ((adrValid_calls k.dst _).val (y := bl true) (by rw [hd])) rfl rfl ?_
  rintro _ w3 ⟨rfl, hx3⟩
  have hz3 := hx3.size
  replace hX := hX.tr hx3
  replace hB1 := hx3.blk hB1
  refine WL.y (R.pkT (v := .bool true) rfl rfl) rfl ?_
  refine WL.y (R.mv (v := .bool true) rfl) rfl ?_
  refine WL.y (R.fieldAddr fo37_1 rfl) rfl ?_
  refine WL.y (R.fieldAddr fo30_0 rfl) rfl ?_
  refine WL.y (R.load sca4 rfl (hB1).r rfl) rfl ?_
  refine WL.y (R.fieldAddr fo37_2 rfl) rfl ?_
  refine WL.y (R.fieldAddr fo30_0 rfl) rfl ?_
  refine WL.y (R.load sca4 rfl (hB1).r rfl) rfl ?_
  refine WL.y (R.eqlB Try.underlying4 rfl rfl) rfl ?_
  refine WL.y (R.pkT (v := .bool _) rfl rfl) rfl ?_
  refine WL.y (R.asg (v := .bool _) rfl) rfl ?_
  refine WL.nil ?_
  refine W.ret ?_
  exact PR.r1 rfl (.tmp rfl) ⟨rfl, hX⟩

theorem keyValid_17_s (k : Key) (hp : k.proto = 17) (hs : adrOK k.src = false) (w : World) : CallV Try.prog 115 #[.agg (encKey k).toArray] w fun r w' => r = bl false ∧ Ext w w' := by
  have hX : Ext w w := Ext.rfl' w
  refine Calls.of_W (N := 30) Try.func115 rfl rfl rfl ?_
  refine W.reg ?_
  refine WL.box (v := .agg _) rfl rfl rfl ?_
  intro b1 w1 hb1 hs1 hx1 hB1
  have hge1 := hX.size
  replace hX := hX.tr hx1
  refine WL.y (R.asg (v := .bool false) rfl) rfl ?_
  refine WL.nil ?_
  refine W.reg ?_
  refine WL.y (R.fieldAddr fo37_0 rfl) rfl ?_
  refine WL.y (R.load sca5 rfl (hB1).r rfl) rfl ?_
  refine WL.y (R.eqlF rfl rfl (by rw [hp]; decide)) rfl ?_
  refine WL.y (R.mv (v := .bool false) rfl) rfl ?_
  refine WL.y (R.fieldAddr fo37_0 rfl) rfl ?_
  refine WL.y (R.load sca5 rfl (hB1).r rfl) rfl ?_
  refine WL.y (R.eqlT rfl rfl (by rw [hp]; rfl)) rfl ?_
  refine WL.y (R.pkF (v := .bool true) rfl rfl) rfl ?_
  refine WL.y (R.mv (v := .bool true) rfl) rfl ?_
  refine WL.y (R.fieldAddr fo37_1 rfl) rfl ?_
  refine WL.y (R.loadA agg30 rfl (hB1).r rfl rfl) rfl ?_
  refine WL.call Try.func128 rfl rfl ((adrValid_calls k.src _).val (y := bl false) (by rw [hs])) rfl rfl ?_
  rintro _ w2 ⟨rfl, hx2⟩
  have hz2 := hx2.size
  replace hX := hX.tr hx2
  replace hB1 := hx2.blk hB1
  refine WL.y (R.pkT (v := .bool false) rfl rfl) rfl ?_
  refine WL.y (R.mv (v := .bool false) rfl) rfl ?_
  refine WL.skip rfl ?_
  refine WL.skip rfl ?_
  refine WL.skip rfl ?_
  refine WL.y (R.pkF (v := .bool false) rfl rfl) rfl ?_
  refine WL.y (R.mv (v := .bool false) rfl) rfl ?_
  refine WL.skip rfl ?_
  refine WL.skip rfl ?_
  refine WL.skip rfl ?_
  refine WL.skip rfl ?_
  refine WL.skip rfl ?_
  refine WL.skip rfl ?_
  refine WL.skip rfl ?_
  refine WL.y (R.pkF (v := .bool false) rfl rfl) rfl ?_
  refine WL.y (R.asg (v := .bool false) rfl) rfl ?_
  refine WL.nil ?_
  refine W.ret ?_
  exact PR.r1 rfl (.tmp rfl) ⟨rfl, hX⟩

theorem keyValid_17_d (k : Key) (hp : k.proto = 17) (hs : adrOK k.src = true) (hd : adrOK k.dst = false) (w : World) : CallV Try.prog 115 #[.agg (encKey k).toArray] w fun r w' => r = bl false ∧ Ext w w' := by
  have hX : Ext w w := Ext.rfl' w
  refine Calls.of_W (N := 30) Try.func115 rfl rfl rfl ?_
  refine W.reg ?_
  refine WL.box (v := .agg _) rfl rfl rfl ?_
  intro b1 w1 hb1 hs1 hx1 hB1
  have hge1 := hX.size
  replace hX := hX.tr hx1
  refine WL.y (R.asg (v := .bool false) rfl) rfl ?_
  refine WL.nil ?_
  refine W.reg ?_
  refine WL.y (R.fieldAddr fo37_0 rfl) rfl ?_
  refine WL.y (R.load sca5 rfl (hB1).r rfl) rfl ?_
  refine WL.y (R.eqlF rfl rfl (by rw [hp]; decide)) rfl ?_
  refine WL.y (R.mv (v := .bool false) rfl) rfl ?_
  refine WL.y (R.fieldAddr fo37_0 rfl) rfl ?_
  refine WL.y (R.load sca5 rfl (hB1).r rfl) rfl ?_
  refine WL.y (R.eqlT rfl rfl (by rw [hp]; rfl)) rfl ?_
  refine WL.y (R.pkF (v := .bool true) rfl rfl) rfl ?_
  refine WL.y (R.mv (v := .bool true) rfl) rfl ?_
  refine WL.y (R.fieldAddr fo37_1 rfl) rfl ?_
  refine WL.y (R.loadA agg30 rfl (hB1).r rfl rfl) rfl ?_
  refine WL.call Try.func128 rfl rfl ((adrValid_calls k.src _).val (y := bl true) (by rw [hs])) rfl rfl ?_
  rintro _ w2 ⟨rfl, hx2⟩
  have hz2 := hx2.size
  replace hX := hX.tr hx2
  replace hB1 := hx2.blk hB1
  refine WL.y (R.pkT (v := .bool true) rfl rfl) rfl ?_
  refine WL.y (R.mv (v := .bool true) rfl) rfl ?_
  refine WL.y (R.fieldAddr fo37_2 rfl) rfl ?_
  refine WL.y (R.loadA agg30 rfl (hB1).r rfl rfl) rfl ?_
  refine WL.call Try.func128 rfl rfl ((adrValid_calls k.dst _).val (y := bl false) (by rw [hd])) rfl rfl ?_
  rintro _ w3 ⟨rfl, hx3⟩
  have hz3 := hx3.size
  replace hX := hX.tr hx3
  replace hB1 := hx3.blk hB1
  refine WL.y (R.pkT (v := .bool false) rfl rfl) rfl ?_
  refine WL.y (R.mv (v := .bool false) rfl) rfl ?_
  refine WL.skip rfl ?_
  refine WL.skip rfl ?_
  refine WL.skip rfl ?_
  refine WL.skip rfl ?_
  refine WL.skip rfl ?_
  refine WL.skip rfl ?_
  refine WL.skip rfl ?_
  refine WL.y (R.pkF (v := .bool false) rfl rfl) rfl ?_
  refine WL.y (R.asg (v := .bool false) rfl) rfl ?_
  refine WL.nil ?_
  refine W.ret ?_
  exact PR.r1 rfl (.tmp rfl) ⟨rfl, hX⟩

theorem keyValid_17_k (k : Key) (hp : k.proto = 17) (hs : adrOK k.src = true) (hd : adrOK k.dst = true) (w : World) : CallV Try.prog 115 #[.agg (encKey k).toArray] w fun r w' => r = bl (k.src.v6 == k.dst.v6) ∧ Ext w w' := by
  have hX : Ext w w := Ext.rfl' w
  refine Calls.of_W (N := 30) Try.func115 rfl rfl rfl ?_
  refine W.reg ?_
  refine WL.box (v := .agg _) rfl rfl rfl ?_
  intro b1 w1 hb1 hs1 hx1 hB1
  have hge1 := hX.size
  replace hX := hX.tr hx1
  refine WL.y (R.asg (v := .bool false) rfl) rfl ?_
  refine WL.nil ?_
  refine W.reg ?_
  refine WL.y (R.fieldAddr fo37_0 rfl) rfl ?_
  refine WL.y (R.load sca5 rfl (hB1).r rfl) rfl ?_
  refine WL.y (R.eqlF rfl rfl (by rw [hp]; decide)) rfl ?_
  refine WL.y (R.mv (v := .bool false) rfl) rfl ?_
  refine WL.y (R.fieldAddr fo37_0 rfl) rfl ?_
  refine WL.y (R.load sca5 rfl (hB1).r rfl) rfl ?_
  refine WL.y (R.eqlT rfl rfl (by rw [hp]; rfl)) rfl ?_
  refine WL.y (R.pkF (v := .bool true) rfl rfl) rfl ?_
  refine WL.y (R.mv (v := .bool true) rfl) rfl ?_
  refine WL.y (R.fieldAddr fo37_1 rfl) rfl ?_
  refine WL.y (R.loadA agg30 rfl (hB1).r rfl rfl) rfl ?_
  refine WL.call Try.func128 rfl rfl ((adrValid_calls k.src _).val (y := bl true) (by rw [hs])) rfl rfl ?_
  rintro _ w2 ⟨rfl, hx2⟩
  have hz2 := hx2.size
  replace hX := hX.tr hx2
  replace hB1 := hx2.blk hB1
  refine WL.y (R.pkT (v := .bool true) rfl rfl) rfl ?_
  refine WL.y (R.mv (v := .bool true) rfl) rfl ?_
  refine WL.y (R.fieldAddr fo37_2 rfl) rfl ?_
  refine WL.y (R.loadA agg30 rfl (hB1).r rfl rfl) rfl ?_
  refine WL.call Try.func128 rfl rfl ((adrValid_calls k.dst _).val (y := bl true) (by rw [hd])) rfl rfl ?_
  rintro _ w3 ⟨rfl, hx3⟩
  have hz3 := hx3.size
  replace hX := hX.tr hx3
  replace hB1 := hx3.blk hB1
  refine WL.y (R.pkT (v := .bool true) rfl rfl) rfl ?_
  refine WL.y (R.mv (v := .bool true) rfl) rfl ?_
  refine WL.y (R.fieldAddr fo37_1 rfl) rfl ?_
  refine WL.y (R.fieldAddr fo30_0 rfl) rfl ?_
  refine WL.y (R.load sca4 rfl (hB1).r rfl) rfl ?_
  refine WL.y (R.fieldAddr fo37_2 rfl) rfl ?_
  refine WL.y (R.fieldAddr fo30_0 rfl) rfl ?_
  refine WL.y (R.load sca4 rfl (hB1).r rfl) rfl ?_
  refine WL.y (R.eqlB Try.underlying4 rfl rfl) rfl ?_
  refine WL.y (R.pkT (v := .bool _) rfl rfl) rfl ?_
  refine WL.y (R.asg (v := .bool _) rfl) rfl ?_
  refine WL.nil ?_
  refine W.ret ?_
  exact PR.r1 rfl (.tmp rfl) ⟨rfl, hX⟩

theorem keyValid_no (k : Key) (h6 : ¬ k.proto = 6) (h17 : ¬ k.proto = 17) (w : World) : CallV Try.prog 115 #[.agg (encKey k).toArray] w fun r w' => r = bl false ∧ Ext w w' := by
  have hX : Ext w w := Ext.rfl' w
  refine Calls.of_W (N := 30) Try.func115 rfl rfl rfl ?_
  refine W.reg ?_
  refine WL.box (v := .agg _) rfl rfl rfl ?_
  intro b1 w1 hb1 hs1 hx1 hB1
  have hge1 := hX.size
  replace hX := hX.tr hx1
  refine WL.y (R.asg (v := .bool false) rfl) rfl ?_
  refine WL.nil ?_
  refine W.reg ?_
  refine WL.y (R.fieldAddr fo37_0 rfl) rfl ?_
  refine WL.y (R.load sca5 rfl (hB1).r rfl) rfl ?_
  refine WL.y (R.eqlF rfl rfl (proto_ne h6)) rfl ?_
  refine WL.y (R.mv (v := .bool false) rfl) rfl ?_
  refine WL.y (R.fieldAddr fo37_0 rfl) rfl ?_
  refine WL.y (R.load sca5 rfl (hB1).r rfl) rfl ?_
  refine WL.y (R.eqlF rfl rfl (proto_ne h17)) rfl ?_
  refine WL.y (R.pkF (v := .bool false) rfl rfl) rfl ?_
  refine WL.y (R.mv (v := .bool false) rfl) rfl ?_
  refine WL.skip rfl ?_
  refine WL.skip rfl ?_
  refine WL.skip rfl ?_
  refine WL.y (R.pkF (v := .bool false) rfl rfl) rfl ?_
  refine WL.y (R.mv (v := .bool false) rfl) rfl ?_
  refine WL.skip rfl ?_
  refine WL.skip rfl ?_
  refine WL.skip rfl ?_
  refine WL.y (R.pkF (v := .bool false) rfl rfl) rfl ?_
  refine WL.y (R.mv (v := .bool false) rfl) rfl ?_
  refine WL.skip rfl ?_
  refine WL.skip rfl ?_
  refine WL.skip rfl ?_
  refine WL.skip rfl ?_
  refine WL.skip rfl ?_
  refine WL.skip rfl ?_
  refine WL.skip rfl ?_
  refine WL.y (R.pkF (v := .bool false) rfl rfl) rfl ?_
  refine WL.y (R.asg (v := .bool false) rfl) rfl ?_
  refine WL.nil ?_
  refine W.ret ?_
  exact PR.r1 rfl (.tmp rfl) ⟨rfl, hX⟩

theorem keyValid_calls (k : Key) (w : World) : CallV Try.prog 115 #[.agg (encKey k).toArray] w fun r w' => r = bl (keyOK k) ∧ Ext w w' := by
  have eb : ∀ a b : Bool, (a == b) = decide (a = b) := by decide
  cases hs : adrOK k.src <;> cases hd : adrOK k.dst <;> by_cases h6 : k.proto = 6
  all_goals first
    | exact (keyValid_6_k k h6 hs hd w).mono fun r w' h => ⟨h.1.trans (by simp [keyOK, protoOK, h6, hs, hd, eb]), h.2⟩
    | exact (keyValid_6_d k h6 hs hd w).mono fun r w' h => ⟨h.1.trans (by simp [keyOK, protoOK, h6, hs, hd, eb]), h.2⟩
    | exact (keyValid_6_s k h6 hs w).mono fun r w' h => ⟨h.1.trans (by simp [keyOK, protoOK, h6, hs, hd, eb]), h.2⟩
    | skip
  all_goals by_cases h17 : k.proto = 17
  all_goals first
    | exact (keyValid_17_k k h17 hs hd w).mono fun r w' h => ⟨h.1.trans (by simp [keyOK, protoOK, h17, hs, hd, eb]), h.2⟩
    | exact (keyValid_17_d k h17 hs hd w).mono fun r w' h => ⟨h.1.trans (by simp [keyOK, protoOK, h17, hs, hd, eb]), h.2⟩
    | exact (keyValid_17_s k h17 hs w).mono fun r w' h => ⟨h.1.trans (by simp [keyOK, protoOK, h17, hs, hd, eb]), h.2⟩
    | exact (keyValid_no k h6 h17 w).mono fun r w' h => ⟨h.1.trans (by simp [keyOK, protoOK, h6, h17, hs, hd, eb]), h.2⟩

theorem keyVip_calls (k : Key) (w : World) : CallV Try.prog 116 #[.agg (encKey k).toArray] w fun r w' => r = .agg (encVip (keyVip k)).toArray ∧ Ext w w' := by
  have hX : Ext w w := Ext.rfl' w
  refine Calls.of_W (N := 10) Try.func116 rfl rfl rfl ?_
  refine W.reg ?_
  refine WL.box (v := .agg _) rfl rfl rfl ?_
  intro b1 w1 hb1 hs1 hx1 hB1
  have hge1 := hX.size
  replace hX := hX.tr hx1
  refine WL.alloc zer42 rfl ?_
  intro b2 w2 hb2 hs2 hx2 hB2
  have hge2 := hX.size
  replace hX := hX.tr hx2
  replace hB1 := hx2.blk hB1
  refine WL.nil ?_
  refine W.reg ?_
  refine WL.y (R.fieldAddr fo37_0 rfl) rfl ?_
  refine WL.y (R.load sca5 rfl (hB1).r rfl) rfl ?_
  refine WL.y (R.fieldAddr fo37_2 rfl) rfl ?_
  refine WL.y (R.loadA agg30 rfl (hB1).r rfl rfl) rfl ?_
  refine WL.y (R.fieldAddr fo37_4 rfl) rfl ?_
  refine WL.y (R.load sca35 rfl (hB1).r rfl) rfl ?_
  refine WL.y (R.buildP (parts := [(0, .tmp 4), (1, .tmp 6), (2, .tmp 8)]) (ps := [(0, .int _ _), (1, .agg _), (2, .int _ _)]) bld42 rfl rfl) rfl ?_
  refine WL.store (v := .agg _) siz42 rfl rfl rfl rfl hB2 (Nat.le_of_ble_eq_true rfl) rfl rfl ?_
  intro w3 hu3 hz3 hn3
  replace hX := hX.put hu3 (by omega)
  replace hB1 := hu3.blk (by omega) hB1
  replace hB2 := hn3; clear hn3
  refine WL.nil ?_
  refine W.ret ?_
  exact PR.r1 rfl (.agg agg42 rfl hB2 rfl) ⟨rfl, hX⟩
end Go.Proofs.Ytkjecokkdbapkaa
