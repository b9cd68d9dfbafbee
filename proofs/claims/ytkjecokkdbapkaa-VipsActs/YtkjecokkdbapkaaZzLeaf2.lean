import Derived.Test.YtkjecokkdbapkaaZzLeaf
import Derived.Test.YtkjecokkdbapkaaProg
namespace Go.Proofs.Ytkjecokkdbapkaa
set_option linter.all false
open Go Go.Eng Go.RowKit
set_option maxRecDepth 20000
set_option maxHeartbeats 2000000
set_option linter.unusedVariables false
set_option linter.unusedSimpArgs false
attribute [local irreducible] WL W QL WA SP

def zc28 : List Value := [.int .u8 0, .int .u8 0, .int .u8 0, .int .u8 0, .int .u8 0, .int .u8 0, .int .u8 0, .int .u8 0, .int .u8 0, .int .u8 0, .int .u8 0, .int .u8 0, .int .u8 0, .int .u8 0, .int .u8 0, .int .u8 0]
def zc30 : List Value := [.bool false, .int .u8 0, .int .u8 0, .int .u8 0, .int .u8 0, .int .u8 0, .int .u8 0, .int .u8 0, .int .u8 0, .int .u8 0, .int .u8 0, .int .u8 0, .int .u8 0, .int .u8 0, .int .u8 0, .int .u8 0, .int .u8 0]
def zc33 : List Value := [.int .i64 0, .int .i64 0, .int .i64 0, .int .i64 0, .int .i64 0, .int .i64 0, .int .i64 0, .int .i64 0, .int .i64 0, .int .i64 0, .int .i64 0, .int .i64 0, .bool false, .bool false, .int .u8 0, .int .u8 0, .int .u8 0, .int .u8 0, .int .u8 0, .int .u8 0, .int .u8 0, .int .u8 0, .int .u8 0, .int .u8 0, .int .u8 0, .int .u8 0, .int .u8 0, .int .u8 0, .int .u8 0, .int .u8 0, .bool false, .int .u8 0, .int .u8 0, .int .u8 0, .int .u8 0, .int .u8 0, .int .u8 0, .int .u8 0, .int .u8 0, .int .u8 0, .int .u8 0, .int .u8 0, .int .u8 0, .int .u8 0, .int .u8 0, .int .u8 0, .int .u8 0, .int .u32 0]
def zc37 : List Value := [.int .u8 0, .bool false, .int .u8 0, .int .u8 0, .int .u8 0, .int .u8 0, .int .u8 0, .int .u8 0, .int .u8 0, .int .u8 0, .int .u8 0, .int .u8 0, .int .u8 0, .int .u8 0, .int .u8 0, .int .u8 0, .int .u8 0, .int .u8 0, .bool false, .int .u8 0, .int .u8 0, .int .u8 0, .int .u8 0, .int .u8 0, .int .u8 0, .int .u8 0, .int .u8 0, .int .u8 0, .int .u8 0, .int .u8 0, .int .u8 0, .int .u8 0, .int .u8 0, .int .u8 0, .int .u8 0, .int .u16 0, .int .u16 0]
def zc54 : List Value := [.bool false, .int .u8 0, .int .u8 0, .int .u8 0, .int .u8 0, .int .u8 0, .int .u8 0, .int .u8 0, .int .u8 0, .int .u8 0, .int .u8 0, .int .u8 0, .int .u8 0, .int .u8 0, .int .u8 0, .int .u8 0, .int .u8 0, .int .u16 0]
def pl28 : Nat → Option (Nat × Nat) := fun i => some (i * 1, 1)
theorem bld28 : Bld Try.prog 28 pl28 zc28 := ⟨_, fun parts w => by
  simp only [Instr.build, Sem.run_bind, Try.zeroValue28, Try.runUnderlying28, Result.andThen_ok, Try.sizeOf5]
  rfl⟩
def pl30 : Nat → Option (Nat × Nat) := fun i => (#[(0, 1), (1, 16)] : Array (Nat × Nat))[i]?
theorem bld30 : Bld Try.prog 30 pl30 zc30 := ⟨_, fun parts w => by
  simp only [pl30, Instr.build, Sem.run_bind, Try.zeroValue30, Try.runUnderlying30, Result.andThen_ok, List.mapM_toArray, List.mapM_cons, List.mapM_nil, Try.sizeOf4, Try.sizeOf28, Sem.run_pure, Sem.run_map]
  rfl⟩
def pl33 : Nat → Option (Nat × Nat) := fun i => (#[(0, 1), (1, 1), (2, 1), (3, 1), (4, 1), (5, 1), (6, 1), (7, 1), (8, 1), (9, 1), (10, 1), (11, 1), (12, 1), (13, 17), (30, 17), (47, 1)] : Array (Nat × Nat))[i]?
theorem bld33 : Bld Try.prog 33 pl33 zc33 := ⟨_, fun parts w => by
  simp only [pl33, Instr.build, Sem.run_bind, Try.zeroValue33, Try.runUnderlying33, Result.andThen_ok, List.mapM_toArray, List.mapM_cons, List.mapM_nil, Try.sizeOf3, Try.sizeOf4, Try.sizeOf30, Try.sizeOf31, Sem.run_pure, Sem.run_map]
  rfl⟩
def pl37 : Nat → Option (Nat × Nat) := fun i => (#[(0, 1), (1, 17), (18, 17), (35, 1), (36, 1)] : Array (Nat × Nat))[i]?
theorem bld37 : Bld Try.prog 37 pl37 zc37 := ⟨_, fun parts w => by
  simp only [pl37, Instr.build, Sem.run_bind, Try.zeroValue37, Try.runUnderlying37, Result.andThen_ok, List.mapM_toArray, List.mapM_cons, List.mapM_nil, Try.sizeOf5, Try.sizeOf30, Try.sizeOf35, Sem.run_pure, Sem.run_map]
  rfl⟩
def pl54 : Nat → Option (Nat × Nat) := fun i => (#[(0, 17), (17, 1)] : Array (Nat × Nat))[i]?
theorem bld54 : Bld Try.prog 54 pl54 zc54 := ⟨_, fun parts w => by
  simp only [pl54, Instr.build, Sem.run_bind, Try.zeroValue54, Try.runUnderlying54, Result.andThen_ok, List.mapM_toArray, List.mapM_cons, List.mapM_nil, Try.sizeOf30, Try.sizeOf35, Sem.run_pure, Sem.run_map]
  rfl⟩
theorem fo54_0 : FO Try.prog 54 0 0 := fun a w => by kernel_rfl
theorem siz28 : ∀ w, (sizeOf 28).run Try.prog w = .ok 16 w := Try.sizeOf28
theorem siz33 : ∀ w, (sizeOf 33).run Try.prog w = .ok 48 w := Try.sizeOf33
theorem siz37 : ∀ w, (sizeOf 37).run Try.prog w = .ok 37 w := Try.sizeOf37
theorem siz54 : ∀ w, (sizeOf 54).run Try.prog w = .ok 18 w := Try.sizeOf54
theorem zer33 : Zer Try.prog 33 zc33 := ⟨_, Try.zeroValue33, rfl⟩
theorem zer37 : Zer Try.prog 37 zc37 := ⟨_, Try.zeroValue37, rfl⟩
theorem zer54 : Zer Try.prog 54 zc54 := ⟨_, Try.zeroValue54, rfl⟩

def round (k n : Int) : Int := (k.tmod n + n).tmod n
theorem round_bd (k n : Int) (hn : 0 < n) : 0 ≤ round k n ∧ round k n < n := by
  have h1 := Int.tmod_lt_of_pos k hn
  have h2 := Int.lt_tmod_of_pos k hn
  have h3 : 0 ≤ k.tmod n + n := by omega
  exact ⟨Int.tmod_nonneg _ h3, Int.tmod_lt_of_pos _ hn⟩
def roomy (seed : Int) : Cfg := ⟨4, 256, 16, 65536, 4, 32, 16, 256, 64, 1000, 2, 2, false, true, UInt32.ofInt (round seed 1073741824)⟩
theorem roomy_ok (seed : Int) : CfgOK (roomy seed) := ⟨by simp [roomy], by simp [roomy], ⟨8, by decide, rfl⟩, by simp [roomy], by simp [roomy], ⟨16, by decide, rfl⟩, by simp [roomy], by simp [roomy], by simp [roomy], by simp [roomy], by simp [roomy], by simp [roomy], by simp [roomy], by simp [roomy], rfl⟩
def mkDip (n : Int) (v6 : Bool) : Dip := ⟨⟨v6, ⟨172, 16, 0, UInt8.ofInt (1 + round n 200), 0, 0, 0, 0, 0, 0, 0, 0, 0, 0, 0, 0⟩⟩, UInt16.ofInt (8000 + round n 1000)⟩
def keyU (n : Int) : UInt32 := UInt32.ofInt (round n 1073741824)
def mkKey (n : Int) (v6 udp : Bool) : Key :=
  ⟨bif udp then 17 else 6, ⟨v6, ⟨10, UInt8.ofInt (((keyU n).toNat : Int).fdiv (2 ^ 16)), UInt8.ofInt (((keyU n).toNat : Int).fdiv (2 ^ 8)), UInt8.ofInt ((keyU n).toNat : Int), 0, 0, 0, 0, 0, 0, 0, 0, 0, 0, 0, 0⟩⟩,
    ⟨v6, ⟨192, 168, 0, 1, 0, 0, 0, 0, 0, 0, 0, 0, 0, 0, 0, 0⟩⟩, UInt16.ofInt (IntKind.u32.wrap (1000 + ((keyU n).toNat : Int).tmod 50000)), 80⟩

theorem roomy_calls (seed : Int) (w : World) : CallV Try.prog 21 #[i64 seed] w fun v w' => v = .agg (encCfg (roomy seed)).toArray ∧ Ext w w' := by
  have hX : Ext w w := Ext.rfl' w
  refine Calls.of_W (N := 8) Try.func21 rfl rfl rfl ?_
  refine W.reg ?_
  refine WL.alloc zer33 rfl ?_
  intro b1 w1 hb1 hs1 hx1 hB1
  have hge1 := hX.size
  replace hX := hX.tr hx1
  refine WL.nil ?_
  refine W.reg ?_
  refine WL.y (R.buildP (parts := [(0, .const (.bool true))]) (ps := [(0, (.bool true))]) bld30 rfl rfl) rfl ?_
  refine WL.y (R.mv (v := .int _ _) rfl) rfl ?_
  refine WL.call Try.func24 rfl rfl (round_calls _ _ _ (by decide) (by decide)) rfl rfl ?_
  rintro _ _ ⟨rfl, rfl⟩
  refine WL.y (R.convU32 Try.underlying3 Try.underlying31 rfl) rfl ?_
  refine WL.y (R.buildE (parts := [(0, .const (.int .i64 4)), (1, .const (.int .i64 256)), (2, .const (.int .i64 16)), (3, .const (.int .i64 65536)), (4, .const (.int .i64 4)), (5, .const (.int .i64 32)), (6, .const (.int .i64 16)), (7, .const (.int .i64 256)), (8, .const (.int .i64 64)), (9, .const (.int .i64 1000)), (10, .const (.int .i64 2)), (11, .const (.int .i64 2)), (14, .tmp 3), (15, .tmp 6)]) (vs := encCfg (roomy seed)) bld33 (by kernel_rfl) (by kernel_rfl)) rfl ?_
  refine WL.store (v := .agg _) siz33 rfl rfl rfl rfl hB1 (Nat.le_of_ble_eq_true rfl) rfl rfl ?_
  intro w3 hu3 hz3 hn3
  replace hX := hX.put hu3 (by omega)
  replace hB1 := hn3; clear hn3
  refine WL.nil ?_
  refine W.ret ?_
  exact PR.r1 rfl (.agg agg33 rfl hB1 rfl) ⟨rfl, hX⟩

theorem mkDip_calls (n : Int) (v6 : Bool) (w : World) : CallV Try.prog 29 #[i64 n, bl v6] w fun v w' => v = .agg (encDip (mkDip n v6)).toArray ∧ Ext w w' := by
  have hX : Ext w w := Ext.rfl' w
  refine Calls.of_W (N := 22) Try.func29 rfl rfl rfl ?_
  refine W.reg ?_
  refine WL.alloc zer54 rfl ?_
  intro b1 w1 hb1 hs1 hx1 hB1
  have hge1 := hX.size
  replace hX := hX.tr hx1
  refine WL.nil ?_
  refine W.reg ?_
  refine WL.y (R.mv (v := .int _ _) rfl) rfl ?_
  refine WL.call Try.func24 rfl rfl (round_calls _ _ _ (by decide) (by decide)) rfl rfl ?_
  rintro _ _ ⟨rfl, rfl⟩
  have hr := round_bd n 1000 (by decide); unfold round at hr
  refine WL.y (R.addI rfl rfl (by omega)) rfl ?_
  refine WL.y (R.convU16 Try.underlying3 Try.underlying35 rfl) rfl ?_
  refine WL.y (R.buildP (parts := [(1, .tmp 9)]) (ps := [(1, .int _ _)]) bld54 rfl rfl) rfl ?_
  refine WL.alloc zer54 rfl ?_
  intro b3 w3 hb3 hs3 hx3 hB3
  have hge3 := hX.size
  replace hX := hX.tr hx3
  replace hB1 := hx3.blk hB1
  refine WL.store (v := .agg _) siz54 rfl rfl rfl rfl hB3 (Nat.le_of_ble_eq_true rfl) rfl rfl ?_
  intro w4 hu4 hz4 hn4
  replace hX := hX.put hu4 (by omega)
  replace hB1 := hu4.blk (by omega) hB1
  replace hB3 := hn4; clear hn4
  refine WL.nil ?_
  refine W.reg ?_
  refine WL.y (R.mv (v := .bool _) rfl) rfl ?_
  refine WL.y (R.fieldAddr fo54_0 rfl) rfl ?_
  refine WL.y (R.fieldAddr fo30_0 rfl) rfl ?_
  refine WL.store1 (v := .bool _) sca4 rfl rfl rfl hB3 (Nat.le_of_ble_eq_true rfl) rfl ?_
  intro w5 hu5 hz5 hn5
  replace hX := hX.put hu5 (by omega)
  replace hB1 := hu5.blk (by omega) hB1
  replace hB3 := hn5; clear hn5
  refine WL.nil ?_
  refine W.reg ?_
  refine WL.y (R.mv (v := .int _ _) rfl) rfl ?_
  refine WL.call Try.func24 rfl rfl (round_calls _ _ _ (by decide) (by decide)) rfl rfl ?_
  rintro _ _ ⟨rfl, rfl⟩
  have hr2 := round_bd n 200 (by decide); unfold round at hr2
  refine WL.y (R.addI rfl rfl (by omega)) rfl ?_
  refine WL.y (R.convU8 Try.underlying3 Try.underlying5 rfl) rfl ?_
  refine WL.y (R.buildP (parts := [(0, .const (.int .u8 172)), (1, .const (.int .u8 16)), (2, .const (.int .u8 0)), (3, .tmp 17)]) (ps := [(0, (.int .u8 172)), (1, (.int .u8 16)), (2, (.int .u8 0)), (3, .int _ _)]) bld28 rfl rfl) rfl ?_
  refine WL.y (R.fieldAddr fo54_0 rfl) rfl ?_
  refine WL.y (R.fieldAddr fo30_1 rfl) rfl ?_
  refine WL.store (v := .agg _) siz28 rfl rfl rfl rfl hB3 (Nat.le_of_ble_eq_true rfl) rfl rfl ?_
  intro w7 hu7 hz7 hn7
  replace hX := hX.put hu7 (by omega)
  replace hB1 := hu7.blk (by omega) hB1
  replace hB3 := hn7; clear hn7
  refine WL.nil ?_
  refine W.reg ?_
  refine WL.y (R.loadA agg54 rfl (hB3).r rfl rfl) rfl ?_
  refine WL.store (v := .agg _) siz54 rfl rfl rfl rfl hB1 (Nat.le_of_ble_eq_true rfl) rfl rfl ?_
  intro w8 hu8 hz8 hn8
  replace hX := hX.put hu8 (by omega)
  replace hB3 := hu8.blk (by omega) hB3
  replace hB1 := hn8; clear hn8
  refine WL.nil ?_
  refine W.ret ?_
  exact PR.r1 rfl (.agg agg54 rfl hB1 rfl) ⟨rfl, hX⟩

theorem mkKey_true (n : Int) (v6 : Bool) (w : World) : CallV Try.prog 22 #[i64 n, bl v6, bl true] w fun v w' => v = .agg (encKey (mkKey n v6 true)).toArray ∧ Ext w w' := by
  have hX : Ext w w := Ext.rfl' w
  refine Calls.of_W (N := 40) Try.func22 rfl rfl rfl ?_
  refine W.reg ?_
  refine WL.alloc zer37 rfl ?_
  intro b1 w1 hb1 hs1 hx1 hB1
  have hge1 := hX.size
  replace hX := hX.tr hx1
  refine WL.nil ?_
  refine W.reg ?_
  refine WL.y (R.mv (v := .int _ _) rfl) rfl ?_
  refine WL.call Try.func24 rfl rfl (round_calls _ _ _ (by decide) (by decide)) rfl rfl ?_
  rintro _ _ ⟨rfl, rfl⟩
  refine WL.y (R.convU32 Try.underlying3 Try.underlying31 rfl) rfl ?_
  refine WL.y (R.asg (v := .int _ _) rfl) rfl ?_
  refine WL.nil ?_
  refine W.reg ?_
  refine WL.y (R.mv (v := .int _ _) rfl) rfl ?_
  refine WL.y (R.rem rfl rfl (by omega)) rfl ?_
  refine WL.y (R.add rfl rfl) rfl ?_
  refine WL.y (R.convU16 Try.underlying31 Try.underlying35 rfl) rfl ?_
  refine WL.y (R.buildP (parts := [(0, .const (.int .u8 6)), (3, .tmp 15), (4, .const (.int .u16 80))]) (ps := [(0, (.int .u8 6)), (3, .int _ _), (4, (.int .u16 80))]) bld37 rfl rfl) rfl ?_
  refine WL.alloc zer37 rfl ?_
  intro b3 w3 hb3 hs3 hx3 hB3
  have hge3 := hX.size
  replace hX := hX.tr hx3
  replace hB1 := hx3.blk hB1
  refine WL.store (v := .agg _) siz37 rfl rfl rfl rfl hB3 (Nat.le_of_ble_eq_true rfl) rfl rfl ?_
  intro w4 hu4 hz4 hn4
  replace hX := hX.put hu4 (by omega)
  replace hB1 := hu4.blk (by omega) hB1
  replace hB3 := hn4; clear hn4
  refine WL.nil ?_
  refine W.seq ?_
  refine W.reg ?_
  refine WL.y (R.mv (v := .bool true) rfl) rfl ?_
  refine WL.nil ?_
  refine W.cond_t rfl ?_
  refine W.region ?_
  refine WL.y (R.fieldAddr fo37_0 rfl) rfl ?_
  refine WL.store1 (v := .int _ _) sca5 rfl rfl rfl hB3 (Nat.le_of_ble_eq_true rfl) rfl ?_
  intro w5 hu5 hz5 hn5
  replace hX := hX.put hu5 (by omega)
  replace hB1 := hu5.blk (by omega) hB1
  replace hB3 := hn5; clear hn5
  refine WL.nil ?_
  refine W.reg ?_
  refine WL.y (R.mv (v := .bool _) rfl) rfl ?_
  refine WL.y (R.mv (v := .bool _) rfl) rfl ?_
  refine WL.y (R.fieldAddr fo37_1 rfl) rfl ?_
  refine WL.y (R.fieldAddr fo30_0 rfl) rfl ?_
  refine WL.store1 (v := .bool _) sca4 rfl rfl rfl hB3 (Nat.le_of_ble_eq_true rfl) rfl ?_
  intro w6 hu6 hz6 hn6
  replace hX := hX.put hu6 (by omega)
  replace hB1 := hu6.blk (by omega) hB1
  replace hB3 := hn6; clear hn6
  refine WL.y (R.fieldAddr fo37_2 rfl) rfl ?_
  refine WL.y (R.fieldAddr fo30_0 rfl) rfl ?_
  refine WL.store1 (v := .bool _) sca4 rfl rfl rfl hB3 (Nat.le_of_ble_eq_true rfl) rfl ?_
  intro w7 hu7 hz7 hn7
  replace hX := hX.put hu7 (by omega)
  replace hB1 := hu7.blk (by omega) hB1
  replace hB3 := hn7; clear hn7
  refine WL.nil ?_
  refine W.reg ?_
  refine WL.y (R.mv (v := .int _ _) rfl) rfl ?_
  refine WL.y (R.shr (n := 16) rfl rfl (by decide)) rfl ?_
  refine WL.y (R.convU8 Try.underlying31 Try.underlying5 rfl) rfl ?_
  refine WL.y (R.mv (v := .int _ _) rfl) rfl ?_
  refine WL.y (R.shr (n := 8) rfl rfl (by decide)) rfl ?_
  refine WL.y (R.convU8 Try.underlying31 Try.underlying5 rfl) rfl ?_
  refine WL.y (R.mv (v := .int _ _) rfl) rfl ?_
  refine WL.y (R.convU8 Try.underlying31 Try.underlying5 rfl) rfl ?_
  refine WL.y (R.buildP (parts := [(0, .const (.int .u8 10)), (1, .tmp 27), (2, .tmp 30), (3, .tmp 32)]) (ps := [(0, (.int .u8 10)), (1, .int _ _), (2, .int _ _), (3, .int _ _)]) bld28 rfl rfl) rfl ?_
  refine WL.y (R.fieldAddr fo37_1 rfl) rfl ?_
  refine WL.y (R.fieldAddr fo30_1 rfl) rfl ?_
  refine WL.store (v := .agg _) siz28 rfl rfl rfl rfl hB3 (Nat.le_of_ble_eq_true rfl) rfl rfl ?_
  intro w8 hu8 hz8 hn8
  replace hX := hX.put hu8 (by omega)
  replace hB1 := hu8.blk (by omega) hB1
  replace hB3 := hn8; clear hn8
  refine WL.nil ?_
  refine W.reg ?_
  refine WL.y (R.buildP (parts := [(0, .const (.int .u8 192)), (1, .const (.int .u8 168)), (2, .const (.int .u8 0)), (3, .const (.int .u8 1))]) (ps := [(0, (.int .u8 192)), (1, (.int .u8 168)), (2, (.int .u8 0)), (3, (.int .u8 1))]) bld28 rfl rfl) rfl ?_
  refine WL.y (R.fieldAddr fo37_2 rfl) rfl ?_
  refine WL.y (R.fieldAddr fo30_1 rfl) rfl ?_
  refine WL.store (v := .agg _) siz28 rfl rfl rfl rfl hB3 (Nat.le_of_ble_eq_true rfl) rfl rfl ?_
  intro w9 hu9 hz9 hn9
  replace hX := hX.put hu9 (by omega)
  replace hB1 := hu9.blk (by omega) hB1
  replace hB3 := hn9; clear hn9
  refine WL.nil ?_
  refine W.reg ?_
  refine WL.y (R.loadA agg37 rfl (hB3).r rfl rfl) rfl ?_
  refine WL.store (v := .agg _) siz37 rfl rfl rfl rfl hB1 (Nat.le_of_ble_eq_true rfl) rfl rfl ?_
  intro w10 hu10 hz10 hn10
  replace hX := hX.put hu10 (by omega)
  replace hB3 := hu10.blk (by omega) hB3
  replace hB1 := hn10; clear hn10
  refine WL.nil ?_
  refine W.ret ?_
  exact PR.r1 rfl (.agg agg37 rfl hB1 rfl) ⟨rfl, hX⟩

theorem mkKey_false (n : Int) (v6 : Bool) (w : World) : CallV Try.prog 22 #[i64 n, bl v6, bl false] w fun v w' => v = .agg (encKey (mkKey n v6 false)).toArray ∧ Ext w w' := by
  have hX : Ext w w := Ext.rfl' w
  refine Calls.of_W (N := 40) Try.func22 rfl rfl rfl ?_
  refine W.reg ?_
  refine WL.alloc zer37 rfl ?_
  intro b1 w1 hb1 hs1 hx1 hB1
  have hge1 := hX.size
  replace hX := hX.tr hx1
  refine WL.nil ?_
  refine W.reg ?_
  refine WL.y (R.mv (v := .int _ _) rfl) rfl ?_
  refine WL.call Try.func24 rfl rfl (round_calls _ _ _ (by decide) (by decide)) rfl rfl ?_
  rintro _ _ ⟨rfl, rfl⟩
  refine WL.y (R.convU32 Try.underlying3 Try.underlying31 rfl) rfl ?_
  refine WL.y (R.asg (v := .int _ _) rfl) rfl ?_
  refine WL.nil ?_
  refine W.reg ?_
  refine WL.y (R.mv (v := .int _ _) rfl) rfl ?_
  refine WL.y (R.rem rfl rfl (by omega)) rfl ?_
  refine WL.y (R.add rfl rfl) rfl ?_
  refine WL.y (R.convU16 Try.underlying31 Try.underlying35 rfl) rfl ?_
  refine WL.y (R.buildP (parts := [(0, .const (.int .u8 6)), (3, .tmp 15), (4, .const (.int .u16 80))]) (ps := [(0, (.int .u8 6)), (3, .int _ _), (4, (.int .u16 80))]) bld37 rfl rfl) rfl ?_
  refine WL.alloc zer37 rfl ?_
  intro b3 w3 hb3 hs3 hx3 hB3
  have hge3 := hX.size
  replace hX := hX.tr hx3
  replace hB1 := hx3.blk hB1
  refine WL.store (v := .agg _) siz37 rfl rfl rfl rfl hB3 (Nat.le_of_ble_eq_true rfl) rfl rfl ?_
  intro w4 hu4 hz4 hn4
  replace hX := hX.put hu4 (by omega)
  replace hB1 := hu4.blk (by omega) hB1
  replace hB3 := hn4; clear hn4
  refine WL.nil ?_
  refine W.seq ?_
  refine W.reg ?_
  refine WL.y (R.mv (v := .bool false) rfl) rfl ?_
  refine WL.nil ?_
  refine W.cond_f rfl ?_
  refine W.skip ?_
  refine W.reg ?_
  refine WL.y (R.mv (v := .bool _) rfl) rfl ?_
  refine WL.y (R.mv (v := .bool _) rfl) rfl ?_
  refine WL.y (R.fieldAddr fo37_1 rfl) rfl ?_
  refine WL.y (R.fieldAddr fo30_0 rfl) rfl ?_
  refine WL.store1 (v := .bool _) sca4 rfl rfl rfl hB3 (Nat.le_of_ble_eq_true rfl) rfl ?_
  intro w5 hu5 hz5 hn5
  replace hX := hX.put hu5 (by omega)
  replace hB1 := hu5.blk (by omega) hB1
  replace hB3 := hn5; clear hn5
  refine WL.y (R.fieldAddr fo37_2 rfl) rfl ?_
  refine WL.y (R.fieldAddr fo30_0 rfl) rfl ?_
  refine WL.store1 (v := .bool _) sca4 rfl rfl rfl hB3 (Nat.le_of_ble_eq_true rfl) rfl ?_
  intro w6 hu6 hz6 hn6
  replace hX := hX.put hu6 (by omega)
  replace hB1 := hu6.blk (by omega) hB1
  replace hB3 := hn6; clear hn6
  refine WL.nil ?_
  refine W.reg ?_
  refine WL.y (R.mv (v := .int _ _) rfl) rfl ?_
  refine WL.y (R.shr (n := 16) rfl rfl (by decide)) rfl ?_
  refine WL.y (R.convU8 Try.underlying31 Try.underlying5 rfl) rfl ?_
  refine WL.y (R.mv (v := .int _ _) rfl) rfl ?_
  refine WL.y (R.shr (n := 8) rfl rfl (by decide)) rfl ?_
  refine WL.y (R.convU8 Try.underlying31 Try.underlying5 rfl) rfl ?_
  refine WL.y (R.mv (v := .int _ _) rfl) rfl ?_
  refine WL.y (R.convU8 Try.underlying31 Try.underlying5 rfl) rfl ?_
  refine WL.y (R.buildP (parts := [(0, .const (.int .u8 10)), (1, .tmp 27), (2, .tmp 30), (3, .tmp 32)]) (ps := [(0, (.int .u8 10)), (1, .int _ _), (2, .int _ _), (3, .int _ _)]) bld28 rfl rfl) rfl ?_
  refine WL.y (R.fieldAddr fo37_1 rfl) rfl ?_
  refine WL.y (R.fieldAddr fo30_1 rfl) rfl ?_
  refine WL.store (v := .agg _) siz28 rfl rfl rfl rfl hB3 (Nat.le_of_ble_eq_true rfl) rfl rfl ?_
  intro w7 hu7 hz7 hn7
  replace hX := hX.put hu7 (by omega)
  replace hB1 := hu7.blk (by omega) hB1
  replace hB3 := hn7; clear hn7
  refine WL.nil ?_
  refine W.reg ?_
  refine WL.y (R.buildP (parts := [(0, .const (.int .u8 192)), (1, .const (.int .u8 168)), (2, .const (.int .u8 0)), (3, .const (.int .u8 1))]) (ps := [(0, (.int .u8 192)), (1, (.int .u8 168)), (2, (.int .u8 0)), (3, (.int .u8 1))]) bld28 rfl rfl) rfl ?_
  refine WL.y (R.fieldAddr fo37_2 rfl) rfl ?_
  refine WL.y (R.fieldAddr fo30_1 rfl) rfl ?_
  refine WL.store (v := .agg _) siz28 rfl rfl rfl rfl hB3 (Nat.le_of_ble_eq_true rfl) rfl rfl ?_
  intro w8 hu8 hz8 hn8
  replace hX := hX.put hu8 (by omega)
  replace hB1 := hu8.blk (by omega) hB1
  replace hB3 := hn8; clear hn8
  refine WL.nil ?_
  refine W.reg ?_
  refine WL.y (R.loadA agg37 rfl (hB3).r rfl rfl) rfl ?_
  refine WL.store (v := .agg _) siz37 rfl rfl rfl rfl hB1 (Nat.le_of_ble_eq_true rfl) rfl rfl ?_
  intro w9 hu9 hz9 hn9
  replace hX := hX.put hu9 (by omega)
  replace hB3 := hu9.blk (by omega) hB3
  replace hB1 := hn9; clear hn9
  refine WL.nil ?_
  refine W.ret ?_
  exact PR.r1 rfl (.agg agg37 rfl hB1 rfl) ⟨rfl, hX⟩

theorem mkKey_calls (n : Int) (v6 udp : Bool) (w : World) : CallV Try.prog 22 #[i64 n, bl v6, bl udp] w fun v w' => v = .agg (encKey (mkKey n v6 udp)).toArray ∧ Ext w w' := by
  cases udp
  · exact mkKey_false n v6 w
  · exact mkKey_true n v6 w
end Go.Proofs.Ytkjecokkdbapkaa
