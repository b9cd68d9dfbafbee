import Derived.Test.YtkjecokkdbapkaaZzSome18
import Derived.Test.YtkjecokkdbapkaaProg
namespace Go.Proofs.Ytkjecokkdbapkaa
set_option linter.all false
open Go Go.Eng Go.RowKit
set_option maxRecDepth 20000
set_option maxHeartbeats 2000000
set_option linter.unusedVariables false
set_option linter.unusedSimpArgs false
attribute [local irreducible] WL W QL WA SP



def atN (l : List Int) (i n : Nat) : Nat := if l.length = 0 then 0 else (round (IntKind.i64.wrap (l.getD (i % l.length) 0 + ((i / l.length : Nat) : Int))) n).toNat
theorem atN_lt {l : List Int} {i n : Nat} (h : 0 < n) : atN l i n < n := by
  unfold atN
  split
  · exact h
  · have := round_bd (IntKind.i64.wrap (l.getD (i % l.length) 0 + ((i / l.length : Nat) : Int))) n (by omega)
    omega
theorem atN_round {l : List Int} {i n : Nat} (h : 0 < n) (h0 : ¬ l.length = 0) : round (IntKind.i64.wrap (l.getD (i % l.length) 0 + ((i / l.length : Nat) : Int))) (n : Nat) = ((atN l i n : Nat) : Int) := by
  have := round_bd (IntKind.i64.wrap (l.getD (i % l.length) 0 + ((i / l.length : Nat) : Int))) n (by omega)
  unfold atN
  rw [if_neg h0]; omega
theorem rem_nat (i n : Nat) : ((i : Nat) : Int).tmod (n : Nat) = ((i % n : Nat) : Int) := rfl
theorem quo_nat (i n : Nat) : ((i : Nat) : Int).tdiv (n : Nat) = ((i / n : Nat) : Int) := rfl

theorem at_calls (l : List Int) (hl : l.length ≤ 1000000) (i n : Nat) (hi : i < 100) (hn : 0 < n ∧ n ≤ 1000000) (a : Option Addr) (c : Nat) (w : World) (hL : Sli (fun n : Int => [i64 n]) 1 w a c l) : CallV Try.prog 117 #[.slice a l.length c, i64 (i : Nat), i64 (n : Nat)] w fun v w' => v = i64 (atN l i n : Nat) ∧ Ext w w' := by
  have hX : Ext w w := Ext.rfl' w
  have hU : ∀ k, (fun k => w.heap.size ≤ k) k → w.heap.size ≤ k := fun _ h => h
  have hS : Star (fun k => w.heap.size ≤ k) w [] := Star.nil fun _ h => h
  generalize (fun k => w.heap.size ≤ k) = U at hU hS
  refine Calls.of_W (N := 24) Try.func117 rfl rfl rfl ?_
  refine W.reg ?_
  refine WL.y (R.asg (v := .int _ _) rfl) rfl ?_
  refine WL.nil ?_
  refine W.seq ?_
  refine W.reg ?_
  refine WL.y (R.mv (v := .slice _ _ _) rfl) rfl ?_
  refine WL.y (R.lenS Try.underlying22 rfl) rfl ?_
  refine WL.fork (R.eql rfl rfl) rfl (fun hc1_2 => ?_) (fun hc1_2 => ?_)
  · skip
    replace hc1_2 := eq_of_beq hc1_2
    refine WL.nil ?_
    refine W.cond_t rfl ?_
    refine W.reg ?_
    refine WL.y (R.asg (v := .int _ _) rfl) rfl ?_
    refine WL.nil ?_
    refine W.ret ?_
    exact PR.r1 rfl (.tmp rfl) ⟨by rw [show atN l i n = 0 by unfold atN; rw [if_pos (by omega)]]; rfl, hX⟩
  · skip
    replace hc1_2 := beq_F hc1_2
    refine WL.nil ?_
    refine W.cond_f rfl ?_
    refine W.skip ?_
    refine W.seq ?_
    have hml : i % l.length < l.length := Nat.mod_lt _ (by omega)
    refine W.draw (fun j => [1000].contains j) (fun wI => Ext w wI) rfl ?_
    have hI1 := Ext.dr w
    refine WA.batch [0, 1, 2, 3, 4, 5, 6, 7, 8, 9, 10, 11, 12] 2 (by kernel_rfl) hI1 ?_
    refine QL.y (fun wq hq => (R.mv (v := .slice _ _ _) rfl)) rfl ?_
    refine QL.y (fun wq hq => (R.mv (v := .int _ _) rfl)) rfl ?_
    refine QL.y (fun wq hq => (R.mv (v := .slice _ _ _) rfl)) rfl ?_
    refine QL.y (fun wq hq => (R.lenS Try.underlying22 rfl)) rfl ?_
    refine QL.y (fun wq hq => (R.rem (m := ((i : Nat) : Int)) (n := ((l.length : Nat) : Int)) rfl rfl (by omega))) rfl ?_
    obtain ⟨g_l, o_l, cs_l, rfl, hO_l⟩ := hL.op (by omega)
    obtain ⟨x, hx_l⟩ : ∃ x, l[(i % l.length)]? = some x := ⟨_, List.getElem?_eq_getElem (by omega)⟩
    refine QL.y (fun wq hq => (R.indexS Try.underlying22 siz3 rfl rfl rfl (by first | omega | (simp; omega)))) rfl ?_
    refine QL.y (fun wq hq => (R.load sca3 rfl (hq.blkR ((hO_l.ext hX).blk).r) (hO_l.cell encI hx_l (j := 0) (by decide)))) rfl ?_
    refine QL.y (fun wq hq => (R.mv (v := .int _ _) rfl)) rfl ?_
    refine QL.y (fun wq hq => (R.mv (v := .slice _ _ _) rfl)) rfl ?_
    refine QL.y (fun wq hq => (R.lenS Try.underlying22 rfl)) rfl ?_
    refine QL.y (fun wq hq => (R.quoI (m := ((i : Nat) : Int)) (n := ((l.length : Nat) : Int)) rfl rfl (by omega) (by omega))) rfl ?_
    refine QL.y (fun wq hq => (R.add rfl rfl)) rfl ?_
    refine QL.y (fun wq hq => (R.mv (v := .int _ _) rfl)) rfl ?_
    refine QL.nil ?_
    have hD1 := Ext.dr w
    have hD1z := hD1.size
    have hS0 := hS
    have hXo := hX
    replace hS := hS.ext hD1
    replace hX := hX.tr hD1
    refine WA.one 13 1 (by kernel_rfl) ?_
    have hX0 := hX
    refine WL.call Try.func24 rfl rfl ((round_calls (IntKind.i64.wrap (x + ((i / l.length : Nat) : Int))) (n : Nat) _ (by omega) (by omega)).val (y := i64 (atN l i n : Nat)) (by rw [← atN_round (by omega) (by omega), List.getD_eq_getElem?_getD, hx_l]; rfl)) rfl rfl ?_
    rintro _ _ ⟨rfl, rfl⟩
    refine WL.nil ?_
    refine ⟨fun _ h => h, ?_⟩
    clear hX0
    refine WA.pures [14] 0 (by kernel_rfl) ?_
    refine QL.y (fun wq hq => (R.asg (v := .int _ _) rfl)) rfl ?_
    refine QL.nil ?_
    refine WA.done (by kernel_rfl) ?_
    refine W.ret ?_
    exact PR.r1 rfl (.tmp rfl) ⟨rfl, hX⟩

def cfgOf (l : List Int) : Cfg := ⟨1 + (atN l 0 4 : Nat), ((2 ^ (1 + atN l 1 6) : Nat) : Int), 1 + (atN l 2 16 : Nat), ((2 ^ (3 + atN l 3 6) : Nat) : Int), 1 + (atN l 4 4 : Nat), 1 + (atN l 5 16 : Nat), 2 + (atN l 6 5 : Nat), 1 + (atN l 7 12 : Nat),
  1 + (atN l 8 20 : Nat), 1 + (atN l 9 12 : Nat), 1 + (atN l 10 5 : Nat), 1 + (atN l 11 3 : Nat), false, true, UInt32.ofInt (atN l 12 1000 : Nat)⟩
theorem cfgOf_ok (l : List Int) : CfgOK (cfgOf l) := by
  have h0 := atN_lt (l := l) (i := 0) (n := 4) (by decide)
  have h1 := atN_lt (l := l) (i := 1) (n := 6) (by decide)
  have h2 := atN_lt (l := l) (i := 2) (n := 16) (by decide)
  have h3 := atN_lt (l := l) (i := 3) (n := 6) (by decide)
  have h4 := atN_lt (l := l) (i := 4) (n := 4) (by decide)
  have h5 := atN_lt (l := l) (i := 5) (n := 16) (by decide)
  have h6 := atN_lt (l := l) (i := 6) (n := 5) (by decide)
  have h7 := atN_lt (l := l) (i := 7) (n := 12) (by decide)
  have h8 := atN_lt (l := l) (i := 8) (n := 20) (by decide)
  have h9 := atN_lt (l := l) (i := 9) (n := 12) (by decide)
  have h10 := atN_lt (l := l) (i := 10) (n := 5) (by decide)
  have h11 := atN_lt (l := l) (i := 11) (n := 3) (by decide)
  have p1 : ∀ k : Nat, k < 6 → 2 ≤ 2 ^ (1 + k) ∧ 2 ^ (1 + k) ≤ 1024 := by decide
  have p3 : ∀ k : Nat, k < 6 → 8 ≤ 2 ^ (3 + k) ∧ 2 ^ (3 + k) ≤ 65536 := by decide
  have q1 := p1 _ h1
  have q3 := p3 _ h3
  refine ⟨?_, ?_, ⟨1 + atN l 1 6, by omega, rfl⟩, ?_, ?_, ⟨3 + atN l 3 6, by omega, rfl⟩, ?_, ?_, ?_, ?_, ?_, ?_, ?_, ?_, rfl⟩
  all_goals (simp only [cfgOf]; omega)
theorem shl2 {k : Nat} (h : k < 6) : IntKind.i64.wrap (2 * 2 ^ k) = ((2 ^ (1 + k) : Nat) : Int) := by
  have : ∀ k : Nat, k < 6 → IntKind.i64.wrap (2 * 2 ^ k) = ((2 ^ (1 + k) : Nat) : Int) := by decide
  exact this k h
theorem shl8 {k : Nat} (h : k < 6) : IntKind.i64.wrap (8 * 2 ^ k) = ((2 ^ (3 + k) : Nat) : Int) := by
  have : ∀ k : Nat, k < 6 → IntKind.i64.wrap (8 * 2 ^ k) = ((2 ^ (3 + k) : Nat) : Int) := by decide
  exact this k h
theorem R.shlE {P : Program} {ρ : Env} {w : World} {d : Option Nat} {ty : TypeId} {pos : String} {af : Array Edge} {g : Option (Nat × Bool)} {k' : IntKind} {m e : Int} {n : Nat} {x y : Operand} {t u : TypeId} (hx : ev ρ x = .int .i64 m) (hy : ev ρ y = .int k' (n : Int)) (h : n ≤ 64) (he : IntKind.i64.wrap (m * 2 ^ n) = e) :
    Run P ρ ⟨d, .binOp .shl t x y u, ty, pos, af, g⟩ w (.int .i64 e) := he ▸ R.shl hx hy h

theorem Config_calls (l : List Int) (hl : l.length ≤ 1000000) (a : Option Addr) (c : Nat) (w : World) (hL : Sli (fun n : Int => [i64 n]) 1 w a c l) : CallV Try.prog 31 #[.slice a l.length c] w fun v w' => v = .agg (encCfg (cfgOf l)).toArray ∧ Ext w w' := by
  have hX : Ext w w := Ext.rfl' w
  have hU : ∀ k, (fun k => w.heap.size ≤ k) k → w.heap.size ≤ k := fun _ h => h
  have hS : Star (fun k => w.heap.size ≤ k) w [] := Star.nil fun _ h => h
  generalize (fun k => w.heap.size ≤ k) = U at hU hS
  refine Calls.of_W (N := 44) Try.func31 rfl rfl rfl ?_
  refine W.reg ?_
  refine WL.alloc zer33 rfl ?_
  intro b1 w1 hb1 hs1 hx1 hB1
  replace hS := hS.pushBox hb1 hx1 hB1
  replace hX := hX.tr hx1
  clear hB1 hs1
  refine WL.nil ?_
  refine W.seq ?_
  refine W.draw (fun j => [41].contains j) (fun wI => Ext w1 wI) rfl ?_
  have hI2 := Ext.dr w1
  refine WA.pures [0, 3, 6, 9, 12, 15, 18, 21, 24, 27, 30, 33, 36, 37] 28 (by kernel_rfl) ?_
  refine QL.y (fun wq hq => (R.mv (v := .slice _ _ _) rfl)) rfl ?_
  refine QL.y (fun wq hq => (R.mv (v := .slice _ _ _) rfl)) rfl ?_
  refine QL.y (fun wq hq => (R.mv (v := .slice _ _ _) rfl)) rfl ?_
  refine QL.y (fun wq hq => (R.mv (v := .slice _ _ _) rfl)) rfl ?_
  refine QL.y (fun wq hq => (R.mv (v := .slice _ _ _) rfl)) rfl ?_
  refine QL.y (fun wq hq => (R.mv (v := .slice _ _ _) rfl)) rfl ?_
  refine QL.y (fun wq hq => (R.mv (v := .slice _ _ _) rfl)) rfl ?_
  refine QL.y (fun wq hq => (R.mv (v := .slice _ _ _) rfl)) rfl ?_
  refine QL.y (fun wq hq => (R.mv (v := .slice _ _ _) rfl)) rfl ?_
  refine QL.y (fun wq hq => (R.mv (v := .slice _ _ _) rfl)) rfl ?_
  refine QL.y (fun wq hq => (R.mv (v := .slice _ _ _) rfl)) rfl ?_
  refine QL.y (fun wq hq => (R.mv (v := .slice _ _ _) rfl)) rfl ?_
  refine QL.y (fun wq hq => (R.buildE (parts := [(0, .const (.bool true))]) (vs := encAdr ⟨true, b0⟩) bld30 (by kernel_rfl) (by kernel_rfl))) rfl ?_
  refine QL.y (fun wq hq => (R.mv (v := .slice _ _ _) rfl)) rfl ?_
  refine QL.nil ?_
  have hD2 := Ext.dr w1
  have hD2z := hD2.size
  have hS0 := hS
  have hXo := hX
  replace hS := hS.ext hD2
  replace hX := hX.tr hD2
  refine WA.one 1 27 (by kernel_rfl) ?_
  have hX0 := hX
  refine WL.call Try.func117 rfl rfl (at_calls l hl 0 4 (by decide) (by decide) _ _ _ (hL.ext hX)) rfl rfl ?_
  rintro _ w3 ⟨rfl, hx3⟩
  replace hS := hS.ext hx3
  replace hX := hX.tr hx3
  have hb0 := atN_lt (l := l) (i := 0) (n := 4) (by decide)
  refine WL.nil ?_
  refine ⟨fun _ h => h.tr hx3, ?_⟩
  replace hI2 := hI2.tr hx3
  clear hX0
  refine WA.pures [2] 26 (by kernel_rfl) ?_
  refine QL.y (fun wq hq => (R.addI rfl rfl (by omega))) rfl ?_
  refine QL.nil ?_
  refine WA.one 4 25 (by kernel_rfl) ?_
  have hX0 := hX
  refine WL.call Try.func117 rfl rfl (at_calls l hl 1 6 (by decide) (by decide) _ _ _ (hL.ext hX)) rfl rfl ?_
  rintro _ w4 ⟨rfl, hx4⟩
  replace hS := hS.ext hx4
  replace hX := hX.tr hx4
  have hb1 := atN_lt (l := l) (i := 1) (n := 6) (by decide)
  refine WL.nil ?_
  refine ⟨fun _ h => h.tr hx4, ?_⟩
  replace hI2 := hI2.tr hx4
  clear hX0
  refine WA.pures [5] 24 (by kernel_rfl) ?_
  refine QL.y (fun wq hq => (R.shlE rfl rfl (by omega) (shl2 (by omega)))) rfl ?_
  refine QL.nil ?_
  refine WA.one 7 23 (by kernel_rfl) ?_
  have hX0 := hX
  refine WL.call Try.func117 rfl rfl (at_calls l hl 2 16 (by decide) (by decide) _ _ _ (hL.ext hX)) rfl rfl ?_
  rintro _ w5 ⟨rfl, hx5⟩
  replace hS := hS.ext hx5
  replace hX := hX.tr hx5
  have hb2 := atN_lt (l := l) (i := 2) (n := 16) (by decide)
  refine WL.nil ?_
  refine ⟨fun _ h => h.tr hx5, ?_⟩
  replace hI2 := hI2.tr hx5
  clear hX0
  refine WA.pures [8] 22 (by kernel_rfl) ?_
  refine QL.y (fun wq hq => (R.addI rfl rfl (by omega))) rfl ?_
  refine QL.nil ?_
  refine WA.one 10 21 (by kernel_rfl) ?_
  have hX0 := hX
  refine WL.call Try.func117 rfl rfl (at_calls l hl 3 6 (by decide) (by decide) _ _ _ (hL.ext hX)) rfl rfl ?_
  rintro _ w6 ⟨rfl, hx6⟩
  replace hS := hS.ext hx6
  replace hX := hX.tr hx6
  have hb3 := atN_lt (l := l) (i := 3) (n := 6) (by decide)
  refine WL.nil ?_
  refine ⟨fun _ h => h.tr hx6, ?_⟩
  replace hI2 := hI2.tr hx6
  clear hX0
  refine WA.pures [11] 20 (by kernel_rfl) ?_
  refine QL.y (fun wq hq => (R.shlE rfl rfl (by omega) (shl8 (by omega)))) rfl ?_
  refine QL.nil ?_
  refine WA.one 13 19 (by kernel_rfl) ?_
  have hX0 := hX
  refine WL.call Try.func117 rfl rfl (at_calls l hl 4 4 (by decide) (by decide) _ _ _ (hL.ext hX)) rfl rfl ?_
  rintro _ w7 ⟨rfl, hx7⟩
  replace hS := hS.ext hx7
  replace hX := hX.tr hx7
  have hb4 := atN_lt (l := l) (i := 4) (n := 4) (by decide)
  refine WL.nil ?_
  refine ⟨fun _ h => h.tr hx7, ?_⟩
  replace hI2 := hI2.tr hx7
  clear hX0
  refine WA.pures [14] 18 (by kernel_rfl) ?_
  refine QL.y (fun wq hq => (R.addI rfl rfl (by omega))) rfl ?_
  refine QL.nil ?_
  refine WA.one 16 17 (by kernel_rfl) ?_
  have hX0 := hX
  refine WL.call Try.func117 rfl rfl (at_calls l hl 5 16 (by decide) (by decide) _ _ _ (hL.ext hX)) rfl rfl ?_
  rintro _ w8 ⟨rfl, hx8⟩
  replace hS := hS.ext hx8
  replace hX := hX.tr hx8
  have hb5 := atN_lt (l := l) (i := 5) (n := 16) (by decide)
  refine WL.nil ?_
  refine ⟨fun _ h => h.tr hx8, ?_⟩
  replace hI2 := hI2.tr hx8
  clear hX0
  refine WA.pures [17] 16 (by kernel_rfl) ?_
  refine QL.y (fun wq hq => (R.addI rfl rfl (by omega))) rfl ?_
  refine QL.nil ?_
  refine WA.one 19 15 (by kernel_rfl) ?_
  have hX0 := hX
  refine WL.call Try.func117 rfl rfl (at_calls l hl 6 5 (by decide) (by decide) _ _ _ (hL.ext hX)) rfl rfl ?_
  rintro _ w9 ⟨rfl, hx9⟩
  replace hS := hS.ext hx9
  replace hX := hX.tr hx9
  have hb6 := atN_lt (l := l) (i := 6) (n := 5) (by decide)
  refine WL.nil ?_
  refine ⟨fun _ h => h.tr hx9, ?_⟩
  replace hI2 := hI2.tr hx9
  clear hX0
  refine WA.pures [20] 14 (by kernel_rfl) ?_
  refine QL.y (fun wq hq => (R.addI rfl rfl (by omega))) rfl ?_
  refine QL.nil ?_
  refine WA.one 22 13 (by kernel_rfl) ?_
  have hX0 := hX
  refine WL.call Try.func117 rfl rfl (at_calls l hl 7 12 (by decide) (by decide) _ _ _ (hL.ext hX)) rfl rfl ?_
  rintro _ w10 ⟨rfl, hx10⟩
  replace hS := hS.ext hx10
  replace hX := hX.tr hx10
  have hb7 := atN_lt (l := l) (i := 7) (n := 12) (by decide)
  refine WL.nil ?_
  refine ⟨fun _ h => h.tr hx10, ?_⟩
  replace hI2 := hI2.tr hx10
  clear hX0
  refine WA.pures [23] 12 (by kernel_rfl) ?_
  refine QL.y (fun wq hq => (R.addI rfl rfl (by omega))) rfl ?_
  refine QL.nil ?_
  refine WA.one 25 11 (by kernel_rfl) ?_
  have hX0 := hX
  refine WL.call Try.func117 rfl rfl (at_calls l hl 8 20 (by decide) (by decide) _ _ _ (hL.ext hX)) rfl rfl ?_
  rintro _ w11 ⟨rfl, hx11⟩
  replace hS := hS.ext hx11
  replace hX := hX.tr hx11
  have hb8 := atN_lt (l := l) (i := 8) (n := 20) (by decide)
  refine WL.nil ?_
  refine ⟨fun _ h => h.tr hx11, ?_⟩
  replace hI2 := hI2.tr hx11
  clear hX0
  refine WA.pures [26] 10 (by kernel_rfl) ?_
  refine QL.y (fun wq hq => (R.addI rfl rfl (by omega))) rfl ?_
  refine QL.nil ?_
  refine WA.one 28 9 (by kernel_rfl) ?_
  have hX0 := hX
  refine WL.call Try.func117 rfl rfl (at_calls l hl 9 12 (by decide) (by decide) _ _ _ (hL.ext hX)) rfl rfl ?_
  rintro _ w12 ⟨rfl, hx12⟩
  replace hS := hS.ext hx12
  replace hX := hX.tr hx12
  have hb9 := atN_lt (l := l) (i := 9) (n := 12) (by decide)
  refine WL.nil ?_
  refine ⟨fun _ h => h.tr hx12, ?_⟩
  replace hI2 := hI2.tr hx12
  clear hX0
  refine WA.pures [29] 8 (by kernel_rfl) ?_
  refine QL.y (fun wq hq => (R.addI rfl rfl (by omega))) rfl ?_
  refine QL.nil ?_
  refine WA.one 31 7 (by kernel_rfl) ?_
  have hX0 := hX
  refine WL.call Try.func117 rfl rfl (at_calls l hl 10 5 (by decide) (by decide) _ _ _ (hL.ext hX)) rfl rfl ?_
  rintro _ w13 ⟨rfl, hx13⟩
  replace hS := hS.ext hx13
  replace hX := hX.tr hx13
  have hb10 := atN_lt (l := l) (i := 10) (n := 5) (by decide)
  refine WL.nil ?_
  refine ⟨fun _ h => h.tr hx13, ?_⟩
  replace hI2 := hI2.tr hx13
  clear hX0
  refine WA.pures [32] 6 (by kernel_rfl) ?_
  refine QL.y (fun wq hq => (R.addI rfl rfl (by omega))) rfl ?_
  refine QL.nil ?_
  refine WA.one 34 5 (by kernel_rfl) ?_
  have hX0 := hX
  refine WL.call Try.func117 rfl rfl (at_calls l hl 11 3 (by decide) (by decide) _ _ _ (hL.ext hX)) rfl rfl ?_
  rintro _ w14 ⟨rfl, hx14⟩
  replace hS := hS.ext hx14
  replace hX := hX.tr hx14
  have hb11 := atN_lt (l := l) (i := 11) (n := 3) (by decide)
  refine WL.nil ?_
  refine ⟨fun _ h => h.tr hx14, ?_⟩
  replace hI2 := hI2.tr hx14
  clear hX0
  refine WA.pures [35] 4 (by kernel_rfl) ?_
  refine QL.y (fun wq hq => (R.addI rfl rfl (by omega))) rfl ?_
  refine QL.nil ?_
  refine WA.one 38 3 (by kernel_rfl) ?_
  have hX0 := hX
  refine WL.call Try.func117 rfl rfl (at_calls l hl 12 1000 (by decide) (by decide) _ _ _ (hL.ext hX)) rfl rfl ?_
  rintro _ w15 ⟨rfl, hx15⟩
  replace hS := hS.ext hx15
  replace hX := hX.tr hx15
  have hb12 := atN_lt (l := l) (i := 12) (n := 1000) (by decide)
  refine WL.nil ?_
  refine ⟨fun _ h => h.tr hx15, ?_⟩
  replace hI2 := hI2.tr hx15
  clear hX0
  refine WA.pures [39, 40] 1 (by kernel_rfl) ?_
  refine QL.y (fun wq hq => (R.convU32 Try.underlying3 Try.underlying31 rfl)) rfl ?_
  refine QL.y (fun wq hq => (R.buildE (parts := [(0, .tmp 5), (1, .tmp 8), (2, .tmp 11), (3, .tmp 14), (4, .tmp 17), (5, .tmp 20), (6, .tmp 23), (7, .tmp 26), (8, .tmp 29), (9, .tmp 32), (10, .tmp 35), (11, .tmp 38), (14, .tmp 39), (15, .tmp 42)]) (vs := encCfg (cfgOf l)) bld33 (by kernel_rfl) (by kernel_rfl))) rfl ?_
  refine QL.nil ?_
  refine WA.chain [41] 0 (by kernel_rfl) ?_
  refine WL.store (v := .agg _) siz33 rfl rfl rfl rfl hS.blk0 (Nat.le_of_ble_eq_true rfl) rfl rfl ?_
  intro w16 hu16 hz16 hn16
  have hN := hS.box0 hu16 hn16
  replace hS := hN.1
  replace hX := hN.2 _ hX hU
  clear hN hn16 hu16 hz16
  refine WL.nil ?_
  refine W.ret ?_
  exact PR.r1 rfl (.agg agg33 rfl hS.blk0 rfl) ⟨rfl, hX⟩

theorem adr_cell (v6 : Bool) (b : B16) {i : Nat} (h : i < 16) : (encAdr ⟨v6, b⟩)[1 + i * 1]? = some (u8 (b.list.getD i 0)) := by
  have : ∀ i : Nat, i < 16 → (encAdr ⟨v6, b⟩)[1 + i * 1]? = some (u8 (b.list.getD i 0)) := by
    intro i hi
    rcases i with _ | _ | _ | _ | _ | _ | _ | _ | _ | _ | _ | _ | _ | _ | _ | _ | i
    all_goals first | rfl | omega
  exact this i h
theorem adrOK_f {b : B16} (h : ∀ j, 4 ≤ j → j < 16 → b.list.getD j 0 = 0) : adrOK ⟨false, b⟩ = true := by
  have := fun j h1 h2 => h j h1 h2
  have e4 := h 4 (by decide) (by decide); have e5 := h 5 (by decide) (by decide); have e6 := h 6 (by decide) (by decide); have e7 := h 7 (by decide) (by decide)
  have e8 := h 8 (by decide) (by decide); have e9 := h 9 (by decide) (by decide); have e10 := h 10 (by decide) (by decide); have e11 := h 11 (by decide) (by decide)
  have e12 := h 12 (by decide) (by decide); have e13 := h 13 (by decide) (by decide); have e14 := h 14 (by decide) (by decide); have e15 := h 15 (by decide) (by decide)
  simp [B16.list] at e4 e5 e6 e7 e8 e9 e10 e11 e12 e13 e14 e15
  simp [adrOK, B16.list, List.replicate, *]
theorem adrOK_n {b : B16} {j : Nat} (h1 : 4 ≤ j) (h2 : j < 16) (h : ¬ b.list.getD j 0 = 0) : adrOK ⟨false, b⟩ = false := by
  simp only [adrOK, Bool.false_or, decide_eq_false_iff_not]
  intro e
  apply h
  have : (b.list.drop 4)[j - 4]? = (List.replicate 12 (0 : UInt8))[j - 4]? := by rw [e]
  rw [List.getElem?_drop, List.getElem?_replicate, if_pos (by omega), show 4 + (j - 4) = j by omega] at this
  rw [List.getD_eq_getElem?_getD, this]; rfl

theorem refValid_t (b : B16) (w : World) : CallV Try.prog 129 #[.agg (encAdr ⟨true, b⟩).toArray] w fun v w' => v = bl (adrOK ⟨true, b⟩) ∧ Ext w w' := by
  have hX : Ext w w := Ext.rfl' w
  have hU : ∀ k, (fun k => w.heap.size ≤ k) k → w.heap.size ≤ k := fun _ h => h
  have hS : Star (fun k => w.heap.size ≤ k) w [] := Star.nil fun _ h => h
  generalize (fun k => w.heap.size ≤ k) = U at hU hS
  refine Calls.of_W (N := 18) Try.func129 rfl rfl rfl ?_
  refine W.reg ?_
  refine WL.box (v := .agg _) rfl rfl rfl ?_
  intro b1 w1 hb1 hs1 hx1 hB1
  replace hS := hS.pushBox hb1 hx1 hB1
  replace hX := hX.tr hx1
  clear hB1 hs1
  refine WL.y (R.asg (v := .bool false) rfl) rfl ?_
  refine WL.nil ?_
  refine W.seq ?_
  refine W.reg ?_
  refine WL.y (R.asg (v := .int _ _) rfl) rfl ?_
  refine WL.nil ?_
  refine W.block ?_
  refine W.loopS (ι := Nat) [(2, 18)] (fun q => [(3, i64 (q : Nat))]) (fun q => 16 - q) (fun q w' => (4 ≤ q ∧ q ≤ 16) ∧ Ext w w' ∧ Star U w' [boxA b1 (encAdr ⟨true, b⟩)]) 4 ⟨rfl, trivial⟩ ⟨⟨by decide, by decide⟩, hX, hS⟩ ?_
  rintro i j1 w_1 ⟨⟨h4, h16⟩, hX, hS⟩
  refine W.seq ?_
  refine W.reg ?_
  refine WL.y (R.mv (v := .int _ _) rfl) rfl ?_
  refine WL.fork (R.lss rfl rfl) rfl (fun hc2_1 => ?_) (fun hc2_1 => ?_)
  · skip
    replace hc2_1 := of_decide_eq_true hc2_1
    refine WL.nil ?_
    refine W.cond_t rfl ?_
    refine W.skip ?_
    refine W.seq ?_
    refine W.block ?_
    refine W.reg ?_
    refine WL.y (R.fieldAddr fo30_0 rfl) rfl ?_
    refine WL.y (R.load sca4 rfl (hS.blk0).r rfl) rfl ?_
    refine WL.y (R.notT rfl) rfl ?_
    refine WL.y (R.mv (v := .bool false) rfl) rfl ?_
    refine WL.skip rfl ?_
    refine WL.skip rfl ?_
    refine WL.skip rfl ?_
    refine WL.skip rfl ?_
    refine WL.skip rfl ?_
    refine WL.y (R.pkF (v := .bool false) rfl rfl) rfl ?_
    refine WL.nil ?_
    refine W.cond_f rfl ?_
    refine W.skip ?_
    refine W.region ?_
    refine WL.y (R.mv (v := .int _ _) rfl) rfl ?_
    refine WL.y (R.addI rfl rfl (by omega)) rfl ?_
    refine WL.y (R.asg (v := .int _ _) rfl) rfl ?_
    refine WL.nil ?_
    exact ⟨i + 1, (by omega), (by repeat (first | exact Same.rfl' _ _ | refine Same.set _ rfl ?_ | refine Same.over' _ rfl ?_ | refine Same.sets rfl ?_)), ⟨rfl, trivial⟩, rfl, ⟨by omega, by omega⟩, hX, hS⟩
  · skip
    replace hc2_1 := of_decide_eq_false hc2_1
    refine WL.nil ?_
    refine W.cond_f rfl ?_
    refine W.exit ?_
    refine W.reg ?_
    refine WL.y (R.asg (v := .bool true) rfl) rfl ?_
    refine WL.nil ?_
    refine W.ret ?_
    exact PR.r1 rfl (.tmp rfl) ⟨by rw [show adrOK ⟨true, b⟩ = true from rfl]; rfl, hX⟩

theorem refValid_f (b : B16) (w : World) : CallV Try.prog 129 #[.agg (encAdr ⟨false, b⟩).toArray] w fun v w' => v = bl (adrOK ⟨false, b⟩) ∧ Ext w w' := by
  have hX : Ext w w := Ext.rfl' w
  have hU : ∀ k, (fun k => w.heap.size ≤ k) k → w.heap.size ≤ k := fun _ h => h
  have hS : Star (fun k => w.heap.size ≤ k) w [] := Star.nil fun _ h => h
  generalize (fun k => w.heap.size ≤ k) = U at hU hS
  refine Calls.of_W (N := 18) Try.func129 rfl rfl rfl ?_
  refine W.reg ?_
  refine WL.box (v := .agg _) rfl rfl rfl ?_
  intro b1 w1 hb1 hs1 hx1 hB1
  replace hS := hS.pushBox hb1 hx1 hB1
  replace hX := hX.tr hx1
  clear hB1 hs1
  refine WL.y (R.asg (v := .bool false) rfl) rfl ?_
  refine WL.nil ?_
  refine W.seq ?_
  refine W.reg ?_
  refine WL.y (R.asg (v := .int _ _) rfl) rfl ?_
  refine WL.nil ?_
  refine W.block ?_
  refine W.loopS (ι := Nat) [(2, 18)] (fun q => [(3, i64 (q : Nat))]) (fun q => 16 - q) (fun q w' => (4 ≤ q ∧ q ≤ 16 ∧ ∀ j, 4 ≤ j → j < q → b.list.getD j 0 = 0) ∧ Ext w w' ∧ Star U w' [boxA b1 (encAdr ⟨false, b⟩)]) 4 ⟨rfl, trivial⟩ ⟨⟨by decide, by decide, fun j h1 h2 => absurd h2 (by omega)⟩, hX, hS⟩ ?_
  rintro i j1 w_1 ⟨⟨h4, h16, hz⟩, hX, hS⟩
  refine W.seq ?_
  refine W.reg ?_
  refine WL.y (R.mv (v := .int _ _) rfl) rfl ?_
  refine WL.fork (R.lss rfl rfl) rfl (fun hc2_1 => ?_) (fun hc2_1 => ?_)
  · skip
    replace hc2_1 := of_decide_eq_true hc2_1
    refine WL.nil ?_
    refine W.cond_t rfl ?_
    refine W.skip ?_
    refine W.seq ?_
    refine W.block ?_
    refine W.reg ?_
    refine WL.y (R.fieldAddr fo30_0 rfl) rfl ?_
    refine WL.y (R.load sca4 rfl (hS.blk0).r rfl) rfl ?_
    refine WL.y (R.notF rfl) rfl ?_
    refine WL.y (R.mv (v := .bool true) rfl) rfl ?_
    refine WL.y (R.mv (v := .int _ _) rfl) rfl ?_
    refine WL.y (R.fieldAddr fo30_1 rfl) rfl ?_
    refine WL.y (R.indexA Try.underlying28 siz5 rfl rfl (i := i) (by omega)) rfl ?_
    refine WL.y (R.load sca5 rfl (hS.blk0).r (adr_cell _ b (by omega))) rfl ?_
    refine WL.y (R.neq rfl rfl) rfl ?_
    refine WL.y (R.pkT (v := .bool _) rfl rfl) rfl ?_
    refine WL.nil ?_
    refine W.cond _ rfl (fun hnz => ?_) (fun hnz => ?_)
    · skip
      replace hnz := bne_T hnz
      refine W.reg ?_
      refine WL.y (R.asg (v := .bool false) rfl) rfl ?_
      refine WL.nil ?_
      refine W.ret ?_
      exact PR.r1 rfl (.tmp rfl) ⟨by rw [adrOK_n h4 (by omega) (fun h => hnz (by rw [h]; rfl))]; rfl, hX⟩
    · skip
      replace hnz := bne_F hnz
      refine W.skip ?_
      refine W.region ?_
      refine WL.y (R.mv (v := .int _ _) rfl) rfl ?_
      refine WL.y (R.addI rfl rfl (by omega)) rfl ?_
      refine WL.y (R.asg (v := .int _ _) rfl) rfl ?_
      refine WL.nil ?_
      exact ⟨i + 1, (by omega), (by repeat (first | exact Same.rfl' _ _ | refine Same.set _ rfl ?_ | refine Same.over' _ rfl ?_ | refine Same.sets rfl ?_)), ⟨rfl, trivial⟩, rfl, ⟨by omega, by omega, fun j h1 h2 => by rcases Nat.lt_or_ge j i with h | h; exact hz j h1 h; (obtain rfl : j = i := by omega); exact UInt8.toNat_inj.1 (by have := hnz; simpa using this)⟩, hX, hS⟩
  · skip
    replace hc2_1 := of_decide_eq_false hc2_1
    refine WL.nil ?_
    refine W.cond_f rfl ?_
    refine W.exit ?_
    refine W.reg ?_
    refine WL.y (R.asg (v := .bool true) rfl) rfl ?_
    refine WL.nil ?_
    refine W.ret ?_
    exact PR.r1 rfl (.tmp rfl) ⟨by rw [adrOK_f (fun j h1 h2 => hz j h1 (by omega))]; rfl, hX⟩

theorem refValid_calls (a : Adr) (w : World) : CallV Try.prog 129 #[.agg (encAdr a).toArray] w fun v w' => v = bl (adrOK a) ∧ Ext w w' := by
  obtain ⟨v6, b⟩ := a
  cases v6
  · exact refValid_f b w
  · exact refValid_t b w
end Go.Proofs.Ytkjecokkdbapkaa
