import Derived.Test.YtkjecokkdbapkaaZzVnum0
import Derived.Test.YtkjecokkdbapkaaProg
namespace Go.Proofs.Ytkjecokkdbapkaa
set_option linter.all false
open Go Go.Eng Go.RowKit
set_option maxRecDepth 20000
set_option maxHeartbeats 2000000
set_option linter.unusedVariables false
set_option linter.unusedSimpArgs false
attribute [local irreducible] WL W QL WA SP

theorem fo42_2 : FO Try.prog 42 2 18 := fun a w => by kernel_rfl

theorem VipsNumbers_calls (n : Int) (out : List Int) (a : Option Addr) (c : Nat) (w : World) (hS : Sli (fun n : Int => [i64 n]) 1 w a c out) : CallV Try.prog 3 #[i64 n, .slice a out.length c] w fun v w' => v = bl true ∧ Ext w w' := by
  have hX : Ext w w := Ext.rfl' w
  have hSl := hS.lt
  refine Calls.of_W (N := 177) Try.func3 rfl rfl rfl ?_
  refine W.reg ?_
  refine WL.y (R.asg (v := .bool false) rfl) rfl ?_
  refine WL.nil ?_
  refine W.seq ?_
  refine W.reg ?_
  refine WL.y (R.mv (v := .int _ _) rfl) rfl ?_
  refine WL.fork (R.lss rfl rfl) rfl (fun hc1_1 => ?_) (fun hc1_1 => ?_)
  · skip
    replace hc1_1 := of_decide_eq_true hc1_1
    refine WL.y (R.mv (v := .bool true) rfl) rfl ?_
    refine WL.skip rfl ?_
    refine WL.skip rfl ?_
    refine WL.y (R.pkT (v := .bool true) rfl rfl) rfl ?_
    refine WL.y (R.mv (v := .bool true) rfl) rfl ?_
    refine WL.skip rfl ?_
    refine WL.skip rfl ?_
    refine WL.skip rfl ?_
    refine WL.y (R.pkT (v := .bool true) rfl rfl) rfl ?_
    refine WL.nil ?_
    refine W.cond_t rfl ?_
    refine W.reg ?_
    refine WL.call Try.func19 rfl rfl (awake19_calls _) rfl rfl ?_
    rintro _ w1 ⟨rfl, hx1⟩
    have hz1 := hx1.size
    replace hX := hX.tr hx1
    replace hS := hS.ext hx1
    refine WL.y (R.asg (v := .bool _) rfl) rfl ?_
    refine WL.nil ?_
    refine W.ret ?_
    exact PR.r1 rfl (.tmp rfl) ⟨rfl, hX⟩
  · skip
    replace hc1_1 := of_decide_eq_false hc1_1
    refine WL.y (R.mv (v := .bool false) rfl) rfl ?_
    refine WL.y (R.mv (v := .int _ _) rfl) rfl ?_
    refine WL.fork (R.gtr rfl rfl) rfl (fun hc1_4 => ?_) (fun hc1_4 => ?_)
    · skip
      replace hc1_4 := of_decide_eq_true hc1_4
      refine WL.y (R.pkF (v := .bool true) rfl rfl) rfl ?_
      refine WL.y (R.mv (v := .bool true) rfl) rfl ?_
      refine WL.skip rfl ?_
      refine WL.skip rfl ?_
      refine WL.skip rfl ?_
      refine WL.y (R.pkT (v := .bool true) rfl rfl) rfl ?_
      refine WL.nil ?_
      refine W.cond_t rfl ?_
      refine W.reg ?_
      refine WL.call Try.func19 rfl rfl (awake19_calls _) rfl rfl ?_
      rintro _ w2 ⟨rfl, hx2⟩
      have hz2 := hx2.size
      replace hX := hX.tr hx2
      replace hS := hS.ext hx2
      refine WL.y (R.asg (v := .bool _) rfl) rfl ?_
      refine WL.nil ?_
      refine W.ret ?_
      exact PR.r1 rfl (.tmp rfl) ⟨rfl, hX⟩
    · skip
      replace hc1_4 := of_decide_eq_false hc1_4
      refine WL.y (R.pkF (v := .bool false) rfl rfl) rfl ?_
      refine WL.y (R.mv (v := .bool false) rfl) rfl ?_
      refine WL.y (R.mv (v := .slice _ _ _) rfl) rfl ?_
      refine WL.y (R.lenS Try.underlying22 rfl) rfl ?_
      refine WL.fork (R.gtr rfl rfl) rfl (fun hc1_9 => ?_) (fun hc1_9 => ?_)
      · skip
        replace hc1_9 := of_decide_eq_true hc1_9
        refine WL.y (R.pkF (v := .bool true) rfl rfl) rfl ?_
        refine WL.nil ?_
        refine W.cond_t rfl ?_
        refine W.reg ?_
        refine WL.call Try.func19 rfl rfl (awake19_calls _) rfl rfl ?_
        rintro _ w3 ⟨rfl, hx3⟩
        have hz3 := hx3.size
        replace hX := hX.tr hx3
        replace hS := hS.ext hx3
        refine WL.y (R.asg (v := .bool _) rfl) rfl ?_
        refine WL.nil ?_
        refine W.ret ?_
        exact PR.r1 rfl (.tmp rfl) ⟨rfl, hX⟩
      · skip
        replace hc1_9 := of_decide_eq_false hc1_9
        refine WL.y (R.pkF (v := .bool false) rfl rfl) rfl ?_
        refine WL.nil ?_
        refine W.cond_f rfl ?_
        refine W.skip ?_
        refine W.reg ?_
        obtain ⟨N, rfl⟩ : ∃ N : Nat, n = N := ⟨n.toNat, by omega⟩
        refine WL.call Try.func21 rfl rfl (roomy_calls 2 _) rfl rfl ?_
        rintro _ w4 ⟨rfl, hx4⟩
        have hz4 := hx4.size
        replace hX := hX.tr hx4
        replace hS := hS.ext hx4
        refine WL.call Try.func20 rfl rfl (TNew_calls (roomy 2) (roomy_ok 2) _) rfl rfl ?_
        rintro _ w5 ⟨⟨bt, rfl, hT⟩, hx5⟩
        have hz5 := hx5.size
        have hXz := hX.size
        replace hX := hX.tr hx5
        replace hS := hS.ext hx5
        obtain ⟨F, hF⟩ : ∃ F, F = (fun k => w4.heap.size ≤ k ∧ k < w5.heap.size) := ⟨_, rfl⟩
        rw [← hF] at hT
        have hTlo : ∀ k, F k → w.heap.size ≤ k := fun k hk => by rw [hF] at hk; have := hk.1; omega
        clear hF
        refine WL.y (R.mv (v := .tuple _) rfl) rfl ?_
        refine WL.y (R.extract rfl rfl) rfl ?_
        refine WL.y (R.extract rfl rfl) rfl ?_
        refine WL.y (R.asg (v := .pointer _) rfl) rfl ?_
        refine WL.y (R.asg (v := .int _ _) rfl) rfl ?_
        refine WL.nil ?_
        refine W.seq ?_
        refine W.reg ?_
        refine WL.y (R.mv (v := .int _ _) rfl) rfl ?_
        refine WL.y (R.neqF rfl rfl rfl) rfl ?_
        refine WL.y (R.mv (v := .bool false) rfl) rfl ?_
        refine WL.y (R.mv (v := .pointer _) rfl) rfl ?_
        refine WL.y (R.eqlNil Try.underlying24 rfl) rfl ?_
        refine WL.y (R.pkF (v := .bool false) rfl rfl) rfl ?_
        refine WL.nil ?_
        refine W.cond_f rfl ?_
        refine W.skip ?_
        refine W.reg ?_
        refine WL.call Try.func22 rfl rfl (mkKey_calls 7 true true _) rfl rfl ?_
        rintro _ w6 ⟨rfl, hx6⟩
        have hz6 := hx6.size
        replace hX := hX.tr hx6
        replace hS := hS.ext hx6
        have hTl := hT.lt
        replace hT := hT.ext hx6
        refine WL.alloc zer37 rfl ?_
        intro b7 w7 hb7 hs7 hx7 hB7
        have hge7 := hX.size
        replace hX := hX.tr hx7
        replace hS := hS.ext hx7
        have hTl := hT.lt
        replace hT := hT.ext hx7
        have hnhT_b7 : ¬ F b7 := fun h => by have := hTl _ h; omega
        refine WL.store (v := .agg _) siz37 rfl rfl rfl rfl hB7 (Nat.le_of_ble_eq_true rfl) rfl rfl ?_
        intro w8 hu8 hz8 hn8
        replace hX := hX.put hu8 (by omega)
        replace hS := hS.updB hu8 (fun k hk => by first | (have := (hSl) k hk; omega) | (have := (hSl) k hk.1; omega))
        replace hT := hT.upd hu8 (fun k hk he => hnhT_b7 (he ▸ hk))
        replace hB7 := hn8; clear hn8
        obtain ⟨bk, rfl⟩ : ∃ b, b = b7 := ⟨_, rfl⟩
        have hK : Blk w8 bk (encKey (kAt 17 80)) := hB7
        clear hB7
        have hnhT_bk := hnhT_b7
        refine WL.nil ?_
        refine W.seqX (ι := List (Option Ent) × (Nat → Prop)) [(4, 5), (8, 11), (48, 85)] (fun _ => []) (fun q w' => Ext w w' ∧ TabAt w' q.2 bt (roomy 2) q.1 ∧ (∀ k, q.2 k → w.heap.size ≤ k) ∧ ¬ q.2 bk ∧ Blk w' bk (encKey (kAt 17 80)) ∧ Sli (fun n : Int => [i64 n]) 1 w' a c out ∧ PInv N q.1) ?_ ?_
        · skip
          refine W.reg ?_
          refine WL.y (R.asg (v := .int _ _) rfl) rfl ?_
          refine WL.nil ?_
          refine W.block ?_
          refine W.loopS (ι := Nat × List (Option Ent) × (Nat → Prop)) [(4, 5), (8, 11), (48, 85)] (fun q => [(8, i64 (q.1 : Nat))]) (fun q => N - q.1) (fun q w' => q.1 ≤ N ∧ Ext w w' ∧ TabAt w' q.2.2 bt (roomy 2) q.2.1 ∧ (∀ k, q.2.2 k → w.heap.size ≤ k) ∧ ¬ q.2.2 bk ∧ Blk w' bk (encKey (kAt 17 80)) ∧ Sli (fun n : Int => [i64 n]) 1 w' a c out ∧ PInv q.1 q.2.1) (0, l0, F) ⟨rfl, trivial⟩ ⟨Nat.zero_le _, hX, hT, hTlo, hnhT_bk, hK, hS, PInv.nil⟩ ?_
          rintro ⟨i, l, F⟩ j wl ⟨hi, hX, hT, hTlo, hnhT_bk, hK, hS, hI⟩
          simp only at hi hT hTlo hnhT_bk hI
          have hKl := hK.lt
          try dsimp only
          refine W.seq ?_
          refine W.reg ?_
          refine WL.y (R.mv (v := .int _ _) rfl) rfl ?_
          refine WL.y (R.mv (v := .int _ _) rfl) rfl ?_
          refine WL.fork (R.lss rfl rfl) rfl (fun hc8_2 => ?_) (fun hc8_2 => ?_)
          · skip
            replace hc8_2 := of_decide_eq_true hc8_2
            refine WL.nil ?_
            refine W.cond_t rfl ?_
            refine W.skip ?_
            refine W.seq ?_
            refine W.block ?_
            refine W.reg ?_
            refine WL.y (R.mv (v := .pointer _) rfl) rfl ?_
            refine WL.y (R.fieldAddr fo37_2 rfl) rfl ?_
            refine WL.y (R.loadA agg30 rfl (hK).r rfl rfl) rfl ?_
            refine WL.y (R.mv (v := .int _ _) rfl) rfl ?_
            refine WL.y (R.convU16 Try.underlying3 Try.underlying35 rfl) rfl ?_
            refine WL.y (R.buildE (parts := [(0, .const (.int .u8 17)), (1, .tmp 56), (2, .tmp 58)]) (vs := encVip (vp (i : Nat))) bld42 (by kernel_rfl) (by kernel_rfl)) rfl ?_
            by_cases h16 : i < 16
            · skip
              refine WL.call Try.func23 rfl rfl (Add_calls F bt (roomy 2) l _ hT (vp (i : Nat)) [] _ _ (Sli.nil encMem 19 _)) rfl rfl ?_
              rintro _ w9 (⟨hae, _⟩ | ⟨_, n9, b9, F2, hi9, hg9, rfl, hu9, hT, hF2⟩)
              · exact absurd (by rw [vp_err (by rw [hI.miss (.inl (Nat.le_refl i)) (by omega)]; decide), hI.free h16, if_neg (by omega)]) hae
              replace hX := hX.putU hu9 hTlo
              have hlt_bk := hK.lt
              replace hK := hu9.blk hnhT_bk hK
              replace hS := hS.upd hu9 (fun k hk hk2 => by have := hTlo k hk2; first | (have := (hSl) k hk; omega) | (have := (hSl) k hk.1; omega))
              have hoz := hu9.size
              replace hnhT_bk : ¬ F2 bk := fun h => by rcases hF2 _ h with h | h; exact hnhT_bk h; omega
              replace hTlo : ∀ k, F2 k → w.heap.size ≤ k := fun k hk => by rcases hF2 k hk with h | h; exact hTlo k h; have := hX.size; omega
              have hn9 : i = n9 := by have := hi9; rw [hI.free h16] at this; omega
              subst hn9
              refine WL.y (R.mv (v := .tuple _) rfl) rfl ?_
              refine WL.y (R.extract rfl rfl) rfl ?_
              refine WL.y (R.extract rfl rfl) rfl ?_
              refine WL.y (R.asg (v := .int _ _) rfl) rfl ?_
              refine WL.y (R.asg (v := .int _ _) rfl) rfl ?_
              refine WL.nil ?_
              refine W.reg ?_
              refine WL.y (R.mv (v := .int _ _) rfl) rfl ?_
              refine WL.y (R.eqlT rfl rfl rfl) rfl ?_
              refine WL.y (R.mv (v := .int _ _) rfl) rfl ?_
              refine WL.y (R.lssT rfl rfl (by omega)) rfl ?_
              refine WL.y (R.neqB Try.underlying4 rfl rfl) rfl ?_
              refine WL.y (R.mv (v := .bool false) rfl) rfl ?_
              refine WL.y (R.mv (v := .int _ _) rfl) rfl ?_
              refine WL.y (R.eqlT rfl rfl rfl) rfl ?_
              refine WL.y (R.mv (v := .bool true) rfl) rfl ?_
              refine WL.y (R.mv (v := .int _ _) rfl) rfl ?_
              refine WL.y (R.mv (v := .int _ _) rfl) rfl ?_
              refine WL.y (R.neqF rfl rfl rfl) rfl ?_
              refine WL.y (R.pkT (v := .bool false) rfl rfl) rfl ?_
              refine WL.y (R.pkF (v := .bool false) rfl rfl) rfl ?_
              refine WL.y (R.mv (v := .bool false) rfl) rfl ?_
              refine WL.y (R.mv (v := .int _ _) rfl) rfl ?_
              refine WL.y (R.neqF rfl rfl rfl) rfl ?_
              refine WL.y (R.mv (v := .bool false) rfl) rfl ?_
              refine WL.skip rfl ?_
              refine WL.skip rfl ?_
              refine WL.y (R.pkF (v := .bool false) rfl rfl) rfl ?_
              refine WL.y (R.pkF (v := .bool false) rfl rfl) rfl ?_
              refine WL.nil ?_
              refine W.cond_f rfl ?_
              refine W.skip ?_
              refine W.region ?_
              refine WL.y (R.mv (v := .int _ _) rfl) rfl ?_
              refine WL.y (R.addI rfl rfl (by omega)) rfl ?_
              refine WL.y (R.asg (v := .int _ _) rfl) rfl ?_
              refine WL.nil ?_
              exact ⟨⟨i + 1, l.set i (some ⟨vp (i : Nat), b9, pNew (roomy 2) []⟩), F2⟩, (by simp only; omega), (by repeat (first | exact Same.rfl' _ _ | refine Same.set _ rfl ?_ | refine Same.over' _ rfl ?_ | refine Same.sets rfl ?_)), ⟨rfl, trivial⟩, rfl, by simp only; omega, hX, hT, hTlo, hnhT_bk, hK, hS, hI.add h16 _ _⟩
            · skip
              refine WL.call Try.func23 rfl rfl (Add_calls F bt (roomy 2) l _ hT (vp (i : Nat)) [] _ _ (Sli.nil encMem 19 _)) rfl rfl ?_
              have herr9 : addErr (roomy 2) l (vp (i : Nat)) [] = 3 := (by rw [vp_err (by rw [hI.miss (.inl (Nat.le_refl i)) (by omega)]; decide), hI.full (by omega)]; rfl)
              rw [herr9]
              rintro _ w9 (⟨_, rfl, hx9⟩ | ⟨hae, _⟩)
              rotate_left
              · exact absurd hae (by decide)
              have hz9 := hx9.size
              replace hX := hX.tr hx9
              replace hK := hx9.blk hK
              replace hS := hS.ext hx9
              have hTl := hT.lt
              replace hT := hT.ext hx9
              refine WL.y (R.mv (v := .tuple _) rfl) rfl ?_
              refine WL.y (R.extract rfl rfl) rfl ?_
              refine WL.y (R.extract rfl rfl) rfl ?_
              refine WL.y (R.asg (v := .int _ _) rfl) rfl ?_
              refine WL.y (R.asg (v := .int _ _) rfl) rfl ?_
              refine WL.nil ?_
              refine W.reg ?_
              refine WL.y (R.mv (v := .int _ _) rfl) rfl ?_
              refine WL.y (R.eqlF rfl rfl (by decide)) rfl ?_
              refine WL.y (R.mv (v := .int _ _) rfl) rfl ?_
              refine WL.y (R.lssF rfl rfl (by omega)) rfl ?_
              refine WL.y (R.neqB Try.underlying4 rfl rfl) rfl ?_
              refine WL.y (R.mv (v := .bool false) rfl) rfl ?_
              refine WL.y (R.mv (v := .int _ _) rfl) rfl ?_
              refine WL.y (R.eqlF rfl rfl (by decide)) rfl ?_
              refine WL.y (R.mv (v := .bool false) rfl) rfl ?_
              refine WL.skip rfl ?_
              refine WL.skip rfl ?_
              refine WL.skip rfl ?_
              refine WL.y (R.pkF (v := .bool false) rfl rfl) rfl ?_
              refine WL.y (R.pkF (v := .bool false) rfl rfl) rfl ?_
              refine WL.y (R.mv (v := .bool false) rfl) rfl ?_
              refine WL.y (R.mv (v := .int _ _) rfl) rfl ?_
              refine WL.y (R.neqT rfl rfl (by decide)) rfl ?_
              refine WL.y (R.mv (v := .bool true) rfl) rfl ?_
              refine WL.y (R.mv (v := .int _ _) rfl) rfl ?_
              refine WL.y (R.neqF rfl rfl rfl) rfl ?_
              refine WL.y (R.pkT (v := .bool false) rfl rfl) rfl ?_
              refine WL.y (R.pkF (v := .bool false) rfl rfl) rfl ?_
              refine WL.nil ?_
              refine W.cond_f rfl ?_
              refine W.skip ?_
              refine W.region ?_
              refine WL.y (R.mv (v := .int _ _) rfl) rfl ?_
              refine WL.y (R.addI rfl rfl (by omega)) rfl ?_
              refine WL.y (R.asg (v := .int _ _) rfl) rfl ?_
              refine WL.nil ?_
              exact ⟨⟨i + 1, l, F⟩, (by simp only; omega), (by repeat (first | exact Same.rfl' _ _ | refine Same.set _ rfl ?_ | refine Same.over' _ rfl ?_ | refine Same.sets rfl ?_)), ⟨rfl, trivial⟩, rfl, by simp only; omega, hX, hT, hTlo, hnhT_bk, hK, hS, hI.more (by omega)⟩
          · skip
            replace hc8_2 := of_decide_eq_false hc8_2
            refine WL.nil ?_
            refine W.cond_f rfl ?_
            refine W.exit ?_
            obtain rfl : i = N := by omega
            exact ⟨⟨l, F⟩, (by repeat (first | exact Same.rfl' _ _ | refine Same.set _ rfl ?_ | refine Same.over' _ rfl ?_ | refine Same.sets rfl ?_)), trivial, rfl, hX, hT, hTlo, hnhT_bk, hK, hS, hI⟩
        · skip
          rintro ⟨l, F⟩ j wl ⟨hX, hT, hTlo, hnhT_bk, hK, hS, hI⟩
          simp only at hT hTlo hnhT_bk hI
          have hKl := hK.lt
          try dsimp only
          refine W.reg ?_
          obtain ⟨M, hM⟩ : ∃ M, M = min N 16 := ⟨_, rfl⟩
          have hMN : min ((N : Nat) : Int) 16 = ((M : Nat) : Int) := by omega
          refine WL.y (R.mv (v := .int _ _) rfl) rfl ?_
          refine WL.y (R.min2 rfl rfl) rfl ?_
          refine WL.y (R.asg (v := i64 ((M : Nat) : Int)) (congrArg (Value.int .i64) hMN)) rfl ?_
          refine WL.nil ?_
          refine W.seqX (ι := List (Option Ent) × (Nat → Prop)) [(4, 5), (11, 17), (87, 137)] (fun _ => []) (fun q w' => Ext w w' ∧ TabAt w' q.2 bt (roomy 2) q.1 ∧ (∀ k, q.2 k → w.heap.size ≤ k) ∧ ¬ q.2 bk ∧ Blk w' bk (encKey (kAt 17 80)) ∧ Sli (fun n : Int => [i64 n]) 1 w' a c out ∧ PInv N q.1) ?_ ?_
          · skip
            refine W.reg ?_
            refine WL.y (R.asg (v := .int _ _) rfl) rfl ?_
            refine WL.nil ?_
            refine W.block ?_
            refine W.loopS (ι := Nat × List (Option Ent) × (Nat → Prop)) [(4, 5), (11, 17), (87, 137)] (fun q => [(11, i64 (q.1 : Nat))]) (fun q => out.length - q.1) (fun q w' => q.1 ≤ out.length ∧ Ext w w' ∧ TabAt w' q.2.2 bt (roomy 2) q.2.1 ∧ (∀ k, q.2.2 k → w.heap.size ≤ k) ∧ ¬ q.2.2 bk ∧ Blk w' bk (encKey (kAt 17 80)) ∧ Sli (fun n : Int => [i64 n]) 1 w' a c out ∧ PInv N q.2.1) (0, l, F) ⟨rfl, trivial⟩ ⟨Nat.zero_le _, hX, hT, hTlo, hnhT_bk, hK, hS, hI⟩ ?_
            rintro ⟨i, l, F⟩ j wl ⟨hi, hX, hT, hTlo, hnhT_bk, hK, hS, hI⟩
            simp only at hi hT hTlo hnhT_bk hI
            have hKl := hK.lt
            try dsimp only
            refine W.seq ?_
            refine W.reg ?_
            refine WL.y (R.mv (v := .int _ _) rfl) rfl ?_
            refine WL.y (R.mv (v := .slice _ _ _) rfl) rfl ?_
            refine WL.y (R.lenS Try.underlying22 rfl) rfl ?_
            refine WL.fork (R.lss rfl rfl) rfl (fun hc15_3 => ?_) (fun hc15_3 => ?_)
            · skip
              replace hc15_3 := of_decide_eq_true hc15_3
              refine WL.y (R.mv (v := .bool true) rfl) rfl ?_
              refine WL.y (R.mv (v := .int _ _) rfl) rfl ?_
              refine WL.fork (R.gtr rfl rfl) rfl (fun hc15_6 => ?_) (fun hc15_6 => ?_)
              · skip
                replace hc15_6 := of_decide_eq_true hc15_6
                refine WL.y (R.pkT (v := .bool true) rfl rfl) rfl ?_
                refine WL.nil ?_
                refine W.cond_t rfl ?_
                refine W.skip ?_
                refine W.seq ?_
                refine W.block ?_
                refine W.reg ?_
                obtain ⟨x, hx⟩ : ∃ x, out[i]? = some x := ⟨_, List.getElem?_eq_getElem (by omega)⟩
                obtain ⟨g, off, cs, rfl, hO⟩ := hS.op (by omega)
                have hg := hSl g ⟨(owns_some _ _).2 rfl, by have := hO.le; omega⟩
                refine WL.y (R.mv (v := .slice _ _ _) rfl) rfl ?_
                refine WL.y (R.mv (v := .int _ _) rfl) rfl ?_
                refine WL.y (R.indexS Try.underlying22 siz3 rfl rfl rfl (by omega)) rfl ?_
                refine WL.y (R.load sca3 rfl (hO.blk).r (hO.cell encI hx (j := 0) (by decide))) rfl ?_
                refine WL.y (R.mv (v := .int _ _) rfl) rfl ?_
                have hrb := round_bd x (M : Nat) (by omega)
                obtain ⟨o, ho⟩ : ∃ o : Nat, round x (M : Nat) = o := ⟨_, (Int.toNat_of_nonneg hrb.1).symm⟩
                refine WL.call Try.func24 rfl rfl ((round_calls x ((M : Nat) : Int) _ (by omega) (by omega)).val (y := i64 ((o : Nat) : Int)) (by rw [← ho]; rfl)) rfl rfl ?_
                rintro _ _ ⟨rfl, rfl⟩
                obtain ⟨b0, p0, he⟩ := hI.lo o (by omega) (by omega)
                refine WL.y (R.asg (v := .int _ _) rfl) rfl ?_
                refine WL.nil ?_
                refine W.reg ?_
                refine WL.y (R.mv (v := .pointer _) rfl) rfl ?_
                refine WL.y (R.mv (v := .int _ _) rfl) rfl ?_
                refine WL.call Try.func25 rfl rfl ((Vip_calls F bt (roomy 2) l _ hT (o : Nat)).val (y := .tuple #[encVv (vp (o : Nat)), bl true]) (by rw [tHas_at he])) rfl rfl ?_
                rintro _ w11 ⟨rfl, hx11⟩
                have hz11 := hx11.size
                replace hX := hX.tr hx11
                replace hK := hx11.blk hK
                have hTl := hT.lt
                replace hT := hT.ext hx11
                replace hO := hO.ext hx11
                refine WL.y (R.mv (v := .tuple _) rfl) rfl ?_
                refine WL.y (R.extract rfl rfl) rfl ?_
                refine WL.y (R.extract rfl rfl) rfl ?_
                refine WL.alloc zer42 rfl ?_
                intro b12 w12 hb12 hs12 hx12 hB12
                have hge12 := hX.size
                replace hX := hX.tr hx12
                replace hK := hx12.blk hK
                have hTl := hT.lt
                replace hT := hT.ext hx12
                replace hO := hO.ext hx12
                have hnhT_b12 : ¬ F b12 := fun h => by have := hTl _ h; omega
                refine WL.store (v := .agg _) siz42 rfl rfl rfl rfl hB12 (Nat.le_of_ble_eq_true rfl) rfl rfl ?_
                intro w13 hu13 hz13 hn13
                replace hX := hX.put hu13 (by omega)
                replace hK := hu13.blk (by omega) hK
                replace hT := hT.upd hu13 (fun k hk he => hnhT_b12 (he ▸ hk))
                replace hO := hO.updB hu13 (by omega)
                replace hB12 := hn13; clear hn13
                refine WL.y (R.asg (v := .bool true) rfl) rfl ?_
                refine WL.nil ?_
                refine W.seq ?_
                refine W.reg ?_
                refine WL.y (R.mv (v := .bool true) rfl) rfl ?_
                refine WL.y (R.notT rfl) rfl ?_
                refine WL.y (R.mv (v := .bool false) rfl) rfl ?_
                refine WL.y (R.mv (v := .pointer _) rfl) rfl ?_
                refine WL.y (R.mv (v := .int _ _) rfl) rfl ?_
                refine WL.call Try.func26 rfl rfl (Remove_yes F bt (roomy 2) l _ hT o _ he) rfl rfl ?_
                rintro _ w14 ⟨rfl, hu14, hT, -⟩
                have hF2 : ∀ k, F k → F k ∨ w13.heap.size ≤ k := fun k hk => .inl hk
                replace hX := hX.putU hu14 hTlo
                have hlt_bk := hK.lt
                replace hK := hu14.blk hnhT_bk hK
                replace hO := hO.upd hu14 (fun hk2 => by have := hTlo _ hk2; omega)
                have hlt_b12 := hB12.lt
                replace hB12 := hu14.blk hnhT_b12 hB12
                have hoz := hu14.size
                replace hnhT_bk : ¬ F bk := fun h => by rcases hF2 _ h with h | h; exact hnhT_bk h; omega
                replace hnhT_b12 : ¬ F b12 := fun h => by rcases hF2 _ h with h | h; exact hnhT_b12 h; omega
                replace hTlo : ∀ k, F k → w.heap.size ≤ k := fun k hk => by rcases hF2 k hk with h | h; exact hTlo k h; have := hX.size; omega
                have hdc : (count (l.set o none) : Int) = (M : Nat) - 1 := by rw [hI.del_count he]; omega
                refine WL.y (R.neqF rfl rfl rfl) rfl ?_
                refine WL.y (R.pkF (v := .bool false) rfl rfl) rfl ?_
                refine WL.y (R.mv (v := .bool false) rfl) rfl ?_
                refine WL.y (R.mv (v := .pointer _) rfl) rfl ?_
                refine WL.call Try.func27 rfl rfl (Len_calls F bt (roomy 2) (l.set o none) _ hT) rfl rfl ?_
                rintro _ w15 ⟨rfl, hx15⟩
                have hz15 := hx15.size
                replace hX := hX.tr hx15
                replace hK := hx15.blk hK
                have hTl := hT.lt
                replace hT := hT.ext hx15
                replace hO := hO.ext hx15
                replace hB12 := hx15.blk hB12
                refine WL.y (R.mv (v := .int _ _) rfl) rfl ?_
                refine WL.y (R.subI rfl rfl (by omega)) rfl ?_
                refine WL.y (R.neqF rfl rfl hdc) rfl ?_
                refine WL.y (R.pkF (v := .bool false) rfl rfl) rfl ?_
                refine WL.nil ?_
                refine W.cond_f rfl ?_
                refine W.skip ?_
                refine W.reg ?_
                refine WL.y (R.mv (v := .pointer _) rfl) rfl ?_
                refine WL.y (R.loadA agg42 rfl (hB12).r rfl rfl) rfl ?_
                refine WL.call Try.func23 rfl rfl (Add_calls F bt (roomy 2) (l.set o none) _ hT (vp (o : Nat)) [] _ _ (Sli.nil encMem 19 _)) rfl rfl ?_
                rintro _ w16 (⟨hae, _⟩ | ⟨_, n16, b16, F2, hi16, hg16, rfl, hu16, hT, hF2⟩)
                · exact absurd (by rw [vp_err (by rw [show tIdx (l.set o none) (vp (o : Nat)) = -1 from hI.del_find he]; decide), hI.del_free (by omega) (by omega), if_neg (by omega)]) hae
                replace hX := hX.putU hu16 hTlo
                have hlt_bk := hK.lt
                replace hK := hu16.blk hnhT_bk hK
                replace hO := hO.upd hu16 (fun hk2 => by have := hTlo _ hk2; omega)
                have hlt_b12 := hB12.lt
                replace hB12 := hu16.blk hnhT_b12 hB12
                have hoz := hu16.size
                replace hnhT_bk : ¬ F2 bk := fun h => by rcases hF2 _ h with h | h; exact hnhT_bk h; omega
                replace hnhT_b12 : ¬ F2 b12 := fun h => by rcases hF2 _ h with h | h; exact hnhT_b12 h; omega
                replace hTlo : ∀ k, F2 k → w.heap.size ≤ k := fun k hk => by rcases hF2 k hk with h | h; exact hTlo k h; have := hX.size; omega
                have hn16 : o = n16 := by have := hi16; rw [hI.del_free (by omega) (by omega)] at this; omega
                subst hn16
                refine WL.y (R.mv (v := .tuple _) rfl) rfl ?_
                refine WL.y (R.extract rfl rfl) rfl ?_
                refine WL.y (R.extract rfl rfl) rfl ?_
                refine WL.y (R.asg (v := .int _ _) rfl) rfl ?_
                refine WL.y (R.asg (v := .int _ _) rfl) rfl ?_
                refine WL.nil ?_
                refine W.reg ?_
                refine WL.y (R.mv (v := .int _ _) rfl) rfl ?_
                refine WL.y (R.neqF rfl rfl rfl) rfl ?_
                refine WL.y (R.mv (v := .bool false) rfl) rfl ?_
                refine WL.y (R.mv (v := .int _ _) rfl) rfl ?_
                refine WL.y (R.mv (v := .int _ _) rfl) rfl ?_
                refine WL.y (R.neqF rfl rfl rfl) rfl ?_
                refine WL.y (R.pkF (v := .bool false) rfl rfl) rfl ?_
                refine WL.nil ?_
                refine W.cond_f rfl ?_
                refine W.skip ?_
                refine W.region ?_
                refine WL.y (R.mv (v := .int _ _) rfl) rfl ?_
                refine WL.y (R.addI rfl rfl (by omega)) rfl ?_
                refine WL.y (R.asg (v := .int _ _) rfl) rfl ?_
                refine WL.nil ?_
                exact ⟨⟨i + 1, (l.set o none).set o (some ⟨vp (o : Nat), b16, pNew (roomy 2) []⟩), F2⟩, (by simp only; omega), (by repeat (first | exact Same.rfl' _ _ | refine Same.set _ rfl ?_ | refine Same.over' _ rfl ?_ | refine Same.sets rfl ?_)), ⟨rfl, trivial⟩, rfl, by simp only; omega, hX, hT, hTlo, hnhT_bk, hK, hO.cl, hI.again (by omega) (by omega) _ _⟩
              · skip
                replace hc15_6 := of_decide_eq_false hc15_6
                refine WL.y (R.pkT (v := .bool false) rfl rfl) rfl ?_
                refine WL.nil ?_
                refine W.cond_f rfl ?_
                refine W.exit ?_
                exact ⟨⟨l, F⟩, (by repeat (first | exact Same.rfl' _ _ | refine Same.set _ rfl ?_ | refine Same.over' _ rfl ?_ | refine Same.sets rfl ?_)), trivial, rfl, hX, hT, hTlo, hnhT_bk, hK, hS, hI⟩
            · skip
              replace hc15_3 := of_decide_eq_false hc15_3
              refine WL.y (R.mv (v := .bool false) rfl) rfl ?_
              refine WL.skip rfl ?_
              refine WL.skip rfl ?_
              refine WL.y (R.pkF (v := .bool false) rfl rfl) rfl ?_
              refine WL.nil ?_
              refine W.cond_f rfl ?_
              refine W.exit ?_
              exact ⟨⟨l, F⟩, (by repeat (first | exact Same.rfl' _ _ | refine Same.set _ rfl ?_ | refine Same.over' _ rfl ?_ | refine Same.sets rfl ?_)), trivial, rfl, hX, hT, hTlo, hnhT_bk, hK, hS, hI⟩
          · skip
            rintro ⟨l, F⟩ j wl ⟨hX, hT, hTlo, hnhT_bk, hK, hS, hI⟩
            simp only at hT hTlo hnhT_bk hI
            have hKl := hK.lt
            try dsimp only
            refine W.seqX (ι := Unit) [(4, 5), (17, 24), (137, 176)] (fun _ => []) (fun _ w' => Ext w w') ?_ ?_
            · skip
              refine W.reg ?_
              refine WL.y (R.asg (v := .int _ _) rfl) rfl ?_
              refine WL.nil ?_
              refine W.block ?_
              refine W.loopS (ι := Nat × UInt16) [(4, 5), (17, 24), (137, 176)] (fun q => [(17, i64 (q.1 : Nat))]) (fun q => 20 - q.1) (fun q w' => q.1 ≤ 20 ∧ Ext w w' ∧ TabAt w' F bt (roomy 2) l ∧ Blk w' bk (encKey (kAt 17 q.2))) (0, 80) ⟨rfl, trivial⟩ ⟨by omega, hX, hT, hK⟩ ?_
              rintro ⟨i, d⟩ j wl ⟨hi, hX, hT, hK⟩
              simp only at hi hK
              have hKl := hK.lt
              try dsimp only
              refine W.seq ?_
              refine W.reg ?_
              refine WL.y (R.mv (v := .int _ _) rfl) rfl ?_
              refine WL.fork (R.lss rfl rfl) rfl (fun hc25_1 => ?_) (fun hc25_1 => ?_)
              · skip
                replace hc25_1 := of_decide_eq_true hc25_1
                refine WL.nil ?_
                refine W.cond_t rfl ?_
                refine W.skip ?_
                refine W.seq ?_
                refine W.block ?_
                refine W.reg ?_
                refine WL.y (R.mv (v := .int _ _) rfl) rfl ?_
                refine WL.y (R.convU16 Try.underlying3 Try.underlying35 rfl) rfl ?_
                refine WL.y (R.fieldAddr fo37_4 rfl) rfl ?_
                refine WL.store1 (v := .int _ _) sca35 rfl rfl rfl hK (Nat.le_of_ble_eq_true rfl) rfl ?_
                intro w17 hu17 hz17 hn17
                replace hX := hX.put hu17 (by omega)
                replace hT := hT.upd hu17 (fun k hk he => hnhT_bk (he ▸ hk))
                replace hK := hn17; clear hn17
                replace hK : Blk w17 bk (encKey (kAt 17 (UInt16.ofInt (i : Nat)))) := hK
                refine WL.nil ?_
                refine W.reg ?_
                refine WL.y (R.mv (v := .pointer _) rfl) rfl ?_
                refine WL.y (R.loadA agg37 rfl (hK).r rfl rfl) rfl ?_
                by_cases hiM : i < M
                · skip
                  refine WL.call Try.func28 rfl rfl ((Of_calls F bt (roomy 2) l _ hT (kAt 17 (UInt16.ofInt (i : Nat)))).val (hI.of_yes (i := i) (by omega) (by omega))) rfl rfl ?_
                  rintro _ w18 ⟨rfl, hx18⟩
                  have hz18 := hx18.size
                  replace hX := hX.tr hx18
                  replace hK := hx18.blk hK
                  have hTl := hT.lt
                  replace hT := hT.ext hx18
                  refine WL.y (R.mv (v := .tuple _) rfl) rfl ?_
                  refine WL.y (R.extract rfl rfl) rfl ?_
                  refine WL.y (R.extract rfl rfl) rfl ?_
                  refine WL.y (R.asg (v := .int _ _) rfl) rfl ?_
                  refine WL.y (R.asg (v := .bool true) rfl) rfl ?_
                  refine WL.nil ?_
                  refine W.seq ?_
                  refine W.reg ?_
                  refine WL.y (R.mv (v := .bool true) rfl) rfl ?_
                  refine WL.y (R.mv (v := .int _ _) rfl) rfl ?_
                  refine WL.y (R.mv (v := .int _ _) rfl) rfl ?_
                  refine WL.y (R.lssT rfl rfl (by omega)) rfl ?_
                  refine WL.y (R.neqB Try.underlying4 rfl rfl) rfl ?_
                  refine WL.nil ?_
                  refine W.cond_f rfl ?_
                  refine W.skip ?_
                  refine W.seq ?_
                  refine W.reg ?_
                  refine WL.y (R.mv (v := .bool true) rfl) rfl ?_
                  refine WL.nil ?_
                  refine W.cond_t rfl ?_
                  refine W.reg ?_
                  refine WL.y (R.mv (v := .pointer _) rfl) rfl ?_
                  refine WL.y (R.mv (v := .int _ _) rfl) rfl ?_
                  obtain ⟨b0, p0, he⟩ := hI.lo i (by omega) (by omega)
                  refine WL.call Try.func25 rfl rfl ((Vip_calls F bt (roomy 2) l _ hT (i : Nat)).val (y := .tuple #[encVv (vp (i : Nat)), bl true]) (by rw [tHas_at he])) rfl rfl ?_
                  rintro _ w19 ⟨rfl, hx19⟩
                  have hz19 := hx19.size
                  replace hX := hX.tr hx19
                  replace hK := hx19.blk hK
                  have hTl := hT.lt
                  replace hT := hT.ext hx19
                  refine WL.y (R.mv (v := .tuple _) rfl) rfl ?_
                  refine WL.y (R.extract rfl rfl) rfl ?_
                  refine WL.y (R.extract rfl rfl) rfl ?_
                  refine WL.alloc zer42 rfl ?_
                  intro b20 w20 hb20 hs20 hx20 hB20
                  have hge20 := hX.size
                  replace hX := hX.tr hx20
                  replace hK := hx20.blk hK
                  have hTl := hT.lt
                  replace hT := hT.ext hx20
                  have hnhT_b20 : ¬ F b20 := fun h => by have := hTl _ h; omega
                  refine WL.store (v := .agg _) siz42 rfl rfl rfl rfl hB20 (Nat.le_of_ble_eq_true rfl) rfl rfl ?_
                  intro w21 hu21 hz21 hn21
                  replace hX := hX.put hu21 (by omega)
                  replace hK := hu21.blk (by omega) hK
                  replace hT := hT.upd hu21 (fun k hk he => hnhT_b20 (he ▸ hk))
                  replace hB20 := hn21; clear hn21
                  refine WL.y (R.asg (v := .bool true) rfl) rfl ?_
                  refine WL.nil ?_
                  refine W.reg ?_
                  refine WL.y (R.fieldAddr fo42_2 rfl) rfl ?_
                  refine WL.y (R.load sca35 rfl (hB20).r rfl) rfl ?_
                  refine WL.y (R.fieldAddr fo37_4 rfl) rfl ?_
                  refine WL.y (R.load sca35 rfl (hK).r rfl) rfl ?_
                  refine WL.y (R.neqF rfl rfl rfl) rfl ?_
                  refine WL.nil ?_
                  refine W.cond_f rfl ?_
                  refine W.skip ?_
                  refine W.reg ?_
                  refine WL.y (R.fieldAddr fo37_0 rfl) rfl ?_
                  refine WL.store1 (v := .int _ _) sca5 rfl rfl rfl hK (Nat.le_of_ble_eq_true rfl) rfl ?_
                  intro w22 hu22 hz22 hn22
                  replace hX := hX.put hu22 (by omega)
                  replace hT := hT.upd hu22 (fun k hk he => hnhT_bk (he ▸ hk))
                  replace hB20 := hu22.blk (by omega) hB20
                  replace hK := hn22; clear hn22
                  replace hK : Blk w22 bk (encKey (kAt 6 (UInt16.ofInt (i : Nat)))) := hK
                  refine WL.nil ?_
                  refine W.reg ?_
                  refine WL.y (R.mv (v := .pointer _) rfl) rfl ?_
                  refine WL.y (R.loadA agg37 rfl (hK).r rfl rfl) rfl ?_
                  refine WL.call Try.func28 rfl rfl ((Of_calls F bt (roomy 2) l _ hT (kAt 6 (UInt16.ofInt (i : Nat)))).val (hI.of_tcp _)) rfl rfl ?_
                  rintro _ w23 ⟨rfl, hx23⟩
                  have hz23 := hx23.size
                  replace hX := hX.tr hx23
                  replace hK := hx23.blk hK
                  have hTl := hT.lt
                  replace hT := hT.ext hx23
                  replace hB20 := hx23.blk hB20
                  refine WL.y (R.mv (v := .tuple _) rfl) rfl ?_
                  refine WL.y (R.extract rfl rfl) rfl ?_
                  refine WL.y (R.extract rfl rfl) rfl ?_
                  refine WL.y (R.asg (v := .int _ _) rfl) rfl ?_
                  refine WL.y (R.asg (v := .bool false) rfl) rfl ?_
                  refine WL.nil ?_
                  refine W.reg ?_
                  refine WL.y (R.fieldAddr fo37_0 rfl) rfl ?_
                  refine WL.store1 (v := .int _ _) sca5 rfl rfl rfl hK (Nat.le_of_ble_eq_true rfl) rfl ?_
                  intro w24 hu24 hz24 hn24
                  replace hX := hX.put hu24 (by omega)
                  replace hT := hT.upd hu24 (fun k hk he => hnhT_bk (he ▸ hk))
                  replace hB20 := hu24.blk (by omega) hB20
                  replace hK := hn24; clear hn24
                  replace hK : Blk w24 bk (encKey (kAt 17 (UInt16.ofInt (i : Nat)))) := hK
                  refine WL.nil ?_
                  refine W.reg ?_
                  refine WL.y (R.mv (v := .bool false) rfl) rfl ?_
                  refine WL.nil ?_
                  refine W.cond_f rfl ?_
                  refine W.skip ?_
                  refine W.region ?_
                  refine WL.y (R.mv (v := .int _ _) rfl) rfl ?_
                  refine WL.y (R.addI rfl rfl (by omega)) rfl ?_
                  refine WL.y (R.asg (v := .int _ _) rfl) rfl ?_
                  refine WL.nil ?_
                  exact ⟨⟨i + 1, UInt16.ofInt (i : Nat)⟩, (by simp only; omega), (by repeat (first | exact Same.rfl' _ _ | refine Same.set _ rfl ?_ | refine Same.over' _ rfl ?_ | refine Same.sets rfl ?_)), ⟨rfl, trivial⟩, rfl, by simp only; omega, hX, hT, hK⟩
                · skip
                  refine WL.call Try.func28 rfl rfl ((Of_calls F bt (roomy 2) l _ hT (kAt 17 (UInt16.ofInt (i : Nat)))).val (hI.of_no (i := i) (by omega) (by omega))) rfl rfl ?_
                  rintro _ w18 ⟨rfl, hx18⟩
                  have hz18 := hx18.size
                  replace hX := hX.tr hx18
                  replace hK := hx18.blk hK
                  have hTl := hT.lt
                  replace hT := hT.ext hx18
                  refine WL.y (R.mv (v := .tuple _) rfl) rfl ?_
                  refine WL.y (R.extract rfl rfl) rfl ?_
                  refine WL.y (R.extract rfl rfl) rfl ?_
                  refine WL.y (R.asg (v := .int _ _) rfl) rfl ?_
                  refine WL.y (R.asg (v := .bool false) rfl) rfl ?_
                  refine WL.nil ?_
                  refine W.seq ?_
                  refine W.reg ?_
                  refine WL.y (R.mv (v := .bool false) rfl) rfl ?_
                  refine WL.y (R.mv (v := .int _ _) rfl) rfl ?_
                  refine WL.y (R.mv (v := .int _ _) rfl) rfl ?_
                  refine WL.y (R.lssF rfl rfl (by omega)) rfl ?_
                  refine WL.y (R.neqB Try.underlying4 rfl rfl) rfl ?_
                  refine WL.nil ?_
                  refine W.cond_f rfl ?_
                  refine W.skip ?_
                  refine W.seq ?_
                  refine W.reg ?_
                  refine WL.y (R.mv (v := .bool false) rfl) rfl ?_
                  refine WL.nil ?_
                  refine W.cond_f rfl ?_
                  refine W.skip ?_
                  refine W.reg ?_
                  refine WL.y (R.fieldAddr fo37_0 rfl) rfl ?_
                  refine WL.store1 (v := .int _ _) sca5 rfl rfl rfl hK (Nat.le_of_ble_eq_true rfl) rfl ?_
                  intro w25 hu25 hz25 hn25
                  replace hX := hX.put hu25 (by omega)
                  replace hT := hT.upd hu25 (fun k hk he => hnhT_bk (he ▸ hk))
                  replace hK := hn25; clear hn25
                  replace hK : Blk w25 bk (encKey (kAt 6 (UInt16.ofInt (i : Nat)))) := hK
                  refine WL.nil ?_
                  refine W.reg ?_
                  refine WL.y (R.mv (v := .pointer _) rfl) rfl ?_
                  refine WL.y (R.loadA agg37 rfl (hK).r rfl rfl) rfl ?_
                  refine WL.call Try.func28 rfl rfl ((Of_calls F bt (roomy 2) l _ hT (kAt 6 (UInt16.ofInt (i : Nat)))).val (hI.of_tcp _)) rfl rfl ?_
                  rintro _ w26 ⟨rfl, hx26⟩
                  have hz26 := hx26.size
                  replace hX := hX.tr hx26
                  replace hK := hx26.blk hK
                  have hTl := hT.lt
                  replace hT := hT.ext hx26
                  refine WL.y (R.mv (v := .tuple _) rfl) rfl ?_
                  refine WL.y (R.extract rfl rfl) rfl ?_
                  refine WL.y (R.extract rfl rfl) rfl ?_
                  refine WL.y (R.asg (v := .int _ _) rfl) rfl ?_
                  refine WL.y (R.asg (v := .bool false) rfl) rfl ?_
                  refine WL.nil ?_
                  refine W.reg ?_
                  refine WL.y (R.fieldAddr fo37_0 rfl) rfl ?_
                  refine WL.store1 (v := .int _ _) sca5 rfl rfl rfl hK (Nat.le_of_ble_eq_true rfl) rfl ?_
                  intro w27 hu27 hz27 hn27
                  replace hX := hX.put hu27 (by omega)
                  replace hT := hT.upd hu27 (fun k hk he => hnhT_bk (he ▸ hk))
                  replace hK := hn27; clear hn27
                  replace hK : Blk w27 bk (encKey (kAt 17 (UInt16.ofInt (i : Nat)))) := hK
                  refine WL.nil ?_
                  refine W.reg ?_
                  refine WL.y (R.mv (v := .bool false) rfl) rfl ?_
                  refine WL.nil ?_
                  refine W.cond_f rfl ?_
                  refine W.skip ?_
                  refine W.region ?_
                  refine WL.y (R.mv (v := .int _ _) rfl) rfl ?_
                  refine WL.y (R.addI rfl rfl (by omega)) rfl ?_
                  refine WL.y (R.asg (v := .int _ _) rfl) rfl ?_
                  refine WL.nil ?_
                  exact ⟨⟨i + 1, UInt16.ofInt (i : Nat)⟩, (by simp only; omega), (by repeat (first | exact Same.rfl' _ _ | refine Same.set _ rfl ?_ | refine Same.over' _ rfl ?_ | refine Same.sets rfl ?_)), ⟨rfl, trivial⟩, rfl, by simp only; omega, hX, hT, hK⟩
              · skip
                replace hc25_1 := of_decide_eq_false hc25_1
                refine WL.nil ?_
                refine W.cond_f rfl ?_
                refine W.exit ?_
                exact ⟨(), (by repeat (first | exact Same.rfl' _ _ | refine Same.set _ rfl ?_ | refine Same.over' _ rfl ?_ | refine Same.sets rfl ?_)), trivial, rfl, hX⟩
            · skip
              rintro _ j wl hX
              refine W.reg ?_
              refine WL.call Try.func19 rfl rfl (awake19_calls _) rfl rfl ?_
              rintro _ w28 ⟨rfl, hx28⟩
              have hz28 := hx28.size
              replace hX := hX.tr hx28
              refine WL.y (R.asg (v := .bool _) rfl) rfl ?_
              refine WL.nil ?_
              refine W.ret ?_
              exact PR.r1 rfl (.tmp rfl) ⟨rfl, hX⟩
end Go.Proofs.Ytkjecokkdbapkaa
