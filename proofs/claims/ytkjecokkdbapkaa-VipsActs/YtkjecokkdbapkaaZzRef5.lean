import Derived.Test.YtkjecokkdbapkaaZzRef4
import Derived.Test.YtkjecokkdbapkaaProg
namespace Go.Proofs.Ytkjecokkdbapkaa
set_option linter.all false
open Go Go.Eng Go.RowKit
set_option maxRecDepth 20000
set_option maxHeartbeats 2000000
set_option linter.unusedVariables false
set_option linter.unusedSimpArgs false
attribute [local irreducible] WL W QL WA SP



theorem pG_all {old : List Dip} {ms : List Mem} {n i : Nat} {K : List Bool} (hF : FInv ms.length n n (pF old ms n n)) (ho : (pF old ms n n).2.2 = opens K n) (hi : i < n) (hz : ∀ t, t < ms.length → (pG old ms n (qN K i)).1.getD t 0 = 0) : K.getD i false = true := by
  cases h : K.getD i false with
  | true => rfl
  | false =>
    have hlt := (List.getElem?_eq_some_iff.1 (opens_at hi h)).1
    have hG : GInv ms n _ (pG old ms n (qN K i)) := ginv hF (qN K i) (by rw [ho]; omega)
    have hf := find_lt (l := (pG old ms n (qN K i)).1) (by have := hG.sum; rw [ho] at this; omega)
    have := hG.lenL
    exact absurd (hz _ (by omega)) (find_ne hf)

theorem refFill_bad1 (old : List Dip) (ms : List Mem) (n : Int) (ao a : Option Addr) (co c : Nat) (w : World) (hD : Sli encDip 18 w ao co old) (hM : Sli encMem 19 w a c ms) (hol : old.length ≤ 1000000) (hml : ms.length ≤ 1000000) (h : n < 1) : CallV Try.prog 122 #[.slice ao old.length co, .slice a ms.length c, i64 n] w fun v w' => v = .tuple #[.slice none 0 0, i64 1] ∧ Ext w w' := by
  have hX : Ext w w := Ext.rfl' w
  have hU : ∀ k, (fun k => w.heap.size ≤ k) k → w.heap.size ≤ k := fun _ h => h
  have hS : Star (fun k => w.heap.size ≤ k) w [] := Star.nil fun _ h => h
  generalize (fun k => w.heap.size ≤ k) = U at hU hS
  refine Calls.of_W (N := 125) Try.func122 rfl rfl rfl ?_
  refine W.reg ?_
  refine WL.y (R.asg (v := .slice _ _ _) rfl) rfl ?_
  refine WL.y (R.asg (v := .int _ _) rfl) rfl ?_
  refine WL.nil ?_
  refine W.seq ?_
  refine W.reg ?_
  refine WL.y (R.mv (v := .int _ _) rfl) rfl ?_
  refine WL.y (R.lssT rfl rfl (by omega)) rfl ?_
  refine WL.y (R.mv (v := .bool true) rfl) rfl ?_
  refine WL.skip rfl ?_
  refine WL.skip rfl ?_
  refine WL.y (R.pkT (v := .bool true) rfl rfl) rfl ?_
  refine WL.y (R.mv (v := .bool true) rfl) rfl ?_
  refine WL.skip rfl ?_
  refine WL.skip rfl ?_
  refine WL.skip rfl ?_
  refine WL.y (R.pkT (v := .bool true) rfl rfl) rfl ?_
  refine WL.y (R.mv (v := .bool true) rfl) rfl ?_
  refine WL.skip rfl ?_
  refine WL.skip rfl ?_
  refine WL.skip rfl ?_
  refine WL.skip rfl ?_
  refine WL.skip rfl ?_
  refine WL.skip rfl ?_
  refine WL.skip rfl ?_
  refine WL.skip rfl ?_
  refine WL.skip rfl ?_
  refine WL.y (R.pkT (v := .bool true) rfl rfl) rfl ?_
  refine WL.nil ?_
  refine W.cond_t rfl ?_
  refine W.reg ?_
  refine WL.y (R.asg (v := .slice _ _ _) rfl) rfl ?_
  refine WL.y (R.asg (v := .int _ _) rfl) rfl ?_
  refine WL.nil ?_
  refine W.ret ?_
  exact PR.r2 rfl (.tmp rfl) (.tmp rfl) ⟨rfl, hX⟩

theorem refFill_bad2 (old : List Dip) (ms : List Mem) (n : Int) (ao a : Option Addr) (co c : Nat) (w : World) (hD : Sli encDip 18 w ao co old) (hM : Sli encMem 19 w a c ms) (hol : old.length ≤ 1000000) (hml : ms.length ≤ 1000000) (h : 64 < n) : CallV Try.prog 122 #[.slice ao old.length co, .slice a ms.length c, i64 n] w fun v w' => v = .tuple #[.slice none 0 0, i64 1] ∧ Ext w w' := by
  have hX : Ext w w := Ext.rfl' w
  have hU : ∀ k, (fun k => w.heap.size ≤ k) k → w.heap.size ≤ k := fun _ h => h
  have hS : Star (fun k => w.heap.size ≤ k) w [] := Star.nil fun _ h => h
  generalize (fun k => w.heap.size ≤ k) = U at hU hS
  refine Calls.of_W (N := 125) Try.func122 rfl rfl rfl ?_
  refine W.reg ?_
  refine WL.y (R.asg (v := .slice _ _ _) rfl) rfl ?_
  refine WL.y (R.asg (v := .int _ _) rfl) rfl ?_
  refine WL.nil ?_
  refine W.seq ?_
  refine W.reg ?_
  refine WL.y (R.mv (v := .int _ _) rfl) rfl ?_
  refine WL.y (R.lssF rfl rfl (by omega)) rfl ?_
  refine WL.y (R.mv (v := .bool false) rfl) rfl ?_
  refine WL.y (R.mv (v := .int _ _) rfl) rfl ?_
  refine WL.y (R.gtrT rfl rfl (by omega)) rfl ?_
  refine WL.y (R.pkF (v := .bool true) rfl rfl) rfl ?_
  refine WL.y (R.mv (v := .bool true) rfl) rfl ?_
  refine WL.skip rfl ?_
  refine WL.skip rfl ?_
  refine WL.skip rfl ?_
  refine WL.y (R.pkT (v := .bool true) rfl rfl) rfl ?_
  refine WL.y (R.mv (v := .bool true) rfl) rfl ?_
  refine WL.skip rfl ?_
  refine WL.skip rfl ?_
  refine WL.skip rfl ?_
  refine WL.skip rfl ?_
  refine WL.skip rfl ?_
  refine WL.skip rfl ?_
  refine WL.skip rfl ?_
  refine WL.skip rfl ?_
  refine WL.skip rfl ?_
  refine WL.y (R.pkT (v := .bool true) rfl rfl) rfl ?_
  refine WL.nil ?_
  refine W.cond_t rfl ?_
  refine W.reg ?_
  refine WL.y (R.asg (v := .slice _ _ _) rfl) rfl ?_
  refine WL.y (R.asg (v := .int _ _) rfl) rfl ?_
  refine WL.nil ?_
  refine W.ret ?_
  exact PR.r2 rfl (.tmp rfl) (.tmp rfl) ⟨rfl, hX⟩

theorem refFill_bad3 (old : List Dip) (ms : List Mem) (n : Int) (ao a : Option Addr) (co c : Nat) (w : World) (hD : Sli encDip 18 w ao co old) (hM : Sli encMem 19 w a c ms) (hol : old.length ≤ 1000000) (hml : ms.length ≤ 1000000) (h : 1 ≤ n ∧ n ≤ 64) (hm : memsOK ms = false) : CallV Try.prog 122 #[.slice ao old.length co, .slice a ms.length c, i64 n] w fun v w' => v = .tuple #[.slice none 0 0, i64 1] ∧ Ext w w' := by
  have hX : Ext w w := Ext.rfl' w
  have hU : ∀ k, (fun k => w.heap.size ≤ k) k → w.heap.size ≤ k := fun _ h => h
  have hS : Star (fun k => w.heap.size ≤ k) w [] := Star.nil fun _ h => h
  generalize (fun k => w.heap.size ≤ k) = U at hU hS
  refine Calls.of_W (N := 125) Try.func122 rfl rfl rfl ?_
  refine W.reg ?_
  refine WL.y (R.asg (v := .slice _ _ _) rfl) rfl ?_
  refine WL.y (R.asg (v := .int _ _) rfl) rfl ?_
  refine WL.nil ?_
  refine W.seq ?_
  refine W.reg ?_
  refine WL.y (R.mv (v := .int _ _) rfl) rfl ?_
  refine WL.y (R.lssF rfl rfl (by omega)) rfl ?_
  refine WL.y (R.mv (v := .bool false) rfl) rfl ?_
  refine WL.y (R.mv (v := .int _ _) rfl) rfl ?_
  refine WL.y (R.gtrF rfl rfl (by omega)) rfl ?_
  refine WL.y (R.pkF (v := .bool false) rfl rfl) rfl ?_
  refine WL.y (R.mv (v := .bool false) rfl) rfl ?_
  refine WL.y (R.mv (v := .slice _ _ _) rfl) rfl ?_
  refine WL.call Try.func121 rfl rfl ((refMembers_calls ms (by omega) a c _ (hM.ext hX)).val (y := bl false) (by rw [hm])) rfl rfl ?_
  rintro _ w1 ⟨rfl, hx1⟩
  replace hS := hS.ext hx1
  replace hX := hX.tr hx1
  refine WL.y (R.notF rfl) rfl ?_
  refine WL.y (R.pkF (v := .bool true) rfl rfl) rfl ?_
  refine WL.y (R.mv (v := .bool true) rfl) rfl ?_
  refine WL.skip rfl ?_
  refine WL.skip rfl ?_
  refine WL.skip rfl ?_
  refine WL.skip rfl ?_
  refine WL.skip rfl ?_
  refine WL.skip rfl ?_
  refine WL.skip rfl ?_
  refine WL.skip rfl ?_
  refine WL.skip rfl ?_
  refine WL.y (R.pkT (v := .bool true) rfl rfl) rfl ?_
  refine WL.nil ?_
  refine W.cond_t rfl ?_
  refine W.reg ?_
  refine WL.y (R.asg (v := .slice _ _ _) rfl) rfl ?_
  refine WL.y (R.asg (v := .int _ _) rfl) rfl ?_
  refine WL.nil ?_
  refine W.ret ?_
  exact PR.r2 rfl (.tmp rfl) (.tmp rfl) ⟨rfl, hX⟩

theorem refFill_bad4 (old : List Dip) (ms : List Mem) (n : Int) (ao a : Option Addr) (co c : Nat) (w : World) (hD : Sli encDip 18 w ao co old) (hM : Sli encMem 19 w a c ms) (hol : old.length ≤ 1000000) (hml : ms.length ≤ 1000000) (h : 1 ≤ n ∧ n ≤ 64) (hm : memsOK ms = true) (h2 : ¬ old.length = 0) (h3 : ¬ (old.length : Int) = n) : CallV Try.prog 122 #[.slice ao old.length co, .slice a ms.length c, i64 n] w fun v w' => v = .tuple #[.slice none 0 0, i64 1] ∧ Ext w w' := by
  have hX : Ext w w := Ext.rfl' w
  have hU : ∀ k, (fun k => w.heap.size ≤ k) k → w.heap.size ≤ k := fun _ h => h
  have hS : Star (fun k => w.heap.size ≤ k) w [] := Star.nil fun _ h => h
  generalize (fun k => w.heap.size ≤ k) = U at hU hS
  refine Calls.of_W (N := 125) Try.func122 rfl rfl rfl ?_
  refine W.reg ?_
  refine WL.y (R.asg (v := .slice _ _ _) rfl) rfl ?_
  refine WL.y (R.asg (v := .int _ _) rfl) rfl ?_
  refine WL.nil ?_
  refine W.seq ?_
  refine W.reg ?_
  refine WL.y (R.mv (v := .int _ _) rfl) rfl ?_
  refine WL.y (R.lssF rfl rfl (by omega)) rfl ?_
  refine WL.y (R.mv (v := .bool false) rfl) rfl ?_
  refine WL.y (R.mv (v := .int _ _) rfl) rfl ?_
  refine WL.y (R.gtrF rfl rfl (by omega)) rfl ?_
  refine WL.y (R.pkF (v := .bool false) rfl rfl) rfl ?_
  refine WL.y (R.mv (v := .bool false) rfl) rfl ?_
  refine WL.y (R.mv (v := .slice _ _ _) rfl) rfl ?_
  refine WL.call Try.func121 rfl rfl ((refMembers_calls ms (by omega) a c _ (hM.ext hX)).val (y := bl true) (by rw [hm])) rfl rfl ?_
  rintro _ w1 ⟨rfl, hx1⟩
  replace hS := hS.ext hx1
  replace hX := hX.tr hx1
  refine WL.y (R.notT rfl) rfl ?_
  refine WL.y (R.pkF (v := .bool false) rfl rfl) rfl ?_
  refine WL.y (R.mv (v := .bool false) rfl) rfl ?_
  refine WL.y (R.mv (v := .slice _ _ _) rfl) rfl ?_
  refine WL.y (R.lenS Try.underlying81 rfl) rfl ?_
  refine WL.y (R.neqT rfl rfl (by omega)) rfl ?_
  refine WL.y (R.mv (v := .bool true) rfl) rfl ?_
  refine WL.y (R.mv (v := .slice _ _ _) rfl) rfl ?_
  refine WL.y (R.lenS Try.underlying81 rfl) rfl ?_
  refine WL.y (R.mv (v := .int _ _) rfl) rfl ?_
  refine WL.y (R.neqT rfl rfl (by omega)) rfl ?_
  refine WL.y (R.pkT (v := .bool true) rfl rfl) rfl ?_
  refine WL.y (R.pkF (v := .bool true) rfl rfl) rfl ?_
  refine WL.nil ?_
  refine W.cond_t rfl ?_
  refine W.reg ?_
  refine WL.y (R.asg (v := .slice _ _ _) rfl) rfl ?_
  refine WL.y (R.asg (v := .int _ _) rfl) rfl ?_
  refine WL.nil ?_
  refine W.ret ?_
  exact PR.r2 rfl (.tmp rfl) (.tmp rfl) ⟨rfl, hX⟩

theorem refFill_none (old : List Dip) (ms : List Mem) (n : Int) (ao a : Option Addr) (co c : Nat) (w : World) (hD : Sli encDip 18 w ao co old) (hM : Sli encMem 19 w a c ms) (hol : old.length ≤ 1000000) (hml : ms.length ≤ 1000000) (h : 1 ≤ n ∧ n ≤ 64) (hm : memsOK ms = true) (h2 : old.length = 0 ∨ (old.length : Int) = n) (h0 : ms.length = 0) : CallV Try.prog 122 #[.slice ao old.length co, .slice a ms.length c, i64 n] w fun v w' => v = .tuple #[.slice none 0 0, i64 0] ∧ Ext w w' := by
  have hX : Ext w w := Ext.rfl' w
  have hU : ∀ k, (fun k => w.heap.size ≤ k) k → w.heap.size ≤ k := fun _ h => h
  have hS : Star (fun k => w.heap.size ≤ k) w [] := Star.nil fun _ h => h
  generalize (fun k => w.heap.size ≤ k) = U at hU hS
  refine Calls.of_W (N := 125) Try.func122 rfl rfl rfl ?_
  refine W.reg ?_
  refine WL.y (R.asg (v := .slice _ _ _) rfl) rfl ?_
  refine WL.y (R.asg (v := .int _ _) rfl) rfl ?_
  refine WL.nil ?_
  refine W.seq ?_
  refine W.reg ?_
  refine WL.y (R.mv (v := .int _ _) rfl) rfl ?_
  refine WL.y (R.lssF rfl rfl (by omega)) rfl ?_
  refine WL.y (R.mv (v := .bool false) rfl) rfl ?_
  refine WL.y (R.mv (v := .int _ _) rfl) rfl ?_
  refine WL.y (R.gtrF rfl rfl (by omega)) rfl ?_
  refine WL.y (R.pkF (v := .bool false) rfl rfl) rfl ?_
  refine WL.y (R.mv (v := .bool false) rfl) rfl ?_
  refine WL.y (R.mv (v := .slice _ _ _) rfl) rfl ?_
  refine WL.call Try.func121 rfl rfl ((refMembers_calls ms (by omega) a c _ (hM.ext hX)).val (y := bl true) (by rw [hm])) rfl rfl ?_
  rintro _ w1 ⟨rfl, hx1⟩
  replace hS := hS.ext hx1
  replace hX := hX.tr hx1
  refine WL.y (R.notT rfl) rfl ?_
  refine WL.y (R.pkF (v := .bool false) rfl rfl) rfl ?_
  refine WL.y (R.mv (v := .bool false) rfl) rfl ?_
  refine WL.y (R.mv (v := .slice _ _ _) rfl) rfl ?_
  refine WL.y (R.lenS Try.underlying81 rfl) rfl ?_
  refine WL.fork (R.neq rfl rfl) rfl (fun hc1_14 => ?_) (fun hc1_14 => ?_)
  · skip
    replace hc1_14 := bne_T hc1_14
    refine WL.y (R.mv (v := .bool true) rfl) rfl ?_
    refine WL.y (R.mv (v := .slice _ _ _) rfl) rfl ?_
    refine WL.y (R.lenS Try.underlying81 rfl) rfl ?_
    refine WL.y (R.mv (v := .int _ _) rfl) rfl ?_
    refine WL.fork (R.neq rfl rfl) rfl (fun hc1_19 => ?_) (fun hc1_19 => ?_)
    · skip
      replace hc1_19 := bne_T hc1_19
      refine WL.y (R.pkT (v := .bool true) rfl rfl) rfl ?_
      refine WL.y (R.pkF (v := .bool true) rfl rfl) rfl ?_
      refine WL.nil ?_
      refine W.cond_t rfl ?_
      refine W.reg ?_
      refine WL.y (R.asg (v := .slice _ _ _) rfl) rfl ?_
      refine WL.y (R.asg (v := .int _ _) rfl) rfl ?_
      refine WL.nil ?_
      refine W.ret ?_
      omega
    · skip
      replace hc1_19 := bne_F hc1_19
      refine WL.y (R.pkT (v := .bool false) rfl rfl) rfl ?_
      refine WL.y (R.pkF (v := .bool false) rfl rfl) rfl ?_
      refine WL.nil ?_
      refine W.cond_f rfl ?_
      refine W.skip ?_
      refine W.seq ?_
      refine W.reg ?_
      refine WL.y (R.mv (v := .slice _ _ _) rfl) rfl ?_
      refine WL.y (R.lenS Try.underlying52 rfl) rfl ?_
      refine WL.y (R.eqlT rfl rfl (by omega)) rfl ?_
      refine WL.nil ?_
      refine W.cond_t rfl ?_
      refine W.reg ?_
      refine WL.y (R.asg (v := .slice _ _ _) rfl) rfl ?_
      refine WL.y (R.asg (v := .int _ _) rfl) rfl ?_
      refine WL.nil ?_
      refine W.ret ?_
      exact PR.r2 rfl (.tmp rfl) (.tmp rfl) ⟨rfl, hX⟩
  · skip
    replace hc1_14 := bne_F hc1_14
    refine WL.y (R.mv (v := .bool false) rfl) rfl ?_
    refine WL.skip rfl ?_
    refine WL.skip rfl ?_
    refine WL.skip rfl ?_
    refine WL.skip rfl ?_
    refine WL.y (R.pkF (v := .bool false) rfl rfl) rfl ?_
    refine WL.y (R.pkF (v := .bool false) rfl rfl) rfl ?_
    refine WL.nil ?_
    refine W.cond_f rfl ?_
    refine W.skip ?_
    refine W.seq ?_
    refine W.reg ?_
    refine WL.y (R.mv (v := .slice _ _ _) rfl) rfl ?_
    refine WL.y (R.lenS Try.underlying52 rfl) rfl ?_
    refine WL.y (R.eqlT rfl rfl (by omega)) rfl ?_
    refine WL.nil ?_
    refine W.cond_t rfl ?_
    refine W.reg ?_
    refine WL.y (R.asg (v := .slice _ _ _) rfl) rfl ?_
    refine WL.y (R.asg (v := .int _ _) rfl) rfl ?_
    refine WL.nil ?_
    refine W.ret ?_
    exact PR.r2 rfl (.tmp rfl) (.tmp rfl) ⟨rfl, hX⟩

theorem refFill_e (old : List Dip) (ms : List Mem) (n : Nat) (ao a : Option Addr) (co c : Nat) (w : World) (hD : Sli encDip 18 w ao co old) (hM : Sli encMem 19 w a c ms) (hol : old.length ≤ 1000000) (hml : ms.length ≤ 1000000) (h : 1 ≤ n ∧ n ≤ 64) (hm : memsOK ms = true) (h2 : old.length = 0) (h0 : 1 ≤ ms.length) : CallV Try.prog 122 #[.slice ao old.length co, .slice a ms.length c, i64 (n : Nat)] w fun v w' => (∃ b, v = .tuple #[.slice (some ⟨b, 0, none⟩) n n, i64 0] ∧ Slw encDip 18 w' (some ⟨b, 0, none⟩) n (fill old ms n) ∧ w.heap.size ≤ b) ∧ Ext w w' := by
  have hX : Ext w w := Ext.rfl' w
  have hU : ∀ k, (fun k => w.heap.size ≤ k) k → w.heap.size ≤ k := fun _ h => h
  have hS : Star (fun k => w.heap.size ≤ k) w [] := Star.nil fun _ h => h
  generalize (fun k => w.heap.size ≤ k) = U at hU hS
  have hsl := (shares_spec (n := (n : Int)) (by omega) hm h0).1
  refine Calls.of_W (N := 125) Try.func122 rfl rfl rfl ?_
  refine W.reg ?_
  refine WL.y (R.asg (v := .slice _ _ _) rfl) rfl ?_
  refine WL.y (R.asg (v := .int _ _) rfl) rfl ?_
  refine WL.nil ?_
  refine W.seq ?_
  refine W.reg ?_
  refine WL.y (R.mv (v := .int _ _) rfl) rfl ?_
  refine WL.y (R.lssF rfl rfl (by omega)) rfl ?_
  refine WL.y (R.mv (v := .bool false) rfl) rfl ?_
  refine WL.y (R.mv (v := .int _ _) rfl) rfl ?_
  refine WL.y (R.gtrF rfl rfl (by omega)) rfl ?_
  refine WL.y (R.pkF (v := .bool false) rfl rfl) rfl ?_
  refine WL.y (R.mv (v := .bool false) rfl) rfl ?_
  refine WL.y (R.mv (v := .slice _ _ _) rfl) rfl ?_
  refine WL.call Try.func121 rfl rfl ((refMembers_calls ms (by omega) a c _ (hM.ext hX)).val (y := bl true) (by rw [hm])) rfl rfl ?_
  rintro _ w1 ⟨rfl, hx1⟩
  replace hS := hS.ext hx1
  replace hX := hX.tr hx1
  refine WL.y (R.notT rfl) rfl ?_
  refine WL.y (R.pkF (v := .bool false) rfl rfl) rfl ?_
  refine WL.y (R.mv (v := .bool false) rfl) rfl ?_
  refine WL.y (R.mv (v := .slice _ _ _) rfl) rfl ?_
  refine WL.y (R.lenS Try.underlying81 rfl) rfl ?_
  refine WL.y (R.neqF rfl rfl (by omega)) rfl ?_
  refine WL.y (R.mv (v := .bool false) rfl) rfl ?_
  refine WL.skip rfl ?_
  refine WL.skip rfl ?_
  refine WL.skip rfl ?_
  refine WL.skip rfl ?_
  refine WL.y (R.pkF (v := .bool false) rfl rfl) rfl ?_
  refine WL.y (R.pkF (v := .bool false) rfl rfl) rfl ?_
  refine WL.nil ?_
  refine W.cond_f rfl ?_
  refine W.skip ?_
  refine W.seq ?_
  refine W.reg ?_
  refine WL.y (R.mv (v := .slice _ _ _) rfl) rfl ?_
  refine WL.y (R.lenS Try.underlying52 rfl) rfl ?_
  refine WL.y (R.eqlF rfl rfl (by omega)) rfl ?_
  refine WL.nil ?_
  refine W.cond_f rfl ?_
  refine W.skip ?_
  refine W.reg ?_
  refine WL.y (R.mv (v := .slice _ _ _) rfl) rfl ?_
  refine WL.y (R.mv (v := .int _ _) rfl) rfl ?_
  refine WL.call Try.func168 rfl rfl (refShares_calls ms (n : Int) (by omega) hm (by omega) a c _ (hM.ext hX)) rfl rfl ?_
  rintro _ w2 ⟨⟨a2, c2, rfl, hl2, hf2⟩, hx2⟩
  replace hS := hS.pushSlw hx2 hl2 hf2
  replace hX := hX.tr hx2
  refine WL.y (R.asg (v := .slice _ _ _) rfl) rfl ?_
  refine WL.nil ?_
  refine W.reg ?_
  refine WL.y (R.mv (v := .int _ _) rfl) rfl ?_
  refine WL.makeSlice el81_54 rfl rfl (by omega) (by omega) rfl ?_
  intro b3 w3 hb3 hs3 hx3 hB3
  have hL3 := (SlO.made encD dip0 rfl hB3).cl
  replace hS := hS.pushSlw hx3 hL3 (fun k hk => by rw [owns_some] at hk; simp only at hk; omega)
  replace hX := hX.tr hx3
  clear hL3 hB3 hs3
  refine WL.y (R.asg (v := .slice _ _ _) rfl) rfl ?_
  refine WL.nil ?_
  refine W.reg ?_
  refine WL.y (R.mv (v := .int _ _) rfl) rfl ?_
  refine WL.makeSlice el51_4 rfl rfl (by omega) (by omega) rfl ?_
  intro b4 w4 hb4 hs4 hx4 hB4
  have hL4 := (SlO.made encBo false rfl hB4).cl
  replace hS := hS.pushSlw hx4 hL4 (fun k hk => by rw [owns_some] at hk; simp only at hk; omega)
  replace hX := hX.tr hx4
  clear hL4 hB4 hs4
  refine WL.y (R.asg (v := .slice _ _ _) rfl) rfl ?_
  refine WL.nil ?_
  refine W.seqX (ι := List Bool) [(11, 13), (47, 84)] (fun _ => []) (fun q w' => (q.length = n ∧ (pF old ms n n).2.2 = opens q n) ∧ Ext w w' ∧ Star U w' [slwA (fun b : Bool => [bl b]) 1 (some ⟨b4, 0, none⟩) n (q), slwA encDip 18 (some ⟨b3, 0, none⟩) n ((pF old ms n n).2.1), slwA (fun n : Int => [i64 n]) 1 a2 c2 ((pF old ms n n).1)]) ?_ ?_
  · skip
    refine W.reg ?_
    refine WL.y (R.asg (v := .int _ _) rfl) rfl ?_
    refine WL.nil ?_
    refine W.block ?_
    refine W.loopS (ι := Nat × List Bool) [(11, 13), (47, 84)] (fun q => [(11, i64 (q.1 : Nat))]) (fun q => old.length - q.1) (fun q w' => (q.1 ≤ old.length ∧ KInv n q.1 q.2 (pF old ms n q.1).2.2) ∧ Ext w w' ∧ Star U w' [slwA (fun b : Bool => [bl b]) 1 (some ⟨b4, 0, none⟩) n (q.2), slwA encDip 18 (some ⟨b3, 0, none⟩) n ((pF old ms n q.1).2.1), slwA (fun n : Int => [i64 n]) 1 a2 c2 ((pF old ms n q.1).1)]) ⟨0, List.replicate n false⟩ ⟨rfl, trivial⟩ ⟨⟨Nat.zero_le _, KInv.start n⟩, hX, hS⟩ ?_
    rintro ⟨i, K⟩ j1 w_1 ⟨⟨hi, hK⟩, hX, hS⟩
    dsimp only at hi hK hX hS ⊢
    have hF : FInv ms.length n i (pF old ms n i) := FInv.pass (old := old) (finv0 (ms := ms) (n := n) (by omega) hm (by omega)) i (by omega)
    have hFl := hF.lenL
    have hFd := hF.lenD
    have hKl := hK.len
    refine W.seq ?_
    refine W.reg ?_
    refine WL.y (R.mv (v := .int _ _) rfl) rfl ?_
    refine WL.y (R.mv (v := .slice _ _ _) rfl) rfl ?_
    refine WL.y (R.lenS Try.underlying81 rfl) rfl ?_
    refine WL.fork (R.lss rfl rfl) rfl (fun hc9_3 => ?_) (fun hc9_3 => ?_)
    · skip
      replace hc9_3 := of_decide_eq_true hc9_3
      refine WL.nil ?_
      refine W.cond_t rfl ?_
      refine W.skip ?_
      refine W.seq ?_
      refine W.block ?_
      refine W.reg ?_
      refine WL.y (R.mv (v := .slice _ _ _) rfl) rfl ?_
      refine WL.y (R.mv (v := .slice _ _ _) rfl) rfl ?_
      refine WL.y (R.mv (v := .int _ _) rfl) rfl ?_
      obtain ⟨g_old, o_old, cs_old, rfl, hO_old⟩ := hD.op (by omega)
      obtain ⟨d, hd_old⟩ : ∃ x, old[i]? = some x := ⟨_, List.getElem?_eq_getElem (by omega)⟩
      refine WL.y (R.indexS Try.underlying81 siz54 rfl rfl rfl (by first | omega | (simp; done) | (simp; omega))) rfl ?_
      refine WL.y (R.loadA agg54 rfl ((hO_old.ext hX).blk).r (hO_old.at encD hd_old) (encD.len d)) rfl ?_
      refine WL.call Try.func169 rfl rfl (place_calls ms (by omega) d a c _ (hM.ext hX)) rfl rfl ?_
      rintro _ w5 ⟨rfl, hx5⟩
      replace hS := hS.ext hx5
      replace hX := hX.tr hx5
      generalize hk : idx (fun x : Mem => decide (x.dip = d)) ms = z
      refine WL.y (R.asg (v := .int _ _) rfl) rfl ?_
      refine WL.nil ?_
      refine W.reg ?_
      refine WL.y (R.mv (v := .int _ _) rfl) rfl ?_
      refine WL.fork (R.geq rfl rfl) rfl (fun hc12_1 => ?_) (fun hc12_1 => ?_)
      · skip
        replace hc12_1 := of_decide_eq_true hc12_1
        refine WL.y (R.mv (v := .bool true) rfl) rfl ?_
        obtain ⟨k, rfl⟩ : ∃ k : Nat, z = k := ⟨z.toNat, by omega⟩
        have hkl := idx_lt hk
        have hkb := bd_of (n := 0) (K := 128) hF.pos (by have := hF.sum; have := hF.lenO; omega) k
        refine WL.y (R.mv (v := .slice _ _ _) rfl) rfl ?_
        refine WL.y (R.mv (v := .int _ _) rfl) rfl ?_
        obtain ⟨g_L, o_L, cs1, rfl, hO1⟩ := (hS.slw2).op (by first | omega | (simp; done) | (simp; omega))
        obtain ⟨e, he_1⟩ : ∃ x_, ((pF old ms n i).1)[k]? = some x_ := ⟨_, List.getElem?_eq_getElem (by first | omega | (simp; done) | (simp; omega))⟩
        have hL_e := he_1
        have hLb_e := hkb
        rw [List.getD_eq_getElem?_getD, he_1] at hLb_e
        simp only [Option.getD_some] at hLb_e
        refine WL.y (R.indexS Try.underlying22 siz3 rfl rfl rfl (by first | omega | (simp; done) | (simp; omega))) rfl ?_
        refine WL.y (R.load sca3 rfl (hO1.blk).r (hO1.cell encI he_1 (j := 0) (by decide))) rfl ?_
        refine WL.fork (R.gtr rfl rfl) rfl (fun hc12_7 => ?_) (fun hc12_7 => ?_)
        · skip
          replace hc12_7 := of_decide_eq_true hc12_7
          refine WL.y (R.pkT (v := .bool true) rfl rfl) rfl ?_
          refine WL.nil ?_
          refine W.cond_t rfl ?_
          refine W.reg ?_
          refine WL.y (R.mv (v := .slice _ _ _) rfl) rfl ?_
          refine WL.y (R.mv (v := .int _ _) rfl) rfl ?_
          obtain ⟨cs2, hO2⟩ := (hS.slw2).op2 (by first | omega | (simp; done) | (simp; omega))
          obtain ⟨e2, he2_2⟩ : ∃ x_, ((pF old ms n i).1)[k]? = some x_ := ⟨_, List.getElem?_eq_getElem (by first | omega | (simp; done) | (simp; omega))⟩
          have hL_e2 := he2_2
          have hLb_e2 := hkb
          rw [List.getD_eq_getElem?_getD, he2_2] at hLb_e2
          simp only [Option.getD_some] at hLb_e2
          refine WL.y (R.indexS Try.underlying22 siz3 rfl rfl rfl (by first | omega | (simp; done) | (simp; omega))) rfl ?_
          refine WL.y (R.load sca3 rfl (hO2.blk).r (hO2.cell encI he2_2 (j := 0) (by decide))) rfl ?_
          refine WL.y (R.subI rfl rfl (by omega)) rfl ?_
          obtain ⟨cs3, hO3⟩ := (hS.slw2).op2 (by first | omega | (simp; done) | (simp; omega))
          obtain ⟨e3, he3_3⟩ : ∃ x_, ((pF old ms n i).1)[k]? = some x_ := ⟨_, List.getElem?_eq_getElem (by first | omega | (simp; done) | (simp; omega))⟩
          have hL_e3 := he3_3
          have hLb_e3 := hkb
          rw [List.getD_eq_getElem?_getD, he3_3] at hLb_e3
          simp only [Option.getD_some] at hLb_e3
          refine WL.y (R.indexS Try.underlying22 siz3 rfl rfl rfl (by first | omega | (simp; done) | (simp; omega))) rfl ?_
          refine WL.store1 (v := .int _ _) sca3 rfl rfl rfl hO3.blk (by have := hO3.bound (List.getElem?_eq_some_iff.1 he3_3).1; omega) rfl ?_
          intro w6 hu6 hz6 hn6
          have hQ := hO3.set encI he3_3 (j := 0) (by decide) (y := e2 - 1) rfl hn6
          have hN := hS.app2 (hu6.mono fun k _ h => (owns_some _ k).2 h) hQ.cl (.inl rfl)
          replace hS := hN.1
          replace hX := hN.2 _ hX hU
          clear hN hQ hn6 hu6 hz6
          refine WL.nil ?_
          refine W.region ?_
          refine WL.y (R.mv (v := .slice _ _ _) rfl) rfl ?_
          refine WL.y (R.mv (v := .int _ _) rfl) rfl ?_
          refine WL.y (R.mv (v := .slice _ _ _) rfl) rfl ?_
          refine WL.y (R.mv (v := .int _ _) rfl) rfl ?_
          refine WL.y (R.mv (v := .slice _ _ _) rfl) rfl ?_
          refine WL.y (R.mv (v := .int _ _) rfl) rfl ?_
          refine WL.y (R.indexS Try.underlying81 siz54 rfl rfl rfl (by first | omega | (simp; done) | (simp; omega))) rfl ?_
          refine WL.y (R.loadA agg54 rfl ((hO_old.ext hX).blk).r (hO_old.at encD hd_old) (encD.len d)) rfl ?_
          obtain ⟨cs4, hO4⟩ := (hS.slw1).op2 (by first | omega | (simp; done) | (simp; omega))
          obtain ⟨u, hu_4⟩ : ∃ x_, ((pF old ms n i).2.1)[i]? = some x_ := ⟨_, List.getElem?_eq_getElem (by first | omega | (simp; done) | (simp; omega))⟩
          refine WL.y (R.indexS Try.underlying81 siz54 rfl rfl rfl (by first | omega | (simp; done) | (simp; omega))) rfl ?_
          refine WL.store (v := .agg _) siz54 rfl rfl rfl rfl hO4.blk (hO4.bound (List.getElem?_eq_some_iff.1 hu_4).1) rfl rfl ?_
          intro w7 hu7 hz7 hn7
          have hQ := hO4.put encD (List.getElem?_eq_some_iff.1 hu_4).1 d hn7
          have hN := hS.app1 (hu7.mono fun k _ h => (owns_some _ k).2 h) hQ.cl (.inl rfl)
          replace hS := hN.1
          replace hX := hN.2 _ hX hU
          clear hN hQ hn7 hu7 hz7
          obtain ⟨cs5, hO5⟩ := (hS.slw0).op2 (by first | omega | (simp; done) | (simp; omega))
          obtain ⟨f_, hf__5⟩ : ∃ x_, (K)[i]? = some x_ := ⟨_, List.getElem?_eq_getElem (by first | omega | (simp; done) | (simp; omega))⟩
          have hB_f_ := hf__5
          refine WL.y (R.indexS Try.underlying51 siz4 rfl rfl rfl (by first | omega | (simp; done) | (simp; omega))) rfl ?_
          refine WL.store1 (v := .bool _) sca4 rfl rfl rfl hO5.blk (by have := hO5.bound (List.getElem?_eq_some_iff.1 hf__5).1; omega) rfl ?_
          intro w8 hu8 hz8 hn8
          have hQ := hO5.set encBo hf__5 (j := 0) (by decide) (y := true) rfl hn8
          have hN := hS.app0 (hu8.mono fun k _ h => (owns_some _ k).2 h) hQ.cl (.inl rfl)
          replace hS := hN.1
          replace hX := hN.2 _ hX hU
          clear hN hQ hn8 hu8 hz8
          refine WL.nil ?_
          refine W.region ?_
          refine WL.y (R.mv (v := .int _ _) rfl) rfl ?_
          refine WL.y (R.addI rfl rfl (by omega)) rfl ?_
          refine WL.y (R.asg (v := .int _ _) rfl) rfl ?_
          refine WL.nil ?_
          have hst := fpassA hK (by omega) (by omega) hd_old hk hL_e2 (by have := Option.some.inj (hL_e.symm.trans hL_e2); omega)
          have e1 := congrArg (·.1) hst.1
          have e2 := congrArg (·.2.1) hst.1
          simp only at e1 e2
          rw [← e1, ← e2] at hS
          exact ⟨⟨i + 1, K.set i true⟩, (by simp only; omega), (by repeat (first | exact Same.rfl' _ _ | refine Same.set _ rfl ?_ | refine Same.over' _ rfl ?_ | refine Same.sets rfl ?_)), ⟨rfl, trivial⟩, rfl, ⟨by simp only; omega, hst.2⟩, hX, hS⟩
        · skip
          replace hc12_7 := of_decide_eq_false hc12_7
          refine WL.y (R.pkT (v := .bool false) rfl rfl) rfl ?_
          refine WL.nil ?_
          refine W.cond_f rfl ?_
          refine W.skip ?_
          refine W.region ?_
          refine WL.y (R.mv (v := .int _ _) rfl) rfl ?_
          refine WL.y (R.addI rfl rfl (by omega)) rfl ?_
          refine WL.y (R.asg (v := .int _ _) rfl) rfl ?_
          refine WL.nil ?_
          have hst := fpassB hK (by omega) hd_old hk hL_e (by omega)
          have e1 := congrArg (·.1) hst.1
          have e2 := congrArg (·.2.1) hst.1
          simp only at e1 e2
          rw [← e1, ← e2] at hS
          exact ⟨⟨i + 1, K⟩, (by simp only; omega), (by repeat (first | exact Same.rfl' _ _ | refine Same.set _ rfl ?_ | refine Same.over' _ rfl ?_ | refine Same.sets rfl ?_)), ⟨rfl, trivial⟩, rfl, ⟨by simp only; omega, hst.2⟩, hX, hS⟩
      · skip
        replace hc12_1 := of_decide_eq_false hc12_1
        refine WL.y (R.mv (v := .bool false) rfl) rfl ?_
        refine WL.skip rfl ?_
        refine WL.skip rfl ?_
        refine WL.skip rfl ?_
        refine WL.skip rfl ?_
        refine WL.skip rfl ?_
        refine WL.y (R.pkF (v := .bool false) rfl rfl) rfl ?_
        refine WL.nil ?_
        refine W.cond_f rfl ?_
        refine W.skip ?_
        refine W.region ?_
        refine WL.y (R.mv (v := .int _ _) rfl) rfl ?_
        refine WL.y (R.addI rfl rfl (by omega)) rfl ?_
        refine WL.y (R.asg (v := .int _ _) rfl) rfl ?_
        refine WL.nil ?_
        have hst := fpassC hK hd_old (by rw [hk]; omega)
        have e1 := congrArg (·.1) hst.1
        have e2 := congrArg (·.2.1) hst.1
        simp only at e1 e2
        rw [← e1, ← e2] at hS
        exact ⟨⟨i + 1, K⟩, (by simp only; omega), (by repeat (first | exact Same.rfl' _ _ | refine Same.set _ rfl ?_ | refine Same.over' _ rfl ?_ | refine Same.sets rfl ?_)), ⟨rfl, trivial⟩, rfl, ⟨by simp only; omega, hst.2⟩, hX, hS⟩
    · skip
      replace hc9_3 := of_decide_eq_false hc9_3
      refine WL.nil ?_
      refine W.cond_f rfl ?_
      refine W.exit ?_
      obtain ⟨K', hKl2, hop, hKK, e1, e2⟩ := pF_end (by omega) (by omega) hK
      rw [← e1, ← e2] at hS
      rw [hKK] at hop hKl2
      exact ⟨K, (by repeat (first | exact Same.rfl' _ _ | refine Same.set _ rfl ?_ | refine Same.over' _ rfl ?_ | refine Same.sets rfl ?_)), trivial, rfl, ⟨hKl2, hop⟩, hX, hS⟩
  · skip
    rintro K j2 w_2 ⟨⟨hKl, ho⟩, hX, hS⟩
    have hF : FInv ms.length n n (pF old ms n n) := FInv.pass (old := old) (finv0 (ms := ms) (n := n) (by omega) hm (by omega)) n (Nat.le_refl n)
    have hFo := hF.lenO
    refine W.seqX (ι := Unit) [(13, 15), (84, 124)] (fun _ => []) (fun _ w' => (True) ∧ Ext w w' ∧ Star U w' [slwA encDip 18 (some ⟨b3, 0, none⟩) n (fill old ms n)]) ?_ ?_
    · skip
      refine W.reg ?_
      refine WL.y (R.asg (v := .int _ _) rfl) rfl ?_
      refine WL.nil ?_
      refine W.block ?_
      refine W.loopS (ι := Nat × List Bool) [(13, 15), (84, 124)] (fun q => [(13, i64 (q.1 : Nat))]) (fun q => n - q.1) (fun q w' => (q.1 ≤ n ∧ q.2.length = n ∧ ∀ j, q.1 ≤ j → q.2.getD j false = K.getD j false) ∧ Ext w w' ∧ Star U w' [slwA (fun b : Bool => [bl b]) 1 (some ⟨b4, 0, none⟩) n (q.2), slwA encDip 18 (some ⟨b3, 0, none⟩) n ((pG old ms n (qN K q.1)).2), slwA (fun n : Int => [i64 n]) 1 a2 c2 ((pG old ms n (qN K q.1)).1)]) ⟨0, K⟩ ⟨rfl, trivial⟩ ⟨⟨Nat.zero_le _, hKl, fun _ _ => rfl⟩, hX, hS⟩ ?_
      rintro ⟨i, M⟩ j3 w_3 ⟨⟨hi, hMl, hMK⟩, hX, hS⟩
      dsimp only at hi hMl hMK hX hS ⊢
      have hG : GInv ms n _ (pG old ms n (qN K i)) := ginv hF (qN K i) (by rw [ho]; exact qN_le hi)
      have hGl := hG.lenL
      have hGd := hG.lenD
      have hGs := hG.sum
      refine W.seq ?_
      refine W.reg ?_
      refine WL.y (R.mv (v := .int _ _) rfl) rfl ?_
      refine WL.y (R.mv (v := .int _ _) rfl) rfl ?_
      refine WL.fork (R.lss rfl rfl) rfl (fun hc16_2 => ?_) (fun hc16_2 => ?_)
      · skip
        replace hc16_2 := of_decide_eq_true hc16_2
        refine WL.nil ?_
        refine W.cond_t rfl ?_
        refine W.skip ?_
        refine W.seq ?_
        refine W.block ?_
        refine W.reg ?_
        refine WL.y (R.asg (v := .int _ _) rfl) rfl ?_
        refine WL.nil ?_
        refine W.block ?_
        refine W.loopS (ι := Nat × Bool) [(14, 15), (89, 124)] (fun q => [(14, i64 (q.1 : Nat))]) (fun q => ms.length - q.1) (fun q w' => (q.1 ≤ ms.length ∧ (q.2 = false → ∀ t, t < q.1 → (pG old ms n (qN K i)).1.getD t 0 = 0) ∧ (q.2 = true → K.getD i false = false)) ∧ Ext w w' ∧ Star U w' [slwA (fun b : Bool => [bl b]) 1 (some ⟨b4, 0, none⟩) n ((if q.2 = true then M.set i true else M)), slwA encDip 18 (some ⟨b3, 0, none⟩) n ((pG old ms n (if q.2 = true then qN K i + 1 else qN K i)).2), slwA (fun n : Int => [i64 n]) 1 a2 c2 ((pG old ms n (if q.2 = true then qN K i + 1 else qN K i)).1)]) ⟨0, false⟩ ⟨rfl, trivial⟩ ⟨⟨Nat.zero_le _, fun _ t ht => absurd ht (by simp), fun h => absurd h (by decide)⟩, hX, hS⟩ ?_
        rintro ⟨k, f⟩ j4 w_4 ⟨⟨hkm, hz, hf⟩, hX, hS⟩
        dsimp only at hkm hz hf hX hS ⊢
        have hBl : (if f = true then M.set i true else M).length = n := by cases f <;> simp [hMl]
        refine W.seq ?_
        refine W.reg ?_
        refine WL.y (R.mv (v := .int _ _) rfl) rfl ?_
        refine WL.y (R.mv (v := .slice _ _ _) rfl) rfl ?_
        refine WL.y (R.lenS Try.underlying52 rfl) rfl ?_
        refine WL.fork (R.lss rfl rfl) rfl (fun hc19_3 => ?_) (fun hc19_3 => ?_)
        · skip
          replace hc19_3 := of_decide_eq_true hc19_3
          refine WL.y (R.mv (v := .bool true) rfl) rfl ?_
          refine WL.y (R.mv (v := .slice _ _ _) rfl) rfl ?_
          refine WL.y (R.mv (v := .int _ _) rfl) rfl ?_
          obtain ⟨cs6, hO6⟩ := (hS.slw0).op2 (by first | omega | (simp; done) | (simp; omega))
          obtain ⟨v, hv_6⟩ : ∃ x_, ((if f = true then M.set i true else M))[i]? = some x_ := ⟨_, List.getElem?_eq_getElem (by first | omega | (simp; done) | (simp; omega))⟩
          have hB_v := hv_6
          refine WL.y (R.indexS Try.underlying51 siz4 rfl rfl rfl (by first | omega | (simp; done) | (simp; omega))) rfl ?_
          refine WL.fork (R.load sca4 rfl (hO6.blk).r (hO6.cell encBo hv_6 (j := 0) (by decide))) rfl (fun hc19_8 => ?_) (fun hc19_8 => ?_)
          · skip
            refine WL.y (R.notT rfl) rfl ?_
            refine WL.y (R.pkT (v := .bool false) rfl rfl) rfl ?_
            refine WL.nil ?_
            refine W.cond_f rfl ?_
            refine W.exit ?_
            refine W.region ?_
            refine WL.y (R.mv (v := .int _ _) rfl) rfl ?_
            refine WL.y (R.addI rfl rfl (by omega)) rfl ?_
            refine WL.y (R.asg (v := .int _ _) rfl) rfl ?_
            refine WL.nil ?_
            have hq : (if f = true then qN K i + 1 else qN K i) = qN K (i + 1) := by
              rw [qN_succ]
              cases f
              · have : K.getD i false = true := by
                  have e := hMK i (Nat.le_refl i)
                  rw [List.getD_eq_getElem?_getD, show M[i]? = some v from hB_v] at e
                  simp only [Option.getD_some] at e
                  rw [← e]; exact hc19_8 
                rw [if_neg (by decide), if_pos this]; rfl
              · rw [if_pos rfl, if_neg (by rw [hf rfl]; decide)]
            rw [hq] at hS
            exact ⟨⟨i + 1, (if f = true then M.set i true else M)⟩, (by simp only; omega), (by repeat (first | exact Same.rfl' _ _ | refine Same.set _ rfl ?_ | refine Same.over' _ rfl ?_ | refine Same.sets rfl ?_)), ⟨rfl, trivial⟩, rfl, ⟨by simp only; omega, by simp only; exact hBl, fun j hj => by simp only at hj ⊢; cases f; exact hMK j (by omega); show (M.set i true).getD j false = _; rw [getDB_set (by omega), if_neg (by omega)]; exact hMK j (by omega)⟩, hX, hS⟩
          · skip
            refine WL.y (R.notF rfl) rfl ?_
            refine WL.y (R.pkT (v := .bool true) rfl rfl) rfl ?_
            refine WL.nil ?_
            refine W.cond_t rfl ?_
            refine W.skip ?_
            refine W.seq ?_
            refine W.block ?_
            refine W.reg ?_
            obtain rfl : f = false := by
              cases f
              · rfl
              · have : (M.set i true)[i]? = some v := hB_v
                rw [List.getElem?_set_self (by omega)] at this
                rw [← Option.some.inj this] at hc19_8
                exact absurd hc19_8 (by decide)
            simp only [Bool.false_eq_true, if_false] at hS hB_v
            have hKi : K.getD i false = false := by
              have e := hMK i (Nat.le_refl i)
              rw [List.getD_eq_getElem?_getD, hB_v] at e
              simp only [Option.getD_some] at e
              rw [← e]; exact hc19_8
            have hkb := bd_of (n := 0) (K := 128) hG.pos (by omega) k
            have hzz := hz rfl
            refine WL.y (R.mv (v := .slice _ _ _) rfl) rfl ?_
            refine WL.y (R.mv (v := .int _ _) rfl) rfl ?_
            obtain ⟨g_L, o_L, cs7, rfl, hO7⟩ := (hS.slw2).op (by first | omega | (simp; done) | (simp; omega))
            obtain ⟨e, he_7⟩ : ∃ x_, ((pG old ms n (qN K i)).1)[k]? = some x_ := ⟨_, List.getElem?_eq_getElem (by first | omega | (simp; done) | (simp; omega))⟩
            have hL_e := he_7
            have hLb_e := hkb
            rw [List.getD_eq_getElem?_getD, he_7] at hLb_e
            simp only [Option.getD_some] at hLb_e
            refine WL.y (R.indexS Try.underlying22 siz3 rfl rfl rfl (by first | omega | (simp; done) | (simp; omega))) rfl ?_
            refine WL.y (R.load sca3 rfl (hO7.blk).r (hO7.cell encI he_7 (j := 0) (by decide))) rfl ?_
            refine WL.fork (R.gtr rfl rfl) rfl (fun hc21_4 => ?_) (fun hc21_4 => ?_)
            · skip
              replace hc21_4 := of_decide_eq_true hc21_4
              refine WL.nil ?_
              refine W.cond_t rfl ?_
              refine W.reg ?_
              refine WL.y (R.mv (v := .slice _ _ _) rfl) rfl ?_
              refine WL.y (R.mv (v := .int _ _) rfl) rfl ?_
              obtain ⟨cs8, hO8⟩ := (hS.slw2).op2 (by first | omega | (simp; done) | (simp; omega))
              obtain ⟨e2, he2_8⟩ : ∃ x_, ((pG old ms n (qN K i)).1)[k]? = some x_ := ⟨_, List.getElem?_eq_getElem (by first | omega | (simp; done) | (simp; omega))⟩
              have hL_e2 := he2_8
              have hLb_e2 := hkb
              rw [List.getD_eq_getElem?_getD, he2_8] at hLb_e2
              simp only [Option.getD_some] at hLb_e2
              refine WL.y (R.indexS Try.underlying22 siz3 rfl rfl rfl (by first | omega | (simp; done) | (simp; omega))) rfl ?_
              refine WL.y (R.load sca3 rfl (hO8.blk).r (hO8.cell encI he2_8 (j := 0) (by decide))) rfl ?_
              refine WL.y (R.subI rfl rfl (by omega)) rfl ?_
              obtain ⟨cs9, hO9⟩ := (hS.slw2).op2 (by first | omega | (simp; done) | (simp; omega))
              obtain ⟨e3, he3_9⟩ : ∃ x_, ((pG old ms n (qN K i)).1)[k]? = some x_ := ⟨_, List.getElem?_eq_getElem (by first | omega | (simp; done) | (simp; omega))⟩
              have hL_e3 := he3_9
              have hLb_e3 := hkb
              rw [List.getD_eq_getElem?_getD, he3_9] at hLb_e3
              simp only [Option.getD_some] at hLb_e3
              refine WL.y (R.indexS Try.underlying22 siz3 rfl rfl rfl (by first | omega | (simp; done) | (simp; omega))) rfl ?_
              refine WL.store1 (v := .int _ _) sca3 rfl rfl rfl hO9.blk (by have := hO9.bound (List.getElem?_eq_some_iff.1 he3_9).1; omega) rfl ?_
              intro w9 hu9 hz9 hn9
              have hQ := hO9.set encI he3_9 (j := 0) (by decide) (y := e2 - 1) rfl hn9
              have hN := hS.app2 (hu9.mono fun k _ h => (owns_some _ k).2 h) hQ.cl (.inl rfl)
              replace hS := hN.1
              replace hX := hN.2 _ hX hU
              clear hN hQ hn9 hu9 hz9
              refine WL.nil ?_
              refine W.region ?_
              refine WL.y (R.mv (v := .slice _ _ _) rfl) rfl ?_
              refine WL.y (R.mv (v := .int _ _) rfl) rfl ?_
              refine WL.y (R.mv (v := .slice _ _ _) rfl) rfl ?_
              refine WL.y (R.mv (v := .int _ _) rfl) rfl ?_
              refine WL.y (R.mv (v := .slice _ _ _) rfl) rfl ?_
              refine WL.y (R.mv (v := .int _ _) rfl) rfl ?_
              obtain ⟨g_ms, o_ms, cs_ms, rfl, hO_ms⟩ := hM.op (by omega)
              obtain ⟨x, hx_ms⟩ : ∃ x, ms[k]? = some x := ⟨_, List.getElem?_eq_getElem (by omega)⟩
              refine WL.y (R.indexS Try.underlying52 siz57 rfl rfl rfl (by first | omega | (simp; done) | (simp; omega))) rfl ?_
              refine WL.y (R.fieldAddr fo57_0 rfl) rfl ?_
              refine WL.y (R.loadA agg54 rfl ((hO_ms.ext hX).blk).r (hO_ms.fld encM hx_ms 0 18 (by decide)) rfl) rfl ?_
              obtain ⟨cs10, hO10⟩ := (hS.slw1).op2 (by first | omega | (simp; done) | (simp; omega))
              obtain ⟨u, hu_10⟩ : ∃ x_, ((pG old ms n (qN K i)).2)[i]? = some x_ := ⟨_, List.getElem?_eq_getElem (by first | omega | (simp; done) | (simp; omega))⟩
              refine WL.y (R.indexS Try.underlying81 siz54 rfl rfl rfl (by first | omega | (simp; done) | (simp; omega))) rfl ?_
              refine WL.store (v := .agg _) siz54 rfl rfl rfl rfl hO10.blk (hO10.bound (List.getElem?_eq_some_iff.1 hu_10).1) rfl rfl ?_
              intro w10 hu10 hz10 hn10
              have hQ := hO10.put encD (List.getElem?_eq_some_iff.1 hu_10).1 x.dip hn10
              have hN := hS.app1 (hu10.mono fun k _ h => (owns_some _ k).2 h) hQ.cl (.inl rfl)
              replace hS := hN.1
              replace hX := hN.2 _ hX hU
              clear hN hQ hn10 hu10 hz10
              obtain ⟨cs11, hO11⟩ := (hS.slw0).op2 (by first | omega | (simp; done) | (simp; omega))
              obtain ⟨f_, hf__11⟩ : ∃ x_, (M)[i]? = some x_ := ⟨_, List.getElem?_eq_getElem (by first | omega | (simp; done) | (simp; omega))⟩
              have hB_f_ := hf__11
              refine WL.y (R.indexS Try.underlying51 siz4 rfl rfl rfl (by first | omega | (simp; done) | (simp; omega))) rfl ?_
              refine WL.store1 (v := .bool _) sca4 rfl rfl rfl hO11.blk (by have := hO11.bound (List.getElem?_eq_some_iff.1 hf__11).1; omega) rfl ?_
              intro w11 hu11 hz11 hn11
              have hQ := hO11.set encBo hf__11 (j := 0) (by decide) (y := true) rfl hn11
              have hN := hS.app0 (hu11.mono fun k _ h => (owns_some _ k).2 h) hQ.cl (.inl rfl)
              replace hS := hN.1
              replace hX := hN.2 _ hX hU
              clear hN hQ hn11 hu11 hz11
              refine WL.nil ?_
              refine W.region ?_
              refine WL.y (R.mv (v := .int _ _) rfl) rfl ?_
              refine WL.y (R.addI rfl rfl (by omega)) rfl ?_
              refine WL.y (R.asg (v := .int _ _) rfl) rfl ?_
              refine WL.nil ?_
              have hst := pG_step ho (by omega) hKi hzz hL_e2 (by have := Option.some.inj (hL_e.symm.trans hL_e2); omega) hx_ms
              have e1 := congrArg (·.1) hst
              have e2 := congrArg (·.2) hst
              simp only at e1 e2
              rw [← e1, ← e2] at hS
              exact ⟨⟨k + 1, true⟩, (by simp only; omega), (by repeat (first | exact Same.rfl' _ _ | refine Same.set _ rfl ?_ | refine Same.over' _ rfl ?_ | refine Same.sets rfl ?_)), ⟨rfl, trivial⟩, rfl, ⟨by simp only; omega, fun h => absurd (show true = false from h) (by decide), fun _ => hKi⟩, hX, hS⟩
            · skip
              replace hc21_4 := of_decide_eq_false hc21_4
              refine WL.nil ?_
              refine W.cond_f rfl ?_
              refine W.skip ?_
              refine W.region ?_
              refine WL.y (R.mv (v := .int _ _) rfl) rfl ?_
              refine WL.y (R.addI rfl rfl (by omega)) rfl ?_
              refine WL.y (R.asg (v := .int _ _) rfl) rfl ?_
              refine WL.nil ?_
              exact ⟨⟨k + 1, false⟩, (by simp only; omega), (by repeat (first | exact Same.rfl' _ _ | refine Same.set _ rfl ?_ | refine Same.over' _ rfl ?_ | refine Same.sets rfl ?_)), ⟨rfl, trivial⟩, rfl, ⟨by simp only; omega, fun _ t ht => by simp only at ht; rcases Nat.lt_or_ge t k with h | h; exact hzz t h; (obtain rfl : t = k := by omega); rw [List.getD_eq_getElem?_getD]; show Option.getD ((pG old ms n (qN K i)).1)[t]? 0 = 0; rw [hL_e]; show e = 0; omega, fun h => absurd (show false = true from h) (by decide)⟩, hX, hS⟩
        · skip
          replace hc19_3 := of_decide_eq_false hc19_3
          refine WL.y (R.mv (v := .bool false) rfl) rfl ?_
          refine WL.skip rfl ?_
          refine WL.skip rfl ?_
          refine WL.skip rfl ?_
          refine WL.skip rfl ?_
          refine WL.skip rfl ?_
          refine WL.y (R.pkF (v := .bool false) rfl rfl) rfl ?_
          refine WL.nil ?_
          refine W.cond_f rfl ?_
          refine W.exit ?_
          refine W.region ?_
          refine WL.y (R.mv (v := .int _ _) rfl) rfl ?_
          refine WL.y (R.addI rfl rfl (by omega)) rfl ?_
          refine WL.y (R.asg (v := .int _ _) rfl) rfl ?_
          refine WL.nil ?_
          have hq : (if f = true then qN K i + 1 else qN K i) = qN K (i + 1) := by
            rw [qN_succ]
            cases f
            · have : K.getD i false = true := by
                exact pG_all hF ho (by omega) fun t ht => hz rfl t (by omega)
              rw [if_neg (by decide), if_pos this]; rfl
            · rw [if_pos rfl, if_neg (by rw [hf rfl]; decide)]
          rw [hq] at hS
          exact ⟨⟨i + 1, (if f = true then M.set i true else M)⟩, (by simp only; omega), (by repeat (first | exact Same.rfl' _ _ | refine Same.set _ rfl ?_ | refine Same.over' _ rfl ?_ | refine Same.sets rfl ?_)), ⟨rfl, trivial⟩, rfl, ⟨by simp only; omega, by simp only; exact hBl, fun j hj => by simp only at hj ⊢; cases f; exact hMK j (by omega); show (M.set i true).getD j false = _; rw [getDB_set (by omega), if_neg (by omega)]; exact hMK j (by omega)⟩, hX, hS⟩
      · skip
        replace hc16_2 := of_decide_eq_false hc16_2
        refine WL.nil ?_
        refine W.cond_f rfl ?_
        refine W.exit ?_
        obtain rfl : i = n := by omega
        have hfe : (pG old ms i (qN K i)).2 = fill old ms i := by
          rw [fill_eq (by omega)]
          show (gpass ms (pF old ms i i) (qN K i)).2 = (gpass ms (pF old ms i i) (pF old ms i i).2.2.length).2
          rw [ho]; rfl
        rw [hfe] at hS
        replace hS := hS.drop0
        replace hS := hS.drop1
        exact ⟨(), (by repeat (first | exact Same.rfl' _ _ | refine Same.set _ rfl ?_ | refine Same.over' _ rfl ?_ | refine Same.sets rfl ?_)), trivial, rfl, trivial, hX, hS⟩
    · skip
      rintro _ j5 w_5 ⟨-, hX, hS⟩
      refine W.reg ?_
      refine WL.y (R.mv (v := .slice _ _ _) rfl) rfl ?_
      refine WL.y (R.asg (v := .slice _ _ _) rfl) rfl ?_
      refine WL.y (R.asg (v := .int _ _) rfl) rfl ?_
      refine WL.nil ?_
      refine W.ret ?_
      obtain ⟨_, ⟨hs, rfl⟩, hfu⟩ := hS.get0
      exact PR.r2 rfl (.tmp rfl) (.tmp rfl) ⟨⟨_, rfl, hs, hU _ (hfu _ ((owns_some _ _).2 rfl))⟩, hX⟩

theorem refFill_o (old : List Dip) (ms : List Mem) (n : Nat) (ao a : Option Addr) (co c : Nat) (w : World) (hD : Sli encDip 18 w ao co old) (hM : Sli encMem 19 w a c ms) (hol : old.length ≤ 1000000) (hml : ms.length ≤ 1000000) (h : 1 ≤ n ∧ n ≤ 64) (hm : memsOK ms = true) (h2 : old.length = n) (h0 : 1 ≤ ms.length) : CallV Try.prog 122 #[.slice ao old.length co, .slice a ms.length c, i64 (n : Nat)] w fun v w' => (∃ b, v = .tuple #[.slice (some ⟨b, 0, none⟩) n n, i64 0] ∧ Slw encDip 18 w' (some ⟨b, 0, none⟩) n (fill old ms n) ∧ w.heap.size ≤ b) ∧ Ext w w' := by
  have hX : Ext w w := Ext.rfl' w
  have hU : ∀ k, (fun k => w.heap.size ≤ k) k → w.heap.size ≤ k := fun _ h => h
  have hS : Star (fun k => w.heap.size ≤ k) w [] := Star.nil fun _ h => h
  generalize (fun k => w.heap.size ≤ k) = U at hU hS
  have hsl := (shares_spec (n := (n : Int)) (by omega) hm h0).1
  refine Calls.of_W (N := 125) Try.func122 rfl rfl rfl ?_
  refine W.reg ?_
  refine WL.y (R.asg (v := .slice _ _ _) rfl) rfl ?_
  refine WL.y (R.asg (v := .int _ _) rfl) rfl ?_
  refine WL.nil ?_
  refine W.seq ?_
  refine W.reg ?_
  refine WL.y (R.mv (v := .int _ _) rfl) rfl ?_
  refine WL.y (R.lssF rfl rfl (by omega)) rfl ?_
  refine WL.y (R.mv (v := .bool false) rfl) rfl ?_
  refine WL.y (R.mv (v := .int _ _) rfl) rfl ?_
  refine WL.y (R.gtrF rfl rfl (by omega)) rfl ?_
  refine WL.y (R.pkF (v := .bool false) rfl rfl) rfl ?_
  refine WL.y (R.mv (v := .bool false) rfl) rfl ?_
  refine WL.y (R.mv (v := .slice _ _ _) rfl) rfl ?_
  refine WL.call Try.func121 rfl rfl ((refMembers_calls ms (by omega) a c _ (hM.ext hX)).val (y := bl true) (by rw [hm])) rfl rfl ?_
  rintro _ w1 ⟨rfl, hx1⟩
  replace hS := hS.ext hx1
  replace hX := hX.tr hx1
  refine WL.y (R.notT rfl) rfl ?_
  refine WL.y (R.pkF (v := .bool false) rfl rfl) rfl ?_
  refine WL.y (R.mv (v := .bool false) rfl) rfl ?_
  refine WL.y (R.mv (v := .slice _ _ _) rfl) rfl ?_
  refine WL.y (R.lenS Try.underlying81 rfl) rfl ?_
  refine WL.y (R.neqT rfl rfl (by omega)) rfl ?_
  refine WL.y (R.mv (v := .bool true) rfl) rfl ?_
  refine WL.y (R.mv (v := .slice _ _ _) rfl) rfl ?_
  refine WL.y (R.lenS Try.underlying81 rfl) rfl ?_
  refine WL.y (R.mv (v := .int _ _) rfl) rfl ?_
  refine WL.y (R.neqF rfl rfl (by omega)) rfl ?_
  refine WL.y (R.pkT (v := .bool false) rfl rfl) rfl ?_
  refine WL.y (R.pkF (v := .bool false) rfl rfl) rfl ?_
  refine WL.nil ?_
  refine W.cond_f rfl ?_
  refine W.skip ?_
  refine W.seq ?_
  refine W.reg ?_
  refine WL.y (R.mv (v := .slice _ _ _) rfl) rfl ?_
  refine WL.y (R.lenS Try.underlying52 rfl) rfl ?_
  refine WL.y (R.eqlF rfl rfl (by omega)) rfl ?_
  refine WL.nil ?_
  refine W.cond_f rfl ?_
  refine W.skip ?_
  refine W.reg ?_
  refine WL.y (R.mv (v := .slice _ _ _) rfl) rfl ?_
  refine WL.y (R.mv (v := .int _ _) rfl) rfl ?_
  refine WL.call Try.func168 rfl rfl (refShares_calls ms (n : Int) (by omega) hm (by omega) a c _ (hM.ext hX)) rfl rfl ?_
  rintro _ w2 ⟨⟨a2, c2, rfl, hl2, hf2⟩, hx2⟩
  replace hS := hS.pushSlw hx2 hl2 hf2
  replace hX := hX.tr hx2
  refine WL.y (R.asg (v := .slice _ _ _) rfl) rfl ?_
  refine WL.nil ?_
  refine W.reg ?_
  refine WL.y (R.mv (v := .int _ _) rfl) rfl ?_
  refine WL.makeSlice el81_54 rfl rfl (by omega) (by omega) rfl ?_
  intro b3 w3 hb3 hs3 hx3 hB3
  have hL3 := (SlO.made encD dip0 rfl hB3).cl
  replace hS := hS.pushSlw hx3 hL3 (fun k hk => by rw [owns_some] at hk; simp only at hk; omega)
  replace hX := hX.tr hx3
  clear hL3 hB3 hs3
  refine WL.y (R.asg (v := .slice _ _ _) rfl) rfl ?_
  refine WL.nil ?_
  refine W.reg ?_
  refine WL.y (R.mv (v := .int _ _) rfl) rfl ?_
  refine WL.makeSlice el51_4 rfl rfl (by omega) (by omega) rfl ?_
  intro b4 w4 hb4 hs4 hx4 hB4
  have hL4 := (SlO.made encBo false rfl hB4).cl
  replace hS := hS.pushSlw hx4 hL4 (fun k hk => by rw [owns_some] at hk; simp only at hk; omega)
  replace hX := hX.tr hx4
  clear hL4 hB4 hs4
  refine WL.y (R.asg (v := .slice _ _ _) rfl) rfl ?_
  refine WL.nil ?_
  refine W.seqX (ι := List Bool) [(11, 13), (47, 84)] (fun _ => []) (fun q w' => (q.length = n ∧ (pF old ms n n).2.2 = opens q n) ∧ Ext w w' ∧ Star U w' [slwA (fun b : Bool => [bl b]) 1 (some ⟨b4, 0, none⟩) n (q), slwA encDip 18 (some ⟨b3, 0, none⟩) n ((pF old ms n n).2.1), slwA (fun n : Int => [i64 n]) 1 a2 c2 ((pF old ms n n).1)]) ?_ ?_
  · skip
    refine W.reg ?_
    refine WL.y (R.asg (v := .int _ _) rfl) rfl ?_
    refine WL.nil ?_
    refine W.block ?_
    refine W.loopS (ι := Nat × List Bool) [(11, 13), (47, 84)] (fun q => [(11, i64 (q.1 : Nat))]) (fun q => old.length - q.1) (fun q w' => (q.1 ≤ old.length ∧ KInv n q.1 q.2 (pF old ms n q.1).2.2) ∧ Ext w w' ∧ Star U w' [slwA (fun b : Bool => [bl b]) 1 (some ⟨b4, 0, none⟩) n (q.2), slwA encDip 18 (some ⟨b3, 0, none⟩) n ((pF old ms n q.1).2.1), slwA (fun n : Int => [i64 n]) 1 a2 c2 ((pF old ms n q.1).1)]) ⟨0, List.replicate n false⟩ ⟨rfl, trivial⟩ ⟨⟨Nat.zero_le _, KInv.start n⟩, hX, hS⟩ ?_
    rintro ⟨i, K⟩ j1 w_1 ⟨⟨hi, hK⟩, hX, hS⟩
    dsimp only at hi hK hX hS ⊢
    have hF : FInv ms.length n i (pF old ms n i) := FInv.pass (old := old) (finv0 (ms := ms) (n := n) (by omega) hm (by omega)) i (by omega)
    have hFl := hF.lenL
    have hFd := hF.lenD
    have hKl := hK.len
    refine W.seq ?_
    refine W.reg ?_
    refine WL.y (R.mv (v := .int _ _) rfl) rfl ?_
    refine WL.y (R.mv (v := .slice _ _ _) rfl) rfl ?_
    refine WL.y (R.lenS Try.underlying81 rfl) rfl ?_
    refine WL.fork (R.lss rfl rfl) rfl (fun hc9_3 => ?_) (fun hc9_3 => ?_)
    · skip
      replace hc9_3 := of_decide_eq_true hc9_3
      refine WL.nil ?_
      refine W.cond_t rfl ?_
      refine W.skip ?_
      refine W.seq ?_
      refine W.block ?_
      refine W.reg ?_
      refine WL.y (R.mv (v := .slice _ _ _) rfl) rfl ?_
      refine WL.y (R.mv (v := .slice _ _ _) rfl) rfl ?_
      refine WL.y (R.mv (v := .int _ _) rfl) rfl ?_
      obtain ⟨g_old, o_old, cs_old, rfl, hO_old⟩ := hD.op (by omega)
      obtain ⟨d, hd_old⟩ : ∃ x, old[i]? = some x := ⟨_, List.getElem?_eq_getElem (by omega)⟩
      refine WL.y (R.indexS Try.underlying81 siz54 rfl rfl rfl (by first | omega | (simp; done) | (simp; omega))) rfl ?_
      refine WL.y (R.loadA agg54 rfl ((hO_old.ext hX).blk).r (hO_old.at encD hd_old) (encD.len d)) rfl ?_
      refine WL.call Try.func169 rfl rfl (place_calls ms (by omega) d a c _ (hM.ext hX)) rfl rfl ?_
      rintro _ w5 ⟨rfl, hx5⟩
      replace hS := hS.ext hx5
      replace hX := hX.tr hx5
      generalize hk : idx (fun x : Mem => decide (x.dip = d)) ms = z
      refine WL.y (R.asg (v := .int _ _) rfl) rfl ?_
      refine WL.nil ?_
      refine W.reg ?_
      refine WL.y (R.mv (v := .int _ _) rfl) rfl ?_
      refine WL.fork (R.geq rfl rfl) rfl (fun hc12_1 => ?_) (fun hc12_1 => ?_)
      · skip
        replace hc12_1 := of_decide_eq_true hc12_1
        refine WL.y (R.mv (v := .bool true) rfl) rfl ?_
        obtain ⟨k, rfl⟩ : ∃ k : Nat, z = k := ⟨z.toNat, by omega⟩
        have hkl := idx_lt hk
        have hkb := bd_of (n := 0) (K := 128) hF.pos (by have := hF.sum; have := hF.lenO; omega) k
        refine WL.y (R.mv (v := .slice _ _ _) rfl) rfl ?_
        refine WL.y (R.mv (v := .int _ _) rfl) rfl ?_
        obtain ⟨g_L, o_L, cs1, rfl, hO1⟩ := (hS.slw2).op (by first | omega | (simp; done) | (simp; omega))
        obtain ⟨e, he_1⟩ : ∃ x_, ((pF old ms n i).1)[k]? = some x_ := ⟨_, List.getElem?_eq_getElem (by first | omega | (simp; done) | (simp; omega))⟩
        have hL_e := he_1
        have hLb_e := hkb
        rw [List.getD_eq_getElem?_getD, he_1] at hLb_e
        simp only [Option.getD_some] at hLb_e
        refine WL.y (R.indexS Try.underlying22 siz3 rfl rfl rfl (by first | omega | (simp; done) | (simp; omega))) rfl ?_
        refine WL.y (R.load sca3 rfl (hO1.blk).r (hO1.cell encI he_1 (j := 0) (by decide))) rfl ?_
        refine WL.fork (R.gtr rfl rfl) rfl (fun hc12_7 => ?_) (fun hc12_7 => ?_)
        · skip
          replace hc12_7 := of_decide_eq_true hc12_7
          refine WL.y (R.pkT (v := .bool true) rfl rfl) rfl ?_
          refine WL.nil ?_
          refine W.cond_t rfl ?_
          refine W.reg ?_
          refine WL.y (R.mv (v := .slice _ _ _) rfl) rfl ?_
          refine WL.y (R.mv (v := .int _ _) rfl) rfl ?_
          obtain ⟨cs2, hO2⟩ := (hS.slw2).op2 (by first | omega | (simp; done) | (simp; omega))
          obtain ⟨e2, he2_2⟩ : ∃ x_, ((pF old ms n i).1)[k]? = some x_ := ⟨_, List.getElem?_eq_getElem (by first | omega | (simp; done) | (simp; omega))⟩
          have hL_e2 := he2_2
          have hLb_e2 := hkb
          rw [List.getD_eq_getElem?_getD, he2_2] at hLb_e2
          simp only [Option.getD_some] at hLb_e2
          refine WL.y (R.indexS Try.underlying22 siz3 rfl rfl rfl (by first | omega | (simp; done) | (simp; omega))) rfl ?_
          refine WL.y (R.load sca3 rfl (hO2.blk).r (hO2.cell encI he2_2 (j := 0) (by decide))) rfl ?_
          refine WL.y (R.subI rfl rfl (by omega)) rfl ?_
          obtain ⟨cs3, hO3⟩ := (hS.slw2).op2 (by first | omega | (simp; done) | (simp; omega))
          obtain ⟨e3, he3_3⟩ : ∃ x_, ((pF old ms n i).1)[k]? = some x_ := ⟨_, List.getElem?_eq_getElem (by first | omega | (simp; done) | (simp; omega))⟩
          have hL_e3 := he3_3
          have hLb_e3 := hkb
          rw [List.getD_eq_getElem?_getD, he3_3] at hLb_e3
          simp only [Option.getD_some] at hLb_e3
          refine WL.y (R.indexS Try.underlying22 siz3 rfl rfl rfl (by first | omega | (simp; done) | (simp; omega))) rfl ?_
          refine WL.store1 (v := .int _ _) sca3 rfl rfl rfl hO3.blk (by have := hO3.bound (List.getElem?_eq_some_iff.1 he3_3).1; omega) rfl ?_
          intro w6 hu6 hz6 hn6
          have hQ := hO3.set encI he3_3 (j := 0) (by decide) (y := e2 - 1) rfl hn6
          have hN := hS.app2 (hu6.mono fun k _ h => (owns_some _ k).2 h) hQ.cl (.inl rfl)
          replace hS := hN.1
          replace hX := hN.2 _ hX hU
          clear hN hQ hn6 hu6 hz6
          refine WL.nil ?_
          refine W.region ?_
          refine WL.y (R.mv (v := .slice _ _ _) rfl) rfl ?_
          refine WL.y (R.mv (v := .int _ _) rfl) rfl ?_
          refine WL.y (R.mv (v := .slice _ _ _) rfl) rfl ?_
          refine WL.y (R.mv (v := .int _ _) rfl) rfl ?_
          refine WL.y (R.mv (v := .slice _ _ _) rfl) rfl ?_
          refine WL.y (R.mv (v := .int _ _) rfl) rfl ?_
          refine WL.y (R.indexS Try.underlying81 siz54 rfl rfl rfl (by first | omega | (simp; done) | (simp; omega))) rfl ?_
          refine WL.y (R.loadA agg54 rfl ((hO_old.ext hX).blk).r (hO_old.at encD hd_old) (encD.len d)) rfl ?_
          obtain ⟨cs4, hO4⟩ := (hS.slw1).op2 (by first | omega | (simp; done) | (simp; omega))
          obtain ⟨u, hu_4⟩ : ∃ x_, ((pF old ms n i).2.1)[i]? = some x_ := ⟨_, List.getElem?_eq_getElem (by first | omega | (simp; done) | (simp; omega))⟩
          refine WL.y (R.indexS Try.underlying81 siz54 rfl rfl rfl (by first | omega | (simp; done) | (simp; omega))) rfl ?_
          refine WL.store (v := .agg _) siz54 rfl rfl rfl rfl hO4.blk (hO4.bound (List.getElem?_eq_some_iff.1 hu_4).1) rfl rfl ?_
          intro w7 hu7 hz7 hn7
          have hQ := hO4.put encD (List.getElem?_eq_some_iff.1 hu_4).1 d hn7
          have hN := hS.app1 (hu7.mono fun k _ h => (owns_some _ k).2 h) hQ.cl (.inl rfl)
          replace hS := hN.1
          replace hX := hN.2 _ hX hU
          clear hN hQ hn7 hu7 hz7
          obtain ⟨cs5, hO5⟩ := (hS.slw0).op2 (by first | omega | (simp; done) | (simp; omega))
          obtain ⟨f_, hf__5⟩ : ∃ x_, (K)[i]? = some x_ := ⟨_, List.getElem?_eq_getElem (by first | omega | (simp; done) | (simp; omega))⟩
          have hB_f_ := hf__5
          refine WL.y (R.indexS Try.underlying51 siz4 rfl rfl rfl (by first | omega | (simp; done) | (simp; omega))) rfl ?_
          refine WL.store1 (v := .bool _) sca4 rfl rfl rfl hO5.blk (by have := hO5.bound (List.getElem?_eq_some_iff.1 hf__5).1; omega) rfl ?_
          intro w8 hu8 hz8 hn8
          have hQ := hO5.set encBo hf__5 (j := 0) (by decide) (y := true) rfl hn8
          have hN := hS.app0 (hu8.mono fun k _ h => (owns_some _ k).2 h) hQ.cl (.inl rfl)
          replace hS := hN.1
          replace hX := hN.2 _ hX hU
          clear hN hQ hn8 hu8 hz8
          refine WL.nil ?_
          refine W.region ?_
          refine WL.y (R.mv (v := .int _ _) rfl) rfl ?_
          refine WL.y (R.addI rfl rfl (by omega)) rfl ?_
          refine WL.y (R.asg (v := .int _ _) rfl) rfl ?_
          refine WL.nil ?_
          have hst := fpassA hK (by omega) (by omega) hd_old hk hL_e2 (by have := Option.some.inj (hL_e.symm.trans hL_e2); omega)
          have e1 := congrArg (·.1) hst.1
          have e2 := congrArg (·.2.1) hst.1
          simp only at e1 e2
          rw [← e1, ← e2] at hS
          exact ⟨⟨i + 1, K.set i true⟩, (by simp only; omega), (by repeat (first | exact Same.rfl' _ _ | refine Same.set _ rfl ?_ | refine Same.over' _ rfl ?_ | refine Same.sets rfl ?_)), ⟨rfl, trivial⟩, rfl, ⟨by simp only; omega, hst.2⟩, hX, hS⟩
        · skip
          replace hc12_7 := of_decide_eq_false hc12_7
          refine WL.y (R.pkT (v := .bool false) rfl rfl) rfl ?_
          refine WL.nil ?_
          refine W.cond_f rfl ?_
          refine W.skip ?_
          refine W.region ?_
          refine WL.y (R.mv (v := .int _ _) rfl) rfl ?_
          refine WL.y (R.addI rfl rfl (by omega)) rfl ?_
          refine WL.y (R.asg (v := .int _ _) rfl) rfl ?_
          refine WL.nil ?_
          have hst := fpassB hK (by omega) hd_old hk hL_e (by omega)
          have e1 := congrArg (·.1) hst.1
          have e2 := congrArg (·.2.1) hst.1
          simp only at e1 e2
          rw [← e1, ← e2] at hS
          exact ⟨⟨i + 1, K⟩, (by simp only; omega), (by repeat (first | exact Same.rfl' _ _ | refine Same.set _ rfl ?_ | refine Same.over' _ rfl ?_ | refine Same.sets rfl ?_)), ⟨rfl, trivial⟩, rfl, ⟨by simp only; omega, hst.2⟩, hX, hS⟩
      · skip
        replace hc12_1 := of_decide_eq_false hc12_1
        refine WL.y (R.mv (v := .bool false) rfl) rfl ?_
        refine WL.skip rfl ?_
        refine WL.skip rfl ?_
        refine WL.skip rfl ?_
        refine WL.skip rfl ?_
        refine WL.skip rfl ?_
        refine WL.y (R.pkF (v := .bool false) rfl rfl) rfl ?_
        refine WL.nil ?_
        refine W.cond_f rfl ?_
        refine W.skip ?_
        refine W.region ?_
        refine WL.y (R.mv (v := .int _ _) rfl) rfl ?_
        refine WL.y (R.addI rfl rfl (by omega)) rfl ?_
        refine WL.y (R.asg (v := .int _ _) rfl) rfl ?_
        refine WL.nil ?_
        have hst := fpassC hK hd_old (by rw [hk]; omega)
        have e1 := congrArg (·.1) hst.1
        have e2 := congrArg (·.2.1) hst.1
        simp only at e1 e2
        rw [← e1, ← e2] at hS
        exact ⟨⟨i + 1, K⟩, (by simp only; omega), (by repeat (first | exact Same.rfl' _ _ | refine Same.set _ rfl ?_ | refine Same.over' _ rfl ?_ | refine Same.sets rfl ?_)), ⟨rfl, trivial⟩, rfl, ⟨by simp only; omega, hst.2⟩, hX, hS⟩
    · skip
      replace hc9_3 := of_decide_eq_false hc9_3
      refine WL.nil ?_
      refine W.cond_f rfl ?_
      refine W.exit ?_
      obtain ⟨K', hKl2, hop, hKK, e1, e2⟩ := pF_end (by omega) (by omega) hK
      rw [← e1, ← e2] at hS
      rw [hKK] at hop hKl2
      exact ⟨K, (by repeat (first | exact Same.rfl' _ _ | refine Same.set _ rfl ?_ | refine Same.over' _ rfl ?_ | refine Same.sets rfl ?_)), trivial, rfl, ⟨hKl2, hop⟩, hX, hS⟩
  · skip
    rintro K j2 w_2 ⟨⟨hKl, ho⟩, hX, hS⟩
    have hF : FInv ms.length n n (pF old ms n n) := FInv.pass (old := old) (finv0 (ms := ms) (n := n) (by omega) hm (by omega)) n (Nat.le_refl n)
    have hFo := hF.lenO
    refine W.seqX (ι := Unit) [(13, 15), (84, 124)] (fun _ => []) (fun _ w' => (True) ∧ Ext w w' ∧ Star U w' [slwA encDip 18 (some ⟨b3, 0, none⟩) n (fill old ms n)]) ?_ ?_
    · skip
      refine W.reg ?_
      refine WL.y (R.asg (v := .int _ _) rfl) rfl ?_
      refine WL.nil ?_
      refine W.block ?_
      refine W.loopS (ι := Nat × List Bool) [(13, 15), (84, 124)] (fun q => [(13, i64 (q.1 : Nat))]) (fun q => n - q.1) (fun q w' => (q.1 ≤ n ∧ q.2.length = n ∧ ∀ j, q.1 ≤ j → q.2.getD j false = K.getD j false) ∧ Ext w w' ∧ Star U w' [slwA (fun b : Bool => [bl b]) 1 (some ⟨b4, 0, none⟩) n (q.2), slwA encDip 18 (some ⟨b3, 0, none⟩) n ((pG old ms n (qN K q.1)).2), slwA (fun n : Int => [i64 n]) 1 a2 c2 ((pG old ms n (qN K q.1)).1)]) ⟨0, K⟩ ⟨rfl, trivial⟩ ⟨⟨Nat.zero_le _, hKl, fun _ _ => rfl⟩, hX, hS⟩ ?_
      rintro ⟨i, M⟩ j3 w_3 ⟨⟨hi, hMl, hMK⟩, hX, hS⟩
      dsimp only at hi hMl hMK hX hS ⊢
      have hG : GInv ms n _ (pG old ms n (qN K i)) := ginv hF (qN K i) (by rw [ho]; exact qN_le hi)
      have hGl := hG.lenL
      have hGd := hG.lenD
      have hGs := hG.sum
      refine W.seq ?_
      refine W.reg ?_
      refine WL.y (R.mv (v := .int _ _) rfl) rfl ?_
      refine WL.y (R.mv (v := .int _ _) rfl) rfl ?_
      refine WL.fork (R.lss rfl rfl) rfl (fun hc16_2 => ?_) (fun hc16_2 => ?_)
      · skip
        replace hc16_2 := of_decide_eq_true hc16_2
        refine WL.nil ?_
        refine W.cond_t rfl ?_
        refine W.skip ?_
        refine W.seq ?_
        refine W.block ?_
        refine W.reg ?_
        refine WL.y (R.asg (v := .int _ _) rfl) rfl ?_
        refine WL.nil ?_
        refine W.block ?_
        refine W.loopS (ι := Nat × Bool) [(14, 15), (89, 124)] (fun q => [(14, i64 (q.1 : Nat))]) (fun q => ms.length - q.1) (fun q w' => (q.1 ≤ ms.length ∧ (q.2 = false → ∀ t, t < q.1 → (pG old ms n (qN K i)).1.getD t 0 = 0) ∧ (q.2 = true → K.getD i false = false)) ∧ Ext w w' ∧ Star U w' [slwA (fun b : Bool => [bl b]) 1 (some ⟨b4, 0, none⟩) n ((if q.2 = true then M.set i true else M)), slwA encDip 18 (some ⟨b3, 0, none⟩) n ((pG old ms n (if q.2 = true then qN K i + 1 else qN K i)).2), slwA (fun n : Int => [i64 n]) 1 a2 c2 ((pG old ms n (if q.2 = true then qN K i + 1 else qN K i)).1)]) ⟨0, false⟩ ⟨rfl, trivial⟩ ⟨⟨Nat.zero_le _, fun _ t ht => absurd ht (by simp), fun h => absurd h (by decide)⟩, hX, hS⟩ ?_
        rintro ⟨k, f⟩ j4 w_4 ⟨⟨hkm, hz, hf⟩, hX, hS⟩
        dsimp only at hkm hz hf hX hS ⊢
        have hBl : (if f = true then M.set i true else M).length = n := by cases f <;> simp [hMl]
        refine W.seq ?_
        refine W.reg ?_
        refine WL.y (R.mv (v := .int _ _) rfl) rfl ?_
        refine WL.y (R.mv (v := .slice _ _ _) rfl) rfl ?_
        refine WL.y (R.lenS Try.underlying52 rfl) rfl ?_
        refine WL.fork (R.lss rfl rfl) rfl (fun hc19_3 => ?_) (fun hc19_3 => ?_)
        · skip
          replace hc19_3 := of_decide_eq_true hc19_3
          refine WL.y (R.mv (v := .bool true) rfl) rfl ?_
          refine WL.y (R.mv (v := .slice _ _ _) rfl) rfl ?_
          refine WL.y (R.mv (v := .int _ _) rfl) rfl ?_
          obtain ⟨cs6, hO6⟩ := (hS.slw0).op2 (by first | omega | (simp; done) | (simp; omega))
          obtain ⟨v, hv_6⟩ : ∃ x_, ((if f = true then M.set i true else M))[i]? = some x_ := ⟨_, List.getElem?_eq_getElem (by first | omega | (simp; done) | (simp; omega))⟩
          have hB_v := hv_6
          refine WL.y (R.indexS Try.underlying51 siz4 rfl rfl rfl (by first | omega | (simp; done) | (simp; omega))) rfl ?_
          refine WL.fork (R.load sca4 rfl (hO6.blk).r (hO6.cell encBo hv_6 (j := 0) (by decide))) rfl (fun hc19_8 => ?_) (fun hc19_8 => ?_)
          · skip
            refine WL.y (R.notT rfl) rfl ?_
            refine WL.y (R.pkT (v := .bool false) rfl rfl) rfl ?_
            refine WL.nil ?_
            refine W.cond_f rfl ?_
            refine W.exit ?_
            refine W.region ?_
            refine WL.y (R.mv (v := .int _ _) rfl) rfl ?_
            refine WL.y (R.addI rfl rfl (by omega)) rfl ?_
            refine WL.y (R.asg (v := .int _ _) rfl) rfl ?_
            refine WL.nil ?_
            have hq : (if f = true then qN K i + 1 else qN K i) = qN K (i + 1) := by
              rw [qN_succ]
              cases f
              · have : K.getD i false = true := by
                  have e := hMK i (Nat.le_refl i)
                  rw [List.getD_eq_getElem?_getD, show M[i]? = some v from hB_v] at e
                  simp only [Option.getD_some] at e
                  rw [← e]; exact hc19_8 
                rw [if_neg (by decide), if_pos this]; rfl
              · rw [if_pos rfl, if_neg (by rw [hf rfl]; decide)]
            rw [hq] at hS
            exact ⟨⟨i + 1, (if f = true then M.set i true else M)⟩, (by simp only; omega), (by repeat (first | exact Same.rfl' _ _ | refine Same.set _ rfl ?_ | refine Same.over' _ rfl ?_ | refine Same.sets rfl ?_)), ⟨rfl, trivial⟩, rfl, ⟨by simp only; omega, by simp only; exact hBl, fun j hj => by simp only at hj ⊢; cases f; exact hMK j (by omega); show (M.set i true).getD j false = _; rw [getDB_set (by omega), if_neg (by omega)]; exact hMK j (by omega)⟩, hX, hS⟩
          · skip
            refine WL.y (R.notF rfl) rfl ?_
            refine WL.y (R.pkT (v := .bool true) rfl rfl) rfl ?_
            refine WL.nil ?_
            refine W.cond_t rfl ?_
            refine W.skip ?_
            refine W.seq ?_
            refine W.block ?_
            refine W.reg ?_
            obtain rfl : f = false := by
              cases f
              · rfl
              · have : (M.set i true)[i]? = some v := hB_v
                rw [List.getElem?_set_self (by omega)] at this
                rw [← Option.some.inj this] at hc19_8
                exact absurd hc19_8 (by decide)
            simp only [Bool.false_eq_true, if_false] at hS hB_v
            have hKi : K.getD i false = false := by
              have e := hMK i (Nat.le_refl i)
              rw [List.getD_eq_getElem?_getD, hB_v] at e
              simp only [Option.getD_some] at e
              rw [← e]; exact hc19_8
            have hkb := bd_of (n := 0) (K := 128) hG.pos (by omega) k
            have hzz := hz rfl
            refine WL.y (R.mv (v := .slice _ _ _) rfl) rfl ?_
            refine WL.y (R.mv (v := .int _ _) rfl) rfl ?_
            obtain ⟨g_L, o_L, cs7, rfl, hO7⟩ := (hS.slw2).op (by first | omega | (simp; done) | (simp; omega))
            obtain ⟨e, he_7⟩ : ∃ x_, ((pG old ms n (qN K i)).1)[k]? = some x_ := ⟨_, List.getElem?_eq_getElem (by first | omega | (simp; done) | (simp; omega))⟩
            have hL_e := he_7
            have hLb_e := hkb
            rw [List.getD_eq_getElem?_getD, he_7] at hLb_e
            simp only [Option.getD_some] at hLb_e
            refine WL.y (R.indexS Try.underlying22 siz3 rfl rfl rfl (by first | omega | (simp; done) | (simp; omega))) rfl ?_
            refine WL.y (R.load sca3 rfl (hO7.blk).r (hO7.cell encI he_7 (j := 0) (by decide))) rfl ?_
            refine WL.fork (R.gtr rfl rfl) rfl (fun hc21_4 => ?_) (fun hc21_4 => ?_)
            · skip
              replace hc21_4 := of_decide_eq_true hc21_4
              refine WL.nil ?_
              refine W.cond_t rfl ?_
              refine W.reg ?_
              refine WL.y (R.mv (v := .slice _ _ _) rfl) rfl ?_
              refine WL.y (R.mv (v := .int _ _) rfl) rfl ?_
              obtain ⟨cs8, hO8⟩ := (hS.slw2).op2 (by first | omega | (simp; done) | (simp; omega))
              obtain ⟨e2, he2_8⟩ : ∃ x_, ((pG old ms n (qN K i)).1)[k]? = some x_ := ⟨_, List.getElem?_eq_getElem (by first | omega | (simp; done) | (simp; omega))⟩
              have hL_e2 := he2_8
              have hLb_e2 := hkb
              rw [List.getD_eq_getElem?_getD, he2_8] at hLb_e2
              simp only [Option.getD_some] at hLb_e2
              refine WL.y (R.indexS Try.underlying22 siz3 rfl rfl rfl (by first | omega | (simp; done) | (simp; omega))) rfl ?_
              refine WL.y (R.load sca3 rfl (hO8.blk).r (hO8.cell encI he2_8 (j := 0) (by decide))) rfl ?_
              refine WL.y (R.subI rfl rfl (by omega)) rfl ?_
              obtain ⟨cs9, hO9⟩ := (hS.slw2).op2 (by first | omega | (simp; done) | (simp; omega))
              obtain ⟨e3, he3_9⟩ : ∃ x_, ((pG old ms n (qN K i)).1)[k]? = some x_ := ⟨_, List.getElem?_eq_getElem (by first | omega | (simp; done) | (simp; omega))⟩
              have hL_e3 := he3_9
              have hLb_e3 := hkb
              rw [List.getD_eq_getElem?_getD, he3_9] at hLb_e3
              simp only [Option.getD_some] at hLb_e3
              refine WL.y (R.indexS Try.underlying22 siz3 rfl rfl rfl (by first | omega | (simp; done) | (simp; omega))) rfl ?_
              refine WL.store1 (v := .int _ _) sca3 rfl rfl rfl hO9.blk (by have := hO9.bound (List.getElem?_eq_some_iff.1 he3_9).1; omega) rfl ?_
              intro w9 hu9 hz9 hn9
              have hQ := hO9.set encI he3_9 (j := 0) (by decide) (y := e2 - 1) rfl hn9
              have hN := hS.app2 (hu9.mono fun k _ h => (owns_some _ k).2 h) hQ.cl (.inl rfl)
              replace hS := hN.1
              replace hX := hN.2 _ hX hU
              clear hN hQ hn9 hu9 hz9
              refine WL.nil ?_
              refine W.region ?_
              refine WL.y (R.mv (v := .slice _ _ _) rfl) rfl ?_
              refine WL.y (R.mv (v := .int _ _) rfl) rfl ?_
              refine WL.y (R.mv (v := .slice _ _ _) rfl) rfl ?_
              refine WL.y (R.mv (v := .int _ _) rfl) rfl ?_
              refine WL.y (R.mv (v := .slice _ _ _) rfl) rfl ?_
              refine WL.y (R.mv (v := .int _ _) rfl) rfl ?_
              obtain ⟨g_ms, o_ms, cs_ms, rfl, hO_ms⟩ := hM.op (by omega)
              obtain ⟨x, hx_ms⟩ : ∃ x, ms[k]? = some x := ⟨_, List.getElem?_eq_getElem (by omega)⟩
              refine WL.y (R.indexS Try.underlying52 siz57 rfl rfl rfl (by first | omega | (simp; done) | (simp; omega))) rfl ?_
              refine WL.y (R.fieldAddr fo57_0 rfl) rfl ?_
              refine WL.y (R.loadA agg54 rfl ((hO_ms.ext hX).blk).r (hO_ms.fld encM hx_ms 0 18 (by decide)) rfl) rfl ?_
              obtain ⟨cs10, hO10⟩ := (hS.slw1).op2 (by first | omega | (simp; done) | (simp; omega))
              obtain ⟨u, hu_10⟩ : ∃ x_, ((pG old ms n (qN K i)).2)[i]? = some x_ := ⟨_, List.getElem?_eq_getElem (by first | omega | (simp; done) | (simp; omega))⟩
              refine WL.y (R.indexS Try.underlying81 siz54 rfl rfl rfl (by first | omega | (simp; done) | (simp; omega))) rfl ?_
              refine WL.store (v := .agg _) siz54 rfl rfl rfl rfl hO10.blk (hO10.bound (List.getElem?_eq_some_iff.1 hu_10).1) rfl rfl ?_
              intro w10 hu10 hz10 hn10
              have hQ := hO10.put encD (List.getElem?_eq_some_iff.1 hu_10).1 x.dip hn10
              have hN := hS.app1 (hu10.mono fun k _ h => (owns_some _ k).2 h) hQ.cl (.inl rfl)
              replace hS := hN.1
              replace hX := hN.2 _ hX hU
              clear hN hQ hn10 hu10 hz10
              obtain ⟨cs11, hO11⟩ := (hS.slw0).op2 (by first | omega | (simp; done) | (simp; omega))
              obtain ⟨f_, hf__11⟩ : ∃ x_, (M)[i]? = some x_ := ⟨_, List.getElem?_eq_getElem (by first | omega | (simp; done) | (simp; omega))⟩
              have hB_f_ := hf__11
              refine WL.y (R.indexS Try.underlying51 siz4 rfl rfl rfl (by first | omega | (simp; done) | (simp; omega))) rfl ?_
              refine WL.store1 (v := .bool _) sca4 rfl rfl rfl hO11.blk (by have := hO11.bound (List.getElem?_eq_some_iff.1 hf__11).1; omega) rfl ?_
              intro w11 hu11 hz11 hn11
              have hQ := hO11.set encBo hf__11 (j := 0) (by decide) (y := true) rfl hn11
              have hN := hS.app0 (hu11.mono fun k _ h => (owns_some _ k).2 h) hQ.cl (.inl rfl)
              replace hS := hN.1
              replace hX := hN.2 _ hX hU
              clear hN hQ hn11 hu11 hz11
              refine WL.nil ?_
              refine W.region ?_
              refine WL.y (R.mv (v := .int _ _) rfl) rfl ?_
              refine WL.y (R.addI rfl rfl (by omega)) rfl ?_
              refine WL.y (R.asg (v := .int _ _) rfl) rfl ?_
              refine WL.nil ?_
              have hst := pG_step ho (by omega) hKi hzz hL_e2 (by have := Option.some.inj (hL_e.symm.trans hL_e2); omega) hx_ms
              have e1 := congrArg (·.1) hst
              have e2 := congrArg (·.2) hst
              simp only at e1 e2
              rw [← e1, ← e2] at hS
              exact ⟨⟨k + 1, true⟩, (by simp only; omega), (by repeat (first | exact Same.rfl' _ _ | refine Same.set _ rfl ?_ | refine Same.over' _ rfl ?_ | refine Same.sets rfl ?_)), ⟨rfl, trivial⟩, rfl, ⟨by simp only; omega, fun h => absurd (show true = false from h) (by decide), fun _ => hKi⟩, hX, hS⟩
            · skip
              replace hc21_4 := of_decide_eq_false hc21_4
              refine WL.nil ?_
              refine W.cond_f rfl ?_
              refine W.skip ?_
              refine W.region ?_
              refine WL.y (R.mv (v := .int _ _) rfl) rfl ?_
              refine WL.y (R.addI rfl rfl (by omega)) rfl ?_
              refine WL.y (R.asg (v := .int _ _) rfl) rfl ?_
              refine WL.nil ?_
              exact ⟨⟨k + 1, false⟩, (by simp only; omega), (by repeat (first | exact Same.rfl' _ _ | refine Same.set _ rfl ?_ | refine Same.over' _ rfl ?_ | refine Same.sets rfl ?_)), ⟨rfl, trivial⟩, rfl, ⟨by simp only; omega, fun _ t ht => by simp only at ht; rcases Nat.lt_or_ge t k with h | h; exact hzz t h; (obtain rfl : t = k := by omega); rw [List.getD_eq_getElem?_getD]; show Option.getD ((pG old ms n (qN K i)).1)[t]? 0 = 0; rw [hL_e]; show e = 0; omega, fun h => absurd (show false = true from h) (by decide)⟩, hX, hS⟩
        · skip
          replace hc19_3 := of_decide_eq_false hc19_3
          refine WL.y (R.mv (v := .bool false) rfl) rfl ?_
          refine WL.skip rfl ?_
          refine WL.skip rfl ?_
          refine WL.skip rfl ?_
          refine WL.skip rfl ?_
          refine WL.skip rfl ?_
          refine WL.y (R.pkF (v := .bool false) rfl rfl) rfl ?_
          refine WL.nil ?_
          refine W.cond_f rfl ?_
          refine W.exit ?_
          refine W.region ?_
          refine WL.y (R.mv (v := .int _ _) rfl) rfl ?_
          refine WL.y (R.addI rfl rfl (by omega)) rfl ?_
          refine WL.y (R.asg (v := .int _ _) rfl) rfl ?_
          refine WL.nil ?_
          have hq : (if f = true then qN K i + 1 else qN K i) = qN K (i + 1) := by
            rw [qN_succ]
            cases f
            · have : K.getD i false = true := by
                exact pG_all hF ho (by omega) fun t ht => hz rfl t (by omega)
              rw [if_neg (by decide), if_pos this]; rfl
            · rw [if_pos rfl, if_neg (by rw [hf rfl]; decide)]
          rw [hq] at hS
          exact ⟨⟨i + 1, (if f = true then M.set i true else M)⟩, (by simp only; omega), (by repeat (first | exact Same.rfl' _ _ | refine Same.set _ rfl ?_ | refine Same.over' _ rfl ?_ | refine Same.sets rfl ?_)), ⟨rfl, trivial⟩, rfl, ⟨by simp only; omega, by simp only; exact hBl, fun j hj => by simp only at hj ⊢; cases f; exact hMK j (by omega); show (M.set i true).getD j false = _; rw [getDB_set (by omega), if_neg (by omega)]; exact hMK j (by omega)⟩, hX, hS⟩
      · skip
        replace hc16_2 := of_decide_eq_false hc16_2
        refine WL.nil ?_
        refine W.cond_f rfl ?_
        refine W.exit ?_
        obtain rfl : i = n := by omega
        have hfe : (pG old ms i (qN K i)).2 = fill old ms i := by
          rw [fill_eq (by omega)]
          show (gpass ms (pF old ms i i) (qN K i)).2 = (gpass ms (pF old ms i i) (pF old ms i i).2.2.length).2
          rw [ho]; rfl
        rw [hfe] at hS
        replace hS := hS.drop0
        replace hS := hS.drop1
        exact ⟨(), (by repeat (first | exact Same.rfl' _ _ | refine Same.set _ rfl ?_ | refine Same.over' _ rfl ?_ | refine Same.sets rfl ?_)), trivial, rfl, trivial, hX, hS⟩
    · skip
      rintro _ j5 w_5 ⟨-, hX, hS⟩
      refine W.reg ?_
      refine WL.y (R.mv (v := .slice _ _ _) rfl) rfl ?_
      refine WL.y (R.asg (v := .slice _ _ _) rfl) rfl ?_
      refine WL.y (R.asg (v := .int _ _) rfl) rfl ?_
      refine WL.nil ?_
      refine W.ret ?_
      obtain ⟨_, ⟨hs, rfl⟩, hfu⟩ := hS.get0
      exact PR.r2 rfl (.tmp rfl) (.tmp rfl) ⟨⟨_, rfl, hs, hU _ (hfu _ ((owns_some _ _).2 rfl))⟩, hX⟩
end Go.Proofs.Ytkjecokkdbapkaa
