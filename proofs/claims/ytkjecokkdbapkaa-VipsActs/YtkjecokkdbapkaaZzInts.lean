import Derived.Test.YtkjecokkdbapkaaZzLive18b
import Derived.Test.YtkjecokkdbapkaaProg
namespace Go.Proofs.Ytkjecokkdbapkaa
set_option linter.all false
open Go Go.Eng Go.RowKit
set_option maxRecDepth 20000
set_option maxHeartbeats 2000000
set_option linter.unusedVariables false
set_option linter.unusedSimpArgs false
attribute [local irreducible] WL W QL WA SP

theorem eq3 : FlatEq Try.prog 3 [some .i64] 1 := FlatEq.int Try.underlying3 sca3
theorem eq57 : FlatEq Try.prog 57 tyMem 5 := FlatEq.struct [(54, tyDip), (3, [some .i64])] (by kernel_rfl) Try.stoodInHeld57 rfl agg57 (by kernel_rfl) (List.forall_mem_cons.2 ⟨eq54.mono (by decide), (List.forall_mem_cons.2 ⟨eq3.mono (by decide), (by simp)⟩)⟩)

theorem Ints_calls (xs ys : List Int) (h63 : xs.length ≤ 1000000000000) (a1 : Option Addr) (c1 : Nat) (a2 : Option Addr) (c2 : Nat) (w : World) (h1 : Sli (fun n : Int => [i64 n]) 1 w a1 c1 xs) (h2 : Sli (fun n : Int => [i64 n]) 1 w a2 c2 ys) : CallV Try.prog 46 #[.slice a1 xs.length c1, .slice a2 ys.length c2] w fun v w' => v = bl (decide (xs = ys)) ∧ Ext w w' := by
  have hX : Ext w w := Ext.rfl' w
  have hU : ∀ k, (fun k => w.heap.size ≤ k) k → w.heap.size ≤ k := fun _ h => h
  have hS : Star (fun k => w.heap.size ≤ k) w [] := Star.nil fun _ h => h
  generalize (fun k => w.heap.size ≤ k) = U at hU hS
  refine Calls.of_W (N := 26) Try.func46 rfl rfl rfl ?_
  refine W.reg ?_
  refine WL.y (R.asg (v := .bool false) rfl) rfl ?_
  refine WL.nil ?_
  refine W.seq ?_
  refine W.reg ?_
  refine WL.y (R.mv (v := .slice _ _ _) rfl) rfl ?_
  refine WL.y (R.lenS Try.underlying22 rfl) rfl ?_
  refine WL.y (R.mv (v := .slice _ _ _) rfl) rfl ?_
  refine WL.y (R.lenS Try.underlying22 rfl) rfl ?_
  refine WL.fork (R.neq rfl rfl) rfl (fun hc1_4 => ?_) (fun hc1_4 => ?_)
  · skip
    replace hc1_4 := bne_T hc1_4
    refine WL.nil ?_
    refine W.cond_t rfl ?_
    refine W.reg ?_
    refine WL.y (R.asg (v := .bool false) rfl) rfl ?_
    refine WL.nil ?_
    refine W.ret ?_
    exact PR.r1 rfl (.tmp rfl) ⟨by rw [decide_eq_false (fun h => hc1_4 (by rw [h]))]; rfl, hX⟩
  · skip
    replace hc1_4 := bne_F hc1_4
    refine WL.nil ?_
    refine W.cond_f rfl ?_
    refine W.skip ?_
    refine W.seq ?_
    refine W.reg ?_
    refine WL.y (R.asg (v := .int _ _) rfl) rfl ?_
    refine WL.nil ?_
    refine W.block ?_
    refine W.loopS (ι := Nat) [(4, 6), (11, 26)] (fun q => [(5, i64 (q : Nat))]) (fun q => xs.length - q) (fun q w' => (q ≤ xs.length ∧ xs.take q = ys.take q) ∧ Ext w w' ∧ Star U w' []) 0 ⟨rfl, trivial⟩ ⟨⟨Nat.zero_le _, rfl⟩, hX, hS⟩ ?_
    rintro i j1 w_1 ⟨⟨hi, htk⟩, hX, hS⟩
    refine W.seq ?_
    refine W.reg ?_
    refine WL.y (R.mv (v := .int _ _) rfl) rfl ?_
    refine WL.y (R.mv (v := .slice _ _ _) rfl) rfl ?_
    refine WL.y (R.lenS Try.underlying22 rfl) rfl ?_
    refine WL.fork (R.lss rfl rfl) rfl (fun hc4_3 => ?_) (fun hc4_3 => ?_)
    · skip
      replace hc4_3 := of_decide_eq_true hc4_3
      refine WL.nil ?_
      refine W.cond_t rfl ?_
      refine W.skip ?_
      refine W.seq ?_
      refine W.block ?_
      refine W.seq ?_
      refine W.draw (fun j => [1000].contains j) (fun wI => Ext w_1 wI) rfl ?_
      have hI1 := Ext.dr w_1
      refine WA.batch [0, 1, 2, 3, 4, 5, 6, 7, 8] 0 (by kernel_rfl) hI1 ?_
      refine QL.y (fun wq hq => (R.mv (v := .slice _ _ _) rfl)) rfl ?_
      refine QL.y (fun wq hq => (R.mv (v := .int _ _) rfl)) rfl ?_
      obtain ⟨g_xs, o_xs, cs_xs, rfl, hO_xs⟩ := h1.op (by omega)
      obtain ⟨x, hx_xs⟩ : ∃ x, xs[i]? = some x := ⟨_, List.getElem?_eq_getElem (by omega)⟩
      refine QL.y (fun wq hq => (R.indexS Try.underlying22 siz3 rfl rfl rfl (by first | omega | (simp; omega)))) rfl ?_
      refine QL.y (fun wq hq => (R.load sca3 rfl (hq.blkR ((hO_xs.ext hX).blk).r) (hO_xs.cell encI hx_xs (j := 0) (by decide)))) rfl ?_
      refine QL.y (fun wq hq => (R.mv (v := .slice _ _ _) rfl)) rfl ?_
      refine QL.y (fun wq hq => (R.mv (v := .int _ _) rfl)) rfl ?_
      obtain ⟨g_ys, o_ys, cs_ys, rfl, hO_ys⟩ := h2.op (by omega)
      obtain ⟨y, hy_ys⟩ : ∃ x, ys[i]? = some x := ⟨_, List.getElem?_eq_getElem (by omega)⟩
      refine QL.y (fun wq hq => (R.indexS Try.underlying22 siz3 rfl rfl rfl (by first | omega | (simp; omega)))) rfl ?_
      refine QL.y (fun wq hq => (R.load sca3 rfl (hq.blkR ((hO_ys.ext hX).blk).r) (hO_ys.cell encI hy_ys (j := 0) (by decide)))) rfl ?_
      refine QL.y (fun wq hq => (R.neq rfl rfl)) rfl ?_
      refine QL.nil ?_
      have hD1 := Ext.dr w_1
      have hD1z := hD1.size
      have hS0 := hS
      have hXo := hX
      replace hS := hS.ext hD1
      replace hX := hX.tr hD1
      refine WA.done (by kernel_rfl) ?_
      refine W.cond _ rfl (fun hxy => ?_) (fun hxy => ?_)
      · skip
        replace hxy := bne_T hxy
        refine W.reg ?_
        refine WL.y (R.asg (v := .bool false) rfl) rfl ?_
        refine WL.nil ?_
        refine W.ret ?_
        exact PR.r1 rfl (.tmp rfl) ⟨by rw [decide_eq_false (fun h => hxy (Option.some.inj (hx_xs.symm.trans ((congrArg (fun l => l[i]?) h).trans hy_ys))))]; rfl, hX⟩
      · skip
        replace hxy := bne_F hxy
        refine W.skip ?_
        refine W.region ?_
        refine WL.y (R.mv (v := .int _ _) rfl) rfl ?_
        refine WL.y (R.addI rfl rfl (by omega)) rfl ?_
        refine WL.y (R.asg (v := .int _ _) rfl) rfl ?_
        refine WL.nil ?_
        exact ⟨i + 1, (by omega), (by repeat (first | exact Same.rfl' _ _ | refine Same.set _ rfl ?_ | refine Same.over' _ rfl ?_ | refine Same.sets rfl ?_)), ⟨rfl, trivial⟩, rfl, ⟨by omega, by rw [take_snoc hx_xs, take_snoc hy_ys, htk, hxy]⟩, hX, hS⟩
    · skip
      replace hc4_3 := of_decide_eq_false hc4_3
      refine WL.nil ?_
      refine W.cond_f rfl ?_
      refine W.exit ?_
      refine W.reg ?_
      refine WL.y (R.asg (v := .bool true) rfl) rfl ?_
      refine WL.nil ?_
      refine W.ret ?_
      exact PR.r1 rfl (.tmp rfl) ⟨by rw [decide_eq_true (by rw [show i = xs.length by omega, List.take_length, List.take_of_length_le (by omega)] at htk; exact htk)]; rfl, hX⟩

theorem Members_calls (xs ys : List Mem) (h63 : xs.length ≤ 1000000000000) (a1 : Option Addr) (c1 : Nat) (a2 : Option Addr) (c2 : Nat) (w : World) (h1 : Sli encMem 19 w a1 c1 xs) (h2 : Sli encMem 19 w a2 c2 ys) : CallV Try.prog 44 #[.slice a1 xs.length c1, .slice a2 ys.length c2] w fun v w' => v = bl (decide (xs = ys)) ∧ Ext w w' := by
  have hX : Ext w w := Ext.rfl' w
  have hU : ∀ k, (fun k => w.heap.size ≤ k) k → w.heap.size ≤ k := fun _ h => h
  have hS : Star (fun k => w.heap.size ≤ k) w [] := Star.nil fun _ h => h
  generalize (fun k => w.heap.size ≤ k) = U at hU hS
  refine Calls.of_W (N := 26) Try.func44 rfl rfl rfl ?_
  refine W.reg ?_
  refine WL.y (R.asg (v := .bool false) rfl) rfl ?_
  refine WL.nil ?_
  refine W.seq ?_
  refine W.reg ?_
  refine WL.y (R.mv (v := .slice _ _ _) rfl) rfl ?_
  refine WL.y (R.lenS Try.underlying52 rfl) rfl ?_
  refine WL.y (R.mv (v := .slice _ _ _) rfl) rfl ?_
  refine WL.y (R.lenS Try.underlying52 rfl) rfl ?_
  refine WL.fork (R.neq rfl rfl) rfl (fun hc1_4 => ?_) (fun hc1_4 => ?_)
  · skip
    replace hc1_4 := bne_T hc1_4
    refine WL.nil ?_
    refine W.cond_t rfl ?_
    refine W.reg ?_
    refine WL.y (R.asg (v := .bool false) rfl) rfl ?_
    refine WL.nil ?_
    refine W.ret ?_
    exact PR.r1 rfl (.tmp rfl) ⟨by rw [decide_eq_false (fun h => hc1_4 (by rw [h]))]; rfl, hX⟩
  · skip
    replace hc1_4 := bne_F hc1_4
    refine WL.nil ?_
    refine W.cond_f rfl ?_
    refine W.skip ?_
    refine W.seq ?_
    refine W.reg ?_
    refine WL.y (R.asg (v := .int _ _) rfl) rfl ?_
    refine WL.nil ?_
    refine W.block ?_
    refine W.loopS (ι := Nat) [(4, 6), (11, 26)] (fun q => [(5, i64 (q : Nat))]) (fun q => xs.length - q) (fun q w' => (q ≤ xs.length ∧ xs.take q = ys.take q) ∧ Ext w w' ∧ Star U w' []) 0 ⟨rfl, trivial⟩ ⟨⟨Nat.zero_le _, rfl⟩, hX, hS⟩ ?_
    rintro i j1 w_1 ⟨⟨hi, htk⟩, hX, hS⟩
    refine W.seq ?_
    refine W.reg ?_
    refine WL.y (R.mv (v := .int _ _) rfl) rfl ?_
    refine WL.y (R.mv (v := .slice _ _ _) rfl) rfl ?_
    refine WL.y (R.lenS Try.underlying52 rfl) rfl ?_
    refine WL.fork (R.lss rfl rfl) rfl (fun hc4_3 => ?_) (fun hc4_3 => ?_)
    · skip
      replace hc4_3 := of_decide_eq_true hc4_3
      refine WL.nil ?_
      refine W.cond_t rfl ?_
      refine W.skip ?_
      refine W.seq ?_
      refine W.block ?_
      refine W.seq ?_
      refine W.draw (fun j => [1000].contains j) (fun wI => Ext w_1 wI) rfl ?_
      have hI1 := Ext.dr w_1
      refine WA.batch [0, 1, 2, 3, 4, 5, 6, 7, 8] 0 (by kernel_rfl) hI1 ?_
      refine QL.y (fun wq hq => (R.mv (v := .slice _ _ _) rfl)) rfl ?_
      refine QL.y (fun wq hq => (R.mv (v := .int _ _) rfl)) rfl ?_
      obtain ⟨g_xs, o_xs, cs_xs, rfl, hO_xs⟩ := h1.op (by omega)
      obtain ⟨x, hx_xs⟩ : ∃ x, xs[i]? = some x := ⟨_, List.getElem?_eq_getElem (by omega)⟩
      refine QL.y (fun wq hq => (R.indexS Try.underlying52 siz57 rfl rfl rfl (by first | omega | (simp; omega)))) rfl ?_
      refine QL.y (fun wq hq => (R.loadA agg57 rfl (hq.blkR ((hO_xs.ext hX).blk).r) (hO_xs.at encM hx_xs) (encM.len x))) rfl ?_
      refine QL.y (fun wq hq => (R.mv (v := .slice _ _ _) rfl)) rfl ?_
      refine QL.y (fun wq hq => (R.mv (v := .int _ _) rfl)) rfl ?_
      obtain ⟨g_ys, o_ys, cs_ys, rfl, hO_ys⟩ := h2.op (by omega)
      obtain ⟨y, hy_ys⟩ : ∃ x, ys[i]? = some x := ⟨_, List.getElem?_eq_getElem (by omega)⟩
      refine QL.y (fun wq hq => (R.indexS Try.underlying52 siz57 rfl rfl rfl (by first | omega | (simp; omega)))) rfl ?_
      refine QL.y (fun wq hq => (R.loadA agg57 rfl (hq.blkR ((hO_ys.ext hX).blk).r) (hO_ys.at encM hy_ys) (encM.len y))) rfl ?_
      refine QL.y (fun wq hq => (R.neqAT (xs := encMem x) (ys := encMem y) (q := decide (x = y)) eq57 (by decide) agg57 Try.eqGuardType57 rfl rfl (typed_mem _) (typed_mem _) (veq_mem _ _))) rfl ?_
      refine QL.nil ?_
      have hD1 := Ext.dr w_1
      have hD1z := hD1.size
      have hS0 := hS
      have hXo := hX
      replace hS := hS.ext hD1
      replace hX := hX.tr hD1
      refine WA.done (by kernel_rfl) ?_
      refine W.cond _ rfl (fun hxy => ?_) (fun hxy => ?_)
      · skip
        replace hxy : ¬ x = y := by simpa using hxy
        refine W.reg ?_
        refine WL.y (R.asg (v := .bool false) rfl) rfl ?_
        refine WL.nil ?_
        refine W.ret ?_
        exact PR.r1 rfl (.tmp rfl) ⟨by rw [decide_eq_false (fun h => hxy (Option.some.inj (hx_xs.symm.trans ((congrArg (fun l => l[i]?) h).trans hy_ys))))]; rfl, hX⟩
      · skip
        replace hxy : x = y := by simpa using hxy
        refine W.skip ?_
        refine W.region ?_
        refine WL.y (R.mv (v := .int _ _) rfl) rfl ?_
        refine WL.y (R.addI rfl rfl (by omega)) rfl ?_
        refine WL.y (R.asg (v := .int _ _) rfl) rfl ?_
        refine WL.nil ?_
        exact ⟨i + 1, (by omega), (by repeat (first | exact Same.rfl' _ _ | refine Same.set _ rfl ?_ | refine Same.over' _ rfl ?_ | refine Same.sets rfl ?_)), ⟨rfl, trivial⟩, rfl, ⟨by omega, by rw [take_snoc hx_xs, take_snoc hy_ys, htk, hxy]⟩, hX, hS⟩
    · skip
      replace hc4_3 := of_decide_eq_false hc4_3
      refine WL.nil ?_
      refine W.cond_f rfl ?_
      refine W.exit ?_
      refine W.reg ?_
      refine WL.y (R.asg (v := .bool true) rfl) rfl ?_
      refine WL.nil ?_
      refine W.ret ?_
      exact PR.r1 rfl (.tmp rfl) ⟨by rw [decide_eq_true (by rw [show i = xs.length by omega, List.take_length, List.take_of_length_le (by omega)] at htk; exact htk)]; rfl, hX⟩

theorem Dips_calls (xs ys : List Dip) (h63 : xs.length ≤ 1000000000000) (a1 : Option Addr) (c1 : Nat) (a2 : Option Addr) (c2 : Nat) (w : World) (h1 : Sli encDip 18 w a1 c1 xs) (h2 : Sli encDip 18 w a2 c2 ys) : CallV Try.prog 53 #[.slice a1 xs.length c1, .slice a2 ys.length c2] w fun v w' => v = bl (decide (xs = ys)) ∧ Ext w w' := by
  have hX : Ext w w := Ext.rfl' w
  have hU : ∀ k, (fun k => w.heap.size ≤ k) k → w.heap.size ≤ k := fun _ h => h
  have hS : Star (fun k => w.heap.size ≤ k) w [] := Star.nil fun _ h => h
  generalize (fun k => w.heap.size ≤ k) = U at hU hS
  refine Calls.of_W (N := 26) Try.func53 rfl rfl rfl ?_
  refine W.reg ?_
  refine WL.y (R.asg (v := .bool false) rfl) rfl ?_
  refine WL.nil ?_
  refine W.seq ?_
  refine W.reg ?_
  refine WL.y (R.mv (v := .slice _ _ _) rfl) rfl ?_
  refine WL.y (R.lenS Try.underlying81 rfl) rfl ?_
  refine WL.y (R.mv (v := .slice _ _ _) rfl) rfl ?_
  refine WL.y (R.lenS Try.underlying81 rfl) rfl ?_
  refine WL.fork (R.neq rfl rfl) rfl (fun hc1_4 => ?_) (fun hc1_4 => ?_)
  · skip
    replace hc1_4 := bne_T hc1_4
    refine WL.nil ?_
    refine W.cond_t rfl ?_
    refine W.reg ?_
    refine WL.y (R.asg (v := .bool false) rfl) rfl ?_
    refine WL.nil ?_
    refine W.ret ?_
    exact PR.r1 rfl (.tmp rfl) ⟨by rw [decide_eq_false (fun h => hc1_4 (by rw [h]))]; rfl, hX⟩
  · skip
    replace hc1_4 := bne_F hc1_4
    refine WL.nil ?_
    refine W.cond_f rfl ?_
    refine W.skip ?_
    refine W.seq ?_
    refine W.reg ?_
    refine WL.y (R.asg (v := .int _ _) rfl) rfl ?_
    refine WL.nil ?_
    refine W.block ?_
    refine W.loopS (ι := Nat) [(4, 6), (11, 26)] (fun q => [(5, i64 (q : Nat))]) (fun q => xs.length - q) (fun q w' => (q ≤ xs.length ∧ xs.take q = ys.take q) ∧ Ext w w' ∧ Star U w' []) 0 ⟨rfl, trivial⟩ ⟨⟨Nat.zero_le _, rfl⟩, hX, hS⟩ ?_
    rintro i j1 w_1 ⟨⟨hi, htk⟩, hX, hS⟩
    refine W.seq ?_
    refine W.reg ?_
    refine WL.y (R.mv (v := .int _ _) rfl) rfl ?_
    refine WL.y (R.mv (v := .slice _ _ _) rfl) rfl ?_
    refine WL.y (R.lenS Try.underlying81 rfl) rfl ?_
    refine WL.fork (R.lss rfl rfl) rfl (fun hc4_3 => ?_) (fun hc4_3 => ?_)
    · skip
      replace hc4_3 := of_decide_eq_true hc4_3
      refine WL.nil ?_
      refine W.cond_t rfl ?_
      refine W.skip ?_
      refine W.seq ?_
      refine W.block ?_
      refine W.seq ?_
      refine W.draw (fun j => [1000].contains j) (fun wI => Ext w_1 wI) rfl ?_
      have hI1 := Ext.dr w_1
      refine WA.batch [0, 1, 2, 3, 4, 5, 6, 7, 8] 0 (by kernel_rfl) hI1 ?_
      refine QL.y (fun wq hq => (R.mv (v := .slice _ _ _) rfl)) rfl ?_
      refine QL.y (fun wq hq => (R.mv (v := .int _ _) rfl)) rfl ?_
      obtain ⟨g_xs, o_xs, cs_xs, rfl, hO_xs⟩ := h1.op (by omega)
      obtain ⟨x, hx_xs⟩ : ∃ x, xs[i]? = some x := ⟨_, List.getElem?_eq_getElem (by omega)⟩
      refine QL.y (fun wq hq => (R.indexS Try.underlying81 siz54 rfl rfl rfl (by first | omega | (simp; omega)))) rfl ?_
      refine QL.y (fun wq hq => (R.loadA agg54 rfl (hq.blkR ((hO_xs.ext hX).blk).r) (hO_xs.at encD hx_xs) (encD.len x))) rfl ?_
      refine QL.y (fun wq hq => (R.mv (v := .slice _ _ _) rfl)) rfl ?_
      refine QL.y (fun wq hq => (R.mv (v := .int _ _) rfl)) rfl ?_
      obtain ⟨g_ys, o_ys, cs_ys, rfl, hO_ys⟩ := h2.op (by omega)
      obtain ⟨y, hy_ys⟩ : ∃ x, ys[i]? = some x := ⟨_, List.getElem?_eq_getElem (by omega)⟩
      refine QL.y (fun wq hq => (R.indexS Try.underlying81 siz54 rfl rfl rfl (by first | omega | (simp; omega)))) rfl ?_
      refine QL.y (fun wq hq => (R.loadA agg54 rfl (hq.blkR ((hO_ys.ext hX).blk).r) (hO_ys.at encD hy_ys) (encD.len y))) rfl ?_
      refine QL.y (fun wq hq => (R.neqAT (xs := encDip x) (ys := encDip y) (q := decide (x = y)) eq54 (by decide) agg54 Try.eqGuardType54 rfl rfl (typed_dip _) (typed_dip _) (veq_dip _ _))) rfl ?_
      refine QL.nil ?_
      have hD1 := Ext.dr w_1
      have hD1z := hD1.size
      have hS0 := hS
      have hXo := hX
      replace hS := hS.ext hD1
      replace hX := hX.tr hD1
      refine WA.done (by kernel_rfl) ?_
      refine W.cond _ rfl (fun hxy => ?_) (fun hxy => ?_)
      · skip
        replace hxy : ¬ x = y := by simpa using hxy
        refine W.reg ?_
        refine WL.y (R.asg (v := .bool false) rfl) rfl ?_
        refine WL.nil ?_
        refine W.ret ?_
        exact PR.r1 rfl (.tmp rfl) ⟨by rw [decide_eq_false (fun h => hxy (Option.some.inj (hx_xs.symm.trans ((congrArg (fun l => l[i]?) h).trans hy_ys))))]; rfl, hX⟩
      · skip
        replace hxy : x = y := by simpa using hxy
        refine W.skip ?_
        refine W.region ?_
        refine WL.y (R.mv (v := .int _ _) rfl) rfl ?_
        refine WL.y (R.addI rfl rfl (by omega)) rfl ?_
        refine WL.y (R.asg (v := .int _ _) rfl) rfl ?_
        refine WL.nil ?_
        exact ⟨i + 1, (by omega), (by repeat (first | exact Same.rfl' _ _ | refine Same.set _ rfl ?_ | refine Same.over' _ rfl ?_ | refine Same.sets rfl ?_)), ⟨rfl, trivial⟩, rfl, ⟨by omega, by rw [take_snoc hx_xs, take_snoc hy_ys, htk, hxy]⟩, hX, hS⟩
    · skip
      replace hc4_3 := of_decide_eq_false hc4_3
      refine WL.nil ?_
      refine W.cond_f rfl ?_
      refine W.exit ?_
      refine W.reg ?_
      refine WL.y (R.asg (v := .bool true) rfl) rfl ?_
      refine WL.nil ?_
      refine W.ret ?_
      exact PR.r1 rfl (.tmp rfl) ⟨by rw [decide_eq_true (by rw [show i = xs.length by omega, List.take_length, List.take_of_length_le (by omega)] at htk; exact htk)]; rfl, hX⟩
end Go.Proofs.Ytkjecokkdbapkaa
