import Derived.Test.YtkjecokkdbapkaaZzSlots5
import Derived.Test.YtkjecokkdbapkaaProg
namespace Go.Proofs.Ytkjecokkdbapkaa
set_option linter.all false
open Go Go.Eng Go.RowKit
set_option maxRecDepth 20000
set_option maxHeartbeats 2000000
set_option linter.unusedVariables false
set_option linter.unusedSimpArgs false
attribute [local irreducible] WL W QL WA SP

theorem el81_54 : Elem Try.prog 81 54 18 20 zc54 := ⟨Try.underlying81, ⟨Try.t54, .agg _, rfl, rfl, rfl, rfl, rfl⟩, rfl, rfl⟩
theorem sca81 : Sca Try.prog 81 := ⟨Try.isAgg81, Try.sizeOf81⟩
theorem zer3 : Zer Try.prog 3 zc3 := ⟨_, Try.zeroValue3, rfl⟩

theorem FillP_calls (x : Mem) (old : List Dip) (i : Nat) (hi : i < old.length) (b3 b11 : Nat) (ao : Option Addr) (co : Nat) (w : World) (h3 : Blk w b3 [.slice ao old.length co]) (h11 : Blk w b11 [i64 i]) (hS : Sli encDip 18 w ao co old) :
    CallV Try.prog 165 #[.agg (encMem x).toArray, .pointer (some ⟨b3, 0, none⟩), .pointer (some ⟨b11, 0, none⟩)] w fun v w' => v = bl (decide (x.dip = old.getD i dip0)) ∧ Ext w w' := by
  have hX : Ext w w := Ext.rfl' w
  obtain ⟨g, off, cs, rfl, hO⟩ := hS.op (by omega)
  have hy : old[i]? = some (old.getD i dip0) := by rw [List.getD_eq_getElem?_getD, List.getElem?_eq_getElem hi]; rfl
  refine Calls.of_W (N := 12) Try.func165 rfl rfl rfl ?_
  refine W.reg ?_
  refine WL.box (v := .agg _) rfl rfl rfl ?_
  intro b1 w1 hb1 hs1 hx1 hB1
  have hge1 := hX.size
  replace hX := hX.tr hx1
  replace h3 := hx1.blk h3
  replace h11 := hx1.blk h11
  replace hO := hO.ext hx1
  refine WL.y (R.asg (v := .bool false) rfl) rfl ?_
  refine WL.nil ?_
  refine W.seq ?_
  refine W.draw (fun j => [1000].contains j) (fun wI => Ext w1 wI) rfl ?_
  have hI2 := Ext.dr w1
  refine WA.batch [0, 1, 2, 3, 4, 5, 6, 7] 0 (by kernel_rfl) hI2 ?_
  refine QL.y (fun wq hq => (R.fieldAddr fo57_0 rfl)) rfl ?_
  refine QL.y (fun wq hq => (R.loadA agg54 rfl (hq.blkR (hB1).r) rfl rfl)) rfl ?_
  refine QL.y (fun wq hq => (R.load sca81 rfl (hq.blkR (h3).r) rfl)) rfl ?_
  refine QL.y (fun wq hq => (R.load sca3 rfl (hq.blkR (h11).r) rfl)) rfl ?_
  refine QL.y (fun wq hq => (R.indexS Try.underlying81 siz54 rfl rfl rfl (by omega))) rfl ?_
  refine QL.y (fun wq hq => (R.loadA agg54 rfl (hq.blkR (hO.blk).r) (hO.at encD hy) rfl)) rfl ?_
  refine QL.y (fun wq hq => (R.eqlA (xs := encDip x.dip) eq54 (by decide) agg54 Try.eqGuardType54 rfl rfl (typed_dip x.dip) (typed_dip _))) rfl ?_
  refine QL.y (fun wq hq => (R.asg (v := .bool _) rfl)) rfl ?_
  refine QL.nil ?_
  have hD2 := Ext.dr w1
  have hD2z := hD2.size
  replace hX := hX.tr hD2
  replace h3 := hD2.blk h3
  replace h11 := hD2.blk h11
  replace hO := hO.ext hD2
  replace hB1 := hD2.blk hB1
  refine WA.done (by kernel_rfl) ?_
  refine W.ret ?_
  exact PR.r1 rfl (.tmp rfl) ⟨by rw [veq_dip]; rfl, hX⟩

theorem fstep_no {old : List Dip} {ms : List Mem} {p : List Int × List Dip × List Int} {i : Nat} (h : old.length = 0 ∨ idx (fun x : Mem => decide (x.dip = old.getD i dip0)) ms < 0) : fstep old ms p i = (p.1, p.2.1, p.2.2 ++ [(i : Int)]) := by
  have : (if old.length = 0 then (-1 : Int) else idx (fun x : Mem => decide (x.dip = old.getD i dip0)) ms) < 0 := by
    split
    · omega
    · rcases h with h | h
      · contradiction
      · exact h
  simp only [fstep, this, if_true]
theorem fstep_full {old : List Dip} {ms : List Mem} {p : List Int × List Dip × List Int} {i k : Nat} (h0 : ¬ old.length = 0) (hk : idx (fun x : Mem => decide (x.dip = old.getD i dip0)) ms = k) (hz : p.1.getD k 0 = 0) : fstep old ms p i = (p.1, p.2.1, p.2.2 ++ [(i : Int)]) := by
  have : ¬ ((k : Int) < 0) := by omega
  simp only [fstep, if_neg h0, hk, this, if_false, Int.toNat_natCast, hz, if_true]
theorem fstep_keep {old : List Dip} {ms : List Mem} {p : List Int × List Dip × List Int} {i k : Nat} (h0 : ¬ old.length = 0) (hk : idx (fun x : Mem => decide (x.dip = old.getD i dip0)) ms = k) (hz : ¬ p.1.getD k 0 = 0) : fstep old ms p i = (p.1.set k (p.1.getD k 0 - 1), p.2.1.set i (old.getD i dip0), p.2.2) := by
  have : ¬ ((k : Int) < 0) := by omega
  simp only [fstep, if_neg h0, hk, this, if_false, Int.toNat_natCast, hz]
theorem idx_lt {α : Type} {p : α → Bool} {l : List α} {k : Nat} (h : idx p l = k) : k < l.length := by
  simp only [idx] at h
  split at h
  · omega
  · omega
theorem isum_nonneg : ∀ {l : List Int}, (∀ x ∈ l, 0 ≤ x) → 0 ≤ isum l
  | [], _ => by simp [isum]
  | x :: l, h => by
    have := isum_nonneg (l := l) fun y hy => h y (by simp [hy])
    have := h x (by simp)
    simp only [isum]; omega
def gpass (ms : List Mem) (p : List Int × List Dip × List Int) (j : Nat) : List Int × List Dip := (p.2.2.take j).foldl (gstep ms) (p.1, p.2.1)
theorem gpass_succ {ms : List Mem} {p : List Int × List Dip × List Int} {j : Nat} {o : Int} (h : p.2.2[j]? = some o) : gpass ms p (j + 1) = gstep ms (gpass ms p j) o := by
  simp [gpass, take_snoc h, List.foldl_append]
theorem ginv {ms : List Mem} {n : Nat} {p : List Int × List Dip × List Int} (h : FInv ms.length n n p) : ∀ j, j ≤ p.2.2.length → GInv ms n (p.2.2.length - j) (gpass ms p j)
  | 0, _ => ⟨by simpa [gpass] using h.lenL, by simpa [gpass] using h.lenD, by simp [gpass]; have := h.sum; omega, by simpa [gpass] using h.pos⟩
  | j + 1, hj => by
    have ih := ginv h j (by omega)
    have e : p.2.2.length - j = (p.2.2.length - (j + 1)) + 1 := by omega
    rw [e] at ih
    rw [gpass_succ (List.getElem?_eq_getElem (show j < p.2.2.length by omega))]
    exact ih.step _
theorem fill_eq {old : List Dip} {ms : List Mem} {n : Nat} (h : ¬ ms.length = 0) : fill old ms n = (gpass ms (fpass old ms (shares ms n, List.replicate n dip0, []) n) (fpass old ms (shares ms n, List.replicate n dip0, []) n).2.2.length).2 := by
  simp only [fill, if_neg h, gpass, List.take_length]
theorem getD_set_ne {l : List Int} {i k : Nat} {v : Int} (h : i ≠ k) : (l.set k v).getD i 0 = l.getD i 0 := by
  rw [List.getD_eq_getElem?_getD, List.getD_eq_getElem?_getD, List.getElem?_set_ne (Ne.symm h)]
theorem mem_dip {ms : List Mem} {k : Nat} (h : k < ms.length) : ∃ x, ms[k]? = some x ∧ (ms[k]?.map (·.dip)).getD dip0 = x.dip := ⟨ms[k], List.getElem?_eq_getElem h, by rw [List.getElem?_eq_getElem h]; rfl⟩
theorem bd_of {l : List Int} {n : Nat} {K : Int} (h : ∀ x ∈ l, 0 ≤ x) (hs : isum l ≤ K) : ∀ i, 0 ≤ l.getD i 0 ∧ l.getD i 0 ≤ K := by
  intro i
  refine ⟨getD_nonneg h i, ?_⟩
  by_cases hi : i < l.length
  · have := isum_set hi 0
    have h2 : 0 ≤ isum (l.set i 0) := (isum_nonneg fun x hx => by rcases mem_set_or hx with hx | rfl; exact h x hx; omega)
    omega
  · rw [List.getD_eq_getElem?_getD, List.getElem?_eq_none (by omega)]
    have h2 := isum_nonneg h
    simp; omega

theorem Fill_bad1 (old : List Dip) (ms : List Mem) (n : Nat) (ao a : Option Addr) (co c : Nat) (w : World) (hD : Sli encDip 18 w ao co old) (hS : Sli encMem 19 w a c ms) (h : n < 1) : CallV Try.prog 118 #[.slice ao old.length co, .slice a ms.length c, i64 (n : Nat)] w fun v w' => v = .tuple #[.slice none 0 0, i64 1] ∧ Ext w w' := by
  have hX : Ext w w := Ext.rfl' w
  have hSl := hS.lt
  have hDl := hD.lt
  refine Calls.of_W (N := 113) Try.func118 rfl rfl rfl ?_
  refine W.reg ?_
  refine WL.box (v := .slice _ _ _) rfl rfl rfl ?_
  intro b1 w1 hb1 hs1 hx1 hB1
  have hge1 := hX.size
  replace hX := hX.tr hx1
  replace hS := hS.ext hx1
  replace hD := hD.ext hx1
  refine WL.y (R.asg (v := .slice _ _ _) rfl) rfl ?_
  refine WL.y (R.asg (v := .int _ _) rfl) rfl ?_
  refine WL.nil ?_
  refine W.seq ?_
  refine W.reg ?_
  refine WL.y (R.mv (v := .int _ _) rfl) rfl ?_
  refine WL.y (R.lssT rfl rfl (by omega)) rfl ?_
  refine WL.y (R.mv (v := .bool true) rfl) rfl ?_
  refine WL.skip rfl ?_
  refine WL.skip rfl ?_
  refine WL.y (R.pkT (v := .bool true) rfl rfl) rfl ?_
  refine WL.y (R.mv (v := .bool true) rfl) rfl ?_
  refine WL.skip rfl ?_
  refine WL.skip rfl ?_
  refine WL.skip rfl ?_
  refine WL.y (R.pkT (v := .bool true) rfl rfl) rfl ?_
  refine WL.y (R.mv (v := .bool true) rfl) rfl ?_
  refine WL.skip rfl ?_
  refine WL.skip rfl ?_
  refine WL.skip rfl ?_
  refine WL.skip rfl ?_
  refine WL.skip rfl ?_
  refine WL.skip rfl ?_
  refine WL.skip rfl ?_
  refine WL.skip rfl ?_
  refine WL.skip rfl ?_
  refine WL.y (R.pkT (v := .bool true) rfl rfl) rfl ?_
  refine WL.nil ?_
  refine W.cond_t rfl ?_
  refine W.reg ?_
  refine WL.y (R.asg (v := .slice _ _ _) rfl) rfl ?_
  refine WL.y (R.asg (v := .int _ _) rfl) rfl ?_
  refine WL.nil ?_
  refine W.ret ?_
  exact PR.r2 rfl (.tmp rfl) (.tmp rfl) ⟨rfl, hX⟩

theorem Fill_bad2 (old : List Dip) (ms : List Mem) (n : Nat) (ao a : Option Addr) (co c : Nat) (w : World) (hD : Sli encDip 18 w ao co old) (hS : Sli encMem 19 w a c ms) (h : 64 < n) : CallV Try.prog 118 #[.slice ao old.length co, .slice a ms.length c, i64 (n : Nat)] w fun v w' => v = .tuple #[.slice none 0 0, i64 1] ∧ Ext w w' := by
  have hX : Ext w w := Ext.rfl' w
  have hSl := hS.lt
  have hDl := hD.lt
  refine Calls.of_W (N := 113) Try.func118 rfl rfl rfl ?_
  refine W.reg ?_
  refine WL.box (v := .slice _ _ _) rfl rfl rfl ?_
  intro b1 w1 hb1 hs1 hx1 hB1
  have hge1 := hX.size
  replace hX := hX.tr hx1
  replace hS := hS.ext hx1
  replace hD := hD.ext hx1
  refine WL.y (R.asg (v := .slice _ _ _) rfl) rfl ?_
  refine WL.y (R.asg (v := .int _ _) rfl) rfl ?_
  refine WL.nil ?_
  refine W.seq ?_
  refine W.reg ?_
  refine WL.y (R.mv (v := .int _ _) rfl) rfl ?_
  refine WL.y (R.lssF rfl rfl (by omega)) rfl ?_
  refine WL.y (R.mv (v := .bool false) rfl) rfl ?_
  refine WL.y (R.mv (v := .int _ _) rfl) rfl ?_
  refine WL.y (R.gtrT rfl rfl (by omega)) rfl ?_
  refine WL.y (R.pkF (v := .bool true) rfl rfl) rfl ?_
  refine WL.y (R.mv (v := .bool true) rfl) rfl ?_
  refine WL.skip rfl ?_
  refine WL.skip rfl ?_
  refine WL.skip rfl ?_
  refine WL.y (R.pkT (v := .bool true) rfl rfl) rfl ?_
  refine WL.y (R.mv (v := .bool true) rfl) rfl ?_
  refine WL.skip rfl ?_
  refine WL.skip rfl ?_
  refine WL.skip rfl ?_
  refine WL.skip rfl ?_
  refine WL.skip rfl ?_
  refine WL.skip rfl ?_
  refine WL.skip rfl ?_
  refine WL.skip rfl ?_
  refine WL.skip rfl ?_
  refine WL.y (R.pkT (v := .bool true) rfl rfl) rfl ?_
  refine WL.nil ?_
  refine W.cond_t rfl ?_
  refine W.reg ?_
  refine WL.y (R.asg (v := .slice _ _ _) rfl) rfl ?_
  refine WL.y (R.asg (v := .int _ _) rfl) rfl ?_
  refine WL.nil ?_
  refine W.ret ?_
  exact PR.r2 rfl (.tmp rfl) (.tmp rfl) ⟨rfl, hX⟩

theorem Fill_bad3 (old : List Dip) (ms : List Mem) (n : Nat) (ao a : Option Addr) (co c : Nat) (w : World) (hD : Sli encDip 18 w ao co old) (hS : Sli encMem 19 w a c ms) (h : 1 ≤ n ∧ n ≤ 64) (hm : memsOK ms = false) : CallV Try.prog 118 #[.slice ao old.length co, .slice a ms.length c, i64 (n : Nat)] w fun v w' => v = .tuple #[.slice none 0 0, i64 1] ∧ Ext w w' := by
  have hX : Ext w w := Ext.rfl' w
  have hSl := hS.lt
  have hDl := hD.lt
  refine Calls.of_W (N := 113) Try.func118 rfl rfl rfl ?_
  refine W.reg ?_
  refine WL.box (v := .slice _ _ _) rfl rfl rfl ?_
  intro b1 w1 hb1 hs1 hx1 hB1
  have hge1 := hX.size
  replace hX := hX.tr hx1
  replace hS := hS.ext hx1
  replace hD := hD.ext hx1
  refine WL.y (R.asg (v := .slice _ _ _) rfl) rfl ?_
  refine WL.y (R.asg (v := .int _ _) rfl) rfl ?_
  refine WL.nil ?_
  refine W.seq ?_
  refine W.reg ?_
  refine WL.y (R.mv (v := .int _ _) rfl) rfl ?_
  refine WL.y (R.lssF rfl rfl (by omega)) rfl ?_
  refine WL.y (R.mv (v := .bool false) rfl) rfl ?_
  refine WL.y (R.mv (v := .int _ _) rfl) rfl ?_
  refine WL.y (R.gtrF rfl rfl (by omega)) rfl ?_
  refine WL.y (R.pkF (v := .bool false) rfl rfl) rfl ?_
  refine WL.y (R.mv (v := .bool false) rfl) rfl ?_
  refine WL.y (R.mv (v := .slice _ _ _) rfl) rfl ?_
  refine WL.call Try.func109 rfl rfl ((Check_calls ms a c _ hS).val (y := i64 1) (by rw [hm]; rfl)) rfl rfl ?_
  rintro _ w2 ⟨rfl, hx2⟩
  have hz2 := hx2.size
  replace hX := hX.tr hx2
  replace hS := hS.ext hx2
  replace hD := hD.ext hx2
  replace hB1 := hx2.blk hB1
  refine WL.y (R.neqT rfl rfl (by decide)) rfl ?_
  refine WL.y (R.pkF (v := .bool true) rfl rfl) rfl ?_
  refine WL.y (R.mv (v := .bool true) rfl) rfl ?_
  refine WL.skip rfl ?_
  refine WL.skip rfl ?_
  refine WL.skip rfl ?_
  refine WL.skip rfl ?_
  refine WL.skip rfl ?_
  refine WL.skip rfl ?_
  refine WL.skip rfl ?_
  refine WL.skip rfl ?_
  refine WL.skip rfl ?_
  refine WL.y (R.pkT (v := .bool true) rfl rfl) rfl ?_
  refine WL.nil ?_
  refine W.cond_t rfl ?_
  refine W.reg ?_
  refine WL.y (R.asg (v := .slice _ _ _) rfl) rfl ?_
  refine WL.y (R.asg (v := .int _ _) rfl) rfl ?_
  refine WL.nil ?_
  refine W.ret ?_
  exact PR.r2 rfl (.tmp rfl) (.tmp rfl) ⟨rfl, hX⟩

theorem Fill_bad4 (old : List Dip) (ms : List Mem) (n : Nat) (ao a : Option Addr) (co c : Nat) (w : World) (hD : Sli encDip 18 w ao co old) (hS : Sli encMem 19 w a c ms) (h : 1 ≤ n ∧ n ≤ 64) (hm : memsOK ms = true) (h2 : ¬ old.length = 0) (h3 : ¬ old.length = n) : CallV Try.prog 118 #[.slice ao old.length co, .slice a ms.length c, i64 (n : Nat)] w fun v w' => v = .tuple #[.slice none 0 0, i64 1] ∧ Ext w w' := by
  have hX : Ext w w := Ext.rfl' w
  have hSl := hS.lt
  have hDl := hD.lt
  refine Calls.of_W (N := 113) Try.func118 rfl rfl rfl ?_
  refine W.reg ?_
  refine WL.box (v := .slice _ _ _) rfl rfl rfl ?_
  intro b1 w1 hb1 hs1 hx1 hB1
  have hge1 := hX.size
  replace hX := hX.tr hx1
  replace hS := hS.ext hx1
  replace hD := hD.ext hx1
  refine WL.y (R.asg (v := .slice _ _ _) rfl) rfl ?_
  refine WL.y (R.asg (v := .int _ _) rfl) rfl ?_
  refine WL.nil ?_
  refine W.seq ?_
  refine W.reg ?_
  refine WL.y (R.mv (v := .int _ _) rfl) rfl ?_
  refine WL.y (R.lssF rfl rfl (by omega)) rfl ?_
  refine WL.y (R.mv (v := .bool false) rfl) rfl ?_
  refine WL.y (R.mv (v := .int _ _) rfl) rfl ?_
  refine WL.y (R.gtrF rfl rfl (by omega)) rfl ?_
  refine WL.y (R.pkF (v := .bool false) rfl rfl) rfl ?_
  refine WL.y (R.mv (v := .bool false) rfl) rfl ?_
  refine WL.y (R.mv (v := .slice _ _ _) rfl) rfl ?_
  refine WL.call Try.func109 rfl rfl ((Check_calls ms a c _ hS).val (y := i64 0) (by rw [hm]; rfl)) rfl rfl ?_
  rintro _ w2 ⟨rfl, hx2⟩
  have hz2 := hx2.size
  replace hX := hX.tr hx2
  replace hS := hS.ext hx2
  replace hD := hD.ext hx2
  replace hB1 := hx2.blk hB1
  refine WL.y (R.neqF rfl rfl rfl) rfl ?_
  refine WL.y (R.pkF (v := .bool false) rfl rfl) rfl ?_
  refine WL.y (R.mv (v := .bool false) rfl) rfl ?_
  refine WL.y (R.load sca81 rfl (hB1).r rfl) rfl ?_
  refine WL.y (R.lenS Try.underlying81 rfl) rfl ?_
  refine WL.y (R.gtrT rfl rfl (by omega)) rfl ?_
  refine WL.y (R.mv (v := .bool true) rfl) rfl ?_
  refine WL.y (R.load sca81 rfl (hB1).r rfl) rfl ?_
  refine WL.y (R.lenS Try.underlying81 rfl) rfl ?_
  refine WL.y (R.mv (v := .int _ _) rfl) rfl ?_
  refine WL.y (R.neqT rfl rfl (by omega)) rfl ?_
  refine WL.y (R.pkT (v := .bool true) rfl rfl) rfl ?_
  refine WL.y (R.pkF (v := .bool true) rfl rfl) rfl ?_
  refine WL.nil ?_
  refine W.cond_t rfl ?_
  refine W.reg ?_
  refine WL.y (R.asg (v := .slice _ _ _) rfl) rfl ?_
  refine WL.y (R.asg (v := .int _ _) rfl) rfl ?_
  refine WL.nil ?_
  refine W.ret ?_
  exact PR.r2 rfl (.tmp rfl) (.tmp rfl) ⟨rfl, hX⟩

theorem Fill_none (old : List Dip) (ms : List Mem) (n : Nat) (ao a : Option Addr) (co c : Nat) (w : World) (hD : Sli encDip 18 w ao co old) (hS : Sli encMem 19 w a c ms) (h : 1 ≤ n ∧ n ≤ 64) (hm : memsOK ms = true) (h2 : old.length = 0 ∨ old.length = n) (h0 : ms.length = 0) : CallV Try.prog 118 #[.slice ao old.length co, .slice a ms.length c, i64 (n : Nat)] w fun v w' => v = .tuple #[.slice none 0 0, i64 0] ∧ Ext w w' := by
  have hX : Ext w w := Ext.rfl' w
  have hSl := hS.lt
  have hDl := hD.lt
  refine Calls.of_W (N := 113) Try.func118 rfl rfl rfl ?_
  refine W.reg ?_
  refine WL.box (v := .slice _ _ _) rfl rfl rfl ?_
  intro b1 w1 hb1 hs1 hx1 hB1
  have hge1 := hX.size
  replace hX := hX.tr hx1
  replace hS := hS.ext hx1
  replace hD := hD.ext hx1
  refine WL.y (R.asg (v := .slice _ _ _) rfl) rfl ?_
  refine WL.y (R.asg (v := .int _ _) rfl) rfl ?_
  refine WL.nil ?_
  refine W.seq ?_
  refine W.reg ?_
  refine WL.y (R.mv (v := .int _ _) rfl) rfl ?_
  refine WL.y (R.lssF rfl rfl (by omega)) rfl ?_
  refine WL.y (R.mv (v := .bool false) rfl) rfl ?_
  refine WL.y (R.mv (v := .int _ _) rfl) rfl ?_
  refine WL.y (R.gtrF rfl rfl (by omega)) rfl ?_
  refine WL.y (R.pkF (v := .bool false) rfl rfl) rfl ?_
  refine WL.y (R.mv (v := .bool false) rfl) rfl ?_
  refine WL.y (R.mv (v := .slice _ _ _) rfl) rfl ?_
  refine WL.call Try.func109 rfl rfl ((Check_calls ms a c _ hS).val (y := i64 0) (by rw [hm]; rfl)) rfl rfl ?_
  rintro _ w2 ⟨rfl, hx2⟩
  have hz2 := hx2.size
  replace hX := hX.tr hx2
  replace hS := hS.ext hx2
  replace hD := hD.ext hx2
  replace hB1 := hx2.blk hB1
  refine WL.y (R.neqF rfl rfl rfl) rfl ?_
  refine WL.y (R.pkF (v := .bool false) rfl rfl) rfl ?_
  refine WL.y (R.mv (v := .bool false) rfl) rfl ?_
  refine WL.y (R.load sca81 rfl (hB1).r rfl) rfl ?_
  refine WL.y (R.lenS Try.underlying81 rfl) rfl ?_
  refine WL.fork (R.gtr rfl rfl) rfl (fun hc1_14 => ?_) (fun hc1_14 => ?_)
  · skip
    replace hc1_14 := of_decide_eq_true hc1_14
    refine WL.y (R.mv (v := .bool true) rfl) rfl ?_
    refine WL.y (R.load sca81 rfl (hB1).r rfl) rfl ?_
    refine WL.y (R.lenS Try.underlying81 rfl) rfl ?_
    refine WL.y (R.mv (v := .int _ _) rfl) rfl ?_
    refine WL.y (R.neqF rfl rfl (by omega)) rfl ?_
    refine WL.y (R.pkT (v := .bool false) rfl rfl) rfl ?_
    refine WL.y (R.pkF (v := .bool false) rfl rfl) rfl ?_
    refine WL.nil ?_
    refine W.cond_f rfl ?_
    refine W.skip ?_
    refine W.seq ?_
    refine W.reg ?_
    refine WL.y (R.mv (v := .slice _ _ _) rfl) rfl ?_
    refine WL.y (R.lenS Try.underlying52 rfl) rfl ?_
    refine WL.y (R.eqlT rfl rfl (by omega)) rfl ?_
    refine WL.nil ?_
    refine W.cond_t rfl ?_
    refine W.reg ?_
    refine WL.y (R.asg (v := .slice _ _ _) rfl) rfl ?_
    refine WL.y (R.asg (v := .int _ _) rfl) rfl ?_
    refine WL.nil ?_
    refine W.ret ?_
    exact PR.r2 rfl (.tmp rfl) (.tmp rfl) ⟨rfl, hX⟩
  · skip
    replace hc1_14 := of_decide_eq_false hc1_14
    refine WL.y (R.mv (v := .bool false) rfl) rfl ?_
    refine WL.skip rfl ?_
    refine WL.skip rfl ?_
    refine WL.skip rfl ?_
    refine WL.skip rfl ?_
    refine WL.y (R.pkF (v := .bool false) rfl rfl) rfl ?_
    refine WL.y (R.pkF (v := .bool false) rfl rfl) rfl ?_
    refine WL.nil ?_
    refine W.cond_f rfl ?_
    refine W.skip ?_
    refine W.seq ?_
    refine W.reg ?_
    refine WL.y (R.mv (v := .slice _ _ _) rfl) rfl ?_
    refine WL.y (R.lenS Try.underlying52 rfl) rfl ?_
    refine WL.y (R.eqlT rfl rfl (by omega)) rfl ?_
    refine WL.nil ?_
    refine W.cond_t rfl ?_
    refine W.reg ?_
    refine WL.y (R.asg (v := .slice _ _ _) rfl) rfl ?_
    refine WL.y (R.asg (v := .int _ _) rfl) rfl ?_
    refine WL.nil ?_
    refine W.ret ?_
    exact PR.r2 rfl (.tmp rfl) (.tmp rfl) ⟨rfl, hX⟩

theorem Fill_e (old : List Dip) (ms : List Mem) (n : Nat) (ao a : Option Addr) (co c : Nat) (w : World) (hD : Sli encDip 18 w ao co old) (hS : Sli encMem 19 w a c ms) (h : 1 ≤ n ∧ n ≤ 64) (hm : memsOK ms = true) (hn2 : old.length = 0) (h0 : 1 ≤ ms.length) : CallV Try.prog 118 #[.slice ao old.length co, .slice a ms.length c, i64 (n : Nat)] w fun v w' => (∃ g off c', v = .tuple #[.slice (some ⟨g, off, none⟩) n c', i64 0] ∧ w.heap.size ≤ g ∧ ∃ cs, SlO encDip 18 w' g off c' cs (fill old ms n)) ∧ Ext w w' := by
  have hX : Ext w w := Ext.rfl' w
  have hSl := hS.lt
  have hDl := hD.lt
  have hlen := memsOK_len hm
  refine Calls.of_W (N := 113) Try.func118 rfl rfl rfl ?_
  refine W.reg ?_
  refine WL.box (v := .slice _ _ _) rfl rfl rfl ?_
  intro b1 w1 hb1 hs1 hx1 hB1
  have hge1 := hX.size
  replace hX := hX.tr hx1
  replace hS := hS.ext hx1
  replace hD := hD.ext hx1
  refine WL.y (R.asg (v := .slice _ _ _) rfl) rfl ?_
  refine WL.y (R.asg (v := .int _ _) rfl) rfl ?_
  refine WL.nil ?_
  refine W.seq ?_
  refine W.reg ?_
  refine WL.y (R.mv (v := .int _ _) rfl) rfl ?_
  refine WL.y (R.lssF rfl rfl (by omega)) rfl ?_
  refine WL.y (R.mv (v := .bool false) rfl) rfl ?_
  refine WL.y (R.mv (v := .int _ _) rfl) rfl ?_
  refine WL.y (R.gtrF rfl rfl (by omega)) rfl ?_
  refine WL.y (R.pkF (v := .bool false) rfl rfl) rfl ?_
  refine WL.y (R.mv (v := .bool false) rfl) rfl ?_
  refine WL.y (R.mv (v := .slice _ _ _) rfl) rfl ?_
  refine WL.call Try.func109 rfl rfl ((Check_calls ms a c _ hS).val (y := i64 0) (by rw [hm]; rfl)) rfl rfl ?_
  rintro _ w2 ⟨rfl, hx2⟩
  have hz2 := hx2.size
  replace hX := hX.tr hx2
  replace hS := hS.ext hx2
  replace hD := hD.ext hx2
  replace hB1 := hx2.blk hB1
  refine WL.y (R.neqF rfl rfl rfl) rfl ?_
  refine WL.y (R.pkF (v := .bool false) rfl rfl) rfl ?_
  refine WL.y (R.mv (v := .bool false) rfl) rfl ?_
  refine WL.y (R.load sca81 rfl (hB1).r rfl) rfl ?_
  refine WL.y (R.lenS Try.underlying81 rfl) rfl ?_
  refine WL.y (R.gtrF rfl rfl (by omega)) rfl ?_
  refine WL.y (R.mv (v := .bool false) rfl) rfl ?_
  refine WL.skip rfl ?_
  refine WL.skip rfl ?_
  refine WL.skip rfl ?_
  refine WL.skip rfl ?_
  refine WL.y (R.pkF (v := .bool false) rfl rfl) rfl ?_
  refine WL.y (R.pkF (v := .bool false) rfl rfl) rfl ?_
  refine WL.nil ?_
  refine W.cond_f rfl ?_
  refine W.skip ?_
  refine W.seq ?_
  refine W.reg ?_
  refine WL.y (R.mv (v := .slice _ _ _) rfl) rfl ?_
  refine WL.y (R.lenS Try.underlying52 rfl) rfl ?_
  refine WL.y (R.eqlF rfl rfl (by omega)) rfl ?_
  refine WL.nil ?_
  refine W.cond_f rfl ?_
  refine W.skip ?_
  refine W.reg ?_
  refine WL.y (R.mv (v := .slice _ _ _) rfl) rfl ?_
  refine WL.y (R.mv (v := .int _ _) rfl) rfl ?_
  refine WL.call Try.func164 rfl rfl (Shares_calls ms (n : Int) ⟨by omega, by omega⟩ hm (by omega) a c _ hS) rfl rfl ?_
  rintro _ w3 ⟨gL, oL, cL, rfl, hx3, hgL, csL, hL⟩
  have hz3 := hx3.size
  have hgLw := hL.blk.lt
  replace hX := hX.tr hx3
  replace hS := hS.ext hx3
  replace hD := hD.ext hx3
  replace hB1 := hx3.blk hB1
  refine WL.y (R.asg (v := .slice _ _ _) rfl) rfl ?_
  refine WL.nil ?_
  refine W.reg ?_
  refine WL.y (R.mv (v := .int _ _) rfl) rfl ?_
  refine WL.makeSlice el81_54 rfl rfl (by omega) (by omega) rfl ?_
  intro b4 w4 hb4 hs4 hx4 hB4
  have hge4 := hX.size
  replace hX := hX.tr hx4
  replace hS := hS.ext hx4
  replace hD := hD.ext hx4
  replace hB1 := hx4.blk hB1
  replace hL := hL.ext hx4
  replace hB4 := SlO.made encD dip0 rfl hB4
  obtain ⟨bU, rfl⟩ : ∃ b, b = b4 := ⟨_, rfl⟩
  have hU := hB4; clear hB4
  refine WL.y (R.asg (v := .slice _ _ _) rfl) rfl ?_
  refine WL.nil ?_
  refine W.reg ?_
  refine WL.y (R.asg (v := .slice _ _ _) rfl) rfl ?_
  refine WL.nil ?_
  refine W.seqX (ι := Option Addr × Nat) [(10, 13), (46, 84)] (fun q => [(10, .slice q.1 (fpass old ms (shares ms n, List.replicate n dip0, []) n).2.2.length q.2)]) (fun q w' => Ext w w' ∧ bU < w'.heap.size ∧ gL < w'.heap.size ∧ Sli encMem 19 w' a c ms ∧ (∃ cs, SlO (fun n : Int => [i64 n]) 1 w' gL oL cL cs (fpass old ms (shares ms n, List.replicate n dip0, []) n).1) ∧ (∃ cs, SlO encDip 18 w' bU 0 n cs (fpass old ms (shares ms n, List.replicate n dip0, []) n).2.1) ∧ Slw (fun n : Int => [i64 n]) 1 w' q.1 q.2 (fpass old ms (shares ms n, List.replicate n dip0, []) n).2.2 ∧ (∀ k, owns q.1 k → w.heap.size ≤ k ∧ k ≠ gL ∧ k ≠ bU ∧ k ≠ b1)) ?_ ?_
  · skip
    refine W.reg ?_
    refine WL.y (R.mv (v := .slice _ _ _) rfl) rfl ?_
    refine WL.y (R.lenS Try.underlying81 rfl) rfl ?_
    refine WL.y (R.mv (v := .int _ _) rfl) rfl ?_
    refine WL.nil ?_
    refine W.block ?_
    refine W.loopS (ι := Nat × Option Addr × Nat) [(10, 13), (48, 84)] (fun q => [(10, .slice q.2.1 (fpass old ms (shares ms n, List.replicate n dip0, []) q.1).2.2.length q.2.2), (48, i64 (q.1 : Nat))]) (fun q => n - q.1) (fun q w' => q.1 ≤ n ∧ Ext w w' ∧ bU < w'.heap.size ∧ gL < w'.heap.size ∧ Blk w' b1 [.slice ao old.length co] ∧ Sli encMem 19 w' a c ms ∧ Sli encDip 18 w' ao co old ∧ (∃ cs, SlO (fun n : Int => [i64 n]) 1 w' gL oL cL cs (fpass old ms (shares ms n, List.replicate n dip0, []) q.1).1) ∧ (∃ cs, SlO encDip 18 w' bU 0 n cs (fpass old ms (shares ms n, List.replicate n dip0, []) q.1).2.1) ∧ Slw (fun n : Int => [i64 n]) 1 w' q.2.1 q.2.2 (fpass old ms (shares ms n, List.replicate n dip0, []) q.1).2.2 ∧ (∀ k, owns q.2.1 k → w.heap.size ≤ k ∧ k ≠ gL ∧ k ≠ bU ∧ k ≠ b1)) (0, none, 0) ⟨rfl, rfl, trivial⟩ ⟨Nat.zero_le _, hX, by omega, by omega, hB1, hS, hD, ⟨_, hL⟩, ⟨_, hU⟩, Slw.nil _ _ _, own_nil⟩ ?_
    rintro ⟨i, ap, cp⟩ j wl ⟨hi, hX, hbU, hgLw, hB1, hS, hD, ⟨csL, hL⟩, ⟨csU, hU⟩, hP, hown⟩
    simp only at hi hL hU hP hown
    have hXs := hX.size
    have hol := hP.lt
    have hF := FInv.pass (old := old) (finv0 (ms := ms) (n := n) (by omega) hm (by omega)) i hi
    have hFO := hF.lenO
    have hFU := hF.lenD
    try dsimp only
    refine W.reg ?_
    refine WL.fork (R.lss rfl rfl) rfl (fun hc9_0 => ?_) (fun hc9_0 => ?_)
    · skip
      replace hc9_0 := of_decide_eq_true hc9_0
      refine WL.nil ?_
      refine W.seq ?_
      refine W.cond_t rfl ?_
      refine W.skip ?_
      refine W.seq ?_
      refine W.block ?_
      refine W.reg ?_
      refine WL.y (R.mv (v := .int _ _) rfl) rfl ?_
      refine WL.alloc zer3 rfl ?_
      intro b5 w5 hb5 hs5 hx5 hB5
      have hge5 := hX.size
      replace hX := hX.tr hx5
      replace hB1 := hx5.blk hB1
      replace hS := hS.ext hx5
      replace hD := hD.ext hx5
      replace hL := hL.ext hx5
      replace hU := hU.ext hx5
      replace hP := hP.ext hx5
      refine WL.store1 (v := .int _ _) sca3 rfl rfl rfl hB5 (Nat.le_of_ble_eq_true rfl) rfl ?_
      intro w6 hu6 hz6 hn6
      replace hX := hX.put hu6 (by omega)
      replace hB1 := hu6.blk (by omega) hB1
      replace hS := hS.updB hu6 (fun k hk => by first | (have := (hSl) k hk; omega) | (have := (hSl) k hk.1; omega))
      replace hD := hD.updB hu6 (fun k hk => by first | (have := (hDl) k hk; omega) | (have := (hDl) k hk.1; omega))
      replace hL := hL.updB hu6 (by omega)
      replace hU := hU.updB hu6 (by omega)
      replace hP := hP.updB hu6 (fun k hk => by first | (have := (own2 hown hol) k hk; omega) | (have := (own2 hown hol) k hk.1; omega))
      replace hB5 := hn6; clear hn6
      refine WL.nil ?_
      refine W.reg ?_
      refine WL.y (R.asg (v := .int _ _) rfl) rfl ?_
      refine WL.nil ?_
      refine W.seq ?_
      refine W.reg ?_
      refine WL.y (R.load sca81 rfl (hB1).r rfl) rfl ?_
      refine WL.y (R.lenS Try.underlying81 rfl) rfl ?_
      refine WL.y (R.gtrF rfl rfl (by omega)) rfl ?_
      refine WL.nil ?_
      refine W.cond_f rfl ?_
      refine W.skip ?_
      refine W.seq ?_
      refine W.reg ?_
      refine WL.y (R.mv (v := .int _ _) rfl) rfl ?_
      refine WL.y (R.lssT rfl rfl (by decide)) rfl ?_
      refine WL.y (R.mv (v := .bool true) rfl) rfl ?_
      refine WL.skip rfl ?_
      refine WL.skip rfl ?_
      refine WL.skip rfl ?_
      refine WL.skip rfl ?_
      refine WL.skip rfl ?_
      refine WL.y (R.pkT (v := .bool true) rfl rfl) rfl ?_
      refine WL.nil ?_
      refine W.cond_t rfl ?_
      refine W.reg ?_
      refine WL.y (R.mv (v := .slice _ _ _) rfl) rfl ?_
      refine WL.y (R.load sca3 rfl (hB5).r rfl) rfl ?_
      refine WL.buildSliceP (parts := [(0, .tmp 67)]) (ps := [(0, .int _ _)]) el22_3 rfl rfl rfl (by decide) rfl rfl ?_
      intro b7 w7 hb7 hs7 hx7 hB7
      have hge7 := hX.size
      replace hX := hX.tr hx7
      replace hB1 := hx7.blk hB1
      replace hS := hS.ext hx7
      replace hD := hD.ext hx7
      replace hL := hL.ext hx7
      replace hU := hU.ext hx7
      replace hP := hP.ext hx7
      replace hB5 := hx7.blk hB5
      refine WL.appendS el22_3 encI rfl rfl hP (by first | omega | (simp; omega)) (Sli.one encI (i : Int) hB7 rfl) rfl (by omega) (by omega) rfl ?_
      intro a8 c8 w8 hu8 hsl8 hf8
      replace hX := hX.putU hu8 (fun k hk => by have := own2 hown hol k hk; omega)
      replace hB1 := hu8.blk (fun hk => by have := own2 hown hol _ hk; omega) hB1
      replace hS := hS.upd hu8 (fun k hk hk2 => by have := (own2 hown hol) k hk2; first | (have := (hSl) k hk; omega) | (have := (hSl) k hk.1; omega))
      replace hD := hD.upd hu8 (fun k hk hk2 => by have := (own2 hown hol) k hk2; first | (have := (hDl) k hk; omega) | (have := (hDl) k hk.1; omega))
      replace hL := hL.upd hu8 (fun hk => by have := own2 hown hol _ hk; omega)
      replace hU := hU.upd hu8 (fun hk => by have := own2 hown hol _ hk; omega)
      replace hB5 := hu8.blk (fun hk => by have := own2 hown hol _ hk; omega) hB5
      replace hB7 := hu8.blk (fun hk => by have := own2 hown hol _ hk; omega) hB7
      replace hP := hsl8; clear hsl8
      have hz8 := hu8.size
      replace hown := own_step hown hf8 (fun k hk => ⟨by omega, by omega⟩)
      refine WL.y (R.asg (v := .slice _ _ _) rfl) rfl ?_
      refine WL.nil ?_
      refine W.exit ?_
      refine W.region ?_
      refine WL.y (R.addI rfl rfl (by omega)) rfl ?_
      refine WL.y (R.mv (v := .int _ _) rfl) rfl ?_
      refine WL.nil ?_
      have hstep := (fpass_succ old ms (shares ms n, List.replicate n dip0, []) i).trans (fstep_no (.inl hn2))
      exact ⟨⟨i + 1, a8, c8⟩, (by simp only; omega), (by repeat (first | exact Same.rfl' _ _ | refine Same.set _ rfl ?_ | refine Same.over' _ rfl ?_ | refine Same.sets rfl ?_)), ⟨by simp only [hstep, List.length_append]; rfl, rfl, trivial⟩, rfl, by simp only; omega, hX, by omega, by omega, hB1, hS, hD, ⟨_, by simp only [hstep]; exact hL⟩, ⟨_, by simp only [hstep]; exact hU⟩, by simp only [hstep]; exact hP, hown⟩
    · skip
      replace hc9_0 := of_decide_eq_false hc9_0
      refine WL.nil ?_
      refine W.seq ?_
      refine W.cond_f rfl ?_
      refine W.exit ?_
      obtain rfl : i = n := by omega
      exact ⟨⟨ap, cp⟩, (by repeat (first | exact Same.rfl' _ _ | refine Same.set _ rfl ?_ | refine Same.over' _ rfl ?_ | refine Same.sets rfl ?_)), ⟨rfl, trivial⟩, rfl, hX, hbU, hgLw, hS, ⟨_, hL⟩, ⟨_, hU⟩, hP, hown⟩
  · skip
    rintro ⟨ap, cp⟩ j wl ⟨hX, hbU, hgLw, hS, ⟨csL, hL⟩, ⟨csU, hU⟩, hP, hown⟩
    simp only at hP hown
    have hXs := hX.size
    have hF := FInv.pass (old := old) (finv0 (ms := ms) (n := n) (by omega) hm (by omega)) n (Nat.le_refl n)
    have hFO := hF.lenO
    try dsimp only
    refine W.reg ?_
    refine WL.y (R.asg (v := .int _ _) rfl) rfl ?_
    refine WL.nil ?_
    refine W.seqX (ι := Unit) [(13, 14), (15, 16), (84, 112)] (fun _ => []) (fun _ w' => Ext w w' ∧ ∃ cs, SlO encDip 18 w' bU 0 n cs (fill old ms n)) ?_ ?_
    · skip
      refine W.reg ?_
      refine WL.y (R.mv (v := .slice _ _ _) rfl) rfl ?_
      refine WL.y (R.lenS Try.underlying22 rfl) rfl ?_
      refine WL.y (R.mv (v := .int _ _) rfl) rfl ?_
      refine WL.nil ?_
      refine W.block ?_
      refine W.loopS (ι := Nat × Nat) [(13, 14), (15, 16), (86, 112)] (fun q => [(13, i64 (q.2 : Nat)), (86, i64 (q.1 : Nat))]) (fun q => (fpass old ms (shares ms n, List.replicate n dip0, []) n).2.2.length - q.1) (fun q w' => q.1 ≤ (fpass old ms (shares ms n, List.replicate n dip0, []) n).2.2.length ∧ (∀ t, t < q.2 → (gpass ms (fpass old ms (shares ms n, List.replicate n dip0, []) n) q.1).1.getD t 0 = 0) ∧ Ext w w' ∧ bU < w'.heap.size ∧ gL < w'.heap.size ∧ Sli encMem 19 w' a c ms ∧ (∃ cs, SlO (fun n : Int => [i64 n]) 1 w' gL oL cL cs (gpass ms (fpass old ms (shares ms n, List.replicate n dip0, []) n) q.1).1) ∧ (∃ cs, SlO encDip 18 w' bU 0 n cs (gpass ms (fpass old ms (shares ms n, List.replicate n dip0, []) n) q.1).2) ∧ Slw (fun n : Int => [i64 n]) 1 w' ap cp (fpass old ms (shares ms n, List.replicate n dip0, []) n).2.2) (0, 0) ⟨rfl, rfl, trivial⟩ ⟨Nat.zero_le _, fun t ht => absurd ht (by omega), hX, hbU, hgLw, hS, ⟨_, hL⟩, ⟨_, hU⟩, hP⟩ ?_
      rintro ⟨q, t0⟩ j wl ⟨hq, hzero, hX, hbU, hgLw, hS, ⟨csL, hL⟩, ⟨csU, hU⟩, hP⟩
      simp only at hq hzero hL hU
      have hXs := hX.size
      have hG := ginv hF q hq
      have hGU := hG.lenD
      try dsimp only
      refine W.reg ?_
      refine WL.fork (R.lss rfl rfl) rfl (fun hc21_0 => ?_) (fun hc21_0 => ?_)
      · skip
        replace hc21_0 := of_decide_eq_true hc21_0
        refine WL.nil ?_
        refine W.seq ?_
        refine W.cond_t rfl ?_
        refine W.skip ?_
        refine W.seq ?_
        refine W.block ?_
        refine W.reg ?_
        obtain ⟨o, ho⟩ : ∃ o, (fpass old ms (shares ms n, List.replicate n dip0, []) n).2.2[q]? = some o := ⟨_, List.getElem?_eq_getElem (by omega)⟩
        obtain ⟨gP, oP, csP, rfl, hPP⟩ := hP.op (by omega)
        have hgP := hown gP ((owns_some _ _).2 rfl)
        have hob := hF.open_ o (List.mem_of_getElem? ho)
        obtain ⟨on, rfl⟩ : ∃ on : Nat, o = on := ⟨o.toNat, by omega⟩
        have hgs := gpass_succ (ms := ms) ho
        have hfl := find_lt (l := (gpass ms (fpass old ms (shares ms n, List.replicate n dip0, []) n) q).1) (by have := hG.sum; omega)
        have hfn := find_ne hfl
        have hlm := hG.lenL
        obtain ⟨x, hx, hxd⟩ := mem_dip (ms := ms) (k := (gpass ms (fpass old ms (shares ms n, List.replicate n dip0, []) n) q).1.findIdx (fun x => decide (x ≠ 0))) (by omega)
        refine WL.y (R.indexS Try.underlying22 siz3 rfl rfl rfl (by omega)) rfl ?_
        refine WL.y (R.load sca3 rfl (hPP.blk).r (hPP.cell encI ho (j := 0) (by decide))) rfl ?_
        refine WL.y (R.asg (v := .int _ _) rfl) rfl ?_
        refine WL.nil ?_
        refine W.seqX (ι := Unit) [(13, 14), (90, 97)] (fun _ => [(13, i64 (((gpass ms (fpass old ms (shares ms n, List.replicate n dip0, []) n) q).1.findIdx (fun x => decide (x ≠ 0)) : Nat) : Int))]) (fun _ w' => wl = w') ?_ ?_
        · skip
          refine W.block ?_
          refine W.loopS (ι := Nat) [(13, 14), (90, 97)] (fun t => [(13, i64 (t : Nat))]) (fun t => (gpass ms (fpass old ms (shares ms n, List.replicate n dip0, []) n) q).1.findIdx (fun x => decide (x ≠ 0)) - t) (fun t w' => wl = w' ∧ t ≤ (gpass ms (fpass old ms (shares ms n, List.replicate n dip0, []) n) q).1.findIdx (fun x => decide (x ≠ 0)) ∧ ∀ u, u < t → (gpass ms (fpass old ms (shares ms n, List.replicate n dip0, []) n) q).1.getD u 0 = 0) t0 ⟨rfl, trivial⟩ ⟨rfl, (by rcases Nat.lt_or_ge ((gpass ms (fpass old ms (shares ms n, List.replicate n dip0, []) n) q).1.findIdx (fun x => decide (x ≠ 0))) t0 with h | h; exact absurd (hzero _ h) hfn; exact h), hzero⟩ ?_
          rintro t j2 _ ⟨rfl, ht, hz⟩
          refine W.seq ?_
          refine W.reg ?_
          refine WL.y (R.mv (v := .slice _ _ _) rfl) rfl ?_
          refine WL.y (R.mv (v := .int _ _) rfl) rfl ?_
          refine WL.y (R.indexS Try.underlying22 siz3 rfl rfl rfl (by omega)) rfl ?_
          refine WL.y (R.load sca3 rfl (hL.blk).r (hL.cell encI (getD_get (i := t) (by omega)) (j := 0) (by decide))) rfl ?_
          refine WL.fork (R.eql rfl rfl) rfl (fun hc23_4 => ?_) (fun hc23_4 => ?_)
          · skip
            replace hc23_4 := eq_of_beq hc23_4
            have htk : t + 1 ≤ (gpass ms (fpass old ms (shares ms n, List.replicate n dip0, []) n) q).1.findIdx (fun x => decide (x ≠ 0)) := by rcases Nat.lt_or_ge t ((gpass ms (fpass old ms (shares ms n, List.replicate n dip0, []) n) q).1.findIdx (fun x => decide (x ≠ 0))) with h | h; exact h; (obtain rfl : t = (gpass ms (fpass old ms (shares ms n, List.replicate n dip0, []) n) q).1.findIdx (fun x => decide (x ≠ 0)) := by omega); exact absurd hc23_4 hfn
            refine WL.nil ?_
            refine W.cond_t rfl ?_
            refine W.skip ?_
            refine W.block ?_
            refine W.region ?_
            refine WL.y (R.mv (v := .int _ _) rfl) rfl ?_
            refine WL.y (R.addI rfl rfl (by omega)) rfl ?_
            refine WL.y (R.asg (v := .int _ _) rfl) rfl ?_
            refine WL.nil ?_
            exact ⟨t + 1, (by omega), (by repeat (first | exact Same.rfl' _ _ | refine Same.set _ rfl ?_ | refine Same.over' _ rfl ?_ | refine Same.sets rfl ?_)), ⟨rfl, trivial⟩, rfl, rfl, htk, fun u hu => by rcases Nat.lt_or_ge u t with h | h; exact hz u h; (obtain rfl : u = t := by omega); exact hc23_4⟩
          · skip
            replace hc23_4 := beq_F hc23_4
            skip
            refine WL.nil ?_
            refine W.cond_f rfl ?_
            refine W.exit ?_
            have htK := find_at hz (by omega) hc23_4
            exact ⟨(), (by repeat (first | exact Same.rfl' _ _ | refine Same.set _ rfl ?_ | refine Same.over' _ rfl ?_ | refine Same.sets rfl ?_)), ⟨by show _ = i64 ((((gpass ms (fpass old ms (shares ms n, List.replicate n dip0, []) n) q).1.findIdx (fun x => decide (x ≠ 0)) : Nat)) : Int); rw [htK]; rfl, trivial⟩, rfl, rfl⟩
        · skip
          rintro _ j2 _ rfl
          refine W.reg ?_
          obtain ⟨gM, oM, csM, rfl, hM⟩ := hS.op (by omega)
          have hgM := hSl gM ⟨(owns_some _ _).2 rfl, by have := hM.le; omega⟩
          have hkK : (gpass ms (fpass old ms (shares ms n, List.replicate n dip0, []) n) q).1[(gpass ms (fpass old ms (shares ms n, List.replicate n dip0, []) n) q).1.findIdx (fun x => decide (x ≠ 0))]? = some ((gpass ms (fpass old ms (shares ms n, List.replicate n dip0, []) n) q).1.getD ((gpass ms (fpass old ms (shares ms n, List.replicate n dip0, []) n) q).1.findIdx (fun x => decide (x ≠ 0))) 0) := getD_get hfl
          have hkb := bd_of (n := n) (K := 128) hG.pos (by have := hG.sum; have := hF.lenO; omega) ((gpass ms (fpass old ms (shares ms n, List.replicate n dip0, []) n) q).1.findIdx (fun x => decide (x ≠ 0)))
          refine WL.y (R.mv (v := .slice _ _ _) rfl) rfl ?_
          refine WL.y (R.mv (v := .int _ _) rfl) rfl ?_
          refine WL.y (R.mv (v := .slice _ _ _) rfl) rfl ?_
          refine WL.y (R.mv (v := .int _ _) rfl) rfl ?_
          refine WL.y (R.indexS Try.underlying52 siz57 rfl rfl rfl (by omega)) rfl ?_
          refine WL.y (R.fieldAddr fo57_0 rfl) rfl ?_
          refine WL.y (R.loadA agg54 rfl (hM.blk).r (hM.fld encM hx 0 18 (by decide)) rfl) rfl ?_
          refine WL.y (R.indexS Try.underlying81 siz54 rfl rfl rfl (by omega)) rfl ?_
          refine WL.store (v := .agg _) siz54 rfl rfl rfl rfl hU.blk (hU.bound (by first | omega | (simp; omega))) rfl rfl ?_
          intro w9 hu9 hz9 hn9
          replace hX := hX.put hu9 (by omega)
          replace hL := hL.updB hu9 (by omega)
          replace hPP := hPP.updB hu9 (by omega)
          replace hM := hM.updB hu9 (by omega)
          replace hU := hU.put encD (by first | omega | (simp; omega)) x.dip hn9; clear hn9
          refine WL.nil ?_
          refine W.region ?_
          refine WL.y (R.mv (v := .slice _ _ _) rfl) rfl ?_
          refine WL.y (R.mv (v := .int _ _) rfl) rfl ?_
          refine WL.y (R.indexS Try.underlying22 siz3 rfl rfl rfl (by omega)) rfl ?_
          refine WL.y (R.load sca3 rfl (hL.blk).r (hL.cell encI hkK (j := 0) (by decide))) rfl ?_
          refine WL.y (R.subI rfl rfl (by omega)) rfl ?_
          refine WL.y (R.indexS Try.underlying22 siz3 rfl rfl rfl (by omega)) rfl ?_
          refine WL.store1 (v := .int _ _) sca3 rfl rfl rfl hL.blk (by have := hL.bound (List.getElem?_eq_some_iff.1 hkK).1; omega) rfl ?_
          intro w10 hu10 hz10 hn10
          replace hX := hX.put hu10 (by omega)
          replace hU := hU.updB hu10 (by omega)
          replace hPP := hPP.updB hu10 (by omega)
          replace hM := hM.updB hu10 (by omega)
          replace hL := hL.set encI hkK (j := 0) (by decide) (y := (gpass ms (fpass old ms (shares ms n, List.replicate n dip0, []) n) q).1.getD ((gpass ms (fpass old ms (shares ms n, List.replicate n dip0, []) n) q).1.findIdx (fun x => decide (x ≠ 0))) 0 - 1) rfl hn10; clear hn10
          refine WL.nil ?_
          refine W.region ?_
          refine WL.y (R.addI rfl rfl (by omega)) rfl ?_
          refine WL.y (R.mv (v := .int _ _) rfl) rfl ?_
          refine WL.nil ?_
          exact ⟨⟨q + 1, (gpass ms (fpass old ms (shares ms n, List.replicate n dip0, []) n) q).1.findIdx (fun x => decide (x ≠ 0))⟩, (by simp only; omega), (by repeat (first | exact Same.rfl' _ _ | refine Same.set _ rfl ?_ | refine Same.over' _ rfl ?_ | refine Same.sets rfl ?_)), ⟨rfl, rfl, trivial⟩, rfl, by simp only; omega, by simp only [hgs, gstep]; intro t ht; rw [getD_set_ne (by omega)]; exact find_zero ht, hX, by omega, by omega, hM.cl, ⟨_, by simp only [hgs, gstep]; exact hL⟩, ⟨_, by simp only [hgs, gstep, hxd, Int.toNat_natCast]; exact hU⟩, hPP.cl⟩
      · skip
        replace hc21_0 := of_decide_eq_false hc21_0
        refine WL.nil ?_
        refine W.seq ?_
        refine W.cond_f rfl ?_
        refine W.exit ?_
        obtain rfl : q = (fpass old ms (shares ms n, List.replicate n dip0, []) n).2.2.length := by omega
        exact ⟨(), (by repeat (first | exact Same.rfl' _ _ | refine Same.set _ rfl ?_ | refine Same.over' _ rfl ?_ | refine Same.sets rfl ?_)), trivial, rfl, hX, _, (by rw [fill_eq (by omega)]; exact hU)⟩
    · skip
      rintro _ j wl ⟨hX, csU, hU⟩
      refine W.reg ?_
      refine WL.y (R.mv (v := .slice _ _ _) rfl) rfl ?_
      refine WL.y (R.asg (v := .slice _ _ _) rfl) rfl ?_
      refine WL.y (R.asg (v := .int _ _) rfl) rfl ?_
      refine WL.nil ?_
      refine W.ret ?_
      exact PR.r2 rfl (.tmp rfl) (.tmp rfl) ⟨⟨bU, 0, n, rfl, by omega, _, hU⟩, hX⟩

theorem Fill_o (old : List Dip) (ms : List Mem) (n : Nat) (ao a : Option Addr) (co c : Nat) (w : World) (hD : Sli encDip 18 w ao co old) (hS : Sli encMem 19 w a c ms) (h : 1 ≤ n ∧ n ≤ 64) (hm : memsOK ms = true) (hn2 : old.length = n) (h0 : 1 ≤ ms.length) : CallV Try.prog 118 #[.slice ao old.length co, .slice a ms.length c, i64 (n : Nat)] w fun v w' => (∃ g off c', v = .tuple #[.slice (some ⟨g, off, none⟩) n c', i64 0] ∧ w.heap.size ≤ g ∧ ∃ cs, SlO encDip 18 w' g off c' cs (fill old ms n)) ∧ Ext w w' := by
  have hX : Ext w w := Ext.rfl' w
  have hSl := hS.lt
  have hDl := hD.lt
  have hlen := memsOK_len hm
  refine Calls.of_W (N := 113) Try.func118 rfl rfl rfl ?_
  refine W.reg ?_
  refine WL.box (v := .slice _ _ _) rfl rfl rfl ?_
  intro b1 w1 hb1 hs1 hx1 hB1
  have hge1 := hX.size
  replace hX := hX.tr hx1
  replace hS := hS.ext hx1
  replace hD := hD.ext hx1
  refine WL.y (R.asg (v := .slice _ _ _) rfl) rfl ?_
  refine WL.y (R.asg (v := .int _ _) rfl) rfl ?_
  refine WL.nil ?_
  refine W.seq ?_
  refine W.reg ?_
  refine WL.y (R.mv (v := .int _ _) rfl) rfl ?_
  refine WL.y (R.lssF rfl rfl (by omega)) rfl ?_
  refine WL.y (R.mv (v := .bool false) rfl) rfl ?_
  refine WL.y (R.mv (v := .int _ _) rfl) rfl ?_
  refine WL.y (R.gtrF rfl rfl (by omega)) rfl ?_
  refine WL.y (R.pkF (v := .bool false) rfl rfl) rfl ?_
  refine WL.y (R.mv (v := .bool false) rfl) rfl ?_
  refine WL.y (R.mv (v := .slice _ _ _) rfl) rfl ?_
  refine WL.call Try.func109 rfl rfl ((Check_calls ms a c _ hS).val (y := i64 0) (by rw [hm]; rfl)) rfl rfl ?_
  rintro _ w2 ⟨rfl, hx2⟩
  have hz2 := hx2.size
  replace hX := hX.tr hx2
  replace hS := hS.ext hx2
  replace hD := hD.ext hx2
  replace hB1 := hx2.blk hB1
  refine WL.y (R.neqF rfl rfl rfl) rfl ?_
  refine WL.y (R.pkF (v := .bool false) rfl rfl) rfl ?_
  refine WL.y (R.mv (v := .bool false) rfl) rfl ?_
  refine WL.y (R.load sca81 rfl (hB1).r rfl) rfl ?_
  refine WL.y (R.lenS Try.underlying81 rfl) rfl ?_
  refine WL.y (R.gtrT rfl rfl (by omega)) rfl ?_
  refine WL.y (R.mv (v := .bool true) rfl) rfl ?_
  refine WL.y (R.load sca81 rfl (hB1).r rfl) rfl ?_
  refine WL.y (R.lenS Try.underlying81 rfl) rfl ?_
  refine WL.y (R.mv (v := .int _ _) rfl) rfl ?_
  refine WL.y (R.neqF rfl rfl (by omega)) rfl ?_
  refine WL.y (R.pkT (v := .bool false) rfl rfl) rfl ?_
  refine WL.y (R.pkF (v := .bool false) rfl rfl) rfl ?_
  refine WL.nil ?_
  refine W.cond_f rfl ?_
  refine W.skip ?_
  refine W.seq ?_
  refine W.reg ?_
  refine WL.y (R.mv (v := .slice _ _ _) rfl) rfl ?_
  refine WL.y (R.lenS Try.underlying52 rfl) rfl ?_
  refine WL.y (R.eqlF rfl rfl (by omega)) rfl ?_
  refine WL.nil ?_
  refine W.cond_f rfl ?_
  refine W.skip ?_
  refine W.reg ?_
  refine WL.y (R.mv (v := .slice _ _ _) rfl) rfl ?_
  refine WL.y (R.mv (v := .int _ _) rfl) rfl ?_
  refine WL.call Try.func164 rfl rfl (Shares_calls ms (n : Int) ⟨by omega, by omega⟩ hm (by omega) a c _ hS) rfl rfl ?_
  rintro _ w3 ⟨gL, oL, cL, rfl, hx3, hgL, csL, hL⟩
  have hz3 := hx3.size
  have hgLw := hL.blk.lt
  replace hX := hX.tr hx3
  replace hS := hS.ext hx3
  replace hD := hD.ext hx3
  replace hB1 := hx3.blk hB1
  refine WL.y (R.asg (v := .slice _ _ _) rfl) rfl ?_
  refine WL.nil ?_
  refine W.reg ?_
  refine WL.y (R.mv (v := .int _ _) rfl) rfl ?_
  refine WL.makeSlice el81_54 rfl rfl (by omega) (by omega) rfl ?_
  intro b4 w4 hb4 hs4 hx4 hB4
  have hge4 := hX.size
  replace hX := hX.tr hx4
  replace hS := hS.ext hx4
  replace hD := hD.ext hx4
  replace hB1 := hx4.blk hB1
  replace hL := hL.ext hx4
  replace hB4 := SlO.made encD dip0 rfl hB4
  obtain ⟨bU, rfl⟩ : ∃ b, b = b4 := ⟨_, rfl⟩
  have hU := hB4; clear hB4
  refine WL.y (R.asg (v := .slice _ _ _) rfl) rfl ?_
  refine WL.nil ?_
  refine W.reg ?_
  refine WL.y (R.asg (v := .slice _ _ _) rfl) rfl ?_
  refine WL.nil ?_
  refine W.seqX (ι := Option Addr × Nat) [(10, 13), (46, 84)] (fun q => [(10, .slice q.1 (fpass old ms (shares ms n, List.replicate n dip0, []) n).2.2.length q.2)]) (fun q w' => Ext w w' ∧ bU < w'.heap.size ∧ gL < w'.heap.size ∧ Sli encMem 19 w' a c ms ∧ (∃ cs, SlO (fun n : Int => [i64 n]) 1 w' gL oL cL cs (fpass old ms (shares ms n, List.replicate n dip0, []) n).1) ∧ (∃ cs, SlO encDip 18 w' bU 0 n cs (fpass old ms (shares ms n, List.replicate n dip0, []) n).2.1) ∧ Slw (fun n : Int => [i64 n]) 1 w' q.1 q.2 (fpass old ms (shares ms n, List.replicate n dip0, []) n).2.2 ∧ (∀ k, owns q.1 k → w.heap.size ≤ k ∧ k ≠ gL ∧ k ≠ bU ∧ k ≠ b1)) ?_ ?_
  · skip
    refine W.reg ?_
    refine WL.y (R.mv (v := .slice _ _ _) rfl) rfl ?_
    refine WL.y (R.lenS Try.underlying81 rfl) rfl ?_
    refine WL.y (R.mv (v := .int _ _) rfl) rfl ?_
    refine WL.nil ?_
    refine W.block ?_
    refine W.loopS (ι := Nat × Option Addr × Nat) [(10, 13), (48, 84)] (fun q => [(10, .slice q.2.1 (fpass old ms (shares ms n, List.replicate n dip0, []) q.1).2.2.length q.2.2), (48, i64 (q.1 : Nat))]) (fun q => n - q.1) (fun q w' => q.1 ≤ n ∧ Ext w w' ∧ bU < w'.heap.size ∧ gL < w'.heap.size ∧ Blk w' b1 [.slice ao old.length co] ∧ Sli encMem 19 w' a c ms ∧ Sli encDip 18 w' ao co old ∧ (∃ cs, SlO (fun n : Int => [i64 n]) 1 w' gL oL cL cs (fpass old ms (shares ms n, List.replicate n dip0, []) q.1).1) ∧ (∃ cs, SlO encDip 18 w' bU 0 n cs (fpass old ms (shares ms n, List.replicate n dip0, []) q.1).2.1) ∧ Slw (fun n : Int => [i64 n]) 1 w' q.2.1 q.2.2 (fpass old ms (shares ms n, List.replicate n dip0, []) q.1).2.2 ∧ (∀ k, owns q.2.1 k → w.heap.size ≤ k ∧ k ≠ gL ∧ k ≠ bU ∧ k ≠ b1)) (0, none, 0) ⟨rfl, rfl, trivial⟩ ⟨Nat.zero_le _, hX, by omega, by omega, hB1, hS, hD, ⟨_, hL⟩, ⟨_, hU⟩, Slw.nil _ _ _, own_nil⟩ ?_
    rintro ⟨i, ap, cp⟩ j wl ⟨hi, hX, hbU, hgLw, hB1, hS, hD, ⟨csL, hL⟩, ⟨csU, hU⟩, hP, hown⟩
    simp only at hi hL hU hP hown
    have hXs := hX.size
    have hol := hP.lt
    have hF := FInv.pass (old := old) (finv0 (ms := ms) (n := n) (by omega) hm (by omega)) i hi
    have hFO := hF.lenO
    have hFU := hF.lenD
    try dsimp only
    refine W.reg ?_
    refine WL.fork (R.lss rfl rfl) rfl (fun hc9_0 => ?_) (fun hc9_0 => ?_)
    · skip
      replace hc9_0 := of_decide_eq_true hc9_0
      refine WL.nil ?_
      refine W.seq ?_
      refine W.cond_t rfl ?_
      refine W.skip ?_
      refine W.seq ?_
      refine W.block ?_
      refine W.reg ?_
      refine WL.y (R.mv (v := .int _ _) rfl) rfl ?_
      refine WL.alloc zer3 rfl ?_
      intro b5 w5 hb5 hs5 hx5 hB5
      have hge5 := hX.size
      replace hX := hX.tr hx5
      replace hB1 := hx5.blk hB1
      replace hS := hS.ext hx5
      replace hD := hD.ext hx5
      replace hL := hL.ext hx5
      replace hU := hU.ext hx5
      replace hP := hP.ext hx5
      refine WL.store1 (v := .int _ _) sca3 rfl rfl rfl hB5 (Nat.le_of_ble_eq_true rfl) rfl ?_
      intro w6 hu6 hz6 hn6
      replace hX := hX.put hu6 (by omega)
      replace hB1 := hu6.blk (by omega) hB1
      replace hS := hS.updB hu6 (fun k hk => by first | (have := (hSl) k hk; omega) | (have := (hSl) k hk.1; omega))
      replace hD := hD.updB hu6 (fun k hk => by first | (have := (hDl) k hk; omega) | (have := (hDl) k hk.1; omega))
      replace hL := hL.updB hu6 (by omega)
      replace hU := hU.updB hu6 (by omega)
      replace hP := hP.updB hu6 (fun k hk => by first | (have := (own2 hown hol) k hk; omega) | (have := (own2 hown hol) k hk.1; omega))
      replace hB5 := hn6; clear hn6
      refine WL.nil ?_
      refine W.reg ?_
      refine WL.y (R.asg (v := .int _ _) rfl) rfl ?_
      refine WL.nil ?_
      refine W.seq ?_
      refine W.reg ?_
      refine WL.y (R.load sca81 rfl (hB1).r rfl) rfl ?_
      refine WL.y (R.lenS Try.underlying81 rfl) rfl ?_
      refine WL.y (R.gtrT rfl rfl (by omega)) rfl ?_
      refine WL.nil ?_
      refine W.cond_t rfl ?_
      refine W.region ?_
      refine WL.y (R.mv (v := .slice _ _ _) rfl) rfl ?_
      refine WL.y (R.makeFuncP (cap := [.tmp 3, .tmp 11]) (vs := [.pointer _, .pointer _]) rfl) rfl ?_
      refine WL.call (vs := [.slice a ms.length c, .func (.func 165) #[] #[.pointer (some ⟨b1, 0, none⟩), .pointer (some ⟨b5, 0, none⟩)]]) Try.func163 rfl rfl (IndexFuncM_calls 165 _ _ [.pointer (some ⟨b1, 0, none⟩), .pointer (some ⟨b5, 0, none⟩)] (fun x => decide (x.dip = old.getD i dip0)) Try.func165 rfl rfl ms (by omega) a c _ hS (fun x w' hx => FillP_calls x old i (by omega) b1 b5 ao co w' (hx.blk hB1) (hx.blk hB5) (hD.ext hx))) rfl rfl ?_
      rintro _ w7 ⟨rfl, hx7⟩
      have hz7 := hx7.size
      replace hX := hX.tr hx7
      replace hB1 := hx7.blk hB1
      replace hS := hS.ext hx7
      replace hD := hD.ext hx7
      replace hL := hL.ext hx7
      replace hU := hU.ext hx7
      replace hP := hP.ext hx7
      replace hB5 := hx7.blk hB5
      refine WL.y (R.asg (v := .int _ _) rfl) rfl ?_
      refine WL.nil ?_
      refine W.seq ?_
      refine W.reg ?_
      refine WL.y (R.mv (v := .int _ _) rfl) rfl ?_
      refine WL.fork (R.lss rfl rfl) rfl (fun hc14_1 => ?_) (fun hc14_1 => ?_)
      · skip
        replace hc14_1 := of_decide_eq_true hc14_1
        refine WL.y (R.mv (v := .bool true) rfl) rfl ?_
        refine WL.skip rfl ?_
        refine WL.skip rfl ?_
        refine WL.skip rfl ?_
        refine WL.skip rfl ?_
        refine WL.skip rfl ?_
        refine WL.y (R.pkT (v := .bool true) rfl rfl) rfl ?_
        refine WL.nil ?_
        refine W.cond_t rfl ?_
        refine W.reg ?_
        refine WL.y (R.mv (v := .slice _ _ _) rfl) rfl ?_
        refine WL.y (R.load sca3 rfl (hB5).r rfl) rfl ?_
        refine WL.buildSliceP (parts := [(0, .tmp 67)]) (ps := [(0, .int _ _)]) el22_3 rfl rfl rfl (by decide) rfl rfl ?_
        intro b8 w8 hb8 hs8 hx8 hB8
        have hge8 := hX.size
        replace hX := hX.tr hx8
        replace hB1 := hx8.blk hB1
        replace hS := hS.ext hx8
        replace hD := hD.ext hx8
        replace hL := hL.ext hx8
        replace hU := hU.ext hx8
        replace hP := hP.ext hx8
        replace hB5 := hx8.blk hB5
        refine WL.appendS el22_3 encI rfl rfl hP (by first | omega | (simp; omega)) (Sli.one encI (i : Int) hB8 rfl) rfl (by omega) (by omega) rfl ?_
        intro a9 c9 w9 hu9 hsl9 hf9
        replace hX := hX.putU hu9 (fun k hk => by have := own2 hown hol k hk; omega)
        replace hB1 := hu9.blk (fun hk => by have := own2 hown hol _ hk; omega) hB1
        replace hS := hS.upd hu9 (fun k hk hk2 => by have := (own2 hown hol) k hk2; first | (have := (hSl) k hk; omega) | (have := (hSl) k hk.1; omega))
        replace hD := hD.upd hu9 (fun k hk hk2 => by have := (own2 hown hol) k hk2; first | (have := (hDl) k hk; omega) | (have := (hDl) k hk.1; omega))
        replace hL := hL.upd hu9 (fun hk => by have := own2 hown hol _ hk; omega)
        replace hU := hU.upd hu9 (fun hk => by have := own2 hown hol _ hk; omega)
        replace hB5 := hu9.blk (fun hk => by have := own2 hown hol _ hk; omega) hB5
        replace hB8 := hu9.blk (fun hk => by have := own2 hown hol _ hk; omega) hB8
        replace hP := hsl9; clear hsl9
        have hz9 := hu9.size
        replace hown := own_step hown hf9 (fun k hk => ⟨by omega, by omega⟩)
        refine WL.y (R.asg (v := .slice _ _ _) rfl) rfl ?_
        refine WL.nil ?_
        refine W.exit ?_
        refine W.region ?_
        refine WL.y (R.addI rfl rfl (by omega)) rfl ?_
        refine WL.y (R.mv (v := .int _ _) rfl) rfl ?_
        refine WL.nil ?_
        have hstep := (fpass_succ old ms (shares ms n, List.replicate n dip0, []) i).trans (fstep_no (.inr hc14_1))
        exact ⟨⟨i + 1, a9, c9⟩, (by simp only; omega), (by repeat (first | exact Same.rfl' _ _ | refine Same.set _ rfl ?_ | refine Same.over' _ rfl ?_ | refine Same.sets rfl ?_)), ⟨by simp only [hstep, List.length_append]; rfl, rfl, trivial⟩, rfl, by simp only; omega, hX, by omega, by omega, hB1, hS, hD, ⟨_, by simp only [hstep]; exact hL⟩, ⟨_, by simp only [hstep]; exact hU⟩, by simp only [hstep]; exact hP, hown⟩
      · skip
        replace hc14_1 := of_decide_eq_false hc14_1
        refine WL.y (R.mv (v := .bool false) rfl) rfl ?_
        obtain ⟨k, hk⟩ : ∃ k : Nat, idx (fun x : Mem => decide (x.dip = old.getD i dip0)) ms = k := ⟨_, (Int.toNat_of_nonneg (by omega)).symm⟩
        have hkl := idx_lt hk
        have hkL : (fpass old ms (shares ms n, List.replicate n dip0, []) i).1[k]? = some ((fpass old ms (shares ms n, List.replicate n dip0, []) i).1.getD k 0) := getD_get (by have := hF.lenL; omega)
        have hkb := bd_of (n := n) (K := 128) hF.pos (by have := hF.sum; have := hF.lenO; omega) k
        refine WL.y (R.mv (v := .slice _ _ _) rfl) rfl ?_
        refine WL.y (R.mv (v := .int _ _) rfl) rfl ?_
        refine WL.y (R.indexS Try.underlying22 siz3 rfl rfl (congrArg (Value.int .i64) hk) (by have := hF.lenL; omega)) rfl ?_
        refine WL.y (R.load sca3 rfl (hL.blk).r (hL.cell encI hkL (j := 0) (by decide))) rfl ?_
        refine WL.fork (R.eql rfl rfl) rfl (fun hc14_7 => ?_) (fun hc14_7 => ?_)
        · skip
          replace hc14_7 := eq_of_beq hc14_7
          refine WL.y (R.pkF (v := .bool true) rfl rfl) rfl ?_
          refine WL.nil ?_
          refine W.cond_t rfl ?_
          refine W.reg ?_
          refine WL.y (R.mv (v := .slice _ _ _) rfl) rfl ?_
          refine WL.y (R.load sca3 rfl (hB5).r rfl) rfl ?_
          refine WL.buildSliceP (parts := [(0, .tmp 67)]) (ps := [(0, .int _ _)]) el22_3 rfl rfl rfl (by decide) rfl rfl ?_
          intro b10 w10 hb10 hs10 hx10 hB10
          have hge10 := hX.size
          replace hX := hX.tr hx10
          replace hB1 := hx10.blk hB1
          replace hS := hS.ext hx10
          replace hD := hD.ext hx10
          replace hL := hL.ext hx10
          replace hU := hU.ext hx10
          replace hP := hP.ext hx10
          replace hB5 := hx10.blk hB5
          refine WL.appendS el22_3 encI rfl rfl hP (by first | omega | (simp; omega)) (Sli.one encI (i : Int) hB10 rfl) rfl (by omega) (by omega) rfl ?_
          intro a11 c11 w11 hu11 hsl11 hf11
          replace hX := hX.putU hu11 (fun k hk => by have := own2 hown hol k hk; omega)
          replace hB1 := hu11.blk (fun hk => by have := own2 hown hol _ hk; omega) hB1
          replace hS := hS.upd hu11 (fun k hk hk2 => by have := (own2 hown hol) k hk2; first | (have := (hSl) k hk; omega) | (have := (hSl) k hk.1; omega))
          replace hD := hD.upd hu11 (fun k hk hk2 => by have := (own2 hown hol) k hk2; first | (have := (hDl) k hk; omega) | (have := (hDl) k hk.1; omega))
          replace hL := hL.upd hu11 (fun hk => by have := own2 hown hol _ hk; omega)
          replace hU := hU.upd hu11 (fun hk => by have := own2 hown hol _ hk; omega)
          replace hB5 := hu11.blk (fun hk => by have := own2 hown hol _ hk; omega) hB5
          replace hB10 := hu11.blk (fun hk => by have := own2 hown hol _ hk; omega) hB10
          replace hP := hsl11; clear hsl11
          have hz11 := hu11.size
          replace hown := own_step hown hf11 (fun k hk => ⟨by omega, by omega⟩)
          refine WL.y (R.asg (v := .slice _ _ _) rfl) rfl ?_
          refine WL.nil ?_
          refine W.exit ?_
          refine W.region ?_
          refine WL.y (R.addI rfl rfl (by omega)) rfl ?_
          refine WL.y (R.mv (v := .int _ _) rfl) rfl ?_
          refine WL.nil ?_
          have hstep := (fpass_succ old ms (shares ms n, List.replicate n dip0, []) i).trans (fstep_full (by omega) hk hc14_7)
          exact ⟨⟨i + 1, a11, c11⟩, (by simp only; omega), (by repeat (first | exact Same.rfl' _ _ | refine Same.set _ rfl ?_ | refine Same.over' _ rfl ?_ | refine Same.sets rfl ?_)), ⟨by simp only [hstep, List.length_append]; rfl, rfl, trivial⟩, rfl, by simp only; omega, hX, by omega, by omega, hB1, hS, hD, ⟨_, by simp only [hstep]; exact hL⟩, ⟨_, by simp only [hstep]; exact hU⟩, by simp only [hstep]; exact hP, hown⟩
        · skip
          replace hc14_7 := beq_F hc14_7
          refine WL.y (R.pkF (v := .bool false) rfl rfl) rfl ?_
          refine WL.nil ?_
          refine W.cond_f rfl ?_
          refine W.skip ?_
          refine W.seq ?_
          obtain ⟨gD, oD, csD, rfl, hDD⟩ := hD.op (by omega)
          have hgD := hDl gD ⟨(owns_some _ _).2 rfl, by have := hDD.le; omega⟩
          have hy : old[i]? = some (old.getD i dip0) := by rw [List.getD_eq_getElem?_getD, List.getElem?_eq_getElem (by omega)]; rfl
          refine W.draw (fun j => [7].contains j) (fun wI => Ext w7 wI) rfl ?_
          have hI12 := Ext.dr w7
          refine WA.batch [0, 1, 2, 3, 4, 5, 6] 1 (by kernel_rfl) hI12 ?_
          refine QL.y (fun wq hq => (R.mv (v := .slice _ _ _) rfl)) rfl ?_
          refine QL.y (fun wq hq => (R.load sca3 rfl (hq.blkR (hB5).r) rfl)) rfl ?_
          refine QL.y (fun wq hq => (R.load sca81 rfl (hq.blkR (hB1).r) rfl)) rfl ?_
          refine QL.y (fun wq hq => (R.load sca3 rfl (hq.blkR (hB5).r) rfl)) rfl ?_
          refine QL.y (fun wq hq => (R.indexS Try.underlying81 siz54 rfl rfl (i := i) rfl (by omega))) rfl ?_
          refine QL.y (fun wq hq => (R.loadA agg54 rfl (hq.blkR (hDD.blk).r) (hDD.at encD hy) rfl)) rfl ?_
          refine QL.y (fun wq hq => (R.indexS Try.underlying81 siz54 rfl rfl (i := i) rfl (by omega))) rfl ?_
          refine QL.nil ?_
          have hD12 := Ext.dr w7
          have hD12z := hD12.size
          replace hX := hX.tr hD12
          replace hB1 := hD12.blk hB1
          replace hS := hS.ext hD12
          replace hL := hL.ext hD12
          replace hU := hU.ext hD12
          replace hP := hP.ext hD12
          replace hB5 := hD12.blk hB5
          replace hDD := hDD.ext hD12
          refine WA.chain [7] 0 (by kernel_rfl) ?_
          refine WL.store (v := .agg _) siz54 rfl rfl rfl rfl hU.blk (hU.bound (by first | omega | (simp; omega))) rfl rfl ?_
          intro w13 hu13 hz13 hn13
          replace hX := hX.put hu13 (by omega)
          replace hB1 := hu13.blk (by omega) hB1
          replace hS := hS.updB hu13 (fun k hk => by first | (have := (hSl) k hk; omega) | (have := (hSl) k hk.1; omega))
          replace hL := hL.updB hu13 (by omega)
          replace hP := hP.updB hu13 (fun k hk => by first | (have := (own2 hown hol) k hk; omega) | (have := (own2 hown hol) k hk.1; omega))
          replace hB5 := hu13.blk (by omega) hB5
          replace hDD := hDD.updB hu13 (by omega)
          replace hU := hU.put encD (by first | omega | (simp; omega)) (old.getD i dip0) hn13; clear hn13
          refine WL.nil ?_
          refine W.region ?_
          refine WL.y (R.mv (v := .slice _ _ _) rfl) rfl ?_
          refine WL.y (R.mv (v := .int _ _) rfl) rfl ?_
          refine WL.y (R.indexS Try.underlying22 siz3 rfl rfl (congrArg (Value.int .i64) hk) (by have := hF.lenL; omega)) rfl ?_
          refine WL.y (R.load sca3 rfl (hL.blk).r (hL.cell encI hkL (j := 0) (by decide))) rfl ?_
          refine WL.y (R.subI rfl rfl (by omega)) rfl ?_
          refine WL.y (R.indexS Try.underlying22 siz3 rfl rfl (congrArg (Value.int .i64) hk) (by have := hF.lenL; omega)) rfl ?_
          refine WL.store1 (v := .int _ _) sca3 rfl rfl rfl hL.blk (by have := hL.bound (List.getElem?_eq_some_iff.1 hkL).1; omega) rfl ?_
          intro w14 hu14 hz14 hn14
          replace hX := hX.put hu14 (by omega)
          replace hB1 := hu14.blk (by omega) hB1
          replace hS := hS.updB hu14 (fun k hk => by first | (have := (hSl) k hk; omega) | (have := (hSl) k hk.1; omega))
          replace hU := hU.updB hu14 (by omega)
          replace hP := hP.updB hu14 (fun k hk => by first | (have := (own2 hown hol) k hk; omega) | (have := (own2 hown hol) k hk.1; omega))
          replace hB5 := hu14.blk (by omega) hB5
          replace hDD := hDD.updB hu14 (by omega)
          replace hL := hL.set encI hkL (j := 0) (by decide) (y := (fpass old ms (shares ms n, List.replicate n dip0, []) i).1.getD k 0 - 1) rfl hn14; clear hn14
          refine WL.nil ?_
          refine W.region ?_
          refine WL.y (R.addI rfl rfl (by omega)) rfl ?_
          refine WL.y (R.mv (v := .int _ _) rfl) rfl ?_
          refine WL.nil ?_
          have hstep := (fpass_succ old ms (shares ms n, List.replicate n dip0, []) i).trans (fstep_keep (by omega) hk hc14_7)
          exact ⟨⟨i + 1, ap, cp⟩, (by simp only; omega), (by repeat (first | exact Same.rfl' _ _ | refine Same.set _ rfl ?_ | refine Same.over' _ rfl ?_ | refine Same.sets rfl ?_)), ⟨by simp only [hstep]; rfl, rfl, trivial⟩, rfl, by simp only; omega, hX, by omega, by omega, hB1, hS, hDD.cl, ⟨_, by simp only [hstep]; exact hL⟩, ⟨_, by simp only [hstep]; exact hU⟩, by simp only [hstep]; exact hP, hown⟩
    · skip
      replace hc9_0 := of_decide_eq_false hc9_0
      refine WL.nil ?_
      refine W.seq ?_
      refine W.cond_f rfl ?_
      refine W.exit ?_
      obtain rfl : i = n := by omega
      exact ⟨⟨ap, cp⟩, (by repeat (first | exact Same.rfl' _ _ | refine Same.set _ rfl ?_ | refine Same.over' _ rfl ?_ | refine Same.sets rfl ?_)), ⟨rfl, trivial⟩, rfl, hX, hbU, hgLw, hS, ⟨_, hL⟩, ⟨_, hU⟩, hP, hown⟩
  · skip
    rintro ⟨ap, cp⟩ j wl ⟨hX, hbU, hgLw, hS, ⟨csL, hL⟩, ⟨csU, hU⟩, hP, hown⟩
    simp only at hP hown
    have hXs := hX.size
    have hF := FInv.pass (old := old) (finv0 (ms := ms) (n := n) (by omega) hm (by omega)) n (Nat.le_refl n)
    have hFO := hF.lenO
    try dsimp only
    refine W.reg ?_
    refine WL.y (R.asg (v := .int _ _) rfl) rfl ?_
    refine WL.nil ?_
    refine W.seqX (ι := Unit) [(13, 14), (15, 16), (84, 112)] (fun _ => []) (fun _ w' => Ext w w' ∧ ∃ cs, SlO encDip 18 w' bU 0 n cs (fill old ms n)) ?_ ?_
    · skip
      refine W.reg ?_
      refine WL.y (R.mv (v := .slice _ _ _) rfl) rfl ?_
      refine WL.y (R.lenS Try.underlying22 rfl) rfl ?_
      refine WL.y (R.mv (v := .int _ _) rfl) rfl ?_
      refine WL.nil ?_
      refine W.block ?_
      refine W.loopS (ι := Nat × Nat) [(13, 14), (15, 16), (86, 112)] (fun q => [(13, i64 (q.2 : Nat)), (86, i64 (q.1 : Nat))]) (fun q => (fpass old ms (shares ms n, List.replicate n dip0, []) n).2.2.length - q.1) (fun q w' => q.1 ≤ (fpass old ms (shares ms n, List.replicate n dip0, []) n).2.2.length ∧ (∀ t, t < q.2 → (gpass ms (fpass old ms (shares ms n, List.replicate n dip0, []) n) q.1).1.getD t 0 = 0) ∧ Ext w w' ∧ bU < w'.heap.size ∧ gL < w'.heap.size ∧ Sli encMem 19 w' a c ms ∧ (∃ cs, SlO (fun n : Int => [i64 n]) 1 w' gL oL cL cs (gpass ms (fpass old ms (shares ms n, List.replicate n dip0, []) n) q.1).1) ∧ (∃ cs, SlO encDip 18 w' bU 0 n cs (gpass ms (fpass old ms (shares ms n, List.replicate n dip0, []) n) q.1).2) ∧ Slw (fun n : Int => [i64 n]) 1 w' ap cp (fpass old ms (shares ms n, List.replicate n dip0, []) n).2.2) (0, 0) ⟨rfl, rfl, trivial⟩ ⟨Nat.zero_le _, fun t ht => absurd ht (by omega), hX, hbU, hgLw, hS, ⟨_, hL⟩, ⟨_, hU⟩, hP⟩ ?_
      rintro ⟨q, t0⟩ j wl ⟨hq, hzero, hX, hbU, hgLw, hS, ⟨csL, hL⟩, ⟨csU, hU⟩, hP⟩
      simp only at hq hzero hL hU
      have hXs := hX.size
      have hG := ginv hF q hq
      have hGU := hG.lenD
      try dsimp only
      refine W.reg ?_
      refine WL.fork (R.lss rfl rfl) rfl (fun hc21_0 => ?_) (fun hc21_0 => ?_)
      · skip
        replace hc21_0 := of_decide_eq_true hc21_0
        refine WL.nil ?_
        refine W.seq ?_
        refine W.cond_t rfl ?_
        refine W.skip ?_
        refine W.seq ?_
        refine W.block ?_
        refine W.reg ?_
        obtain ⟨o, ho⟩ : ∃ o, (fpass old ms (shares ms n, List.replicate n dip0, []) n).2.2[q]? = some o := ⟨_, List.getElem?_eq_getElem (by omega)⟩
        obtain ⟨gP, oP, csP, rfl, hPP⟩ := hP.op (by omega)
        have hgP := hown gP ((owns_some _ _).2 rfl)
        have hob := hF.open_ o (List.mem_of_getElem? ho)
        obtain ⟨on, rfl⟩ : ∃ on : Nat, o = on := ⟨o.toNat, by omega⟩
        have hgs := gpass_succ (ms := ms) ho
        have hfl := find_lt (l := (gpass ms (fpass old ms (shares ms n, List.replicate n dip0, []) n) q).1) (by have := hG.sum; omega)
        have hfn := find_ne hfl
        have hlm := hG.lenL
        obtain ⟨x, hx, hxd⟩ := mem_dip (ms := ms) (k := (gpass ms (fpass old ms (shares ms n, List.replicate n dip0, []) n) q).1.findIdx (fun x => decide (x ≠ 0))) (by omega)
        refine WL.y (R.indexS Try.underlying22 siz3 rfl rfl rfl (by omega)) rfl ?_
        refine WL.y (R.load sca3 rfl (hPP.blk).r (hPP.cell encI ho (j := 0) (by decide))) rfl ?_
        refine WL.y (R.asg (v := .int _ _) rfl) rfl ?_
        refine WL.nil ?_
        refine W.seqX (ι := Unit) [(13, 14), (90, 97)] (fun _ => [(13, i64 (((gpass ms (fpass old ms (shares ms n, List.replicate n dip0, []) n) q).1.findIdx (fun x => decide (x ≠ 0)) : Nat) : Int))]) (fun _ w' => wl = w') ?_ ?_
        · skip
          refine W.block ?_
          refine W.loopS (ι := Nat) [(13, 14), (90, 97)] (fun t => [(13, i64 (t : Nat))]) (fun t => (gpass ms (fpass old ms (shares ms n, List.replicate n dip0, []) n) q).1.findIdx (fun x => decide (x ≠ 0)) - t) (fun t w' => wl = w' ∧ t ≤ (gpass ms (fpass old ms (shares ms n, List.replicate n dip0, []) n) q).1.findIdx (fun x => decide (x ≠ 0)) ∧ ∀ u, u < t → (gpass ms (fpass old ms (shares ms n, List.replicate n dip0, []) n) q).1.getD u 0 = 0) t0 ⟨rfl, trivial⟩ ⟨rfl, (by rcases Nat.lt_or_ge ((gpass ms (fpass old ms (shares ms n, List.replicate n dip0, []) n) q).1.findIdx (fun x => decide (x ≠ 0))) t0 with h | h; exact absurd (hzero _ h) hfn; exact h), hzero⟩ ?_
          rintro t j2 _ ⟨rfl, ht, hz⟩
          refine W.seq ?_
          refine W.reg ?_
          refine WL.y (R.mv (v := .slice _ _ _) rfl) rfl ?_
          refine WL.y (R.mv (v := .int _ _) rfl) rfl ?_
          refine WL.y (R.indexS Try.underlying22 siz3 rfl rfl rfl (by omega)) rfl ?_
          refine WL.y (R.load sca3 rfl (hL.blk).r (hL.cell encI (getD_get (i := t) (by omega)) (j := 0) (by decide))) rfl ?_
          refine WL.fork (R.eql rfl rfl) rfl (fun hc23_4 => ?_) (fun hc23_4 => ?_)
          · skip
            replace hc23_4 := eq_of_beq hc23_4
            have htk : t + 1 ≤ (gpass ms (fpass old ms (shares ms n, List.replicate n dip0, []) n) q).1.findIdx (fun x => decide (x ≠ 0)) := by rcases Nat.lt_or_ge t ((gpass ms (fpass old ms (shares ms n, List.replicate n dip0, []) n) q).1.findIdx (fun x => decide (x ≠ 0))) with h | h; exact h; (obtain rfl : t = (gpass ms (fpass old ms (shares ms n, List.replicate n dip0, []) n) q).1.findIdx (fun x => decide (x ≠ 0)) := by omega); exact absurd hc23_4 hfn
            refine WL.nil ?_
            refine W.cond_t rfl ?_
            refine W.skip ?_
            refine W.block ?_
            refine W.region ?_
            refine WL.y (R.mv (v := .int _ _) rfl) rfl ?_
            refine WL.y (R.addI rfl rfl (by omega)) rfl ?_
            refine WL.y (R.asg (v := .int _ _) rfl) rfl ?_
            refine WL.nil ?_
            exact ⟨t + 1, (by omega), (by repeat (first | exact Same.rfl' _ _ | refine Same.set _ rfl ?_ | refine Same.over' _ rfl ?_ | refine Same.sets rfl ?_)), ⟨rfl, trivial⟩, rfl, rfl, htk, fun u hu => by rcases Nat.lt_or_ge u t with h | h; exact hz u h; (obtain rfl : u = t := by omega); exact hc23_4⟩
          · skip
            replace hc23_4 := beq_F hc23_4
            skip
            refine WL.nil ?_
            refine W.cond_f rfl ?_
            refine W.exit ?_
            have htK := find_at hz (by omega) hc23_4
            exact ⟨(), (by repeat (first | exact Same.rfl' _ _ | refine Same.set _ rfl ?_ | refine Same.over' _ rfl ?_ | refine Same.sets rfl ?_)), ⟨by show _ = i64 ((((gpass ms (fpass old ms (shares ms n, List.replicate n dip0, []) n) q).1.findIdx (fun x => decide (x ≠ 0)) : Nat)) : Int); rw [htK]; rfl, trivial⟩, rfl, rfl⟩
        · skip
          rintro _ j2 _ rfl
          refine W.reg ?_
          obtain ⟨gM, oM, csM, rfl, hM⟩ := hS.op (by omega)
          have hgM := hSl gM ⟨(owns_some _ _).2 rfl, by have := hM.le; omega⟩
          have hkK : (gpass ms (fpass old ms (shares ms n, List.replicate n dip0, []) n) q).1[(gpass ms (fpass old ms (shares ms n, List.replicate n dip0, []) n) q).1.findIdx (fun x => decide (x ≠ 0))]? = some ((gpass ms (fpass old ms (shares ms n, List.replicate n dip0, []) n) q).1.getD ((gpass ms (fpass old ms (shares ms n, List.replicate n dip0, []) n) q).1.findIdx (fun x => decide (x ≠ 0))) 0) := getD_get hfl
          have hkb := bd_of (n := n) (K := 128) hG.pos (by have := hG.sum; have := hF.lenO; omega) ((gpass ms (fpass old ms (shares ms n, List.replicate n dip0, []) n) q).1.findIdx (fun x => decide (x ≠ 0)))
          refine WL.y (R.mv (v := .slice _ _ _) rfl) rfl ?_
          refine WL.y (R.mv (v := .int _ _) rfl) rfl ?_
          refine WL.y (R.mv (v := .slice _ _ _) rfl) rfl ?_
          refine WL.y (R.mv (v := .int _ _) rfl) rfl ?_
          refine WL.y (R.indexS Try.underlying52 siz57 rfl rfl rfl (by omega)) rfl ?_
          refine WL.y (R.fieldAddr fo57_0 rfl) rfl ?_
          refine WL.y (R.loadA agg54 rfl (hM.blk).r (hM.fld encM hx 0 18 (by decide)) rfl) rfl ?_
          refine WL.y (R.indexS Try.underlying81 siz54 rfl rfl rfl (by omega)) rfl ?_
          refine WL.store (v := .agg _) siz54 rfl rfl rfl rfl hU.blk (hU.bound (by first | omega | (simp; omega))) rfl rfl ?_
          intro w15 hu15 hz15 hn15
          replace hX := hX.put hu15 (by omega)
          replace hL := hL.updB hu15 (by omega)
          replace hPP := hPP.updB hu15 (by omega)
          replace hM := hM.updB hu15 (by omega)
          replace hU := hU.put encD (by first | omega | (simp; omega)) x.dip hn15; clear hn15
          refine WL.nil ?_
          refine W.region ?_
          refine WL.y (R.mv (v := .slice _ _ _) rfl) rfl ?_
          refine WL.y (R.mv (v := .int _ _) rfl) rfl ?_
          refine WL.y (R.indexS Try.underlying22 siz3 rfl rfl rfl (by omega)) rfl ?_
          refine WL.y (R.load sca3 rfl (hL.blk).r (hL.cell encI hkK (j := 0) (by decide))) rfl ?_
          refine WL.y (R.subI rfl rfl (by omega)) rfl ?_
          refine WL.y (R.indexS Try.underlying22 siz3 rfl rfl rfl (by omega)) rfl ?_
          refine WL.store1 (v := .int _ _) sca3 rfl rfl rfl hL.blk (by have := hL.bound (List.getElem?_eq_some_iff.1 hkK).1; omega) rfl ?_
          intro w16 hu16 hz16 hn16
          replace hX := hX.put hu16 (by omega)
          replace hU := hU.updB hu16 (by omega)
          replace hPP := hPP.updB hu16 (by omega)
          replace hM := hM.updB hu16 (by omega)
          replace hL := hL.set encI hkK (j := 0) (by decide) (y := (gpass ms (fpass old ms (shares ms n, List.replicate n dip0, []) n) q).1.getD ((gpass ms (fpass old ms (shares ms n, List.replicate n dip0, []) n) q).1.findIdx (fun x => decide (x ≠ 0))) 0 - 1) rfl hn16; clear hn16
          refine WL.nil ?_
          refine W.region ?_
          refine WL.y (R.addI rfl rfl (by omega)) rfl ?_
          refine WL.y (R.mv (v := .int _ _) rfl) rfl ?_
          refine WL.nil ?_
          exact ⟨⟨q + 1, (gpass ms (fpass old ms (shares ms n, List.replicate n dip0, []) n) q).1.findIdx (fun x => decide (x ≠ 0))⟩, (by simp only; omega), (by repeat (first | exact Same.rfl' _ _ | refine Same.set _ rfl ?_ | refine Same.over' _ rfl ?_ | refine Same.sets rfl ?_)), ⟨rfl, rfl, trivial⟩, rfl, by simp only; omega, by simp only [hgs, gstep]; intro t ht; rw [getD_set_ne (by omega)]; exact find_zero ht, hX, by omega, by omega, hM.cl, ⟨_, by simp only [hgs, gstep]; exact hL⟩, ⟨_, by simp only [hgs, gstep, hxd, Int.toNat_natCast]; exact hU⟩, hPP.cl⟩
      · skip
        replace hc21_0 := of_decide_eq_false hc21_0
        refine WL.nil ?_
        refine W.seq ?_
        refine W.cond_f rfl ?_
        refine W.exit ?_
        obtain rfl : q = (fpass old ms (shares ms n, List.replicate n dip0, []) n).2.2.length := by omega
        exact ⟨(), (by repeat (first | exact Same.rfl' _ _ | refine Same.set _ rfl ?_ | refine Same.over' _ rfl ?_ | refine Same.sets rfl ?_)), trivial, rfl, hX, _, (by rw [fill_eq (by omega)]; exact hU)⟩
    · skip
      rintro _ j wl ⟨hX, csU, hU⟩
      refine W.reg ?_
      refine WL.y (R.mv (v := .slice _ _ _) rfl) rfl ?_
      refine WL.y (R.asg (v := .slice _ _ _) rfl) rfl ?_
      refine WL.y (R.asg (v := .int _ _) rfl) rfl ?_
      refine WL.nil ?_
      refine W.ret ?_
      exact PR.r2 rfl (.tmp rfl) (.tmp rfl) ⟨⟨bU, 0, n, rfl, by omega, _, hU⟩, hX⟩
end Go.Proofs.Ytkjecokkdbapkaa
