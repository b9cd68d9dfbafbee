import Derived.Test.YtkjecokkdbapkaaZzPools1
import Derived.Test.YtkjecokkdbapkaaProg
namespace Go.Proofs.Ytkjecokkdbapkaa
set_option linter.all false
open Go Go.Eng Go.RowKit
set_option maxRecDepth 20000
set_option maxHeartbeats 2000000
set_option linter.unusedVariables false
set_option linter.unusedSimpArgs false
attribute [local irreducible] WL W QL WA SP

def zc203 : List Value := [.int .i64 0, .int .i64 0, .int .i64 0, .int .i64 0, .int .i64 0, .int .i64 0, .int .i64 0, .int .i64 0, .int .i64 0, .int .i64 0, .int .i64 0, .int .i64 0, .bool false, .bool false, .int .u8 0, .int .u8 0, .int .u8 0, .int .u8 0, .int .u8 0, .int .u8 0, .int .u8 0, .int .u8 0, .int .u8 0, .int .u8 0, .int .u8 0, .int .u8 0, .int .u8 0, .int .u8 0, .int .u8 0, .int .u8 0, .bool false, .int .u8 0, .int .u8 0, .int .u8 0, .int .u8 0, .int .u8 0, .int .u8 0, .int .u8 0, .int .u8 0, .int .u8 0, .int .u8 0, .int .u8 0, .int .u8 0, .int .u8 0, .int .u8 0, .int .u8 0, .int .u8 0, .int .u32 0, .slice none 0 0, .int .i64 0, .slice none 0 0, .slice none 0 0]
def zc205 : List Value := [.slice none 0 0, .int .i64 0, .bool false]
def pl203 : Nat → Option (Nat × Nat) := fun i => (#[(0, 48), (48, 1), (49, 1), (50, 1), (51, 1)] : Array (Nat × Nat))[i]?
theorem bld203 : Bld Try.prog 203 pl203 zc203 := ⟨_, fun parts w => by
  simp only [pl203, Instr.build, Sem.run_bind, Try.zeroValue203, Try.runUnderlying203, Result.andThen_ok, List.mapM_toArray, List.mapM_cons, List.mapM_nil, Try.sizeOf3, Try.sizeOf33, Try.sizeOf52, Try.sizeOf81, Try.sizeOf200, Sem.run_pure, Sem.run_map]
  rfl⟩
theorem el200_205 : Elem Try.prog 200 205 3 40 zc205 := ⟨Try.underlying200, ⟨Try.t205, .agg _, rfl, rfl, rfl, rfl, rfl⟩, rfl, rfl⟩
theorem sca61 : Sca Try.prog 61 := ⟨Try.isAgg61, Try.sizeOf61⟩

theorem fill_length {old : List Dip} {ms : List Mem} {n : Nat} (hn : n ≤ 64) (hm : memsOK ms = true) (h0 : 1 ≤ ms.length) : (fill old ms n).length = n := by
  rw [fill_eq (by omega)]
  exact (ginv (FInv.pass (old := old) (finv0 (ms := ms) (n := n) (by omega) hm (by omega)) n (Nat.le_refl n)) _ (Nat.le_refl _)).lenD
theorem fill_le {old : List Dip} {ms : List Mem} {n : Nat} (hn : n ≤ 64) (hm : memsOK ms = true) : (fill old ms n).length ≤ 64 := by
  by_cases h0 : ms.length = 0
  · simp [fill, h0]
  · rw [fill_length hn hm (by omega)]; exact hn
theorem Fill_calls (old : List Dip) (ms : List Mem) (n : Nat) (ao a : Option Addr) (co c : Nat) (w : World) (hD : Sli encDip 18 w ao co old) (hS : Sli encMem 19 w a c ms) (h : 1 ≤ n ∧ n ≤ 64) (hm : memsOK ms = true) (h2 : old.length = 0 ∨ old.length = n) :
    CallV Try.prog 118 #[.slice ao old.length co, .slice a ms.length c, i64 (n : Nat)] w fun v w' => (∃ a' c', v = .tuple #[.slice a' (fill old ms n).length c', i64 0] ∧ Sli encDip 18 w' a' c' (fill old ms n) ∧ ∀ k, owns a' k → w.heap.size ≤ k) ∧ Ext w w' := by
  by_cases h0 : ms.length = 0
  · refine (Fill_none old ms n ao a co c w hD hS h hm h2 h0).mono ?_
    rintro v w' ⟨rfl, hX⟩
    have e : fill old ms n = [] := by simp [fill, h0]
    exact ⟨⟨none, 0, by rw [e]; rfl, by rw [e]; exact Sli.nil _ _ _, own_nil⟩, hX⟩
  · have e := fill_length (old := old) h.2 hm (show 1 ≤ ms.length by omega)
    rcases h2 with h2 | h2
    · refine (Fill_e old ms n ao a co c w hD hS h hm h2 (by omega)).mono ?_
      rintro v w' ⟨⟨g, off, c', rfl, hg, cs, hO⟩, hX⟩
      exact ⟨⟨_, _, by rw [e], hO.cl.ro, fun k hk => by rw [owns_some] at hk; simp only at hk; omega⟩, hX⟩
    · refine (Fill_o old ms n ao a co c w hD hS h hm h2 (by omega)).mono ?_
      rintro v w' ⟨⟨g, off, c', rfl, hg, cs, hO⟩, hX⟩
      exact ⟨⟨_, _, by rw [e], hO.cl.ro, fun k hk => by rw [owns_some] at hk; simp only at hk; omega⟩, hX⟩
theorem Fill_err (old : List Dip) (ms : List Mem) (n : Nat) (ao a : Option Addr) (co c : Nat) (w : World) (hD : Sli encDip 18 w ao co old) (hS : Sli encMem 19 w a c ms) (h : 1 ≤ n ∧ n ≤ 64) (hm : memsOK ms = false) :
    CallV Try.prog 118 #[.slice ao old.length co, .slice a ms.length c, i64 (n : Nat)] w fun v w' => v = .tuple #[.slice none 0 0, i64 1] ∧ Ext w w' := Fill_bad3 old ms n ao a co c w hD hS h hm
def ver0 : Ver := ⟨[], 0, false⟩
def rv0 : RV := ⟨none, 0, 0, 0, false⟩
def pNew (c : Cfg) (ms : List Mem) : PSt := ⟨(List.replicate c.versions.toNat ver0).set 0 ⟨fill [] ms c.slots.toNat, 0, false⟩, 0, ms, fill [] ms c.slots.toNat⟩
theorem set_get {α : Type} {l : List α} {i : Nat} {v x : α} (h : (l.set 0 v)[i]? = some x) : (i = 0 ∧ x = v) ∨ (i ≠ 0 ∧ l[i]? = some x) := by
  by_cases e : i = 0
  · subst e
    have hl : 0 < l.length := by have := (List.getElem?_eq_some_iff.1 h).1; simpa using this
    rw [List.getElem?_set_self hl] at h
    exact .inl ⟨rfl, (Option.some.inj h).symm⟩
  · rw [List.getElem?_set_ne (Ne.symm e)] at h
    exact .inr ⟨e, h⟩

theorem New_bad (c : Cfg) (hc : CfgOK c) (ms : List Mem) (a : Option Addr) (cc : Nat) (w : World) (hS : Sli encMem 19 w a cc ms) (hm : memsOK ms = false) : CallV Try.prog 32 #[.agg (encCfg c).toArray, .slice a ms.length cc] w fun v w' => v = .tuple #[.pointer none, i64 1] ∧ Ext w w' := by
  have hX : Ext w w := Ext.rfl' w
  have hSl := hS.lt
  obtain ⟨ns, hns⟩ : ∃ n : Nat, c.slots = n := ⟨c.slots.toNat, by have := hc.slots; omega⟩
  obtain ⟨nv, hnv⟩ : ∃ n : Nat, c.versions = n := ⟨c.versions.toNat, by have := hc.versions; omega⟩
  have hns2 : c.slots.toNat = ns := by omega
  have hnv2 : c.versions.toNat = nv := by omega
  have hvb := hc.versions
  have hsb := hc.slots
  refine Calls.of_W (N := 42) Try.func32 rfl rfl rfl ?_
  refine W.reg ?_
  refine WL.box (v := .agg _) rfl rfl rfl ?_
  intro b1 w1 hb1 hs1 hx1 hB1
  have hge1 := hX.size
  replace hX := hX.tr hx1
  replace hS := hS.ext hx1
  refine WL.y (R.asg (v := .pointer _) rfl) rfl ?_
  refine WL.y (R.asg (v := .int _ _) rfl) rfl ?_
  refine WL.nil ?_
  refine W.seq ?_
  refine W.reg ?_
  refine WL.y (R.loadA agg33 rfl (hB1).r rfl rfl) rfl ?_
  refine WL.call Try.func108 rfl rfl ((check_calls c hc _).val (y := i64 0) rfl) rfl rfl ?_
  rintro _ w2 ⟨rfl, hx2⟩
  have hz2 := hx2.size
  replace hX := hX.tr hx2
  replace hS := hS.ext hx2
  replace hB1 := hx2.blk hB1
  refine WL.y (R.asg (v := .int _ _) rfl) rfl ?_
  refine WL.nil ?_
  refine W.reg ?_
  refine WL.y (R.mv (v := .int _ _) rfl) rfl ?_
  refine WL.y (R.neqF rfl rfl rfl) rfl ?_
  refine WL.nil ?_
  refine W.cond_f rfl ?_
  refine W.skip ?_
  refine W.reg ?_
  refine WL.y (R.mv (v := .slice _ _ _) rfl) rfl ?_
  refine WL.y (R.fieldAddr fo33_5 rfl) rfl ?_
  refine WL.y (R.load sca3 rfl (hB1).r rfl) rfl ?_
  refine WL.call (vs := [.slice none 0 0, .slice a ms.length cc, i64 ((ns : Nat) : Int)]) Try.func118 rfl rfl (Fill_err [] ms ns none a 0 cc _ (Sli.nil _ _ _) hS (by have := hc.slots; omega) hm) (by rw [← hns]; rfl) rfl ?_
  rintro _ w3 ⟨rfl, hx3⟩
  have hz3 := hx3.size
  replace hX := hX.tr hx3
  replace hS := hS.ext hx3
  replace hB1 := hx3.blk hB1
  refine WL.y (R.mv (v := .tuple _) rfl) rfl ?_
  refine WL.y (R.extract rfl rfl) rfl ?_
  refine WL.y (R.extract rfl rfl) rfl ?_
  refine WL.y (R.asg (v := .slice _ _ _) rfl) rfl ?_
  refine WL.y (R.asg (v := .int _ _) rfl) rfl ?_
  refine WL.nil ?_
  refine W.seq ?_
  refine W.reg ?_
  refine WL.y (R.mv (v := .int _ _) rfl) rfl ?_
  refine WL.y (R.neqT rfl rfl (by decide)) rfl ?_
  refine WL.nil ?_
  refine W.cond_t rfl ?_
  refine W.reg ?_
  refine WL.y (R.mv (v := .int _ _) rfl) rfl ?_
  refine WL.y (R.asg (v := .pointer _) rfl) rfl ?_
  refine WL.y (R.asg (v := .int _ _) rfl) rfl ?_
  refine WL.nil ?_
  refine W.ret ?_
  exact PR.r2 rfl (.tmp rfl) (.tmp rfl) ⟨rfl, hX⟩

theorem New_zero (a : Option Addr) (n cc : Nat) (w : World) : CallV Try.prog 32 #[.agg (encCfg cfg0).toArray, .slice a n cc] w fun v w' => v = .tuple #[.pointer none, i64 1] ∧ Ext w w' := by
  have hX : Ext w w := Ext.rfl' w
  refine Calls.of_W (N := 42) Try.func32 rfl rfl rfl ?_
  refine W.reg ?_
  refine WL.box (v := .agg _) rfl rfl rfl ?_
  intro b1 w1 hb1 hs1 hx1 hB1
  have hge1 := hX.size
  replace hX := hX.tr hx1
  refine WL.y (R.asg (v := .pointer _) rfl) rfl ?_
  refine WL.y (R.asg (v := .int _ _) rfl) rfl ?_
  refine WL.nil ?_
  refine W.seq ?_
  refine W.reg ?_
  refine WL.y (R.loadA agg33 rfl (hB1).r rfl rfl) rfl ?_
  refine WL.call Try.func108 rfl rfl (check_zero _) rfl rfl ?_
  rintro _ w2 ⟨rfl, hx2⟩
  have hz2 := hx2.size
  replace hX := hX.tr hx2
  replace hB1 := hx2.blk hB1
  refine WL.y (R.asg (v := .int _ _) rfl) rfl ?_
  refine WL.nil ?_
  refine W.reg ?_
  refine WL.y (R.mv (v := .int _ _) rfl) rfl ?_
  refine WL.y (R.neqT rfl rfl (by decide)) rfl ?_
  refine WL.nil ?_
  refine W.cond_t rfl ?_
  refine W.reg ?_
  refine WL.y (R.mv (v := .int _ _) rfl) rfl ?_
  refine WL.y (R.asg (v := .pointer _) rfl) rfl ?_
  refine WL.y (R.asg (v := .int _ _) rfl) rfl ?_
  refine WL.nil ?_
  refine W.ret ?_
  exact PR.r2 rfl (.tmp rfl) (.tmp rfl) ⟨rfl, hX⟩

theorem New_good (c : Cfg) (hc : CfgOK c) (ms : List Mem) (a : Option Addr) (cc : Nat) (w : World) (hS : Sli encMem 19 w a cc ms) (hm : memsOK ms = true) : CallV Try.prog 32 #[.agg (encCfg c).toArray, .slice a ms.length cc] w fun v w' => (∃ b, v = .tuple #[.pointer (some ⟨b, 0, none⟩), i64 0] ∧ w.heap.size ≤ b ∧ PoolAt w' (fun k => w.heap.size ≤ k ∧ k < w'.heap.size) b c (pNew c ms)) ∧ Ext w w' := by
  have hX : Ext w w := Ext.rfl' w
  have hSl := hS.lt
  obtain ⟨ns, hns⟩ : ∃ n : Nat, c.slots = n := ⟨c.slots.toNat, by have := hc.slots; omega⟩
  obtain ⟨nv, hnv⟩ : ∃ n : Nat, c.versions = n := ⟨c.versions.toNat, by have := hc.versions; omega⟩
  have hns2 : c.slots.toNat = ns := by omega
  have hnv2 : c.versions.toNat = nv := by omega
  have hvb := hc.versions
  have hsb := hc.slots
  refine Calls.of_W (N := 42) Try.func32 rfl rfl rfl ?_
  refine W.reg ?_
  refine WL.box (v := .agg _) rfl rfl rfl ?_
  intro b1 w1 hb1 hs1 hx1 hB1
  have hge1 := hX.size
  replace hX := hX.tr hx1
  replace hS := hS.ext hx1
  refine WL.y (R.asg (v := .pointer _) rfl) rfl ?_
  refine WL.y (R.asg (v := .int _ _) rfl) rfl ?_
  refine WL.nil ?_
  refine W.seq ?_
  refine W.reg ?_
  refine WL.y (R.loadA agg33 rfl (hB1).r rfl rfl) rfl ?_
  refine WL.call Try.func108 rfl rfl ((check_calls c hc _).val (y := i64 0) rfl) rfl rfl ?_
  rintro _ w2 ⟨rfl, hx2⟩
  have hz2 := hx2.size
  replace hX := hX.tr hx2
  replace hS := hS.ext hx2
  replace hB1 := hx2.blk hB1
  refine WL.y (R.asg (v := .int _ _) rfl) rfl ?_
  refine WL.nil ?_
  refine W.reg ?_
  refine WL.y (R.mv (v := .int _ _) rfl) rfl ?_
  refine WL.y (R.neqF rfl rfl rfl) rfl ?_
  refine WL.nil ?_
  refine W.cond_f rfl ?_
  refine W.skip ?_
  refine W.reg ?_
  refine WL.y (R.mv (v := .slice _ _ _) rfl) rfl ?_
  refine WL.y (R.fieldAddr fo33_5 rfl) rfl ?_
  refine WL.y (R.load sca3 rfl (hB1).r rfl) rfl ?_
  refine WL.call (vs := [.slice none 0 0, .slice a ms.length cc, i64 ((ns : Nat) : Int)]) Try.func118 rfl rfl (Fill_calls [] ms ns none a 0 cc _ (Sli.nil _ _ _) hS (by have := hc.slots; omega) hm (.inl rfl)) (by rw [← hns]; rfl) rfl ?_
  rintro _ w3 ⟨⟨aS, cS, rfl, hSS, hoS⟩, hx3⟩
  have hz3 := hx3.size
  replace hX := hX.tr hx3
  replace hS := hS.ext hx3
  replace hB1 := hx3.blk hB1
  have hoSl := hSS.lt
  refine WL.y (R.mv (v := .tuple _) rfl) rfl ?_
  refine WL.y (R.extract rfl rfl) rfl ?_
  refine WL.y (R.extract rfl rfl) rfl ?_
  refine WL.y (R.asg (v := .slice _ _ _) rfl) rfl ?_
  refine WL.y (R.asg (v := .int _ _) rfl) rfl ?_
  refine WL.nil ?_
  refine W.seq ?_
  refine W.reg ?_
  refine WL.y (R.mv (v := .int _ _) rfl) rfl ?_
  refine WL.y (R.neqF rfl rfl rfl) rfl ?_
  refine WL.nil ?_
  refine W.cond_f rfl ?_
  refine W.skip ?_
  refine W.seqX (ι := Nat × Nat × Option Addr × Nat) [(9, 10), (25, 34)] (fun q => [(9, .pointer (some ⟨q.1, 0, none⟩))]) (fun q w' => Ext w w' ∧ w.heap.size ≤ q.1 ∧ w.heap.size ≤ q.2.1 ∧ q.1 ≠ q.2.1 ∧ Blk w' q.1 (encCfg c ++ [.slice (some ⟨q.2.1, 0, none⟩) nv nv, i64 0, .slice q.2.2.1 ms.length q.2.2.2, .slice aS (fill [] ms ns).length cS]) ∧ (∃ cs, SlO encV 3 w' q.2.1 0 nv cs (List.replicate nv rv0)) ∧ Sli encMem 19 w' q.2.2.1 q.2.2.2 ms ∧ (∀ k, ownsC q.2.2.1 q.2.2.2 k → w.heap.size ≤ k ∧ k ≠ q.1 ∧ k ≠ q.2.1) ∧ Sli encDip 18 w' aS cS (fill [] ms ns) ∧ (∀ k, ownsC aS cS k → w.heap.size ≤ k ∧ k ≠ q.1 ∧ k ≠ q.2.1)) ?_ ?_
  · skip
    refine W.draw (fun j => [1000].contains j) (fun wI => Ext w3 wI) rfl ?_
    have hI4 := Ext.dr w3
    refine WA.batch [0, 1, 2, 4, 6] 5 (by kernel_rfl) hI4 ?_
    refine QL.y (fun wq hq => (R.loadA agg33 rfl (hq.blkR (hB1).r) rfl rfl)) rfl ?_
    refine QL.y (fun wq hq => (R.fieldAddr fo33_6 rfl)) rfl ?_
    refine QL.y (fun wq hq => (R.load sca3 rfl (hq.blkR (hB1).r) rfl)) rfl ?_
    refine QL.y (fun wq hq => (R.mv (v := .slice _ _ _) rfl)) rfl ?_
    refine QL.y (fun wq hq => (R.mv (v := .slice _ _ _) rfl)) rfl ?_
    refine QL.nil ?_
    have hD4 := Ext.dr w3
    have hD4z := hD4.size
    replace hX := hX.tr hD4
    replace hS := hS.ext hD4
    replace hB1 := hD4.blk hB1
    replace hSS := hSS.ext hD4
    refine WA.both 3 5 4 (by kernel_rfl) ?_ ?_
    · skip
      refine WL.makeSlice (n := nv) el200_205 (congrArg (Value.int .i64) hnv) (congrArg (Value.int .i64) hnv) (by omega) (by omega) rfl ?_
      intro b5 w5 hb5 hs5 hx5 hB5
      have hge5 := hX.size
      replace hX := hX.tr hx5
      replace hS := hS.ext hx5
      replace hB1 := hx5.blk hB1
      replace hSS := hSS.ext hx5
      replace hB5 := SlO.made encVE rv0 rfl hB5
      refine WL.nil ?_
      refine ⟨fun _ h => h.tr hx5, ?_⟩
      replace hI4 := hI4.tr hx5
      refine WA.one 5 3 (by kernel_rfl) ?_
      refine WL.call Try.func119 rfl rfl (CloneMem_calls ms (by have := memsOK_len hm; omega) a cc _ hS) rfl rfl ?_
      rintro _ w6 ⟨⟨a6, c6, rfl, hsl6, hof6⟩, hx6⟩
      have hz6 := hx6.size
      replace hX := hX.tr hx6
      replace hS := hS.ext hx6
      replace hB1 := hx6.blk hB1
      replace hSS := hSS.ext hx6
      replace hB5 := hB5.ext hx6
      have hol6 := hsl6.lt
      refine WL.nil ?_
      refine ⟨fun _ h => h.tr hx6, ?_⟩
      replace hI4 := hI4.tr hx6
      refine WA.pures [7] 2 (by kernel_rfl) ?_
      refine QL.y (fun wq hq => (R.buildE (parts := [(0, .tmp 25), (1, .tmp 28), (3, .tmp 30), (4, .tmp 31)]) (vs := encCfg c ++ [.slice (some ⟨b5, 0, none⟩) nv nv, i64 0, .slice a6 ms.length c6, .slice aS (fill [] ms ns).length cS]) bld203 (by kernel_rfl) (by kernel_rfl))) rfl ?_
      refine QL.nil ?_
      refine WA.one 8 1 (by kernel_rfl) ?_
      refine WL.box (v := .agg _) rfl rfl rfl ?_
      intro b7 w7 hb7 hs7 hx7 hB7
      have hge7 := hX.size
      replace hX := hX.tr hx7
      replace hS := hS.ext hx7
      replace hB1 := hx7.blk hB1
      replace hSS := hSS.ext hx7
      replace hB5 := hB5.ext hx7
      replace hsl6 := hsl6.ext hx7
      refine WL.nil ?_
      refine ⟨fun _ h => h.tr hx7, ?_⟩
      replace hI4 := hI4.tr hx7
      refine WA.pures [9] 0 (by kernel_rfl) ?_
      refine QL.y (fun wq hq => (R.asg (v := .pointer _) rfl)) rfl ?_
      refine QL.nil ?_
      refine WA.done (by kernel_rfl) ?_
      exact ⟨⟨b7, b5, a6, c6⟩, (by repeat (first | exact Same.rfl' _ _ | refine Same.set _ rfl ?_ | refine Same.over' _ rfl ?_ | refine Same.sets rfl ?_)), ⟨rfl, trivial⟩, rfl, hX, by simp only; omega, by simp only; omega, by simp only; omega, hB7, ⟨_, hB5⟩, hsl6, (fun k hk => ⟨by have := hof6 k hk.1; omega, by have := hol6 k hk; simp only; omega, by have := hof6 k hk.1; simp only; omega⟩), hSS, (fun k hk => ⟨by have := hoS k hk.1; omega, by have := hoSl k hk; simp only; omega, by have := hoSl k hk; simp only; omega⟩)⟩
    · skip
      refine WL.call Try.func119 rfl rfl (CloneMem_calls ms (by have := memsOK_len hm; omega) a cc _ hS) rfl rfl ?_
      rintro _ w8 ⟨⟨a8, c8, rfl, hsl8, hof8⟩, hx8⟩
      have hz8 := hx8.size
      replace hX := hX.tr hx8
      replace hS := hS.ext hx8
      replace hB1 := hx8.blk hB1
      replace hSS := hSS.ext hx8
      have hol8 := hsl8.lt
      refine WL.nil ?_
      refine ⟨fun _ h => h.tr hx8, ?_⟩
      replace hI4 := hI4.tr hx8
      refine WA.one 3 3 (by kernel_rfl) ?_
      refine WL.makeSlice (n := nv) el200_205 (congrArg (Value.int .i64) hnv) (congrArg (Value.int .i64) hnv) (by omega) (by omega) rfl ?_
      intro b9 w9 hb9 hs9 hx9 hB9
      have hge9 := hX.size
      replace hX := hX.tr hx9
      replace hS := hS.ext hx9
      replace hB1 := hx9.blk hB1
      replace hSS := hSS.ext hx9
      replace hsl8 := hsl8.ext hx9
      replace hB9 := SlO.made encVE rv0 rfl hB9
      refine WL.nil ?_
      refine ⟨fun _ h => h.tr hx9, ?_⟩
      replace hI4 := hI4.tr hx9
      refine WA.pures [7] 2 (by kernel_rfl) ?_
      refine QL.y (fun wq hq => (R.buildE (parts := [(0, .tmp 25), (1, .tmp 28), (3, .tmp 30), (4, .tmp 31)]) (vs := encCfg c ++ [.slice (some ⟨b9, 0, none⟩) nv nv, i64 0, .slice a8 ms.length c8, .slice aS (fill [] ms ns).length cS]) bld203 (by kernel_rfl) (by kernel_rfl))) rfl ?_
      refine QL.nil ?_
      refine WA.one 8 1 (by kernel_rfl) ?_
      refine WL.box (v := .agg _) rfl rfl rfl ?_
      intro b10 w10 hb10 hs10 hx10 hB10
      have hge10 := hX.size
      replace hX := hX.tr hx10
      replace hS := hS.ext hx10
      replace hB1 := hx10.blk hB1
      replace hSS := hSS.ext hx10
      replace hsl8 := hsl8.ext hx10
      replace hB9 := hB9.ext hx10
      refine WL.nil ?_
      refine ⟨fun _ h => h.tr hx10, ?_⟩
      replace hI4 := hI4.tr hx10
      refine WA.pures [9] 0 (by kernel_rfl) ?_
      refine QL.y (fun wq hq => (R.asg (v := .pointer _) rfl)) rfl ?_
      refine QL.nil ?_
      refine WA.done (by kernel_rfl) ?_
      exact ⟨⟨b10, b9, a8, c8⟩, (by repeat (first | exact Same.rfl' _ _ | refine Same.set _ rfl ?_ | refine Same.over' _ rfl ?_ | refine Same.sets rfl ?_)), ⟨rfl, trivial⟩, rfl, hX, by simp only; omega, by simp only; omega, by simp only; omega, hB10, ⟨_, hB9⟩, hsl8, (fun k hk => ⟨by have := hof8 k hk.1; omega, by have := hol8 k hk; simp only; omega, by have := hol8 k hk; simp only; omega⟩), hSS, (fun k hk => ⟨by have := hoS k hk.1; omega, by have := hoSl k hk; simp only; omega, by have := hoSl k hk; simp only; omega⟩)⟩
  · skip
    rintro ⟨bp, gl, aL, cL⟩ j wl ⟨hX, hbp, hgl, hne, hQ, ⟨csl, hV⟩, hL, hoL, hSS, hoS⟩
    simp only at hbp hgl hne hQ hV hL hoL hoS
    try dsimp only
    refine W.reg ?_
    refine WL.y (R.mv (v := .pointer _) rfl) rfl ?_
    refine WL.y (R.nilCheck rfl) rfl ?_
    refine WL.y (R.fieldAddr fo203_1 rfl) rfl ?_
    refine WL.y (R.load sca200 rfl (hQ).r rfl) rfl ?_
    refine WL.y (R.mv (v := .slice _ _ _) rfl) rfl ?_
    have hr0 : (List.replicate nv rv0)[0]? = some rv0 := by rw [List.getElem?_replicate, if_pos (by omega)]
    refine WL.y (R.indexS Try.underlying200 siz205 rfl rfl (i := 0) rfl (by omega)) rfl ?_
    refine WL.y (R.fieldAddr fo205_0 rfl) rfl ?_
    refine WL.store1 (v := .slice _ _ _) sca81 rfl rfl rfl hV.blk (by have := hV.bound (List.getElem?_eq_some_iff.1 hr0).1; omega) rfl ?_
    intro w11 hu11 hz11 hn11
    replace hX := hX.put hu11 (by omega)
    replace hQ := hu11.blk (by omega) hQ
    replace hL := hL.updB hu11 (fun k hk => by first | (have := (hoL) k hk; omega) | (have := (hoL) k hk.1; omega))
    replace hSS := hSS.updB hu11 (fun k hk => by first | (have := (hoS) k hk; omega) | (have := (hoS) k hk.1; omega))
    replace hV := hV.set encVE hr0 (j := 0) (by decide) (y := (⟨aS, (fill [] ms ns).length, cS, 0, false⟩ : RV)) rfl hn11; clear hn11
    refine WL.nil ?_
    refine W.reg ?_
    refine WL.y (R.mv (v := .pointer _) rfl) rfl ?_
    refine WL.y (R.asg (v := .pointer _) rfl) rfl ?_
    refine WL.y (R.asg (v := .int _ _) rfl) rfl ?_
    refine WL.nil ?_
    refine W.ret ?_
    have hlt : ∀ k, w.heap.size ≤ k → k = bp ∨ k = gl ∨ ownsC aL cL k ∨ ownsC aS cS k → w.heap.size ≤ k ∧ k < w11.heap.size := fun k h1 h2 => ⟨h1, by
      rcases h2 with rfl | rfl | h | h
      · exact hQ.lt
      · exact hV.blk.lt
      · exact hL.lt k h
      · exact hSS.lt k h⟩
    have hvl : (pNew c ms).vs.length = nv := by simp [pNew, hnv2]
    have hsl : (pNew c ms).sl = fill [] ms ns := by simp [pNew, hns2]
    have heach : ∀ (i : Nat) (r : RV) (v : Ver), ((List.replicate nv rv0).set 0 ⟨aS, (fill [] ms ns).length, cS, 0, false⟩)[i]? = some r → (pNew c ms).vs[i]? = some v → r.refs = v.refs ∧ r.res = v.res ∧ r.n = v.slots.length ∧ Sli encDip 18 w11 r.a r.c v.slots ∧ ∀ k, ownsC r.a r.c k → (w.heap.size ≤ k ∧ k < w11.heap.size) ∧ k ≠ bp ∧ k ≠ gl := fun i r v h1 h2 => by
      simp only [pNew, hnv2, hns2] at h2
      rcases set_get h1 with ⟨rfl, rfl⟩ | ⟨hi, h1⟩
      · rcases set_get h2 with ⟨_, rfl⟩ | ⟨hi, _⟩
        · exact ⟨rfl, rfl, rfl, hSS, fun k hk => ⟨hlt k (hoS k hk).1 (.inr (.inr (.inr hk))), (hoS k hk).2⟩⟩
        · exact absurd rfl hi
      · rcases set_get h2 with ⟨e, _⟩ | ⟨_, h2⟩
        · exact absurd e hi
        · rw [List.getElem?_replicate] at h1 h2
          split at h1
          · cases h1
            rename_i hlt'
            rw [if_pos hlt'] at h2
            cases h2
            exact ⟨rfl, rfl, rfl, Sli.nil _ _ _, fun k hk => absurd hk.1 (owns_none k)⟩
          · cases h1
    have hsv : ∀ v : Ver, v ∈ (pNew c ms).vs → v.slots.length ≤ 64 := fun v hv => by
      simp only [pNew, hnv2, hns2] at hv
      rcases mem_set_or hv with hv | rfl
      · rw [List.mem_replicate] at hv
        rw [hv.2]; simp [ver0]
      · exact fill_le (by omega) hm
    exact PR.r2 rfl (.tmp rfl) (.tmp rfl) ⟨⟨bp, rfl, hbp, gl, nv, _, _, aL, cL, aS, cS, PoolO.mk (by rw [hvl, hsl]; exact hQ) hV (by rw [hvl]; simp) heach hL (fun k hk => ⟨hlt k (hoL k hk).1 (.inr (.inr (.inl hk))), (hoL k hk).2⟩) (by rw [hsl]; exact hSS) (fun k hk => ⟨hlt k (hoS k hk).1 (.inr (.inr (.inr hk))), (hoS k hk).2⟩) (hlt _ hbp (.inl rfl)) (hlt _ hgl (.inr (.inl rfl))) hne (fun k hk => hk.2) (by rw [hvl]; omega) (memsOK_len hm) (by rw [hsl]; exact fill_le (by omega) hm) hsv hc (by rw [hsl, hns2]; by_cases h0 : ms.length = 0; exact .inl (by simp [fill, h0]); exact .inr (fill_length (by omega) hm (by omega))) ⟨Int.le_refl _, by show (0 : Int) < ((pNew c ms).vs.length : Nat); rw [hvl]; omega⟩ (by rw [hvl, hnv2])⟩, hX⟩
end Go.Proofs.Ytkjecokkdbapkaa
