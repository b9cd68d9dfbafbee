import Derived.Test.YtkjecokkdbapkaaZzLeaf2
import Derived.Test.YtkjecokkdbapkaaZzSl
import Derived.Test.YtkjecokkdbapkaaProg
namespace Go.Proofs.Ytkjecokkdbapkaa
set_option linter.all false
open Go Go.Eng Go.RowKit
set_option maxRecDepth 20000
set_option maxHeartbeats 2000000
set_option linter.unusedVariables false
set_option linter.unusedSimpArgs false
attribute [local irreducible] WL W QL WA SP

def zc57 : List Value := [.bool false, .int .u8 0, .int .u8 0, .int .u8 0, .int .u8 0, .int .u8 0, .int .u8 0, .int .u8 0, .int .u8 0, .int .u8 0, .int .u8 0, .int .u8 0, .int .u8 0, .int .u8 0, .int .u8 0, .int .u8 0, .int .u8 0, .int .u16 0, .int .i64 0]
theorem agg28 : Agg Try.prog 28 16 := ⟨Try.isAgg28, Try.sizeOf28⟩
theorem agg57 : Agg Try.prog 57 19 := ⟨Try.isAgg57, Try.sizeOf57⟩
theorem fo57_0 : FO Try.prog 57 0 0 := fun a w => by kernel_rfl
theorem fo57_1 : FO Try.prog 57 1 18 := fun a w => by kernel_rfl
theorem siz57 : ∀ w, (sizeOf 57).run Try.prog w = .ok 19 w := Try.sizeOf57
theorem zer57 : Zer Try.prog 57 zc57 := ⟨_, Try.zeroValue57, rfl⟩
theorem eq4 : FlatEq Try.prog 4 [none] 1 := FlatEq.bool Try.underlying4 sca4
theorem eq35 : FlatEq Try.prog 35 [some .u16] 1 := FlatEq.int Try.underlying35 sca35
theorem eq28 : FlatEq Try.prog 28 tyB 2 := FlatEq.array (n := 16) (c := [some .u8]) Try.underlying28 agg28 siz5 eq5
theorem eq30 : FlatEq Try.prog 30 tyAdr 3 := FlatEq.struct [(4, [none]), (28, tyB)] (by kernel_rfl) Try.stoodInHeld30 rfl agg30 (by kernel_rfl) (List.forall_mem_cons.2 ⟨eq4.mono (by decide), (List.forall_mem_cons.2 ⟨eq28.mono (by decide), (by simp)⟩)⟩)
theorem eq54 : FlatEq Try.prog 54 tyDip 4 := FlatEq.struct [(30, tyAdr), (35, [some .u16])] (by kernel_rfl) Try.stoodInHeld54 rfl agg54 (by kernel_rfl) (List.forall_mem_cons.2 ⟨eq30.mono (by decide), (List.forall_mem_cons.2 ⟨eq35.mono (by decide), (by simp)⟩)⟩)

theorem keyDip : KeyL Try.prog 54 (fun d : Dip => .agg (encDip d).toArray) := KeyL.flat eq54 (by decide) agg54 Try.underlying54 typed_dip veq_dip
def memOK (m : Mem) : Bool := adrOK m.dip.adr && decide (1 ≤ m.wt) && decide (m.wt ≤ 16)
def memsOK (ms : List Mem) : Bool := decide (ms.length ≤ 32) && ms.all memOK && decide ((ms.map (·.dip)).Nodup)
theorem take_snoc {α : Type} {l : List α} {i : Nat} {x : α} (h : l[i]? = some x) : l.take (i + 1) = l.take i ++ [x] := by
  rw [List.take_succ, h]; rfl
theorem met_get (l : List Mem) (d : Dip) : (mget d (l.map fun m => (m.dip, bl true))).getD (bl false) = bl (decide (d ∈ l.map (·.dip))) := by
  induction l with
  | nil => rfl
  | cons m l ih =>
    simp only [List.map_cons, mget]
    by_cases e : d = m.dip
    · simp [e]
    · simp only [e, if_false, ih, List.mem_cons, false_or]
theorem met_none {l : List Mem} {d : Dip} (h : decide (d ∈ l.map (·.dip)) = false) : mget d (l.map fun m => (m.dip, bl true)) = none := by
  rw [mget_none]
  simpa using h
theorem mems_bad {ms : List Mem} {i : Nat} {x : Mem} (hx : ms[i]? = some x) (h : memOK x = false) : memsOK ms = false := by
  have : ms.all memOK = false := by
    rw [List.all_eq_false]
    exact ⟨x, List.mem_of_getElem? hx, by simp [h]⟩
  simp [memsOK, this]
theorem mems_twice {ms : List Mem} {i : Nat} {x : Mem} (hx : ms[i]? = some x) (h : decide (x.dip ∈ (ms.take i).map (·.dip)) = true) : memsOK ms = false := by
  have : ¬ (ms.map (·.dip)).Nodup := by
    intro hn
    have h1 : (ms.take (i + 1)).map (·.dip) = (ms.take i).map (·.dip) ++ [x.dip] := by rw [take_snoc hx]; simp
    have h2 : ((ms.take (i + 1)).map (·.dip)).Nodup := ((List.take_sublist _ _).map _).nodup hn
    rw [h1, List.nodup_append] at h2
    exact h2.2.2 _ (of_decide_eq_true h) _ (by simp) rfl
  simp [memsOK, this]
theorem mems_long {ms : List Mem} (h : (32 : Int) < (ms.length : Int)) : memsOK ms = false := by
  have : ¬ ms.length ≤ 32 := by omega
  simp [memsOK, this]
theorem mems_good {ms : List Mem} {i : Nat} (hi : ms.length ≤ i) (h32 : ms.length ≤ 32) (h1 : (ms.take i).all memOK = true) (h2 : ((ms.take i).map (·.dip)).Nodup) : memsOK ms = true := by
  rw [List.take_of_length_le hi] at h1 h2
  simp only [memsOK, h1, h2, h32, decide_true, Bool.and_true]

theorem nodup_snoc {α : Type} [DecidableEq α] {l : List α} {x : α} (h : l.Nodup) (hx : ¬ x ∈ l) : (l ++ [x]).Nodup := by
  rw [List.nodup_append]
  refine ⟨h, by simp, fun a ha b hb e => ?_⟩
  simp at hb
  subst hb
  exact hx (e ▸ ha)

theorem Check_calls (ms : List Mem) (a : Option Addr) (c : Nat) (w : World) (hS : Sli encMem 19 w a c ms) : CallV Try.prog 109 #[.slice a ms.length c] w fun v w' => v = i64 (if memsOK ms then 0 else 1) ∧ Ext w w' := by
  have hX : Ext w w := Ext.rfl' w
  have hSl := hS.lt
  refine Calls.of_W (N := 41) Try.func109 rfl rfl rfl ?_
  refine W.reg ?_
  refine WL.y (R.asg (v := .int _ _) rfl) rfl ?_
  refine WL.nil ?_
  refine W.seq ?_
  refine W.reg ?_
  refine WL.y (R.mv (v := .slice _ _ _) rfl) rfl ?_
  refine WL.y (R.lenS Try.underlying52 rfl) rfl ?_
  refine WL.fork (R.gtr rfl rfl) rfl (fun hc1_2 => ?_) (fun hc1_2 => ?_)
  · skip
    replace hc1_2 := of_decide_eq_true hc1_2
    refine WL.nil ?_
    refine W.cond_t rfl ?_
    refine W.reg ?_
    refine WL.y (R.asg (v := .int _ _) rfl) rfl ?_
    refine WL.nil ?_
    refine W.ret ?_
    exact PR.r1 rfl (.tmp rfl) ⟨by rw [mems_long hc1_2]; rfl, hX⟩
  · skip
    replace hc1_2 := of_decide_eq_false hc1_2
    refine WL.nil ?_
    refine W.cond_f rfl ?_
    refine W.skip ?_
    refine W.reg ?_
    refine WL.makeMap (fun d : Dip => .agg (encDip d).toArray) rfl ?_
    intro b1 w1 hb1 hs1 hx1 hB1
    have hge1 := hX.size
    replace hX := hX.tr hx1
    replace hS := hS.ext hx1
    refine WL.y (R.asg (v := .map _) rfl) rfl ?_
    refine WL.nil ?_
    refine W.seqX (ι := Unit) [(2, 3), (5, 6), (10, 41)] (fun _ => []) (fun _ w' => Ext w w' ∧ memsOK ms = true) ?_ ?_
    · skip
      refine W.reg ?_
      refine WL.y (R.mv (v := .slice _ _ _) rfl) rfl ?_
      refine WL.y (R.lenS Try.underlying52 rfl) rfl ?_
      refine WL.y (R.mv (v := .int _ _) rfl) rfl ?_
      refine WL.nil ?_
      refine W.block ?_
      refine W.loopS (ι := Nat) [(2, 3), (5, 6), (12, 41)] (fun i => [(12, i64 (i : Nat))]) (fun i => ms.length - i) (fun i w' => i ≤ ms.length ∧ Ext w w' ∧ w1.heap.size ≤ w'.heap.size ∧ Sli encMem 19 w' a c ms ∧ (ms.take i).all memOK = true ∧ ((ms.take i).map (·.dip)).Nodup ∧ MapAt (fun d : Dip => .agg (encDip d).toArray) w' b1 ((ms.take i).map fun m => (m.dip, bl true))) 0 ⟨rfl, trivial⟩ ⟨Nat.zero_le _, hX, Nat.le_refl _, hS, rfl, List.nodup_nil, hB1⟩ ?_
      rintro i j wl ⟨hi, hX, hge, hS, hall, hnd, hB1⟩
      refine W.reg ?_
      refine WL.fork (R.lss rfl rfl) rfl (fun hc5_0 => ?_) (fun hc5_0 => ?_)
      · skip
        replace hc5_0 := of_decide_eq_true hc5_0
        refine WL.nil ?_
        refine W.seq ?_
        refine W.cond_t rfl ?_
        refine W.skip ?_
        refine W.seq ?_
        refine W.block ?_
        refine W.reg ?_
        obtain ⟨x, hx⟩ : ∃ x, ms[i]? = some x := ⟨_, List.getElem?_eq_getElem (by omega)⟩
        obtain ⟨g, off, cs, rfl, hO⟩ := hS.op (by omega)
        have hg := hSl g ⟨(owns_some _ _).2 rfl, by have := hO.le; omega⟩
        refine WL.y (R.indexS Try.underlying52 siz57 rfl rfl rfl (by omega)) rfl ?_
        refine WL.y (R.loadA agg57 rfl (hO.blk).r (hO.at encM hx) rfl) rfl ?_
        refine WL.alloc zer57 rfl ?_
        intro b2 w2 hb2 hs2 hx2 hB2
        have hge2 := hX.size
        replace hX := hX.tr hx2
        replace hB1 := hx2.map hB1
        replace hO := hO.ext hx2
        refine WL.store (v := .agg _) siz57 rfl rfl rfl rfl hB2 (Nat.le_of_ble_eq_true rfl) rfl rfl ?_
        intro w3 hu3 hz3 hn3
        replace hX := hX.put hu3 (by omega)
        replace hB1 := hu3.map (by omega) hB1
        replace hO := hO.updB hu3 (by omega)
        replace hB2 := hn3; clear hn3
        refine WL.nil ?_
        refine W.seq ?_
        refine W.reg ?_
        refine WL.y (R.fieldAddr fo57_0 rfl) rfl ?_
        refine WL.y (R.fieldAddr fo54_0 rfl) rfl ?_
        refine WL.y (R.loadA agg30 rfl (hB2).r rfl rfl) rfl ?_
        refine WL.call Try.func128 rfl rfl (CallV.fork (adrValid_calls x.dip.adr _)) rfl rfl ?_
        rintro _ w4 (⟨hc7_3, rfl, hx4⟩ | ⟨hc7_3, rfl, hx4⟩)
        · skip
          have hz4 := hx4.size
          replace hX := hX.tr hx4
          replace hB1 := hx4.map hB1
          replace hO := hO.ext hx4
          replace hB2 := hx4.blk hB2
          refine WL.y (R.notT rfl) rfl ?_
          refine WL.y (R.mv (v := .bool false) rfl) rfl ?_
          refine WL.y (R.mv (v := .map _) rfl) rfl ?_
          refine WL.y (R.fieldAddr fo57_0 rfl) rfl ?_
          refine WL.y (R.loadA agg54 rfl (hB2).r rfl rfl) rfl ?_
          refine WL.fork (R.look1 keyDip Try.underlying287 Try.zeroValue4 rfl hB1 (k := x.dip) rfl (met_get _ _)) rfl (fun hc7_9 => ?_) (fun hc7_9 => ?_)
          · skip
            refine WL.y (R.pkF (v := .bool true) rfl rfl) rfl ?_
            refine WL.y (R.mv (v := .bool true) rfl) rfl ?_
            refine WL.skip rfl ?_
            refine WL.skip rfl ?_
            refine WL.skip rfl ?_
            refine WL.y (R.pkT (v := .bool true) rfl rfl) rfl ?_
            refine WL.y (R.mv (v := .bool true) rfl) rfl ?_
            refine WL.skip rfl ?_
            refine WL.skip rfl ?_
            refine WL.skip rfl ?_
            refine WL.y (R.pkT (v := .bool true) rfl rfl) rfl ?_
            refine WL.nil ?_
            refine W.cond_t rfl ?_
            refine W.reg ?_
            refine WL.y (R.asg (v := .int _ _) rfl) rfl ?_
            refine WL.nil ?_
            refine W.ret ?_
            exact PR.r1 rfl (.tmp rfl) ⟨by rw [mems_twice hx hc7_9]; rfl, hX⟩
          · skip
            refine WL.y (R.pkF (v := .bool false) rfl rfl) rfl ?_
            refine WL.y (R.mv (v := .bool false) rfl) rfl ?_
            refine WL.y (R.fieldAddr fo57_1 rfl) rfl ?_
            refine WL.y (R.load sca3 rfl (hB2).r rfl) rfl ?_
            refine WL.fork (R.lss rfl rfl) rfl (fun hc7_14 => ?_) (fun hc7_14 => ?_)
            · skip
              replace hc7_14 := of_decide_eq_true hc7_14
              refine WL.y (R.pkF (v := .bool true) rfl rfl) rfl ?_
              refine WL.y (R.mv (v := .bool true) rfl) rfl ?_
              refine WL.skip rfl ?_
              refine WL.skip rfl ?_
              refine WL.skip rfl ?_
              refine WL.y (R.pkT (v := .bool true) rfl rfl) rfl ?_
              refine WL.nil ?_
              refine W.cond_t rfl ?_
              refine W.reg ?_
              refine WL.y (R.asg (v := .int _ _) rfl) rfl ?_
              refine WL.nil ?_
              refine W.ret ?_
              exact PR.r1 rfl (.tmp rfl) ⟨by rw [mems_bad hx (by have : ¬ (1 ≤ x.wt) := (by omega); simp [memOK, this])]; rfl, hX⟩
            · skip
              replace hc7_14 := of_decide_eq_false hc7_14
              refine WL.y (R.pkF (v := .bool false) rfl rfl) rfl ?_
              refine WL.y (R.mv (v := .bool false) rfl) rfl ?_
              refine WL.y (R.fieldAddr fo57_1 rfl) rfl ?_
              refine WL.y (R.load sca3 rfl (hB2).r rfl) rfl ?_
              refine WL.fork (R.gtr rfl rfl) rfl (fun hc7_19 => ?_) (fun hc7_19 => ?_)
              · skip
                replace hc7_19 := of_decide_eq_true hc7_19
                refine WL.y (R.pkF (v := .bool true) rfl rfl) rfl ?_
                refine WL.nil ?_
                refine W.cond_t rfl ?_
                refine W.reg ?_
                refine WL.y (R.asg (v := .int _ _) rfl) rfl ?_
                refine WL.nil ?_
                refine W.ret ?_
                exact PR.r1 rfl (.tmp rfl) ⟨by rw [mems_bad hx (by have : ¬ (x.wt ≤ 16) := (by omega); simp [memOK, this])]; rfl, hX⟩
              · skip
                replace hc7_19 := of_decide_eq_false hc7_19
                refine WL.y (R.pkF (v := .bool false) rfl rfl) rfl ?_
                refine WL.nil ?_
                refine W.cond_f rfl ?_
                refine W.skip ?_
                refine W.region ?_
                refine WL.y (R.mv (v := .map _) rfl) rfl ?_
                refine WL.y (R.fieldAddr fo57_0 rfl) rfl ?_
                refine WL.y (R.loadA agg54 rfl (hB2).r rfl rfl) rfl ?_
                refine WL.mapNew keyDip Try.underlying287 rfl hB1 (k := x.dip) rfl rfl (met_none hc7_9) rfl ?_
                intro w5 hu5 hz5 hn5
                replace hX := hX.put hu5 (by omega)
                replace hO := hO.updB hu5 (by omega)
                replace hB2 := hu5.blk (by omega) hB2
                replace hB1 := hn5; clear hn5
                refine WL.nil ?_
                refine W.region ?_
                refine WL.y (R.addI rfl rfl (by omega)) rfl ?_
                refine WL.y (R.mv (v := .int _ _) rfl) rfl ?_
                refine WL.nil ?_
                exact ⟨i + 1, (by omega), (by repeat (first | exact Same.rfl' _ _ | refine Same.set _ rfl ?_ | refine Same.over' _ rfl ?_ | refine Same.sets rfl ?_)), ⟨rfl, trivial⟩, rfl, by omega, hX, by omega, hO.cl, by rw [take_snoc hx, List.all_append, hall]; simp [memOK, hc7_3]; omega, by rw [take_snoc hx, List.map_append]; exact nodup_snoc hnd (by simpa using hc7_9), by rw [take_snoc hx, List.map_append]; exact hB1⟩
        · skip
          have hz4 := hx4.size
          replace hX := hX.tr hx4
          replace hB1 := hx4.map hB1
          replace hO := hO.ext hx4
          replace hB2 := hx4.blk hB2
          refine WL.y (R.notF rfl) rfl ?_
          refine WL.y (R.mv (v := .bool true) rfl) rfl ?_
          refine WL.skip rfl ?_
          refine WL.skip rfl ?_
          refine WL.skip rfl ?_
          refine WL.skip rfl ?_
          refine WL.y (R.pkT (v := .bool true) rfl rfl) rfl ?_
          refine WL.y (R.mv (v := .bool true) rfl) rfl ?_
          refine WL.skip rfl ?_
          refine WL.skip rfl ?_
          refine WL.skip rfl ?_
          refine WL.y (R.pkT (v := .bool true) rfl rfl) rfl ?_
          refine WL.y (R.mv (v := .bool true) rfl) rfl ?_
          refine WL.skip rfl ?_
          refine WL.skip rfl ?_
          refine WL.skip rfl ?_
          refine WL.y (R.pkT (v := .bool true) rfl rfl) rfl ?_
          refine WL.nil ?_
          refine W.cond_t rfl ?_
          refine W.reg ?_
          refine WL.y (R.asg (v := .int _ _) rfl) rfl ?_
          refine WL.nil ?_
          refine W.ret ?_
          exact PR.r1 rfl (.tmp rfl) ⟨by rw [mems_bad hx (by simp [memOK, hc7_3])]; rfl, hX⟩
      · skip
        replace hc5_0 := of_decide_eq_false hc5_0
        refine WL.nil ?_
        refine W.seq ?_
        refine W.cond_f rfl ?_
        refine W.exit ?_
        exact ⟨(), (by repeat (first | exact Same.rfl' _ _ | refine Same.set _ rfl ?_ | refine Same.over' _ rfl ?_ | refine Same.sets rfl ?_)), trivial, rfl, hX, mems_good (i := i) (by omega) (by omega) hall hnd⟩
    · skip
      rintro _ j w' ⟨hX, hgood⟩
      refine W.reg ?_
      refine WL.y (R.asg (v := .int _ _) rfl) rfl ?_
      refine WL.nil ?_
      refine W.ret ?_
      exact PR.r1 rfl (.tmp rfl) ⟨by rw [hgood]; rfl, hX⟩
end Go.Proofs.Ytkjecokkdbapkaa
