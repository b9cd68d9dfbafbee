import Derived.Test.YtkjecokkdbapkaaZzVips3
import Derived.Test.YtkjecokkdbapkaaProg
namespace Go.Proofs.Ytkjecokkdbapkaa
set_option linter.all false
open Go Go.Eng Go.RowKit
set_option maxRecDepth 20000
set_option maxHeartbeats 2000000
set_option linter.unusedVariables false
set_option linter.unusedSimpArgs false
attribute [local irreducible] WL W QL WA SP

theorem fo189_0 : FO Try.prog 189 0 0 := fun a w => by kernel_rfl

theorem AddE_n (w : World) : CallV Try.prog 113 #[.agg (encE none).toArray] w fun v w' => v = bl true ∧ Ext w w' := by
  have hX : Ext w w := Ext.rfl' w
  refine Calls.of_W (N := 6) Try.func113 rfl rfl rfl ?_
  refine W.reg ?_
  refine WL.box (v := .agg _) rfl rfl rfl ?_
  intro b1 w1 hb1 hs1 hx1 hB1
  have hge1 := hX.size
  replace hX := hX.tr hx1
  refine WL.y (R.asg (v := .bool false) rfl) rfl ?_
  refine WL.nil ?_
  refine W.reg ?_
  refine WL.y (R.fieldAddr fo186_1 rfl) rfl ?_
  refine WL.y (R.load sca61 rfl (hB1).r rfl) rfl ?_
  refine WL.y (R.eqlNil Try.underlying61 rfl) rfl ?_
  refine WL.y (R.asg (v := .bool true) rfl) rfl ?_
  refine WL.nil ?_
  refine W.ret ?_
  exact PR.r1 rfl (.tmp rfl) ⟨rfl, hX⟩

theorem AddE_s (e : Ent) (w : World) : CallV Try.prog 113 #[.agg (encE (some e)).toArray] w fun v w' => v = bl false ∧ Ext w w' := by
  have hX : Ext w w := Ext.rfl' w
  refine Calls.of_W (N := 6) Try.func113 rfl rfl rfl ?_
  refine W.reg ?_
  refine WL.box (v := .agg _) rfl rfl rfl ?_
  intro b1 w1 hb1 hs1 hx1 hB1
  have hge1 := hX.size
  replace hX := hX.tr hx1
  refine WL.y (R.asg (v := .bool false) rfl) rfl ?_
  refine WL.nil ?_
  refine W.reg ?_
  refine WL.y (R.fieldAddr fo186_1 rfl) rfl ?_
  refine WL.y (R.load sca61 rfl (hB1).r rfl) rfl ?_
  refine WL.y (R.eqlNil Try.underlying61 rfl) rfl ?_
  refine WL.y (R.asg (v := .bool false) rfl) rfl ?_
  refine WL.nil ?_
  refine W.ret ?_
  exact PR.r1 rfl (.tmp rfl) ⟨rfl, hX⟩

theorem AddE_calls (o : Option Ent) (w : World) : CallV Try.prog 113 #[.agg (encE o).toArray] w fun v w' => v = bl o.isNone ∧ Ext w w' := by
  cases o with
  | none => exact AddE_n w
  | some e => exact AddE_s e w

theorem IndexFuncE_calls (f : FuncId) (fn : Func) (code : Code) (cap : List Value) (p : Option Ent → Bool) (hfn : Try.prog.funcs[f]? = some fn) (hbody : fn.body = some code) (hnm : (fn.name == "runtime.NumGoroutine") = false) (xs : List (Option Ent)) (h63 : xs.length ≤ 1000000) (a : Option Addr) (c : Nat) (w : World) (hS : Sli encE 20 w a c xs)
    (hf : ∀ x w', Ext w w' → CallV Try.prog f (.agg (encE x).toArray :: cap).toArray w' fun v w'' => v = bl (p x) ∧ Ext w' w'') : CallV Try.prog 112 #[.slice a xs.length c, .func (.func f) #[] cap.toArray] w fun v w' => v = i64 (idx p xs) ∧ Ext w w' := by
  have hX : Ext w w := Ext.rfl' w
  have hSl := hS.lt
  refine Calls.of_W (N := 19) Try.func112 rfl rfl rfl ?_
  refine W.reg ?_
  refine WL.y (R.asg (v := .int _ _) rfl) rfl ?_
  refine WL.nil ?_
  refine W.seqX (ι := Unit) [(4, 19)] (fun _ => []) (fun _ w' => Ext w w' ∧ idx p xs = -1) ?_ ?_
  · skip
    refine W.reg ?_
    refine WL.y (R.mv (v := .slice _ _ _) rfl) rfl ?_
    refine WL.y (R.lenS Try.underlying195 rfl) rfl ?_
    refine WL.y (R.mv (v := .int _ _) rfl) rfl ?_
    refine WL.nil ?_
    refine W.block ?_
    refine W.loopS (ι := Nat) [(4, 6), (8, 19)] (fun i => [(8, i64 (i : Nat))]) (fun i => xs.length - i) (fun i w' => Ext w w' ∧ Sli encE 20 w' a c xs ∧ i ≤ xs.length ∧ (xs.take i).all (fun x => !p x) = true) 0 ⟨rfl, trivial⟩ ⟨hX, hS, Nat.zero_le _, rfl⟩ ?_
    rintro i j wl ⟨hX, hS, hi, hall⟩
    refine W.reg ?_
    refine WL.fork (R.lss rfl rfl) rfl (fun hc2_0 => ?_) (fun hc2_0 => ?_)
    · skip
      replace hc2_0 := of_decide_eq_true hc2_0
      refine WL.nil ?_
      refine W.seq ?_
      refine W.cond_t rfl ?_
      refine W.skip ?_
      refine W.seq ?_
      refine W.block ?_
      refine W.reg ?_
      obtain ⟨x, hx⟩ : ∃ x, xs[i]? = some x := ⟨_, List.getElem?_eq_getElem (by omega)⟩
      obtain ⟨g, off, cs, rfl, hO⟩ := hS.op (by omega)
      have hg := hSl g ⟨(owns_some _ _).2 rfl, by have := hO.le; omega⟩
      refine WL.y (R.mv (v := .int _ _) rfl) rfl ?_
      refine WL.y (R.asg (v := .int _ _) rfl) rfl ?_
      refine WL.nil ?_
      refine W.reg ?_
      refine WL.y (R.mv (v := _) rfl) rfl ?_
      refine WL.y (R.mv (v := .slice _ _ _) rfl) rfl ?_
      refine WL.y (R.mv (v := .int _ _) rfl) rfl ?_
      refine WL.y (R.indexS Try.underlying195 siz186 rfl rfl rfl (by omega)) rfl ?_
      refine WL.y (R.loadA agg186 rfl (hO.blk).r (hO.at encEE hx) (encEE.len x)) rfl ?_
      refine WL.callF (f := f) (cap := cap) rfl hfn hbody hnm (CallV.fork (hf x wl hX)) rfl rfl ?_
      rintro _ w1 (⟨hc4_5, rfl, hx1⟩ | ⟨hc4_5, rfl, hx1⟩)
      · skip
        have hz1 := hx1.size
        replace hX := hX.tr hx1
        replace hO := hO.ext hx1
        refine WL.nil ?_
        refine W.cond_t rfl ?_
        refine W.reg ?_
        refine WL.y (R.mv (v := .int _ _) rfl) rfl ?_
        refine WL.y (R.asg (v := .int _ _) rfl) rfl ?_
        refine WL.nil ?_
        refine W.ret ?_
        exact PR.r1 rfl (.tmp rfl) ⟨by rw [idx_hit hall hx hc4_5]; rfl, hX⟩
      · skip
        have hz1 := hx1.size
        replace hX := hX.tr hx1
        replace hO := hO.ext hx1
        refine WL.nil ?_
        refine W.cond_f rfl ?_
        refine W.skip ?_
        refine W.region ?_
        refine WL.y (R.addI rfl rfl (by omega)) rfl ?_
        refine WL.y (R.mv (v := .int _ _) rfl) rfl ?_
        refine WL.nil ?_
        exact ⟨i + 1, (by omega), (by repeat (first | exact Same.rfl' _ _ | refine Same.set _ rfl ?_ | refine Same.over' _ rfl ?_ | refine Same.sets rfl ?_)), ⟨rfl, trivial⟩, rfl, hX, hO.cl, by omega, by rw [take_snoc hx, List.all_append, hall]; simpa using hc4_5⟩
    · skip
      replace hc2_0 := of_decide_eq_false hc2_0
      refine WL.nil ?_
      refine W.seq ?_
      refine W.cond_f rfl ?_
      refine W.exit ?_
      exact ⟨(), (by repeat (first | exact Same.rfl' _ _ | refine Same.set _ rfl ?_ | refine Same.over' _ rfl ?_ | refine Same.sets rfl ?_)), trivial, rfl, hX, idx_miss hall (by omega)⟩
  · skip
    rintro _ j wl ⟨hX, hidx⟩
    refine W.reg ?_
    refine WL.y (R.asg (v := .int _ _) rfl) rfl ?_
    refine WL.nil ?_
    refine W.ret ?_
    exact PR.r1 rfl (.tmp rfl) ⟨by rw [hidx]; rfl, hX⟩

theorem AddK_calls (x : Mem) (v : Vip) (b4 : Nat) (w : World) (h4 : Blk w b4 (encVip v)) : CallV Try.prog 111 #[.agg (encMem x).toArray, .pointer (some ⟨b4, 0, none⟩)] w fun r w' => r = bl (!(x.dip.adr.v6 == v.adr.v6)) ∧ Ext w w' := by
  have hX : Ext w w := Ext.rfl' w
  refine Calls.of_W (N := 12) Try.func111 rfl rfl rfl ?_
  refine W.reg ?_
  refine WL.box (v := .agg _) rfl rfl rfl ?_
  intro b1 w1 hb1 hs1 hx1 hB1
  have hge1 := hX.size
  replace hX := hX.tr hx1
  replace h4 := hx1.blk h4
  refine WL.y (R.asg (v := .bool false) rfl) rfl ?_
  refine WL.nil ?_
  refine W.reg ?_
  refine WL.y (R.fieldAddr fo57_0 rfl) rfl ?_
  refine WL.y (R.fieldAddr fo54_0 rfl) rfl ?_
  refine WL.y (R.fieldAddr fo30_0 rfl) rfl ?_
  refine WL.y (R.load sca4 rfl (hB1).r rfl) rfl ?_
  refine WL.y (R.fieldAddr fo42_1 rfl) rfl ?_
  refine WL.y (R.fieldAddr fo30_0 rfl) rfl ?_
  refine WL.y (R.load sca4 rfl (h4).r rfl) rfl ?_
  refine WL.y (R.neqB Try.underlying4 rfl rfl) rfl ?_
  refine WL.y (R.asg (v := .bool _) rfl) rfl ?_
  refine WL.nil ?_
  refine W.ret ?_
  exact PR.r1 rfl (.tmp rfl) ⟨rfl, hX⟩

theorem Contains_calls (f : FuncId) (fn : Func) (code : Code) (cap : List Value) (p : Mem → Bool) (hfn : Try.prog.funcs[f]? = some fn) (hbody : fn.body = some code) (hnm : (fn.name == "runtime.NumGoroutine") = false) (xs : List Mem) (h63 : xs.length ≤ 1000000) (a : Option Addr) (c : Nat) (w : World) (hS : Sli encMem 19 w a c xs)
    (hf : ∀ x w', Ext w w' → CallV Try.prog f (.agg (encMem x).toArray :: cap).toArray w' fun v w'' => v = bl (p x) ∧ Ext w' w'') : CallV Try.prog 110 #[.slice a xs.length c, .func (.func f) #[] cap.toArray] w fun v w' => v = bl (decide (0 ≤ idx p xs)) ∧ Ext w w' := by
  have hX : Ext w w := Ext.rfl' w
  refine Calls.of_W (N := 9) Try.func110 rfl rfl rfl ?_
  refine W.reg ?_
  refine WL.y (R.asg (v := .bool false) rfl) rfl ?_
  refine WL.nil ?_
  refine W.reg ?_
  refine WL.y (R.mv (v := .slice _ _ _) rfl) rfl ?_
  refine WL.y (R.mv (v := .func _ _ _) rfl) rfl ?_
  refine WL.call Try.func163 rfl rfl (IndexFuncM_calls f fn code cap p hfn hbody hnm xs h63 a c _ hS hf) rfl rfl ?_
  rintro _ w1 ⟨rfl, hx1⟩
  have hz1 := hx1.size
  replace hX := hX.tr hx1
  refine WL.y (R.geq rfl rfl) rfl ?_
  refine WL.y (R.asg (v := .bool _) rfl) rfl ?_
  refine WL.nil ?_
  refine W.ret ?_
  exact PR.r1 rfl (.tmp rfl) ⟨rfl, hX⟩

def kinds (v : Vip) (ms : List Mem) : Bool := decide (0 ≤ idx (fun x : Mem => !(x.dip.adr.v6 == v.adr.v6)) ms)
def addErr (c : Cfg) (l : List (Option Ent)) (v : Vip) (ms : List Mem) : Int :=
  if (vipOK v && memsOK ms) = false then 1 else if (!c.encap && kinds v ms) = true then 1 else if ¬ tIdx l v < 0 then 6 else if idx Option.isNone l < 0 then 3 else 0

theorem Add_bad1 (F : Nat → Prop) (bt : Nat) (c : Cfg) (l : List (Option Ent)) (w : World) (hT : TabAt w F bt c l) (v : Vip) (ms : List Mem) (a : Option Addr) (cc : Nat) (hS : Sli encMem 19 w a cc ms) (hv : vipOK v = false) : CallV Try.prog 23 #[.pointer (some ⟨bt, 0, none⟩), encVv v, .slice a ms.length cc] w fun r w' => r = .tuple #[i64 0, i64 1] ∧ Ext w w' := by
  have hX : Ext w w := Ext.rfl' w
  obtain ⟨bm, cs, ml, Fs, H⟩ := hT
  have hA := H.arr
  have hl16 := H.len
  have hM := H.mp
  have hbt := hA.blk.lt
  have hbm := hM.lt
  have hSl := hS.lt
  refine Calls.of_W (N := 82) Try.func23 rfl rfl rfl ?_
  refine W.reg ?_
  refine WL.box (v := .agg _) rfl rfl rfl ?_
  intro b1 w1 hb1 hs1 hx1 hB1
  have hge1 := hX.size
  replace hX := hX.tr hx1
  replace hA := hA.ext hx1
  replace hM := hx1.map hM
  replace hS := hS.ext hx1
  refine WL.y (R.asg (v := .int _ _) rfl) rfl ?_
  refine WL.y (R.asg (v := .int _ _) rfl) rfl ?_
  refine WL.nil ?_
  refine W.seq ?_
  refine W.reg ?_
  refine WL.y (R.mv (v := .pointer _) rfl) rfl ?_
  refine WL.y (R.eqlNil Try.underlying24 rfl) rfl ?_
  refine WL.y (R.mv (v := .bool false) rfl) rfl ?_
  refine WL.y (R.loadA agg42 rfl (hB1).r rfl rfl) rfl ?_
  refine WL.call Try.func60 rfl rfl ((vipValid_calls v _).val (y := bl false) (by rw [hv])) rfl rfl ?_
  rintro _ w2 ⟨rfl, hx2⟩
  have hz2 := hx2.size
  replace hX := hX.tr hx2
  replace hA := hA.ext hx2
  replace hM := hx2.map hM
  replace hS := hS.ext hx2
  replace hB1 := hx2.blk hB1
  refine WL.y (R.notF rfl) rfl ?_
  refine WL.y (R.pkF (v := .bool true) rfl rfl) rfl ?_
  refine WL.y (R.mv (v := .bool true) rfl) rfl ?_
  refine WL.skip rfl ?_
  refine WL.skip rfl ?_
  refine WL.skip rfl ?_
  refine WL.y (R.pkT (v := .bool true) rfl rfl) rfl ?_
  refine WL.nil ?_
  refine W.cond_t rfl ?_
  refine W.reg ?_
  refine WL.y (R.asg (v := .int _ _) rfl) rfl ?_
  refine WL.y (R.asg (v := .int _ _) rfl) rfl ?_
  refine WL.nil ?_
  refine W.ret ?_
  exact PR.r2 rfl (.tmp rfl) (.tmp rfl) ⟨rfl, hX⟩

theorem Add_bad2 (F : Nat → Prop) (bt : Nat) (c : Cfg) (l : List (Option Ent)) (w : World) (hT : TabAt w F bt c l) (v : Vip) (ms : List Mem) (a : Option Addr) (cc : Nat) (hS : Sli encMem 19 w a cc ms) (hv : vipOK v = true) (hm : memsOK ms = false) : CallV Try.prog 23 #[.pointer (some ⟨bt, 0, none⟩), encVv v, .slice a ms.length cc] w fun r w' => r = .tuple #[i64 0, i64 1] ∧ Ext w w' := by
  have hX : Ext w w := Ext.rfl' w
  obtain ⟨bm, cs, ml, Fs, H⟩ := hT
  have hA := H.arr
  have hl16 := H.len
  have hM := H.mp
  have hbt := hA.blk.lt
  have hbm := hM.lt
  have hSl := hS.lt
  refine Calls.of_W (N := 82) Try.func23 rfl rfl rfl ?_
  refine W.reg ?_
  refine WL.box (v := .agg _) rfl rfl rfl ?_
  intro b1 w1 hb1 hs1 hx1 hB1
  have hge1 := hX.size
  replace hX := hX.tr hx1
  replace hA := hA.ext hx1
  replace hM := hx1.map hM
  replace hS := hS.ext hx1
  refine WL.y (R.asg (v := .int _ _) rfl) rfl ?_
  refine WL.y (R.asg (v := .int _ _) rfl) rfl ?_
  refine WL.nil ?_
  refine W.seq ?_
  refine W.reg ?_
  refine WL.y (R.mv (v := .pointer _) rfl) rfl ?_
  refine WL.y (R.eqlNil Try.underlying24 rfl) rfl ?_
  refine WL.y (R.mv (v := .bool false) rfl) rfl ?_
  refine WL.y (R.loadA agg42 rfl (hB1).r rfl rfl) rfl ?_
  refine WL.call Try.func60 rfl rfl ((vipValid_calls v _).val (y := bl true) (by rw [hv])) rfl rfl ?_
  rintro _ w2 ⟨rfl, hx2⟩
  have hz2 := hx2.size
  replace hX := hX.tr hx2
  replace hA := hA.ext hx2
  replace hM := hx2.map hM
  replace hS := hS.ext hx2
  replace hB1 := hx2.blk hB1
  refine WL.y (R.notT rfl) rfl ?_
  refine WL.y (R.pkF (v := .bool false) rfl rfl) rfl ?_
  refine WL.y (R.mv (v := .bool false) rfl) rfl ?_
  refine WL.y (R.mv (v := .slice _ _ _) rfl) rfl ?_
  refine WL.call Try.func109 rfl rfl ((Check_calls ms a cc _ hS).val (y := i64 1) (by rw [hm]; rfl)) rfl rfl ?_
  rintro _ w3 ⟨rfl, hx3⟩
  have hz3 := hx3.size
  replace hX := hX.tr hx3
  replace hA := hA.ext hx3
  replace hM := hx3.map hM
  replace hS := hS.ext hx3
  replace hB1 := hx3.blk hB1
  refine WL.y (R.neqT rfl rfl (by decide)) rfl ?_
  refine WL.y (R.pkF (v := .bool true) rfl rfl) rfl ?_
  refine WL.nil ?_
  refine W.cond_t rfl ?_
  refine W.reg ?_
  refine WL.y (R.asg (v := .int _ _) rfl) rfl ?_
  refine WL.y (R.asg (v := .int _ _) rfl) rfl ?_
  refine WL.nil ?_
  refine W.ret ?_
  exact PR.r2 rfl (.tmp rfl) (.tmp rfl) ⟨rfl, hX⟩

theorem Add_kind (F : Nat → Prop) (bt : Nat) (c : Cfg) (l : List (Option Ent)) (w : World) (hT : TabAt w F bt c l) (v : Vip) (ms : List Mem) (a : Option Addr) (cc : Nat) (hS : Sli encMem 19 w a cc ms) (hv : vipOK v = true) (hm : memsOK ms = true) (hen : c.encap = false) (hkd : kinds v ms = true) : CallV Try.prog 23 #[.pointer (some ⟨bt, 0, none⟩), encVv v, .slice a ms.length cc] w fun r w' => r = .tuple #[i64 0, i64 1] ∧ Ext w w' := by
  have hX : Ext w w := Ext.rfl' w
  obtain ⟨bm, cs, ml, Fs, H⟩ := hT
  have hA := H.arr
  have hl16 := H.len
  have hM := H.mp
  have hbt := hA.blk.lt
  have hbm := hM.lt
  have hSl := hS.lt
  refine Calls.of_W (N := 82) Try.func23 rfl rfl rfl ?_
  refine W.reg ?_
  refine WL.box (v := .agg _) rfl rfl rfl ?_
  intro b1 w1 hb1 hs1 hx1 hB1
  have hge1 := hX.size
  replace hX := hX.tr hx1
  replace hA := hA.ext hx1
  replace hM := hx1.map hM
  replace hS := hS.ext hx1
  refine WL.y (R.asg (v := .int _ _) rfl) rfl ?_
  refine WL.y (R.asg (v := .int _ _) rfl) rfl ?_
  refine WL.nil ?_
  refine W.seq ?_
  refine W.reg ?_
  refine WL.y (R.mv (v := .pointer _) rfl) rfl ?_
  refine WL.y (R.eqlNil Try.underlying24 rfl) rfl ?_
  refine WL.y (R.mv (v := .bool false) rfl) rfl ?_
  refine WL.y (R.loadA agg42 rfl (hB1).r rfl rfl) rfl ?_
  refine WL.call Try.func60 rfl rfl ((vipValid_calls v _).val (y := bl true) (by rw [hv])) rfl rfl ?_
  rintro _ w2 ⟨rfl, hx2⟩
  have hz2 := hx2.size
  replace hX := hX.tr hx2
  replace hA := hA.ext hx2
  replace hM := hx2.map hM
  replace hS := hS.ext hx2
  replace hB1 := hx2.blk hB1
  refine WL.y (R.notT rfl) rfl ?_
  refine WL.y (R.pkF (v := .bool false) rfl rfl) rfl ?_
  refine WL.y (R.mv (v := .bool false) rfl) rfl ?_
  refine WL.y (R.mv (v := .slice _ _ _) rfl) rfl ?_
  refine WL.call Try.func109 rfl rfl ((Check_calls ms a cc _ hS).val (y := i64 0) (by rw [hm]; rfl)) rfl rfl ?_
  rintro _ w3 ⟨rfl, hx3⟩
  have hz3 := hx3.size
  replace hX := hX.tr hx3
  replace hA := hA.ext hx3
  replace hM := hx3.map hM
  replace hS := hS.ext hx3
  replace hB1 := hx3.blk hB1
  refine WL.y (R.neqF rfl rfl rfl) rfl ?_
  refine WL.y (R.pkF (v := .bool false) rfl rfl) rfl ?_
  refine WL.nil ?_
  refine W.cond_f rfl ?_
  refine W.skip ?_
  refine W.seq ?_
  refine W.reg ?_
  refine WL.y (R.mv (v := .pointer _) rfl) rfl ?_
  refine WL.y (R.nilCheck rfl) rfl ?_
  refine WL.y (R.fieldAddr fo189_0 rfl) rfl ?_
  refine WL.y (R.fieldAddr fo33_12 rfl) rfl ?_
  refine WL.y (R.load sca4 rfl (hA.blk).r ((H.cfgAt (by decide)).trans (congrArg some (congrArg Value.bool hen)))) rfl ?_
  refine WL.y (R.notF rfl) rfl ?_
  refine WL.y (R.mv (v := .bool true) rfl) rfl ?_
  refine WL.y (R.mv (v := .slice _ _ _) rfl) rfl ?_
  refine WL.y (R.makeFuncP (cap := [.tmp 4]) (vs := [.pointer _]) rfl) rfl ?_
  refine WL.call (vs := [.slice a ms.length cc, .func (.func 111) #[] #[.pointer (some ⟨b1, 0, none⟩)]]) Try.func110 rfl rfl ((Contains_calls 111 _ _ [.pointer (some ⟨b1, 0, none⟩)] (fun x => !(x.dip.adr.v6 == v.adr.v6)) Try.func111 rfl rfl ms (by have := memsOK_len hm; omega) a cc _ hS (fun x w' hx => AddK_calls x v b1 w' (hx.blk hB1))).val (y := bl true) (by rw [← hkd]; rfl)) rfl rfl ?_
  rintro _ w4 ⟨rfl, hx4⟩
  have hz4 := hx4.size
  replace hX := hX.tr hx4
  replace hA := hA.ext hx4
  replace hM := hx4.map hM
  replace hS := hS.ext hx4
  replace hB1 := hx4.blk hB1
  refine WL.y (R.pkT (v := .bool true) rfl rfl) rfl ?_
  refine WL.nil ?_
  refine W.cond_t rfl ?_
  refine W.reg ?_
  refine WL.y (R.asg (v := .int _ _) rfl) rfl ?_
  refine WL.y (R.asg (v := .int _ _) rfl) rfl ?_
  refine WL.nil ?_
  refine W.ret ?_
  exact PR.r2 rfl (.tmp rfl) (.tmp rfl) ⟨rfl, hX⟩

theorem Add_have_e (F : Nat → Prop) (bt : Nat) (c : Cfg) (l : List (Option Ent)) (w : World) (hT : TabAt w F bt c l) (v : Vip) (ms : List Mem) (a : Option Addr) (cc : Nat) (hS : Sli encMem 19 w a cc ms) (hv : vipOK v = true) (hm : memsOK ms = true) (hen : c.encap = true) (ht : ¬ tIdx l v < 0) : CallV Try.prog 23 #[.pointer (some ⟨bt, 0, none⟩), encVv v, .slice a ms.length cc] w fun r w' => r = .tuple #[i64 0, i64 6] ∧ Ext w w' := by
  have hX : Ext w w := Ext.rfl' w
  obtain ⟨bm, cs, ml, Fs, H⟩ := hT
  have hA := H.arr
  have hl16 := H.len
  have hM := H.mp
  have hbt := hA.blk.lt
  have hbm := hM.lt
  have hSl := hS.lt
  have hget := H.rel v
  rw [if_neg ht] at hget
  refine Calls.of_W (N := 82) Try.func23 rfl rfl rfl ?_
  refine W.reg ?_
  refine WL.box (v := .agg _) rfl rfl rfl ?_
  intro b1 w1 hb1 hs1 hx1 hB1
  have hge1 := hX.size
  replace hX := hX.tr hx1
  replace hA := hA.ext hx1
  replace hM := hx1.map hM
  replace hS := hS.ext hx1
  refine WL.y (R.asg (v := .int _ _) rfl) rfl ?_
  refine WL.y (R.asg (v := .int _ _) rfl) rfl ?_
  refine WL.nil ?_
  refine W.seq ?_
  refine W.reg ?_
  refine WL.y (R.mv (v := .pointer _) rfl) rfl ?_
  refine WL.y (R.eqlNil Try.underlying24 rfl) rfl ?_
  refine WL.y (R.mv (v := .bool false) rfl) rfl ?_
  refine WL.y (R.loadA agg42 rfl (hB1).r rfl rfl) rfl ?_
  refine WL.call Try.func60 rfl rfl ((vipValid_calls v _).val (y := bl true) (by rw [hv])) rfl rfl ?_
  rintro _ w2 ⟨rfl, hx2⟩
  have hz2 := hx2.size
  replace hX := hX.tr hx2
  replace hA := hA.ext hx2
  replace hM := hx2.map hM
  replace hS := hS.ext hx2
  replace hB1 := hx2.blk hB1
  refine WL.y (R.notT rfl) rfl ?_
  refine WL.y (R.pkF (v := .bool false) rfl rfl) rfl ?_
  refine WL.y (R.mv (v := .bool false) rfl) rfl ?_
  refine WL.y (R.mv (v := .slice _ _ _) rfl) rfl ?_
  refine WL.call Try.func109 rfl rfl ((Check_calls ms a cc _ hS).val (y := i64 0) (by rw [hm]; rfl)) rfl rfl ?_
  rintro _ w3 ⟨rfl, hx3⟩
  have hz3 := hx3.size
  replace hX := hX.tr hx3
  replace hA := hA.ext hx3
  replace hM := hx3.map hM
  replace hS := hS.ext hx3
  replace hB1 := hx3.blk hB1
  refine WL.y (R.neqF rfl rfl rfl) rfl ?_
  refine WL.y (R.pkF (v := .bool false) rfl rfl) rfl ?_
  refine WL.nil ?_
  refine W.cond_f rfl ?_
  refine W.skip ?_
  refine W.seq ?_
  refine W.reg ?_
  refine WL.y (R.mv (v := .pointer _) rfl) rfl ?_
  refine WL.y (R.nilCheck rfl) rfl ?_
  refine WL.y (R.fieldAddr fo189_0 rfl) rfl ?_
  refine WL.y (R.fieldAddr fo33_12 rfl) rfl ?_
  refine WL.y (R.load sca4 rfl (hA.blk).r ((H.cfgAt (by decide)).trans (congrArg some (congrArg Value.bool hen)))) rfl ?_
  refine WL.y (R.notT rfl) rfl ?_
  refine WL.y (R.mv (v := .bool false) rfl) rfl ?_
  refine WL.skip rfl ?_
  refine WL.skip rfl ?_
  refine WL.skip rfl ?_
  refine WL.y (R.pkF (v := .bool false) rfl rfl) rfl ?_
  refine WL.nil ?_
  refine W.cond_f rfl ?_
  refine W.skip ?_
  refine W.seq ?_
  refine W.seq ?_
  refine W.draw (fun j => [1000].contains j) (fun wI => Ext w3 wI) rfl ?_
  have hI4 := Ext.dr w3
  refine WA.batch [0, 1, 2, 3, 4, 5, 6, 7, 8, 9, 10] 0 (by kernel_rfl) hI4 ?_
  refine QL.y (fun wq hq => (R.mv (v := .pointer _) rfl)) rfl ?_
  refine QL.y (fun wq hq => (R.nilCheck rfl)) rfl ?_
  refine QL.y (fun wq hq => (R.fieldAddr fo189_2 rfl)) rfl ?_
  refine QL.y (fun wq hq => (R.load sca184 rfl (hq.blkR (hA.blk).r) H.map)) rfl ?_
  refine QL.y (fun wq hq => (R.loadA agg42 rfl (hq.blkR (hB1).r) rfl rfl)) rfl ?_
  refine QL.y (fun wq hq => (R.lookT keyVipL Try.underlying184 Try.zeroValue3 rfl (hq.map hM) (k := v) rfl hget)) rfl ?_
  refine QL.y (fun wq hq => (R.mv (v := .tuple _) rfl)) rfl ?_
  refine QL.y (fun wq hq => (R.extract rfl rfl)) rfl ?_
  refine QL.y (fun wq hq => (R.extract rfl rfl)) rfl ?_
  refine QL.y (fun wq hq => (R.asg (v := .int _ _) rfl)) rfl ?_
  refine QL.y (fun wq hq => (R.asg (v := .bool true) rfl)) rfl ?_
  refine QL.nil ?_
  have hD4 := Ext.dr w3
  have hD4z := hD4.size
  replace hX := hX.tr hD4
  replace hA := hA.ext hD4
  replace hM := hD4.map hM
  replace hS := hS.ext hD4
  replace hB1 := hD4.blk hB1
  refine WA.done (by kernel_rfl) ?_
  refine W.reg ?_
  refine WL.y (R.mv (v := .bool true) rfl) rfl ?_
  refine WL.nil ?_
  refine W.cond_t rfl ?_
  refine W.reg ?_
  refine WL.y (R.asg (v := .int _ _) rfl) rfl ?_
  refine WL.y (R.asg (v := .int _ _) rfl) rfl ?_
  refine WL.nil ?_
  refine W.ret ?_
  exact PR.r2 rfl (.tmp rfl) (.tmp rfl) ⟨rfl, hX⟩

theorem Add_full_e (F : Nat → Prop) (bt : Nat) (c : Cfg) (l : List (Option Ent)) (w : World) (hT : TabAt w F bt c l) (v : Vip) (ms : List Mem) (a : Option Addr) (cc : Nat) (hS : Sli encMem 19 w a cc ms) (hv : vipOK v = true) (hm : memsOK ms = true) (hen : c.encap = true) (ht : tIdx l v < 0) (hf : idx Option.isNone l < 0) : CallV Try.prog 23 #[.pointer (some ⟨bt, 0, none⟩), encVv v, .slice a ms.length cc] w fun r w' => r = .tuple #[i64 0, i64 3] ∧ Ext w w' := by
  have hX : Ext w w := Ext.rfl' w
  obtain ⟨bm, cs, ml, Fs, H⟩ := hT
  have hA := H.arr
  have hl16 := H.len
  have hM := H.mp
  have hbt := hA.blk.lt
  have hbm := hM.lt
  have hSl := hS.lt
  have hget := H.rel v
  rw [if_pos ht] at hget
  refine Calls.of_W (N := 82) Try.func23 rfl rfl rfl ?_
  refine W.reg ?_
  refine WL.box (v := .agg _) rfl rfl rfl ?_
  intro b1 w1 hb1 hs1 hx1 hB1
  have hge1 := hX.size
  replace hX := hX.tr hx1
  replace hA := hA.ext hx1
  replace hM := hx1.map hM
  replace hS := hS.ext hx1
  refine WL.y (R.asg (v := .int _ _) rfl) rfl ?_
  refine WL.y (R.asg (v := .int _ _) rfl) rfl ?_
  refine WL.nil ?_
  refine W.seq ?_
  refine W.reg ?_
  refine WL.y (R.mv (v := .pointer _) rfl) rfl ?_
  refine WL.y (R.eqlNil Try.underlying24 rfl) rfl ?_
  refine WL.y (R.mv (v := .bool false) rfl) rfl ?_
  refine WL.y (R.loadA agg42 rfl (hB1).r rfl rfl) rfl ?_
  refine WL.call Try.func60 rfl rfl ((vipValid_calls v _).val (y := bl true) (by rw [hv])) rfl rfl ?_
  rintro _ w2 ⟨rfl, hx2⟩
  have hz2 := hx2.size
  replace hX := hX.tr hx2
  replace hA := hA.ext hx2
  replace hM := hx2.map hM
  replace hS := hS.ext hx2
  replace hB1 := hx2.blk hB1
  refine WL.y (R.notT rfl) rfl ?_
  refine WL.y (R.pkF (v := .bool false) rfl rfl) rfl ?_
  refine WL.y (R.mv (v := .bool false) rfl) rfl ?_
  refine WL.y (R.mv (v := .slice _ _ _) rfl) rfl ?_
  refine WL.call Try.func109 rfl rfl ((Check_calls ms a cc _ hS).val (y := i64 0) (by rw [hm]; rfl)) rfl rfl ?_
  rintro _ w3 ⟨rfl, hx3⟩
  have hz3 := hx3.size
  replace hX := hX.tr hx3
  replace hA := hA.ext hx3
  replace hM := hx3.map hM
  replace hS := hS.ext hx3
  replace hB1 := hx3.blk hB1
  refine WL.y (R.neqF rfl rfl rfl) rfl ?_
  refine WL.y (R.pkF (v := .bool false) rfl rfl) rfl ?_
  refine WL.nil ?_
  refine W.cond_f rfl ?_
  refine W.skip ?_
  refine W.seq ?_
  refine W.reg ?_
  refine WL.y (R.mv (v := .pointer _) rfl) rfl ?_
  refine WL.y (R.nilCheck rfl) rfl ?_
  refine WL.y (R.fieldAddr fo189_0 rfl) rfl ?_
  refine WL.y (R.fieldAddr fo33_12 rfl) rfl ?_
  refine WL.y (R.load sca4 rfl (hA.blk).r ((H.cfgAt (by decide)).trans (congrArg some (congrArg Value.bool hen)))) rfl ?_
  refine WL.y (R.notT rfl) rfl ?_
  refine WL.y (R.mv (v := .bool false) rfl) rfl ?_
  refine WL.skip rfl ?_
  refine WL.skip rfl ?_
  refine WL.skip rfl ?_
  refine WL.y (R.pkF (v := .bool false) rfl rfl) rfl ?_
  refine WL.nil ?_
  refine W.cond_f rfl ?_
  refine W.skip ?_
  refine W.seq ?_
  refine W.seq ?_
  refine W.draw (fun j => [1000].contains j) (fun wI => Ext w3 wI) rfl ?_
  have hI4 := Ext.dr w3
  refine WA.batch [0, 1, 2, 3, 4, 5, 6, 7, 8, 9, 10] 0 (by kernel_rfl) hI4 ?_
  refine QL.y (fun wq hq => (R.mv (v := .pointer _) rfl)) rfl ?_
  refine QL.y (fun wq hq => (R.nilCheck rfl)) rfl ?_
  refine QL.y (fun wq hq => (R.fieldAddr fo189_2 rfl)) rfl ?_
  refine QL.y (fun wq hq => (R.load sca184 rfl (hq.blkR (hA.blk).r) H.map)) rfl ?_
  refine QL.y (fun wq hq => (R.loadA agg42 rfl (hq.blkR (hB1).r) rfl rfl)) rfl ?_
  refine QL.y (fun wq hq => (R.lookF keyVipL Try.underlying184 Try.zeroValue3 rfl (hq.map hM) (k := v) rfl hget)) rfl ?_
  refine QL.y (fun wq hq => (R.mv (v := .tuple _) rfl)) rfl ?_
  refine QL.y (fun wq hq => (R.extract rfl rfl)) rfl ?_
  refine QL.y (fun wq hq => (R.extract rfl rfl)) rfl ?_
  refine QL.y (fun wq hq => (R.asg (v := .int _ _) rfl)) rfl ?_
  refine QL.y (fun wq hq => (R.asg (v := .bool false) rfl)) rfl ?_
  refine QL.nil ?_
  have hD4 := Ext.dr w3
  have hD4z := hD4.size
  replace hX := hX.tr hD4
  replace hA := hA.ext hD4
  replace hM := hD4.map hM
  replace hS := hS.ext hD4
  replace hB1 := hD4.blk hB1
  refine WA.done (by kernel_rfl) ?_
  refine W.reg ?_
  refine WL.y (R.mv (v := .bool false) rfl) rfl ?_
  refine WL.nil ?_
  refine W.cond_f rfl ?_
  refine W.skip ?_
  refine W.reg ?_
  refine WL.y (R.mv (v := .pointer _) rfl) rfl ?_
  refine WL.y (R.nilCheck rfl) rfl ?_
  refine WL.y (R.fieldAddr fo189_1 rfl) rfl ?_
  refine WL.y (R.sliceA Try.underlying187 siz186 rfl) rfl ?_
  refine WL.call (vs := [.slice (some ⟨bt, 48, none⟩) l.length 16, .func (.func 113) #[] #[]]) Try.func112 rfl rfl (IndexFuncE_calls 113 _ _ [] Option.isNone Try.func113 rfl rfl l (by omega) (some ⟨bt, 48, none⟩) 16 _ hA.cl.ro (fun x w' hx => AddE_calls x w')) (by rw [hl16]; rfl) rfl ?_
  rintro _ w5 ⟨rfl, hx5⟩
  have hz5 := hx5.size
  replace hX := hX.tr hx5
  replace hA := hA.ext hx5
  replace hM := hx5.map hM
  replace hS := hS.ext hx5
  replace hB1 := hx5.blk hB1
  refine WL.y (R.asg (v := .int _ _) rfl) rfl ?_
  refine WL.nil ?_
  refine W.seq ?_
  refine W.reg ?_
  refine WL.y (R.mv (v := .int _ _) rfl) rfl ?_
  refine WL.y (R.lssT rfl rfl (by omega)) rfl ?_
  refine WL.nil ?_
  refine W.cond_t rfl ?_
  refine W.reg ?_
  refine WL.y (R.asg (v := .int _ _) rfl) rfl ?_
  refine WL.y (R.asg (v := .int _ _) rfl) rfl ?_
  refine WL.nil ?_
  refine W.ret ?_
  exact PR.r2 rfl (.tmp rfl) (.tmp rfl) ⟨rfl, hX⟩

theorem Add_have_n (F : Nat → Prop) (bt : Nat) (c : Cfg) (l : List (Option Ent)) (w : World) (hT : TabAt w F bt c l) (v : Vip) (ms : List Mem) (a : Option Addr) (cc : Nat) (hS : Sli encMem 19 w a cc ms) (hv : vipOK v = true) (hm : memsOK ms = true) (hen : c.encap = false) (hkd : kinds v ms = false) (ht : ¬ tIdx l v < 0) : CallV Try.prog 23 #[.pointer (some ⟨bt, 0, none⟩), encVv v, .slice a ms.length cc] w fun r w' => r = .tuple #[i64 0, i64 6] ∧ Ext w w' := by
  have hX : Ext w w := Ext.rfl' w
  obtain ⟨bm, cs, ml, Fs, H⟩ := hT
  have hA := H.arr
  have hl16 := H.len
  have hM := H.mp
  have hbt := hA.blk.lt
  have hbm := hM.lt
  have hSl := hS.lt
  have hget := H.rel v
  rw [if_neg ht] at hget
  refine Calls.of_W (N := 82) Try.func23 rfl rfl rfl ?_
  refine W.reg ?_
  refine WL.box (v := .agg _) rfl rfl rfl ?_
  intro b1 w1 hb1 hs1 hx1 hB1
  have hge1 := hX.size
  replace hX := hX.tr hx1
  replace hA := hA.ext hx1
  replace hM := hx1.map hM
  replace hS := hS.ext hx1
  refine WL.y (R.asg (v := .int _ _) rfl) rfl ?_
  refine WL.y (R.asg (v := .int _ _) rfl) rfl ?_
  refine WL.nil ?_
  refine W.seq ?_
  refine W.reg ?_
  refine WL.y (R.mv (v := .pointer _) rfl) rfl ?_
  refine WL.y (R.eqlNil Try.underlying24 rfl) rfl ?_
  refine WL.y (R.mv (v := .bool false) rfl) rfl ?_
  refine WL.y (R.loadA agg42 rfl (hB1).r rfl rfl) rfl ?_
  refine WL.call Try.func60 rfl rfl ((vipValid_calls v _).val (y := bl true) (by rw [hv])) rfl rfl ?_
  rintro _ w2 ⟨rfl, hx2⟩
  have hz2 := hx2.size
  replace hX := hX.tr hx2
  replace hA := hA.ext hx2
  replace hM := hx2.map hM
  replace hS := hS.ext hx2
  replace hB1 := hx2.blk hB1
  refine WL.y (R.notT rfl) rfl ?_
  refine WL.y (R.pkF (v := .bool false) rfl rfl) rfl ?_
  refine WL.y (R.mv (v := .bool false) rfl) rfl ?_
  refine WL.y (R.mv (v := .slice _ _ _) rfl) rfl ?_
  refine WL.call Try.func109 rfl rfl ((Check_calls ms a cc _ hS).val (y := i64 0) (by rw [hm]; rfl)) rfl rfl ?_
  rintro _ w3 ⟨rfl, hx3⟩
  have hz3 := hx3.size
  replace hX := hX.tr hx3
  replace hA := hA.ext hx3
  replace hM := hx3.map hM
  replace hS := hS.ext hx3
  replace hB1 := hx3.blk hB1
  refine WL.y (R.neqF rfl rfl rfl) rfl ?_
  refine WL.y (R.pkF (v := .bool false) rfl rfl) rfl ?_
  refine WL.nil ?_
  refine W.cond_f rfl ?_
  refine W.skip ?_
  refine W.seq ?_
  refine W.reg ?_
  refine WL.y (R.mv (v := .pointer _) rfl) rfl ?_
  refine WL.y (R.nilCheck rfl) rfl ?_
  refine WL.y (R.fieldAddr fo189_0 rfl) rfl ?_
  refine WL.y (R.fieldAddr fo33_12 rfl) rfl ?_
  refine WL.y (R.load sca4 rfl (hA.blk).r ((H.cfgAt (by decide)).trans (congrArg some (congrArg Value.bool hen)))) rfl ?_
  refine WL.y (R.notF rfl) rfl ?_
  refine WL.y (R.mv (v := .bool true) rfl) rfl ?_
  refine WL.y (R.mv (v := .slice _ _ _) rfl) rfl ?_
  refine WL.y (R.makeFuncP (cap := [.tmp 4]) (vs := [.pointer _]) rfl) rfl ?_
  refine WL.call (vs := [.slice a ms.length cc, .func (.func 111) #[] #[.pointer (some ⟨b1, 0, none⟩)]]) Try.func110 rfl rfl ((Contains_calls 111 _ _ [.pointer (some ⟨b1, 0, none⟩)] (fun x => !(x.dip.adr.v6 == v.adr.v6)) Try.func111 rfl rfl ms (by have := memsOK_len hm; omega) a cc _ hS (fun x w' hx => AddK_calls x v b1 w' (hx.blk hB1))).val (y := bl false) (by rw [← hkd]; rfl)) rfl rfl ?_
  rintro _ w4 ⟨rfl, hx4⟩
  have hz4 := hx4.size
  replace hX := hX.tr hx4
  replace hA := hA.ext hx4
  replace hM := hx4.map hM
  replace hS := hS.ext hx4
  replace hB1 := hx4.blk hB1
  refine WL.y (R.pkT (v := .bool false) rfl rfl) rfl ?_
  refine WL.nil ?_
  refine W.cond_f rfl ?_
  refine W.skip ?_
  refine W.seq ?_
  refine W.seq ?_
  refine W.draw (fun j => [1000].contains j) (fun wI => Ext w4 wI) rfl ?_
  have hI5 := Ext.dr w4
  refine WA.batch [0, 1, 2, 3, 4, 5, 6, 7, 8, 9, 10] 0 (by kernel_rfl) hI5 ?_
  refine QL.y (fun wq hq => (R.mv (v := .pointer _) rfl)) rfl ?_
  refine QL.y (fun wq hq => (R.nilCheck rfl)) rfl ?_
  refine QL.y (fun wq hq => (R.fieldAddr fo189_2 rfl)) rfl ?_
  refine QL.y (fun wq hq => (R.load sca184 rfl (hq.blkR (hA.blk).r) H.map)) rfl ?_
  refine QL.y (fun wq hq => (R.loadA agg42 rfl (hq.blkR (hB1).r) rfl rfl)) rfl ?_
  refine QL.y (fun wq hq => (R.lookT keyVipL Try.underlying184 Try.zeroValue3 rfl (hq.map hM) (k := v) rfl hget)) rfl ?_
  refine QL.y (fun wq hq => (R.mv (v := .tuple _) rfl)) rfl ?_
  refine QL.y (fun wq hq => (R.extract rfl rfl)) rfl ?_
  refine QL.y (fun wq hq => (R.extract rfl rfl)) rfl ?_
  refine QL.y (fun wq hq => (R.asg (v := .int _ _) rfl)) rfl ?_
  refine QL.y (fun wq hq => (R.asg (v := .bool true) rfl)) rfl ?_
  refine QL.nil ?_
  have hD5 := Ext.dr w4
  have hD5z := hD5.size
  replace hX := hX.tr hD5
  replace hA := hA.ext hD5
  replace hM := hD5.map hM
  replace hS := hS.ext hD5
  replace hB1 := hD5.blk hB1
  refine WA.done (by kernel_rfl) ?_
  refine W.reg ?_
  refine WL.y (R.mv (v := .bool true) rfl) rfl ?_
  refine WL.nil ?_
  refine W.cond_t rfl ?_
  refine W.reg ?_
  refine WL.y (R.asg (v := .int _ _) rfl) rfl ?_
  refine WL.y (R.asg (v := .int _ _) rfl) rfl ?_
  refine WL.nil ?_
  refine W.ret ?_
  exact PR.r2 rfl (.tmp rfl) (.tmp rfl) ⟨rfl, hX⟩

theorem Add_full_n (F : Nat → Prop) (bt : Nat) (c : Cfg) (l : List (Option Ent)) (w : World) (hT : TabAt w F bt c l) (v : Vip) (ms : List Mem) (a : Option Addr) (cc : Nat) (hS : Sli encMem 19 w a cc ms) (hv : vipOK v = true) (hm : memsOK ms = true) (hen : c.encap = false) (hkd : kinds v ms = false) (ht : tIdx l v < 0) (hf : idx Option.isNone l < 0) : CallV Try.prog 23 #[.pointer (some ⟨bt, 0, none⟩), encVv v, .slice a ms.length cc] w fun r w' => r = .tuple #[i64 0, i64 3] ∧ Ext w w' := by
  have hX : Ext w w := Ext.rfl' w
  obtain ⟨bm, cs, ml, Fs, H⟩ := hT
  have hA := H.arr
  have hl16 := H.len
  have hM := H.mp
  have hbt := hA.blk.lt
  have hbm := hM.lt
  have hSl := hS.lt
  have hget := H.rel v
  rw [if_pos ht] at hget
  refine Calls.of_W (N := 82) Try.func23 rfl rfl rfl ?_
  refine W.reg ?_
  refine WL.box (v := .agg _) rfl rfl rfl ?_
  intro b1 w1 hb1 hs1 hx1 hB1
  have hge1 := hX.size
  replace hX := hX.tr hx1
  replace hA := hA.ext hx1
  replace hM := hx1.map hM
  replace hS := hS.ext hx1
  refine WL.y (R.asg (v := .int _ _) rfl) rfl ?_
  refine WL.y (R.asg (v := .int _ _) rfl) rfl ?_
  refine WL.nil ?_
  refine W.seq ?_
  refine W.reg ?_
  refine WL.y (R.mv (v := .pointer _) rfl) rfl ?_
  refine WL.y (R.eqlNil Try.underlying24 rfl) rfl ?_
  refine WL.y (R.mv (v := .bool false) rfl) rfl ?_
  refine WL.y (R.loadA agg42 rfl (hB1).r rfl rfl) rfl ?_
  refine WL.call Try.func60 rfl rfl ((vipValid_calls v _).val (y := bl true) (by rw [hv])) rfl rfl ?_
  rintro _ w2 ⟨rfl, hx2⟩
  have hz2 := hx2.size
  replace hX := hX.tr hx2
  replace hA := hA.ext hx2
  replace hM := hx2.map hM
  replace hS := hS.ext hx2
  replace hB1 := hx2.blk hB1
  refine WL.y (R.notT rfl) rfl ?_
  refine WL.y (R.pkF (v := .bool false) rfl rfl) rfl ?_
  refine WL.y (R.mv (v := .bool false) rfl) rfl ?_
  refine WL.y (R.mv (v := .slice _ _ _) rfl) rfl ?_
  refine WL.call Try.func109 rfl rfl ((Check_calls ms a cc _ hS).val (y := i64 0) (by rw [hm]; rfl)) rfl rfl ?_
  rintro _ w3 ⟨rfl, hx3⟩
  have hz3 := hx3.size
  replace hX := hX.tr hx3
  replace hA := hA.ext hx3
  replace hM := hx3.map hM
  replace hS := hS.ext hx3
  replace hB1 := hx3.blk hB1
  refine WL.y (R.neqF rfl rfl rfl) rfl ?_
  refine WL.y (R.pkF (v := .bool false) rfl rfl) rfl ?_
  refine WL.nil ?_
  refine W.cond_f rfl ?_
  refine W.skip ?_
  refine W.seq ?_
  refine W.reg ?_
  refine WL.y (R.mv (v := .pointer _) rfl) rfl ?_
  refine WL.y (R.nilCheck rfl) rfl ?_
  refine WL.y (R.fieldAddr fo189_0 rfl) rfl ?_
  refine WL.y (R.fieldAddr fo33_12 rfl) rfl ?_
  refine WL.y (R.load sca4 rfl (hA.blk).r ((H.cfgAt (by decide)).trans (congrArg some (congrArg Value.bool hen)))) rfl ?_
  refine WL.y (R.notF rfl) rfl ?_
  refine WL.y (R.mv (v := .bool true) rfl) rfl ?_
  refine WL.y (R.mv (v := .slice _ _ _) rfl) rfl ?_
  refine WL.y (R.makeFuncP (cap := [.tmp 4]) (vs := [.pointer _]) rfl) rfl ?_
  refine WL.call (vs := [.slice a ms.length cc, .func (.func 111) #[] #[.pointer (some ⟨b1, 0, none⟩)]]) Try.func110 rfl rfl ((Contains_calls 111 _ _ [.pointer (some ⟨b1, 0, none⟩)] (fun x => !(x.dip.adr.v6 == v.adr.v6)) Try.func111 rfl rfl ms (by have := memsOK_len hm; omega) a cc _ hS (fun x w' hx => AddK_calls x v b1 w' (hx.blk hB1))).val (y := bl false) (by rw [← hkd]; rfl)) rfl rfl ?_
  rintro _ w4 ⟨rfl, hx4⟩
  have hz4 := hx4.size
  replace hX := hX.tr hx4
  replace hA := hA.ext hx4
  replace hM := hx4.map hM
  replace hS := hS.ext hx4
  replace hB1 := hx4.blk hB1
  refine WL.y (R.pkT (v := .bool false) rfl rfl) rfl ?_
  refine WL.nil ?_
  refine W.cond_f rfl ?_
  refine W.skip ?_
  refine W.seq ?_
  refine W.seq ?_
  refine W.draw (fun j => [1000].contains j) (fun wI => Ext w4 wI) rfl ?_
  have hI5 := Ext.dr w4
  refine WA.batch [0, 1, 2, 3, 4, 5, 6, 7, 8, 9, 10] 0 (by kernel_rfl) hI5 ?_
  refine QL.y (fun wq hq => (R.mv (v := .pointer _) rfl)) rfl ?_
  refine QL.y (fun wq hq => (R.nilCheck rfl)) rfl ?_
  refine QL.y (fun wq hq => (R.fieldAddr fo189_2 rfl)) rfl ?_
  refine QL.y (fun wq hq => (R.load sca184 rfl (hq.blkR (hA.blk).r) H.map)) rfl ?_
  refine QL.y (fun wq hq => (R.loadA agg42 rfl (hq.blkR (hB1).r) rfl rfl)) rfl ?_
  refine QL.y (fun wq hq => (R.lookF keyVipL Try.underlying184 Try.zeroValue3 rfl (hq.map hM) (k := v) rfl hget)) rfl ?_
  refine QL.y (fun wq hq => (R.mv (v := .tuple _) rfl)) rfl ?_
  refine QL.y (fun wq hq => (R.extract rfl rfl)) rfl ?_
  refine QL.y (fun wq hq => (R.extract rfl rfl)) rfl ?_
  refine QL.y (fun wq hq => (R.asg (v := .int _ _) rfl)) rfl ?_
  refine QL.y (fun wq hq => (R.asg (v := .bool false) rfl)) rfl ?_
  refine QL.nil ?_
  have hD5 := Ext.dr w4
  have hD5z := hD5.size
  replace hX := hX.tr hD5
  replace hA := hA.ext hD5
  replace hM := hD5.map hM
  replace hS := hS.ext hD5
  replace hB1 := hD5.blk hB1
  refine WA.done (by kernel_rfl) ?_
  refine W.reg ?_
  refine WL.y (R.mv (v := .bool false) rfl) rfl ?_
  refine WL.nil ?_
  refine W.cond_f rfl ?_
  refine W.skip ?_
  refine W.reg ?_
  refine WL.y (R.mv (v := .pointer _) rfl) rfl ?_
  refine WL.y (R.nilCheck rfl) rfl ?_
  refine WL.y (R.fieldAddr fo189_1 rfl) rfl ?_
  refine WL.y (R.sliceA Try.underlying187 siz186 rfl) rfl ?_
  refine WL.call (vs := [.slice (some ⟨bt, 48, none⟩) l.length 16, .func (.func 113) #[] #[]]) Try.func112 rfl rfl (IndexFuncE_calls 113 _ _ [] Option.isNone Try.func113 rfl rfl l (by omega) (some ⟨bt, 48, none⟩) 16 _ hA.cl.ro (fun x w' hx => AddE_calls x w')) (by rw [hl16]; rfl) rfl ?_
  rintro _ w6 ⟨rfl, hx6⟩
  have hz6 := hx6.size
  replace hX := hX.tr hx6
  replace hA := hA.ext hx6
  replace hM := hx6.map hM
  replace hS := hS.ext hx6
  replace hB1 := hx6.blk hB1
  refine WL.y (R.asg (v := .int _ _) rfl) rfl ?_
  refine WL.nil ?_
  refine W.seq ?_
  refine W.reg ?_
  refine WL.y (R.mv (v := .int _ _) rfl) rfl ?_
  refine WL.y (R.lssT rfl rfl (by omega)) rfl ?_
  refine WL.nil ?_
  refine W.cond_t rfl ?_
  refine W.reg ?_
  refine WL.y (R.asg (v := .int _ _) rfl) rfl ?_
  refine WL.y (R.asg (v := .int _ _) rfl) rfl ?_
  refine WL.nil ?_
  refine W.ret ?_
  exact PR.r2 rfl (.tmp rfl) (.tmp rfl) ⟨rfl, hX⟩
end Go.Proofs.Ytkjecokkdbapkaa
