import Derived.Test.YtkjecokkdbapkaaZzSlots1
import Derived.Test.YtkjecokkdbapkaaProg
namespace Go.Proofs.Ytkjecokkdbapkaa
set_option linter.all false
open Go Go.Eng Go.RowKit
set_option maxRecDepth 20000
set_option maxHeartbeats 2000000
set_option linter.unusedVariables false
set_option linter.unusedSimpArgs false
attribute [local irreducible] WL W QL WA SP

theorem siz3 : ∀ w, (sizeOf 3).run Try.prog w = .ok 1 w := Try.sizeOf3

def maxL : List Int → Int
  | [] => 0
  | x :: xs => xs.foldl max x
theorem maxL_snoc {l : List Int} {x : Int} (h : 1 ≤ l.length) : maxL (l ++ [x]) = max (maxL l) x := by
  cases l with
  | nil => simp at h
  | cons a l => simp [maxL, List.foldl_append]
theorem maxL_ge : ∀ {l : List Int} {a : Int}, a ≤ l.foldl max a ∧ ∀ x ∈ l, x ≤ l.foldl max a
  | [], a => by simp
  | y :: l, a => by
    have := maxL_ge (l := l) (a := max a y)
    refine ⟨by have := this.1; simp only [List.foldl_cons]; omega, fun x hx => ?_⟩
    simp only [List.foldl_cons]
    rcases List.mem_cons.1 hx with rfl | hx
    · have := this.1; omega
    · exact this.2 x hx
theorem maxL_mem : ∀ {l : List Int} {a : Int}, l.foldl max a = a ∨ l.foldl max a ∈ l
  | [], a => by simp
  | y :: l, a => by
    simp only [List.foldl_cons]
    rcases maxL_mem (l := l) (a := max a y) with h | h
    · rw [h]
      by_cases e : a ≤ y
      · right; rw [Int.max_eq_right e]; simp
      · left; rw [Int.max_eq_left (by omega)]
    · right; simp [h]
theorem maxL_in {l : List Int} (h : 1 ≤ l.length) : maxL l ∈ l ∧ ∀ x ∈ l, x ≤ maxL l := by
  cases l with
  | nil => simp at h
  | cons a l =>
    refine ⟨?_, fun x hx => ?_⟩
    · rcases maxL_mem (l := l) (a := a) with e | e
      · simp only [maxL, e]; simp
      · simp only [maxL]; exact List.mem_cons_of_mem _ e
    · rcases List.mem_cons.1 hx with rfl | hx
      · exact maxL_ge.1
      · exact maxL_ge.2 x hx

theorem maxL_one {xs : List Int} {x0 : Int} (h : xs[0]? = some x0) : maxL (xs.take 1) = x0 := by
  cases xs with
  | nil => simp at h
  | cons y ys => simp at h; simp [maxL, h]
theorem maxL_all {xs : List Int} {i : Nat} (h : i ≤ xs.length) (h2 : xs.length ≤ i) : maxL xs = maxL (xs.take i) := by rw [List.take_of_length_le h2]

theorem Max_calls (xs : List Int) (hl : 1 ≤ xs.length) (h63 : xs.length ≤ 1000000) (a : Option Addr) (c : Nat) (w : World) (hS : Sli (fun n : Int => [i64 n]) 1 w a c xs) : CallV Try.prog 202 #[.slice a xs.length c] w fun v w' => v = i64 (maxL xs) ∧ w = w' := by
  refine Calls.of_W (N := 25) Try.func202 rfl rfl rfl ?_
  refine W.reg ?_
  refine WL.y (R.asg (v := .int _ _) rfl) rfl ?_
  refine WL.nil ?_
  refine W.seq ?_
  refine W.reg ?_
  refine WL.y (R.mv (v := .slice _ _ _) rfl) rfl ?_
  refine WL.y (R.lenS Try.underlying22 rfl) rfl ?_
  refine WL.y (R.lssF rfl rfl (by omega)) rfl ?_
  refine WL.nil ?_
  refine W.cond_f rfl ?_
  refine W.skip ?_
  refine W.reg ?_
  obtain ⟨x0, hx0⟩ : ∃ x, xs[0]? = some x := ⟨_, List.getElem?_eq_getElem (by omega)⟩
  obtain ⟨g, off, cs, rfl, hO⟩ := hS.op (by omega)
  refine WL.y (R.mv (v := .slice _ _ _) rfl) rfl ?_
  refine WL.y (R.indexS Try.underlying22 siz3 rfl rfl (i := 0) rfl (by omega)) rfl ?_
  refine WL.y (R.load sca3 rfl (hO.blk).r (hO.cell encI hx0 (j := 0) (by decide))) rfl ?_
  refine WL.y (R.asg (v := .int _ _) rfl) rfl ?_
  refine WL.nil ?_
  refine W.seqX (ι := Unit) [(3, 5), (12, 24)] (fun _ => [(3, i64 (maxL xs))]) (fun _ w' => w = w') ?_ ?_
  · skip
    refine W.reg ?_
    refine WL.y (R.asg (v := .int _ _) rfl) rfl ?_
    refine WL.nil ?_
    refine W.block ?_
    refine W.loopS (ι := Nat) [(3, 5), (12, 24)] (fun i => [(3, i64 (maxL (xs.take i))), (4, i64 (i : Nat))]) (fun i => xs.length - i) (fun i w' => w = w' ∧ 1 ≤ i ∧ i ≤ xs.length) 1 ⟨by show _ = i64 (maxL (xs.take 1)); rw [maxL_one hx0]; rfl, rfl, trivial⟩ ⟨rfl, Nat.le_refl _, hl⟩ ?_
    rintro i j _ ⟨rfl, h1, hi⟩
    refine W.seq ?_
    refine W.reg ?_
    refine WL.y (R.mv (v := .int _ _) rfl) rfl ?_
    refine WL.y (R.mv (v := .slice _ _ _) rfl) rfl ?_
    refine WL.y (R.lenS Try.underlying22 rfl) rfl ?_
    refine WL.fork (R.lss rfl rfl) rfl (fun hc5_3 => ?_) (fun hc5_3 => ?_)
    · skip
      replace hc5_3 := of_decide_eq_true hc5_3
      refine WL.nil ?_
      refine W.cond_t rfl ?_
      refine W.skip ?_
      refine W.seq ?_
      refine W.block ?_
      refine W.region ?_
      obtain ⟨x, hx⟩ : ∃ x, xs[i]? = some x := ⟨_, List.getElem?_eq_getElem (by omega)⟩
      refine WL.y (R.mv (v := .int _ _) rfl) rfl ?_
      refine WL.y (R.mv (v := .slice _ _ _) rfl) rfl ?_
      refine WL.y (R.mv (v := .int _ _) rfl) rfl ?_
      refine WL.y (R.indexS Try.underlying22 siz3 rfl rfl rfl (by omega)) rfl ?_
      refine WL.y (R.load sca3 rfl (hO.blk).r (hO.cell encI hx (j := 0) (by decide))) rfl ?_
      refine WL.y (R.max2 rfl rfl) rfl ?_
      refine WL.y (R.asg (v := .int _ _) rfl) rfl ?_
      refine WL.nil ?_
      refine W.region ?_
      refine WL.y (R.mv (v := .int _ _) rfl) rfl ?_
      refine WL.y (R.addI rfl rfl (by omega)) rfl ?_
      refine WL.y (R.asg (v := .int _ _) rfl) rfl ?_
      refine WL.nil ?_
      exact ⟨i + 1, (by omega), (by repeat (first | exact Same.rfl' _ _ | refine Same.set _ rfl ?_ | refine Same.over' _ rfl ?_ | refine Same.sets rfl ?_)), ⟨by rw [take_snoc hx, maxL_snoc (by simp; omega)]; rfl, rfl, trivial⟩, rfl, rfl, by omega, by omega⟩
    · skip
      replace hc5_3 := of_decide_eq_false hc5_3
      refine WL.nil ?_
      refine W.cond_f rfl ?_
      refine W.exit ?_
      exact ⟨(), (by repeat (first | exact Same.rfl' _ _ | refine Same.set _ rfl ?_ | refine Same.over' _ rfl ?_ | refine Same.sets rfl ?_)), ⟨by show _ = i64 (maxL xs); rw [maxL_all hi (by omega)]; rfl, trivial⟩, rfl, rfl⟩
  · skip
    rintro _ j _ rfl
    refine W.reg ?_
    refine WL.y (R.mv (v := .int _ _) rfl) rfl ?_
    refine WL.y (R.asg (v := .int _ _) rfl) rfl ?_
    refine WL.nil ?_
    refine W.ret ?_
    exact PR.r1 rfl (.tmp rfl) ⟨rfl, rfl⟩

theorem max_bounds : True := trivial

theorem Index_calls (xs : List Int) (y : Int) (h63 : xs.length ≤ 1000000) (a : Option Addr) (c : Nat) (w : World) (hS : Sli (fun n : Int => [i64 n]) 1 w a c xs) : CallV Try.prog 201 #[.slice a xs.length c, i64 y] w fun v w' => v = i64 (idx (fun x => y == x) xs) ∧ w = w' := by
  refine Calls.of_W (N := 19) Try.func201 rfl rfl rfl ?_
  refine W.reg ?_
  refine WL.y (R.asg (v := .int _ _) rfl) rfl ?_
  refine WL.nil ?_
  refine W.seqX (ι := Unit) [(4, 19)] (fun _ => []) (fun _ w' => w = w' ∧ idx (fun x => y == x) xs = -1) ?_ ?_
  · skip
    refine W.reg ?_
    refine WL.y (R.mv (v := .slice _ _ _) rfl) rfl ?_
    refine WL.y (R.lenS Try.underlying22 rfl) rfl ?_
    refine WL.y (R.mv (v := .int _ _) rfl) rfl ?_
    refine WL.nil ?_
    refine W.block ?_
    refine W.loopS (ι := Nat) [(4, 6), (8, 19)] (fun i => [(8, i64 (i : Nat))]) (fun i => xs.length - i) (fun i w' => w = w' ∧ i ≤ xs.length ∧ (xs.take i).all (fun x => !(y == x)) = true) 0 ⟨rfl, trivial⟩ ⟨rfl, Nat.zero_le _, rfl⟩ ?_
    rintro i j _ ⟨rfl, hi, hall⟩
    refine W.reg ?_
    refine WL.fork (R.lss rfl rfl) rfl (fun hc2_0 => ?_) (fun hc2_0 => ?_)
    · skip
      replace hc2_0 := of_decide_eq_true hc2_0
      refine WL.nil ?_
      refine W.seq ?_
      refine W.cond_t rfl ?_
      refine W.skip ?_
      refine W.seq ?_
      refine W.block ?_
      refine W.reg ?_
      obtain ⟨x, hx⟩ : ∃ x, xs[i]? = some x := ⟨_, List.getElem?_eq_getElem (by omega)⟩
      obtain ⟨g, off, cs, rfl, hO⟩ := hS.op (by omega)
      refine WL.y (R.mv (v := .int _ _) rfl) rfl ?_
      refine WL.y (R.asg (v := .int _ _) rfl) rfl ?_
      refine WL.nil ?_
      refine W.reg ?_
      refine WL.y (R.mv (v := .int _ _) rfl) rfl ?_
      refine WL.y (R.mv (v := .slice _ _ _) rfl) rfl ?_
      refine WL.y (R.mv (v := .int _ _) rfl) rfl ?_
      refine WL.y (R.indexS Try.underlying22 siz3 rfl rfl rfl (by omega)) rfl ?_
      refine WL.y (R.load sca3 rfl (hO.blk).r (hO.cell encI hx (j := 0) (by decide))) rfl ?_
      refine WL.fork (R.eql rfl rfl) rfl (fun hc4_5 => ?_) (fun hc4_5 => ?_)
      · skip
        replace hc4_5 := eq_of_beq hc4_5
        refine WL.nil ?_
        refine W.cond_t rfl ?_
        refine W.reg ?_
        refine WL.y (R.mv (v := .int _ _) rfl) rfl ?_
        refine WL.y (R.asg (v := .int _ _) rfl) rfl ?_
        refine WL.nil ?_
        refine W.ret ?_
        exact PR.r1 rfl (.tmp rfl) ⟨by rw [idx_hit hall hx (by simpa using hc4_5)]; rfl, rfl⟩
      · skip
        replace hc4_5 := beq_F hc4_5
        refine WL.nil ?_
        refine W.cond_f rfl ?_
        refine W.skip ?_
        refine W.region ?_
        refine WL.y (R.addI rfl rfl (by omega)) rfl ?_
        refine WL.y (R.mv (v := .int _ _) rfl) rfl ?_
        refine WL.nil ?_
        exact ⟨i + 1, (by omega), (by repeat (first | exact Same.rfl' _ _ | refine Same.set _ rfl ?_ | refine Same.over' _ rfl ?_ | refine Same.sets rfl ?_)), ⟨rfl, trivial⟩, rfl, rfl, by omega, by rw [take_snoc hx, List.all_append, hall]; simpa using hc4_5⟩
    · skip
      replace hc2_0 := of_decide_eq_false hc2_0
      refine WL.nil ?_
      refine W.seq ?_
      refine W.cond_f rfl ?_
      refine W.exit ?_
      exact ⟨(), (by repeat (first | exact Same.rfl' _ _ | refine Same.set _ rfl ?_ | refine Same.over' _ rfl ?_ | refine Same.sets rfl ?_)), trivial, rfl, rfl, idx_miss hall (by omega)⟩
  · skip
    rintro _ j _ ⟨rfl, hidx⟩
    refine W.reg ?_
    refine WL.y (R.asg (v := .int _ _) rfl) rfl ?_
    refine WL.nil ?_
    refine W.ret ?_
    exact PR.r1 rfl (.tmp rfl) ⟨by rw [hidx]; rfl, rfl⟩

theorem IndexFuncM_calls (f : FuncId) (fn : Func) (code : Code) (cap : List Value) (p : Mem → Bool) (hfn : Try.prog.funcs[f]? = some fn) (hbody : fn.body = some code) (hnm : (fn.name == "runtime.NumGoroutine") = false) (xs : List Mem) (h63 : xs.length ≤ 1000000) (a : Option Addr) (c : Nat) (w : World) (hS : Sli encMem 19 w a c xs)
    (hf : ∀ x w', Ext w w' → CallV Try.prog f (.agg (encMem x).toArray :: cap).toArray w' fun v w'' => v = bl (p x) ∧ Ext w' w'') : CallV Try.prog 163 #[.slice a xs.length c, .func (.func f) #[] cap.toArray] w fun v w' => v = i64 (idx p xs) ∧ Ext w w' := by
  have hX : Ext w w := Ext.rfl' w
  refine Calls.of_W (N := 19) Try.func163 rfl rfl rfl ?_
  refine W.reg ?_
  refine WL.y (R.asg (v := .int _ _) rfl) rfl ?_
  refine WL.nil ?_
  refine W.seqX (ι := Unit) [(4, 19)] (fun _ => []) (fun _ w' => Ext w w' ∧ idx p xs = -1) ?_ ?_
  · skip
    refine W.reg ?_
    refine WL.y (R.mv (v := .slice _ _ _) rfl) rfl ?_
    refine WL.y (R.lenS Try.underlying52 rfl) rfl ?_
    refine WL.y (R.mv (v := .int _ _) rfl) rfl ?_
    refine WL.nil ?_
    refine W.block ?_
    refine W.loopS (ι := Nat) [(4, 6), (8, 19)] (fun i => [(8, i64 (i : Nat))]) (fun i => xs.length - i) (fun i w' => Ext w w' ∧ Sli encMem 19 w' a c xs ∧ i ≤ xs.length ∧ (xs.take i).all (fun x => !p x) = true) 0 ⟨rfl, trivial⟩ ⟨hX, hS, Nat.zero_le _, rfl⟩ ?_
    rintro i j wl ⟨hX, hS, hi, hall⟩
    refine W.reg ?_
    refine WL.fork (R.lss rfl rfl) rfl (fun hc2_0 => ?_) (fun hc2_0 => ?_)
    · skip
      replace hc2_0 := of_decide_eq_true hc2_0
      refine WL.nil ?_
      refine W.seq ?_
      refine W.cond_t rfl ?_
      refine W.skip ?_
      refine W.seq ?_
      refine W.block ?_
      refine W.reg ?_
      obtain ⟨x, hx⟩ : ∃ x, xs[i]? = some x := ⟨_, List.getElem?_eq_getElem (by omega)⟩
      obtain ⟨g, off, cs, rfl, hO⟩ := hS.op (by omega)
      refine WL.y (R.mv (v := .int _ _) rfl) rfl ?_
      refine WL.y (R.asg (v := .int _ _) rfl) rfl ?_
      refine WL.nil ?_
      refine W.reg ?_
      refine WL.y (R.mv (v := _) rfl) rfl ?_
      refine WL.y (R.mv (v := .slice _ _ _) rfl) rfl ?_
      refine WL.y (R.mv (v := .int _ _) rfl) rfl ?_
      refine WL.y (R.indexS Try.underlying52 siz57 rfl rfl rfl (by omega)) rfl ?_
      refine WL.y (R.loadA agg57 rfl (hO.blk).r (hO.at encM hx) rfl) rfl ?_
      refine WL.callF (f := f) (cap := cap) rfl hfn hbody hnm (CallV.fork (hf x wl hX)) rfl rfl ?_
      rintro _ w1 (⟨hc4_5, rfl, hx1⟩ | ⟨hc4_5, rfl, hx1⟩)
      · skip
        have hz1 := hx1.size
        replace hX := hX.tr hx1
        replace hO := hO.ext hx1
        refine WL.nil ?_
        refine W.cond_t rfl ?_
        refine W.reg ?_
        refine WL.y (R.mv (v := .int _ _) rfl) rfl ?_
        refine WL.y (R.asg (v := .int _ _) rfl) rfl ?_
        refine WL.nil ?_
        refine W.ret ?_
        exact PR.r1 rfl (.tmp rfl) ⟨by rw [idx_hit hall hx hc4_5]; rfl, hX⟩
      · skip
        have hz1 := hx1.size
        replace hX := hX.tr hx1
        replace hO := hO.ext hx1
        refine WL.nil ?_
        refine W.cond_f rfl ?_
        refine W.skip ?_
        refine W.region ?_
        refine WL.y (R.addI rfl rfl (by omega)) rfl ?_
        refine WL.y (R.mv (v := .int _ _) rfl) rfl ?_
        refine WL.nil ?_
        exact ⟨i + 1, (by omega), (by repeat (first | exact Same.rfl' _ _ | refine Same.set _ rfl ?_ | refine Same.over' _ rfl ?_ | refine Same.sets rfl ?_)), ⟨rfl, trivial⟩, rfl, hX, hO.cl, by omega, by rw [take_snoc hx, List.all_append, hall]; simpa using hc4_5⟩
    · skip
      replace hc2_0 := of_decide_eq_false hc2_0
      refine WL.nil ?_
      refine W.seq ?_
      refine W.cond_f rfl ?_
      refine W.exit ?_
      exact ⟨(), (by repeat (first | exact Same.rfl' _ _ | refine Same.set _ rfl ?_ | refine Same.over' _ rfl ?_ | refine Same.sets rfl ?_)), trivial, rfl, hX, idx_miss hall (by omega)⟩
  · skip
    rintro _ j wl ⟨hX, hidx⟩
    refine W.reg ?_
    refine WL.y (R.asg (v := .int _ _) rfl) rfl ?_
    refine WL.nil ?_
    refine W.ret ?_
    exact PR.r1 rfl (.tmp rfl) ⟨by rw [hidx]; rfl, hX⟩
end Go.Proofs.Ytkjecokkdbapkaa
