import Derived.Test.YtkjecokkdbapkaaZzRef9
import Derived.Test.YtkjecokkdbapkaaZzLaw18
import Derived.Test.YtkjecokkdbapkaaProg
namespace Go.Proofs.Ytkjecokkdbapkaa
set_option linter.all false
open Go Go.Eng Go.RowKit
set_option maxRecDepth 20000
set_option maxHeartbeats 2000000
set_option linter.unusedVariables false
set_option linter.unusedSimpArgs false
attribute [local irreducible] WL W QL WA SP

def zc67 : List Value := [.int .i64 0, .int .i64 0, .int .i64 0]
theorem agg67 : Agg Try.prog 67 3 := ⟨Try.isAgg67, Try.sizeOf67⟩
theorem fo67_0 : FO Try.prog 67 0 0 := fun a w => by kernel_rfl
theorem fo67_1 : FO Try.prog 67 1 1 := fun a w => by kernel_rfl
theorem fo67_2 : FO Try.prog 67 2 2 := fun a w => by kernel_rfl
theorem siz67 : ∀ w, (sizeOf 67).run Try.prog w = .ok 3 w := Try.sizeOf67
theorem zer67 : Zer Try.prog 67 zc67 := ⟨_, Try.zeroValue67, rfl⟩

structure Act3 where
  (op a b : Int)
def encAct (x : Act3) : List Value := [i64 x.op, i64 x.a, i64 x.b]
theorem encActE : Enc encAct 3 := ⟨fun _ => rfl, fun _ => rfl⟩
def CNT (p : PSt) (i : Nat) : Prop := ∀ v ∈ p.vs, 0 ≤ v.refs ∧ v.refs ≤ i
theorem CNT.mono {p : PSt} {i : Nat} (h : CNT p i) : CNT p (i + 1) := fun v hv => by have := h v hv; omega
theorem CNT.set {p : PSt} {i k : Nat} {v' : Ver} {now' : Int} {last' : List Mem} {sl' : List Dip} (h : CNT p i) (hv : 0 ≤ v'.refs ∧ v'.refs ≤ ((i + 1 : Nat) : Int)) : CNT ⟨p.vs.set k v', now', last', sl'⟩ (i + 1) := fun v hm => by
  rcases mem_set_or hm with hm | rfl
  · exact h.mono v hm
  · exact hv
theorem CNT.new (c : Cfg) (ms : List Mem) : CNT (pNew c ms) 0 := fun v hm => by
  rcases mem_set_or hm with hm | rfl
  · rw [List.mem_replicate] at hm
    rw [hm.2]; exact ⟨Int.le_refl _, Int.le_refl _⟩
  · exact ⟨Int.le_refl _, Int.le_refl _⟩
def pRes (p : PSt) (v : Int) : Bool := decide (0 ≤ v) && match p.vs[v.toNat]? with | some x => x.res | none => false
theorem pRes_at {p : PSt} {v : Int} (h : pRes p v = true) : ∃ (k : Nat) (x : Ver), v = k ∧ p.vs[k]? = some x ∧ x.res = true ∧ pLive p (k : Nat) = true := by
  simp only [pRes, Bool.and_eq_true, decide_eq_true_eq] at h
  obtain ⟨k, rfl⟩ : ∃ k : Nat, v = k := ⟨v.toNat, by omega⟩
  rw [Int.toNat_natCast] at h
  cases hx : p.vs[k]? with
  | none => rw [hx] at h; exact absurd h.2 (by decide)
  | some x =>
    rw [hx] at h
    have hk := (List.getElem?_eq_some_iff.1 hx).1
    refine ⟨k, x, rfl, hx, h.2, ?_⟩
    by_cases e : (k : Int) = p.now
    · exact pLive_now (by omega) e
    · rw [pLive_at (by omega) e hx, show x.res = true from h.2, Bool.or_true]
theorem pLive_get {p : PSt} {v : Int} (h : pLive p v = true) : ∃ (k : Nat) (x : Ver), v = k ∧ p.vs[k]? = some x := by
  have := pLive_bd h
  obtain ⟨k, rfl⟩ : ∃ k : Nat, v = k := ⟨v.toNat, by omega⟩
  exact ⟨k, _, rfl, List.getElem?_eq_getElem (by omega)⟩
theorem Serve_err (F : Nat → Prop) (b : Nat) (c : Cfg) (p : PSt) (w : World) (hP : PoolAt w F b c p) (v : Int) (h : pRes p v = false) : CallV Try.prog 37 #[.pointer (some ⟨b, 0, none⟩), i64 v] w fun r w' => r = i64 4 ∧ Ext w w' := by
  cases hl : pLive p v with
  | false => exact Serve_dead F b c p w hP v hl
  | true =>
    obtain ⟨k, x, rfl, hx⟩ := pLive_get hl
    refine Serve_no F b c p w hP k x hl hx ?_
    simpa [pRes, hx] using h
theorem rServe_err (F : Nat → Prop) (b : Nat) (c : Cfg) (p : PSt) (rx : RX) (w : World) (H : RPool w F b c p rx) (v : Int) (h : pRes p v = false) : CallV Try.prog 38 #[.pointer (some ⟨b, 0, none⟩), i64 v] w fun r w' => r = i64 4 ∧ Ext w w' := by
  by_cases h0 : v < 0 ∨ p.vs.length ≤ v
  · exact rServe_out F b c p rx w H v h0
  · obtain ⟨k, rfl⟩ : ∃ k : Nat, v = k := ⟨v.toNat, by omega⟩
    obtain ⟨x, hx⟩ : ∃ x, p.vs[k]? = some x := ⟨_, List.getElem?_eq_getElem (by omega)⟩
    refine rServe_no F b c p rx w H k x hx ?_
    simpa [pRes, hx] using h
def dipOf (p : PSt) (v s : Int) : Dip × Bool := if 0 ≤ s ∧ s < ((slOf p v).length : Int) then ((slOf p v).getD s.toNat dip0, true) else (dip0, false)
theorem Dip_calls (F : Nat → Prop) (b : Nat) (c : Cfg) (p : PSt) (w : World) (hP : PoolAt w F b c p) (v s : Int) : CallV Try.prog 50 #[.pointer (some ⟨b, 0, none⟩), i64 v, i64 s] w fun r w' => r = .tuple #[.agg (encDip (dipOf p v s).1).toArray, bl (dipOf p v s).2] ∧ Ext w w' := by
  cases hl : pLive p v with
  | false =>
    have e : dipOf p v s = (dip0, false) := by
      have : slOf p v = [] := by unfold slOf; rw [pGet_no hl]
      unfold dipOf
      rw [this, if_neg (by simp only [List.length_nil]; omega)]
    rw [e]; exact Dip_dead F b c p w hP v s hl
  | true =>
    obtain ⟨k, x, rfl, hx⟩ := pLive_get hl
    have hs : slOf p (k : Nat) = x.slots := by unfold slOf; rw [pGet_at hl hx]
    by_cases h : 0 ≤ s ∧ s < ((slOf p (k : Nat)).length : Int)
    · obtain ⟨j, rfl⟩ : ∃ j : Nat, s = j := ⟨s.toNat, by omega⟩
      have hd : x.slots[j]? = some (x.slots.getD j dip0) := by
        rw [← hs, List.getD_eq_getElem?_getD, List.getElem?_eq_getElem (by omega)]; rfl
      have e : dipOf p (k : Nat) (j : Nat) = (x.slots.getD j dip0, true) := by unfold dipOf; rw [if_pos h, hs, Int.toNat_natCast]
      rw [e]; exact Dip_in F b c p w hP k x j _ hl hx hd
    · have e : dipOf p (k : Nat) s = (dip0, false) := by unfold dipOf; rw [if_neg h]
      rw [e]; rw [hs] at h; exact Dip_out F b c p w hP k x s hl hx (by omega)
theorem liveL_pos {w : World} {F : Nat → Prop} {b : Nat} {c : Cfg} {p : PSt} {rx : RX} (H : RPool w F b c p rx) : 1 ≤ (ofNats (liveL p)).length ∧ (liveL p).length ≤ 16 := by
  obtain ⟨h1, h2⟩ := H.nn
  obtain ⟨k, hk⟩ : ∃ k : Nat, p.now = k := ⟨p.now.toNat, by omega⟩
  have hm : k ∈ liveL p := by
    unfold liveL
    rw [List.mem_filter, List.mem_range]
    exact ⟨by omega, pLive_now (by omega) hk.symm⟩
  have := List.length_pos_of_mem hm
  have h3 := List.length_filter_le (fun v : Nat => pLive p (v : Nat)) (List.range p.vs.length)
  have h4 := H.v64
  rw [List.length_range] at h3
  refine ⟨by simp only [ofNats, List.length_map]; omega, ?_⟩
  unfold liveL; omega
theorem Sli.takeL {α : Type} {enc : α → List Value} {sz : Nat} (E : Enc enc sz) {w : World} {a : Option Addr} {c : Nat} {xs : List α} (h : Sli enc sz w a c xs) (k : Nat) : Sli enc sz w a c (xs.take k) := by
  rcases h with ⟨h1, h2⟩ | ⟨g, off, cs, e, ho⟩
  · exact .inl ⟨h1, by rw [h2]; simp⟩
  · refine .inr ⟨g, off, cs, e, ho.blk, Nat.le_trans (by simp; omega) ho.le, ho.room, ?_⟩
    have e1 : xs.flatMap enc = (xs.take k).flatMap enc ++ (xs.drop k).flatMap enc := by rw [← List.flatMap_append, List.take_append_drop]
    have e2 := congrArg (List.take ((xs.take k).length * sz)) (ho.flat.trans e1)
    rw [List.take_take, Nat.min_eq_left (Nat.mul_le_mul_right sz (by simp; omega)), List.take_left' (flat_len E _)] at e2
    exact e2
theorem Sli.lec {α : Type} {enc : α → List Value} {sz : Nat} {w : World} {a : Option Addr} {c : Nat} {xs : List α} (h : Sli enc sz w a c xs) : xs.length ≤ c := by
  rcases h with ⟨h1, h2⟩ | ⟨g, off, cs, e, ho⟩
  · rw [h1, h2]; exact Nat.le_refl _
  · exact ho.le

theorem PoolsActs_bad (l : List Int) (ms : List Mem) (acts : List Act3) (hok : ∀ x ∈ acts, okI x.a ∧ okI x.b) (a0 : Option Addr) (c0 : Nat) (a1 : Option Addr) (c1 : Nat) (a2 : Option Addr) (c2 : Nat) (w : World) (hL : Sli (fun n : Int => [i64 n]) 1 w a0 c0 l) (hM : Sli encMem 19 w a1 c1 ms) (hA : Sli encAct 3 w a2 c2 acts) (hm : memsOK ms = false) : CallV Try.prog 5 #[.slice a0 l.length c0, .slice a1 ms.length c1, .slice a2 acts.length c2] w fun v w' => v = bl true ∧ Ext w w' := by
  have hX : Ext w w := Ext.rfl' w
  have hU : ∀ k, (fun k => w.heap.size ≤ k) k → w.heap.size ≤ k := fun _ h => h
  have hS : Star (fun k => w.heap.size ≤ k) w [] := Star.nil fun _ h => h
  generalize (fun k => w.heap.size ≤ k) = U at hU hS
  refine Calls.of_W (N := 231) Try.func5 rfl rfl rfl ?_
  refine W.reg ?_
  refine WL.y (R.asg (v := .bool false) rfl) rfl ?_
  refine WL.nil ?_
  refine W.seq ?_
  refine W.reg ?_
  refine WL.y (R.mv (v := .slice _ _ _) rfl) rfl ?_
  refine WL.y (R.lenS Try.underlying22 rfl) rfl ?_
  refine WL.fork (R.gtr rfl rfl) rfl (fun hc1_2 => ?_) (fun hc1_2 => ?_)
  · skip
    replace hc1_2 := of_decide_eq_true hc1_2
    refine WL.y (R.mv (v := .bool true) rfl) rfl ?_
    refine WL.skip rfl ?_
    refine WL.skip rfl ?_
    refine WL.skip rfl ?_
    refine WL.y (R.pkT (v := .bool true) rfl rfl) rfl ?_
    refine WL.y (R.mv (v := .bool true) rfl) rfl ?_
    refine WL.skip rfl ?_
    refine WL.skip rfl ?_
    refine WL.skip rfl ?_
    refine WL.y (R.pkT (v := .bool true) rfl rfl) rfl ?_
    refine WL.nil ?_
    refine W.cond_t rfl ?_
    refine W.reg ?_
    refine WL.call Try.func30 rfl rfl (awake18_calls _) rfl rfl ?_
    rintro _ w1 ⟨rfl, hx1⟩
    replace hS := hS.ext hx1
    replace hX := hX.tr hx1
    refine WL.y (R.asg (v := .bool _) rfl) rfl ?_
    refine WL.nil ?_
    refine W.ret ?_
    exact PR.r1 rfl (.tmp rfl) ⟨rfl, hX⟩
  · skip
    replace hc1_2 := of_decide_eq_false hc1_2
    refine WL.y (R.mv (v := .bool false) rfl) rfl ?_
    refine WL.y (R.mv (v := .slice _ _ _) rfl) rfl ?_
    refine WL.y (R.lenS Try.underlying52 rfl) rfl ?_
    refine WL.fork (R.gtr rfl rfl) rfl (fun hc1_6 => ?_) (fun hc1_6 => ?_)
    · skip
      replace hc1_6 := of_decide_eq_true hc1_6
      refine WL.y (R.pkF (v := .bool true) rfl rfl) rfl ?_
      refine WL.y (R.mv (v := .bool true) rfl) rfl ?_
      refine WL.skip rfl ?_
      refine WL.skip rfl ?_
      refine WL.skip rfl ?_
      refine WL.y (R.pkT (v := .bool true) rfl rfl) rfl ?_
      refine WL.nil ?_
      refine W.cond_t rfl ?_
      refine W.reg ?_
      refine WL.call Try.func30 rfl rfl (awake18_calls _) rfl rfl ?_
      rintro _ w2 ⟨rfl, hx2⟩
      replace hS := hS.ext hx2
      replace hX := hX.tr hx2
      refine WL.y (R.asg (v := .bool _) rfl) rfl ?_
      refine WL.nil ?_
      refine W.ret ?_
      exact PR.r1 rfl (.tmp rfl) ⟨rfl, hX⟩
    · skip
      replace hc1_6 := of_decide_eq_false hc1_6
      refine WL.y (R.pkF (v := .bool false) rfl rfl) rfl ?_
      refine WL.y (R.mv (v := .bool false) rfl) rfl ?_
      refine WL.y (R.mv (v := .slice _ _ _) rfl) rfl ?_
      refine WL.y (R.lenS Try.underlying59 rfl) rfl ?_
      refine WL.fork (R.gtr rfl rfl) rfl (fun hc1_11 => ?_) (fun hc1_11 => ?_)
      · skip
        replace hc1_11 := of_decide_eq_true hc1_11
        refine WL.y (R.pkF (v := .bool true) rfl rfl) rfl ?_
        refine WL.nil ?_
        refine W.cond_t rfl ?_
        refine W.reg ?_
        refine WL.call Try.func30 rfl rfl (awake18_calls _) rfl rfl ?_
        rintro _ w3 ⟨rfl, hx3⟩
        replace hS := hS.ext hx3
        replace hX := hX.tr hx3
        refine WL.y (R.asg (v := .bool _) rfl) rfl ?_
        refine WL.nil ?_
        refine W.ret ?_
        exact PR.r1 rfl (.tmp rfl) ⟨rfl, hX⟩
      · skip
        replace hc1_11 := of_decide_eq_false hc1_11
        refine WL.y (R.pkF (v := .bool false) rfl rfl) rfl ?_
        refine WL.nil ?_
        refine W.cond_f rfl ?_
        refine W.skip ?_
        refine W.reg ?_
        refine WL.y (R.mv (v := .slice _ _ _) rfl) rfl ?_
        refine WL.call Try.func31 rfl rfl (Config_calls l (by omega) a0 c0 _ (hL.ext hX)) rfl rfl ?_
        rintro _ w4 ⟨rfl, hx4⟩
        replace hS := hS.ext hx4
        replace hX := hX.tr hx4
        refine WL.alloc zer33 rfl ?_
        intro b5 w5 hb5 hs5 hx5 hB5
        replace hS := hS.pushBox hb5 hx5 hB5
        replace hX := hX.tr hx5
        clear hB5 hs5
        refine WL.store (v := .agg _) siz33 rfl rfl rfl rfl hS.blk0 (Nat.le_of_ble_eq_true rfl) rfl rfl ?_
        intro w6 hu6 hz6 hn6
        have hN := hS.box0 hu6 hn6
        replace hS := hN.1
        replace hX := hN.2 _ hX hU
        clear hN hn6 hu6 hz6
        refine WL.nil ?_
        refine W.reg ?_
        refine WL.y (R.loadA agg33 rfl (hS.blk0).r rfl rfl) rfl ?_
        refine WL.y (R.mv (v := .slice _ _ _) rfl) rfl ?_
        refine WL.call Try.func32 rfl rfl (New_bad (cfgOf l) (cfgOf_ok l) ms _ _ _ (hM.ext hX) hm) rfl rfl ?_
        rintro _ w7 ⟨rfl, hx7⟩
        replace hS := hS.ext hx7
        replace hX := hX.tr hx7
        refine WL.y (R.mv (v := .tuple _) rfl) rfl ?_
        refine WL.y (R.extract rfl rfl) rfl ?_
        refine WL.y (R.extract rfl rfl) rfl ?_
        refine WL.y (R.asg (v := .pointer _) rfl) rfl ?_
        refine WL.y (R.asg (v := .int _ _) rfl) rfl ?_
        refine WL.nil ?_
        refine W.reg ?_
        refine WL.y (R.loadA agg33 rfl (hS.blk0).r rfl rfl) rfl ?_
        refine WL.y (R.mv (v := .slice _ _ _) rfl) rfl ?_
        refine WL.call Try.func33 rfl rfl (rNew_bad (cfgOf l) (cfgOf_ok l) ms (by omega) _ _ _ (hM.ext hX) hm) rfl rfl ?_
        rintro _ w8 ⟨rfl, hx8⟩
        replace hS := hS.ext hx8
        replace hX := hX.tr hx8
        refine WL.y (R.asg (v := .pointer _) rfl) rfl ?_
        refine WL.nil ?_
        refine W.seq ?_
        refine W.reg ?_
        refine WL.y (R.mv (v := .pointer _) rfl) rfl ?_
        refine WL.y (R.eqlNil Try.underlying64 rfl) rfl ?_
        refine WL.nil ?_
        refine W.cond_t rfl ?_
        refine W.reg ?_
        refine WL.y (R.mv (v := .int _ _) rfl) rfl ?_
        refine WL.y (R.eqlT rfl rfl rfl) rfl ?_
        refine WL.y (R.mv (v := .bool true) rfl) rfl ?_
        refine WL.y (R.mv (v := .pointer _) rfl) rfl ?_
        refine WL.y (R.eqlNil Try.underlying61 rfl) rfl ?_
        refine WL.y (R.pkT (v := .bool true) rfl rfl) rfl ?_
        refine WL.y (R.mv (v := .bool true) rfl) rfl ?_
        refine WL.call Try.func30 rfl rfl (awake18_calls _) rfl rfl ?_
        rintro _ w9 ⟨rfl, hx9⟩
        replace hS := hS.ext hx9
        replace hX := hX.tr hx9
        refine WL.y (R.pkT (v := .bool _) rfl rfl) rfl ?_
        refine WL.y (R.asg (v := .bool _) rfl) rfl ?_
        refine WL.nil ?_
        refine W.ret ?_
        exact PR.r1 rfl (.tmp rfl) ⟨rfl, hX⟩

theorem slOf_le {w : World} {F : Nat → Prop} {b : Nat} {c : Cfg} {p : PSt} {rx : RX} (H : RPool w F b c p rx) (v : Int) : (slOf p v).length ≤ 64 := by
  unfold slOf
  cases hg : pGet p v with
  | none => simp
  | some x =>
    unfold pGet at hg
    split at hg
    · exact H.sv x (List.mem_of_getElem? hg)
    · cases hg

theorem PoolsActs_good (l : List Int) (ms : List Mem) (acts : List Act3) (hok : ∀ x ∈ acts, okI x.a ∧ okI x.b) (a0 : Option Addr) (c0 : Nat) (a1 : Option Addr) (c1 : Nat) (a2 : Option Addr) (c2 : Nat) (w : World) (hL : Sli (fun n : Int => [i64 n]) 1 w a0 c0 l) (hM : Sli encMem 19 w a1 c1 ms) (hA : Sli encAct 3 w a2 c2 acts) (hm : memsOK ms = true) : CallV Try.prog 5 #[.slice a0 l.length c0, .slice a1 ms.length c1, .slice a2 acts.length c2] w fun v w' => v = bl true ∧ Ext w w' := by
  have hX : Ext w w := Ext.rfl' w
  have hU : ∀ k, (fun k => w.heap.size ≤ k) k → w.heap.size ≤ k := fun _ h => h
  have hS : Star (fun k => w.heap.size ≤ k) w [] := Star.nil fun _ h => h
  generalize (fun k => w.heap.size ≤ k) = U at hU hS
  refine Calls.of_W (N := 231) Try.func5 rfl rfl rfl ?_
  refine W.reg ?_
  refine WL.y (R.asg (v := .bool false) rfl) rfl ?_
  refine WL.nil ?_
  refine W.seq ?_
  refine W.reg ?_
  refine WL.y (R.mv (v := .slice _ _ _) rfl) rfl ?_
  refine WL.y (R.lenS Try.underlying22 rfl) rfl ?_
  refine WL.fork (R.gtr rfl rfl) rfl (fun hc1_2 => ?_) (fun hc1_2 => ?_)
  · skip
    replace hc1_2 := of_decide_eq_true hc1_2
    refine WL.y (R.mv (v := .bool true) rfl) rfl ?_
    refine WL.skip rfl ?_
    refine WL.skip rfl ?_
    refine WL.skip rfl ?_
    refine WL.y (R.pkT (v := .bool true) rfl rfl) rfl ?_
    refine WL.y (R.mv (v := .bool true) rfl) rfl ?_
    refine WL.skip rfl ?_
    refine WL.skip rfl ?_
    refine WL.skip rfl ?_
    refine WL.y (R.pkT (v := .bool true) rfl rfl) rfl ?_
    refine WL.nil ?_
    refine W.cond_t rfl ?_
    refine W.reg ?_
    refine WL.call Try.func30 rfl rfl (awake18_calls _) rfl rfl ?_
    rintro _ w1 ⟨rfl, hx1⟩
    replace hS := hS.ext hx1
    replace hX := hX.tr hx1
    refine WL.y (R.asg (v := .bool _) rfl) rfl ?_
    refine WL.nil ?_
    refine W.ret ?_
    exact PR.r1 rfl (.tmp rfl) ⟨rfl, hX⟩
  · skip
    replace hc1_2 := of_decide_eq_false hc1_2
    refine WL.y (R.mv (v := .bool false) rfl) rfl ?_
    refine WL.y (R.mv (v := .slice _ _ _) rfl) rfl ?_
    refine WL.y (R.lenS Try.underlying52 rfl) rfl ?_
    refine WL.fork (R.gtr rfl rfl) rfl (fun hc1_6 => ?_) (fun hc1_6 => ?_)
    · skip
      replace hc1_6 := of_decide_eq_true hc1_6
      refine WL.y (R.pkF (v := .bool true) rfl rfl) rfl ?_
      refine WL.y (R.mv (v := .bool true) rfl) rfl ?_
      refine WL.skip rfl ?_
      refine WL.skip rfl ?_
      refine WL.skip rfl ?_
      refine WL.y (R.pkT (v := .bool true) rfl rfl) rfl ?_
      refine WL.nil ?_
      refine W.cond_t rfl ?_
      refine W.reg ?_
      refine WL.call Try.func30 rfl rfl (awake18_calls _) rfl rfl ?_
      rintro _ w2 ⟨rfl, hx2⟩
      replace hS := hS.ext hx2
      replace hX := hX.tr hx2
      refine WL.y (R.asg (v := .bool _) rfl) rfl ?_
      refine WL.nil ?_
      refine W.ret ?_
      exact PR.r1 rfl (.tmp rfl) ⟨rfl, hX⟩
    · skip
      replace hc1_6 := of_decide_eq_false hc1_6
      refine WL.y (R.pkF (v := .bool false) rfl rfl) rfl ?_
      refine WL.y (R.mv (v := .bool false) rfl) rfl ?_
      refine WL.y (R.mv (v := .slice _ _ _) rfl) rfl ?_
      refine WL.y (R.lenS Try.underlying59 rfl) rfl ?_
      refine WL.fork (R.gtr rfl rfl) rfl (fun hc1_11 => ?_) (fun hc1_11 => ?_)
      · skip
        replace hc1_11 := of_decide_eq_true hc1_11
        refine WL.y (R.pkF (v := .bool true) rfl rfl) rfl ?_
        refine WL.nil ?_
        refine W.cond_t rfl ?_
        refine W.reg ?_
        refine WL.call Try.func30 rfl rfl (awake18_calls _) rfl rfl ?_
        rintro _ w3 ⟨rfl, hx3⟩
        replace hS := hS.ext hx3
        replace hX := hX.tr hx3
        refine WL.y (R.asg (v := .bool _) rfl) rfl ?_
        refine WL.nil ?_
        refine W.ret ?_
        exact PR.r1 rfl (.tmp rfl) ⟨rfl, hX⟩
      · skip
        replace hc1_11 := of_decide_eq_false hc1_11
        refine WL.y (R.pkF (v := .bool false) rfl rfl) rfl ?_
        refine WL.nil ?_
        refine W.cond_f rfl ?_
        refine W.skip ?_
        refine W.reg ?_
        refine WL.y (R.mv (v := .slice _ _ _) rfl) rfl ?_
        refine WL.call Try.func31 rfl rfl (Config_calls l (by omega) a0 c0 _ (hL.ext hX)) rfl rfl ?_
        rintro _ w4 ⟨rfl, hx4⟩
        replace hS := hS.ext hx4
        replace hX := hX.tr hx4
        refine WL.alloc zer33 rfl ?_
        intro b5 w5 hb5 hs5 hx5 hB5
        replace hS := hS.pushBox hb5 hx5 hB5
        replace hX := hX.tr hx5
        clear hB5 hs5
        refine WL.store (v := .agg _) siz33 rfl rfl rfl rfl hS.blk0 (Nat.le_of_ble_eq_true rfl) rfl rfl ?_
        intro w6 hu6 hz6 hn6
        have hN := hS.box0 hu6 hn6
        replace hS := hN.1
        replace hX := hN.2 _ hX hU
        clear hN hn6 hu6 hz6
        refine WL.nil ?_
        refine W.reg ?_
        refine WL.y (R.loadA agg33 rfl (hS.blk0).r rfl rfl) rfl ?_
        refine WL.y (R.mv (v := .slice _ _ _) rfl) rfl ?_
        refine WL.call Try.func32 rfl rfl (New_good (cfgOf l) (cfgOf_ok l) ms _ _ _ (hM.ext hX) hm) rfl rfl ?_
        rintro _ w7 ⟨⟨bp, rfl, hb7, hP7⟩, hx7⟩
        replace hS := hS.push hx7 (A := poolA bp (cfgOf l) (pNew (cfgOf l) ms)) hP7 (fun k hk => hk.1)
        replace hX := hX.tr hx7
        refine WL.y (R.mv (v := .tuple _) rfl) rfl ?_
        refine WL.y (R.extract rfl rfl) rfl ?_
        refine WL.y (R.extract rfl rfl) rfl ?_
        refine WL.y (R.asg (v := .pointer _) rfl) rfl ?_
        refine WL.y (R.asg (v := .int _ _) rfl) rfl ?_
        refine WL.nil ?_
        refine W.reg ?_
        refine WL.y (R.loadA agg33 rfl (hS.blk1).r rfl rfl) rfl ?_
        refine WL.y (R.mv (v := .slice _ _ _) rfl) rfl ?_
        refine WL.call Try.func33 rfl rfl (rNew_good (cfgOf l) (cfgOf_ok l) ms (by omega) _ _ _ (hM.ext hX) hm) rfl rfl ?_
        rintro _ w8 ⟨⟨br, rx0, rfl, hb8, hP8⟩, hx8⟩
        replace hS := hS.push hx8 (A := rpA br (cfgOf l) (pNew (cfgOf l) ms) rx0) hP8 (fun k hk => hk.1)
        replace hX := hX.tr hx8
        refine WL.y (R.asg (v := .pointer _) rfl) rfl ?_
        refine WL.nil ?_
        refine W.seq ?_
        refine W.reg ?_
        refine WL.y (R.mv (v := .pointer _) rfl) rfl ?_
        refine WL.y (R.eqlNil Try.underlying64 rfl) rfl ?_
        refine WL.nil ?_
        refine W.cond_f rfl ?_
        refine W.skip ?_
        refine W.seq ?_
        refine W.reg ?_
        refine WL.y (R.mv (v := .int _ _) rfl) rfl ?_
        refine WL.y (R.neqF rfl rfl rfl) rfl ?_
        refine WL.y (R.mv (v := .bool false) rfl) rfl ?_
        refine WL.y (R.mv (v := .pointer _) rfl) rfl ?_
        refine WL.y (R.eqlNil Try.underlying61 rfl) rfl ?_
        refine WL.y (R.pkF (v := .bool false) rfl rfl) rfl ?_
        refine WL.nil ?_
        refine W.cond_f rfl ?_
        refine W.skip ?_
        refine W.seq ?_
        refine W.reg ?_
        refine WL.y (R.asg (v := .int _ _) rfl) rfl ?_
        refine WL.nil ?_
        refine W.block ?_
        refine W.loopS (ι := Nat × PSt × RX) [(6, 7), (11, 21), (63, 230)] (fun q => [(11, i64 (q.1 : Nat))]) (fun q => acts.length - q.1) (fun q w' => (q.1 ≤ acts.length ∧ CNT q.2.1 q.1) ∧ Ext w w' ∧ Star U w' [rpA br (cfgOf l) q.2.1 q.2.2, poolA bp (cfgOf l) q.2.1, boxA b5 (encCfg (cfgOf l))]) ⟨0, pNew (cfgOf l) ms, rx0⟩ ⟨rfl, trivial⟩ ⟨⟨Nat.zero_le _, CNT.new _ _⟩, hX, hS⟩ ?_
        rintro ⟨i, p, rx⟩ j1 w_1 ⟨⟨hi, hcn⟩, hX, hS⟩
        dsimp only at hi hcn hX hS ⊢
        refine W.seq ?_
        refine W.reg ?_
        refine WL.y (R.mv (v := .int _ _) rfl) rfl ?_
        refine WL.y (R.mv (v := .slice _ _ _) rfl) rfl ?_
        refine WL.y (R.lenS Try.underlying59 rfl) rfl ?_
        refine WL.fork (R.lss rfl rfl) rfl (fun hc11_3 => ?_) (fun hc11_3 => ?_)
        · skip
          replace hc11_3 := of_decide_eq_true hc11_3
          refine WL.nil ?_
          refine W.cond_t rfl ?_
          refine W.skip ?_
          refine W.seq ?_
          refine W.block ?_
          refine W.reg ?_
          refine WL.y (R.mv (v := .slice _ _ _) rfl) rfl ?_
          refine WL.y (R.mv (v := .int _ _) rfl) rfl ?_
          obtain ⟨g_acts, o_acts, cs_acts, rfl, hO_acts⟩ := hA.op (by omega)
          obtain ⟨x, hx_acts⟩ : ∃ x, acts[i]? = some x := ⟨_, List.getElem?_eq_getElem (by omega)⟩
          have hxo := hok x (List.mem_of_getElem? hx_acts)
          refine WL.y (R.indexS Try.underlying59 siz67 rfl rfl rfl (by first | omega | (simp; done) | (simp; omega))) rfl ?_
          refine WL.y (R.loadA agg67 rfl ((hO_acts.ext hX).blk).r (hO_acts.at encActE hx_acts) (encActE.len x)) rfl ?_
          refine WL.alloc zer67 rfl ?_
          intro b9 w9 hb9 hs9 hx9 hB9
          replace hS := hS.pushBox hb9 hx9 hB9
          replace hX := hX.tr hx9
          clear hB9 hs9
          refine WL.store (v := .agg _) siz67 rfl rfl rfl rfl hS.blk0 (Nat.le_of_ble_eq_true rfl) rfl rfl ?_
          intro w10 hu10 hz10 hn10
          have hN := hS.box0 hu10 hn10
          replace hS := hN.1
          replace hX := hN.2 _ hX hU
          clear hN hn10 hu10 hz10
          refine WL.nil ?_
          refine W.seqX (ι := PSt × RX) [(6, 7), (13, 17), (73, 138)] (fun _ => []) (fun q w' => (CNT q.1 (i + 1)) ∧ Ext w w' ∧ Star U w' [boxA b9 (encAct x), rpA br (cfgOf l) q.1 q.2, poolA bp (cfgOf l) q.1, boxA b5 (encCfg (cfgOf l))]) ?_ ?_
          · skip
            refine W.reg ?_
            refine WL.y (R.fieldAddr fo67_0 rfl) rfl ?_
            refine WL.y (R.load sca3 rfl (hS.blk0).r rfl) rfl ?_
            refine WL.nil ?_
            refine W.block ?_
            refine W.reg ?_
            refine WL.fork (R.eql rfl rfl) rfl (fun hc15_0 => ?_) (fun hc15_0 => ?_)
            · skip
              replace hc15_0 := eq_of_beq hc15_0
              refine WL.y (R.asg (v := .bool true) rfl) rfl ?_
              refine WL.nil ?_
              refine W.cond_t rfl ?_
              refine W.reg ?_
              refine WL.y (R.mv (v := .pointer _) rfl) rfl ?_
              refine WL.y (R.fieldAddr fo67_1 rfl) rfl ?_
              refine WL.y (R.load sca3 rfl (hS.blk0).r rfl) rfl ?_
              refine WL.y (R.fieldAddr fo67_2 rfl) rfl ?_
              refine WL.y (R.load sca3 rfl (hS.blk0).r rfl) rfl ?_
              refine WL.call Try.func35 rfl rfl (some18_calls x.a x.b hxo.1 _) rfl rfl ?_
              rintro _ w11 ⟨⟨a11, c11, rfl, hl11, hf11⟩, hx11⟩
              replace hS := hS.pushSli hx11 hl11 hf11
              replace hX := hX.tr hx11
              by_cases hf : pFirst p = p.vs.length
              · skip
                obtain ⟨F12, hP12, -, -⟩ := hS.split3
                refine WL.call Try.func34 rfl rfl (Reserve_full F12 bp (cfgOf l) p _ hP12 (someM x.a x.b) _ _ (hS.sli0) (someM_ok _ _) hf) rfl rfl ?_
                rintro _ w12 ⟨rfl, hx12⟩
                clear hP12
                replace hS := hS.ext hx12
                replace hX := hX.tr hx12
                refine WL.y (R.mv (v := .tuple _) rfl) rfl ?_
                refine WL.y (R.extract rfl rfl) rfl ?_
                refine WL.y (R.extract rfl rfl) rfl ?_
                refine WL.y (R.asg (v := .int _ _) rfl) rfl ?_
                refine WL.y (R.asg (v := .int _ _) rfl) rfl ?_
                refine WL.nil ?_
                refine W.reg ?_
                refine WL.y (R.mv (v := .pointer _) rfl) rfl ?_
                refine WL.y (R.fieldAddr fo67_1 rfl) rfl ?_
                refine WL.y (R.load sca3 rfl (hS.blk1).r rfl) rfl ?_
                refine WL.y (R.fieldAddr fo67_2 rfl) rfl ?_
                refine WL.y (R.load sca3 rfl (hS.blk1).r rfl) rfl ?_
                refine WL.call Try.func35 rfl rfl (some18_calls x.a x.b hxo.1 _) rfl rfl ?_
                rintro _ w13 ⟨⟨a13, c13, rfl, hl13, hf13⟩, hx13⟩
                replace hS := hS.pushSli hx13 hl13 hf13
                replace hX := hX.tr hx13
                obtain ⟨F14, hP14, -, -⟩ := hS.split3
                refine WL.call Try.func36 rfl rfl (rReserve_full F14 br (cfgOf l) p rx _ hP14 (someM x.a x.b) _ _ (hS.sli0) (someM_ok _ _) hf) rfl rfl ?_
                rintro _ w14 ⟨rfl, hx14⟩
                clear hP14
                replace hS := hS.ext hx14
                replace hX := hX.tr hx14
                refine WL.y (R.mv (v := .tuple _) rfl) rfl ?_
                refine WL.y (R.extract rfl rfl) rfl ?_
                refine WL.y (R.extract rfl rfl) rfl ?_
                refine WL.y (R.asg (v := .int _ _) rfl) rfl ?_
                refine WL.y (R.asg (v := .int _ _) rfl) rfl ?_
                refine WL.nil ?_
                refine W.reg ?_
                refine WL.y (R.mv (v := .int _ _) rfl) rfl ?_
                refine WL.y (R.mv (v := .int _ _) rfl) rfl ?_
                refine WL.y (R.neqF rfl rfl rfl) rfl ?_
                refine WL.y (R.mv (v := .bool false) rfl) rfl ?_
                refine WL.y (R.mv (v := .int _ _) rfl) rfl ?_
                refine WL.y (R.mv (v := .int _ _) rfl) rfl ?_
                refine WL.y (R.neqF rfl rfl rfl) rfl ?_
                refine WL.y (R.pkF (v := .bool false) rfl rfl) rfl ?_
                refine WL.nil ?_
                refine W.cond_f rfl ?_
                refine W.skip ?_
                replace hS := hS.drop0
                replace hS := hS.drop0
                exact ⟨⟨p, rx⟩, (by repeat (first | exact Same.rfl' _ _ | refine Same.set _ rfl ?_ | refine Same.over' _ rfl ?_ | refine Same.sets rfl ?_)), trivial, rfl, hcn.mono, hX, hS⟩
              · skip
                obtain ⟨F12, hP12, hFU12, hR12, hf12⟩ := hS.splitR3
                refine WL.call Try.func34 rfl rfl (Reserve_ok F12 bp (cfgOf l) p _ hP12 (someM x.a x.b) _ _ (hS.sli0) (fun k hk => (hR12.sliD0 k hk).2) (someM_ok _ _) (by have := pFirst_le p; omega)) rfl rfl ?_
                rintro _ w12 ⟨G12, rfl, hu12, hQ12, hF12⟩
                replace hS := hf12 hu12 (B := poolA bp (cfgOf l) (pReserve (cfgOf l) p (someM x.a x.b))) hQ12 hF12
                replace hX := hX.putU hu12 (fun k hk => hU k (hFU12 k hk))
                clear hf12 hFU12 hP12 hu12 hQ12 hR12 hF12
                refine WL.y (R.mv (v := .tuple _) rfl) rfl ?_
                refine WL.y (R.extract rfl rfl) rfl ?_
                refine WL.y (R.extract rfl rfl) rfl ?_
                refine WL.y (R.asg (v := .int _ _) rfl) rfl ?_
                refine WL.y (R.asg (v := .int _ _) rfl) rfl ?_
                refine WL.nil ?_
                refine W.reg ?_
                refine WL.y (R.mv (v := .pointer _) rfl) rfl ?_
                refine WL.y (R.fieldAddr fo67_1 rfl) rfl ?_
                refine WL.y (R.load sca3 rfl (hS.blk1).r rfl) rfl ?_
                refine WL.y (R.fieldAddr fo67_2 rfl) rfl ?_
                refine WL.y (R.load sca3 rfl (hS.blk1).r rfl) rfl ?_
                refine WL.call Try.func35 rfl rfl (some18_calls x.a x.b hxo.1 _) rfl rfl ?_
                rintro _ w15 ⟨⟨a15, c15, rfl, hl15, hf15⟩, hx15⟩
                replace hS := hS.pushSli hx15 hl15 hf15
                replace hX := hX.tr hx15
                obtain ⟨F16, hP16, hFU16, hR16, hf16⟩ := hS.splitR3
                refine WL.call Try.func36 rfl rfl (rReserve_ok F16 br (cfgOf l) p rx _ hP16 (someM x.a x.b) _ _ (hS.sli0) (fun k hk => (hR16.sliD0 k hk).2) (someM_ok _ _) (by have := pFirst_le p; omega)) rfl rfl ?_
                rintro _ w16 ⟨G16, rx16, rfl, hu16, hQ16, hF16⟩
                replace hS := hf16 hu16 (B := rpA br (cfgOf l) (pReserve (cfgOf l) p (someM x.a x.b)) rx16) hQ16 hF16
                replace hX := hX.putU hu16 (fun k hk => hU k (hFU16 k hk))
                clear hf16 hFU16 hP16 hu16 hQ16 hR16 hF16
                refine WL.y (R.mv (v := .tuple _) rfl) rfl ?_
                refine WL.y (R.extract rfl rfl) rfl ?_
                refine WL.y (R.extract rfl rfl) rfl ?_
                refine WL.y (R.asg (v := .int _ _) rfl) rfl ?_
                refine WL.y (R.asg (v := .int _ _) rfl) rfl ?_
                refine WL.nil ?_
                refine W.reg ?_
                refine WL.y (R.mv (v := .int _ _) rfl) rfl ?_
                refine WL.y (R.mv (v := .int _ _) rfl) rfl ?_
                refine WL.y (R.neqF rfl rfl rfl) rfl ?_
                refine WL.y (R.mv (v := .bool false) rfl) rfl ?_
                refine WL.y (R.mv (v := .int _ _) rfl) rfl ?_
                refine WL.y (R.mv (v := .int _ _) rfl) rfl ?_
                refine WL.y (R.neqF rfl rfl rfl) rfl ?_
                refine WL.y (R.pkF (v := .bool false) rfl rfl) rfl ?_
                refine WL.nil ?_
                refine W.cond_f rfl ?_
                refine W.skip ?_
                replace hS := hS.drop0
                replace hS := hS.drop0
                exact ⟨⟨(pReserve (cfgOf l) p (someM x.a x.b)), rx16⟩, (by repeat (first | exact Same.rfl' _ _ | refine Same.set _ rfl ?_ | refine Same.over' _ rfl ?_ | refine Same.sets rfl ?_)), trivial, rfl, CNT.set hcn (by simp only; omega), hX, hS⟩
            · skip
              replace hc15_0 := beq_F hc15_0
              refine WL.y (R.asg (v := .bool false) rfl) rfl ?_
              refine WL.nil ?_
              refine W.cond_f rfl ?_
              refine W.reg ?_
              refine WL.fork (R.eql rfl rfl) rfl (fun hc20_0 => ?_) (fun hc20_0 => ?_)
              · skip
                replace hc20_0 := eq_of_beq hc20_0
                refine WL.y (R.asg (v := .bool true) rfl) rfl ?_
                refine WL.nil ?_
                refine W.cond_t rfl ?_
                refine W.seq ?_
                have hI17 := (Ext.dr w10).blk hS.blk0
                refine W.draw (fun j => [1000].contains j) (fun wI => Blk wI b9 (encAct x)) rfl ?_
                refine WA.batch [0, 1, 2, 4, 5, 6] 3 (by kernel_rfl) hI17 ?_
                refine QL.y (fun wq hq => (R.mv (v := .pointer _) rfl)) rfl ?_
                refine QL.y (fun wq hq => (R.fieldAddr fo67_1 rfl)) rfl ?_
                refine QL.y (fun wq hq => (R.load sca3 rfl hq.r rfl)) rfl ?_
                refine QL.y (fun wq hq => (R.mv (v := .pointer _) rfl)) rfl ?_
                refine QL.y (fun wq hq => (R.fieldAddr fo67_1 rfl)) rfl ?_
                refine QL.y (fun wq hq => (R.load sca3 rfl hq.r rfl)) rfl ?_
                refine QL.nil ?_
                have hD17 := Ext.dr w10
                have hD17z := hD17.size
                have hS0 := hS
                have hXo := hX
                replace hS := hS.ext hD17
                replace hX := hX.tr hD17
                refine WA.one 3 2 (by kernel_rfl) ?_
                have hX0 := hX
                by_cases hb : pRes p x.a = true
                · skip
                  obtain ⟨k, y, hk, hy, hres, hlv⟩ := pRes_at hb
                  obtain ⟨F18, hP18, hFU18, hf18⟩ := hS.split2
                  refine WL.call (vs := [.pointer (some ⟨bp, 0, none⟩), i64 (k : Nat)]) Try.func37 rfl rfl (Serve_ok F18 bp (cfgOf l) p _ hP18 k y hlv hy hres) (by rw [← hk]; rfl) rfl ?_
                  rintro _ w18 ⟨rfl, hu18, hQ18⟩
                  replace hS := hf18 hu18 (B := poolA bp (cfgOf l) (⟨p.vs.set k ⟨y.slots, y.refs, false⟩, k, p.last, p.sl⟩ : PSt)) hQ18 (fun k hk => .inl hk)
                  replace hX := hX.putU hu18 (fun k hk => hU k (hFU18 k hk))
                  clear hf18 hFU18 hP18 hu18 hQ18
                  refine WL.nil ?_
                  refine ⟨fun _ _ => hS.blk0, ?_⟩
                  replace hI17 := hS.blk0
                  clear hX0
                  refine WA.one 7 1 (by kernel_rfl) ?_
                  have hX0 := hX
                  obtain ⟨F19, hP19, hFU19, hf19⟩ := hS.split1
                  refine WL.call (vs := [.pointer (some ⟨br, 0, none⟩), i64 (k : Nat)]) Try.func38 rfl rfl (rServe_ok F19 br (cfgOf l) p rx _ hP19 k y hy hres) (by rw [← hk]; rfl) rfl ?_
                  rintro _ w19 ⟨rx19, rfl, hu19, hQ19⟩
                  replace hS := hf19 hu19 (B := rpA br (cfgOf l) (⟨p.vs.set k ⟨y.slots, y.refs, false⟩, k, p.last, p.sl⟩ : PSt) rx19) hQ19 (fun k hk => .inl hk)
                  replace hX := hX.putU hu19 (fun k hk => hU k (hFU19 k hk))
                  clear hf19 hFU19 hP19 hu19 hQ19
                  refine WL.nil ?_
                  refine ⟨fun _ _ => hS.blk0, ?_⟩
                  replace hI17 := hS.blk0
                  clear hX0
                  refine WA.pures [8] 0 (by kernel_rfl) ?_
                  refine QL.y (fun wq hq => (R.neqF rfl rfl rfl)) rfl ?_
                  refine QL.nil ?_
                  refine WA.done (by kernel_rfl) ?_
                  refine W.cond_f rfl ?_
                  refine W.skip ?_
                  exact ⟨⟨(⟨p.vs.set k ⟨y.slots, y.refs, false⟩, k, p.last, p.sl⟩ : PSt), rx19⟩, (by repeat (first | exact Same.rfl' _ _ | refine Same.set _ rfl ?_ | refine Same.over' _ rfl ?_ | refine Same.sets rfl ?_)), trivial, rfl, CNT.set hcn (by have := hcn y (List.mem_of_getElem? hy); simp only; omega), hX, hS⟩
                · skip
                  replace hb := Bool.eq_false_iff.2 hb
                  obtain ⟨F18, hP18, -, -⟩ := hS.split2
                  refine WL.call Try.func37 rfl rfl (Serve_err F18 bp (cfgOf l) p _ hP18 x.a hb) rfl rfl ?_
                  rintro _ w18 ⟨rfl, hx18⟩
                  replace hS := hS.ext hx18
                  replace hX := hX.tr hx18
                  clear hP18
                  refine WL.nil ?_
                  refine ⟨fun _ _ => hS.blk0, ?_⟩
                  replace hI17 := hS.blk0
                  clear hX0
                  refine WA.one 7 1 (by kernel_rfl) ?_
                  have hX0 := hX
                  obtain ⟨F20, hP20, -, -⟩ := hS.split1
                  refine WL.call Try.func38 rfl rfl (rServe_err F20 br (cfgOf l) p rx _ hP20 x.a hb) rfl rfl ?_
                  rintro _ w20 ⟨rfl, hx20⟩
                  replace hS := hS.ext hx20
                  replace hX := hX.tr hx20
                  clear hP20
                  refine WL.nil ?_
                  refine ⟨fun _ _ => hS.blk0, ?_⟩
                  replace hI17 := hS.blk0
                  clear hX0
                  refine WA.pures [8] 0 (by kernel_rfl) ?_
                  refine QL.y (fun wq hq => (R.neqF rfl rfl rfl)) rfl ?_
                  refine QL.nil ?_
                  refine WA.done (by kernel_rfl) ?_
                  refine W.cond_f rfl ?_
                  refine W.skip ?_
                  exact ⟨⟨p, rx⟩, (by repeat (first | exact Same.rfl' _ _ | refine Same.set _ rfl ?_ | refine Same.over' _ rfl ?_ | refine Same.sets rfl ?_)), trivial, rfl, hcn.mono, hX, hS⟩
              · skip
                replace hc20_0 := beq_F hc20_0
                refine WL.y (R.asg (v := .bool false) rfl) rfl ?_
                refine WL.nil ?_
                refine W.cond_f rfl ?_
                refine W.reg ?_
                refine WL.fork (R.eql rfl rfl) rfl (fun hc23_0 => ?_) (fun hc23_0 => ?_)
                · skip
                  replace hc23_0 := eq_of_beq hc23_0
                  refine WL.y (R.asg (v := .bool true) rfl) rfl ?_
                  refine WL.nil ?_
                  refine W.cond_t rfl ?_
                  refine W.seq ?_
                  have hI21 := (Ext.dr w10).blk hS.blk0
                  refine W.draw (fun j => [1000].contains j) (fun wI => Blk wI b9 (encAct x)) rfl ?_
                  refine WA.batch [0, 1, 2, 4, 5, 6] 3 (by kernel_rfl) hI21 ?_
                  refine QL.y (fun wq hq => (R.mv (v := .pointer _) rfl)) rfl ?_
                  refine QL.y (fun wq hq => (R.fieldAddr fo67_1 rfl)) rfl ?_
                  refine QL.y (fun wq hq => (R.load sca3 rfl hq.r rfl)) rfl ?_
                  refine QL.y (fun wq hq => (R.mv (v := .pointer _) rfl)) rfl ?_
                  refine QL.y (fun wq hq => (R.fieldAddr fo67_1 rfl)) rfl ?_
                  refine QL.y (fun wq hq => (R.load sca3 rfl hq.r rfl)) rfl ?_
                  refine QL.nil ?_
                  have hD21 := Ext.dr w10
                  have hD21z := hD21.size
                  have hS0 := hS
                  have hXo := hX
                  replace hS := hS.ext hD21
                  replace hX := hX.tr hD21
                  refine WA.one 3 2 (by kernel_rfl) ?_
                  have hX0 := hX
                  by_cases hb : pLive p x.a = true
                  · skip
                    obtain ⟨k, y, hk, hy⟩ := pLive_get hb
                    have hlk : pLive p (k : Nat) = true := by rw [← hk]; exact hb
                    have hcy := hcn y (List.mem_of_getElem? hy)
                    obtain ⟨F22, hP22, hFU22, hf22⟩ := hS.split2
                    refine WL.call (vs := [.pointer (some ⟨bp, 0, none⟩), i64 (k : Nat)]) Try.func39 rfl rfl (Ref_ok F22 bp (cfgOf l) p _ hP22 k y hlk hy (by omega)) (by rw [← hk]; rfl) rfl ?_
                    rintro _ w22 ⟨rfl, hu22, hQ22⟩
                    replace hS := hf22 hu22 (B := poolA bp (cfgOf l) (pSet p k ⟨y.slots, y.refs + 1, y.res⟩)) hQ22 (fun k hk => .inl hk)
                    replace hX := hX.putU hu22 (fun k hk => hU k (hFU22 k hk))
                    clear hf22 hFU22 hP22 hu22 hQ22
                    refine WL.nil ?_
                    refine ⟨fun _ _ => hS.blk0, ?_⟩
                    replace hI21 := hS.blk0
                    clear hX0
                    refine WA.one 7 1 (by kernel_rfl) ?_
                    have hX0 := hX
                    obtain ⟨F23, hP23, hFU23, hf23⟩ := hS.split1
                    refine WL.call (vs := [.pointer (some ⟨br, 0, none⟩), i64 (k : Nat)]) Try.func40 rfl rfl (rRef_ok F23 br (cfgOf l) p rx _ hP23 k y hlk hy (by omega)) (by rw [← hk]; rfl) rfl ?_
                    rintro _ w23 ⟨rx23, rfl, hu23, hQ23⟩
                    replace hS := hf23 hu23 (B := rpA br (cfgOf l) (pSet p k ⟨y.slots, y.refs + 1, y.res⟩) rx23) hQ23 (fun k hk => .inl hk)
                    replace hX := hX.putU hu23 (fun k hk => hU k (hFU23 k hk))
                    clear hf23 hFU23 hP23 hu23 hQ23
                    refine WL.nil ?_
                    refine ⟨fun _ _ => hS.blk0, ?_⟩
                    replace hI21 := hS.blk0
                    clear hX0
                    refine WA.pures [8] 0 (by kernel_rfl) ?_
                    refine QL.y (fun wq hq => (R.neqF rfl rfl rfl)) rfl ?_
                    refine QL.nil ?_
                    refine WA.done (by kernel_rfl) ?_
                    refine W.cond_f rfl ?_
                    refine W.skip ?_
                    exact ⟨⟨(pSet p k ⟨y.slots, y.refs + 1, y.res⟩), rx23⟩, (by repeat (first | exact Same.rfl' _ _ | refine Same.set _ rfl ?_ | refine Same.over' _ rfl ?_ | refine Same.sets rfl ?_)), trivial, rfl, CNT.set hcn (by simp only; omega), hX, hS⟩
                  · skip
                    replace hb := Bool.eq_false_iff.2 hb
                    obtain ⟨F22, hP22, -, -⟩ := hS.split2
                    refine WL.call Try.func39 rfl rfl (Ref_dead F22 bp (cfgOf l) p _ hP22 x.a hb) rfl rfl ?_
                    rintro _ w22 ⟨rfl, hx22⟩
                    replace hS := hS.ext hx22
                    replace hX := hX.tr hx22
                    clear hP22
                    refine WL.nil ?_
                    refine ⟨fun _ _ => hS.blk0, ?_⟩
                    replace hI21 := hS.blk0
                    clear hX0
                    refine WA.one 7 1 (by kernel_rfl) ?_
                    have hX0 := hX
                    obtain ⟨F24, hP24, -, -⟩ := hS.split1
                    refine WL.call Try.func40 rfl rfl (rRef_dead F24 br (cfgOf l) p rx _ hP24 x.a hb) rfl rfl ?_
                    rintro _ w24 ⟨rfl, hx24⟩
                    replace hS := hS.ext hx24
                    replace hX := hX.tr hx24
                    clear hP24
                    refine WL.nil ?_
                    refine ⟨fun _ _ => hS.blk0, ?_⟩
                    replace hI21 := hS.blk0
                    clear hX0
                    refine WA.pures [8] 0 (by kernel_rfl) ?_
                    refine QL.y (fun wq hq => (R.neqF rfl rfl rfl)) rfl ?_
                    refine QL.nil ?_
                    refine WA.done (by kernel_rfl) ?_
                    refine W.cond_f rfl ?_
                    refine W.skip ?_
                    exact ⟨⟨p, rx⟩, (by repeat (first | exact Same.rfl' _ _ | refine Same.set _ rfl ?_ | refine Same.over' _ rfl ?_ | refine Same.sets rfl ?_)), trivial, rfl, hcn.mono, hX, hS⟩
                · skip
                  replace hc23_0 := beq_F hc23_0
                  refine WL.y (R.asg (v := .bool false) rfl) rfl ?_
                  refine WL.nil ?_
                  refine W.cond_f rfl ?_
                  refine W.reg ?_
                  refine WL.fork (R.eql rfl rfl) rfl (fun hc26_0 => ?_) (fun hc26_0 => ?_)
                  · skip
                    replace hc26_0 := eq_of_beq hc26_0
                    refine WL.y (R.asg (v := .bool true) rfl) rfl ?_
                    refine WL.nil ?_
                    refine W.cond_t rfl ?_
                    refine W.seq ?_
                    have hI25 := (Ext.dr w10).blk hS.blk0
                    refine W.draw (fun j => [1000].contains j) (fun wI => Blk wI b9 (encAct x)) rfl ?_
                    refine WA.batch [0, 1, 2, 4, 5, 6] 3 (by kernel_rfl) hI25 ?_
                    refine QL.y (fun wq hq => (R.mv (v := .pointer _) rfl)) rfl ?_
                    refine QL.y (fun wq hq => (R.fieldAddr fo67_1 rfl)) rfl ?_
                    refine QL.y (fun wq hq => (R.load sca3 rfl hq.r rfl)) rfl ?_
                    refine QL.y (fun wq hq => (R.mv (v := .pointer _) rfl)) rfl ?_
                    refine QL.y (fun wq hq => (R.fieldAddr fo67_1 rfl)) rfl ?_
                    refine QL.y (fun wq hq => (R.load sca3 rfl hq.r rfl)) rfl ?_
                    refine QL.nil ?_
                    have hD25 := Ext.dr w10
                    have hD25z := hD25.size
                    have hS0 := hS
                    have hXo := hX
                    replace hS := hS.ext hD25
                    replace hX := hX.tr hD25
                    refine WA.one 3 2 (by kernel_rfl) ?_
                    have hX0 := hX
                    rcases (show (∃ (k : Nat) (y : Ver), x.a = k ∧ p.vs[k]? = some y ∧ pLive p (k : Nat) = true ∧ 0 ≤ y.refs ∧ y.refs ≤ i ∧ ¬ y.refs = 0) ∨ (∃ (k : Nat) (y : Ver), x.a = k ∧ p.vs[k]? = some y ∧ pLive p (k : Nat) = true ∧ y.refs = 0) ∨ pLive p x.a = false from by
                      cases hb : pLive p x.a with
                      | false => exact .inr (.inr rfl)
                      | true =>
                        obtain ⟨k, y, hk, hy⟩ := pLive_get hb
                        rw [hk] at hb
                        have hcy := hcn y (List.mem_of_getElem? hy)
                        by_cases h0 : y.refs = 0
                        · exact .inr (.inl ⟨k, y, hk, hy, hb, h0⟩)
                        · exact .inl ⟨k, y, hk, hy, hb, hcy.1, hcy.2, h0⟩) with ⟨k, y, hk, hy, hlk, hc1, hc2, hc3⟩ | ⟨k, y, hk, hy, hlk, hc0⟩ | hb
                    · skip
                      obtain ⟨F26, hP26, hFU26, hf26⟩ := hS.split2
                      refine WL.call (vs := [.pointer (some ⟨bp, 0, none⟩), i64 (k : Nat)]) Try.func41 rfl rfl (Unref_ok F26 bp (cfgOf l) p _ hP26 k y hlk hy (by omega)) (by rw [← hk]; rfl) rfl ?_
                      rintro _ w26 ⟨rfl, hu26, hQ26⟩
                      replace hS := hf26 hu26 (B := poolA bp (cfgOf l) (pSet p k ⟨y.slots, y.refs - 1, y.res⟩)) hQ26 (fun k hk => .inl hk)
                      replace hX := hX.putU hu26 (fun k hk => hU k (hFU26 k hk))
                      clear hf26 hFU26 hP26 hu26 hQ26
                      refine WL.nil ?_
                      refine ⟨fun _ _ => hS.blk0, ?_⟩
                      replace hI25 := hS.blk0
                      clear hX0
                      refine WA.one 7 1 (by kernel_rfl) ?_
                      have hX0 := hX
                      obtain ⟨F27, hP27, hFU27, hf27⟩ := hS.split1
                      refine WL.call (vs := [.pointer (some ⟨br, 0, none⟩), i64 (k : Nat)]) Try.func42 rfl rfl (rUnref_ok F27 br (cfgOf l) p rx _ hP27 k y hlk hy (by omega)) (by rw [← hk]; rfl) rfl ?_
                      rintro _ w27 ⟨rx27, rfl, hu27, hQ27⟩
                      replace hS := hf27 hu27 (B := rpA br (cfgOf l) (pSet p k ⟨y.slots, y.refs - 1, y.res⟩) rx27) hQ27 (fun k hk => .inl hk)
                      replace hX := hX.putU hu27 (fun k hk => hU k (hFU27 k hk))
                      clear hf27 hFU27 hP27 hu27 hQ27
                      refine WL.nil ?_
                      refine ⟨fun _ _ => hS.blk0, ?_⟩
                      replace hI25 := hS.blk0
                      clear hX0
                      refine WA.pures [8] 0 (by kernel_rfl) ?_
                      refine QL.y (fun wq hq => (R.neqF rfl rfl rfl)) rfl ?_
                      refine QL.nil ?_
                      refine WA.done (by kernel_rfl) ?_
                      refine W.cond_f rfl ?_
                      refine W.skip ?_
                      exact ⟨⟨(pSet p k ⟨y.slots, y.refs - 1, y.res⟩), rx27⟩, (by repeat (first | exact Same.rfl' _ _ | refine Same.set _ rfl ?_ | refine Same.over' _ rfl ?_ | refine Same.sets rfl ?_)), trivial, rfl, CNT.set hcn (by simp only; omega), hX, hS⟩
                    · skip
                      obtain ⟨F26, hP26, -, -⟩ := hS.split2
                      refine WL.call (vs := [.pointer (some ⟨bp, 0, none⟩), i64 (k : Nat)]) Try.func41 rfl rfl (Unref_busy F26 bp (cfgOf l) p _ hP26 k y hlk hy hc0) (by rw [← hk]; rfl) rfl ?_
                      rintro _ w26 ⟨rfl, hx26⟩
                      clear hP26
                      replace hS := hS.ext hx26
                      replace hX := hX.tr hx26
                      refine WL.nil ?_
                      refine ⟨fun _ _ => hS.blk0, ?_⟩
                      replace hI25 := hS.blk0
                      clear hX0
                      refine WA.one 7 1 (by kernel_rfl) ?_
                      have hX0 := hX
                      obtain ⟨F28, hP28, -, -⟩ := hS.split1
                      refine WL.call (vs := [.pointer (some ⟨br, 0, none⟩), i64 (k : Nat)]) Try.func42 rfl rfl (rUnref_busy F28 br (cfgOf l) p rx _ hP28 k y hlk hy hc0) (by rw [← hk]; rfl) rfl ?_
                      rintro _ w28 ⟨rfl, hx28⟩
                      clear hP28
                      replace hS := hS.ext hx28
                      replace hX := hX.tr hx28
                      refine WL.nil ?_
                      refine ⟨fun _ _ => hS.blk0, ?_⟩
                      replace hI25 := hS.blk0
                      clear hX0
                      refine WA.pures [8] 0 (by kernel_rfl) ?_
                      refine QL.y (fun wq hq => (R.neqF rfl rfl rfl)) rfl ?_
                      refine QL.nil ?_
                      refine WA.done (by kernel_rfl) ?_
                      refine W.cond_f rfl ?_
                      refine W.skip ?_
                      exact ⟨⟨p, rx⟩, (by repeat (first | exact Same.rfl' _ _ | refine Same.set _ rfl ?_ | refine Same.over' _ rfl ?_ | refine Same.sets rfl ?_)), trivial, rfl, hcn.mono, hX, hS⟩
                    · skip
                      obtain ⟨F26, hP26, -, -⟩ := hS.split2
                      refine WL.call Try.func41 rfl rfl (Unref_dead F26 bp (cfgOf l) p _ hP26 x.a hb) rfl rfl ?_
                      rintro _ w26 ⟨rfl, hx26⟩
                      replace hS := hS.ext hx26
                      replace hX := hX.tr hx26
                      clear hP26
                      refine WL.nil ?_
                      refine ⟨fun _ _ => hS.blk0, ?_⟩
                      replace hI25 := hS.blk0
                      clear hX0
                      refine WA.one 7 1 (by kernel_rfl) ?_
                      have hX0 := hX
                      obtain ⟨F29, hP29, -, -⟩ := hS.split1
                      refine WL.call Try.func42 rfl rfl (rUnref_dead F29 br (cfgOf l) p rx _ hP29 x.a hb) rfl rfl ?_
                      rintro _ w29 ⟨rfl, hx29⟩
                      replace hS := hS.ext hx29
                      replace hX := hX.tr hx29
                      clear hP29
                      refine WL.nil ?_
                      refine ⟨fun _ _ => hS.blk0, ?_⟩
                      replace hI25 := hS.blk0
                      clear hX0
                      refine WA.pures [8] 0 (by kernel_rfl) ?_
                      refine QL.y (fun wq hq => (R.neqF rfl rfl rfl)) rfl ?_
                      refine QL.nil ?_
                      refine WA.done (by kernel_rfl) ?_
                      refine W.cond_f rfl ?_
                      refine W.skip ?_
                      exact ⟨⟨p, rx⟩, (by repeat (first | exact Same.rfl' _ _ | refine Same.set _ rfl ?_ | refine Same.over' _ rfl ?_ | refine Same.sets rfl ?_)), trivial, rfl, hcn.mono, hX, hS⟩
                  · skip
                    replace hc26_0 := beq_F hc26_0
                    refine WL.y (R.asg (v := .bool false) rfl) rfl ?_
                    refine WL.nil ?_
                    refine W.cond_f rfl ?_
                    refine W.skip ?_
                    exact ⟨⟨p, rx⟩, (by repeat (first | exact Same.rfl' _ _ | refine Same.set _ rfl ?_ | refine Same.over' _ rfl ?_ | refine Same.sets rfl ?_)), trivial, rfl, hcn.mono, hX, hS⟩
          · skip
            rintro ⟨p, rx⟩ j2 w_2 ⟨hcn, hX, hS⟩
            dsimp only at hcn hX hS ⊢
            refine W.seq ?_
            refine W.seq ?_
            refine W.draw (fun j => [1000].contains j) (fun wI => Ext w_2 wI) rfl ?_
            have hI30 := Ext.dr w_2
            refine WA.batch [0, 2, 3, 4, 5] 29 (by kernel_rfl) hI30 ?_
            refine QL.y (fun wq hq => (R.mv (v := .pointer _) rfl)) rfl ?_
            refine QL.y (fun wq hq => (R.mv (v := .pointer _) rfl)) rfl ?_
            refine QL.y (fun wq hq => (R.nilCheck rfl)) rfl ?_
            refine QL.y (fun wq hq => (R.fieldAddr fo75_2 rfl)) rfl ?_
            refine QL.y (fun wq hq => (R.load sca3 rfl (hq.blkR (((hS.get1).elim fun _ h => RPool.blk h.1)).r) rfl)) rfl ?_
            refine QL.nil ?_
            have hD30 := Ext.dr w_2
            have hD30z := hD30.size
            have hS0 := hS
            have hXo := hX
            replace hS := hS.ext hD30
            replace hX := hX.tr hD30
            refine WA.one 1 28 (by kernel_rfl) ?_
            have hX0 := hX
            have hIz31 := hI30.size
            obtain ⟨F31, hP31, -, -⟩ := hS.split2
            refine WL.call Try.func43 rfl rfl (Now_calls F31 bp (cfgOf l) p _ hP31 ) rfl rfl ?_
            rintro _ w31 ⟨rfl, hx31⟩
            replace hS := hS.ext hx31
            replace hX := hX.tr hx31
            clear hP31
            refine WL.nil ?_
            refine ⟨fun _ h => h.tr hx31, ?_⟩
            replace hI30 := hI30.tr hx31
            clear hX0
            refine WA.batch [6, 7, 8, 10, 11, 12, 13] 21 (by kernel_rfl) hI30 ?_
            refine QL.y (fun wq hq => (R.neqF rfl rfl rfl)) rfl ?_
            refine QL.y (fun wq hq => (R.mv (v := .bool false) rfl)) rfl ?_
            refine QL.y (fun wq hq => (R.mv (v := .pointer _) rfl)) rfl ?_
            refine QL.y (fun wq hq => (R.mv (v := .pointer _) rfl)) rfl ?_
            refine QL.y (fun wq hq => (R.nilCheck rfl)) rfl ?_
            refine QL.y (fun wq hq => (R.fieldAddr fo75_4 rfl)) rfl ?_
            refine QL.y (fun wq hq => (R.load sca52 rfl (hq.blkR (((hS0.get1).elim fun _ h => RPool.blk h.1)).r) rfl)) rfl ?_
            refine QL.nil ?_
            refine WA.one 9 20 (by kernel_rfl) ?_
            have hX0 := hX
            have hIz32 := hI30.size
            obtain ⟨F32, hP32, -, -⟩ := hS.split2
            refine WL.call Try.func45 rfl rfl (Last_calls F32 bp (cfgOf l) p _ hP32 ) rfl rfl ?_
            rintro _ w32 ⟨⟨a32, c32, rfl, hl32, hf32⟩, hx32⟩
            replace hS := hS.pushSli hx32 hl32 hf32
            replace hX := hX.tr hx32
            clear hP32
            refine WL.nil ?_
            refine ⟨fun _ h => h.tr hx32, ?_⟩
            replace hI30 := hI30.tr hx32
            clear hX0
            refine WA.one 14 19 (by kernel_rfl) ?_
            have hX0 := hX
            have hIz33 := hI30.size
            obtain ⟨_, hRm, -⟩ := hS.get2
            refine WL.call Try.func44 rfl rfl ((Members_calls p.last p.last (by have := hRm.l32; omega) _ _ _ _ _ (hS.sli0) hRm.last).val (y := bl true) (by rw [decide_eq_true rfl])) rfl rfl ?_
            rintro _ w33 ⟨rfl, hx33⟩
            clear hRm
            replace hS := hS.ext hx33
            replace hX := hX.tr hx33
            refine WL.nil ?_
            refine ⟨fun _ h => h.tr hx33, ?_⟩
            replace hI30 := hI30.tr hx33
            clear hX0
            refine WA.pures [15, 16, 17, 18, 20] 14 (by kernel_rfl) ?_
            refine QL.y (fun wq hq => (R.notT rfl)) rfl ?_
            refine QL.y (fun wq hq => (R.pkF (v := .bool false) rfl rfl)) rfl ?_
            refine QL.y (fun wq hq => (R.mv (v := .bool false) rfl)) rfl ?_
            refine QL.y (fun wq hq => (R.mv (v := .pointer _) rfl)) rfl ?_
            refine QL.y (fun wq hq => (R.mv (v := .pointer _) rfl)) rfl ?_
            refine QL.nil ?_
            refine WA.one 19 13 (by kernel_rfl) ?_
            have hX0 := hX
            have hIz34 := hI30.size
            obtain ⟨F34, hP34, -, -⟩ := hS.split3
            refine WL.call Try.func47 rfl rfl (live18_calls F34 bp (cfgOf l) p _ hP34 (-1)) rfl rfl ?_
            rintro _ w34 ⟨⟨a34, c34, rfl, hl34, hf34⟩, hx34⟩
            replace hS := hS.pushSli hx34 hl34 hf34
            replace hX := hX.tr hx34
            clear hP34
            refine WL.nil ?_
            refine ⟨fun _ h => h.tr hx34, ?_⟩
            replace hI30 := hI30.tr hx34
            clear hX0
            refine WA.one 21 12 (by kernel_rfl) ?_
            have hX0 := hX
            have hIz35 := hI30.size
            obtain ⟨F35, hP35, -, -⟩ := hS.split3
            refine WL.call Try.func48 rfl rfl (rLive_calls F35 br (cfgOf l) p rx _ hP35 ) rfl rfl ?_
            rintro _ w35 ⟨⟨a35, c35, rfl, hl35, hf35⟩, hx35⟩
            replace hS := hS.pushSli hx35 hl35 hf35
            replace hX := hX.tr hx35
            clear hP35
            refine WL.nil ?_
            refine ⟨fun _ h => h.tr hx35, ?_⟩
            replace hI30 := hI30.tr hx35
            clear hX0
            refine WA.one 22 11 (by kernel_rfl) ?_
            have hX0 := hX
            have hIz36 := hI30.size
            obtain ⟨_, hRm, -⟩ := hS.get4
            have hll := liveL_pos hRm
            refine WL.call (vs := [.slice a34 (ofNats (takeM (-1) (liveL p))).length c34, .slice a35 (ofNats (liveL p)).length c35]) Try.func46 rfl rfl ((Ints_calls (ofNats (takeM (-1) (liveL p))) (ofNats (liveL p)) (by simp only [ofNats, List.length_map, takeM]; rw [if_neg (by decide)]; omega) _ _ _ _ _ (hS.sli1) (hS.sli0)).val (y := bl true) (by rw [decide_eq_true (show ofNats (takeM (-1) (liveL p)) = ofNats (liveL p) by rfl)])) (by rw [show (ofNats (takeM (-1) (liveL p))).length = (takeM (-1) (liveL p)).length by simp [ofNats]]; rfl) rfl ?_
            rintro _ w36 ⟨rfl, hx36⟩
            clear hRm
            replace hS := hS.ext hx36
            replace hX := hX.tr hx36
            refine WL.nil ?_
            refine ⟨fun _ h => h.tr hx36, ?_⟩
            replace hI30 := hI30.tr hx36
            clear hX0
            refine WA.pures [23, 24, 25, 26, 28] 6 (by kernel_rfl) ?_
            refine QL.y (fun wq hq => (R.notT rfl)) rfl ?_
            refine QL.y (fun wq hq => (R.pkF (v := .bool false) rfl rfl)) rfl ?_
            refine QL.y (fun wq hq => (R.mv (v := .bool false) rfl)) rfl ?_
            refine QL.y (fun wq hq => (R.mv (v := .pointer _) rfl)) rfl ?_
            refine QL.y (fun wq hq => (R.mv (v := .pointer _) rfl)) rfl ?_
            refine QL.nil ?_
            refine WA.one 27 5 (by kernel_rfl) ?_
            have hX0 := hX
            have hIz37 := hI30.size
            obtain ⟨F37, hP37, -, -⟩ := hS.split5
            refine WL.call Try.func47 rfl rfl (live18_calls F37 bp (cfgOf l) p _ hP37 1) rfl rfl ?_
            rintro _ w37 ⟨⟨a37, c37, rfl, hl37, hf37⟩, hx37⟩
            replace hS := hS.pushSli hx37 hl37 hf37
            replace hX := hX.tr hx37
            clear hP37
            refine WL.nil ?_
            refine ⟨fun _ h => h.tr hx37, ?_⟩
            replace hI30 := hI30.tr hx37
            clear hX0
            refine WA.one 29 4 (by kernel_rfl) ?_
            have hX0 := hX
            have hIz38 := hI30.size
            obtain ⟨F38, hP38, -, -⟩ := hS.split5
            refine WL.call Try.func48 rfl rfl (rLive_calls F38 br (cfgOf l) p rx _ hP38 ) rfl rfl ?_
            rintro _ w38 ⟨⟨a38, c38, rfl, hl38, hf38⟩, hx38⟩
            replace hS := hS.pushSli hx38 hl38 hf38
            replace hX := hX.tr hx38
            clear hP38
            have hlec := Sli.lec (hS.sli0)
            refine WL.nil ?_
            refine ⟨fun _ h => h.tr hx38, ?_⟩
            replace hI30 := hI30.tr hx38
            clear hX0
            refine WA.pures [30] 3 (by kernel_rfl) ?_
            refine QL.y (fun wq hq => (R.sliceH Try.underlying22 siz3 rfl (h := 1) rfl (by omega))) rfl ?_
            refine QL.nil ?_
            refine WA.one 31 2 (by kernel_rfl) ?_
            have hX0 := hX
            have hIz39 := hI30.size
            obtain ⟨_, hRm, -⟩ := hS.get6
            have hll := liveL_pos hRm
            refine WL.call (vs := [.slice a37 (ofNats (takeM 1 (liveL p))).length c37, .slice a38 ((ofNats (liveL p)).take 1).length c38]) Try.func46 rfl rfl ((Ints_calls (ofNats (takeM 1 (liveL p))) ((ofNats (liveL p)).take 1) (by simp only [ofNats, List.length_map, takeM]; simp; omega) _ _ _ _ _ (hS.sli1) (Sli.takeL encI (hS.sli0) 1)).val (y := bl true) (by rw [decide_eq_true (show ofNats (takeM 1 (liveL p)) = (ofNats (liveL p)).take 1 by simp [ofNats, takeM, List.map_take])])) (by rw [List.length_take, Nat.min_eq_left hll.1, show (ofNats (takeM 1 (liveL p))).length = (takeM 1 (liveL p)).length by simp [ofNats]]; rfl) rfl ?_
            rintro _ w39 ⟨rfl, hx39⟩
            clear hRm
            replace hS := hS.ext hx39
            replace hX := hX.tr hx39
            refine WL.nil ?_
            refine ⟨fun _ h => h.tr hx39, ?_⟩
            replace hI30 := hI30.tr hx39
            clear hX0
            refine WA.pures [32, 33] 0 (by kernel_rfl) ?_
            refine QL.y (fun wq hq => (R.notT rfl)) rfl ?_
            refine QL.y (fun wq hq => (R.pkF (v := .bool false) rfl rfl)) rfl ?_
            refine QL.nil ?_
            refine WA.done (by kernel_rfl) ?_
            refine W.cond_f rfl ?_
            refine W.skip ?_
            refine W.reg ?_
            refine WL.y (R.asg (v := .int _ _) rfl) rfl ?_
            refine WL.nil ?_
            refine W.block ?_
            replace hS := hS.drop0
            replace hS := hS.drop0
            replace hS := hS.drop0
            replace hS := hS.drop0
            replace hS := hS.drop0
            refine W.loopS (ι := Int) [(6, 7), (17, 21), (172, 230)] (fun q => [(17, i64 q)]) (fun q => (((cfgOf l)).versions + 1 - q).toNat) (fun q w' => (-1 ≤ q ∧ q ≤ ((cfgOf l)).versions + 1) ∧ Ext w w' ∧ Star U w' [boxA b9 (encAct x), rpA br (cfgOf l) p rx, poolA bp (cfgOf l) p, boxA b5 (encCfg (cfgOf l))]) (-1) ⟨rfl, trivial⟩ ⟨⟨by omega, by have := (cfgOf_ok l).versions; omega⟩, hX, hS⟩ ?_
            rintro v j3 w_3 ⟨⟨hv1, hv2⟩, hX, hS⟩
            have hvb := (cfgOf_ok l).versions
            refine W.seq ?_
            refine W.reg ?_
            refine WL.y (R.mv (v := .int _ _) rfl) rfl ?_
            refine WL.y (R.fieldAddr fo33_6 rfl) rfl ?_
            refine WL.y (R.load sca3 rfl (hS.blk3).r rfl) rfl ?_
            refine WL.fork (R.leq rfl rfl) rfl (fun hc32_3 => ?_) (fun hc32_3 => ?_)
            · skip
              replace hc32_3 := of_decide_eq_true hc32_3
              refine WL.nil ?_
              refine W.cond_t rfl ?_
              refine W.skip ?_
              refine W.seq ?_
              refine W.block ?_
              refine W.reg ?_
              refine WL.y (R.mv (v := .pointer _) rfl) rfl ?_
              refine WL.y (R.mv (v := .int _ _) rfl) rfl ?_
              obtain ⟨F40, hP40, -, -⟩ := hS.split1
              refine WL.call Try.func49 rfl rfl (rSlots_calls F40 br (cfgOf l) p rx _ hP40 v) rfl rfl ?_
              rintro _ w40 ⟨rfl, hx40⟩
              replace hS := hS.ext hx40
              replace hX := hX.tr hx40
              clear hP40
              refine WL.y (R.asg (v := .slice _ _ _) rfl) rfl ?_
              refine WL.nil ?_
              refine W.reg ?_
              refine WL.y (R.mv (v := .pointer _) rfl) rfl ?_
              refine WL.y (R.mv (v := .int _ _) rfl) rfl ?_
              refine WL.y (R.fieldAddr fo67_2 rfl) rfl ?_
              refine WL.y (R.load sca3 rfl (hS.blk0).r rfl) rfl ?_
              obtain ⟨F41, hP41, -, -⟩ := hS.split2
              refine WL.call Try.func50 rfl rfl (Dip_calls F41 bp (cfgOf l) p _ hP41 v x.b) rfl rfl ?_
              rintro _ w41 ⟨rfl, hx41⟩
              replace hS := hS.ext hx41
              replace hX := hX.tr hx41
              clear hP41
              rcases (show x.b < 0 ∨ (0 ≤ x.b ∧ ¬ x.b < ((slOf p v).length : Int)) ∨ (0 ≤ x.b ∧ x.b < ((slOf p v).length : Int)) by omega) with hb | hb | hb
              · skip
                have hdo : dipOf p v x.b = (dip0, false) := by unfold dipOf; rw [if_neg (by omega)]
                rw [hdo]
                refine WL.y (R.mv (v := .tuple _) rfl) rfl ?_
                refine WL.y (R.extract rfl rfl) rfl ?_
                refine WL.y (R.extract rfl rfl) rfl ?_
                refine WL.alloc zer54 rfl ?_
                intro b42 w42 hb42 hs42 hx42 hB42
                replace hS := hS.pushBox hb42 hx42 hB42
                replace hX := hX.tr hx42
                clear hB42 hs42
                refine WL.store (v := .agg _) siz54 rfl rfl rfl rfl hS.blk0 (Nat.le_of_ble_eq_true rfl) rfl rfl ?_
                intro w43 hu43 hz43 hn43
                have hN := hS.box0 hu43 hn43
                replace hS := hN.1
                replace hX := hN.2 _ hX hU
                clear hN hn43 hu43 hz43
                refine WL.y (R.asg (v := .bool false) rfl) rfl ?_
                refine WL.nil ?_
                refine W.seq ?_
                refine W.draw (fun j => [1000].contains j) (fun wI => Ext w43 wI) rfl ?_
                have hI44 := Ext.dr w43
                refine WA.pures [0, 1, 3, 4] 37 (by kernel_rfl) ?_
                refine QL.y (fun wq hq => (R.mv (v := .pointer _) rfl)) rfl ?_
                refine QL.y (fun wq hq => (R.mv (v := .int _ _) rfl)) rfl ?_
                refine QL.y (fun wq hq => (R.mv (v := .pointer _) rfl)) rfl ?_
                refine QL.y (fun wq hq => (R.mv (v := .int _ _) rfl)) rfl ?_
                refine QL.nil ?_
                have hD44 := Ext.dr w43
                have hD44z := hD44.size
                have hS0 := hS
                have hXo := hX
                replace hS := hS.ext hD44
                replace hX := hX.tr hD44
                refine WA.one 2 36 (by kernel_rfl) ?_
                have hX0 := hX
                have hIz45 := hI44.size
                obtain ⟨F45, hP45, -, -⟩ := hS.split3
                refine WL.call Try.func51 rfl rfl (Refs_calls F45 bp (cfgOf l) p _ hP45 v) rfl rfl ?_
                rintro _ w45 ⟨rfl, hx45⟩
                replace hS := hS.ext hx45
                replace hX := hX.tr hx45
                clear hP45
                refine WL.nil ?_
                refine ⟨fun _ h => h.tr hx45, ?_⟩
                replace hI44 := hI44.tr hx45
                clear hX0
                refine WA.one 5 35 (by kernel_rfl) ?_
                have hX0 := hX
                have hIz46 := hI44.size
                obtain ⟨F46, hP46, -, -⟩ := hS.split2
                refine WL.call Try.func52 rfl rfl (rRefs_calls F46 br (cfgOf l) p rx _ hP46 v) rfl rfl ?_
                rintro _ w46 ⟨rfl, hx46⟩
                replace hS := hS.ext hx46
                replace hX := hX.tr hx46
                clear hP46
                refine WL.nil ?_
                refine ⟨fun _ h => h.tr hx46, ?_⟩
                replace hI44 := hI44.tr hx46
                clear hX0
                refine WA.pures [6, 7, 8, 9, 11] 30 (by kernel_rfl) ?_
                refine QL.y (fun wq hq => (R.neqF rfl rfl rfl)) rfl ?_
                refine QL.y (fun wq hq => (R.mv (v := .bool false) rfl)) rfl ?_
                refine QL.y (fun wq hq => (R.mv (v := .pointer _) rfl)) rfl ?_
                refine QL.y (fun wq hq => (R.mv (v := .int _ _) rfl)) rfl ?_
                refine QL.y (fun wq hq => (R.mv (v := .slice _ _ _) rfl)) rfl ?_
                refine QL.nil ?_
                refine WA.one 10 29 (by kernel_rfl) ?_
                have hX0 := hX
                have hIz47 := hI44.size
                obtain ⟨F47, hP47, -, -⟩ := hS.split3
                refine WL.call Try.func54 rfl rfl (Slots_calls F47 bp (cfgOf l) p _ hP47 v) rfl rfl ?_
                rintro _ w47 ⟨⟨a47, c47, rfl, hl47, hf47⟩, hx47⟩
                replace hS := hS.pushSli hx47 hl47 hf47
                replace hX := hX.tr hx47
                clear hP47
                refine WL.nil ?_
                refine ⟨fun _ h => h.tr hx47, ?_⟩
                replace hI44 := hI44.tr hx47
                clear hX0
                refine WA.one 12 28 (by kernel_rfl) ?_
                have hX0 := hX
                have hIz48 := hI44.size
                obtain ⟨_, hRm, -⟩ := hS.get3
                refine WL.call Try.func53 rfl rfl ((Dips_calls (slOf p v) (slOf p v) (by have := slOf_le hRm v; omega) _ _ _ _ _ (hS.sli0) (hRm.rsl v)).val (y := bl true) (by rw [decide_eq_true rfl])) rfl rfl ?_
                rintro _ w48 ⟨rfl, hx48⟩
                clear hRm
                replace hS := hS.ext hx48
                replace hX := hX.tr hx48
                refine WL.nil ?_
                refine ⟨fun _ h => h.tr hx48, ?_⟩
                replace hI44 := hI44.tr hx48
                clear hX0
                refine WA.batch [13, 14, 15, 16, 17, 18, 19, 20, 21, 22, 23, 24, 25, 26, 27, 28, 29, 30, 31, 32, 33, 34, 35, 36, 37, 38, 39, 40] 0 (by kernel_rfl) hI44 ?_
                refine QL.y (fun wq hq => (R.notT rfl)) rfl ?_
                refine QL.y (fun wq hq => (R.pkF (v := .bool false) rfl rfl)) rfl ?_
                refine QL.y (fun wq hq => (R.mv (v := .bool false) rfl)) rfl ?_
                refine QL.y (fun wq hq => (R.mv (v := .bool false) rfl)) rfl ?_
                refine QL.y (fun wq hq => (R.fieldAddr fo67_2 rfl)) rfl ?_
                refine QL.y (fun wq hq => (R.load sca3 rfl (hq.blkR (hS0.blk1).r) rfl)) rfl ?_
                refine QL.y (fun wq hq => (R.geqF rfl rfl (by omega))) rfl ?_
                refine QL.y (fun wq hq => (R.mv (v := .bool false) rfl)) rfl ?_
                refine QL.skip rfl ?_
                refine QL.skip rfl ?_
                refine QL.skip rfl ?_
                refine QL.skip rfl ?_
                refine QL.skip rfl ?_
                refine QL.y (fun wq hq => (R.pkF (v := .bool false) rfl rfl)) rfl ?_
                refine QL.y (fun wq hq => (R.neqB Try.underlying4 rfl rfl)) rfl ?_
                refine QL.y (fun wq hq => (R.pkF (v := .bool false) rfl rfl)) rfl ?_
                refine QL.y (fun wq hq => (R.mv (v := .bool false) rfl)) rfl ?_
                refine QL.y (fun wq hq => (R.mv (v := .bool false) rfl)) rfl ?_
                refine QL.y (fun wq hq => (R.mv (v := .bool false) rfl)) rfl ?_
                refine QL.skip rfl ?_
                refine QL.skip rfl ?_
                refine QL.skip rfl ?_
                refine QL.skip rfl ?_
                refine QL.skip rfl ?_
                refine QL.skip rfl ?_
                refine QL.skip rfl ?_
                refine QL.y (fun wq hq => (R.pkF (v := .bool false) rfl rfl)) rfl ?_
                refine QL.y (fun wq hq => (R.pkF (v := .bool false) rfl rfl)) rfl ?_
                refine QL.nil ?_
                refine WA.done (by kernel_rfl) ?_
                refine W.cond_f rfl ?_
                refine W.skip ?_
                refine W.region ?_
                refine WL.y (R.mv (v := .int _ _) rfl) rfl ?_
                refine WL.y (R.addI rfl rfl (by omega)) rfl ?_
                refine WL.y (R.asg (v := .int _ _) rfl) rfl ?_
                refine WL.nil ?_
                replace hS := hS.drop0
                replace hS := hS.drop0
                exact ⟨v + 1, (by omega), (by repeat (first | exact Same.rfl' _ _ | refine Same.set _ rfl ?_ | refine Same.over' _ rfl ?_ | refine Same.sets rfl ?_)), ⟨rfl, trivial⟩, rfl, ⟨by omega, by omega⟩, hX, hS⟩
              · skip
                have hdo : dipOf p v x.b = (dip0, false) := by unfold dipOf; rw [if_neg (by omega)]
                rw [hdo]
                refine WL.y (R.mv (v := .tuple _) rfl) rfl ?_
                refine WL.y (R.extract rfl rfl) rfl ?_
                refine WL.y (R.extract rfl rfl) rfl ?_
                refine WL.alloc zer54 rfl ?_
                intro b49 w49 hb49 hs49 hx49 hB49
                replace hS := hS.pushBox hb49 hx49 hB49
                replace hX := hX.tr hx49
                clear hB49 hs49
                refine WL.store (v := .agg _) siz54 rfl rfl rfl rfl hS.blk0 (Nat.le_of_ble_eq_true rfl) rfl rfl ?_
                intro w50 hu50 hz50 hn50
                have hN := hS.box0 hu50 hn50
                replace hS := hN.1
                replace hX := hN.2 _ hX hU
                clear hN hn50 hu50 hz50
                refine WL.y (R.asg (v := .bool false) rfl) rfl ?_
                refine WL.nil ?_
                refine W.seq ?_
                refine W.draw (fun j => [1000].contains j) (fun wI => Ext w50 wI) rfl ?_
                have hI51 := Ext.dr w50
                refine WA.pures [0, 1, 3, 4] 37 (by kernel_rfl) ?_
                refine QL.y (fun wq hq => (R.mv (v := .pointer _) rfl)) rfl ?_
                refine QL.y (fun wq hq => (R.mv (v := .int _ _) rfl)) rfl ?_
                refine QL.y (fun wq hq => (R.mv (v := .pointer _) rfl)) rfl ?_
                refine QL.y (fun wq hq => (R.mv (v := .int _ _) rfl)) rfl ?_
                refine QL.nil ?_
                have hD51 := Ext.dr w50
                have hD51z := hD51.size
                have hS0 := hS
                have hXo := hX
                replace hS := hS.ext hD51
                replace hX := hX.tr hD51
                refine WA.one 2 36 (by kernel_rfl) ?_
                have hX0 := hX
                have hIz52 := hI51.size
                obtain ⟨F52, hP52, -, -⟩ := hS.split3
                refine WL.call Try.func51 rfl rfl (Refs_calls F52 bp (cfgOf l) p _ hP52 v) rfl rfl ?_
                rintro _ w52 ⟨rfl, hx52⟩
                replace hS := hS.ext hx52
                replace hX := hX.tr hx52
                clear hP52
                refine WL.nil ?_
                refine ⟨fun _ h => h.tr hx52, ?_⟩
                replace hI51 := hI51.tr hx52
                clear hX0
                refine WA.one 5 35 (by kernel_rfl) ?_
                have hX0 := hX
                have hIz53 := hI51.size
                obtain ⟨F53, hP53, -, -⟩ := hS.split2
                refine WL.call Try.func52 rfl rfl (rRefs_calls F53 br (cfgOf l) p rx _ hP53 v) rfl rfl ?_
                rintro _ w53 ⟨rfl, hx53⟩
                replace hS := hS.ext hx53
                replace hX := hX.tr hx53
                clear hP53
                refine WL.nil ?_
                refine ⟨fun _ h => h.tr hx53, ?_⟩
                replace hI51 := hI51.tr hx53
                clear hX0
                refine WA.pures [6, 7, 8, 9, 11] 30 (by kernel_rfl) ?_
                refine QL.y (fun wq hq => (R.neqF rfl rfl rfl)) rfl ?_
                refine QL.y (fun wq hq => (R.mv (v := .bool false) rfl)) rfl ?_
                refine QL.y (fun wq hq => (R.mv (v := .pointer _) rfl)) rfl ?_
                refine QL.y (fun wq hq => (R.mv (v := .int _ _) rfl)) rfl ?_
                refine QL.y (fun wq hq => (R.mv (v := .slice _ _ _) rfl)) rfl ?_
                refine QL.nil ?_
                refine WA.one 10 29 (by kernel_rfl) ?_
                have hX0 := hX
                have hIz54 := hI51.size
                obtain ⟨F54, hP54, -, -⟩ := hS.split3
                refine WL.call Try.func54 rfl rfl (Slots_calls F54 bp (cfgOf l) p _ hP54 v) rfl rfl ?_
                rintro _ w54 ⟨⟨a54, c54, rfl, hl54, hf54⟩, hx54⟩
                replace hS := hS.pushSli hx54 hl54 hf54
                replace hX := hX.tr hx54
                clear hP54
                refine WL.nil ?_
                refine ⟨fun _ h => h.tr hx54, ?_⟩
                replace hI51 := hI51.tr hx54
                clear hX0
                refine WA.one 12 28 (by kernel_rfl) ?_
                have hX0 := hX
                have hIz55 := hI51.size
                obtain ⟨_, hRm, -⟩ := hS.get3
                refine WL.call Try.func53 rfl rfl ((Dips_calls (slOf p v) (slOf p v) (by have := slOf_le hRm v; omega) _ _ _ _ _ (hS.sli0) (hRm.rsl v)).val (y := bl true) (by rw [decide_eq_true rfl])) rfl rfl ?_
                rintro _ w55 ⟨rfl, hx55⟩
                clear hRm
                replace hS := hS.ext hx55
                replace hX := hX.tr hx55
                refine WL.nil ?_
                refine ⟨fun _ h => h.tr hx55, ?_⟩
                replace hI51 := hI51.tr hx55
                clear hX0
                refine WA.batch [13, 14, 15, 16, 17, 18, 19, 20, 21, 22, 23, 24, 25, 26, 27, 28, 29, 30, 31, 32, 33, 34, 35, 36, 37, 38, 39, 40] 0 (by kernel_rfl) hI51 ?_
                refine QL.y (fun wq hq => (R.notT rfl)) rfl ?_
                refine QL.y (fun wq hq => (R.pkF (v := .bool false) rfl rfl)) rfl ?_
                refine QL.y (fun wq hq => (R.mv (v := .bool false) rfl)) rfl ?_
                refine QL.y (fun wq hq => (R.mv (v := .bool false) rfl)) rfl ?_
                refine QL.y (fun wq hq => (R.fieldAddr fo67_2 rfl)) rfl ?_
                refine QL.y (fun wq hq => (R.load sca3 rfl (hq.blkR (hS0.blk1).r) rfl)) rfl ?_
                refine QL.y (fun wq hq => (R.geqT rfl rfl (by omega))) rfl ?_
                refine QL.y (fun wq hq => (R.mv (v := .bool true) rfl)) rfl ?_
                refine QL.y (fun wq hq => (R.fieldAddr fo67_2 rfl)) rfl ?_
                refine QL.y (fun wq hq => (R.load sca3 rfl (hq.blkR (hS0.blk1).r) rfl)) rfl ?_
                refine QL.y (fun wq hq => (R.mv (v := .slice _ _ _) rfl)) rfl ?_
                refine QL.y (fun wq hq => (R.lenS Try.underlying81 rfl)) rfl ?_
                refine QL.y (fun wq hq => (R.lssF rfl rfl (by omega))) rfl ?_
                refine QL.y (fun wq hq => (R.pkT (v := .bool false) rfl rfl)) rfl ?_
                refine QL.y (fun wq hq => (R.neqB Try.underlying4 rfl rfl)) rfl ?_
                refine QL.y (fun wq hq => (R.pkF (v := .bool false) rfl rfl)) rfl ?_
                refine QL.y (fun wq hq => (R.mv (v := .bool false) rfl)) rfl ?_
                refine QL.y (fun wq hq => (R.mv (v := .bool false) rfl)) rfl ?_
                refine QL.y (fun wq hq => (R.mv (v := .bool false) rfl)) rfl ?_
                refine QL.skip rfl ?_
                refine QL.skip rfl ?_
                refine QL.skip rfl ?_
                refine QL.skip rfl ?_
                refine QL.skip rfl ?_
                refine QL.skip rfl ?_
                refine QL.skip rfl ?_
                refine QL.y (fun wq hq => (R.pkF (v := .bool false) rfl rfl)) rfl ?_
                refine QL.y (fun wq hq => (R.pkF (v := .bool false) rfl rfl)) rfl ?_
                refine QL.nil ?_
                refine WA.done (by kernel_rfl) ?_
                refine W.cond_f rfl ?_
                refine W.skip ?_
                refine W.region ?_
                refine WL.y (R.mv (v := .int _ _) rfl) rfl ?_
                refine WL.y (R.addI rfl rfl (by omega)) rfl ?_
                refine WL.y (R.asg (v := .int _ _) rfl) rfl ?_
                refine WL.nil ?_
                replace hS := hS.drop0
                replace hS := hS.drop0
                exact ⟨v + 1, (by omega), (by repeat (first | exact Same.rfl' _ _ | refine Same.set _ rfl ?_ | refine Same.over' _ rfl ?_ | refine Same.sets rfl ?_)), ⟨rfl, trivial⟩, rfl, ⟨by omega, by omega⟩, hX, hS⟩
              · skip
                obtain ⟨sb, hsb⟩ : ∃ k : Nat, x.b = k := ⟨x.b.toNat, by omega⟩
                have hdo : dipOf p v x.b = ((slOf p v).getD sb dip0, true) := by unfold dipOf; rw [if_pos hb, hsb, Int.toNat_natCast]
                rw [hdo]
                refine WL.y (R.mv (v := .tuple _) rfl) rfl ?_
                refine WL.y (R.extract rfl rfl) rfl ?_
                refine WL.y (R.extract rfl rfl) rfl ?_
                refine WL.alloc zer54 rfl ?_
                intro b56 w56 hb56 hs56 hx56 hB56
                replace hS := hS.pushBox hb56 hx56 hB56
                replace hX := hX.tr hx56
                clear hB56 hs56
                refine WL.store (v := .agg _) siz54 rfl rfl rfl rfl hS.blk0 (Nat.le_of_ble_eq_true rfl) rfl rfl ?_
                intro w57 hu57 hz57 hn57
                have hN := hS.box0 hu57 hn57
                replace hS := hN.1
                replace hX := hN.2 _ hX hU
                clear hN hn57 hu57 hz57
                refine WL.y (R.asg (v := .bool true) rfl) rfl ?_
                refine WL.nil ?_
                refine W.seq ?_
                obtain ⟨g36, o36, cs36, ea36, hO36⟩ := ((hS.get2).elim fun _ h => RPool.rsl h.1 v).op (by omega)
                have hy36 : (slOf p v)[sb]? = some ((slOf p v).getD sb dip0) := by rw [List.getD_eq_getElem?_getD, List.getElem?_eq_getElem (by omega)]; rfl
                refine W.draw (fun j => [1000].contains j) (fun wI => Ext w57 wI) rfl ?_
                have hI58 := Ext.dr w57
                refine WA.pures [0, 1, 3, 4] 37 (by kernel_rfl) ?_
                refine QL.y (fun wq hq => (R.mv (v := .pointer _) rfl)) rfl ?_
                refine QL.y (fun wq hq => (R.mv (v := .int _ _) rfl)) rfl ?_
                refine QL.y (fun wq hq => (R.mv (v := .pointer _) rfl)) rfl ?_
                refine QL.y (fun wq hq => (R.mv (v := .int _ _) rfl)) rfl ?_
                refine QL.nil ?_
                have hD58 := Ext.dr w57
                have hD58z := hD58.size
                have hS0 := hS
                have hXo := hX
                replace hS := hS.ext hD58
                replace hX := hX.tr hD58
                refine WA.one 2 36 (by kernel_rfl) ?_
                have hX0 := hX
                have hIz59 := hI58.size
                obtain ⟨F59, hP59, -, -⟩ := hS.split3
                refine WL.call Try.func51 rfl rfl (Refs_calls F59 bp (cfgOf l) p _ hP59 v) rfl rfl ?_
                rintro _ w59 ⟨rfl, hx59⟩
                replace hS := hS.ext hx59
                replace hX := hX.tr hx59
                clear hP59
                refine WL.nil ?_
                refine ⟨fun _ h => h.tr hx59, ?_⟩
                replace hI58 := hI58.tr hx59
                clear hX0
                refine WA.one 5 35 (by kernel_rfl) ?_
                have hX0 := hX
                have hIz60 := hI58.size
                obtain ⟨F60, hP60, -, -⟩ := hS.split2
                refine WL.call Try.func52 rfl rfl (rRefs_calls F60 br (cfgOf l) p rx _ hP60 v) rfl rfl ?_
                rintro _ w60 ⟨rfl, hx60⟩
                replace hS := hS.ext hx60
                replace hX := hX.tr hx60
                clear hP60
                refine WL.nil ?_
                refine ⟨fun _ h => h.tr hx60, ?_⟩
                replace hI58 := hI58.tr hx60
                clear hX0
                refine WA.pures [6, 7, 8, 9, 11] 30 (by kernel_rfl) ?_
                refine QL.y (fun wq hq => (R.neqF rfl rfl rfl)) rfl ?_
                refine QL.y (fun wq hq => (R.mv (v := .bool false) rfl)) rfl ?_
                refine QL.y (fun wq hq => (R.mv (v := .pointer _) rfl)) rfl ?_
                refine QL.y (fun wq hq => (R.mv (v := .int _ _) rfl)) rfl ?_
                refine QL.y (fun wq hq => (R.mv (v := .slice _ _ _) rfl)) rfl ?_
                refine QL.nil ?_
                refine WA.one 10 29 (by kernel_rfl) ?_
                have hX0 := hX
                have hIz61 := hI58.size
                obtain ⟨F61, hP61, -, -⟩ := hS.split3
                refine WL.call Try.func54 rfl rfl (Slots_calls F61 bp (cfgOf l) p _ hP61 v) rfl rfl ?_
                rintro _ w61 ⟨⟨a61, c61, rfl, hl61, hf61⟩, hx61⟩
                replace hS := hS.pushSli hx61 hl61 hf61
                replace hX := hX.tr hx61
                clear hP61
                refine WL.nil ?_
                refine ⟨fun _ h => h.tr hx61, ?_⟩
                replace hI58 := hI58.tr hx61
                clear hX0
                refine WA.one 12 28 (by kernel_rfl) ?_
                have hX0 := hX
                have hIz62 := hI58.size
                obtain ⟨_, hRm, -⟩ := hS.get3
                refine WL.call Try.func53 rfl rfl ((Dips_calls (slOf p v) (slOf p v) (by have := slOf_le hRm v; omega) _ _ _ _ _ (hS.sli0) (hRm.rsl v)).val (y := bl true) (by rw [decide_eq_true rfl])) rfl rfl ?_
                rintro _ w62 ⟨rfl, hx62⟩
                clear hRm
                replace hS := hS.ext hx62
                replace hX := hX.tr hx62
                refine WL.nil ?_
                refine ⟨fun _ h => h.tr hx62, ?_⟩
                replace hI58 := hI58.tr hx62
                clear hX0
                refine WA.batch [13, 14, 15, 16, 17, 18, 19, 20, 21, 22, 23, 24, 25, 26, 27, 28, 29, 30, 31, 32, 33, 34, 35, 36, 37, 38, 39, 40] 0 (by kernel_rfl) hI58 ?_
                refine QL.y (fun wq hq => (R.notT rfl)) rfl ?_
                refine QL.y (fun wq hq => (R.pkF (v := .bool false) rfl rfl)) rfl ?_
                refine QL.y (fun wq hq => (R.mv (v := .bool false) rfl)) rfl ?_
                refine QL.y (fun wq hq => (R.mv (v := .bool true) rfl)) rfl ?_
                refine QL.y (fun wq hq => (R.fieldAddr fo67_2 rfl)) rfl ?_
                refine QL.y (fun wq hq => (R.load sca3 rfl (hq.blkR (hS0.blk1).r) rfl)) rfl ?_
                refine QL.y (fun wq hq => (R.geqT rfl rfl (by omega))) rfl ?_
                refine QL.y (fun wq hq => (R.mv (v := .bool true) rfl)) rfl ?_
                refine QL.y (fun wq hq => (R.fieldAddr fo67_2 rfl)) rfl ?_
                refine QL.y (fun wq hq => (R.load sca3 rfl (hq.blkR (hS0.blk1).r) rfl)) rfl ?_
                refine QL.y (fun wq hq => (R.mv (v := .slice _ _ _) rfl)) rfl ?_
                refine QL.y (fun wq hq => (R.lenS Try.underlying81 rfl)) rfl ?_
                refine QL.y (fun wq hq => (R.lssT rfl rfl (by omega))) rfl ?_
                refine QL.y (fun wq hq => (R.pkT (v := .bool true) rfl rfl)) rfl ?_
                refine QL.y (fun wq hq => (R.neqB Try.underlying4 rfl rfl)) rfl ?_
                refine QL.y (fun wq hq => (R.pkF (v := .bool false) rfl rfl)) rfl ?_
                refine QL.y (fun wq hq => (R.mv (v := .bool false) rfl)) rfl ?_
                refine QL.y (fun wq hq => (R.mv (v := .bool true) rfl)) rfl ?_
                refine QL.y (fun wq hq => (R.mv (v := .bool true) rfl)) rfl ?_
                refine QL.y (fun wq hq => (R.loadA agg54 rfl (hq.blkR (hS0.blk0).r) rfl rfl)) rfl ?_
                refine QL.y (fun wq hq => (R.mv (v := .slice _ _ _) rfl)) rfl ?_
                refine QL.y (fun wq hq => (R.fieldAddr fo67_2 rfl)) rfl ?_
                refine QL.y (fun wq hq => (R.load sca3 rfl (hq.blkR (hS0.blk1).r) rfl)) rfl ?_
                refine QL.y (fun wq hq => (R.indexS Try.underlying81 siz54 rfl ea36 (i := sb) (congrArg (Value.int .i64) hsb) (by omega))) rfl ?_
                refine QL.y (fun wq hq => (R.loadA agg54 rfl (hq.blkR (hO36.blk).r) (hO36.at encD hy36) (encD.len ((slOf p v).getD sb dip0)))) rfl ?_
                refine QL.y (fun wq hq => (R.neqAT (xs := encDip ((slOf p v).getD sb dip0)) (ys := encDip ((slOf p v).getD sb dip0)) (q := true) eq54 (by decide) agg54 Try.eqGuardType54 rfl rfl (typed_dip _) (typed_dip _) (by rw [veq_dip, decide_eq_true rfl]))) rfl ?_
                refine QL.y (fun wq hq => (R.pkT (v := .bool false) rfl rfl)) rfl ?_
                refine QL.y (fun wq hq => (R.pkF (v := .bool false) rfl rfl)) rfl ?_
                refine QL.nil ?_
                refine WA.done (by kernel_rfl) ?_
                refine W.cond_f rfl ?_
                refine W.skip ?_
                refine W.region ?_
                refine WL.y (R.mv (v := .int _ _) rfl) rfl ?_
                refine WL.y (R.addI rfl rfl (by omega)) rfl ?_
                refine WL.y (R.asg (v := .int _ _) rfl) rfl ?_
                refine WL.nil ?_
                replace hS := hS.drop0
                replace hS := hS.drop0
                exact ⟨v + 1, (by omega), (by repeat (first | exact Same.rfl' _ _ | refine Same.set _ rfl ?_ | refine Same.over' _ rfl ?_ | refine Same.sets rfl ?_)), ⟨rfl, trivial⟩, rfl, ⟨by omega, by omega⟩, hX, hS⟩
            · skip
              replace hc32_3 := of_decide_eq_false hc32_3
              refine WL.nil ?_
              refine W.cond_f rfl ?_
              refine W.exit ?_
              refine W.region ?_
              refine WL.y (R.mv (v := .int _ _) rfl) rfl ?_
              refine WL.y (R.addI rfl rfl (by omega)) rfl ?_
              refine WL.y (R.asg (v := .int _ _) rfl) rfl ?_
              refine WL.nil ?_
              replace hS := hS.drop0
              exact ⟨⟨i + 1, p, rx⟩, (by simp only; omega), (by repeat (first | exact Same.rfl' _ _ | refine Same.set _ rfl ?_ | refine Same.over' _ rfl ?_ | refine Same.sets rfl ?_)), ⟨rfl, trivial⟩, rfl, ⟨by simp only; omega, hcn⟩, hX, hS⟩
        · skip
          replace hc11_3 := of_decide_eq_false hc11_3
          refine WL.nil ?_
          refine W.cond_f rfl ?_
          refine W.exit ?_
          refine W.reg ?_
          refine WL.call Try.func30 rfl rfl (awake18_calls _) rfl rfl ?_
          rintro _ w63 ⟨rfl, hx63⟩
          replace hS := hS.ext hx63
          replace hX := hX.tr hx63
          refine WL.y (R.asg (v := .bool _) rfl) rfl ?_
          refine WL.nil ?_
          refine W.ret ?_
          exact PR.r1 rfl (.tmp rfl) ⟨rfl, hX⟩

theorem PoolsActs_calls (l : List Int) (ms : List Mem) (acts : List Act3) (hok : ∀ x ∈ acts, okI x.a ∧ okI x.b) (a0 : Option Addr) (c0 : Nat) (a1 : Option Addr) (c1 : Nat) (a2 : Option Addr) (c2 : Nat) (w : World) (hL : Sli (fun n : Int => [i64 n]) 1 w a0 c0 l) (hM : Sli encMem 19 w a1 c1 ms) (hA : Sli encAct 3 w a2 c2 acts) : CallV Try.prog 5 #[.slice a0 l.length c0, .slice a1 ms.length c1, .slice a2 acts.length c2] w fun v w' => v = bl true ∧ Ext w w' := by
  cases hm : memsOK ms with
  | false => exact PoolsActs_bad l ms acts hok a0 c0 a1 c1 a2 c2 w hL hM hA hm
  | true => exact PoolsActs_good l ms acts hok a0 c0 a1 c1 a2 c2 w hL hM hA hm
end Go.Proofs.Ytkjecokkdbapkaa
