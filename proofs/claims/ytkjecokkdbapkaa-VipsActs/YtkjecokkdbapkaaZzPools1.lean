import Derived.Test.YtkjecokkdbapkaaZzSlots6
import Derived.Test.YtkjecokkdbapkaaZzPtr
import Derived.Test.YtkjecokkdbapkaaProg
namespace Go.Proofs.Ytkjecokkdbapkaa
set_option linter.all false
open Go Go.Eng Go.RowKit
set_option maxRecDepth 20000
set_option maxHeartbeats 2000000
set_option linter.unusedVariables false
set_option linter.unusedSimpArgs false
attribute [local irreducible] WL W QL WA SP

theorem agg205 : Agg Try.prog 205 3 := ⟨Try.isAgg205, Try.sizeOf205⟩
theorem el52_57 : Elem Try.prog 52 57 19 32 zc57 := ⟨Try.underlying52, ⟨Try.t57, .agg _, rfl, rfl, rfl, rfl, rfl⟩, rfl, rfl⟩
theorem fo203_1 : FO Try.prog 203 1 48 := fun a w => by kernel_rfl
theorem fo203_2 : FO Try.prog 203 2 49 := fun a w => by kernel_rfl
theorem fo203_3 : FO Try.prog 203 3 50 := fun a w => by kernel_rfl
theorem fo205_0 : FO Try.prog 205 0 0 := fun a w => by kernel_rfl
theorem fo205_1 : FO Try.prog 205 1 1 := fun a w => by kernel_rfl
theorem fo205_2 : FO Try.prog 205 2 2 := fun a w => by kernel_rfl
theorem sca200 : Sca Try.prog 200 := ⟨Try.isAgg200, Try.sizeOf200⟩
theorem sca52 : Sca Try.prog 52 := ⟨Try.isAgg52, Try.sizeOf52⟩
theorem siz205 : ∀ w, (sizeOf 205).run Try.prog w = .ok 3 w := Try.sizeOf205

theorem CloneMem_nil (xs : List Mem) (c : Nat) (w : World) (hS : Sli encMem 19 w none c xs) : CallV Try.prog 119 #[.slice none xs.length c] w fun v w' => (∃ a' c', v = .slice a' xs.length c' ∧ Sli encMem 19 w' a' c' xs ∧ ∀ k, owns a' k → w.heap.size ≤ k) ∧ Ext w w' := by
  have hX : Ext w w := Ext.rfl' w
  have hxs : xs = [] := by rcases hS with ⟨_, h⟩ | ⟨g, off, cs, h, _⟩; exact h; cases h
  have hlen : xs.length = 0 := by rw [hxs]; rfl
  refine Calls.of_W (N := 8) Try.func119 rfl rfl rfl ?_
  refine W.reg ?_
  refine WL.y (R.asg (v := .slice _ _ _) rfl) rfl ?_
  refine WL.nil ?_
  refine W.seq ?_
  refine W.reg ?_
  refine WL.y (R.mv (v := .slice _ _ _) rfl) rfl ?_
  refine WL.y (R.eqlNilS Try.underlying52 rfl) rfl ?_
  refine WL.nil ?_
  refine W.cond_t rfl ?_
  refine W.reg ?_
  refine WL.y (R.asg (v := .slice _ _ _) rfl) rfl ?_
  refine WL.nil ?_
  refine W.ret ?_
  exact PR.r1 rfl (.tmp rfl) ⟨⟨none, 0, by rw [hlen]; rfl, by rw [hxs]; exact Sli.nil _ _ _, own_nil⟩, hX⟩

theorem CloneMem_some (xs : List Mem) (h63 : xs.length ≤ 1000000) (ad : Addr) (c : Nat) (w : World) (hS : Sli encMem 19 w (some ad) c xs) : CallV Try.prog 119 #[.slice (some ad) xs.length c] w fun v w' => (∃ a' c', v = .slice a' xs.length c' ∧ Sli encMem 19 w' a' c' xs ∧ ∀ k, owns a' k → w.heap.size ≤ k) ∧ Ext w w' := by
  have hX : Ext w w := Ext.rfl' w
  have hSl := hS.lt
  refine Calls.of_W (N := 8) Try.func119 rfl rfl rfl ?_
  refine W.reg ?_
  refine WL.y (R.asg (v := .slice _ _ _) rfl) rfl ?_
  refine WL.nil ?_
  refine W.seq ?_
  refine W.reg ?_
  refine WL.y (R.mv (v := .slice _ _ _) rfl) rfl ?_
  refine WL.y (R.eqlNilS Try.underlying52 rfl) rfl ?_
  refine WL.nil ?_
  refine W.cond_f rfl ?_
  refine W.skip ?_
  refine W.reg ?_
  refine WL.buildSlice0 el52_57 (by decide) rfl ?_
  intro b1 w1 hb1 hs1 hx1 hB1
  have hge1 := hX.size
  replace hX := hX.tr hx1
  replace hS := hS.ext hx1
  refine WL.y (R.mv (v := .slice _ _ _) rfl) rfl ?_
  refine WL.appendS (xs := []) el52_57 encM rfl rfl (Slw.zero hB1) rfl hS rfl (by omega) (by omega) rfl ?_
  intro a2 c2 w2 hu2 hsl2 hf2
  replace hX := hX.putU hu2 (fun k hk => by rw [owns_some] at hk; simp only at hk; omega)
  have hown : ∀ k, owns a2 k → w.heap.size ≤ k := own_step (fun k hk => by rw [owns_some] at hk; simp only at hk; omega) hf2 (fun k hk => by omega)
  have hnn : 0 + xs.length = xs.length := Nat.zero_add _
  refine WL.y (R.asg (v := .slice _ _ _) rfl) rfl ?_
  refine WL.nil ?_
  refine W.ret ?_
  exact PR.r1 rfl (.tmp rfl) ⟨⟨_, _, congrArg (fun n => Value.slice _ n _) hnn, hsl2.ro, hown⟩, hX⟩

theorem CloneMem_calls (xs : List Mem) (h63 : xs.length ≤ 1000000) (a : Option Addr) (c : Nat) (w : World) (hS : Sli encMem 19 w a c xs) : CallV Try.prog 119 #[.slice a xs.length c] w fun v w' => (∃ a' c', v = .slice a' xs.length c' ∧ Sli encMem 19 w' a' c' xs ∧ ∀ k, owns a' k → w.heap.size ≤ k) ∧ Ext w w' := by
  cases a with
  | none => exact CloneMem_nil xs c w hS
  | some ad => exact CloneMem_some xs h63 ad c w hS

theorem CloneDip_nil (xs : List Dip) (c : Nat) (w : World) (hS : Sli encDip 18 w none c xs) : CallV Try.prog 126 #[.slice none xs.length c] w fun v w' => (∃ a' c', v = .slice a' xs.length c' ∧ Sli encDip 18 w' a' c' xs ∧ ∀ k, owns a' k → w.heap.size ≤ k) ∧ Ext w w' := by
  have hX : Ext w w := Ext.rfl' w
  have hxs : xs = [] := by rcases hS with ⟨_, h⟩ | ⟨g, off, cs, h, _⟩; exact h; cases h
  have hlen : xs.length = 0 := by rw [hxs]; rfl
  refine Calls.of_W (N := 8) Try.func126 rfl rfl rfl ?_
  refine W.reg ?_
  refine WL.y (R.asg (v := .slice _ _ _) rfl) rfl ?_
  refine WL.nil ?_
  refine W.seq ?_
  refine W.reg ?_
  refine WL.y (R.mv (v := .slice _ _ _) rfl) rfl ?_
  refine WL.y (R.eqlNilS Try.underlying81 rfl) rfl ?_
  refine WL.nil ?_
  refine W.cond_t rfl ?_
  refine W.reg ?_
  refine WL.y (R.asg (v := .slice _ _ _) rfl) rfl ?_
  refine WL.nil ?_
  refine W.ret ?_
  exact PR.r1 rfl (.tmp rfl) ⟨⟨none, 0, by rw [hlen]; rfl, by rw [hxs]; exact Sli.nil _ _ _, own_nil⟩, hX⟩

theorem CloneDip_some (xs : List Dip) (h63 : xs.length ≤ 1000000) (ad : Addr) (c : Nat) (w : World) (hS : Sli encDip 18 w (some ad) c xs) : CallV Try.prog 126 #[.slice (some ad) xs.length c] w fun v w' => (∃ a' c', v = .slice a' xs.length c' ∧ Sli encDip 18 w' a' c' xs ∧ ∀ k, owns a' k → w.heap.size ≤ k) ∧ Ext w w' := by
  have hX : Ext w w := Ext.rfl' w
  have hSl := hS.lt
  refine Calls.of_W (N := 8) Try.func126 rfl rfl rfl ?_
  refine W.reg ?_
  refine WL.y (R.asg (v := .slice _ _ _) rfl) rfl ?_
  refine WL.nil ?_
  refine W.seq ?_
  refine W.reg ?_
  refine WL.y (R.mv (v := .slice _ _ _) rfl) rfl ?_
  refine WL.y (R.eqlNilS Try.underlying81 rfl) rfl ?_
  refine WL.nil ?_
  refine W.cond_f rfl ?_
  refine W.skip ?_
  refine W.reg ?_
  refine WL.buildSlice0 el81_54 (by decide) rfl ?_
  intro b1 w1 hb1 hs1 hx1 hB1
  have hge1 := hX.size
  replace hX := hX.tr hx1
  replace hS := hS.ext hx1
  refine WL.y (R.mv (v := .slice _ _ _) rfl) rfl ?_
  refine WL.appendS (xs := []) el81_54 encD rfl rfl (Slw.zero hB1) rfl hS rfl (by omega) (by omega) rfl ?_
  intro a2 c2 w2 hu2 hsl2 hf2
  replace hX := hX.putU hu2 (fun k hk => by rw [owns_some] at hk; simp only at hk; omega)
  have hown : ∀ k, owns a2 k → w.heap.size ≤ k := own_step (fun k hk => by rw [owns_some] at hk; simp only at hk; omega) hf2 (fun k hk => by omega)
  have hnn : 0 + xs.length = xs.length := Nat.zero_add _
  refine WL.y (R.asg (v := .slice _ _ _) rfl) rfl ?_
  refine WL.nil ?_
  refine W.ret ?_
  exact PR.r1 rfl (.tmp rfl) ⟨⟨_, _, congrArg (fun n => Value.slice _ n _) hnn, hsl2.ro, hown⟩, hX⟩

theorem CloneDip_calls (xs : List Dip) (h63 : xs.length ≤ 1000000) (a : Option Addr) (c : Nat) (w : World) (hS : Sli encDip 18 w a c xs) : CallV Try.prog 126 #[.slice a xs.length c] w fun v w' => (∃ a' c', v = .slice a' xs.length c' ∧ Sli encDip 18 w' a' c' xs ∧ ∀ k, owns a' k → w.heap.size ≤ k) ∧ Ext w w' := by
  cases a with
  | none => exact CloneDip_nil xs c w hS
  | some ad => exact CloneDip_some xs h63 ad c w hS

/-! ### Pools -/
structure RV where
  (a : Option Addr) (n c : Nat) (refs : Int) (res : Bool)
def encV (r : RV) : List Value := [.slice r.a r.n r.c, i64 r.refs, bl r.res]
theorem encVE : Enc encV 3 := ⟨fun _ => rfl, fun _ => rfl⟩
structure Ver where
  (slots : List Dip) (refs : Int) (res : Bool)
structure PSt where
  (vs : List Ver) (now : Int) (last : List Mem) (sl : List Dip)
structure PoolO (w : World) (F : Nat → Prop) (b gl cl : Nat) (csl : List Value) (rvs : List RV) (aL : Option Addr) (cL : Nat) (aS : Option Addr) (cS : Nat) (c : Cfg) (p : PSt) : Prop where
  blk : Blk w b (encCfg c ++ [.slice (some ⟨gl, 0, none⟩) p.vs.length cl, i64 p.now, .slice aL p.last.length cL, .slice aS p.sl.length cS])
  vers : SlO encV 3 w gl 0 cl csl rvs
  len : rvs.length = p.vs.length
  each : ∀ (i : Nat) (r : RV) (v : Ver), rvs[i]? = some r → p.vs[i]? = some v → r.refs = v.refs ∧ r.res = v.res ∧ r.n = v.slots.length ∧ Sli encDip 18 w r.a r.c v.slots ∧ ∀ k, ownsC r.a r.c k → F k ∧ k ≠ b ∧ k ≠ gl
  last : Sli encMem 19 w aL cL p.last
  ownL : ∀ k, ownsC aL cL k → F k ∧ k ≠ b ∧ k ≠ gl
  sl : Sli encDip 18 w aS cS p.sl
  ownS : ∀ k, ownsC aS cS k → F k ∧ k ≠ b ∧ k ≠ gl
  fb : F b
  fg : F gl
  ne : b ≠ gl
  lt : ∀ k, F k → k < w.heap.size
  v64 : p.vs.length ≤ 16
  l32 : p.last.length ≤ 32
  s64 : p.sl.length ≤ 64
  sv : ∀ v : Ver, v ∈ p.vs → v.slots.length ≤ 64
  ok : CfgOK c
  s0 : p.sl.length = 0 ∨ p.sl.length = c.slots.toNat
  nn : 0 ≤ p.now ∧ p.now < p.vs.length
  vn : p.vs.length = c.versions.toNat
def PoolAt (w : World) (F : Nat → Prop) (b : Nat) (c : Cfg) (p : PSt) : Prop := ∃ gl cl csl rvs aL cL aS cS, PoolO w F b gl cl csl rvs aL cL aS cS c p
theorem PoolO.upd {S : Nat → Prop} {w w' : World} {F : Nat → Prop} {b gl cl : Nat} {csl : List Value} {rvs : List RV} {aL : Option Addr} {cL : Nat} {aS : Option Addr} {cS : Nat} {c : Cfg} {p : PSt}
    (h : PoolO w F b gl cl csl rvs aL cL aS cS c p) (hu : Upd S w w') (hS : ∀ k, F k → ¬ S k) : PoolO w' F b gl cl csl rvs aL cL aS cS c p where
  blk := hu.blk (hS _ h.fb) h.blk
  vers := h.vers.upd hu (hS _ h.fg)
  len := h.len
  each i r v h1 h2 := by
    obtain ⟨e1, e2, e3, e4, e5⟩ := h.each i r v h1 h2
    exact ⟨e1, e2, e3, e4.upd hu (fun k hk => hS k (e5 k hk).1), e5⟩
  last := h.last.upd hu (fun k hk => hS k (h.ownL k hk).1)
  ownL := h.ownL
  sl := h.sl.upd hu (fun k hk => hS k (h.ownS k hk).1)
  ownS := h.ownS
  fb := h.fb
  fg := h.fg
  ne := h.ne
  lt k hk := Nat.lt_of_lt_of_le (h.lt k hk) hu.size
  v64 := h.v64
  l32 := h.l32
  s64 := h.s64
  sv := h.sv
  ok := h.ok
  s0 := h.s0
  nn := h.nn
  vn := h.vn
theorem PoolAt.upd {S : Nat → Prop} {w w' : World} {F : Nat → Prop} {b : Nat} {c : Cfg} {p : PSt} (h : PoolAt w F b c p) (hu : Upd S w w') (hS : ∀ k, F k → ¬ S k) : PoolAt w' F b c p := by
  obtain ⟨gl, cl, csl, rvs, aL, cL, aS, cS, h⟩ := h
  exact ⟨gl, cl, csl, rvs, aL, cL, aS, cS, h.upd hu hS⟩
theorem PoolAt.ext {w w' : World} {F : Nat → Prop} {b : Nat} {c : Cfg} {p : PSt} (h : PoolAt w F b c p) (hu : Ext w w') : PoolAt w' F b c p := h.upd (hu.upd fun _ => False) (fun _ _ h => h)
theorem PoolAt.lt {w : World} {F : Nat → Prop} {b : Nat} {c : Cfg} {p : PSt} (h : PoolAt w F b c p) : ∀ k, F k → k < w.heap.size := by
  obtain ⟨gl, cl, csl, rvs, aL, cL, aS, cS, h⟩ := h; exact h.lt
theorem PoolAt.fb {w : World} {F : Nat → Prop} {b : Nat} {c : Cfg} {p : PSt} (h : PoolAt w F b c p) : F b := by
  obtain ⟨gl, cl, csl, rvs, aL, cL, aS, cS, h⟩ := h; exact h.fb
def pLive (p : PSt) (v : Int) : Bool := decide (0 ≤ v) && (decide (v < p.vs.length) && (decide (v = p.now) || match p.vs[v.toNat]? with | some x => decide (0 < x.refs) || x.res | none => false))
theorem pLive_neg {p : PSt} {v : Int} (h : ¬ 0 ≤ v) : pLive p v = false := by simp [pLive, h]
theorem pLive_big {p : PSt} {v : Int} (h : ¬ v < p.vs.length) : pLive p v = false := by simp [pLive, h]
theorem pLive_now {p : PSt} {k : Nat} (h : (k : Int) < p.vs.length) (e : (k : Int) = p.now) : pLive p k = true := by
  simp only [pLive, e, decide_true, Bool.true_or, Bool.and_true]
  have h1 : 0 ≤ p.now := by omega
  have h2 : p.now < p.vs.length := by omega
  simp [h1, h2]
theorem pLive_at {p : PSt} {k : Nat} {x : Ver} (h : (k : Int) < p.vs.length) (e : ¬ (k : Int) = p.now) (hx : p.vs[k]? = some x) : pLive p k = (decide (0 < x.refs) || x.res) := by
  have h0 : (0 : Int) ≤ k := by omega
  simp only [pLive, h0, h, e, decide_true, decide_false, Bool.true_and, Bool.false_or, Int.toNat_natCast, hx]

theorem live_calls (F : Nat → Prop) (b : Nat) (c : Cfg) (p : PSt) (w : World) (hP : PoolAt w F b c p) (v : Int) : CallV Try.prog 123 #[.pointer (some ⟨b, 0, none⟩), i64 v] w fun r w' => r = bl (pLive p v) ∧ Ext w w' := by
  have hX : Ext w w := Ext.rfl' w
  obtain ⟨gl, cl, csl, rvs, aL, cL, aS, cS, H⟩ := hP
  have hBp := H.blk
  have hV := H.vers
  have hlen := H.len
  have h16 := H.v64
  refine Calls.of_W (N := 49) Try.func123 rfl rfl rfl ?_
  refine W.reg ?_
  refine WL.y (R.asg (v := .bool false) rfl) rfl ?_
  refine WL.nil ?_
  refine W.reg ?_
  refine WL.y (R.mv (v := .pointer _) rfl) rfl ?_
  refine WL.y (R.neqNil Try.underlying61 rfl) rfl ?_
  refine WL.y (R.mv (v := .bool true) rfl) rfl ?_
  refine WL.y (R.mv (v := .int _ _) rfl) rfl ?_
  refine WL.fork (R.geq rfl rfl) rfl (fun hc1_4 => ?_) (fun hc1_4 => ?_)
  · skip
    replace hc1_4 := of_decide_eq_true hc1_4
    refine WL.y (R.pkT (v := .bool true) rfl rfl) rfl ?_
    refine WL.y (R.mv (v := .bool true) rfl) rfl ?_
    refine WL.y (R.mv (v := .int _ _) rfl) rfl ?_
    refine WL.y (R.mv (v := .pointer _) rfl) rfl ?_
    refine WL.y (R.nilCheck rfl) rfl ?_
    refine WL.y (R.fieldAddr fo203_1 rfl) rfl ?_
    refine WL.y (R.load sca200 rfl (hBp).r rfl) rfl ?_
    refine WL.y (R.lenS Try.underlying200 rfl) rfl ?_
    refine WL.fork (R.lss rfl rfl) rfl (fun hc1_13 => ?_) (fun hc1_13 => ?_)
    · skip
      replace hc1_13 := of_decide_eq_true hc1_13
      obtain ⟨k, rfl⟩ : ∃ k : Nat, v = k := ⟨v.toNat, by omega⟩
      obtain ⟨r, hr⟩ : ∃ r, rvs[k]? = some r := ⟨_, List.getElem?_eq_getElem (by omega)⟩
      obtain ⟨x, hx⟩ : ∃ x, p.vs[k]? = some x := ⟨_, List.getElem?_eq_getElem (by omega)⟩
      obtain ⟨e1, e2, e3, e4, e5⟩ := H.each k r x hr hx
      refine WL.y (R.pkT (v := .bool true) rfl rfl) rfl ?_
      refine WL.y (R.mv (v := .bool true) rfl) rfl ?_
      refine WL.y (R.mv (v := .int _ _) rfl) rfl ?_
      refine WL.y (R.mv (v := .pointer _) rfl) rfl ?_
      refine WL.y (R.nilCheck rfl) rfl ?_
      refine WL.y (R.fieldAddr fo203_2 rfl) rfl ?_
      refine WL.y (R.load sca3 rfl (hBp).r rfl) rfl ?_
      refine WL.fork (R.eql rfl rfl) rfl (fun hc1_21 => ?_) (fun hc1_21 => ?_)
      · skip
        replace hc1_21 := eq_of_beq hc1_21
        refine WL.y (R.mv (v := .bool true) rfl) rfl ?_
        refine WL.skip rfl ?_
        refine WL.skip rfl ?_
        refine WL.skip rfl ?_
        refine WL.skip rfl ?_
        refine WL.skip rfl ?_
        refine WL.skip rfl ?_
        refine WL.skip rfl ?_
        refine WL.skip rfl ?_
        refine WL.skip rfl ?_
        refine WL.y (R.pkT (v := .bool true) rfl rfl) rfl ?_
        refine WL.y (R.mv (v := .bool true) rfl) rfl ?_
        refine WL.skip rfl ?_
        refine WL.skip rfl ?_
        refine WL.skip rfl ?_
        refine WL.skip rfl ?_
        refine WL.skip rfl ?_
        refine WL.skip rfl ?_
        refine WL.skip rfl ?_
        refine WL.skip rfl ?_
        refine WL.y (R.pkT (v := .bool true) rfl rfl) rfl ?_
        refine WL.y (R.pkT (v := .bool true) rfl rfl) rfl ?_
        refine WL.y (R.asg (v := .bool true) rfl) rfl ?_
        refine WL.nil ?_
        refine W.ret ?_
        exact PR.r1 rfl (.tmp rfl) ⟨by rw [pLive_now hc1_13 hc1_21]; rfl, hX⟩
      · skip
        replace hc1_21 := beq_F hc1_21
        refine WL.y (R.mv (v := .bool false) rfl) rfl ?_
        refine WL.y (R.mv (v := .pointer _) rfl) rfl ?_
        refine WL.y (R.nilCheck rfl) rfl ?_
        refine WL.y (R.fieldAddr fo203_1 rfl) rfl ?_
        refine WL.y (R.load sca200 rfl (hBp).r rfl) rfl ?_
        refine WL.y (R.mv (v := .int _ _) rfl) rfl ?_
        refine WL.y (R.indexS Try.underlying200 siz205 rfl rfl rfl (by omega)) rfl ?_
        refine WL.y (R.fieldAddr fo205_1 rfl) rfl ?_
        refine WL.y (R.load sca3 rfl (hV.blk).r (hV.cell encVE hr (j := 1) (by decide))) rfl ?_
        refine WL.fork (R.gtr rfl rfl) rfl (fun hc1_31 => ?_) (fun hc1_31 => ?_)
        · skip
          replace hc1_31 := of_decide_eq_true hc1_31
          refine WL.y (R.pkF (v := .bool true) rfl rfl) rfl ?_
          refine WL.y (R.mv (v := .bool true) rfl) rfl ?_
          refine WL.skip rfl ?_
          refine WL.skip rfl ?_
          refine WL.skip rfl ?_
          refine WL.skip rfl ?_
          refine WL.skip rfl ?_
          refine WL.skip rfl ?_
          refine WL.skip rfl ?_
          refine WL.skip rfl ?_
          refine WL.y (R.pkT (v := .bool true) rfl rfl) rfl ?_
          refine WL.y (R.pkT (v := .bool true) rfl rfl) rfl ?_
          refine WL.y (R.asg (v := .bool true) rfl) rfl ?_
          refine WL.nil ?_
          refine W.ret ?_
          exact PR.r1 rfl (.tmp rfl) ⟨by rw [pLive_at hc1_13 hc1_21 hx, ← e1, decide_eq_true hc1_31, Bool.true_or]; rfl, hX⟩
        · skip
          replace hc1_31 := of_decide_eq_false hc1_31
          refine WL.y (R.pkF (v := .bool false) rfl rfl) rfl ?_
          refine WL.y (R.mv (v := .bool false) rfl) rfl ?_
          refine WL.y (R.mv (v := .pointer _) rfl) rfl ?_
          refine WL.y (R.nilCheck rfl) rfl ?_
          refine WL.y (R.fieldAddr fo203_1 rfl) rfl ?_
          refine WL.y (R.load sca200 rfl (hBp).r rfl) rfl ?_
          refine WL.y (R.mv (v := .int _ _) rfl) rfl ?_
          refine WL.y (R.indexS Try.underlying200 siz205 rfl rfl rfl (by omega)) rfl ?_
          refine WL.y (R.fieldAddr fo205_2 rfl) rfl ?_
          refine WL.y (R.load sca4 rfl (hV.blk).r (hV.cell encVE hr (j := 2) (by decide))) rfl ?_
          refine WL.y (R.pkF (v := .bool _) rfl rfl) rfl ?_
          refine WL.y (R.pkT (v := .bool _) rfl rfl) rfl ?_
          refine WL.y (R.asg (v := .bool _) rfl) rfl ?_
          refine WL.nil ?_
          refine W.ret ?_
          exact PR.r1 rfl (.tmp rfl) ⟨by rw [pLive_at hc1_13 hc1_21 hx, ← e1, decide_eq_false hc1_31, ← e2, Bool.false_or]; rfl, hX⟩
    · skip
      replace hc1_13 := of_decide_eq_false hc1_13
      skip
      refine WL.y (R.pkT (v := .bool false) rfl rfl) rfl ?_
      refine WL.y (R.mv (v := .bool false) rfl) rfl ?_
      refine WL.skip rfl ?_
      refine WL.skip rfl ?_
      refine WL.skip rfl ?_
      refine WL.skip rfl ?_
      refine WL.skip rfl ?_
      refine WL.skip rfl ?_
      refine WL.skip rfl ?_
      refine WL.skip rfl ?_
      refine WL.skip rfl ?_
      refine WL.skip rfl ?_
      refine WL.skip rfl ?_
      refine WL.skip rfl ?_
      refine WL.skip rfl ?_
      refine WL.skip rfl ?_
      refine WL.skip rfl ?_
      refine WL.skip rfl ?_
      refine WL.skip rfl ?_
      refine WL.skip rfl ?_
      refine WL.skip rfl ?_
      refine WL.skip rfl ?_
      refine WL.skip rfl ?_
      refine WL.skip rfl ?_
      refine WL.skip rfl ?_
      refine WL.skip rfl ?_
      refine WL.skip rfl ?_
      refine WL.skip rfl ?_
      refine WL.skip rfl ?_
      refine WL.y (R.pkF (v := .bool false) rfl rfl) rfl ?_
      refine WL.y (R.asg (v := .bool false) rfl) rfl ?_
      refine WL.nil ?_
      refine W.ret ?_
      exact PR.r1 rfl (.tmp rfl) ⟨by rw [pLive_big hc1_13]; rfl, hX⟩
  · skip
    replace hc1_4 := of_decide_eq_false hc1_4
    refine WL.y (R.pkT (v := .bool false) rfl rfl) rfl ?_
    refine WL.y (R.mv (v := .bool false) rfl) rfl ?_
    refine WL.skip rfl ?_
    refine WL.skip rfl ?_
    refine WL.skip rfl ?_
    refine WL.skip rfl ?_
    refine WL.skip rfl ?_
    refine WL.skip rfl ?_
    refine WL.skip rfl ?_
    refine WL.y (R.pkF (v := .bool false) rfl rfl) rfl ?_
    refine WL.y (R.mv (v := .bool false) rfl) rfl ?_
    refine WL.skip rfl ?_
    refine WL.skip rfl ?_
    refine WL.skip rfl ?_
    refine WL.skip rfl ?_
    refine WL.skip rfl ?_
    refine WL.skip rfl ?_
    refine WL.skip rfl ?_
    refine WL.skip rfl ?_
    refine WL.skip rfl ?_
    refine WL.skip rfl ?_
    refine WL.skip rfl ?_
    refine WL.skip rfl ?_
    refine WL.skip rfl ?_
    refine WL.skip rfl ?_
    refine WL.skip rfl ?_
    refine WL.skip rfl ?_
    refine WL.skip rfl ?_
    refine WL.skip rfl ?_
    refine WL.skip rfl ?_
    refine WL.skip rfl ?_
    refine WL.skip rfl ?_
    refine WL.skip rfl ?_
    refine WL.skip rfl ?_
    refine WL.skip rfl ?_
    refine WL.skip rfl ?_
    refine WL.skip rfl ?_
    refine WL.skip rfl ?_
    refine WL.y (R.pkF (v := .bool false) rfl rfl) rfl ?_
    refine WL.y (R.asg (v := .bool false) rfl) rfl ?_
    refine WL.nil ?_
    refine W.ret ?_
    exact PR.r1 rfl (.tmp rfl) ⟨by rw [pLive_neg hc1_4]; rfl, hX⟩

theorem Now_calls (F : Nat → Prop) (b : Nat) (c : Cfg) (p : PSt) (w : World) (hP : PoolAt w F b c p) : CallV Try.prog 43 #[.pointer (some ⟨b, 0, none⟩)] w fun r w' => r = i64 p.now ∧ Ext w w' := by
  have hX : Ext w w := Ext.rfl' w
  obtain ⟨gl, cl, csl, rvs, aL, cL, aS, cS, H⟩ := hP
  have hBp := H.blk
  have hV := H.vers
  have hlen := H.len
  have h16 := H.v64
  refine Calls.of_W (N := 9) Try.func43 rfl rfl rfl ?_
  refine W.reg ?_
  refine WL.y (R.asg (v := .int _ _) rfl) rfl ?_
  refine WL.nil ?_
  refine W.seq ?_
  refine W.reg ?_
  refine WL.y (R.mv (v := .pointer _) rfl) rfl ?_
  refine WL.y (R.eqlNil Try.underlying61 rfl) rfl ?_
  refine WL.nil ?_
  refine W.cond_f rfl ?_
  refine W.skip ?_
  refine W.reg ?_
  refine WL.y (R.mv (v := .pointer _) rfl) rfl ?_
  refine WL.y (R.nilCheck rfl) rfl ?_
  refine WL.y (R.fieldAddr fo203_2 rfl) rfl ?_
  refine WL.y (R.load sca3 rfl (hBp).r rfl) rfl ?_
  refine WL.y (R.asg (v := .int _ _) rfl) rfl ?_
  refine WL.nil ?_
  refine W.ret ?_
  exact PR.r1 rfl (.tmp rfl) ⟨rfl, hX⟩

theorem Last_calls (F : Nat → Prop) (b : Nat) (c : Cfg) (p : PSt) (w : World) (hP : PoolAt w F b c p) : CallV Try.prog 45 #[.pointer (some ⟨b, 0, none⟩)] w fun r w' => (∃ a' c', r = .slice a' p.last.length c' ∧ Sli encMem 19 w' a' c' p.last ∧ ∀ k, owns a' k → w.heap.size ≤ k) ∧ Ext w w' := by
  have hX : Ext w w := Ext.rfl' w
  obtain ⟨gl, cl, csl, rvs, aL, cL, aS, cS, H⟩ := hP
  have hBp := H.blk
  have hV := H.vers
  have hlen := H.len
  have h16 := H.v64
  refine Calls.of_W (N := 10) Try.func45 rfl rfl rfl ?_
  refine W.reg ?_
  refine WL.y (R.asg (v := .slice _ _ _) rfl) rfl ?_
  refine WL.nil ?_
  refine W.seq ?_
  refine W.reg ?_
  refine WL.y (R.mv (v := .pointer _) rfl) rfl ?_
  refine WL.y (R.eqlNil Try.underlying61 rfl) rfl ?_
  refine WL.nil ?_
  refine W.cond_f rfl ?_
  refine W.skip ?_
  refine W.reg ?_
  refine WL.y (R.mv (v := .pointer _) rfl) rfl ?_
  refine WL.y (R.nilCheck rfl) rfl ?_
  refine WL.y (R.fieldAddr fo203_3 rfl) rfl ?_
  refine WL.y (R.load sca52 rfl (hBp).r rfl) rfl ?_
  refine WL.call Try.func119 rfl rfl (CloneMem_calls p.last (by have := H.l32; omega) aL cL _ H.last) rfl rfl ?_
  rintro _ w1 ⟨⟨a1, c1, rfl, hsl1, hof1⟩, hx1⟩
  have hz1 := hx1.size
  replace hX := hX.tr hx1
  replace hBp := hx1.blk hBp
  replace hV := hV.ext hx1
  refine WL.y (R.asg (v := .slice _ _ _) rfl) rfl ?_
  refine WL.nil ?_
  refine W.ret ?_
  exact PR.r1 rfl (.tmp rfl) ⟨⟨_, _, rfl, hsl1, hof1⟩, hX⟩

theorem pLive_bd {p : PSt} {v : Int} (h : pLive p v = true) : 0 ≤ v ∧ v < p.vs.length := by
  simp only [pLive, Bool.and_eq_true, decide_eq_true_eq] at h
  exact ⟨h.1, h.2.1⟩
def pGet (p : PSt) (v : Int) : Option Ver := if pLive p v = true then p.vs[v.toNat]? else none
theorem pGet_no {p : PSt} {v : Int} (h : pLive p v = false) : pGet p v = none := by simp [pGet, h]
theorem pGet_at {p : PSt} {k : Nat} {x : Ver} (h : pLive p k = true) (hx : p.vs[k]? = some x) : pGet p k = some x := by simp [pGet, h, hx]

theorem Refs_calls (F : Nat → Prop) (b : Nat) (c : Cfg) (p : PSt) (w : World) (hP : PoolAt w F b c p) (v : Int) : CallV Try.prog 51 #[.pointer (some ⟨b, 0, none⟩), i64 v] w fun r w' => r = i64 (match pGet p v with | some x => x.refs | none => 0) ∧ Ext w w' := by
  have hX : Ext w w := Ext.rfl' w
  obtain ⟨gl, cl, csl, rvs, aL, cL, aS, cS, H⟩ := hP
  have hBp := H.blk
  have hV := H.vers
  have hlen := H.len
  have h16 := H.v64
  refine Calls.of_W (N := 17) Try.func51 rfl rfl rfl ?_
  refine W.reg ?_
  refine WL.y (R.asg (v := .int _ _) rfl) rfl ?_
  refine WL.nil ?_
  refine W.seq ?_
  refine W.reg ?_
  refine WL.y (R.mv (v := .pointer _) rfl) rfl ?_
  refine WL.y (R.mv (v := .int _ _) rfl) rfl ?_
  refine WL.call Try.func123 rfl rfl (CallV.fork (live_calls F b c p _ ⟨gl, cl, csl, rvs, aL, cL, aS, cS, H⟩ v)) rfl rfl ?_
  rintro _ w1 (⟨hc1_2, rfl, hx1⟩ | ⟨hc1_2, rfl, hx1⟩)
  · skip
    have hz1 := hx1.size
    replace hX := hX.tr hx1
    replace hBp := hx1.blk hBp
    replace hV := hV.ext hx1
    refine WL.y (R.notT rfl) rfl ?_
    refine WL.nil ?_
    refine W.cond_f rfl ?_
    refine W.skip ?_
    refine W.reg ?_
    obtain ⟨k, rfl⟩ : ∃ k : Nat, v = k := ⟨v.toNat, by have := pLive_bd hc1_2; omega⟩
    have hkl := pLive_bd hc1_2
    obtain ⟨r, hr⟩ : ∃ r, rvs[k]? = some r := ⟨_, List.getElem?_eq_getElem (by omega)⟩
    obtain ⟨x, hx⟩ : ∃ x, p.vs[k]? = some x := ⟨_, List.getElem?_eq_getElem (by omega)⟩
    obtain ⟨e1, e2, e3, e4, e5⟩ := H.each k r x hr hx
    refine WL.y (R.mv (v := .pointer _) rfl) rfl ?_
    refine WL.y (R.nilCheck rfl) rfl ?_
    refine WL.y (R.fieldAddr fo203_1 rfl) rfl ?_
    refine WL.y (R.load sca200 rfl (hBp).r rfl) rfl ?_
    refine WL.y (R.mv (v := .int _ _) rfl) rfl ?_
    refine WL.y (R.indexS Try.underlying200 siz205 rfl rfl rfl (by omega)) rfl ?_
    refine WL.y (R.fieldAddr fo205_1 rfl) rfl ?_
    refine WL.y (R.load sca3 rfl (hV.blk).r (hV.cell encVE hr (j := 1) (by decide))) rfl ?_
    refine WL.y (R.asg (v := .int _ _) rfl) rfl ?_
    refine WL.nil ?_
    refine W.ret ?_
    exact PR.r1 rfl (.tmp rfl) ⟨by rw [pGet_at hc1_2 hx]; simp only [← e1]; rfl, hX⟩
  · skip
    have hz1 := hx1.size
    replace hX := hX.tr hx1
    replace hBp := hx1.blk hBp
    replace hV := hV.ext hx1
    refine WL.y (R.notF rfl) rfl ?_
    refine WL.nil ?_
    refine W.cond_t rfl ?_
    refine W.reg ?_
    refine WL.y (R.asg (v := .int _ _) rfl) rfl ?_
    refine WL.nil ?_
    refine W.ret ?_
    exact PR.r1 rfl (.tmp rfl) ⟨by rw [pGet_no hc1_2]; rfl, hX⟩

theorem Slots_calls (F : Nat → Prop) (b : Nat) (c : Cfg) (p : PSt) (w : World) (hP : PoolAt w F b c p) (v : Int) : CallV Try.prog 54 #[.pointer (some ⟨b, 0, none⟩), i64 v] w fun r w' => (∃ a' c', r = .slice a' ((match pGet p v with | some x => x.slots | none => []) : List Dip).length c' ∧ Sli encDip 18 w' a' c' (match pGet p v with | some x => x.slots | none => []) ∧ ∀ k, owns a' k → w.heap.size ≤ k) ∧ Ext w w' := by
  have hX : Ext w w := Ext.rfl' w
  obtain ⟨gl, cl, csl, rvs, aL, cL, aS, cS, H⟩ := hP
  have hBp := H.blk
  have hV := H.vers
  have hlen := H.len
  have h16 := H.v64
  refine Calls.of_W (N := 18) Try.func54 rfl rfl rfl ?_
  refine W.reg ?_
  refine WL.y (R.asg (v := .slice _ _ _) rfl) rfl ?_
  refine WL.nil ?_
  refine W.seq ?_
  refine W.reg ?_
  refine WL.y (R.mv (v := .pointer _) rfl) rfl ?_
  refine WL.y (R.mv (v := .int _ _) rfl) rfl ?_
  refine WL.call Try.func123 rfl rfl (CallV.fork (live_calls F b c p _ ⟨gl, cl, csl, rvs, aL, cL, aS, cS, H⟩ v)) rfl rfl ?_
  rintro _ w1 (⟨hc1_2, rfl, hx1⟩ | ⟨hc1_2, rfl, hx1⟩)
  · skip
    have hz1 := hx1.size
    replace hX := hX.tr hx1
    replace hBp := hx1.blk hBp
    replace hV := hV.ext hx1
    refine WL.y (R.notT rfl) rfl ?_
    refine WL.nil ?_
    refine W.cond_f rfl ?_
    refine W.skip ?_
    refine W.reg ?_
    obtain ⟨k, rfl⟩ : ∃ k : Nat, v = k := ⟨v.toNat, by have := pLive_bd hc1_2; omega⟩
    have hkl := pLive_bd hc1_2
    obtain ⟨r, hr⟩ : ∃ r, rvs[k]? = some r := ⟨_, List.getElem?_eq_getElem (by omega)⟩
    obtain ⟨x, hx⟩ : ∃ x, p.vs[k]? = some x := ⟨_, List.getElem?_eq_getElem (by omega)⟩
    obtain ⟨e1, e2, e3, e4, e5⟩ := H.each k r x hr hx
    have en : Value.slice r.a r.n r.c = .slice r.a x.slots.length r.c := by rw [e3]
    refine WL.y (R.mv (v := .pointer _) rfl) rfl ?_
    refine WL.y (R.nilCheck rfl) rfl ?_
    refine WL.y (R.fieldAddr fo203_1 rfl) rfl ?_
    refine WL.y (R.load sca200 rfl (hBp).r rfl) rfl ?_
    refine WL.y (R.mv (v := .int _ _) rfl) rfl ?_
    refine WL.y (R.indexS Try.underlying200 siz205 rfl rfl rfl (by omega)) rfl ?_
    refine WL.y (R.fieldAddr fo205_0 rfl) rfl ?_
    refine WL.y (R.load sca81 rfl (hV.blk).r ((hV.cell encVE hr (j := 0) (by decide)).trans (congrArg some en))) rfl ?_
    refine WL.call Try.func126 rfl rfl (CloneDip_calls x.slots (by have := H.sv x (List.mem_of_getElem? hx); omega) r.a r.c _ (e4.ext hX)) rfl rfl ?_
    rintro _ w2 ⟨⟨a2, c2, rfl, hsl2, hof2⟩, hx2⟩
    have hz2 := hx2.size
    replace hX := hX.tr hx2
    replace hBp := hx2.blk hBp
    replace hV := hV.ext hx2
    refine WL.y (R.asg (v := .slice _ _ _) rfl) rfl ?_
    refine WL.nil ?_
    refine W.ret ?_
    exact PR.r1 rfl (.tmp rfl) ⟨⟨_, _, by rw [pGet_at hc1_2 hx]; rfl, by rw [pGet_at hc1_2 hx]; exact hsl2, fun k hk => by have := hof2 k hk; omega⟩, hX⟩
  · skip
    have hz1 := hx1.size
    replace hX := hX.tr hx1
    replace hBp := hx1.blk hBp
    replace hV := hV.ext hx1
    refine WL.y (R.notF rfl) rfl ?_
    refine WL.nil ?_
    refine W.cond_t rfl ?_
    refine W.reg ?_
    refine WL.y (R.asg (v := .slice _ _ _) rfl) rfl ?_
    refine WL.nil ?_
    refine W.ret ?_
    exact PR.r1 rfl (.tmp rfl) ⟨⟨none, 0, by rw [pGet_no hc1_2]; rfl, by rw [pGet_no hc1_2]; exact Sli.nil _ _ _, own_nil⟩, hX⟩
end Go.Proofs.Ytkjecokkdbapkaa
