import Derived.Test.YtkjecokkdbapkaaZzPools3
import Derived.Test.YtkjecokkdbapkaaProg
namespace Go.Proofs.Ytkjecokkdbapkaa
set_option linter.all false
open Go Go.Eng Go.RowKit
set_option maxRecDepth 20000
set_option maxHeartbeats 2000000
set_option linter.unusedVariables false
set_option linter.unusedSimpArgs false
attribute [local irreducible] WL W QL WA SP

theorem fo203_0 : FO Try.prog 203 0 0 := fun a w => by kernel_rfl
theorem fo203_4 : FO Try.prog 203 4 51 := fun a w => by kernel_rfl

theorem PoolO.ext {w w' : World} {F : Nat → Prop} {b gl cl : Nat} {csl : List Value} {rvs : List RV} {aL : Option Addr} {cL : Nat} {aS : Option Addr} {cS : Nat} {c : Cfg} {p : PSt}
    (h : PoolO w F b gl cl csl rvs aL cL aS cS c p) (hu : Ext w w') : PoolO w' F b gl cl csl rvs aL cL aS cS c p := h.upd (hu.upd fun _ => False) (fun _ _ h => h)
/-- The least version that is not live. -/
def pFirst (p : PSt) : Nat := (List.range p.vs.length).findIdx (fun v => !pLive p (v : Nat))
theorem pFirst_eq {p : PSt} {v : Nat} (h : v ≤ p.vs.length) (hl : ∀ j, j < v → pLive p (j : Nat) = true) (hv : pLive p (v : Nat) = false) : pFirst p = v := by
  by_cases e : v = p.vs.length
  · subst e
    have : pFirst p = (List.range p.vs.length).length := by
      rw [pFirst, List.findIdx_eq_length]
      intro x hx
      rw [List.mem_range] at hx
      simp [hl x hx]
    simpa using this
  · rw [pFirst, List.findIdx_eq (by simp; omega)]
    refine ⟨by simp [hv], fun j hj => by simp [hl j hj]⟩
theorem pFirst_le (p : PSt) : pFirst p ≤ p.vs.length := by
  have := List.findIdx_le_length (p := fun v => !pLive p (v : Nat)) (xs := List.range p.vs.length)
  simpa [pFirst] using this
theorem pFirst_dead {p : PSt} (h : pFirst p < p.vs.length) : pLive p (pFirst p : Nat) = false := by
  have h1 : (List.range p.vs.length).findIdx (fun v => !pLive p (v : Nat)) < (List.range p.vs.length).length := by simpa [pFirst] using h
  have := List.findIdx_getElem (w := h1)
  simpa [pFirst] using this
def pReserve (c : Cfg) (p : PSt) (ms : List Mem) : PSt := ⟨p.vs.set (pFirst p) ⟨fill p.sl ms c.slots.toNat, 0, true⟩, p.now, ms, fill p.sl ms c.slots.toNat⟩

theorem Reserve_bad (F : Nat → Prop) (b : Nat) (c : Cfg) (p : PSt) (w : World) (hP : PoolAt w F b c p) (ms : List Mem) (a : Option Addr) (cc : Nat) (hS : Sli encMem 19 w a cc ms) (hm : memsOK ms = false) : CallV Try.prog 34 #[.pointer (some ⟨b, 0, none⟩), .slice a ms.length cc] w fun r w' => r = .tuple #[i64 0, i64 1] ∧ Ext w w' := by
  have hX : Ext w w := Ext.rfl' w
  obtain ⟨gl, cl, csl, rvs, aL, cL, aS, cS, H⟩ := hP
  have hBp := H.blk
  have hV := H.vers
  have hlen := H.len
  have h16 := H.v64
  have hSl := hS.lt
  have hSr := hS
  refine Calls.of_W (N := 63) Try.func34 rfl rfl rfl ?_
  refine W.reg ?_
  refine WL.y (R.asg (v := .int _ _) rfl) rfl ?_
  refine WL.y (R.asg (v := .int _ _) rfl) rfl ?_
  refine WL.nil ?_
  refine W.seq ?_
  refine W.reg ?_
  refine WL.y (R.mv (v := .pointer _) rfl) rfl ?_
  refine WL.y (R.eqlNil Try.underlying61 rfl) rfl ?_
  refine WL.y (R.mv (v := .bool false) rfl) rfl ?_
  refine WL.y (R.mv (v := .slice _ _ _) rfl) rfl ?_
  refine WL.call Try.func109 rfl rfl ((Check_calls ms a cc _ hS).val (y := i64 1) (by rw [hm]; rfl)) rfl rfl ?_
  rintro _ w1 ⟨rfl, hx1⟩
  have hz1 := hx1.size
  replace hX := hX.tr hx1
  replace hBp := hx1.blk hBp
  replace hV := hV.ext hx1
  replace hS := hS.ext hx1
  refine WL.y (R.neqT rfl rfl (by decide)) rfl ?_
  refine WL.y (R.pkF (v := .bool true) rfl rfl) rfl ?_
  refine WL.nil ?_
  refine W.cond_t rfl ?_
  refine W.reg ?_
  refine WL.y (R.asg (v := .int _ _) rfl) rfl ?_
  refine WL.y (R.asg (v := .int _ _) rfl) rfl ?_
  refine WL.nil ?_
  refine W.ret ?_
  exact PR.r2 rfl (.tmp rfl) (.tmp rfl) ⟨rfl, hX⟩

theorem Reserve_full (F : Nat → Prop) (b : Nat) (c : Cfg) (p : PSt) (w : World) (hP : PoolAt w F b c p) (ms : List Mem) (a : Option Addr) (cc : Nat) (hS : Sli encMem 19 w a cc ms) (hm : memsOK ms = true) (hf : pFirst p = p.vs.length) : CallV Try.prog 34 #[.pointer (some ⟨b, 0, none⟩), .slice a ms.length cc] w fun r w' => r = .tuple #[i64 0, i64 3] ∧ Ext w w' := by
  have hX : Ext w w := Ext.rfl' w
  obtain ⟨gl, cl, csl, rvs, aL, cL, aS, cS, H⟩ := hP
  have hBp := H.blk
  have hV := H.vers
  have hlen := H.len
  have h16 := H.v64
  have hSl := hS.lt
  have hSr := hS
  refine Calls.of_W (N := 63) Try.func34 rfl rfl rfl ?_
  refine W.reg ?_
  refine WL.y (R.asg (v := .int _ _) rfl) rfl ?_
  refine WL.y (R.asg (v := .int _ _) rfl) rfl ?_
  refine WL.nil ?_
  refine W.seq ?_
  refine W.reg ?_
  refine WL.y (R.mv (v := .pointer _) rfl) rfl ?_
  refine WL.y (R.eqlNil Try.underlying61 rfl) rfl ?_
  refine WL.y (R.mv (v := .bool false) rfl) rfl ?_
  refine WL.y (R.mv (v := .slice _ _ _) rfl) rfl ?_
  refine WL.call Try.func109 rfl rfl ((Check_calls ms a cc _ hS).val (y := i64 0) (by rw [hm]; rfl)) rfl rfl ?_
  rintro _ w1 ⟨rfl, hx1⟩
  have hz1 := hx1.size
  replace hX := hX.tr hx1
  replace hBp := hx1.blk hBp
  replace hV := hV.ext hx1
  replace hS := hS.ext hx1
  refine WL.y (R.neqF rfl rfl rfl) rfl ?_
  refine WL.y (R.pkF (v := .bool false) rfl rfl) rfl ?_
  refine WL.nil ?_
  refine W.cond_f rfl ?_
  refine W.skip ?_
  refine W.reg ?_
  refine WL.y (R.asg (v := .int _ _) rfl) rfl ?_
  refine WL.nil ?_
  refine W.seqX (ι := Unit) [(6, 7), (16, 21)] (fun _ => [(6, i64 (pFirst p : Nat))]) (fun _ w' => Ext w w') ?_ ?_
  · skip
    refine W.block ?_
    refine W.loopS (ι := Nat) [(6, 7), (16, 21)] (fun v => [(6, i64 (v : Nat))]) (fun v => p.vs.length - v) (fun v w' => Ext w w' ∧ v ≤ p.vs.length ∧ ∀ j, j < v → pLive p (j : Nat) = true) 0 ⟨rfl, trivial⟩ ⟨hX, Nat.zero_le _, fun j hj => absurd hj (by omega)⟩ ?_
    rintro v j wl ⟨hX, hv, hall⟩
    refine W.seq ?_
    refine W.reg ?_
    refine WL.y (R.mv (v := .pointer _) rfl) rfl ?_
    refine WL.y (R.mv (v := .int _ _) rfl) rfl ?_
    refine WL.call Try.func123 rfl rfl (CallV.fork (live_calls F b c p _ ⟨gl, cl, csl, rvs, aL, cL, aS, cS, H.ext hX⟩ (v : Nat))) rfl rfl ?_
    rintro _ w2 (⟨hc4_2, rfl, hx2⟩ | ⟨hc4_2, rfl, hx2⟩)
    · skip
      have hz2 := hx2.size
      replace hX := hX.tr hx2
      refine WL.nil ?_
      refine W.cond_t rfl ?_
      refine W.skip ?_
      refine W.block ?_
      refine W.region ?_
      refine WL.y (R.mv (v := .int _ _) rfl) rfl ?_
      refine WL.y (R.addI rfl rfl (by omega)) rfl ?_
      refine WL.y (R.asg (v := .int _ _) rfl) rfl ?_
      refine WL.nil ?_
      exact ⟨v + 1, (by have := pLive_bd hc4_2; omega), (by repeat (first | exact Same.rfl' _ _ | refine Same.set _ rfl ?_ | refine Same.over' _ rfl ?_ | refine Same.sets rfl ?_)), ⟨rfl, trivial⟩, rfl, hX, by have := pLive_bd hc4_2; omega, fun j hj => by rcases Nat.lt_or_ge j v with h | h; exact hall j h; (obtain rfl : j = v := by omega); exact hc4_2⟩
    · skip
      have hz2 := hx2.size
      replace hX := hX.tr hx2
      refine WL.nil ?_
      refine W.cond_f rfl ?_
      refine W.exit ?_
      have hpf := pFirst_eq hv hall hc4_2
      exact ⟨(), (by repeat (first | exact Same.rfl' _ _ | refine Same.set _ rfl ?_ | refine Same.over' _ rfl ?_ | refine Same.sets rfl ?_)), ⟨by show i64 _ = i64 _; rw [hpf], trivial⟩, rfl, hX⟩
  · skip
    rintro _ j wl hX
    have hBp := hX.blk H.blk
    have hV := H.vers.ext hX
    replace hS := hSr.ext hX
    have hXs := hX.size
    have hz0 := H.lt _ H.fb
    have hz1 := H.lt _ H.fg
    refine W.seq ?_
    refine W.reg ?_
    refine WL.y (R.mv (v := .int _ _) rfl) rfl ?_
    refine WL.y (R.mv (v := .pointer _) rfl) rfl ?_
    refine WL.y (R.nilCheck rfl) rfl ?_
    refine WL.y (R.fieldAddr fo203_1 rfl) rfl ?_
    refine WL.y (R.load sca200 rfl (hBp).r rfl) rfl ?_
    refine WL.y (R.lenS Try.underlying200 rfl) rfl ?_
    refine WL.y (R.geqT rfl rfl (by omega)) rfl ?_
    refine WL.nil ?_
    refine W.cond_t rfl ?_
    refine W.reg ?_
    refine WL.y (R.asg (v := .int _ _) rfl) rfl ?_
    refine WL.y (R.asg (v := .int _ _) rfl) rfl ?_
    refine WL.nil ?_
    refine W.ret ?_
    exact PR.r2 rfl (.tmp rfl) (.tmp rfl) ⟨rfl, hX⟩

theorem Reserve_ok (F : Nat → Prop) (b : Nat) (c : Cfg) (p : PSt) (w : World) (hP : PoolAt w F b c p) (ms : List Mem) (a : Option Addr) (cc : Nat) (hS : Sli encMem 19 w a cc ms) (hdis : ∀ k, ownsC a cc k → ¬ F k) (hm : memsOK ms = true) (hf : pFirst p < p.vs.length) : CallV Try.prog 34 #[.pointer (some ⟨b, 0, none⟩), .slice a ms.length cc] w fun r w' => ∃ F2, r = .tuple #[i64 (pFirst p : Nat), i64 0] ∧ Upd F w w' ∧ PoolAt w' F2 b c (pReserve c p ms) ∧ ∀ k, F2 k → F k ∨ w.heap.size ≤ k := by
  have hX : Ext w w := Ext.rfl' w
  obtain ⟨gl, cl, csl, rvs, aL, cL, aS, cS, H⟩ := hP
  have hBp := H.blk
  have hV := H.vers
  have hlen := H.len
  have h16 := H.v64
  have hSl : ∀ k, ownsC a cc k → k < w.heap.size ∧ k ≠ b ∧ k ≠ gl := fun k hk => ⟨hS.lt k hk, fun e => hdis k hk (e ▸ H.fb), fun e => hdis k hk (e ▸ H.fg)⟩
  have hSr := hS
  have hne := H.ne
  obtain ⟨ns, hns⟩ : ∃ n : Nat, c.slots = n := ⟨c.slots.toNat, by have := H.ok.slots; omega⟩
  have hns2 : c.slots.toNat = ns := by omega
  have hsb := H.ok.slots
  have hlt0 := H.lt
  refine Calls.of_W (N := 63) Try.func34 rfl rfl rfl ?_
  refine W.reg ?_
  refine WL.y (R.asg (v := .int _ _) rfl) rfl ?_
  refine WL.y (R.asg (v := .int _ _) rfl) rfl ?_
  refine WL.nil ?_
  refine W.seq ?_
  refine W.reg ?_
  refine WL.y (R.mv (v := .pointer _) rfl) rfl ?_
  refine WL.y (R.eqlNil Try.underlying61 rfl) rfl ?_
  refine WL.y (R.mv (v := .bool false) rfl) rfl ?_
  refine WL.y (R.mv (v := .slice _ _ _) rfl) rfl ?_
  refine WL.call Try.func109 rfl rfl ((Check_calls ms a cc _ hS).val (y := i64 0) (by rw [hm]; rfl)) rfl rfl ?_
  rintro _ w1 ⟨rfl, hx1⟩
  have hz1 := hx1.size
  replace hX := hX.tr hx1
  replace hBp := hx1.blk hBp
  replace hV := hV.ext hx1
  replace hS := hS.ext hx1
  refine WL.y (R.neqF rfl rfl rfl) rfl ?_
  refine WL.y (R.pkF (v := .bool false) rfl rfl) rfl ?_
  refine WL.nil ?_
  refine W.cond_f rfl ?_
  refine W.skip ?_
  refine W.reg ?_
  refine WL.y (R.asg (v := .int _ _) rfl) rfl ?_
  refine WL.nil ?_
  refine W.seqX (ι := Unit) [(6, 7), (16, 21)] (fun _ => [(6, i64 (pFirst p : Nat))]) (fun _ w' => Ext w w') ?_ ?_
  · skip
    refine W.block ?_
    refine W.loopS (ι := Nat) [(6, 7), (16, 21)] (fun v => [(6, i64 (v : Nat))]) (fun v => p.vs.length - v) (fun v w' => Ext w w' ∧ v ≤ p.vs.length ∧ ∀ j, j < v → pLive p (j : Nat) = true) 0 ⟨rfl, trivial⟩ ⟨hX, Nat.zero_le _, fun j hj => absurd hj (by omega)⟩ ?_
    rintro v j wl ⟨hX, hv, hall⟩
    refine W.seq ?_
    refine W.reg ?_
    refine WL.y (R.mv (v := .pointer _) rfl) rfl ?_
    refine WL.y (R.mv (v := .int _ _) rfl) rfl ?_
    refine WL.call Try.func123 rfl rfl (CallV.fork (live_calls F b c p _ ⟨gl, cl, csl, rvs, aL, cL, aS, cS, H.ext hX⟩ (v : Nat))) rfl rfl ?_
    rintro _ w2 (⟨hc4_2, rfl, hx2⟩ | ⟨hc4_2, rfl, hx2⟩)
    · skip
      have hz2 := hx2.size
      replace hX := hX.tr hx2
      refine WL.nil ?_
      refine W.cond_t rfl ?_
      refine W.skip ?_
      refine W.block ?_
      refine W.region ?_
      refine WL.y (R.mv (v := .int _ _) rfl) rfl ?_
      refine WL.y (R.addI rfl rfl (by omega)) rfl ?_
      refine WL.y (R.asg (v := .int _ _) rfl) rfl ?_
      refine WL.nil ?_
      exact ⟨v + 1, (by have := pLive_bd hc4_2; omega), (by repeat (first | exact Same.rfl' _ _ | refine Same.set _ rfl ?_ | refine Same.over' _ rfl ?_ | refine Same.sets rfl ?_)), ⟨rfl, trivial⟩, rfl, hX, by have := pLive_bd hc4_2; omega, fun j hj => by rcases Nat.lt_or_ge j v with h | h; exact hall j h; (obtain rfl : j = v := by omega); exact hc4_2⟩
    · skip
      have hz2 := hx2.size
      replace hX := hX.tr hx2
      refine WL.nil ?_
      refine W.cond_f rfl ?_
      refine W.exit ?_
      have hpf := pFirst_eq hv hall hc4_2
      exact ⟨(), (by repeat (first | exact Same.rfl' _ _ | refine Same.set _ rfl ?_ | refine Same.over' _ rfl ?_ | refine Same.sets rfl ?_)), ⟨by show i64 _ = i64 _; rw [hpf], trivial⟩, rfl, hX⟩
  · skip
    rintro _ j wl hX
    have hBp := hX.blk H.blk
    have hV := H.vers.ext hX
    replace hS := hSr.ext hX
    have hXs := hX.size
    have hz0 := H.lt _ H.fb
    have hz1 := H.lt _ H.fg
    have hU : Upd F w wl := hX.upd _
    have hUP : Upd (fun k => k = b ∨ k = gl) w wl := hX.upd _
    refine W.seq ?_
    refine W.reg ?_
    refine WL.y (R.mv (v := .int _ _) rfl) rfl ?_
    refine WL.y (R.mv (v := .pointer _) rfl) rfl ?_
    refine WL.y (R.nilCheck rfl) rfl ?_
    refine WL.y (R.fieldAddr fo203_1 rfl) rfl ?_
    refine WL.y (R.load sca200 rfl (hBp).r rfl) rfl ?_
    refine WL.y (R.lenS Try.underlying200 rfl) rfl ?_
    refine WL.y (R.geqF rfl rfl (by omega)) rfl ?_
    refine WL.nil ?_
    refine W.cond_f rfl ?_
    refine W.skip ?_
    refine W.seq ?_
    refine W.draw (fun j => [1000].contains j) (fun wI => Ext wl wI) rfl ?_
    have hI3 := Ext.dr wl
    refine WA.batch [0, 1, 2, 3, 4, 5, 6, 7, 8, 9] 6 (by kernel_rfl) hI3 ?_
    refine QL.y (fun wq hq => (R.mv (v := .pointer _) rfl)) rfl ?_
    refine QL.y (fun wq hq => (R.nilCheck rfl)) rfl ?_
    refine QL.y (fun wq hq => (R.fieldAddr fo203_4 rfl)) rfl ?_
    refine QL.y (fun wq hq => (R.load sca81 rfl (hq.blkR (hBp).r) rfl)) rfl ?_
    refine QL.y (fun wq hq => (R.mv (v := .slice _ _ _) rfl)) rfl ?_
    refine QL.y (fun wq hq => (R.mv (v := .pointer _) rfl)) rfl ?_
    refine QL.y (fun wq hq => (R.nilCheck rfl)) rfl ?_
    refine QL.y (fun wq hq => (R.fieldAddr fo203_0 rfl)) rfl ?_
    refine QL.y (fun wq hq => (R.fieldAddr fo33_5 rfl)) rfl ?_
    refine QL.y (fun wq hq => (R.load sca3 rfl (hq.blkR (hBp).r) rfl)) rfl ?_
    refine QL.nil ?_
    have hD3 := Ext.dr wl
    have hD3z := hD3.size
    replace hUP := hUP.tr (hD3.upd _)
    replace hU := hU.tr (hD3.upd _)
    replace hBp := hD3.blk hBp
    replace hV := hV.ext hD3
    replace hS := hS.ext hD3
    refine WA.one 10 5 (by kernel_rfl) ?_
    refine WL.call (vs := [.slice aS p.sl.length cS, .slice a ms.length cc, i64 ((ns : Nat) : Int)]) Try.func118 rfl rfl (Fill_calls p.sl ms ns aS a cS cc _ (H.sl.upd hUP (fun k hk hs => by have := H.ownS k hk; omega)) hS (by omega) hm (by rw [← hns2]; exact H.s0)) (by rw [← hns]; rfl) rfl ?_
    rintro _ w4 ⟨⟨aF, cF, rfl, hSF, hoF⟩, hx4⟩
    have hz4 := hx4.size
    replace hUP := hUP.tr (hx4.upd _)
    replace hU := hU.tr (hx4.upd _)
    replace hBp := hx4.blk hBp
    replace hV := hV.ext hx4
    replace hS := hS.ext hx4
    have hoFl : ∀ k, ownsC aF cF k → wl.heap.size ≤ k ∧ k < w4.heap.size := fun k hk => ⟨by have := hoF k hk.1; omega, hSF.lt k hk⟩
    refine WL.nil ?_
    refine ⟨fun _ h => h.tr hx4, ?_⟩
    replace hI3 := hI3.tr hx4
    refine WA.pures [11, 12, 13, 14, 15] 0 (by kernel_rfl) ?_
    refine QL.y (fun wq hq => (R.mv (v := .tuple _) rfl)) rfl ?_
    refine QL.y (fun wq hq => (R.extract rfl rfl)) rfl ?_
    refine QL.y (fun wq hq => (R.extract rfl rfl)) rfl ?_
    refine QL.y (fun wq hq => (R.asg (v := .slice _ _ _) rfl)) rfl ?_
    refine QL.y (fun wq hq => (R.asg (v := .int _ _) rfl)) rfl ?_
    refine QL.nil ?_
    refine WA.done (by kernel_rfl) ?_
    refine W.seq ?_
    refine W.reg ?_
    refine WL.y (R.mv (v := .int _ _) rfl) rfl ?_
    refine WL.y (R.neqF rfl rfl rfl) rfl ?_
    refine WL.nil ?_
    refine W.cond_f rfl ?_
    refine W.skip ?_
    refine W.reg ?_
    refine WL.y (R.mv (v := .pointer _) rfl) rfl ?_
    refine WL.y (R.nilCheck rfl) rfl ?_
    refine WL.y (R.fieldAddr fo203_1 rfl) rfl ?_
    refine WL.y (R.load sca200 rfl (hBp).r rfl) rfl ?_
    refine WL.y (R.mv (v := .int _ _) rfl) rfl ?_
    refine WL.y (R.mv (v := .slice _ _ _) rfl) rfl ?_
    refine WL.y (R.buildP (parts := [(0, .tmp 50), (2, .const (.bool true))]) (ps := [(0, .slice _ _ _), (2, (.bool true))]) bld205 rfl rfl) rfl ?_
    refine WL.y (R.indexS Try.underlying200 siz205 rfl rfl rfl (by omega)) rfl ?_
    refine WL.store (v := .agg _) siz205 rfl rfl rfl rfl hV.blk (hV.bound (by first | omega | (simp; omega))) rfl rfl ?_
    intro w5 hu5 hz5 hn5
    replace hUP := hUP.tr (hu5.mono (fun k _ hk => by subst hk; first | exact .inl rfl | exact .inr rfl))
    replace hU := hU.tr (hu5.mono (fun k _ hk => by subst hk; first | exact H.fb | exact H.fg))
    replace hBp := hu5.blk (by omega) hBp
    replace hS := hS.updB hu5 (fun k hk => by first | (have := (hSl) k hk; omega) | (have := (hSl) k hk.1; omega))
    replace hSF := hSF.updB hu5 (fun k hk => by first | (have := (hoFl) k hk; omega) | (have := (hoFl) k hk.1; omega))
    replace hV := hV.put encVE (by first | omega | (simp; omega)) (⟨aF, (fill p.sl ms ns).length, cF, 0, true⟩ : RV) hn5; clear hn5
    refine WL.nil ?_
    refine W.reg ?_
    refine WL.y (R.mv (v := .pointer _) rfl) rfl ?_
    refine WL.y (R.mv (v := .pointer _) rfl) rfl ?_
    refine WL.y (R.mv (v := .slice _ _ _) rfl) rfl ?_
    refine WL.call Try.func119 rfl rfl (CloneMem_calls ms (by have := memsOK_len hm; omega) a cc _ hS) rfl rfl ?_
    rintro _ w6 ⟨⟨aM, cM, rfl, hSM, hoM⟩, hx6⟩
    have hz6 := hx6.size
    replace hUP := hUP.tr (hx6.upd _)
    replace hU := hU.tr (hx6.upd _)
    replace hBp := hx6.blk hBp
    replace hV := hV.ext hx6
    replace hS := hS.ext hx6
    replace hSF := hSF.ext hx6
    have hoMl : ∀ k, ownsC aM cM k → wl.heap.size ≤ k ∧ k < w6.heap.size := fun k hk => ⟨by have := hoM k hk.1; omega, hSM.lt k hk⟩
    refine WL.y (R.mv (v := .slice _ _ _) rfl) rfl ?_
    refine WL.y (R.nilCheck rfl) rfl ?_
    refine WL.y (R.fieldAddr fo203_3 rfl) rfl ?_
    refine WL.store1 (v := .slice _ _ _) sca52 rfl rfl rfl hBp (Nat.le_of_ble_eq_true rfl) rfl ?_
    intro w7 hu7 hz7 hn7
    replace hUP := hUP.tr (hu7.mono (fun k _ hk => by subst hk; first | exact .inl rfl | exact .inr rfl))
    replace hU := hU.tr (hu7.mono (fun k _ hk => by subst hk; first | exact H.fb | exact H.fg))
    replace hV := hV.updB hu7 (by omega)
    replace hS := hS.updB hu7 (fun k hk => by first | (have := (hSl) k hk; omega) | (have := (hSl) k hk.1; omega))
    replace hSF := hSF.updB hu7 (fun k hk => by first | (have := (hoFl) k hk; omega) | (have := (hoFl) k hk.1; omega))
    replace hSM := hSM.updB hu7 (fun k hk => by first | (have := (hoMl) k hk; omega) | (have := (hoMl) k hk.1; omega))
    replace hBp := hn7; clear hn7
    refine WL.y (R.nilCheck rfl) rfl ?_
    refine WL.y (R.fieldAddr fo203_4 rfl) rfl ?_
    refine WL.store1 (v := .slice _ _ _) sca81 rfl rfl rfl hBp (Nat.le_of_ble_eq_true rfl) rfl ?_
    intro w8 hu8 hz8 hn8
    replace hUP := hUP.tr (hu8.mono (fun k _ hk => by subst hk; first | exact .inl rfl | exact .inr rfl))
    replace hU := hU.tr (hu8.mono (fun k _ hk => by subst hk; first | exact H.fb | exact H.fg))
    replace hV := hV.updB hu8 (by omega)
    replace hS := hS.updB hu8 (fun k hk => by first | (have := (hSl) k hk; omega) | (have := (hSl) k hk.1; omega))
    replace hSF := hSF.updB hu8 (fun k hk => by first | (have := (hoFl) k hk; omega) | (have := (hoFl) k hk.1; omega))
    replace hSM := hSM.updB hu8 (fun k hk => by first | (have := (hoMl) k hk; omega) | (have := (hoMl) k hk.1; omega))
    replace hBp := hn8; clear hn8
    refine WL.nil ?_
    refine W.reg ?_
    refine WL.y (R.mv (v := .int _ _) rfl) rfl ?_
    refine WL.y (R.asg (v := .int _ _) rfl) rfl ?_
    refine WL.y (R.asg (v := .int _ _) rfl) rfl ?_
    refine WL.nil ?_
    refine W.ret ?_
    have hF2lt : ∀ k, (F k ∨ (w.heap.size ≤ k ∧ k < w8.heap.size)) → k < w8.heap.size := fun k hk => by rcases hk with h | h; exact Nat.lt_of_lt_of_le (hlt0 k h) hU.size; exact h.2
    have hfl := fill_le (old := p.sl) (ms := ms) (n := ns) (by omega) hm
    have hh := H.turn hUP (F' := fun k => F k ∨ (w.heap.size ≤ k ∧ k < w8.heap.size)) (fun k h => .inl h) hF2lt (k := pFirst p) (v' := ⟨fill p.sl ms ns, 0, true⟩) (now' := p.now) (last' := ms) (sl' := fill p.sl ms ns) hf hBp hV ⟨rfl, rfl, rfl, hSF, fun j hj => ⟨.inr ⟨by have := hoF j hj.1; omega, hSF.lt j hj⟩, by have := hoF j hj.1; omega, by have := hoF j hj.1; omega⟩⟩
      hSM (fun j hj => ⟨.inr ⟨by have := hoM j hj.1; omega, hSM.lt j hj⟩, by have := hoM j hj.1; omega, by have := hoM j hj.1; omega⟩) hSF (fun j hj => ⟨.inr ⟨by have := hoF j hj.1; omega, hSF.lt j hj⟩, by have := hoF j hj.1; omega, by have := hoF j hj.1; omega⟩)
      (memsOK_len hm) hfl hfl (by rw [hns2]; by_cases h0 : ms.length = 0; exact .inl (by simp [fill, h0]); exact .inr (fill_length (by omega) hm (by omega))) H.nn
    exact PR.r2 rfl (.tmp rfl) (.tmp rfl) ⟨_, rfl, hU, ⟨gl, cl, _, _, aM, cM, aF, cF, by simp only [pReserve, hns2]; exact hh⟩, fun k hk => by rcases hk with h | h; exact .inl h; exact .inr h.1⟩

theorem Dip_dead (F : Nat → Prop) (b : Nat) (c : Cfg) (p : PSt) (w : World) (hP : PoolAt w F b c p) (v s : Int) (hl : pLive p v = false) : CallV Try.prog 50 #[.pointer (some ⟨b, 0, none⟩), i64 v, i64 s] w fun r w' => r = .tuple #[.agg (encDip dip0).toArray, bl false] ∧ Ext w w' := by
  have hX : Ext w w := Ext.rfl' w
  obtain ⟨gl, cl, csl, rvs, aL, cL, aS, cS, H⟩ := hP
  have hBp := H.blk
  have hV := H.vers
  have hlen := H.len
  have h16 := H.v64
  have hz0 := H.lt _ H.fb
  have hz1 := H.lt _ H.fg
  refine Calls.of_W (N := 41) Try.func50 rfl rfl rfl ?_
  refine W.reg ?_
  refine WL.alloc zer54 rfl ?_
  intro b1 w1 hb1 hs1 hx1 hB1
  have hge1 := hX.size
  replace hX := hX.tr hx1
  replace hBp := hx1.blk hBp
  replace hV := hV.ext hx1
  refine WL.y (R.asg (v := .bool false) rfl) rfl ?_
  refine WL.nil ?_
  refine W.seq ?_
  refine W.reg ?_
  refine WL.y (R.mv (v := .pointer _) rfl) rfl ?_
  refine WL.y (R.mv (v := .int _ _) rfl) rfl ?_
  refine WL.call Try.func123 rfl rfl ((live_calls F b c p _ ⟨gl, cl, csl, rvs, aL, cL, aS, cS, H.ext hX⟩ v).val (y := bl false) (by rw [hl])) rfl rfl ?_
  rintro _ w2 ⟨rfl, hx2⟩
  have hz2 := hx2.size
  replace hX := hX.tr hx2
  replace hBp := hx2.blk hBp
  replace hV := hV.ext hx2
  replace hB1 := hx2.blk hB1
  refine WL.y (R.notF rfl) rfl ?_
  refine WL.y (R.mv (v := .bool true) rfl) rfl ?_
  refine WL.skip rfl ?_
  refine WL.skip rfl ?_
  refine WL.y (R.pkT (v := .bool true) rfl rfl) rfl ?_
  refine WL.y (R.mv (v := .bool true) rfl) rfl ?_
  refine WL.skip rfl ?_
  refine WL.skip rfl ?_
  refine WL.skip rfl ?_
  refine WL.skip rfl ?_
  refine WL.skip rfl ?_
  refine WL.skip rfl ?_
  refine WL.skip rfl ?_
  refine WL.skip rfl ?_
  refine WL.skip rfl ?_
  refine WL.skip rfl ?_
  refine WL.skip rfl ?_
  refine WL.y (R.pkT (v := .bool true) rfl rfl) rfl ?_
  refine WL.nil ?_
  refine W.cond_t rfl ?_
  refine W.reg ?_
  refine WL.y (R.buildE (parts := []) (vs := encDip dip0) bld54 (by kernel_rfl) (by kernel_rfl)) rfl ?_
  refine WL.store (v := .agg _) siz54 rfl rfl rfl rfl hB1 (Nat.le_of_ble_eq_true rfl) rfl rfl ?_
  intro w3 hu3 hz3 hn3
  replace hX := hX.put hu3 (by omega)
  replace hBp := hu3.blk (by omega) hBp
  replace hV := hV.updB hu3 (by omega)
  replace hB1 := hn3; clear hn3
  refine WL.y (R.asg (v := .bool false) rfl) rfl ?_
  refine WL.nil ?_
  refine W.ret ?_
  exact PR.r2 rfl (.agg agg54 rfl hB1 rfl) (.tmp rfl) ⟨rfl, hX⟩

theorem Dip_out (F : Nat → Prop) (b : Nat) (c : Cfg) (p : PSt) (w : World) (hP : PoolAt w F b c p) (k : Nat) (x : Ver) (s : Int) (hl : pLive p k = true) (hx : p.vs[k]? = some x) (ho : s < 0 ∨ x.slots.length ≤ s) : CallV Try.prog 50 #[.pointer (some ⟨b, 0, none⟩), i64 (k : Nat), i64 s] w fun r w' => r = .tuple #[.agg (encDip dip0).toArray, bl false] ∧ Ext w w' := by
  have hX : Ext w w := Ext.rfl' w
  obtain ⟨gl, cl, csl, rvs, aL, cL, aS, cS, H⟩ := hP
  have hBp := H.blk
  have hV := H.vers
  have hlen := H.len
  have h16 := H.v64
  have hz0 := H.lt _ H.fb
  have hz1 := H.lt _ H.fg
  obtain ⟨r, hr⟩ : ∃ r, rvs[k]? = some r := ⟨_, List.getElem?_eq_getElem (by have := (List.getElem?_eq_some_iff.1 hx).1; omega)⟩
  obtain ⟨e1, e2, e3, e4, e5⟩ := H.each k r x hr hx
  have hkl := (List.getElem?_eq_some_iff.1 hx).1
  have en : Value.slice r.a r.n r.c = .slice r.a x.slots.length r.c := by rw [e3]
  refine Calls.of_W (N := 41) Try.func50 rfl rfl rfl ?_
  refine W.reg ?_
  refine WL.alloc zer54 rfl ?_
  intro b1 w1 hb1 hs1 hx1 hB1
  have hge1 := hX.size
  replace hX := hX.tr hx1
  replace hBp := hx1.blk hBp
  replace hV := hV.ext hx1
  refine WL.y (R.asg (v := .bool false) rfl) rfl ?_
  refine WL.nil ?_
  refine W.seq ?_
  refine W.reg ?_
  refine WL.y (R.mv (v := .pointer _) rfl) rfl ?_
  refine WL.y (R.mv (v := .int _ _) rfl) rfl ?_
  refine WL.call Try.func123 rfl rfl ((live_calls F b c p _ ⟨gl, cl, csl, rvs, aL, cL, aS, cS, H.ext hX⟩ (k : Nat)).val (y := bl true) (by rw [hl])) rfl rfl ?_
  rintro _ w2 ⟨rfl, hx2⟩
  have hz2 := hx2.size
  replace hX := hX.tr hx2
  replace hBp := hx2.blk hBp
  replace hV := hV.ext hx2
  replace hB1 := hx2.blk hB1
  refine WL.y (R.notT rfl) rfl ?_
  refine WL.y (R.mv (v := .bool false) rfl) rfl ?_
  refine WL.y (R.mv (v := .int _ _) rfl) rfl ?_
  refine WL.fork (R.lss rfl rfl) rfl (fun hc1_6 => ?_) (fun hc1_6 => ?_)
  · skip
    replace hc1_6 := of_decide_eq_true hc1_6
    skip
    refine WL.y (R.pkF (v := .bool true) rfl rfl) rfl ?_
    refine WL.y (R.mv (v := .bool true) rfl) rfl ?_
    refine WL.skip rfl ?_
    refine WL.skip rfl ?_
    refine WL.skip rfl ?_
    refine WL.skip rfl ?_
    refine WL.skip rfl ?_
    refine WL.skip rfl ?_
    refine WL.skip rfl ?_
    refine WL.skip rfl ?_
    refine WL.skip rfl ?_
    refine WL.skip rfl ?_
    refine WL.skip rfl ?_
    refine WL.y (R.pkT (v := .bool true) rfl rfl) rfl ?_
    refine WL.nil ?_
    refine W.cond_t rfl ?_
    refine W.reg ?_
    refine WL.y (R.buildE (parts := []) (vs := encDip dip0) bld54 (by kernel_rfl) (by kernel_rfl)) rfl ?_
    refine WL.store (v := .agg _) siz54 rfl rfl rfl rfl hB1 (Nat.le_of_ble_eq_true rfl) rfl rfl ?_
    intro w3 hu3 hz3 hn3
    replace hX := hX.put hu3 (by omega)
    replace hBp := hu3.blk (by omega) hBp
    replace hV := hV.updB hu3 (by omega)
    replace hB1 := hn3; clear hn3
    refine WL.y (R.asg (v := .bool false) rfl) rfl ?_
    refine WL.nil ?_
    refine W.ret ?_
    exact PR.r2 rfl (.agg agg54 rfl hB1 rfl) (.tmp rfl) ⟨rfl, hX⟩
  · skip
    replace hc1_6 := of_decide_eq_false hc1_6
    skip
    refine WL.y (R.pkF (v := .bool false) rfl rfl) rfl ?_
    refine WL.y (R.mv (v := .bool false) rfl) rfl ?_
    refine WL.y (R.mv (v := .int _ _) rfl) rfl ?_
    refine WL.y (R.mv (v := .pointer _) rfl) rfl ?_
    refine WL.y (R.nilCheck rfl) rfl ?_
    refine WL.y (R.fieldAddr fo203_1 rfl) rfl ?_
    refine WL.y (R.load sca200 rfl (hBp).r rfl) rfl ?_
    refine WL.y (R.mv (v := .int _ _) rfl) rfl ?_
    refine WL.y (R.indexS Try.underlying200 siz205 rfl rfl rfl (by omega)) rfl ?_
    refine WL.y (R.fieldAddr fo205_0 rfl) rfl ?_
    refine WL.y (R.load sca81 rfl (hV.blk).r ((hV.cell encVE hr (j := 0) (by decide)).trans (congrArg some en))) rfl ?_
    refine WL.y (R.lenS Try.underlying81 rfl) rfl ?_
    refine WL.fork (R.geq rfl rfl) rfl (fun hc1_19 => ?_) (fun hc1_19 => ?_)
    · skip
      replace hc1_19 := of_decide_eq_true hc1_19
      skip
      refine WL.y (R.pkF (v := .bool true) rfl rfl) rfl ?_
      refine WL.nil ?_
      refine W.cond_t rfl ?_
      refine W.reg ?_
      refine WL.y (R.buildE (parts := []) (vs := encDip dip0) bld54 (by kernel_rfl) (by kernel_rfl)) rfl ?_
      refine WL.store (v := .agg _) siz54 rfl rfl rfl rfl hB1 (Nat.le_of_ble_eq_true rfl) rfl rfl ?_
      intro w4 hu4 hz4 hn4
      replace hX := hX.put hu4 (by omega)
      replace hBp := hu4.blk (by omega) hBp
      replace hV := hV.updB hu4 (by omega)
      replace hB1 := hn4; clear hn4
      refine WL.y (R.asg (v := .bool false) rfl) rfl ?_
      refine WL.nil ?_
      refine W.ret ?_
      exact PR.r2 rfl (.agg agg54 rfl hB1 rfl) (.tmp rfl) ⟨rfl, hX⟩
    · skip
      replace hc1_19 := of_decide_eq_false hc1_19
      exact absurd ho (by omega)

theorem Dip_in (F : Nat → Prop) (b : Nat) (c : Cfg) (p : PSt) (w : World) (hP : PoolAt w F b c p) (k : Nat) (x : Ver) (s : Nat) (d : Dip) (hl : pLive p k = true) (hx : p.vs[k]? = some x) (hd : x.slots[s]? = some d) : CallV Try.prog 50 #[.pointer (some ⟨b, 0, none⟩), i64 (k : Nat), i64 (s : Nat)] w fun r w' => r = .tuple #[.agg (encDip d).toArray, bl true] ∧ Ext w w' := by
  have hX : Ext w w := Ext.rfl' w
  obtain ⟨gl, cl, csl, rvs, aL, cL, aS, cS, H⟩ := hP
  have hBp := H.blk
  have hV := H.vers
  have hlen := H.len
  have h16 := H.v64
  obtain ⟨r, hr⟩ : ∃ r, rvs[k]? = some r := ⟨_, List.getElem?_eq_getElem (by have := (List.getElem?_eq_some_iff.1 hx).1; omega)⟩
  obtain ⟨e1, e2, e3, e4, e5⟩ := H.each k r x hr hx
  have hkl := (List.getElem?_eq_some_iff.1 hx).1
  have en : Value.slice r.a r.n r.c = .slice r.a x.slots.length r.c := by rw [e3]
  have hsl := (List.getElem?_eq_some_iff.1 hd).1
  obtain ⟨g, off, cs, hra, hO⟩ := e4.op (by omega)
  replace en : Value.slice r.a r.n r.c = .slice (some ⟨g, off, none⟩) x.slots.length r.c := by rw [e3, hra]
  have hz0 := H.lt _ H.fb
  have hz1 := H.lt _ H.fg
  have hgF := e5 g ⟨by rw [hra, owns_some], by have := hO.le; omega⟩
  have hgl := H.lt _ hgF.1
  refine Calls.of_W (N := 41) Try.func50 rfl rfl rfl ?_
  refine W.reg ?_
  refine WL.alloc zer54 rfl ?_
  intro b1 w1 hb1 hs1 hx1 hB1
  have hge1 := hX.size
  replace hX := hX.tr hx1
  replace hBp := hx1.blk hBp
  replace hV := hV.ext hx1
  replace hO := hO.ext hx1
  refine WL.y (R.asg (v := .bool false) rfl) rfl ?_
  refine WL.nil ?_
  refine W.seq ?_
  refine W.reg ?_
  refine WL.y (R.mv (v := .pointer _) rfl) rfl ?_
  refine WL.y (R.mv (v := .int _ _) rfl) rfl ?_
  refine WL.call Try.func123 rfl rfl ((live_calls F b c p _ ⟨gl, cl, csl, rvs, aL, cL, aS, cS, H.ext hX⟩ (k : Nat)).val (y := bl true) (by rw [hl])) rfl rfl ?_
  rintro _ w2 ⟨rfl, hx2⟩
  have hz2 := hx2.size
  replace hX := hX.tr hx2
  replace hBp := hx2.blk hBp
  replace hV := hV.ext hx2
  replace hO := hO.ext hx2
  replace hB1 := hx2.blk hB1
  refine WL.y (R.notT rfl) rfl ?_
  refine WL.y (R.mv (v := .bool false) rfl) rfl ?_
  refine WL.y (R.mv (v := .int _ _) rfl) rfl ?_
  refine WL.y (R.lssF rfl rfl (by omega)) rfl ?_
  refine WL.y (R.pkF (v := .bool false) rfl rfl) rfl ?_
  refine WL.y (R.mv (v := .bool false) rfl) rfl ?_
  refine WL.y (R.mv (v := .int _ _) rfl) rfl ?_
  refine WL.y (R.mv (v := .pointer _) rfl) rfl ?_
  refine WL.y (R.nilCheck rfl) rfl ?_
  refine WL.y (R.fieldAddr fo203_1 rfl) rfl ?_
  refine WL.y (R.load sca200 rfl (hBp).r rfl) rfl ?_
  refine WL.y (R.mv (v := .int _ _) rfl) rfl ?_
  refine WL.y (R.indexS Try.underlying200 siz205 rfl rfl rfl (by omega)) rfl ?_
  refine WL.y (R.fieldAddr fo205_0 rfl) rfl ?_
  refine WL.y (R.load sca81 rfl (hV.blk).r ((hV.cell encVE hr (j := 0) (by decide)).trans (congrArg some en))) rfl ?_
  refine WL.y (R.lenS Try.underlying81 rfl) rfl ?_
  refine WL.y (R.geqF rfl rfl (by omega)) rfl ?_
  refine WL.y (R.pkF (v := .bool false) rfl rfl) rfl ?_
  refine WL.nil ?_
  refine W.cond_f rfl ?_
  refine W.skip ?_
  refine W.reg ?_
  refine WL.y (R.mv (v := .pointer _) rfl) rfl ?_
  refine WL.y (R.nilCheck rfl) rfl ?_
  refine WL.y (R.fieldAddr fo203_1 rfl) rfl ?_
  refine WL.y (R.load sca200 rfl (hBp).r rfl) rfl ?_
  refine WL.y (R.mv (v := .int _ _) rfl) rfl ?_
  refine WL.y (R.indexS Try.underlying200 siz205 rfl rfl rfl (by omega)) rfl ?_
  refine WL.y (R.fieldAddr fo205_0 rfl) rfl ?_
  refine WL.y (R.load sca81 rfl (hV.blk).r ((hV.cell encVE hr (j := 0) (by decide)).trans (congrArg some en))) rfl ?_
  refine WL.y (R.mv (v := .int _ _) rfl) rfl ?_
  refine WL.y (R.indexS Try.underlying81 siz54 rfl rfl rfl (by omega)) rfl ?_
  refine WL.y (R.loadA agg54 rfl (hO.blk).r (hO.at encD hd) rfl) rfl ?_
  refine WL.store (v := .agg _) siz54 rfl rfl rfl rfl hB1 (Nat.le_of_ble_eq_true rfl) rfl rfl ?_
  intro w3 hu3 hz3 hn3
  replace hX := hX.put hu3 (by omega)
  replace hBp := hu3.blk (by omega) hBp
  replace hV := hV.updB hu3 (by omega)
  replace hO := hO.updB hu3 (by omega)
  replace hB1 := hn3; clear hn3
  refine WL.y (R.asg (v := .bool true) rfl) rfl ?_
  refine WL.nil ?_
  refine W.ret ?_
  exact PR.r2 rfl (.agg agg54 rfl hB1 rfl) (.tmp rfl) ⟨rfl, hX⟩
end Go.Proofs.Ytkjecokkdbapkaa
