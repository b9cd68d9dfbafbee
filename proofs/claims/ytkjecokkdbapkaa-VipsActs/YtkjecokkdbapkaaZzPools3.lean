import Derived.Test.YtkjecokkdbapkaaZzPools2
import Derived.Test.YtkjecokkdbapkaaProg
namespace Go.Proofs.Ytkjecokkdbapkaa
set_option linter.all false
open Go Go.Eng Go.RowKit
set_option maxRecDepth 20000
set_option maxHeartbeats 2000000
set_option linter.unusedVariables false
set_option linter.unusedSimpArgs false
attribute [local irreducible] WL W QL WA SP

def pl205 : Nat → Option (Nat × Nat) := fun i => (#[(0, 1), (1, 1), (2, 1)] : Array (Nat × Nat))[i]?
theorem bld205 : Bld Try.prog 205 pl205 zc205 := ⟨_, fun parts w => by
  simp only [pl205, Instr.build, Sem.run_bind, Try.zeroValue205, Try.runUnderlying205, Result.andThen_ok, List.mapM_toArray, List.mapM_cons, List.mapM_nil, Try.sizeOf3, Try.sizeOf4, Try.sizeOf81, Sem.run_pure, Sem.run_map]
  rfl⟩

/-- A version is made anew, or turned. -/
theorem PoolO.turn {w w' : World} {F F' : Nat → Prop} {b gl cl : Nat} {csl csl' : List Value} {rvs : List RV} {aL aL' : Option Addr} {cL cL' : Nat} {aS aS' : Option Addr} {cS cS' : Nat} {c : Cfg} {p : PSt}
    (H : PoolO w F b gl cl csl rvs aL cL aS cS c p) (hu : Upd (fun k => k = b ∨ k = gl) w w') (hF : ∀ k, F k → F' k) (hlt : ∀ k, F' k → k < w'.heap.size) {k : Nat} {r' : RV} {v' : Ver} {now' : Int} {last' : List Mem} {sl' : List Dip} (hk : k < p.vs.length)
    (hblk : Blk w' b (encCfg c ++ [.slice (some ⟨gl, 0, none⟩) p.vs.length cl, i64 now', .slice aL' last'.length cL', .slice aS' sl'.length cS'])) (hV : SlO encV 3 w' gl 0 cl csl' (rvs.set k r'))
    (hr : r'.refs = v'.refs ∧ r'.res = v'.res ∧ r'.n = v'.slots.length ∧ Sli encDip 18 w' r'.a r'.c v'.slots ∧ ∀ j, ownsC r'.a r'.c j → F' j ∧ j ≠ b ∧ j ≠ gl)
    (hL : Sli encMem 19 w' aL' cL' last') (hoL : ∀ j, ownsC aL' cL' j → F' j ∧ j ≠ b ∧ j ≠ gl) (hS : Sli encDip 18 w' aS' cS' sl') (hoS : ∀ j, ownsC aS' cS' j → F' j ∧ j ≠ b ∧ j ≠ gl)
    (l32 : last'.length ≤ 32) (s64 : sl'.length ≤ 64) (hv64 : v'.slots.length ≤ 64) (s0 : sl'.length = 0 ∨ sl'.length = c.slots.toNat) (nn : 0 ≤ now' ∧ now' < p.vs.length) :
    PoolO w' F' b gl cl csl' (rvs.set k r') aL' cL' aS' cS' c ⟨p.vs.set k v', now', last', sl'⟩ where
  blk := by rw [List.length_set]; exact hblk
  vers := hV
  len := by simpa using H.len
  each i r v h1 h2 := by
    by_cases e : i = k
    · subst e
      have hl := H.len
      rw [List.getElem?_set_self (by omega)] at h1 h2
      cases h1; cases h2
      exact hr
    · rw [List.getElem?_set_ne (Ne.symm e)] at h1 h2
      obtain ⟨e1, e2, e3, e4, e5⟩ := H.each i r v h1 h2
      exact ⟨e1, e2, e3, e4.upd hu (fun j hj hs => by have := e5 j hj; omega), fun j hj => ⟨hF j (e5 j hj).1, (e5 j hj).2⟩⟩
  last := hL
  ownL := hoL
  sl := hS
  ownS := hoS
  fb := hF _ H.fb
  fg := hF _ H.fg
  ne := H.ne
  lt := hlt
  v64 := by simpa using H.v64
  l32 := l32
  s64 := s64
  sv v hv := by
    rcases mem_set_or hv with hv | rfl
    · exact H.sv v hv
    · exact hv64
  ok := H.ok
  s0 := s0
  nn := by simpa using nn
  vn := by simpa using H.vn
theorem PoolO.turnS {w w' : World} {F : Nat → Prop} {b gl cl : Nat} {csl csl' : List Value} {rvs : List RV} {aL : Option Addr} {cL : Nat} {aS : Option Addr} {cS : Nat} {c : Cfg} {p : PSt}
    (H : PoolO w F b gl cl csl rvs aL cL aS cS c p) (hu : Upd (fun k => k = b ∨ k = gl) w w') {k : Nat} {r r' : RV} {v v' : Ver} {now' : Int} (hk : rvs[k]? = some r) (hk2 : p.vs[k]? = some v) (ha : r'.a = r.a ∧ r'.n = r.n ∧ r'.c = r.c) (hs : v'.slots = v.slots)
    (h1 : r'.refs = v'.refs) (h2 : r'.res = v'.res) (hblk : Blk w' b (encCfg c ++ [.slice (some ⟨gl, 0, none⟩) p.vs.length cl, i64 now', .slice aL p.last.length cL, .slice aS p.sl.length cS])) (hV : SlO encV 3 w' gl 0 cl csl' (rvs.set k r')) (nn : 0 ≤ now' ∧ now' < p.vs.length) :
    PoolO w' F b gl cl csl' (rvs.set k r') aL cL aS cS c ⟨p.vs.set k v', now', p.last, p.sl⟩ := by
  obtain ⟨e1, e2, e3, e4, e5⟩ := H.each k r v hk hk2
  have hkl := (List.getElem?_eq_some_iff.1 hk2).1
  refine H.turn hu (fun _ h => h) (fun j hj => Nat.lt_of_lt_of_le (H.lt j hj) hu.size) hkl hblk hV ⟨h1, h2, by rw [ha.2.1, hs]; exact e3, by rw [ha.1, ha.2.2, hs]; exact e4.upd hu (fun j hj hs => by have := e5 j hj; omega), by rw [ha.1, ha.2.2]; exact e5⟩
    (H.last.upd hu (fun j hj hs => by have := H.ownL j hj; omega)) H.ownL (H.sl.upd hu (fun j hj hs => by have := H.ownS j hj; omega)) H.ownS H.l32 H.s64 (by rw [hs]; exact H.sv v (List.mem_of_getElem? hk2)) H.s0 nn
def pSet (p : PSt) (k : Nat) (v : Ver) : PSt := ⟨p.vs.set k v, p.now, p.last, p.sl⟩

theorem Serve_dead (F : Nat → Prop) (b : Nat) (c : Cfg) (p : PSt) (w : World) (hP : PoolAt w F b c p) (v : Int) (hl : pLive p v = false) : CallV Try.prog 37 #[.pointer (some ⟨b, 0, none⟩), i64 v] w fun r w' => r = i64 4 ∧ Ext w w' := by
  have hX : Ext w w := Ext.rfl' w
  obtain ⟨gl, cl, csl, rvs, aL, cL, aS, cS, H⟩ := hP
  have hBp := H.blk
  have hV := H.vers
  have hlen := H.len
  have h16 := H.v64
  refine Calls.of_W (N := 31) Try.func37 rfl rfl rfl ?_
  refine W.reg ?_
  refine WL.y (R.asg (v := .int _ _) rfl) rfl ?_
  refine WL.nil ?_
  refine W.seq ?_
  refine W.reg ?_
  refine WL.y (R.mv (v := .pointer _) rfl) rfl ?_
  refine WL.y (R.mv (v := .int _ _) rfl) rfl ?_
  refine WL.call Try.func123 rfl rfl ((live_calls F b c p _ ⟨gl, cl, csl, rvs, aL, cL, aS, cS, H⟩ v).val (y := bl false) (by rw [hl])) rfl rfl ?_
  rintro _ w1 ⟨rfl, hx1⟩
  have hz1 := hx1.size
  replace hX := hX.tr hx1
  replace hBp := hx1.blk hBp
  replace hV := hV.ext hx1
  refine WL.y (R.notF rfl) rfl ?_
  refine WL.y (R.mv (v := .bool true) rfl) rfl ?_
  refine WL.skip rfl ?_
  refine WL.skip rfl ?_
  refine WL.skip rfl ?_
  refine WL.skip rfl ?_
  refine WL.skip rfl ?_
  refine WL.skip rfl ?_
  refine WL.skip rfl ?_
  refine WL.skip rfl ?_
  refine WL.skip rfl ?_
  refine WL.y (R.pkT (v := .bool true) rfl rfl) rfl ?_
  refine WL.nil ?_
  refine W.cond_t rfl ?_
  refine W.reg ?_
  refine WL.y (R.asg (v := .int _ _) rfl) rfl ?_
  refine WL.nil ?_
  refine W.ret ?_
  exact PR.r1 rfl (.tmp rfl) ⟨rfl, hX⟩

theorem Serve_no (F : Nat → Prop) (b : Nat) (c : Cfg) (p : PSt) (w : World) (hP : PoolAt w F b c p) (k : Nat) (x : Ver) (hl : pLive p k = true) (hx : p.vs[k]? = some x) (hres : x.res = false) : CallV Try.prog 37 #[.pointer (some ⟨b, 0, none⟩), i64 (k : Nat)] w fun r w' => r = i64 4 ∧ Ext w w' := by
  have hX : Ext w w := Ext.rfl' w
  obtain ⟨gl, cl, csl, rvs, aL, cL, aS, cS, H⟩ := hP
  have hBp := H.blk
  have hV := H.vers
  have hlen := H.len
  have h16 := H.v64
  obtain ⟨r, hr⟩ : ∃ r, rvs[k]? = some r := ⟨_, List.getElem?_eq_getElem (by have := (List.getElem?_eq_some_iff.1 hx).1; omega)⟩
  obtain ⟨e1, e2, e3, e4, e5⟩ := H.each k r x hr hx
  have hkl := (List.getElem?_eq_some_iff.1 hx).1
  have hnn := H.nn
  refine Calls.of_W (N := 31) Try.func37 rfl rfl rfl ?_
  refine W.reg ?_
  refine WL.y (R.asg (v := .int _ _) rfl) rfl ?_
  refine WL.nil ?_
  refine W.seq ?_
  refine W.reg ?_
  refine WL.y (R.mv (v := .pointer _) rfl) rfl ?_
  refine WL.y (R.mv (v := .int _ _) rfl) rfl ?_
  refine WL.call Try.func123 rfl rfl ((live_calls F b c p _ ⟨gl, cl, csl, rvs, aL, cL, aS, cS, H⟩ k).val (y := bl true) (by rw [hl])) rfl rfl ?_
  rintro _ w1 ⟨rfl, hx1⟩
  have hz1 := hx1.size
  replace hX := hX.tr hx1
  replace hBp := hx1.blk hBp
  replace hV := hV.ext hx1
  refine WL.y (R.notT rfl) rfl ?_
  refine WL.y (R.mv (v := .bool false) rfl) rfl ?_
  refine WL.y (R.mv (v := .pointer _) rfl) rfl ?_
  refine WL.y (R.nilCheck rfl) rfl ?_
  refine WL.y (R.fieldAddr fo203_1 rfl) rfl ?_
  refine WL.y (R.load sca200 rfl (hBp).r rfl) rfl ?_
  refine WL.y (R.mv (v := .int _ _) rfl) rfl ?_
  refine WL.y (R.indexS Try.underlying200 siz205 rfl rfl rfl (by omega)) rfl ?_
  refine WL.y (R.fieldAddr fo205_2 rfl) rfl ?_
  refine WL.y (R.load sca4 rfl (hV.blk).r ((hV.cell encVE hr (j := 2) (by decide)).trans (congrArg some (congrArg Value.bool (e2.trans hres))))) rfl ?_
  refine WL.y (R.notF rfl) rfl ?_
  refine WL.y (R.pkF (v := .bool true) rfl rfl) rfl ?_
  refine WL.nil ?_
  refine W.cond_t rfl ?_
  refine W.reg ?_
  refine WL.y (R.asg (v := .int _ _) rfl) rfl ?_
  refine WL.nil ?_
  refine W.ret ?_
  exact PR.r1 rfl (.tmp rfl) ⟨rfl, hX⟩

theorem Serve_ok (F : Nat → Prop) (b : Nat) (c : Cfg) (p : PSt) (w : World) (hP : PoolAt w F b c p) (k : Nat) (x : Ver) (hl : pLive p k = true) (hx : p.vs[k]? = some x) (hres : x.res = true) : CallV Try.prog 37 #[.pointer (some ⟨b, 0, none⟩), i64 (k : Nat)] w fun r w' => r = i64 0 ∧ Upd F w w' ∧ PoolAt w' F b c (⟨p.vs.set k ⟨x.slots, x.refs, false⟩, k, p.last, p.sl⟩) := by
  have hU : Upd F w w := Upd.rfl' F w
  have hX : Ext w w := Ext.rfl' w
  obtain ⟨gl, cl, csl, rvs, aL, cL, aS, cS, H⟩ := hP
  have hBp := H.blk
  have hV := H.vers
  have hlen := H.len
  have h16 := H.v64
  have hne := H.ne
  have hUP : Upd (fun k => k = b ∨ k = gl) w w := Upd.rfl' _ w
  obtain ⟨r, hr⟩ : ∃ r, rvs[k]? = some r := ⟨_, List.getElem?_eq_getElem (by have := (List.getElem?_eq_some_iff.1 hx).1; omega)⟩
  obtain ⟨e1, e2, e3, e4, e5⟩ := H.each k r x hr hx
  have hkl := (List.getElem?_eq_some_iff.1 hx).1
  have hnn := H.nn
  refine Calls.of_W (N := 31) Try.func37 rfl rfl rfl ?_
  refine W.reg ?_
  refine WL.y (R.asg (v := .int _ _) rfl) rfl ?_
  refine WL.nil ?_
  refine W.seq ?_
  refine W.reg ?_
  refine WL.y (R.mv (v := .pointer _) rfl) rfl ?_
  refine WL.y (R.mv (v := .int _ _) rfl) rfl ?_
  refine WL.call Try.func123 rfl rfl ((live_calls F b c p _ ⟨gl, cl, csl, rvs, aL, cL, aS, cS, H⟩ k).val (y := bl true) (by rw [hl])) rfl rfl ?_
  rintro _ w1 ⟨rfl, hx1⟩
  have hz1 := hx1.size
  replace hUP := hUP.tr (hx1.upd _)
  replace hU := hU.tr (hx1.upd _)
  replace hBp := hx1.blk hBp
  replace hV := hV.ext hx1
  refine WL.y (R.notT rfl) rfl ?_
  refine WL.y (R.mv (v := .bool false) rfl) rfl ?_
  refine WL.y (R.mv (v := .pointer _) rfl) rfl ?_
  refine WL.y (R.nilCheck rfl) rfl ?_
  refine WL.y (R.fieldAddr fo203_1 rfl) rfl ?_
  refine WL.y (R.load sca200 rfl (hBp).r rfl) rfl ?_
  refine WL.y (R.mv (v := .int _ _) rfl) rfl ?_
  refine WL.y (R.indexS Try.underlying200 siz205 rfl rfl rfl (by omega)) rfl ?_
  refine WL.y (R.fieldAddr fo205_2 rfl) rfl ?_
  refine WL.y (R.load sca4 rfl (hV.blk).r ((hV.cell encVE hr (j := 2) (by decide)).trans (congrArg some (congrArg Value.bool (e2.trans hres))))) rfl ?_
  refine WL.y (R.notT rfl) rfl ?_
  refine WL.y (R.pkF (v := .bool false) rfl rfl) rfl ?_
  refine WL.nil ?_
  refine W.cond_f rfl ?_
  refine W.skip ?_
  refine W.reg ?_
  refine WL.y (R.mv (v := .pointer _) rfl) rfl ?_
  refine WL.y (R.nilCheck rfl) rfl ?_
  refine WL.y (R.fieldAddr fo203_1 rfl) rfl ?_
  refine WL.y (R.load sca200 rfl (hBp).r rfl) rfl ?_
  refine WL.y (R.mv (v := .int _ _) rfl) rfl ?_
  refine WL.y (R.indexS Try.underlying200 siz205 rfl rfl rfl (by omega)) rfl ?_
  refine WL.y (R.fieldAddr fo205_2 rfl) rfl ?_
  refine WL.store1 (v := .bool _) sca4 rfl rfl rfl hV.blk (by have := hV.bound (List.getElem?_eq_some_iff.1 hr).1; omega) rfl ?_
  intro w2 hu2 hz2 hn2
  replace hUP := hUP.tr (hu2.mono (fun k _ hk => by subst hk; first | exact .inl rfl | exact .inr rfl))
  replace hU := hU.tr (hu2.mono (fun k _ hk => by subst hk; first | exact H.fb | exact H.fg))
  replace hBp := hu2.blk (by omega) hBp
  replace hV := hV.set encVE hr (j := 2) (by decide) (y := (⟨r.a, r.n, r.c, r.refs, false⟩ : RV)) rfl hn2; clear hn2
  refine WL.nil ?_
  refine W.reg ?_
  refine WL.y (R.mv (v := .pointer _) rfl) rfl ?_
  refine WL.y (R.mv (v := .int _ _) rfl) rfl ?_
  refine WL.y (R.nilCheck rfl) rfl ?_
  refine WL.y (R.fieldAddr fo203_2 rfl) rfl ?_
  refine WL.store1 (v := .int _ _) sca3 rfl rfl rfl hBp (Nat.le_of_ble_eq_true rfl) rfl ?_
  intro w3 hu3 hz3 hn3
  replace hUP := hUP.tr (hu3.mono (fun k _ hk => by subst hk; first | exact .inl rfl | exact .inr rfl))
  replace hU := hU.tr (hu3.mono (fun k _ hk => by subst hk; first | exact H.fb | exact H.fg))
  replace hV := hV.updB hu3 (by omega)
  replace hBp := hn3; clear hn3
  refine WL.nil ?_
  refine W.reg ?_
  refine WL.y (R.asg (v := .int _ _) rfl) rfl ?_
  refine WL.nil ?_
  refine W.ret ?_
  exact PR.r1 rfl (.tmp rfl) ⟨rfl, hU, gl, cl, _, _, aL, cL, aS, cS, H.turnS hUP (r' := ⟨r.a, r.n, r.c, r.refs, false⟩) (v' := ⟨x.slots, x.refs, false⟩) (now' := k) hr hx ⟨rfl, rfl, rfl⟩ rfl (by first | rfl | (show r.refs = x.refs; exact e1) | (show r.refs + 1 = x.refs + 1; rw [e1]) | (show r.refs - 1 = x.refs - 1; rw [e1])) (by first | rfl | exact e2) hBp hV (by omega)⟩

theorem Ref_dead (F : Nat → Prop) (b : Nat) (c : Cfg) (p : PSt) (w : World) (hP : PoolAt w F b c p) (v : Int) (hl : pLive p v = false) : CallV Try.prog 39 #[.pointer (some ⟨b, 0, none⟩), i64 v] w fun r w' => r = i64 4 ∧ Ext w w' := by
  have hX : Ext w w := Ext.rfl' w
  obtain ⟨gl, cl, csl, rvs, aL, cL, aS, cS, H⟩ := hP
  have hBp := H.blk
  have hV := H.vers
  have hlen := H.len
  have h16 := H.v64
  refine Calls.of_W (N := 20) Try.func39 rfl rfl rfl ?_
  refine W.reg ?_
  refine WL.y (R.asg (v := .int _ _) rfl) rfl ?_
  refine WL.nil ?_
  refine W.seq ?_
  refine W.reg ?_
  refine WL.y (R.mv (v := .pointer _) rfl) rfl ?_
  refine WL.y (R.mv (v := .int _ _) rfl) rfl ?_
  refine WL.call Try.func123 rfl rfl ((live_calls F b c p _ ⟨gl, cl, csl, rvs, aL, cL, aS, cS, H⟩ v).val (y := bl false) (by rw [hl])) rfl rfl ?_
  rintro _ w1 ⟨rfl, hx1⟩
  have hz1 := hx1.size
  replace hX := hX.tr hx1
  replace hBp := hx1.blk hBp
  replace hV := hV.ext hx1
  refine WL.y (R.notF rfl) rfl ?_
  refine WL.nil ?_
  refine W.cond_t rfl ?_
  refine W.reg ?_
  refine WL.y (R.asg (v := .int _ _) rfl) rfl ?_
  refine WL.nil ?_
  refine W.ret ?_
  exact PR.r1 rfl (.tmp rfl) ⟨rfl, hX⟩

theorem Ref_ok (F : Nat → Prop) (b : Nat) (c : Cfg) (p : PSt) (w : World) (hP : PoolAt w F b c p) (k : Nat) (x : Ver) (hl : pLive p k = true) (hx : p.vs[k]? = some x) (hb : 0 ≤ x.refs ∧ x.refs < 4611686018427387904) : CallV Try.prog 39 #[.pointer (some ⟨b, 0, none⟩), i64 (k : Nat)] w fun r w' => r = i64 0 ∧ Upd F w w' ∧ PoolAt w' F b c (pSet p k ⟨x.slots, x.refs + 1, x.res⟩) := by
  have hU : Upd F w w := Upd.rfl' F w
  have hX : Ext w w := Ext.rfl' w
  obtain ⟨gl, cl, csl, rvs, aL, cL, aS, cS, H⟩ := hP
  have hBp := H.blk
  have hV := H.vers
  have hlen := H.len
  have h16 := H.v64
  have hne := H.ne
  have hUP : Upd (fun k => k = b ∨ k = gl) w w := Upd.rfl' _ w
  obtain ⟨r, hr⟩ : ∃ r, rvs[k]? = some r := ⟨_, List.getElem?_eq_getElem (by have := (List.getElem?_eq_some_iff.1 hx).1; omega)⟩
  obtain ⟨e1, e2, e3, e4, e5⟩ := H.each k r x hr hx
  have hkl := (List.getElem?_eq_some_iff.1 hx).1
  have hnn := H.nn
  refine Calls.of_W (N := 20) Try.func39 rfl rfl rfl ?_
  refine W.reg ?_
  refine WL.y (R.asg (v := .int _ _) rfl) rfl ?_
  refine WL.nil ?_
  refine W.seq ?_
  refine W.reg ?_
  refine WL.y (R.mv (v := .pointer _) rfl) rfl ?_
  refine WL.y (R.mv (v := .int _ _) rfl) rfl ?_
  refine WL.call Try.func123 rfl rfl ((live_calls F b c p _ ⟨gl, cl, csl, rvs, aL, cL, aS, cS, H⟩ k).val (y := bl true) (by rw [hl])) rfl rfl ?_
  rintro _ w1 ⟨rfl, hx1⟩
  have hz1 := hx1.size
  replace hUP := hUP.tr (hx1.upd _)
  replace hU := hU.tr (hx1.upd _)
  replace hBp := hx1.blk hBp
  replace hV := hV.ext hx1
  refine WL.y (R.notT rfl) rfl ?_
  refine WL.nil ?_
  refine W.cond_f rfl ?_
  refine W.skip ?_
  refine W.reg ?_
  refine WL.y (R.mv (v := .pointer _) rfl) rfl ?_
  refine WL.y (R.nilCheck rfl) rfl ?_
  refine WL.y (R.fieldAddr fo203_1 rfl) rfl ?_
  refine WL.y (R.load sca200 rfl (hBp).r rfl) rfl ?_
  refine WL.y (R.mv (v := .int _ _) rfl) rfl ?_
  refine WL.y (R.indexS Try.underlying200 siz205 rfl rfl rfl (by omega)) rfl ?_
  refine WL.y (R.fieldAddr fo205_1 rfl) rfl ?_
  refine WL.y (R.load sca3 rfl (hV.blk).r ((hV.cell encVE hr (j := 1) (by decide)))) rfl ?_
  refine WL.y (R.addI rfl rfl (by omega)) rfl ?_
  refine WL.y (R.indexS Try.underlying200 siz205 rfl rfl rfl (by omega)) rfl ?_
  refine WL.y (R.fieldAddr fo205_1 rfl) rfl ?_
  refine WL.store1 (v := .int _ _) sca3 rfl rfl rfl hV.blk (by have := hV.bound (List.getElem?_eq_some_iff.1 hr).1; omega) rfl ?_
  intro w2 hu2 hz2 hn2
  replace hUP := hUP.tr (hu2.mono (fun k _ hk => by subst hk; first | exact .inl rfl | exact .inr rfl))
  replace hU := hU.tr (hu2.mono (fun k _ hk => by subst hk; first | exact H.fb | exact H.fg))
  replace hBp := hu2.blk (by omega) hBp
  replace hV := hV.set encVE hr (j := 1) (by decide) (y := (⟨r.a, r.n, r.c, r.refs + 1, r.res⟩ : RV)) rfl hn2; clear hn2
  refine WL.nil ?_
  refine W.reg ?_
  refine WL.y (R.asg (v := .int _ _) rfl) rfl ?_
  refine WL.nil ?_
  refine W.ret ?_
  exact PR.r1 rfl (.tmp rfl) ⟨rfl, hU, gl, cl, _, _, aL, cL, aS, cS, H.turnS hUP (r' := ⟨r.a, r.n, r.c, r.refs + 1, r.res⟩) (v' := ⟨x.slots, x.refs + 1, x.res⟩) (now' := p.now) hr hx ⟨rfl, rfl, rfl⟩ rfl (by first | rfl | (show r.refs = x.refs; exact e1) | (show r.refs + 1 = x.refs + 1; rw [e1]) | (show r.refs - 1 = x.refs - 1; rw [e1])) (by first | rfl | exact e2) hBp hV (by omega)⟩

theorem Unref_dead (F : Nat → Prop) (b : Nat) (c : Cfg) (p : PSt) (w : World) (hP : PoolAt w F b c p) (v : Int) (hl : pLive p v = false) : CallV Try.prog 41 #[.pointer (some ⟨b, 0, none⟩), i64 v] w fun r w' => r = i64 4 ∧ Ext w w' := by
  have hX : Ext w w := Ext.rfl' w
  obtain ⟨gl, cl, csl, rvs, aL, cL, aS, cS, H⟩ := hP
  have hBp := H.blk
  have hV := H.vers
  have hlen := H.len
  have h16 := H.v64
  refine Calls.of_W (N := 31) Try.func41 rfl rfl rfl ?_
  refine W.reg ?_
  refine WL.y (R.asg (v := .int _ _) rfl) rfl ?_
  refine WL.nil ?_
  refine W.seq ?_
  refine W.block ?_
  refine W.reg ?_
  refine WL.y (R.mv (v := .pointer _) rfl) rfl ?_
  refine WL.y (R.mv (v := .int _ _) rfl) rfl ?_
  refine WL.call Try.func123 rfl rfl ((live_calls F b c p _ ⟨gl, cl, csl, rvs, aL, cL, aS, cS, H⟩ v).val (y := bl false) (by rw [hl])) rfl rfl ?_
  rintro _ w1 ⟨rfl, hx1⟩
  have hz1 := hx1.size
  replace hX := hX.tr hx1
  replace hBp := hx1.blk hBp
  replace hV := hV.ext hx1
  refine WL.y (R.notF rfl) rfl ?_
  refine WL.y (R.asg (v := .bool true) rfl) rfl ?_
  refine WL.nil ?_
  refine W.cond_t rfl ?_
  refine W.reg ?_
  refine WL.y (R.asg (v := .int _ _) rfl) rfl ?_
  refine WL.nil ?_
  refine W.ret ?_
  exact PR.r1 rfl (.tmp rfl) ⟨rfl, hX⟩

theorem Unref_busy (F : Nat → Prop) (b : Nat) (c : Cfg) (p : PSt) (w : World) (hP : PoolAt w F b c p) (k : Nat) (x : Ver) (hl : pLive p k = true) (hx : p.vs[k]? = some x) (h0 : x.refs = 0) : CallV Try.prog 41 #[.pointer (some ⟨b, 0, none⟩), i64 (k : Nat)] w fun r w' => r = i64 5 ∧ Ext w w' := by
  have hX : Ext w w := Ext.rfl' w
  obtain ⟨gl, cl, csl, rvs, aL, cL, aS, cS, H⟩ := hP
  have hBp := H.blk
  have hV := H.vers
  have hlen := H.len
  have h16 := H.v64
  obtain ⟨r, hr⟩ : ∃ r, rvs[k]? = some r := ⟨_, List.getElem?_eq_getElem (by have := (List.getElem?_eq_some_iff.1 hx).1; omega)⟩
  obtain ⟨e1, e2, e3, e4, e5⟩ := H.each k r x hr hx
  have hkl := (List.getElem?_eq_some_iff.1 hx).1
  have hnn := H.nn
  refine Calls.of_W (N := 31) Try.func41 rfl rfl rfl ?_
  refine W.reg ?_
  refine WL.y (R.asg (v := .int _ _) rfl) rfl ?_
  refine WL.nil ?_
  refine W.seq ?_
  refine W.block ?_
  refine W.reg ?_
  refine WL.y (R.mv (v := .pointer _) rfl) rfl ?_
  refine WL.y (R.mv (v := .int _ _) rfl) rfl ?_
  refine WL.call Try.func123 rfl rfl ((live_calls F b c p _ ⟨gl, cl, csl, rvs, aL, cL, aS, cS, H⟩ k).val (y := bl true) (by rw [hl])) rfl rfl ?_
  rintro _ w1 ⟨rfl, hx1⟩
  have hz1 := hx1.size
  replace hX := hX.tr hx1
  replace hBp := hx1.blk hBp
  replace hV := hV.ext hx1
  refine WL.y (R.notT rfl) rfl ?_
  refine WL.y (R.asg (v := .bool false) rfl) rfl ?_
  refine WL.nil ?_
  refine W.cond_f rfl ?_
  refine W.reg ?_
  refine WL.y (R.mv (v := .pointer _) rfl) rfl ?_
  refine WL.y (R.nilCheck rfl) rfl ?_
  refine WL.y (R.fieldAddr fo203_1 rfl) rfl ?_
  refine WL.y (R.load sca200 rfl (hBp).r rfl) rfl ?_
  refine WL.y (R.mv (v := .int _ _) rfl) rfl ?_
  refine WL.y (R.indexS Try.underlying200 siz205 rfl rfl rfl (by omega)) rfl ?_
  refine WL.y (R.fieldAddr fo205_1 rfl) rfl ?_
  refine WL.y (R.load sca3 rfl (hV.blk).r ((hV.cell encVE hr (j := 1) (by decide)))) rfl ?_
  refine WL.y (R.eqlT rfl rfl (e1.trans h0)) rfl ?_
  refine WL.y (R.asg (v := .bool true) rfl) rfl ?_
  refine WL.nil ?_
  refine W.cond_t rfl ?_
  refine W.reg ?_
  refine WL.y (R.asg (v := .int _ _) rfl) rfl ?_
  refine WL.nil ?_
  refine W.ret ?_
  exact PR.r1 rfl (.tmp rfl) ⟨rfl, hX⟩

theorem Unref_ok (F : Nat → Prop) (b : Nat) (c : Cfg) (p : PSt) (w : World) (hP : PoolAt w F b c p) (k : Nat) (x : Ver) (hl : pLive p k = true) (hx : p.vs[k]? = some x) (hb : 1 ≤ x.refs ∧ x.refs < 4611686018427387904) : CallV Try.prog 41 #[.pointer (some ⟨b, 0, none⟩), i64 (k : Nat)] w fun r w' => r = i64 0 ∧ Upd F w w' ∧ PoolAt w' F b c (pSet p k ⟨x.slots, x.refs - 1, x.res⟩) := by
  have hU : Upd F w w := Upd.rfl' F w
  have hX : Ext w w := Ext.rfl' w
  obtain ⟨gl, cl, csl, rvs, aL, cL, aS, cS, H⟩ := hP
  have hBp := H.blk
  have hV := H.vers
  have hlen := H.len
  have h16 := H.v64
  have hne := H.ne
  have hUP : Upd (fun k => k = b ∨ k = gl) w w := Upd.rfl' _ w
  obtain ⟨r, hr⟩ : ∃ r, rvs[k]? = some r := ⟨_, List.getElem?_eq_getElem (by have := (List.getElem?_eq_some_iff.1 hx).1; omega)⟩
  obtain ⟨e1, e2, e3, e4, e5⟩ := H.each k r x hr hx
  have hkl := (List.getElem?_eq_some_iff.1 hx).1
  have hnn := H.nn
  refine Calls.of_W (N := 31) Try.func41 rfl rfl rfl ?_
  refine W.reg ?_
  refine WL.y (R.asg (v := .int _ _) rfl) rfl ?_
  refine WL.nil ?_
  refine W.seq ?_
  refine W.block ?_
  refine W.reg ?_
  refine WL.y (R.mv (v := .pointer _) rfl) rfl ?_
  refine WL.y (R.mv (v := .int _ _) rfl) rfl ?_
  refine WL.call Try.func123 rfl rfl ((live_calls F b c p _ ⟨gl, cl, csl, rvs, aL, cL, aS, cS, H⟩ k).val (y := bl true) (by rw [hl])) rfl rfl ?_
  rintro _ w1 ⟨rfl, hx1⟩
  have hz1 := hx1.size
  replace hUP := hUP.tr (hx1.upd _)
  replace hU := hU.tr (hx1.upd _)
  replace hBp := hx1.blk hBp
  replace hV := hV.ext hx1
  refine WL.y (R.notT rfl) rfl ?_
  refine WL.y (R.asg (v := .bool false) rfl) rfl ?_
  refine WL.nil ?_
  refine W.cond_f rfl ?_
  refine W.reg ?_
  refine WL.y (R.mv (v := .pointer _) rfl) rfl ?_
  refine WL.y (R.nilCheck rfl) rfl ?_
  refine WL.y (R.fieldAddr fo203_1 rfl) rfl ?_
  refine WL.y (R.load sca200 rfl (hBp).r rfl) rfl ?_
  refine WL.y (R.mv (v := .int _ _) rfl) rfl ?_
  refine WL.y (R.indexS Try.underlying200 siz205 rfl rfl rfl (by omega)) rfl ?_
  refine WL.y (R.fieldAddr fo205_1 rfl) rfl ?_
  refine WL.y (R.load sca3 rfl (hV.blk).r ((hV.cell encVE hr (j := 1) (by decide)))) rfl ?_
  refine WL.y (R.eqlF rfl rfl (by omega)) rfl ?_
  refine WL.y (R.asg (v := .bool false) rfl) rfl ?_
  refine WL.nil ?_
  refine W.cond_f rfl ?_
  refine W.skip ?_
  refine W.reg ?_
  refine WL.y (R.mv (v := .pointer _) rfl) rfl ?_
  refine WL.y (R.nilCheck rfl) rfl ?_
  refine WL.y (R.fieldAddr fo203_1 rfl) rfl ?_
  refine WL.y (R.load sca200 rfl (hBp).r rfl) rfl ?_
  refine WL.y (R.mv (v := .int _ _) rfl) rfl ?_
  refine WL.y (R.indexS Try.underlying200 siz205 rfl rfl rfl (by omega)) rfl ?_
  refine WL.y (R.fieldAddr fo205_1 rfl) rfl ?_
  refine WL.y (R.load sca3 rfl (hV.blk).r ((hV.cell encVE hr (j := 1) (by decide)))) rfl ?_
  refine WL.y (R.subI rfl rfl (by omega)) rfl ?_
  refine WL.y (R.indexS Try.underlying200 siz205 rfl rfl rfl (by omega)) rfl ?_
  refine WL.y (R.fieldAddr fo205_1 rfl) rfl ?_
  refine WL.store1 (v := .int _ _) sca3 rfl rfl rfl hV.blk (by have := hV.bound (List.getElem?_eq_some_iff.1 hr).1; omega) rfl ?_
  intro w2 hu2 hz2 hn2
  replace hUP := hUP.tr (hu2.mono (fun k _ hk => by subst hk; first | exact .inl rfl | exact .inr rfl))
  replace hU := hU.tr (hu2.mono (fun k _ hk => by subst hk; first | exact H.fb | exact H.fg))
  replace hBp := hu2.blk (by omega) hBp
  replace hV := hV.set encVE hr (j := 1) (by decide) (y := (⟨r.a, r.n, r.c, r.refs - 1, r.res⟩ : RV)) rfl hn2; clear hn2
  refine WL.nil ?_
  refine W.reg ?_
  refine WL.y (R.asg (v := .int _ _) rfl) rfl ?_
  refine WL.nil ?_
  refine W.ret ?_
  exact PR.r1 rfl (.tmp rfl) ⟨rfl, hU, gl, cl, _, _, aL, cL, aS, cS, H.turnS hUP (r' := ⟨r.a, r.n, r.c, r.refs - 1, r.res⟩) (v' := ⟨x.slots, x.refs - 1, x.res⟩) (now' := p.now) hr hx ⟨rfl, rfl, rfl⟩ rfl (by first | rfl | (show r.refs = x.refs; exact e1) | (show r.refs + 1 = x.refs + 1; rw [e1]) | (show r.refs - 1 = x.refs - 1; rw [e1])) (by first | rfl | exact e2) hBp hV (by omega)⟩
end Go.Proofs.Ytkjecokkdbapkaa
