import Derived.Test.YtkjecokkdbapkaaZzRef5
import Derived.Test.YtkjecokkdbapkaaProg
namespace Go.Proofs.Ytkjecokkdbapkaa
set_option linter.all false
open Go Go.Eng Go.RowKit
set_option maxRecDepth 20000
set_option maxHeartbeats 2000000
set_option linter.unusedVariables false
set_option linter.unusedSimpArgs false
attribute [local irreducible] WL W QL WA SP

def zc211 : List Value := [.bool false, .bool false, .int .i64 0, .slice none 0 0]
theorem agg211 : Agg Try.prog 211 4 := ⟨Try.isAgg211, Try.sizeOf211⟩
theorem el73_211 : Elem Try.prog 73 211 4 40 zc211 := ⟨Try.underlying73, ⟨Try.t211, .agg _, rfl, rfl, rfl, rfl, rfl⟩, rfl, rfl⟩
theorem fo211_1 : FO Try.prog 211 1 1 := fun a w => by kernel_rfl
theorem fo211_2 : FO Try.prog 211 2 2 := fun a w => by kernel_rfl
theorem fo211_3 : FO Try.prog 211 3 3 := fun a w => by kernel_rfl
theorem fo75_1 : FO Try.prog 75 1 48 := fun a w => by kernel_rfl
theorem fo75_2 : FO Try.prog 75 2 49 := fun a w => by kernel_rfl
theorem sca73 : Sca Try.prog 73 := ⟨Try.isAgg73, Try.sizeOf73⟩
theorem siz211 : ∀ w, (sizeOf 211).run Try.prog w = .ok 4 w := Try.sizeOf211

theorem refFill_calls (old : List Dip) (ms : List Mem) (n : Nat) (ao a : Option Addr) (co c : Nat) (w : World) (hD : Sli encDip 18 w ao co old) (hM : Sli encMem 19 w a c ms) (h : 1 ≤ n ∧ n ≤ 64) (hm : memsOK ms = true) (h2 : old.length = 0 ∨ old.length = n) :
    CallV Try.prog 122 #[.slice ao old.length co, .slice a ms.length c, i64 (n : Nat)] w fun v w' => (∃ a' c', v = .tuple #[.slice a' (fill old ms n).length c', i64 0] ∧ Sli encDip 18 w' a' c' (fill old ms n) ∧ ∀ k, owns a' k → w.heap.size ≤ k) ∧ Ext w w' := by
  have hml := memsOK_len hm
  by_cases h0 : ms.length = 0
  · refine (refFill_none old ms n ao a co c w hD hM (by omega) (by omega) (by omega) hm (by omega) h0).mono ?_
    rintro v w' ⟨rfl, hX⟩
    have e : fill old ms n = [] := by simp [fill, h0]
    exact ⟨⟨none, 0, by rw [e]; rfl, by rw [e]; exact Sli.nil _ _ _, own_nil⟩, hX⟩
  · have e := fill_length (old := old) h.2 hm (show 1 ≤ ms.length by omega)
    rcases h2 with h2 | h2
    · refine (refFill_e old ms n ao a co c w hD hM (by omega) (by omega) h hm h2 (by omega)).mono ?_
      rintro v w' ⟨⟨b, rfl, hs, hb⟩, hX⟩
      exact ⟨⟨_, _, by rw [e], hs.ro, fun k hk => by rw [owns_some] at hk; simp only at hk; omega⟩, hX⟩
    · refine (refFill_o old ms n ao a co c w hD hM (by omega) (by omega) h hm h2 (by omega)).mono ?_
      rintro v w' ⟨⟨b, rfl, hs, hb⟩, hX⟩
      exact ⟨⟨_, _, by rw [e], hs.ro, fun k hk => by rw [owns_some] at hk; simp only at hk; omega⟩, hX⟩
structure RR where
  (lv res : Bool) (refs : Int) (a : Option Addr) (n c : Nat)
def encR (r : RR) : List Value := [bl r.lv, bl r.res, i64 r.refs, .slice r.a r.n r.c]
theorem encRE : Enc encR 4 := ⟨fun _ => rfl, fun _ => rfl⟩
def rr0 : RR := ⟨false, false, 0, none, 0, 0⟩
structure RX where
  (gl cl : Nat) (rvs : List RR) (aM : Option Addr) (cM li : Nat)
/-- The document's pool. -/
structure RPool (w : World) (F : Nat → Prop) (b : Nat) (c : Cfg) (p : PSt) (rx : RX) : Prop where
  blk : Blk w b (encCfg c ++ [.slice (some ⟨rx.gl, 0, none⟩) p.vs.length rx.cl, i64 p.now, i64 (rx.li : Nat), .slice rx.aM p.last.length rx.cM])
  vers : ∃ cs, SlO encR 4 w rx.gl 0 rx.cl cs rx.rvs
  len : rx.rvs.length = p.vs.length
  each : ∀ (i : Nat) (r : RR) (v : Ver), rx.rvs[i]? = some r → p.vs[i]? = some v → r.refs = v.refs ∧ r.res = v.res ∧ r.n = v.slots.length ∧ Sli encDip 18 w r.a r.c v.slots ∧ ∀ k, ownsC r.a r.c k → F k ∧ k ≠ b ∧ k ≠ rx.gl
  last : Sli encMem 19 w rx.aM rx.cM p.last
  ownM : ∀ k, ownsC rx.aM rx.cM k → F k ∧ k ≠ b ∧ k ≠ rx.gl
  fb : F b
  fg : F rx.gl
  ne : b ≠ rx.gl
  lt : ∀ k, F k → k < w.heap.size
  v64 : p.vs.length ≤ 16
  l32 : p.last.length ≤ 32
  sv : ∀ v : Ver, v ∈ p.vs → v.slots.length ≤ 64
  ok : CfgOK c
  nn : 0 ≤ p.now ∧ p.now < p.vs.length
  li : ∃ v, p.vs[rx.li]? = some v ∧ v.slots = p.sl
  s0 : p.sl.length = 0 ∨ p.sl.length = c.slots.toNat
theorem RPool.upd {S : Nat → Prop} {w w' : World} {F : Nat → Prop} {b : Nat} {c : Cfg} {p : PSt} {rx : RX} (h : RPool w F b c p rx) (hu : Upd S w w') (hS : ∀ k, F k → ¬ S k) : RPool w' F b c p rx where
  blk := hu.blk (hS _ h.fb) h.blk
  vers := h.vers.elim fun cs hv => ⟨cs, hv.upd hu (hS _ h.fg)⟩
  len := h.len
  each i r v h1 h2 := by
    obtain ⟨e1, e2, e3, e4, e5⟩ := h.each i r v h1 h2
    exact ⟨e1, e2, e3, e4.upd hu (fun k hk => hS k (e5 k hk).1), e5⟩
  last := h.last.upd hu (fun k hk => hS k (h.ownM k hk).1)
  ownM := h.ownM
  fb := h.fb
  fg := h.fg
  ne := h.ne
  lt k hk := Nat.lt_of_lt_of_le (h.lt k hk) hu.size
  v64 := h.v64
  l32 := h.l32
  sv := h.sv
  ok := h.ok
  nn := h.nn
  li := h.li
  s0 := h.s0
theorem RPool.ext {w w' : World} {F : Nat → Prop} {b : Nat} {c : Cfg} {p : PSt} {rx : RX} (h : RPool w F b c p rx) (hu : Ext w w') : RPool w' F b c p rx := h.upd (hu.upd fun _ => False) (fun _ _ h => h)
abbrev rpA (b : Nat) (c : Cfg) (p : PSt) (rx : RX) : Asr where
  P w F := RPool w F b c p rx
  upd h hu hS := h.upd hu hS
  lt h := h.lt
/-- One version is made anew, or turned. -/
theorem RPool.turn {w w' : World} {F F' : Nat → Prop} {b : Nat} {c : Cfg} {p : PSt} {rx : RX} (H : RPool w F b c p rx) (hu : Upd (fun k => k = b ∨ k = rx.gl) w w') (hF : ∀ k, F k → F' k) (hlt : ∀ k, F' k → k < w'.heap.size)
    {k : Nat} {r' : RR} {v' : Ver} {now' : Int} {last' : List Mem} {sl' : List Dip} {aM' : Option Addr} {cM' li' : Nat} (hk : k < p.vs.length)
    (hblk : Blk w' b (encCfg c ++ [.slice (some ⟨rx.gl, 0, none⟩) p.vs.length rx.cl, i64 now', i64 (li' : Nat), .slice aM' last'.length cM'])) (hV : ∃ cs, SlO encR 4 w' rx.gl 0 rx.cl cs (rx.rvs.set k r'))
    (hr : r'.refs = v'.refs ∧ r'.res = v'.res ∧ r'.n = v'.slots.length ∧ Sli encDip 18 w' r'.a r'.c v'.slots ∧ ∀ j, ownsC r'.a r'.c j → F' j ∧ j ≠ b ∧ j ≠ rx.gl)
    (hL : Sli encMem 19 w' aM' cM' last') (hoL : ∀ j, ownsC aM' cM' j → F' j ∧ j ≠ b ∧ j ≠ rx.gl) (l32 : last'.length ≤ 32) (hv64 : v'.slots.length ≤ 64) (s0 : sl'.length = 0 ∨ sl'.length = c.slots.toNat) (nn : 0 ≤ now' ∧ now' < p.vs.length)
    (hli : ∃ v, (p.vs.set k v')[li']? = some v ∧ v.slots = sl') :
    RPool w' F' b c ⟨p.vs.set k v', now', last', sl'⟩ ⟨rx.gl, rx.cl, rx.rvs.set k r', aM', cM', li'⟩ where
  blk := by rw [List.length_set]; exact hblk
  vers := hV
  len := by simpa using H.len
  each i r v h1 h2 := by
    by_cases e : i = k
    · subst e
      have hl := H.len
      rw [List.getElem?_set_self (by omega)] at h1 h2
      cases h1; cases h2
      exact hr
    · rw [List.getElem?_set_ne (Ne.symm e)] at h1 h2
      obtain ⟨e1, e2, e3, e4, e5⟩ := H.each i r v h1 h2
      exact ⟨e1, e2, e3, e4.upd hu (fun j hj hs => by have := e5 j hj; omega), fun j hj => ⟨hF j (e5 j hj).1, (e5 j hj).2⟩⟩
  last := hL
  ownM := hoL
  fb := hF _ H.fb
  fg := hF _ H.fg
  ne := H.ne
  lt := hlt
  v64 := by simpa using H.v64
  l32 := l32
  sv v hv := by
    rcases mem_set_or hv with hv | rfl
    · exact H.sv v hv
    · exact hv64
  ok := H.ok
  nn := by simpa using nn
  li := hli
  s0 := s0
theorem RPool.turnS {w w' : World} {F : Nat → Prop} {b : Nat} {c : Cfg} {p : PSt} {rx : RX} (H : RPool w F b c p rx) (hu : Upd (fun k => k = b ∨ k = rx.gl) w w') {k : Nat} {r r' : RR} {v v' : Ver} {now' : Int} (hk : rx.rvs[k]? = some r) (hk2 : p.vs[k]? = some v)
    (ha : r'.a = r.a ∧ r'.n = r.n ∧ r'.c = r.c) (hs : v'.slots = v.slots) (h1 : r'.refs = v'.refs) (h2 : r'.res = v'.res) (hblk : Blk w' b (encCfg c ++ [.slice (some ⟨rx.gl, 0, none⟩) p.vs.length rx.cl, i64 now', i64 (rx.li : Nat), .slice rx.aM p.last.length rx.cM])) (hV : ∃ cs, SlO encR 4 w' rx.gl 0 rx.cl cs (rx.rvs.set k r'))
    (nn : 0 ≤ now' ∧ now' < p.vs.length) : RPool w' F b c ⟨p.vs.set k v', now', p.last, p.sl⟩ ⟨rx.gl, rx.cl, rx.rvs.set k r', rx.aM, rx.cM, rx.li⟩ := by
  obtain ⟨e1, e2, e3, e4, e5⟩ := H.each k r v hk hk2
  have hkl := (List.getElem?_eq_some_iff.1 hk2).1
  refine H.turn hu (fun _ h => h) (fun j hj => Nat.lt_of_lt_of_le (H.lt j hj) hu.size) hkl hblk hV ⟨h1, h2, by rw [ha.2.1, hs]; exact e3, by rw [ha.1, ha.2.2, hs]; exact e4.upd hu (fun j hj hs => by have := e5 j hj; omega), by rw [ha.1, ha.2.2]; exact e5⟩
    (H.last.upd hu (fun j hj hs => by have := H.ownM j hj; omega)) H.ownM H.l32 (by rw [hs]; exact H.sv v (List.mem_of_getElem? hk2)) H.s0 nn ?_
  obtain ⟨x, hx, hxs⟩ := H.li
  by_cases e : k = rx.li
  · subst e
    rw [hk2] at hx; cases hx
    exact ⟨v', List.getElem?_set_self hkl, hs.trans hxs⟩
  · exact ⟨x, by rw [List.getElem?_set_ne e]; exact hx, hxs⟩

theorem rlive_calls (F : Nat → Prop) (b : Nat) (c : Cfg) (p : PSt) (rx : RX) (w : World) (H : RPool w F b c p rx) (v : Int) : CallV Try.prog 124 #[.pointer (some ⟨b, 0, none⟩), i64 v] w fun r w' => r = bl (pLive p v) ∧ Ext w w' := by
  have hX : Ext w w := Ext.rfl' w
  obtain ⟨csl, hV⟩ := H.vers
  have hBp := H.blk
  have hlen := H.len
  have h16 := H.v64
  refine Calls.of_W (N := 45) Try.func124 rfl rfl rfl ?_
  refine W.reg ?_
  refine WL.y (R.asg (v := .bool false) rfl) rfl ?_
  refine WL.nil ?_
  refine W.reg ?_
  refine WL.y (R.mv (v := .int _ _) rfl) rfl ?_
  refine WL.fork (R.geq rfl rfl) rfl (fun hc1_1 => ?_) (fun hc1_1 => ?_)
  · skip
    replace hc1_1 := of_decide_eq_true hc1_1
    refine WL.y (R.mv (v := .bool true) rfl) rfl ?_
    refine WL.y (R.mv (v := .int _ _) rfl) rfl ?_
    refine WL.y (R.mv (v := .pointer _) rfl) rfl ?_
    refine WL.y (R.nilCheck rfl) rfl ?_
    refine WL.y (R.fieldAddr fo75_1 rfl) rfl ?_
    refine WL.y (R.load sca73 rfl (hBp).r rfl) rfl ?_
    refine WL.y (R.lenS Try.underlying73 rfl) rfl ?_
    refine WL.fork (R.lss rfl rfl) rfl (fun hc1_9 => ?_) (fun hc1_9 => ?_)
    · skip
      replace hc1_9 := of_decide_eq_true hc1_9
      obtain ⟨k, rfl⟩ : ∃ k : Nat, v = k := ⟨v.toNat, by omega⟩
      obtain ⟨r, hr⟩ : ∃ r, rx.rvs[k]? = some r := ⟨_, List.getElem?_eq_getElem (by omega)⟩
      obtain ⟨x, hx⟩ : ∃ x, p.vs[k]? = some x := ⟨_, List.getElem?_eq_getElem (by omega)⟩
      obtain ⟨e1, e2, e3, e4, e5⟩ := H.each k r x hr hx
      refine WL.y (R.pkT (v := .bool true) rfl rfl) rfl ?_
      refine WL.y (R.mv (v := .bool true) rfl) rfl ?_
      refine WL.y (R.mv (v := .int _ _) rfl) rfl ?_
      refine WL.y (R.mv (v := .pointer _) rfl) rfl ?_
      refine WL.y (R.nilCheck rfl) rfl ?_
      refine WL.y (R.fieldAddr fo75_2 rfl) rfl ?_
      refine WL.y (R.load sca3 rfl (hBp).r rfl) rfl ?_
      refine WL.fork (R.eql rfl rfl) rfl (fun hc1_17 => ?_) (fun hc1_17 => ?_)
      · skip
        replace hc1_17 := eq_of_beq hc1_17
        refine WL.y (R.mv (v := .bool true) rfl) rfl ?_
        refine WL.skip rfl ?_
        refine WL.skip rfl ?_
        refine WL.skip rfl ?_
        refine WL.skip rfl ?_
        refine WL.skip rfl ?_
        refine WL.skip rfl ?_
        refine WL.skip rfl ?_
        refine WL.skip rfl ?_
        refine WL.skip rfl ?_
        refine WL.y (R.pkT (v := .bool true) rfl rfl) rfl ?_
        refine WL.y (R.mv (v := .bool true) rfl) rfl ?_
        refine WL.skip rfl ?_
        refine WL.skip rfl ?_
        refine WL.skip rfl ?_
        refine WL.skip rfl ?_
        refine WL.skip rfl ?_
        refine WL.skip rfl ?_
        refine WL.skip rfl ?_
        refine WL.skip rfl ?_
        refine WL.y (R.pkT (v := .bool true) rfl rfl) rfl ?_
        refine WL.y (R.pkT (v := .bool true) rfl rfl) rfl ?_
        refine WL.y (R.asg (v := .bool true) rfl) rfl ?_
        refine WL.nil ?_
        refine W.ret ?_
        exact PR.r1 rfl (.tmp rfl) ⟨by rw [pLive_now hc1_9 hc1_17]; rfl, hX⟩
      · skip
        replace hc1_17 := beq_F hc1_17
        refine WL.y (R.mv (v := .bool false) rfl) rfl ?_
        refine WL.y (R.mv (v := .pointer _) rfl) rfl ?_
        refine WL.y (R.nilCheck rfl) rfl ?_
        refine WL.y (R.fieldAddr fo75_1 rfl) rfl ?_
        refine WL.y (R.load sca73 rfl (hBp).r rfl) rfl ?_
        refine WL.y (R.mv (v := .int _ _) rfl) rfl ?_
        refine WL.y (R.indexS Try.underlying73 siz211 rfl rfl rfl (by omega)) rfl ?_
        refine WL.y (R.fieldAddr fo211_2 rfl) rfl ?_
        refine WL.y (R.load sca3 rfl (hV.blk).r (hV.cell encRE hr (j := 2) (by decide))) rfl ?_
        refine WL.fork (R.gtr rfl rfl) rfl (fun hc1_27 => ?_) (fun hc1_27 => ?_)
        · skip
          replace hc1_27 := of_decide_eq_true hc1_27
          refine WL.y (R.pkF (v := .bool true) rfl rfl) rfl ?_
          refine WL.y (R.mv (v := .bool true) rfl) rfl ?_
          refine WL.skip rfl ?_
          refine WL.skip rfl ?_
          refine WL.skip rfl ?_
          refine WL.skip rfl ?_
          refine WL.skip rfl ?_
          refine WL.skip rfl ?_
          refine WL.skip rfl ?_
          refine WL.skip rfl ?_
          refine WL.y (R.pkT (v := .bool true) rfl rfl) rfl ?_
          refine WL.y (R.pkT (v := .bool true) rfl rfl) rfl ?_
          refine WL.y (R.asg (v := .bool true) rfl) rfl ?_
          refine WL.nil ?_
          refine W.ret ?_
          exact PR.r1 rfl (.tmp rfl) ⟨by rw [pLive_at hc1_9 hc1_17 hx, ← e1, decide_eq_true hc1_27, Bool.true_or]; rfl, hX⟩
        · skip
          replace hc1_27 := of_decide_eq_false hc1_27
          refine WL.y (R.pkF (v := .bool false) rfl rfl) rfl ?_
          refine WL.y (R.mv (v := .bool false) rfl) rfl ?_
          refine WL.y (R.mv (v := .pointer _) rfl) rfl ?_
          refine WL.y (R.nilCheck rfl) rfl ?_
          refine WL.y (R.fieldAddr fo75_1 rfl) rfl ?_
          refine WL.y (R.load sca73 rfl (hBp).r rfl) rfl ?_
          refine WL.y (R.mv (v := .int _ _) rfl) rfl ?_
          refine WL.y (R.indexS Try.underlying73 siz211 rfl rfl rfl (by omega)) rfl ?_
          refine WL.y (R.fieldAddr fo211_1 rfl) rfl ?_
          refine WL.y (R.load sca4 rfl (hV.blk).r (hV.cell encRE hr (j := 1) (by decide))) rfl ?_
          refine WL.y (R.pkF (v := .bool _) rfl rfl) rfl ?_
          refine WL.y (R.pkT (v := .bool _) rfl rfl) rfl ?_
          refine WL.y (R.asg (v := .bool _) rfl) rfl ?_
          refine WL.nil ?_
          refine W.ret ?_
          exact PR.r1 rfl (.tmp rfl) ⟨by rw [pLive_at hc1_9 hc1_17 hx, ← e1, decide_eq_false hc1_27, ← e2, Bool.false_or]; rfl, hX⟩
    · skip
      replace hc1_9 := of_decide_eq_false hc1_9
      skip
      refine WL.y (R.pkT (v := .bool false) rfl rfl) rfl ?_
      refine WL.y (R.mv (v := .bool false) rfl) rfl ?_
      refine WL.skip rfl ?_
      refine WL.skip rfl ?_
      refine WL.skip rfl ?_
      refine WL.skip rfl ?_
      refine WL.skip rfl ?_
      refine WL.skip rfl ?_
      refine WL.skip rfl ?_
      refine WL.skip rfl ?_
      refine WL.skip rfl ?_
      refine WL.skip rfl ?_
      refine WL.skip rfl ?_
      refine WL.skip rfl ?_
      refine WL.skip rfl ?_
      refine WL.skip rfl ?_
      refine WL.skip rfl ?_
      refine WL.skip rfl ?_
      refine WL.skip rfl ?_
      refine WL.skip rfl ?_
      refine WL.skip rfl ?_
      refine WL.skip rfl ?_
      refine WL.skip rfl ?_
      refine WL.skip rfl ?_
      refine WL.skip rfl ?_
      refine WL.skip rfl ?_
      refine WL.skip rfl ?_
      refine WL.skip rfl ?_
      refine WL.skip rfl ?_
      refine WL.y (R.pkF (v := .bool false) rfl rfl) rfl ?_
      refine WL.y (R.asg (v := .bool false) rfl) rfl ?_
      refine WL.nil ?_
      refine W.ret ?_
      exact PR.r1 rfl (.tmp rfl) ⟨by rw [pLive_big hc1_9]; rfl, hX⟩
  · skip
    replace hc1_1 := of_decide_eq_false hc1_1
    refine WL.y (R.mv (v := .bool false) rfl) rfl ?_
    refine WL.skip rfl ?_
    refine WL.skip rfl ?_
    refine WL.skip rfl ?_
    refine WL.skip rfl ?_
    refine WL.skip rfl ?_
    refine WL.skip rfl ?_
    refine WL.skip rfl ?_
    refine WL.y (R.pkF (v := .bool false) rfl rfl) rfl ?_
    refine WL.y (R.mv (v := .bool false) rfl) rfl ?_
    refine WL.skip rfl ?_
    refine WL.skip rfl ?_
    refine WL.skip rfl ?_
    refine WL.skip rfl ?_
    refine WL.skip rfl ?_
    refine WL.skip rfl ?_
    refine WL.skip rfl ?_
    refine WL.skip rfl ?_
    refine WL.skip rfl ?_
    refine WL.skip rfl ?_
    refine WL.skip rfl ?_
    refine WL.skip rfl ?_
    refine WL.skip rfl ?_
    refine WL.skip rfl ?_
    refine WL.skip rfl ?_
    refine WL.skip rfl ?_
    refine WL.skip rfl ?_
    refine WL.skip rfl ?_
    refine WL.skip rfl ?_
    refine WL.skip rfl ?_
    refine WL.skip rfl ?_
    refine WL.skip rfl ?_
    refine WL.skip rfl ?_
    refine WL.skip rfl ?_
    refine WL.skip rfl ?_
    refine WL.skip rfl ?_
    refine WL.skip rfl ?_
    refine WL.y (R.pkF (v := .bool false) rfl rfl) rfl ?_
    refine WL.y (R.asg (v := .bool false) rfl) rfl ?_
    refine WL.nil ?_
    refine W.ret ?_
    exact PR.r1 rfl (.tmp rfl) ⟨by rw [pLive_neg hc1_1]; rfl, hX⟩

theorem rRefs_calls (F : Nat → Prop) (b : Nat) (c : Cfg) (p : PSt) (rx : RX) (w : World) (H : RPool w F b c p rx) (v : Int) : CallV Try.prog 52 #[.pointer (some ⟨b, 0, none⟩), i64 v] w fun r w' => r = i64 (match pGet p v with | some x => x.refs | none => 0) ∧ Ext w w' := by
  have hX : Ext w w := Ext.rfl' w
  obtain ⟨csl, hV⟩ := H.vers
  have hBp := H.blk
  have hlen := H.len
  have h16 := H.v64
  refine Calls.of_W (N := 17) Try.func52 rfl rfl rfl ?_
  refine W.reg ?_
  refine WL.y (R.asg (v := .int _ _) rfl) rfl ?_
  refine WL.nil ?_
  refine W.seq ?_
  refine W.reg ?_
  refine WL.y (R.mv (v := .pointer _) rfl) rfl ?_
  refine WL.y (R.mv (v := .int _ _) rfl) rfl ?_
  refine WL.call Try.func124 rfl rfl (CallV.fork (rlive_calls F b c p rx _ (H.ext hX) v)) rfl rfl ?_
  rintro _ w1 (⟨hc1_2, rfl, hx1⟩ | ⟨hc1_2, rfl, hx1⟩)
  · skip
    have hz1 := hx1.size
    replace hX := hX.tr hx1
    replace hBp := hx1.blk hBp
    replace hV := hV.ext hx1
    refine WL.y (R.notT rfl) rfl ?_
    refine WL.nil ?_
    refine W.cond_f rfl ?_
    refine W.skip ?_
    refine W.reg ?_
    obtain ⟨k, rfl⟩ : ∃ k : Nat, v = k := ⟨v.toNat, by have := pLive_bd hc1_2; omega⟩
    have hkl := pLive_bd hc1_2
    obtain ⟨r, hr⟩ : ∃ r, rx.rvs[k]? = some r := ⟨_, List.getElem?_eq_getElem (by omega)⟩
    obtain ⟨x, hx⟩ : ∃ x, p.vs[k]? = some x := ⟨_, List.getElem?_eq_getElem (by omega)⟩
    obtain ⟨e1, e2, e3, e4, e5⟩ := H.each k r x hr hx
    refine WL.y (R.mv (v := .pointer _) rfl) rfl ?_
    refine WL.y (R.nilCheck rfl) rfl ?_
    refine WL.y (R.fieldAddr fo75_1 rfl) rfl ?_
    refine WL.y (R.load sca73 rfl (hBp).r rfl) rfl ?_
    refine WL.y (R.mv (v := .int _ _) rfl) rfl ?_
    refine WL.y (R.indexS Try.underlying73 siz211 rfl rfl rfl (by omega)) rfl ?_
    refine WL.y (R.fieldAddr fo211_2 rfl) rfl ?_
    refine WL.y (R.load sca3 rfl (hV.blk).r (hV.cell encRE hr (j := 2) (by decide))) rfl ?_
    refine WL.y (R.asg (v := .int _ _) rfl) rfl ?_
    refine WL.nil ?_
    refine W.ret ?_
    exact PR.r1 rfl (.tmp rfl) ⟨by rw [pGet_at hc1_2 hx]; simp only [← e1]; rfl, hX⟩
  · skip
    have hz1 := hx1.size
    replace hX := hX.tr hx1
    replace hBp := hx1.blk hBp
    replace hV := hV.ext hx1
    refine WL.y (R.notF rfl) rfl ?_
    refine WL.nil ?_
    refine W.cond_t rfl ?_
    refine W.reg ?_
    refine WL.y (R.asg (v := .int _ _) rfl) rfl ?_
    refine WL.nil ?_
    refine W.ret ?_
    exact PR.r1 rfl (.tmp rfl) ⟨by rw [pGet_no hc1_2]; rfl, hX⟩

/-- The slice that the document's pool shows. -/
def rsl (p : PSt) (rx : RX) (v : Int) : Option Addr × Nat := match pGet p v with | some _ => (match rx.rvs[v.toNat]? with | some r => (r.a, r.c) | none => (none, 0)) | none => (none, 0)
def slOf (p : PSt) (v : Int) : List Dip := match pGet p v with | some x => x.slots | none => []
theorem RPool.rsl {w : World} {F : Nat → Prop} {b : Nat} {c : Cfg} {p : PSt} {rx : RX} (H : RPool w F b c p rx) (v : Int) : Sli encDip 18 w (rsl p rx v).1 (rsl p rx v).2 (slOf p v) := by
  unfold Ytkjecokkdbapkaa.rsl slOf
  cases hg : pGet p v with
  | none => exact Sli.nil _ _ _
  | some x =>
    simp only
    have hx : p.vs[v.toNat]? = some x := by
      unfold pGet at hg
      split at hg
      · exact hg
      · cases hg
    cases hr : rx.rvs[v.toNat]? with
    | none =>
      rw [List.getElem?_eq_none_iff] at hr
      have := (List.getElem?_eq_some_iff.1 hx).1
      have := H.len
      omega
    | some r => exact (H.each _ r x hr hx).2.2.2.1

theorem rSlots_calls (F : Nat → Prop) (b : Nat) (c : Cfg) (p : PSt) (rx : RX) (w : World) (H : RPool w F b c p rx) (v : Int) : CallV Try.prog 49 #[.pointer (some ⟨b, 0, none⟩), i64 v] w fun r w' => r = .slice (rsl p rx v).1 (slOf p v).length (rsl p rx v).2 ∧ Ext w w' := by
  have hX : Ext w w := Ext.rfl' w
  obtain ⟨csl, hV⟩ := H.vers
  have hBp := H.blk
  have hlen := H.len
  have h16 := H.v64
  refine Calls.of_W (N := 17) Try.func49 rfl rfl rfl ?_
  refine W.reg ?_
  refine WL.y (R.asg (v := .slice _ _ _) rfl) rfl ?_
  refine WL.nil ?_
  refine W.seq ?_
  refine W.reg ?_
  refine WL.y (R.mv (v := .pointer _) rfl) rfl ?_
  refine WL.y (R.mv (v := .int _ _) rfl) rfl ?_
  refine WL.call Try.func124 rfl rfl (CallV.fork (rlive_calls F b c p rx _ (H.ext hX) v)) rfl rfl ?_
  rintro _ w1 (⟨hc1_2, rfl, hx1⟩ | ⟨hc1_2, rfl, hx1⟩)
  · skip
    have hz1 := hx1.size
    replace hX := hX.tr hx1
    replace hBp := hx1.blk hBp
    replace hV := hV.ext hx1
    refine WL.y (R.notT rfl) rfl ?_
    refine WL.nil ?_
    refine W.cond_f rfl ?_
    refine W.skip ?_
    refine W.reg ?_
    obtain ⟨k, rfl⟩ : ∃ k : Nat, v = k := ⟨v.toNat, by have := pLive_bd hc1_2; omega⟩
    have hkl := pLive_bd hc1_2
    obtain ⟨r, hr⟩ : ∃ r, rx.rvs[k]? = some r := ⟨_, List.getElem?_eq_getElem (by omega)⟩
    obtain ⟨x, hx⟩ : ∃ x, p.vs[k]? = some x := ⟨_, List.getElem?_eq_getElem (by omega)⟩
    obtain ⟨e1, e2, e3, e4, e5⟩ := H.each k r x hr hx
    have en : Value.slice r.a r.n r.c = .slice r.a x.slots.length r.c := by rw [e3]
    refine WL.y (R.mv (v := .pointer _) rfl) rfl ?_
    refine WL.y (R.nilCheck rfl) rfl ?_
    refine WL.y (R.fieldAddr fo75_1 rfl) rfl ?_
    refine WL.y (R.load sca73 rfl (hBp).r rfl) rfl ?_
    refine WL.y (R.mv (v := .int _ _) rfl) rfl ?_
    refine WL.y (R.indexS Try.underlying73 siz211 rfl rfl rfl (by omega)) rfl ?_
    refine WL.y (R.fieldAddr fo211_3 rfl) rfl ?_
    refine WL.y (R.load sca81 rfl (hV.blk).r ((hV.cell encRE hr (j := 3) (by decide)).trans (congrArg some en))) rfl ?_
    refine WL.y (R.asg (v := .slice _ _ _) rfl) rfl ?_
    refine WL.nil ?_
    refine W.ret ?_
    exact PR.r1 rfl (.tmp rfl) ⟨by unfold rsl slOf; rw [pGet_at hc1_2 hx]; simp only [Int.toNat_natCast, hr]; rfl, hX⟩
  · skip
    have hz1 := hx1.size
    replace hX := hX.tr hx1
    replace hBp := hx1.blk hBp
    replace hV := hV.ext hx1
    refine WL.y (R.notF rfl) rfl ?_
    refine WL.nil ?_
    refine W.cond_t rfl ?_
    refine W.reg ?_
    refine WL.y (R.asg (v := .slice _ _ _) rfl) rfl ?_
    refine WL.nil ?_
    refine W.ret ?_
    exact PR.r1 rfl (.tmp rfl) ⟨by unfold rsl slOf; rw [pGet_no hc1_2]; rfl, hX⟩
end Go.Proofs.Ytkjecokkdbapkaa
