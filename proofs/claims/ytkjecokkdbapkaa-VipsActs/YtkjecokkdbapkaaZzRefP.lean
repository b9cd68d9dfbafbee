import Derived.Test.YtkjecokkdbapkaaZzRef5
import Derived.Test.YtkjecokkdbapkaaProg
import Derived.Test.YtkjecokkdbapkaaZzLive18b
namespace Go.Proofs.Ytkjecokkdbapkaa
set_option linter.all false
open Go Go.Eng Go.RowKit
set_option maxRecDepth 20000
set_option maxHeartbeats 2000000
set_option linter.unusedVariables false
set_option linter.unusedSimpArgs false
attribute [local irreducible] WL W QL WA SP

def zc211 : List Value := [.bool false, .bool false, .int .i64 0, .slice none 0 0]
theorem agg211 : Agg Try.prog 211 4 := ⟨Try.isAgg211, Try.sizeOf211⟩
theorem el73_211 : Elem Try.prog 73 211 4 40 zc211 := ⟨Try.underlying73, ⟨Try.t211, .agg _, rfl, rfl, rfl, rfl, rfl⟩, rfl, rfl⟩
theorem fo211_1 : FO Try.prog 211 1 1 := fun a w => by kernel_rfl
theorem fo211_2 : FO Try.prog 211 2 2 := fun a w => by kernel_rfl
theorem fo211_3 : FO Try.prog 211 3 3 := fun a w => by kernel_rfl
theorem fo75_1 : FO Try.prog 75 1 48 := fun a w => by kernel_rfl
theorem fo75_2 : FO Try.prog 75 2 49 := fun a w => by kernel_rfl
theorem sca73 : Sca Try.prog 73 := ⟨Try.isAgg73, Try.sizeOf73⟩
theorem siz211 : ∀ w, (sizeOf 211).run Try.prog w = .ok 4 w := Try.sizeOf211

theorem refFill_calls (old : List Dip) (ms : List Mem) (n : Nat) (ao a : Option Addr) (co c : Nat) (w : World) (hD : Sli encDip 18 w ao co old) (hM : Sli encMem 19 w a c ms) (h : 1 ≤ n ∧ n ≤ 64) (hm : memsOK ms = true) (h2 : old.length = 0 ∨ old.length = n) :
    CallV Try.prog 122 #[.slice ao old.length co, .slice a ms.length c, i64 (n : Nat)] w fun v w' => (∃ a' c', v = .tuple #[.slice a' (fill old ms n).length c', i64 0] ∧ Sli encDip 18 w' a' c' (fill old ms n) ∧ ∀ k, owns a' k → w.heap.size ≤ k) ∧ Ext w w' := by
  have hml := memsOK_len hm
  by_cases h0 : ms.length = 0
  · refine (refFill_none old ms n ao a co c w hD hM (by omega) (by omega) (by omega) hm (by omega) h0).mono ?_
    rintro v w' ⟨rfl, hX⟩
    have e : fill old ms n = [] := by simp [fill, h0]
    exact ⟨⟨none, 0, by rw [e]; rfl, by rw [e]; exact Sli.nil _ _ _, own_nil⟩, hX⟩
  · have e := fill_length (old := old) h.2 hm (show 1 ≤ ms.length by omega)
    rcases h2 with h2 | h2
    · refine (refFill_e old ms n ao a co c w hD hM (by omega) (by omega) h hm h2 (by omega)).mono ?_
      rintro v w' ⟨⟨b, rfl, hs, hb⟩, hX⟩
      exact ⟨⟨_, _, by rw [e], hs.ro, fun k hk => by rw [owns_some] at hk; simp only at hk; omega⟩, hX⟩
    · refine (refFill_o old ms n ao a co c w hD hM (by omega) (by omega) h hm h2 (by omega)).mono ?_
      rintro v w' ⟨⟨b, rfl, hs, hb⟩, hX⟩
      exact ⟨⟨_, _, by rw [e], hs.ro, fun k hk => by rw [owns_some] at hk; simp only at hk; omega⟩, hX⟩
structure RR where
  (lv res : Bool) (refs : Int) (a : Option Addr) (n c : Nat)
def encR (r : RR) : List Value := [bl r.lv, bl r.res, i64 r.refs, .slice r.a r.n r.c]
theorem encRE : Enc encR 4 := ⟨fun _ => rfl, fun _ => rfl⟩
def rr0 : RR := ⟨false, false, 0, none, 0, 0⟩
structure RX where
  (gl cl : Nat) (rvs : List RR) (aM : Option Addr) (cM li : Nat)
/-- The document's pool. -/
structure RPool (w : World) (F : Nat → Prop) (b : Nat) (c : Cfg) (p : PSt) (rx : RX) : Prop where
  blk : Blk w b (encCfg c ++ [.slice (some ⟨rx.gl, 0, none⟩) p.vs.length rx.cl, i64 p.now, i64 (rx.li : Nat), .slice rx.aM p.last.length rx.cM])
  vers : ∃ cs, SlO encR 4 w rx.gl 0 rx.cl cs rx.rvs
  len : rx.rvs.length = p.vs.length
  each : ∀ (i : Nat) (r : RR) (v : Ver), rx.rvs[i]? = some r → p.vs[i]? = some v → r.refs = v.refs ∧ r.res = v.res ∧ r.n = v.slots.length ∧ Sli encDip 18 w r.a r.c v.slots ∧ ∀ k, ownsC r.a r.c k → F k ∧ k ≠ b ∧ k ≠ rx.gl
  last : Sli encMem 19 w rx.aM rx.cM p.last
  ownM : ∀ k, ownsC rx.aM rx.cM k → F k ∧ k ≠ b ∧ k ≠ rx.gl
  fb : F b
  fg : F rx.gl
  ne : b ≠ rx.gl
  lt : ∀ k, F k → k < w.heap.size
  v64 : p.vs.length ≤ 16
  l32 : p.last.length ≤ 32
  sv : ∀ v : Ver, v ∈ p.vs → v.slots.length ≤ 64
  ok : CfgOK c
  nn : 0 ≤ p.now ∧ p.now < p.vs.length
  li : ∃ v, p.vs[rx.li]? = some v ∧ v.slots = p.sl
  s0 : p.sl.length = 0 ∨ p.sl.length = c.slots.toNat
theorem RPool.upd {S : Nat → Prop} {w w' : World} {F : Nat → Prop} {b : Nat} {c : Cfg} {p : PSt} {rx : RX} (h : RPool w F b c p rx) (hu : Upd S w w') (hS : ∀ k, F k → ¬ S k) : RPool w' F b c p rx where
  blk := hu.blk (hS _ h.fb) h.blk
  vers := h.vers.elim fun cs hv => ⟨cs, hv.upd hu (hS _ h.fg)⟩
  len := h.len
  each i r v h1 h2 := by
    obtain ⟨e1, e2, e3, e4, e5⟩ := h.each i r v h1 h2
    exact ⟨e1, e2, e3, e4.upd hu (fun k hk => hS k (e5 k hk).1), e5⟩
  last := h.last.upd hu (fun k hk => hS k (h.ownM k hk).1)
  ownM := h.ownM
  fb := h.fb
  fg := h.fg
  ne := h.ne
  lt k hk := Nat.lt_of_lt_of_le (h.lt k hk) hu.size
  v64 := h.v64
  l32 := h.l32
  sv := h.sv
  ok := h.ok
  nn := h.nn
  li := h.li
  s0 := h.s0
theorem RPool.ext {w w' : World} {F : Nat → Prop} {b : Nat} {c : Cfg} {p : PSt} {rx : RX} (h : RPool w F b c p rx) (hu : Ext w w') : RPool w' F b c p rx := h.upd (hu.upd fun _ => False) (fun _ _ h => h)
abbrev rpA (b : Nat) (c : Cfg) (p : PSt) (rx : RX) : Asr where
  P w F := RPool w F b c p rx
  upd h hu hS := h.upd hu hS
  lt h := h.lt
/-- One version is made anew, or turned. -/
theorem RPool.turn {w w' : World} {F F' : Nat → Prop} {b : Nat} {c : Cfg} {p : PSt} {rx : RX} (H : RPool w F b c p rx) (hu : Upd (fun k => k = b ∨ k = rx.gl) w w') (hF : ∀ k, F k → F' k) (hlt : ∀ k, F' k → k < w'.heap.size)
    {k : Nat} {r' : RR} {v' : Ver} {now' : Int} {last' : List Mem} {sl' : List Dip} {aM' : Option Addr} {cM' li' : Nat} (hk : k < p.vs.length)
    (hblk : Blk w' b (encCfg c ++ [.slice (some ⟨rx.gl, 0, none⟩) p.vs.length rx.cl, i64 now', i64 (li' : Nat), .slice aM' last'.length cM'])) (hV : ∃ cs, SlO encR 4 w' rx.gl 0 rx.cl cs (rx.rvs.set k r'))
    (hr : r'.refs = v'.refs ∧ r'.res = v'.res ∧ r'.n = v'.slots.length ∧ Sli encDip 18 w' r'.a r'.c v'.slots ∧ ∀ j, ownsC r'.a r'.c j → F' j ∧ j ≠ b ∧ j ≠ rx.gl)
    (hL : Sli encMem 19 w' aM' cM' last') (hoL : ∀ j, ownsC aM' cM' j → F' j ∧ j ≠ b ∧ j ≠ rx.gl) (l32 : last'.length ≤ 32) (hv64 : v'.slots.length ≤ 64) (s0 : sl'.length = 0 ∨ sl'.length = c.slots.toNat) (nn : 0 ≤ now' ∧ now' < p.vs.length)
    (hli : ∃ v, (p.vs.set k v')[li']? = some v ∧ v.slots = sl') :
    RPool w' F' b c ⟨p.vs.set k v', now', last', sl'⟩ ⟨rx.gl, rx.cl, rx.rvs.set k r', aM', cM', li'⟩ where
  blk := by rw [List.length_set]; exact hblk
  vers := hV
  len := by simpa using H.len
  each i r v h1 h2 := by
    by_cases e : i = k
    · subst e
      have hl := H.len
      rw [List.getElem?_set_self (by omega)] at h1 h2
      cases h1; cases h2
      exact hr
    · rw [List.getElem?_set_ne (Ne.symm e)] at h1 h2
      obtain ⟨e1, e2, e3, e4, e5⟩ := H.each i r v h1 h2
      exact ⟨e1, e2, e3, e4.upd hu (fun j hj hs => by have := e5 j hj; omega), fun j hj => ⟨hF j (e5 j hj).1, (e5 j hj).2⟩⟩
  last := hL
  ownM := hoL
  fb := hF _ H.fb
  fg := hF _ H.fg
  ne := H.ne
  lt := hlt
  v64 := by simpa using H.v64
  l32 := l32
  sv v hv := by
    rcases mem_set_or hv with hv | rfl
    · exact H.sv v hv
    · exact hv64
  ok := H.ok
  nn := by simpa using nn
  li := hli
  s0 := s0
theorem RPool.turnS {w w' : World} {F : Nat → Prop} {b : Nat} {c : Cfg} {p : PSt} {rx : RX} (H : RPool w F b c p rx) (hu : Upd (fun k => k = b ∨ k = rx.gl) w w') {k : Nat} {r r' : RR} {v v' : Ver} {now' : Int} (hk : rx.rvs[k]? = some r) (hk2 : p.vs[k]? = some v)
    (ha : r'.a = r.a ∧ r'.n = r.n ∧ r'.c = r.c) (hs : v'.slots = v.slots) (h1 : r'.refs = v'.refs) (h2 : r'.res = v'.res) (hblk : Blk w' b (encCfg c ++ [.slice (some ⟨rx.gl, 0, none⟩) p.vs.length rx.cl, i64 now', i64 (rx.li : Nat), .slice rx.aM p.last.length rx.cM])) (hV : ∃ cs, SlO encR 4 w' rx.gl 0 rx.cl cs (rx.rvs.set k r'))
    (nn : 0 ≤ now' ∧ now' < p.vs.length) : RPool w' F b c ⟨p.vs.set k v', now', p.last, p.sl⟩ ⟨rx.gl, rx.cl, rx.rvs.set k r', rx.aM, rx.cM, rx.li⟩ := by
  obtain ⟨e1, e2, e3, e4, e5⟩ := H.each k r v hk hk2
  have hkl := (List.getElem?_eq_some_iff.1 hk2).1
  refine H.turn hu (fun _ h => h) (fun j hj => Nat.lt_of_lt_of_le (H.lt j hj) hu.size) hkl hblk hV ⟨h1, h2, by rw [ha.2.1, hs]; exact e3, by rw [ha.1, ha.2.2, hs]; exact e4.upd hu (fun j hj hs => by have := e5 j hj; omega), by rw [ha.1, ha.2.2]; exact e5⟩
    (H.last.upd hu (fun j hj hs => by have := H.ownM j hj; omega)) H.ownM H.l32 (by rw [hs]; exact H.sv v (List.mem_of_getElem? hk2)) H.s0 nn ?_
  obtain ⟨x, hx, hxs⟩ := H.li
  by_cases e : k = rx.li
  · subst e
    rw [hk2] at hx; cases hx
    exact ⟨v', List.getElem?_set_self hkl, hs.trans hxs⟩
  · exact ⟨x, by rw [List.getElem?_set_ne e]; exact hx, hxs⟩

theorem rlive_calls (F : Nat → Prop) (b : Nat) (c : Cfg) (p : PSt) (rx : RX) (w : World) (H : RPool w F b c p rx) (v : Int) : CallV Try.prog 124 #[.pointer (some ⟨b, 0, none⟩), i64 v] w fun r w' => r = bl (pLive p v) ∧ Ext w w' := by
  have hX : Ext w w := Ext.rfl' w
  obtain ⟨csl, hV⟩ := H.vers
  have hBp := H.blk
  have hlen := H.len
  have h16 := H.v64
  refine Calls.of_W (N := 45) Try.func124 rfl rfl rfl ?_
  refine W.reg ?_
  refine WL.y (R.asg (v := .bool false) rfl) rfl ?_
  refine WL.nil ?_
  refine W.reg ?_
  refine WL.y (R.mv (v := .int _ _) rfl) rfl ?_
  refine WL.fork (R.geq rfl rfl) rfl (fun hc1_1 => ?_) (fun hc1_1 => ?_)
  · skip
    replace hc1_1 := of_decide_eq_true hc1_1
    refine WL.y (R.mv (v := .bool true) rfl) rfl ?_
    refine WL.y (R.mv (v := .int _ _) rfl) rfl ?_
    refine WL.y (R.mv (v := .pointer _) rfl) rfl ?_
    refine WL.y (R.nilCheck rfl) rfl ?_
    refine WL.y (R.fieldAddr fo75_1 rfl) rfl ?_
    refine WL.y (R.load sca73 rfl (hBp).r rfl) rfl ?_
    refine WL.y (R.lenS Try.underlying73 rfl) rfl ?_
    refine WL.fork (R.lss rfl rfl) rfl (fun hc1_9 => ?_) (fun hc1_9 => ?_)
    · skip
      replace hc1_9 := of_decide_eq_true hc1_9
      obtain ⟨k, rfl⟩ : ∃ k : Nat, v = k := ⟨v.toNat, by omega⟩
      obtain ⟨r, hr⟩ : ∃ r, rx.rvs[k]? = some r := ⟨_, List.getElem?_eq_getElem (by omega)⟩
      obtain ⟨x, hx⟩ : ∃ x, p.vs[k]? = some x := ⟨_, List.getElem?_eq_getElem (by omega)⟩
      obtain ⟨e1, e2, e3, e4, e5⟩ := H.each k r x hr hx
      refine WL.y (R.pkT (v := .bool true) rfl rfl) rfl ?_
      refine WL.y (R.mv (v := .bool true) rfl) rfl ?_
      refine WL.y (R.mv (v := .int _ _) rfl) rfl ?_
      refine WL.y (R.mv (v := .pointer _) rfl) rfl ?_
      refine WL.y (R.nilCheck rfl) rfl ?_
      refine WL.y (R.fieldAddr fo75_2 rfl) rfl ?_
      refine WL.y (R.load sca3 rfl (hBp).r rfl) rfl ?_
      refine WL.fork (R.eql rfl rfl) rfl (fun hc1_17 => ?_) (fun hc1_17 => ?_)
      · skip
        replace hc1_17 := eq_of_beq hc1_17
        refine WL.y (R.mv (v := .bool true) rfl) rfl ?_
        refine WL.skip rfl ?_
        refine WL.skip rfl ?_
        refine WL.skip rfl ?_
        refine WL.skip rfl ?_
        refine WL.skip rfl ?_
        refine WL.skip rfl ?_
        refine WL.skip rfl ?_
        refine WL.skip rfl ?_
        refine WL.skip rfl ?_
        refine WL.y (R.pkT (v := .bool true) rfl rfl) rfl ?_
        refine WL.y (R.mv (v := .bool true) rfl) rfl ?_
        refine WL.skip rfl ?_
        refine WL.skip rfl ?_
        refine WL.skip rfl ?_
        refine WL.skip rfl ?_
        refine WL.skip rfl ?_
        refine WL.skip rfl ?_
        refine WL.skip rfl ?_
        refine WL.skip rfl ?_
        refine WL.y (R.pkT (v := .bool true) rfl rfl) rfl ?_
        refine WL.y (R.pkT (v := .bool true) rfl rfl) rfl ?_
        refine WL.y (R.asg (v := .bool true) rfl) rfl ?_
        refine WL.nil ?_
        refine W.ret ?_
        exact PR.r1 rfl (.tmp rfl) ⟨by rw [pLive_now hc1_9 hc1_17]; rfl, hX⟩
      · skip
        replace hc1_17 := beq_F hc1_17
        refine WL.y (R.mv (v := .bool false) rfl) rfl ?_
        refine WL.y (R.mv (v := .pointer _) rfl) rfl ?_
        refine WL.y (R.nilCheck rfl) rfl ?_
        refine WL.y (R.fieldAddr fo75_1 rfl) rfl ?_
        refine WL.y (R.load sca73 rfl (hBp).r rfl) rfl ?_
        refine WL.y (R.mv (v := .int _ _) rfl) rfl ?_
        refine WL.y (R.indexS Try.underlying73 siz211 rfl rfl rfl (by omega)) rfl ?_
        refine WL.y (R.fieldAddr fo211_2 rfl) rfl ?_
        refine WL.y (R.load sca3 rfl (hV.blk).r (hV.cell encRE hr (j := 2) (by decide))) rfl ?_
        refine WL.fork (R.gtr rfl rfl) rfl (fun hc1_27 => ?_) (fun hc1_27 => ?_)
        · skip
          replace hc1_27 := of_decide_eq_true hc1_27
          refine WL.y (R.pkF (v := .bool true) rfl rfl) rfl ?_
          refine WL.y (R.mv (v := .bool true) rfl) rfl ?_
          refine WL.skip rfl ?_
          refine WL.skip rfl ?_
          refine WL.skip rfl ?_
          refine WL.skip rfl ?_
          refine WL.skip rfl ?_
          refine WL.skip rfl ?_
          refine WL.skip rfl ?_
          refine WL.skip rfl ?_
          refine WL.y (R.pkT (v := .bool true) rfl rfl) rfl ?_
          refine WL.y (R.pkT (v := .bool true) rfl rfl) rfl ?_
          refine WL.y (R.asg (v := .bool true) rfl) rfl ?_
          refine WL.nil ?_
          refine W.ret ?_
          exact PR.r1 rfl (.tmp rfl) ⟨by rw [pLive_at hc1_9 hc1_17 hx, ← e1, decide_eq_true hc1_27, Bool.true_or]; rfl, hX⟩
        · skip
          replace hc1_27 := of_decide_eq_false hc1_27
          refine WL.y (R.pkF (v := .bool false) rfl rfl) rfl ?_
          refine WL.y (R.mv (v := .bool false) rfl) rfl ?_
          refine WL.y (R.mv (v := .pointer _) rfl) rfl ?_
          refine WL.y (R.nilCheck rfl) rfl ?_
          refine WL.y (R.fieldAddr fo75_1 rfl) rfl ?_
          refine WL.y (R.load sca73 rfl (hBp).r rfl) rfl ?_
          refine WL.y (R.mv (v := .int _ _) rfl) rfl ?_
          refine WL.y (R.indexS Try.underlying73 siz211 rfl rfl rfl (by omega)) rfl ?_
          refine WL.y (R.fieldAddr fo211_1 rfl) rfl ?_
          refine WL.y (R.load sca4 rfl (hV.blk).r (hV.cell encRE hr (j := 1) (by decide))) rfl ?_
          refine WL.y (R.pkF (v := .bool _) rfl rfl) rfl ?_
          refine WL.y (R.pkT (v := .bool _) rfl rfl) rfl ?_
          refine WL.y (R.asg (v := .bool _) rfl) rfl ?_
          refine WL.nil ?_
          refine W.ret ?_
          exact PR.r1 rfl (.tmp rfl) ⟨by rw [pLive_at hc1_9 hc1_17 hx, ← e1, decide_eq_false hc1_27, ← e2, Bool.false_or]; rfl, hX⟩
    · skip
      replace hc1_9 := of_decide_eq_false hc1_9
      skip
      refine WL.y (R.pkT (v := .bool false) rfl rfl) rfl ?_
      refine WL.y (R.mv (v := .bool false) rfl) rfl ?_
      refine WL.skip rfl ?_
      refine WL.skip rfl ?_
      refine WL.skip rfl ?_
      refine WL.skip rfl ?_
      refine WL.skip rfl ?_
      refine WL.skip rfl ?_
      refine WL.skip rfl ?_
      refine WL.skip rfl ?_
      refine WL.skip rfl ?_
      refine WL.skip rfl ?_
      refine WL.skip rfl ?_
      refine WL.skip rfl ?_
      refine WL.skip rfl ?_
      refine WL.skip rfl ?_
      refine WL.skip rfl ?_
      refine WL.skip rfl ?_
      refine WL.skip rfl ?_
      refine WL.skip rfl ?_
      refine WL.skip rfl ?_
      refine WL.skip rfl ?_
      refine WL.skip rfl ?_
      refine WL.skip rfl ?_
      refine WL.skip rfl ?_
      refine WL.skip rfl ?_
      refine WL.skip rfl ?_
      refine WL.skip rfl ?_
      refine WL.skip rfl ?_
      refine WL.y (R.pkF (v := .bool false) rfl rfl) rfl ?_
      refine WL.y (R.asg (v := .bool false) rfl) rfl ?_
      refine WL.nil ?_
      refine W.ret ?_
      exact PR.r1 rfl (.tmp rfl) ⟨by rw [pLive_big hc1_9]; rfl, hX⟩
  · skip
    replace hc1_1 := of_decide_eq_false hc1_1
    refine WL.y (R.mv (v := .bool false) rfl) rfl ?_
    refine WL.skip rfl ?_
    refine WL.skip rfl ?_
    refine WL.skip rfl ?_
    refine WL.skip rfl ?_
    refine WL.skip rfl ?_
    refine WL.skip rfl ?_
    refine WL.skip rfl ?_
    refine WL.y (R.pkF (v := .bool false) rfl rfl) rfl ?_
    refine WL.y (R.mv (v := .bool false) rfl) rfl ?_
    refine WL.skip rfl ?_
    refine WL.skip rfl ?_
    refine WL.skip rfl ?_
    refine WL.skip rfl ?_
    refine WL.skip rfl ?_
    refine WL.skip rfl ?_
    refine WL.skip rfl ?_
    refine WL.skip rfl ?_
    refine WL.skip rfl ?_
    refine WL.skip rfl ?_
    refine WL.skip rfl ?_
    refine WL.skip rfl ?_
    refine WL.skip rfl ?_
    refine WL.skip rfl ?_
    refine WL.skip rfl ?_
    refine WL.skip rfl ?_
    refine WL.skip rfl ?_
    refine WL.skip rfl ?_
    refine WL.skip rfl ?_
    refine WL.skip rfl ?_
    refine WL.skip rfl ?_
    refine WL.skip rfl ?_
    refine WL.skip rfl ?_
    refine WL.skip rfl ?_
    refine WL.skip rfl ?_
    refine WL.skip rfl ?_
    refine WL.skip rfl ?_
    refine WL.y (R.pkF (v := .bool false) rfl rfl) rfl ?_
    refine WL.y (R.asg (v := .bool false) rfl) rfl ?_
    refine WL.nil ?_
    refine W.ret ?_
    exact PR.r1 rfl (.tmp rfl) ⟨by rw [pLive_neg hc1_1]; rfl, hX⟩

theorem rRefs_calls (F : Nat → Prop) (b : Nat) (c : Cfg) (p : PSt) (rx : RX) (w : World) (H : RPool w F b c p rx) (v : Int) : CallV Try.prog 52 #[.pointer (some ⟨b, 0, none⟩), i64 v] w fun r w' => r = i64 (match pGet p v with | some x => x.refs | none => 0) ∧ Ext w w' := by
  have hX : Ext w w := Ext.rfl' w
  obtain ⟨csl, hV⟩ := H.vers
  have hBp := H.blk
  have hlen := H.len
  have h16 := H.v64
  refine Calls.of_W (N := 17) Try.func52 rfl rfl rfl ?_
  refine W.reg ?_
  refine WL.y (R.asg (v := .int _ _) rfl) rfl ?_
  refine WL.nil ?_
  refine W.seq ?_
  refine W.reg ?_
  refine WL.y (R.mv (v := .pointer _) rfl) rfl ?_
  refine WL.y (R.mv (v := .int _ _) rfl) rfl ?_
  refine WL.call Try.func124 rfl rfl (CallV.fork (rlive_calls F b c p rx _ (H.ext hX) v)) rfl rfl ?_
  rintro _ w1 (⟨hc1_2, rfl, hx1⟩ | ⟨hc1_2, rfl, hx1⟩)
  · skip
    have hz1 := hx1.size
    replace hX := hX.tr hx1
    replace hBp := hx1.blk hBp
    replace hV := hV.ext hx1
    refine WL.y (R.notT rfl) rfl ?_
    refine WL.nil ?_
    refine W.cond_f rfl ?_
    refine W.skip ?_
    refine W.reg ?_
    obtain ⟨k, rfl⟩ : ∃ k : Nat, v = k := ⟨v.toNat, by have := pLive_bd hc1_2; omega⟩
    have hkl := pLive_bd hc1_2
    obtain ⟨r, hr⟩ : ∃ r, rx.rvs[k]? = some r := ⟨_, List.getElem?_eq_getElem (by omega)⟩
    obtain ⟨x, hx⟩ : ∃ x, p.vs[k]? = some x := ⟨_, List.getElem?_eq_getElem (by omega)⟩
    obtain ⟨e1, e2, e3, e4, e5⟩ := H.each k r x hr hx
    refine WL.y (R.mv (v := .pointer _) rfl) rfl ?_
    refine WL.y (R.nilCheck rfl) rfl ?_
    refine WL.y (R.fieldAddr fo75_1 rfl) rfl ?_
    refine WL.y (R.load sca73 rfl (hBp).r rfl) rfl ?_
    refine WL.y (R.mv (v := .int _ _) rfl) rfl ?_
    refine WL.y (R.indexS Try.underlying73 siz211 rfl rfl rfl (by omega)) rfl ?_
    refine WL.y (R.fieldAddr fo211_2 rfl) rfl ?_
    refine WL.y (R.load sca3 rfl (hV.blk).r (hV.cell encRE hr (j := 2) (by decide))) rfl ?_
    refine WL.y (R.asg (v := .int _ _) rfl) rfl ?_
    refine WL.nil ?_
    refine W.ret ?_
    exact PR.r1 rfl (.tmp rfl) ⟨by rw [pGet_at hc1_2 hx]; simp only [← e1]; rfl, hX⟩
  · skip
    have hz1 := hx1.size
    replace hX := hX.tr hx1
    replace hBp := hx1.blk hBp
    replace hV := hV.ext hx1
    refine WL.y (R.notF rfl) rfl ?_
    refine WL.nil ?_
    refine W.cond_t rfl ?_
    refine W.reg ?_
    refine WL.y (R.asg (v := .int _ _) rfl) rfl ?_
    refine WL.nil ?_
    refine W.ret ?_
    exact PR.r1 rfl (.tmp rfl) ⟨by rw [pGet_no hc1_2]; rfl, hX⟩

/-- The slice that the document's pool shows. -/
def rsl (p : PSt) (rx : RX) (v : Int) : Option Addr × Nat := match pGet p v with | some _ => (match rx.rvs[v.toNat]? with | some r => (r.a, r.c) | none => (none, 0)) | none => (none, 0)
def slOf (p : PSt) (v : Int) : List Dip := match pGet p v with | some x => x.slots | none => []
theorem RPool.rsl {w : World} {F : Nat → Prop} {b : Nat} {c : Cfg} {p : PSt} {rx : RX} (H : RPool w F b c p rx) (v : Int) : Sli encDip 18 w (rsl p rx v).1 (rsl p rx v).2 (slOf p v) := by
  unfold Ytkjecokkdbapkaa.rsl slOf
  cases hg : pGet p v with
  | none => exact Sli.nil _ _ _
  | some x =>
    simp only
    have hx : p.vs[v.toNat]? = some x := by
      unfold pGet at hg
      split at hg
      · exact hg
      · cases hg
    cases hr : rx.rvs[v.toNat]? with
    | none =>
      rw [List.getElem?_eq_none_iff] at hr
      have := (List.getElem?_eq_some_iff.1 hx).1
      have := H.len
      omega
    | some r => exact (H.each _ r x hr hx).2.2.2.1

theorem rSlots_calls (F : Nat → Prop) (b : Nat) (c : Cfg) (p : PSt) (rx : RX) (w : World) (H : RPool w F b c p rx) (v : Int) : CallV Try.prog 49 #[.pointer (some ⟨b, 0, none⟩), i64 v] w fun r w' => r = .slice (rsl p rx v).1 (slOf p v).length (rsl p rx v).2 ∧ Ext w w' := by
  have hX : Ext w w := Ext.rfl' w
  obtain ⟨csl, hV⟩ := H.vers
  have hBp := H.blk
  have hlen := H.len
  have h16 := H.v64
  refine Calls.of_W (N := 17) Try.func49 rfl rfl rfl ?_
  refine W.reg ?_
  refine WL.y (R.asg (v := .slice _ _ _) rfl) rfl ?_
  refine WL.nil ?_
  refine W.seq ?_
  refine W.reg ?_
  refine WL.y (R.mv (v := .pointer _) rfl) rfl ?_
  refine WL.y (R.mv (v := .int _ _) rfl) rfl ?_
  refine WL.call Try.func124 rfl rfl (CallV.fork (rlive_calls F b c p rx _ (H.ext hX) v)) rfl rfl ?_
  rintro _ w1 (⟨hc1_2, rfl, hx1⟩ | ⟨hc1_2, rfl, hx1⟩)
  · skip
    have hz1 := hx1.size
    replace hX := hX.tr hx1
    replace hBp := hx1.blk hBp
    replace hV := hV.ext hx1
    refine WL.y (R.notT rfl) rfl ?_
    refine WL.nil ?_
    refine W.cond_f rfl ?_
    refine W.skip ?_
    refine W.reg ?_
    obtain ⟨k, rfl⟩ : ∃ k : Nat, v = k := ⟨v.toNat, by have := pLive_bd hc1_2; omega⟩
    have hkl := pLive_bd hc1_2
    obtain ⟨r, hr⟩ : ∃ r, rx.rvs[k]? = some r := ⟨_, List.getElem?_eq_getElem (by omega)⟩
    obtain ⟨x, hx⟩ : ∃ x, p.vs[k]? = some x := ⟨_, List.getElem?_eq_getElem (by omega)⟩
    obtain ⟨e1, e2, e3, e4, e5⟩ := H.each k r x hr hx
    have en : Value.slice r.a r.n r.c = .slice r.a x.slots.length r.c := by rw [e3]
    refine WL.y (R.mv (v := .pointer _) rfl) rfl ?_
    refine WL.y (R.nilCheck rfl) rfl ?_
    refine WL.y (R.fieldAddr fo75_1 rfl) rfl ?_
    refine WL.y (R.load sca73 rfl (hBp).r rfl) rfl ?_
    refine WL.y (R.mv (v := .int _ _) rfl) rfl ?_
    refine WL.y (R.indexS Try.underlying73 siz211 rfl rfl rfl (by omega)) rfl ?_
    refine WL.y (R.fieldAddr fo211_3 rfl) rfl ?_
    refine WL.y (R.load sca81 rfl (hV.blk).r ((hV.cell encRE hr (j := 3) (by decide)).trans (congrArg some en))) rfl ?_
    refine WL.y (R.asg (v := .slice _ _ _) rfl) rfl ?_
    refine WL.nil ?_
    refine W.ret ?_
    exact PR.r1 rfl (.tmp rfl) ⟨by unfold rsl slOf; rw [pGet_at hc1_2 hx]; simp only [Int.toNat_natCast, hr]; rfl, hX⟩
  · skip
    have hz1 := hx1.size
    replace hX := hX.tr hx1
    replace hBp := hx1.blk hBp
    replace hV := hV.ext hx1
    refine WL.y (R.notF rfl) rfl ?_
    refine WL.nil ?_
    refine W.cond_t rfl ?_
    refine W.reg ?_
    refine WL.y (R.asg (v := .slice _ _ _) rfl) rfl ?_
    refine WL.nil ?_
    refine W.ret ?_
    exact PR.r1 rfl (.tmp rfl) ⟨by unfold rsl slOf; rw [pGet_no hc1_2]; rfl, hX⟩
end Go.Proofs.Ytkjecokkdbapkaa

namespace Go.Proofs.Ytkjecokkdbapkaa
set_option linter.all false
open Go Go.Eng Go.RowKit
set_option maxRecDepth 20000
set_option maxHeartbeats 2000000
set_option linter.unusedVariables false
set_option linter.unusedSimpArgs false
attribute [local irreducible] WL W QL WA SP

def pl211 : Nat → Option (Nat × Nat) := fun i => (#[(0, 1), (1, 1), (2, 1), (3, 1)] : Array (Nat × Nat))[i]?
theorem bld211 : Bld Try.prog 211 pl211 zc211 := ⟨_, fun parts w => by
  simp only [pl211, Instr.build, Sem.run_bind, Try.zeroValue211, Try.runUnderlying211, Result.andThen_ok, List.mapM_toArray, List.mapM_cons, List.mapM_nil, Try.sizeOf3, Try.sizeOf4, Try.sizeOf81, Sem.run_pure, Sem.run_map]
  rfl⟩
theorem fo211_0 : FO Try.prog 211 0 0 := fun a w => by kernel_rfl
theorem sca64 : Sca Try.prog 64 := ⟨Try.isAgg64, Try.sizeOf64⟩

theorem rLive_calls (F : Nat → Prop) (b : Nat) (c : Cfg) (p : PSt) (rx : RX) (w : World) (H : RPool w F b c p rx) : CallV Try.prog 48 #[.pointer (some ⟨b, 0, none⟩)] w fun v w' => (∃ a' c', v = .slice a' (ofNats (liveL p)).length c' ∧ Sli (fun n : Int => [i64 n]) 1 w' a' c' (ofNats (liveL p)) ∧ ∀ k, owns a' k → w.heap.size ≤ k) ∧ Ext w w' := by
  have hX : Ext w w := Ext.rfl' w
  have hU : ∀ k, (fun k => w.heap.size ≤ k) k → w.heap.size ≤ k := fun _ h => h
  have hS : Star (fun k => w.heap.size ≤ k) w [] := Star.nil fun _ h => h
  generalize (fun k => w.heap.size ≤ k) = U at hU hS
  have h16 := H.v64
  refine Calls.of_W (N := 22) Try.func48 rfl rfl rfl ?_
  refine W.reg ?_
  refine WL.y (R.asg (v := .slice _ _ _) rfl) rfl ?_
  refine WL.nil ?_
  refine W.reg ?_
  refine WL.y (R.asg (v := .slice _ _ _) rfl) rfl ?_
  refine WL.nil ?_
  refine W.seq ?_
  refine W.reg ?_
  replace hS := hS.pushNil (fun n : Int => [i64 n]) 1
  refine WL.y (R.asg (v := .int _ _) rfl) rfl ?_
  refine WL.nil ?_
  refine W.block ?_
  refine W.loopS (ι := Nat × Option Addr × Nat) [(3, 21)] (fun q => [(4, i64 (q.1 : Nat)), (3, .slice q.2.1 (ofNats ((List.range q.1).filter (fun u => pLive p (u : Nat)))).length q.2.2)]) (fun q => p.vs.length - q.1) (fun q w' => (q.1 ≤ p.vs.length) ∧ Ext w w' ∧ Star U w' [slwA (fun n : Int => [i64 n]) 1 q.2.1 q.2.2 (ofNats ((List.range q.1).filter (fun u => pLive p (u : Nat))))]) ⟨0, none, 0⟩ ⟨rfl, rfl, trivial⟩ ⟨Nat.zero_le _, hX, hS⟩ ?_
  rintro ⟨v, ao, co⟩ j1 w_1 ⟨hv, hX, hS⟩
  dsimp only at hv hX hS ⊢
  have hfl := List.length_filter_le (fun u : Nat => pLive p (u : Nat)) (List.range v)
  rw [List.length_range] at hfl
  have hol : (ofNats ((List.range v).filter (fun u => pLive p (u : Nat)))).length ≤ 16 := by simp only [ofNats, List.length_map]; omega
  refine W.seq ?_
  refine W.reg ?_
  refine WL.y (R.mv (v := .int _ _) rfl) rfl ?_
  refine WL.y (R.mv (v := .pointer _) rfl) rfl ?_
  refine WL.y (R.nilCheck rfl) rfl ?_
  refine WL.y (R.fieldAddr fo75_1 rfl) rfl ?_
  refine WL.y (R.load sca73 rfl ((hX.blk H.blk)).r rfl) rfl ?_
  refine WL.y (R.lenS Try.underlying73 rfl) rfl ?_
  refine WL.fork (R.lss rfl rfl) rfl (fun hc3_6 => ?_) (fun hc3_6 => ?_)
  · skip
    replace hc3_6 := of_decide_eq_true hc3_6
    refine WL.nil ?_
    refine W.cond_t rfl ?_
    refine W.skip ?_
    refine W.seq ?_
    refine W.block ?_
    refine W.reg ?_
    refine WL.y (R.mv (v := .pointer _) rfl) rfl ?_
    refine WL.y (R.mv (v := .int _ _) rfl) rfl ?_
    refine WL.call Try.func124 rfl rfl (CallV.fork (rlive_calls F b c p rx _ (H.ext hX) (v : Nat))) rfl rfl ?_
    rintro _ w1 (⟨hc5_2, rfl, hx1⟩ | ⟨hc5_2, rfl, hx1⟩)
    · skip
      replace hS := hS.ext hx1
      replace hX := hX.tr hx1
      refine WL.nil ?_
      refine W.cond_t rfl ?_
      refine W.region ?_
      refine WL.y (R.mv (v := .slice _ _ _) rfl) rfl ?_
      refine WL.y (R.mv (v := .int _ _) rfl) rfl ?_
      refine WL.buildSliceP (parts := [(0, .tmp 18)]) (ps := [(0, .int _ _)]) el22_3 rfl rfl rfl (by decide) rfl rfl ?_
      intro b2 w2 hb2 hs2 hx2 hB2
      have hL2 := Slw.one encI (((v : Nat) : Int)) hB2 rfl
      replace hS := hS.pushSlw hx2 hL2 (fun k hk => by rw [owns_some] at hk; simp only at hk; omega)
      replace hX := hX.tr hx2
      clear hL2 hB2 hs2
      refine WL.appendS el22_3 encI rfl rfl (hS.slw1) (by first | rfl | omega | (simp; done) | (simp; omega)) (hS.slw0).ro (by first | rfl | omega | (simp; done) | (simp; omega)) (by first | omega | (simp; omega)) (by first | omega | (simp; omega)) rfl ?_
      intro a3 c3 w3 hu3 hl3 hf3
      have hN := hS.app1 hu3 hl3 hf3
      replace hS := hN.1
      replace hX := hN.2 _ hX hU
      clear hN hu3 hl3 hf3
      replace hS := hS.drop0
      refine WL.y (R.asg (v := .slice _ _ _) rfl) rfl ?_
      refine WL.nil ?_
      refine W.region ?_
      refine WL.y (R.mv (v := .int _ _) rfl) rfl ?_
      refine WL.y (R.addI rfl rfl (by omega)) rfl ?_
      refine WL.y (R.asg (v := .int _ _) rfl) rfl ?_
      refine WL.nil ?_
      rw [show ofNats ((List.range v).filter (fun u => pLive p (u : Nat))) ++ [((v : Nat) : Int)] = ofNats ((List.range (v + 1)).filter (fun u => pLive p (u : Nat))) by simp only [filt_succ, hc5_2, if_pos, ofNats, List.map_append]; rfl] at hS
      exact ⟨⟨v + 1, a3, c3⟩, (by simp only; omega), (by repeat (first | exact Same.rfl' _ _ | refine Same.set _ rfl ?_ | refine Same.over' _ rfl ?_ | refine Same.sets rfl ?_)), ⟨rfl, by simp only [filt_succ, hc5_2, if_pos, ofNats, List.map_append, List.length_append]; rfl, trivial⟩, rfl, by simp only; omega, hX, hS⟩
    · skip
      replace hS := hS.ext hx1
      replace hX := hX.tr hx1
      refine WL.nil ?_
      refine W.cond_f rfl ?_
      refine W.skip ?_
      refine W.region ?_
      refine WL.y (R.mv (v := .int _ _) rfl) rfl ?_
      refine WL.y (R.addI rfl rfl (by omega)) rfl ?_
      refine WL.y (R.asg (v := .int _ _) rfl) rfl ?_
      refine WL.nil ?_
      rw [show ofNats ((List.range v).filter (fun u => pLive p (u : Nat))) = ofNats ((List.range (v + 1)).filter (fun u => pLive p (u : Nat))) by simp [filt_succ, hc5_2]] at hS
      exact ⟨⟨v + 1, _, _⟩, (by simp only; omega), (by repeat (first | exact Same.rfl' _ _ | refine Same.set _ rfl ?_ | refine Same.over' _ rfl ?_ | refine Same.sets rfl ?_)), ⟨rfl, by show _ = Value.slice ao (ofNats ((List.range (v + 1)).filter (fun u : Nat => pLive p (u : Nat)))).length co; rw [show (List.range (v + 1)).filter (fun u : Nat => pLive p (u : Nat)) = (List.range v).filter (fun u : Nat => pLive p (u : Nat)) by simp [filt_succ, hc5_2]]; rfl, trivial⟩, rfl, by simp only; omega, hX, hS⟩
  · skip
    replace hc3_6 := of_decide_eq_false hc3_6
    refine WL.nil ?_
    refine W.cond_f rfl ?_
    refine W.exit ?_
    refine W.reg ?_
    refine WL.y (R.mv (v := .slice _ _ _) rfl) rfl ?_
    refine WL.y (R.asg (v := .slice _ _ _) rfl) rfl ?_
    refine WL.nil ?_
    refine W.ret ?_
    obtain rfl : v = p.vs.length := by omega
    obtain ⟨_, ⟨hs, rfl⟩, hfu⟩ := hS.get0
    exact PR.r1 rfl (.tmp rfl) ⟨⟨ao, co, rfl, hs.ro, fun k hk => hU k (hfu k hk)⟩, hX⟩

theorem rServe_out (F : Nat → Prop) (b : Nat) (c : Cfg) (p : PSt) (rx : RX) (w : World) (H : RPool w F b c p rx) (v : Int) (hv : v < 0 ∨ p.vs.length ≤ v) : CallV Try.prog 38 #[.pointer (some ⟨b, 0, none⟩), i64 v] w fun r w' => r = i64 4 ∧ Ext w w' := by
  have hX : Ext w w := Ext.rfl' w
  obtain ⟨csl, hV⟩ := H.vers
  have hBp := H.blk
  have hlen := H.len
  have h16 := H.v64
  refine Calls.of_W (N := 38) Try.func38 rfl rfl rfl ?_
  refine W.reg ?_
  refine WL.y (R.asg (v := .int _ _) rfl) rfl ?_
  refine WL.nil ?_
  refine W.seq ?_
  refine W.reg ?_
  refine WL.y (R.mv (v := .int _ _) rfl) rfl ?_
  refine WL.fork (R.lss rfl rfl) rfl (fun hc1_1 => ?_) (fun hc1_1 => ?_)
  · skip
    replace hc1_1 := of_decide_eq_true hc1_1
    refine WL.y (R.mv (v := .bool true) rfl) rfl ?_
    refine WL.skip rfl ?_
    refine WL.skip rfl ?_
    refine WL.skip rfl ?_
    refine WL.skip rfl ?_
    refine WL.skip rfl ?_
    refine WL.skip rfl ?_
    refine WL.skip rfl ?_
    refine WL.y (R.pkT (v := .bool true) rfl rfl) rfl ?_
    refine WL.y (R.mv (v := .bool true) rfl) rfl ?_
    refine WL.skip rfl ?_
    refine WL.skip rfl ?_
    refine WL.skip rfl ?_
    refine WL.skip rfl ?_
    refine WL.skip rfl ?_
    refine WL.skip rfl ?_
    refine WL.skip rfl ?_
    refine WL.skip rfl ?_
    refine WL.skip rfl ?_
    refine WL.y (R.pkT (v := .bool true) rfl rfl) rfl ?_
    refine WL.nil ?_
    refine W.cond_t rfl ?_
    refine W.reg ?_
    refine WL.y (R.asg (v := .int _ _) rfl) rfl ?_
    refine WL.nil ?_
    refine W.ret ?_
    exact PR.r1 rfl (.tmp rfl) ⟨rfl, hX⟩
  · skip
    replace hc1_1 := of_decide_eq_false hc1_1
    refine WL.y (R.mv (v := .bool false) rfl) rfl ?_
    refine WL.y (R.mv (v := .int _ _) rfl) rfl ?_
    refine WL.y (R.mv (v := .pointer _) rfl) rfl ?_
    refine WL.y (R.nilCheck rfl) rfl ?_
    refine WL.y (R.fieldAddr fo75_1 rfl) rfl ?_
    refine WL.y (R.load sca73 rfl (hBp).r rfl) rfl ?_
    refine WL.y (R.lenS Try.underlying73 rfl) rfl ?_
    refine WL.fork (R.geq rfl rfl) rfl (fun hc1_9 => ?_) (fun hc1_9 => ?_)
    · skip
      replace hc1_9 := of_decide_eq_true hc1_9
      skip
      refine WL.y (R.pkF (v := .bool true) rfl rfl) rfl ?_
      refine WL.y (R.mv (v := .bool true) rfl) rfl ?_
      refine WL.skip rfl ?_
      refine WL.skip rfl ?_
      refine WL.skip rfl ?_
      refine WL.skip rfl ?_
      refine WL.skip rfl ?_
      refine WL.skip rfl ?_
      refine WL.skip rfl ?_
      refine WL.skip rfl ?_
      refine WL.skip rfl ?_
      refine WL.y (R.pkT (v := .bool true) rfl rfl) rfl ?_
      refine WL.nil ?_
      refine W.cond_t rfl ?_
      refine W.reg ?_
      refine WL.y (R.asg (v := .int _ _) rfl) rfl ?_
      refine WL.nil ?_
      refine W.ret ?_
      exact PR.r1 rfl (.tmp rfl) ⟨rfl, hX⟩
    · skip
      replace hc1_9 := of_decide_eq_false hc1_9
      exact absurd hv (by omega)

theorem rServe_no (F : Nat → Prop) (b : Nat) (c : Cfg) (p : PSt) (rx : RX) (w : World) (H : RPool w F b c p rx) (k : Nat) (x : Ver) (hx : p.vs[k]? = some x) (hres : x.res = false) : CallV Try.prog 38 #[.pointer (some ⟨b, 0, none⟩), i64 (k : Nat)] w fun r w' => r = i64 4 ∧ Ext w w' := by
  have hX : Ext w w := Ext.rfl' w
  obtain ⟨csl, hV⟩ := H.vers
  have hBp := H.blk
  have hlen := H.len
  have h16 := H.v64
  obtain ⟨r, hr⟩ : ∃ r, rx.rvs[k]? = some r := ⟨_, List.getElem?_eq_getElem (by have := (List.getElem?_eq_some_iff.1 hx).1; omega)⟩
  obtain ⟨e1, e2, e3, e4, e5⟩ := H.each k r x hr hx
  have hkl := (List.getElem?_eq_some_iff.1 hx).1
  have hnn := H.nn
  refine Calls.of_W (N := 38) Try.func38 rfl rfl rfl ?_
  refine W.reg ?_
  refine WL.y (R.asg (v := .int _ _) rfl) rfl ?_
  refine WL.nil ?_
  refine W.seq ?_
  refine W.reg ?_
  refine WL.y (R.mv (v := .int _ _) rfl) rfl ?_
  refine WL.y (R.lssF rfl rfl (by omega)) rfl ?_
  refine WL.y (R.mv (v := .bool false) rfl) rfl ?_
  refine WL.y (R.mv (v := .int _ _) rfl) rfl ?_
  refine WL.y (R.mv (v := .pointer _) rfl) rfl ?_
  refine WL.y (R.nilCheck rfl) rfl ?_
  refine WL.y (R.fieldAddr fo75_1 rfl) rfl ?_
  refine WL.y (R.load sca73 rfl (hBp).r rfl) rfl ?_
  refine WL.y (R.lenS Try.underlying73 rfl) rfl ?_
  refine WL.y (R.geqF rfl rfl (by omega)) rfl ?_
  refine WL.y (R.pkF (v := .bool false) rfl rfl) rfl ?_
  refine WL.y (R.mv (v := .bool false) rfl) rfl ?_
  refine WL.y (R.mv (v := .pointer _) rfl) rfl ?_
  refine WL.y (R.nilCheck rfl) rfl ?_
  refine WL.y (R.fieldAddr fo75_1 rfl) rfl ?_
  refine WL.y (R.load sca73 rfl (hBp).r rfl) rfl ?_
  refine WL.y (R.mv (v := .int _ _) rfl) rfl ?_
  refine WL.y (R.indexS Try.underlying73 siz211 rfl rfl rfl (by omega)) rfl ?_
  refine WL.y (R.fieldAddr fo211_1 rfl) rfl ?_
  refine WL.y (R.load sca4 rfl (hV.blk).r ((hV.cell encRE hr (j := 1) (by decide)).trans (congrArg some (congrArg Value.bool (e2.trans hres))))) rfl ?_
  refine WL.y (R.notF rfl) rfl ?_
  refine WL.y (R.pkF (v := .bool true) rfl rfl) rfl ?_
  refine WL.nil ?_
  refine W.cond_t rfl ?_
  refine W.reg ?_
  refine WL.y (R.asg (v := .int _ _) rfl) rfl ?_
  refine WL.nil ?_
  refine W.ret ?_
  exact PR.r1 rfl (.tmp rfl) ⟨rfl, hX⟩

theorem rServe_ok (F : Nat → Prop) (b : Nat) (c : Cfg) (p : PSt) (rx : RX) (w : World) (H : RPool w F b c p rx) (k : Nat) (x : Ver) (hx : p.vs[k]? = some x) (hres : x.res = true) : CallV Try.prog 38 #[.pointer (some ⟨b, 0, none⟩), i64 (k : Nat)] w fun r w' => ∃ R', r = i64 0 ∧ Upd F w w' ∧ RPool w' F b c (⟨p.vs.set k ⟨x.slots, x.refs, false⟩, k, p.last, p.sl⟩) R' := by
  have hU : Upd F w w := Upd.rfl' F w
  have hX : Ext w w := Ext.rfl' w
  obtain ⟨csl, hV⟩ := H.vers
  have hBp := H.blk
  have hlen := H.len
  have h16 := H.v64
  have hne := H.ne
  have hUP : Upd (fun k => k = b ∨ k = rx.gl) w w := Upd.rfl' _ w
  obtain ⟨r, hr⟩ : ∃ r, rx.rvs[k]? = some r := ⟨_, List.getElem?_eq_getElem (by have := (List.getElem?_eq_some_iff.1 hx).1; omega)⟩
  obtain ⟨e1, e2, e3, e4, e5⟩ := H.each k r x hr hx
  have hkl := (List.getElem?_eq_some_iff.1 hx).1
  have hnn := H.nn
  refine Calls.of_W (N := 38) Try.func38 rfl rfl rfl ?_
  refine W.reg ?_
  refine WL.y (R.asg (v := .int _ _) rfl) rfl ?_
  refine WL.nil ?_
  refine W.seq ?_
  refine W.reg ?_
  refine WL.y (R.mv (v := .int _ _) rfl) rfl ?_
  refine WL.y (R.lssF rfl rfl (by omega)) rfl ?_
  refine WL.y (R.mv (v := .bool false) rfl) rfl ?_
  refine WL.y (R.mv (v := .int _ _) rfl) rfl ?_
  refine WL.y (R.mv (v := .pointer _) rfl) rfl ?_
  refine WL.y (R.nilCheck rfl) rfl ?_
  refine WL.y (R.fieldAddr fo75_1 rfl) rfl ?_
  refine WL.y (R.load sca73 rfl (hBp).r rfl) rfl ?_
  refine WL.y (R.lenS Try.underlying73 rfl) rfl ?_
  refine WL.y (R.geqF rfl rfl (by omega)) rfl ?_
  refine WL.y (R.pkF (v := .bool false) rfl rfl) rfl ?_
  refine WL.y (R.mv (v := .bool false) rfl) rfl ?_
  refine WL.y (R.mv (v := .pointer _) rfl) rfl ?_
  refine WL.y (R.nilCheck rfl) rfl ?_
  refine WL.y (R.fieldAddr fo75_1 rfl) rfl ?_
  refine WL.y (R.load sca73 rfl (hBp).r rfl) rfl ?_
  refine WL.y (R.mv (v := .int _ _) rfl) rfl ?_
  refine WL.y (R.indexS Try.underlying73 siz211 rfl rfl rfl (by omega)) rfl ?_
  refine WL.y (R.fieldAddr fo211_1 rfl) rfl ?_
  refine WL.y (R.load sca4 rfl (hV.blk).r ((hV.cell encRE hr (j := 1) (by decide)).trans (congrArg some (congrArg Value.bool (e2.trans hres))))) rfl ?_
  refine WL.y (R.notT rfl) rfl ?_
  refine WL.y (R.pkF (v := .bool false) rfl rfl) rfl ?_
  refine WL.nil ?_
  refine W.cond_f rfl ?_
  refine W.skip ?_
  refine W.reg ?_
  refine WL.y (R.mv (v := .pointer _) rfl) rfl ?_
  refine WL.y (R.nilCheck rfl) rfl ?_
  refine WL.y (R.fieldAddr fo75_1 rfl) rfl ?_
  refine WL.y (R.load sca73 rfl (hBp).r rfl) rfl ?_
  refine WL.y (R.mv (v := .int _ _) rfl) rfl ?_
  refine WL.y (R.indexS Try.underlying73 siz211 rfl rfl rfl (by omega)) rfl ?_
  refine WL.y (R.fieldAddr fo211_1 rfl) rfl ?_
  refine WL.store1 (v := .bool _) sca4 rfl rfl rfl hV.blk (by have := hV.bound (List.getElem?_eq_some_iff.1 hr).1; omega) rfl ?_
  intro w1 hu1 hz1 hn1
  replace hUP := hUP.tr (hu1.mono (fun k _ hk => by subst hk; first | exact .inl rfl | exact .inr rfl))
  replace hU := hU.tr (hu1.mono (fun k _ hk => by subst hk; first | exact H.fb | exact H.fg))
  replace hBp := hu1.blk (by omega) hBp
  replace hV := hV.set encRE hr (j := 1) (by decide) (y := (⟨r.lv, false, r.refs, r.a, r.n, r.c⟩ : RR)) rfl hn1; clear hn1
  refine WL.nil ?_
  refine W.reg ?_
  refine WL.y (R.mv (v := .pointer _) rfl) rfl ?_
  refine WL.y (R.mv (v := .int _ _) rfl) rfl ?_
  refine WL.y (R.nilCheck rfl) rfl ?_
  refine WL.y (R.fieldAddr fo75_2 rfl) rfl ?_
  refine WL.store1 (v := .int _ _) sca3 rfl rfl rfl hBp (Nat.le_of_ble_eq_true rfl) rfl ?_
  intro w2 hu2 hz2 hn2
  replace hUP := hUP.tr (hu2.mono (fun k _ hk => by subst hk; first | exact .inl rfl | exact .inr rfl))
  replace hU := hU.tr (hu2.mono (fun k _ hk => by subst hk; first | exact H.fb | exact H.fg))
  replace hV := hV.updB hu2 (by omega)
  replace hBp := hn2; clear hn2
  refine WL.nil ?_
  refine W.reg ?_
  refine WL.y (R.asg (v := .int _ _) rfl) rfl ?_
  refine WL.nil ?_
  refine W.ret ?_
  exact PR.r1 rfl (.tmp rfl) ⟨_, rfl, hU, H.turnS hUP (r' := ⟨r.lv, false, r.refs, r.a, r.n, r.c⟩) (v' := ⟨x.slots, x.refs, false⟩) (now' := k) hr hx ⟨rfl, rfl, rfl⟩ rfl (by first | rfl | (show r.refs = x.refs; exact e1) | (show r.refs + 1 = x.refs + 1; rw [e1]) | (show r.refs - 1 = x.refs - 1; rw [e1])) (by first | rfl | exact e2) hBp ⟨_, hV⟩ (by omega)⟩

theorem rRef_dead (F : Nat → Prop) (b : Nat) (c : Cfg) (p : PSt) (rx : RX) (w : World) (H : RPool w F b c p rx) (v : Int) (hl : pLive p v = false) : CallV Try.prog 40 #[.pointer (some ⟨b, 0, none⟩), i64 v] w fun r w' => r = i64 4 ∧ Ext w w' := by
  have hX : Ext w w := Ext.rfl' w
  obtain ⟨csl, hV⟩ := H.vers
  have hBp := H.blk
  have hlen := H.len
  have h16 := H.v64
  refine Calls.of_W (N := 20) Try.func40 rfl rfl rfl ?_
  refine W.reg ?_
  refine WL.y (R.asg (v := .int _ _) rfl) rfl ?_
  refine WL.nil ?_
  refine W.seq ?_
  refine W.reg ?_
  refine WL.y (R.mv (v := .pointer _) rfl) rfl ?_
  refine WL.y (R.mv (v := .int _ _) rfl) rfl ?_
  refine WL.call Try.func124 rfl rfl ((rlive_calls F b c p rx _ H v).val (y := bl false) (by rw [hl])) rfl rfl ?_
  rintro _ w1 ⟨rfl, hx1⟩
  have hz1 := hx1.size
  replace hX := hX.tr hx1
  replace hBp := hx1.blk hBp
  replace hV := hV.ext hx1
  refine WL.y (R.notF rfl) rfl ?_
  refine WL.nil ?_
  refine W.cond_t rfl ?_
  refine W.reg ?_
  refine WL.y (R.asg (v := .int _ _) rfl) rfl ?_
  refine WL.nil ?_
  refine W.ret ?_
  exact PR.r1 rfl (.tmp rfl) ⟨rfl, hX⟩

theorem rRef_ok (F : Nat → Prop) (b : Nat) (c : Cfg) (p : PSt) (rx : RX) (w : World) (H : RPool w F b c p rx) (k : Nat) (x : Ver) (hl : pLive p k = true) (hx : p.vs[k]? = some x) (hb : 0 ≤ x.refs ∧ x.refs < 4611686018427387904) : CallV Try.prog 40 #[.pointer (some ⟨b, 0, none⟩), i64 (k : Nat)] w fun r w' => ∃ R', r = i64 0 ∧ Upd F w w' ∧ RPool w' F b c (pSet p k ⟨x.slots, x.refs + 1, x.res⟩) R' := by
  have hU : Upd F w w := Upd.rfl' F w
  have hX : Ext w w := Ext.rfl' w
  obtain ⟨csl, hV⟩ := H.vers
  have hBp := H.blk
  have hlen := H.len
  have h16 := H.v64
  have hne := H.ne
  have hUP : Upd (fun k => k = b ∨ k = rx.gl) w w := Upd.rfl' _ w
  obtain ⟨r, hr⟩ : ∃ r, rx.rvs[k]? = some r := ⟨_, List.getElem?_eq_getElem (by have := (List.getElem?_eq_some_iff.1 hx).1; omega)⟩
  obtain ⟨e1, e2, e3, e4, e5⟩ := H.each k r x hr hx
  have hkl := (List.getElem?_eq_some_iff.1 hx).1
  have hnn := H.nn
  refine Calls.of_W (N := 20) Try.func40 rfl rfl rfl ?_
  refine W.reg ?_
  refine WL.y (R.asg (v := .int _ _) rfl) rfl ?_
  refine WL.nil ?_
  refine W.seq ?_
  refine W.reg ?_
  refine WL.y (R.mv (v := .pointer _) rfl) rfl ?_
  refine WL.y (R.mv (v := .int _ _) rfl) rfl ?_
  refine WL.call Try.func124 rfl rfl ((rlive_calls F b c p rx _ H k).val (y := bl true) (by rw [hl])) rfl rfl ?_
  rintro _ w1 ⟨rfl, hx1⟩
  have hz1 := hx1.size
  replace hUP := hUP.tr (hx1.upd _)
  replace hU := hU.tr (hx1.upd _)
  replace hBp := hx1.blk hBp
  replace hV := hV.ext hx1
  refine WL.y (R.notT rfl) rfl ?_
  refine WL.nil ?_
  refine W.cond_f rfl ?_
  refine W.skip ?_
  refine W.reg ?_
  refine WL.y (R.mv (v := .pointer _) rfl) rfl ?_
  refine WL.y (R.nilCheck rfl) rfl ?_
  refine WL.y (R.fieldAddr fo75_1 rfl) rfl ?_
  refine WL.y (R.load sca73 rfl (hBp).r rfl) rfl ?_
  refine WL.y (R.mv (v := .int _ _) rfl) rfl ?_
  refine WL.y (R.indexS Try.underlying73 siz211 rfl rfl rfl (by omega)) rfl ?_
  refine WL.y (R.fieldAddr fo211_2 rfl) rfl ?_
  refine WL.y (R.load sca3 rfl (hV.blk).r ((hV.cell encRE hr (j := 2) (by decide)))) rfl ?_
  refine WL.y (R.addI rfl rfl (by omega)) rfl ?_
  refine WL.y (R.indexS Try.underlying73 siz211 rfl rfl rfl (by omega)) rfl ?_
  refine WL.y (R.fieldAddr fo211_2 rfl) rfl ?_
  refine WL.store1 (v := .int _ _) sca3 rfl rfl rfl hV.blk (by have := hV.bound (List.getElem?_eq_some_iff.1 hr).1; omega) rfl ?_
  intro w2 hu2 hz2 hn2
  replace hUP := hUP.tr (hu2.mono (fun k _ hk => by subst hk; first | exact .inl rfl | exact .inr rfl))
  replace hU := hU.tr (hu2.mono (fun k _ hk => by subst hk; first | exact H.fb | exact H.fg))
  replace hBp := hu2.blk (by omega) hBp
  replace hV := hV.set encRE hr (j := 2) (by decide) (y := (⟨r.lv, r.res, r.refs + 1, r.a, r.n, r.c⟩ : RR)) rfl hn2; clear hn2
  refine WL.nil ?_
  refine W.reg ?_
  refine WL.y (R.asg (v := .int _ _) rfl) rfl ?_
  refine WL.nil ?_
  refine W.ret ?_
  exact PR.r1 rfl (.tmp rfl) ⟨_, rfl, hU, H.turnS hUP (r' := ⟨r.lv, r.res, r.refs + 1, r.a, r.n, r.c⟩) (v' := ⟨x.slots, x.refs + 1, x.res⟩) (now' := p.now) hr hx ⟨rfl, rfl, rfl⟩ rfl (by first | rfl | (show r.refs = x.refs; exact e1) | (show r.refs + 1 = x.refs + 1; rw [e1]) | (show r.refs - 1 = x.refs - 1; rw [e1])) (by first | rfl | exact e2) hBp ⟨_, hV⟩ (by omega)⟩

theorem rUnref_dead (F : Nat → Prop) (b : Nat) (c : Cfg) (p : PSt) (rx : RX) (w : World) (H : RPool w F b c p rx) (v : Int) (hl : pLive p v = false) : CallV Try.prog 42 #[.pointer (some ⟨b, 0, none⟩), i64 v] w fun r w' => r = i64 4 ∧ Ext w w' := by
  have hX : Ext w w := Ext.rfl' w
  obtain ⟨csl, hV⟩ := H.vers
  have hBp := H.blk
  have hlen := H.len
  have h16 := H.v64
  refine Calls.of_W (N := 29) Try.func42 rfl rfl rfl ?_
  refine W.reg ?_
  refine WL.y (R.asg (v := .int _ _) rfl) rfl ?_
  refine WL.nil ?_
  refine W.seq ?_
  refine W.reg ?_
  refine WL.y (R.mv (v := .pointer _) rfl) rfl ?_
  refine WL.y (R.mv (v := .int _ _) rfl) rfl ?_
  refine WL.call Try.func124 rfl rfl ((rlive_calls F b c p rx _ H v).val (y := bl false) (by rw [hl])) rfl rfl ?_
  rintro _ w1 ⟨rfl, hx1⟩
  have hz1 := hx1.size
  replace hX := hX.tr hx1
  replace hBp := hx1.blk hBp
  replace hV := hV.ext hx1
  refine WL.y (R.notF rfl) rfl ?_
  refine WL.nil ?_
  refine W.cond_t rfl ?_
  refine W.reg ?_
  refine WL.y (R.asg (v := .int _ _) rfl) rfl ?_
  refine WL.nil ?_
  refine W.ret ?_
  exact PR.r1 rfl (.tmp rfl) ⟨rfl, hX⟩

theorem rUnref_busy (F : Nat → Prop) (b : Nat) (c : Cfg) (p : PSt) (rx : RX) (w : World) (H : RPool w F b c p rx) (k : Nat) (x : Ver) (hl : pLive p k = true) (hx : p.vs[k]? = some x) (h0 : x.refs = 0) : CallV Try.prog 42 #[.pointer (some ⟨b, 0, none⟩), i64 (k : Nat)] w fun r w' => r = i64 5 ∧ Ext w w' := by
  have hX : Ext w w := Ext.rfl' w
  obtain ⟨csl, hV⟩ := H.vers
  have hBp := H.blk
  have hlen := H.len
  have h16 := H.v64
  obtain ⟨r, hr⟩ : ∃ r, rx.rvs[k]? = some r := ⟨_, List.getElem?_eq_getElem (by have := (List.getElem?_eq_some_iff.1 hx).1; omega)⟩
  obtain ⟨e1, e2, e3, e4, e5⟩ := H.each k r x hr hx
  have hkl := (List.getElem?_eq_some_iff.1 hx).1
  have hnn := H.nn
  refine Calls.of_W (N := 29) Try.func42 rfl rfl rfl ?_
  refine W.reg ?_
  refine WL.y (R.asg (v := .int _ _) rfl) rfl ?_
  refine WL.nil ?_
  refine W.seq ?_
  refine W.reg ?_
  refine WL.y (R.mv (v := .pointer _) rfl) rfl ?_
  refine WL.y (R.mv (v := .int _ _) rfl) rfl ?_
  refine WL.call Try.func124 rfl rfl ((rlive_calls F b c p rx _ H k).val (y := bl true) (by rw [hl])) rfl rfl ?_
  rintro _ w1 ⟨rfl, hx1⟩
  have hz1 := hx1.size
  replace hX := hX.tr hx1
  replace hBp := hx1.blk hBp
  replace hV := hV.ext hx1
  refine WL.y (R.notT rfl) rfl ?_
  refine WL.nil ?_
  refine W.cond_f rfl ?_
  refine W.skip ?_
  refine W.seq ?_
  refine W.reg ?_
  refine WL.y (R.mv (v := .pointer _) rfl) rfl ?_
  refine WL.y (R.nilCheck rfl) rfl ?_
  refine WL.y (R.fieldAddr fo75_1 rfl) rfl ?_
  refine WL.y (R.load sca73 rfl (hBp).r rfl) rfl ?_
  refine WL.y (R.mv (v := .int _ _) rfl) rfl ?_
  refine WL.y (R.indexS Try.underlying73 siz211 rfl rfl rfl (by omega)) rfl ?_
  refine WL.y (R.fieldAddr fo211_2 rfl) rfl ?_
  refine WL.y (R.load sca3 rfl (hV.blk).r ((hV.cell encRE hr (j := 2) (by decide)))) rfl ?_
  refine WL.y (R.eqlT rfl rfl (e1.trans h0)) rfl ?_
  refine WL.nil ?_
  refine W.cond_t rfl ?_
  refine W.reg ?_
  refine WL.y (R.asg (v := .int _ _) rfl) rfl ?_
  refine WL.nil ?_
  refine W.ret ?_
  exact PR.r1 rfl (.tmp rfl) ⟨rfl, hX⟩

theorem rUnref_ok (F : Nat → Prop) (b : Nat) (c : Cfg) (p : PSt) (rx : RX) (w : World) (H : RPool w F b c p rx) (k : Nat) (x : Ver) (hl : pLive p k = true) (hx : p.vs[k]? = some x) (hb : 1 ≤ x.refs ∧ x.refs < 4611686018427387904) : CallV Try.prog 42 #[.pointer (some ⟨b, 0, none⟩), i64 (k : Nat)] w fun r w' => ∃ R', r = i64 0 ∧ Upd F w w' ∧ RPool w' F b c (pSet p k ⟨x.slots, x.refs - 1, x.res⟩) R' := by
  have hU : Upd F w w := Upd.rfl' F w
  have hX : Ext w w := Ext.rfl' w
  obtain ⟨csl, hV⟩ := H.vers
  have hBp := H.blk
  have hlen := H.len
  have h16 := H.v64
  have hne := H.ne
  have hUP : Upd (fun k => k = b ∨ k = rx.gl) w w := Upd.rfl' _ w
  obtain ⟨r, hr⟩ : ∃ r, rx.rvs[k]? = some r := ⟨_, List.getElem?_eq_getElem (by have := (List.getElem?_eq_some_iff.1 hx).1; omega)⟩
  obtain ⟨e1, e2, e3, e4, e5⟩ := H.each k r x hr hx
  have hkl := (List.getElem?_eq_some_iff.1 hx).1
  have hnn := H.nn
  refine Calls.of_W (N := 29) Try.func42 rfl rfl rfl ?_
  refine W.reg ?_
  refine WL.y (R.asg (v := .int _ _) rfl) rfl ?_
  refine WL.nil ?_
  refine W.seq ?_
  refine W.reg ?_
  refine WL.y (R.mv (v := .pointer _) rfl) rfl ?_
  refine WL.y (R.mv (v := .int _ _) rfl) rfl ?_
  refine WL.call Try.func124 rfl rfl ((rlive_calls F b c p rx _ H k).val (y := bl true) (by rw [hl])) rfl rfl ?_
  rintro _ w1 ⟨rfl, hx1⟩
  have hz1 := hx1.size
  replace hUP := hUP.tr (hx1.upd _)
  replace hU := hU.tr (hx1.upd _)
  replace hBp := hx1.blk hBp
  replace hV := hV.ext hx1
  refine WL.y (R.notT rfl) rfl ?_
  refine WL.nil ?_
  refine W.cond_f rfl ?_
  refine W.skip ?_
  refine W.seq ?_
  refine W.reg ?_
  refine WL.y (R.mv (v := .pointer _) rfl) rfl ?_
  refine WL.y (R.nilCheck rfl) rfl ?_
  refine WL.y (R.fieldAddr fo75_1 rfl) rfl ?_
  refine WL.y (R.load sca73 rfl (hBp).r rfl) rfl ?_
  refine WL.y (R.mv (v := .int _ _) rfl) rfl ?_
  refine WL.y (R.indexS Try.underlying73 siz211 rfl rfl rfl (by omega)) rfl ?_
  refine WL.y (R.fieldAddr fo211_2 rfl) rfl ?_
  refine WL.y (R.load sca3 rfl (hV.blk).r ((hV.cell encRE hr (j := 2) (by decide)))) rfl ?_
  refine WL.y (R.eqlF rfl rfl (by omega)) rfl ?_
  refine WL.nil ?_
  refine W.cond_f rfl ?_
  refine W.skip ?_
  refine W.reg ?_
  refine WL.y (R.mv (v := .pointer _) rfl) rfl ?_
  refine WL.y (R.nilCheck rfl) rfl ?_
  refine WL.y (R.fieldAddr fo75_1 rfl) rfl ?_
  refine WL.y (R.load sca73 rfl (hBp).r rfl) rfl ?_
  refine WL.y (R.mv (v := .int _ _) rfl) rfl ?_
  refine WL.y (R.indexS Try.underlying73 siz211 rfl rfl rfl (by omega)) rfl ?_
  refine WL.y (R.fieldAddr fo211_2 rfl) rfl ?_
  refine WL.y (R.load sca3 rfl (hV.blk).r ((hV.cell encRE hr (j := 2) (by decide)))) rfl ?_
  refine WL.y (R.subI rfl rfl (by omega)) rfl ?_
  refine WL.y (R.indexS Try.underlying73 siz211 rfl rfl rfl (by omega)) rfl ?_
  refine WL.y (R.fieldAddr fo211_2 rfl) rfl ?_
  refine WL.store1 (v := .int _ _) sca3 rfl rfl rfl hV.blk (by have := hV.bound (List.getElem?_eq_some_iff.1 hr).1; omega) rfl ?_
  intro w2 hu2 hz2 hn2
  replace hUP := hUP.tr (hu2.mono (fun k _ hk => by subst hk; first | exact .inl rfl | exact .inr rfl))
  replace hU := hU.tr (hu2.mono (fun k _ hk => by subst hk; first | exact H.fb | exact H.fg))
  replace hBp := hu2.blk (by omega) hBp
  replace hV := hV.set encRE hr (j := 2) (by decide) (y := (⟨r.lv, r.res, r.refs - 1, r.a, r.n, r.c⟩ : RR)) rfl hn2; clear hn2
  refine WL.nil ?_
  refine W.reg ?_
  refine WL.y (R.asg (v := .int _ _) rfl) rfl ?_
  refine WL.nil ?_
  refine W.ret ?_
  exact PR.r1 rfl (.tmp rfl) ⟨_, rfl, hU, H.turnS hUP (r' := ⟨r.lv, r.res, r.refs - 1, r.a, r.n, r.c⟩) (v' := ⟨x.slots, x.refs - 1, x.res⟩) (now' := p.now) hr hx ⟨rfl, rfl, rfl⟩ rfl (by first | rfl | (show r.refs = x.refs; exact e1) | (show r.refs + 1 = x.refs + 1; rw [e1]) | (show r.refs - 1 = x.refs - 1; rw [e1])) (by first | rfl | exact e2) hBp ⟨_, hV⟩ (by omega)⟩
end Go.Proofs.Ytkjecokkdbapkaa

namespace Go.Proofs.Ytkjecokkdbapkaa
set_option linter.all false
open Go Go.Eng Go.RowKit
set_option maxRecDepth 20000
set_option maxHeartbeats 2000000
set_option linter.unusedVariables false
set_option linter.unusedSimpArgs false
attribute [local irreducible] WL W QL WA SP

theorem fo75_0 : FO Try.prog 75 0 0 := fun a w => by kernel_rfl
theorem fo75_3 : FO Try.prog 75 3 50 := fun a w => by kernel_rfl
theorem fo75_4 : FO Try.prog 75 4 51 := fun a w => by kernel_rfl

theorem rReserve_bad (F : Nat → Prop) (b : Nat) (c : Cfg) (p : PSt) (rx : RX) (w : World) (H : RPool w F b c p rx) (ms : List Mem) (a : Option Addr) (cc : Nat) (hS : Sli encMem 19 w a cc ms) (h63 : ms.length ≤ 1000000000) (hm : memsOK ms = false) : CallV Try.prog 36 #[.pointer (some ⟨b, 0, none⟩), .slice a ms.length cc] w fun r w' => r = .tuple #[i64 0, i64 1] ∧ Ext w w' := by
  have hX : Ext w w := Ext.rfl' w
  obtain ⟨csl, hV⟩ := H.vers
  have hBp := H.blk
  have hlen := H.len
  have h16 := H.v64
  have hSl := hS.lt
  have hSr := hS
  refine Calls.of_W (N := 64) Try.func36 rfl rfl rfl ?_
  refine W.reg ?_
  refine WL.y (R.asg (v := .int _ _) rfl) rfl ?_
  refine WL.y (R.asg (v := .int _ _) rfl) rfl ?_
  refine WL.nil ?_
  refine W.seq ?_
  refine W.reg ?_
  refine WL.y (R.mv (v := .slice _ _ _) rfl) rfl ?_
  refine WL.call Try.func121 rfl rfl ((refMembers_calls ms (by omega) a cc _ hS).val (y := bl false) (by rw [hm])) rfl rfl ?_
  rintro _ w1 ⟨rfl, hx1⟩
  have hz1 := hx1.size
  replace hX := hX.tr hx1
  replace hBp := hx1.blk hBp
  replace hV := hV.ext hx1
  replace hS := hS.ext hx1
  refine WL.y (R.notF rfl) rfl ?_
  refine WL.nil ?_
  refine W.cond_t rfl ?_
  refine W.reg ?_
  refine WL.y (R.asg (v := .int _ _) rfl) rfl ?_
  refine WL.y (R.asg (v := .int _ _) rfl) rfl ?_
  refine WL.nil ?_
  refine W.ret ?_
  exact PR.r2 rfl (.tmp rfl) (.tmp rfl) ⟨rfl, hX⟩

theorem rReserve_full (F : Nat → Prop) (b : Nat) (c : Cfg) (p : PSt) (rx : RX) (w : World) (H : RPool w F b c p rx) (ms : List Mem) (a : Option Addr) (cc : Nat) (hS : Sli encMem 19 w a cc ms) (hm : memsOK ms = true) (hf : pFirst p = p.vs.length) : CallV Try.prog 36 #[.pointer (some ⟨b, 0, none⟩), .slice a ms.length cc] w fun r w' => r = .tuple #[i64 0, i64 3] ∧ Ext w w' := by
  have hX : Ext w w := Ext.rfl' w
  obtain ⟨csl, hV⟩ := H.vers
  have hBp := H.blk
  have hlen := H.len
  have h16 := H.v64
  have hSl := hS.lt
  have hSr := hS
  refine Calls.of_W (N := 64) Try.func36 rfl rfl rfl ?_
  refine W.reg ?_
  refine WL.y (R.asg (v := .int _ _) rfl) rfl ?_
  refine WL.y (R.asg (v := .int _ _) rfl) rfl ?_
  refine WL.nil ?_
  refine W.seq ?_
  refine W.reg ?_
  refine WL.y (R.mv (v := .slice _ _ _) rfl) rfl ?_
  refine WL.call Try.func121 rfl rfl ((refMembers_calls ms (by have := memsOK_len hm; omega) a cc _ hS).val (y := bl true) (by rw [hm])) rfl rfl ?_
  rintro _ w1 ⟨rfl, hx1⟩
  have hz1 := hx1.size
  replace hX := hX.tr hx1
  replace hBp := hx1.blk hBp
  replace hV := hV.ext hx1
  replace hS := hS.ext hx1
  refine WL.y (R.notT rfl) rfl ?_
  refine WL.nil ?_
  refine W.cond_f rfl ?_
  refine W.skip ?_
  refine W.seq ?_
  refine W.reg ?_
  refine WL.y (R.asg (v := .int _ _) rfl) rfl ?_
  refine WL.nil ?_
  refine W.block ?_
  refine W.loopS (ι := Nat) [(4, 9), (12, 64)] (fun v => [(6, i64 (v : Nat))]) (fun v => p.vs.length - v) (fun v w' => Ext w w' ∧ v ≤ p.vs.length ∧ ∀ j, j < v → pLive p (j : Nat) = true) 0 ⟨rfl, trivial⟩ ⟨hX, Nat.zero_le _, fun j hj => absurd hj (by omega)⟩ ?_
  rintro v j wl ⟨hX, hv, hall⟩
  have hBp := hX.blk H.blk
  refine W.seq ?_
  refine W.reg ?_
  refine WL.y (R.mv (v := .int _ _) rfl) rfl ?_
  refine WL.y (R.mv (v := .pointer _) rfl) rfl ?_
  refine WL.y (R.nilCheck rfl) rfl ?_
  refine WL.y (R.fieldAddr fo75_1 rfl) rfl ?_
  refine WL.y (R.load sca73 rfl (hBp).r rfl) rfl ?_
  refine WL.y (R.lenS Try.underlying73 rfl) rfl ?_
  refine WL.fork (R.lss rfl rfl) rfl (fun hc4_6 => ?_) (fun hc4_6 => ?_)
  · skip
    replace hc4_6 := of_decide_eq_true hc4_6
    refine WL.nil ?_
    refine W.cond_t rfl ?_
    refine W.skip ?_
    refine W.seq ?_
    refine W.block ?_
    refine W.seq ?_
    refine W.reg ?_
    refine WL.y (R.mv (v := .pointer _) rfl) rfl ?_
    refine WL.y (R.mv (v := .int _ _) rfl) rfl ?_
    refine WL.call Try.func124 rfl rfl (CallV.fork (rlive_calls F b c p rx _ (H.ext hX) (v : Nat))) rfl rfl ?_
    rintro _ w2 (⟨hc6_2, rfl, hx2⟩ | ⟨hc6_2, rfl, hx2⟩)
    · skip
      have hz2 := hx2.size
      replace hX := hX.tr hx2
      replace hBp := hx2.blk hBp
      skip
      refine WL.nil ?_
      refine W.cond_t rfl ?_
      refine W.exit ?_
      refine W.region ?_
      refine WL.y (R.mv (v := .int _ _) rfl) rfl ?_
      refine WL.y (R.addI rfl rfl (by omega)) rfl ?_
      refine WL.y (R.asg (v := .int _ _) rfl) rfl ?_
      refine WL.nil ?_
      exact ⟨v + 1, (by omega), (by repeat (first | exact Same.rfl' _ _ | refine Same.set _ rfl ?_ | refine Same.over' _ rfl ?_ | refine Same.sets rfl ?_)), ⟨rfl, trivial⟩, rfl, hX, by omega, fun j hj => by rcases Nat.lt_or_ge j v with h | h; exact hall j h; (obtain rfl : j = v := by omega); exact hc6_2⟩
    · skip
      have hz2 := hx2.size
      replace hX := hX.tr hx2
      replace hBp := hx2.blk hBp
      have hpf := pFirst_eq hv hall hc6_2
      omega
  · skip
    replace hc4_6 := of_decide_eq_false hc4_6
    refine WL.nil ?_
    refine W.cond_f rfl ?_
    refine W.exit ?_
    refine W.reg ?_
    refine WL.y (R.asg (v := .int _ _) rfl) rfl ?_
    refine WL.y (R.asg (v := .int _ _) rfl) rfl ?_
    refine WL.nil ?_
    refine W.ret ?_
    exact PR.r2 rfl (.tmp rfl) (.tmp rfl) ⟨rfl, hX⟩

theorem rReserve_ok (F : Nat → Prop) (b : Nat) (c : Cfg) (p : PSt) (rx : RX) (w : World) (H : RPool w F b c p rx) (ms : List Mem) (a : Option Addr) (cc : Nat) (hS : Sli encMem 19 w a cc ms) (hdis : ∀ k, ownsC a cc k → ¬ F k) (hm : memsOK ms = true) (hf : pFirst p < p.vs.length) : CallV Try.prog 36 #[.pointer (some ⟨b, 0, none⟩), .slice a ms.length cc] w fun r w' => ∃ F2 R', r = .tuple #[i64 (pFirst p : Nat), i64 0] ∧ Upd F w w' ∧ RPool w' F2 b c (pReserve c p ms) R' ∧ ∀ k, F2 k → F k ∨ w.heap.size ≤ k := by
  have hX : Ext w w := Ext.rfl' w
  obtain ⟨csl, hV⟩ := H.vers
  have hBp := H.blk
  have hlen := H.len
  have h16 := H.v64
  have hSl : ∀ k, ownsC a cc k → k < w.heap.size ∧ k ≠ b ∧ k ≠ rx.gl := fun k hk => ⟨hS.lt k hk, fun e => hdis k hk (e ▸ H.fb), fun e => hdis k hk (e ▸ H.fg)⟩
  have hSr := hS
  have hne := H.ne
  obtain ⟨ns, hns⟩ : ∃ n : Nat, c.slots = n := ⟨c.slots.toNat, by have := H.ok.slots; omega⟩
  have hns2 : c.slots.toNat = ns := by omega
  have hsb := H.ok.slots
  have hlt0 := H.lt
  obtain ⟨v0, hv0, hs0⟩ := H.li
  have hlil := (List.getElem?_eq_some_iff.1 hv0).1
  obtain ⟨r0, hr0⟩ : ∃ r, rx.rvs[rx.li]? = some r := ⟨_, List.getElem?_eq_getElem (by omega)⟩
  obtain ⟨-, -, e30, hO0, e50⟩ := H.each _ r0 v0 hr0 hv0
  rw [hs0] at hO0 e30
  have en0 : Value.slice r0.a r0.n r0.c = .slice r0.a p.sl.length r0.c := by rw [e30]
  have hml := memsOK_len hm
  refine Calls.of_W (N := 64) Try.func36 rfl rfl rfl ?_
  refine W.reg ?_
  refine WL.y (R.asg (v := .int _ _) rfl) rfl ?_
  refine WL.y (R.asg (v := .int _ _) rfl) rfl ?_
  refine WL.nil ?_
  refine W.seq ?_
  refine W.reg ?_
  refine WL.y (R.mv (v := .slice _ _ _) rfl) rfl ?_
  refine WL.call Try.func121 rfl rfl ((refMembers_calls ms (by have := memsOK_len hm; omega) a cc _ hS).val (y := bl true) (by rw [hm])) rfl rfl ?_
  rintro _ w1 ⟨rfl, hx1⟩
  have hz1 := hx1.size
  replace hX := hX.tr hx1
  replace hBp := hx1.blk hBp
  replace hV := hV.ext hx1
  replace hS := hS.ext hx1
  refine WL.y (R.notT rfl) rfl ?_
  refine WL.nil ?_
  refine W.cond_f rfl ?_
  refine W.skip ?_
  refine W.seq ?_
  refine W.reg ?_
  refine WL.y (R.asg (v := .int _ _) rfl) rfl ?_
  refine WL.nil ?_
  refine W.block ?_
  refine W.loopS (ι := Nat) [(4, 9), (12, 64)] (fun v => [(6, i64 (v : Nat))]) (fun v => p.vs.length - v) (fun v w' => Ext w w' ∧ v ≤ p.vs.length ∧ ∀ j, j < v → pLive p (j : Nat) = true) 0 ⟨rfl, trivial⟩ ⟨hX, Nat.zero_le _, fun j hj => absurd hj (by omega)⟩ ?_
  rintro v j wl ⟨hX, hv, hall⟩
  have hBp := hX.blk H.blk
  refine W.seq ?_
  refine W.reg ?_
  refine WL.y (R.mv (v := .int _ _) rfl) rfl ?_
  refine WL.y (R.mv (v := .pointer _) rfl) rfl ?_
  refine WL.y (R.nilCheck rfl) rfl ?_
  refine WL.y (R.fieldAddr fo75_1 rfl) rfl ?_
  refine WL.y (R.load sca73 rfl (hBp).r rfl) rfl ?_
  refine WL.y (R.lenS Try.underlying73 rfl) rfl ?_
  refine WL.fork (R.lss rfl rfl) rfl (fun hc4_6 => ?_) (fun hc4_6 => ?_)
  · skip
    replace hc4_6 := of_decide_eq_true hc4_6
    refine WL.nil ?_
    refine W.cond_t rfl ?_
    refine W.skip ?_
    refine W.seq ?_
    refine W.block ?_
    refine W.seq ?_
    refine W.reg ?_
    refine WL.y (R.mv (v := .pointer _) rfl) rfl ?_
    refine WL.y (R.mv (v := .int _ _) rfl) rfl ?_
    refine WL.call Try.func124 rfl rfl (CallV.fork (rlive_calls F b c p rx _ (H.ext hX) (v : Nat))) rfl rfl ?_
    rintro _ w2 (⟨hc6_2, rfl, hx2⟩ | ⟨hc6_2, rfl, hx2⟩)
    · skip
      have hz2 := hx2.size
      replace hX := hX.tr hx2
      replace hBp := hx2.blk hBp
      refine WL.nil ?_
      refine W.cond_t rfl ?_
      refine W.exit ?_
      refine W.region ?_
      refine WL.y (R.mv (v := .int _ _) rfl) rfl ?_
      refine WL.y (R.addI rfl rfl (by omega)) rfl ?_
      refine WL.y (R.asg (v := .int _ _) rfl) rfl ?_
      refine WL.nil ?_
      exact ⟨v + 1, (by omega), (by repeat (first | exact Same.rfl' _ _ | refine Same.set _ rfl ?_ | refine Same.over' _ rfl ?_ | refine Same.sets rfl ?_)), ⟨rfl, trivial⟩, rfl, hX, by omega, fun j hj => by rcases Nat.lt_or_ge j v with h | h; exact hall j h; (obtain rfl : j = v := by omega); exact hc6_2⟩
    · skip
      have hz2 := hx2.size
      replace hX := hX.tr hx2
      replace hBp := hx2.blk hBp
      refine WL.nil ?_
      refine W.cond_f rfl ?_
      refine W.skip ?_
      refine W.seq ?_
      have hpf := pFirst_eq hv hall hc6_2
      replace hBp := hX.blk H.blk
      obtain ⟨csl2, hV2⟩ := H.vers
      replace hV := hV2.ext hX
      replace hS := hSr.ext hX
      have hXs := hX.size
      have hz0 := H.lt _ H.fb
      have hz1 := H.lt _ H.fg
      have hU : Upd F w w2 := hX.upd _
      have hUP : Upd (fun k => k = b ∨ k = rx.gl) w w2 := hX.upd _
      refine W.draw (fun j => [17].contains j) (fun wI => Ext w2 wI) rfl ?_
      have hI3 := Ext.dr w2
      refine WA.batch [0, 1, 2, 3, 4, 5, 6, 7, 8, 9, 10, 11, 12, 13, 14, 15, 16] 6 (by kernel_rfl) hI3 ?_
      refine QL.y (fun wq hq => (R.mv (v := .pointer _) rfl)) rfl ?_
      refine QL.y (fun wq hq => (R.nilCheck rfl)) rfl ?_
      refine QL.y (fun wq hq => (R.fieldAddr fo75_1 rfl)) rfl ?_
      refine QL.y (fun wq hq => (R.load sca73 rfl (hq.blkR (hBp).r) rfl)) rfl ?_
      refine QL.y (fun wq hq => (R.mv (v := .pointer _) rfl)) rfl ?_
      refine QL.y (fun wq hq => (R.nilCheck rfl)) rfl ?_
      refine QL.y (fun wq hq => (R.fieldAddr fo75_3 rfl)) rfl ?_
      refine QL.y (fun wq hq => (R.load sca3 rfl (hq.blkR (hBp).r) rfl)) rfl ?_
      refine QL.y (fun wq hq => (R.indexS Try.underlying73 siz211 rfl rfl rfl (by omega))) rfl ?_
      refine QL.y (fun wq hq => (R.fieldAddr fo211_3 rfl)) rfl ?_
      refine QL.y (fun wq hq => (R.load sca81 rfl (hq.blkR (hV.blk).r) ((hV.cell encRE hr0 (j := 3) (by decide)).trans (congrArg some en0)))) rfl ?_
      refine QL.y (fun wq hq => (R.mv (v := .slice _ _ _) rfl)) rfl ?_
      refine QL.y (fun wq hq => (R.mv (v := .pointer _) rfl)) rfl ?_
      refine QL.y (fun wq hq => (R.nilCheck rfl)) rfl ?_
      refine QL.y (fun wq hq => (R.fieldAddr fo75_0 rfl)) rfl ?_
      refine QL.y (fun wq hq => (R.fieldAddr fo33_5 rfl)) rfl ?_
      refine QL.y (fun wq hq => (R.load sca3 rfl (hq.blkR (hBp).r) rfl)) rfl ?_
      refine QL.nil ?_
      have hD3 := Ext.dr w2
      have hD3z := hD3.size
      replace hUP := hUP.tr (hD3.upd _)
      replace hU := hU.tr (hD3.upd _)
      replace hBp := hD3.blk hBp
      replace hV := hV.ext hD3
      replace hS := hS.ext hD3
      refine WA.one 17 5 (by kernel_rfl) ?_
      refine WL.call (vs := [.slice r0.a p.sl.length r0.c, .slice a ms.length cc, i64 ((ns : Nat) : Int)]) Try.func122 rfl rfl (refFill_calls p.sl ms ns r0.a a r0.c cc _ (hO0.upd hUP (fun k hk hs => by have := e50 k hk; omega)) hS (by omega) hm (by rw [← hns2]; exact H.s0)) (by rw [← hns]; rfl) rfl ?_
      rintro _ w4 ⟨⟨aF, cF, rfl, hSF, hoF⟩, hx4⟩
      have hz4 := hx4.size
      have hUsz := hU.size
      replace hUP := hUP.tr (hx4.upd _)
      replace hU := hU.tr (hx4.upd _)
      replace hBp := hx4.blk hBp
      replace hV := hV.ext hx4
      replace hS := hS.ext hx4
      have hoFl : ∀ k, ownsC aF cF k → w.heap.size ≤ k ∧ k < w4.heap.size := fun k hk => ⟨by have := hoF k hk.1; omega, hSF.lt k hk⟩
      refine WL.nil ?_
      refine ⟨fun h => (by cases h), ?_⟩
      refine WA.pures [18, 19, 20, 21, 22] 0 (by kernel_rfl) ?_
      refine QL.y (fun wq hq => (R.mv (v := .tuple _) rfl)) rfl ?_
      refine QL.y (fun wq hq => (R.extract rfl rfl)) rfl ?_
      refine QL.y (fun wq hq => (R.extract rfl rfl)) rfl ?_
      refine QL.y (fun wq hq => (R.asg (v := .slice _ _ _) rfl)) rfl ?_
      refine QL.y (fun wq hq => (R.asg (v := .int _ _) rfl)) rfl ?_
      refine QL.nil ?_
      refine WA.done (by kernel_rfl) ?_
      refine W.reg ?_
      refine WL.y (R.mv (v := .pointer _) rfl) rfl ?_
      refine WL.y (R.nilCheck rfl) rfl ?_
      refine WL.y (R.fieldAddr fo75_1 rfl) rfl ?_
      refine WL.y (R.load sca73 rfl (hBp).r rfl) rfl ?_
      refine WL.y (R.mv (v := .int _ _) rfl) rfl ?_
      refine WL.y (R.mv (v := .slice _ _ _) rfl) rfl ?_
      refine WL.y (R.buildP (parts := [(0, .const (.bool true)), (1, .const (.bool true)), (3, .tmp 50)]) (ps := [(0, (.bool true)), (1, (.bool true)), (3, .slice _ _ _)]) bld211 rfl rfl) rfl ?_
      refine WL.y (R.indexS Try.underlying73 siz211 rfl rfl rfl (by omega)) rfl ?_
      refine WL.store (v := .agg _) siz211 rfl rfl rfl rfl hV.blk (hV.bound (by first | omega | (simp; omega))) rfl rfl ?_
      intro w5 hu5 hz5 hn5
      replace hUP := hUP.tr (hu5.mono (fun k _ hk => by subst hk; first | exact .inl rfl | exact .inr rfl))
      replace hU := hU.tr (hu5.mono (fun k _ hk => by subst hk; first | exact H.fb | exact H.fg))
      replace hBp := hu5.blk (by omega) hBp
      replace hS := hS.updB hu5 (fun k hk => by first | (have := (hSl) k hk; omega) | (have := (hSl) k hk.1; omega))
      replace hSF := hSF.updB hu5 (fun k hk => by first | (have := (hoFl) k hk; omega) | (have := (hoFl) k hk.1; omega))
      replace hV := hV.put encRE (by first | omega | (simp; omega)) (⟨true, true, 0, aF, (fill p.sl ms ns).length, cF⟩ : RR) hn5; clear hn5
      refine WL.nil ?_
      refine W.reg ?_
      refine WL.y (R.mv (v := .pointer _) rfl) rfl ?_
      refine WL.y (R.mv (v := .int _ _) rfl) rfl ?_
      refine WL.y (R.nilCheck rfl) rfl ?_
      refine WL.y (R.fieldAddr fo75_3 rfl) rfl ?_
      refine WL.store1 (v := .int _ _) sca3 rfl rfl rfl hBp (Nat.le_of_ble_eq_true rfl) rfl ?_
      intro w6 hu6 hz6 hn6
      replace hUP := hUP.tr (hu6.mono (fun k _ hk => by subst hk; first | exact .inl rfl | exact .inr rfl))
      replace hU := hU.tr (hu6.mono (fun k _ hk => by subst hk; first | exact H.fb | exact H.fg))
      replace hV := hV.updB hu6 (by omega)
      replace hS := hS.updB hu6 (fun k hk => by first | (have := (hSl) k hk; omega) | (have := (hSl) k hk.1; omega))
      replace hSF := hSF.updB hu6 (fun k hk => by first | (have := (hoFl) k hk; omega) | (have := (hoFl) k hk.1; omega))
      replace hBp := hn6; clear hn6
      refine WL.nil ?_
      refine W.reg ?_
      refine WL.y (R.mv (v := .pointer _) rfl) rfl ?_
      have hszB := hU.size
      have hltF := hSF.lt
      have hltS := hS.lt
      refine WL.buildSlice0 el52_57 (by decide) rfl ?_
      intro b7 w7 hb7 hs7 hx7 hB7
      replace hUP := hUP.tr (hx7.upd _)
      replace hU := hU.tr (hx7.upd _)
      replace hBp := hx7.blk hBp
      replace hV := hV.ext hx7
      replace hS := hS.ext hx7
      replace hSF := hSF.ext hx7
      refine WL.y (R.mv (v := .slice _ _ _) rfl) rfl ?_
      refine WL.appendS (xs := []) el52_57 encM rfl rfl (Slw.zero hB7) rfl hS rfl (by omega) (by omega) rfl ?_
      intro aM cM w8 hu8 hsl8 hf8
      have hno : ∀ k, k < w.heap.size → ¬ owns (some ⟨b7, 0, none⟩) k := fun k hk h => by rw [owns_some] at h; simp only at h; omega
      have hoM : ∀ k, owns aM k → w.heap.size ≤ k := own_step (fun k hk => by rw [owns_some] at hk; simp only at hk; omega) hf8 (fun k hk => by omega)
      rw [show (0 : Nat) + ms.length = ms.length from Nat.zero_add _]
      replace hUP := hUP.tr' hu8 (fun k h1 h2 => absurd h2 (hno k h1))
      replace hU := hU.tr' hu8 (fun k h1 h2 => absurd h2 (hno k h1))
      replace hBp := hu8.blk (hno _ hz0) hBp
      replace hV := hV.upd hu8 (hno _ hz1)
      replace hSF := hSF.upd hu8 (fun k hk h => by rw [owns_some] at h; simp only at h; have := hltF k hk; omega)
      have hSM : Sli encMem 19 w8 aM cM ms := hsl8.ro
      have hoMl : ∀ k, ownsC aM cM k → w.heap.size ≤ k ∧ k < w8.heap.size := fun k hk => ⟨hoM k hk.1, hSM.lt k hk⟩
      refine WL.y (R.nilCheck rfl) rfl ?_
      refine WL.y (R.fieldAddr fo75_4 rfl) rfl ?_
      refine WL.store1 (v := .slice _ _ _) sca52 rfl rfl rfl hBp (Nat.le_of_ble_eq_true rfl) rfl ?_
      intro w9 hu9 hz9 hn9
      replace hUP := hUP.tr (hu9.mono (fun k _ hk => by subst hk; first | exact .inl rfl | exact .inr rfl))
      replace hU := hU.tr (hu9.mono (fun k _ hk => by subst hk; first | exact H.fb | exact H.fg))
      replace hV := hV.updB hu9 (by omega)
      replace hSF := hSF.updB hu9 (fun k hk => by first | (have := (hoFl) k hk; omega) | (have := (hoFl) k hk.1; omega))
      replace hSM := hSM.updB hu9 (fun k hk => by first | (have := (hoMl) k hk; omega) | (have := (hoMl) k hk.1; omega))
      replace hBp := hn9; clear hn9
      refine WL.nil ?_
      refine W.reg ?_
      refine WL.y (R.mv (v := .int _ _) rfl) rfl ?_
      refine WL.y (R.asg (v := .int _ _) rfl) rfl ?_
      refine WL.y (R.asg (v := .int _ _) rfl) rfl ?_
      refine WL.nil ?_
      refine W.ret ?_
      have hF2lt : ∀ k, (F k ∨ (w.heap.size ≤ k ∧ k < w9.heap.size)) → k < w9.heap.size := fun k hk => by rcases hk with h | h; exact Nat.lt_of_lt_of_le (hlt0 k h) hU.size; exact h.2
      have hfl := fill_le (old := p.sl) (ms := ms) (n := ns) (by omega) hm
      have hh := H.turn hUP (F' := fun k => F k ∨ (w.heap.size ≤ k ∧ k < w9.heap.size)) (fun k h => .inl h) hF2lt (k := v) (v' := ⟨fill p.sl ms ns, 0, true⟩) (now' := p.now) (last' := ms) (sl' := fill p.sl ms ns) (li' := v) (by omega) hBp ⟨_, hV⟩ ⟨rfl, rfl, rfl, hSF, fun j hj => ⟨.inr ⟨by have := hoF j hj.1; omega, hSF.lt j hj⟩, by have := hoF j hj.1; omega, by have := hoF j hj.1; omega⟩⟩
        hSM (fun j hj => ⟨.inr ⟨hoM j hj.1, hSM.lt j hj⟩, by have := hoM j hj.1; omega, by have := hoM j hj.1; omega⟩)
        hml hfl (by rw [hns2]; by_cases h0 : ms.length = 0; exact .inl (by simp [fill, h0]); exact .inr (fill_length (by omega) hm (by omega))) H.nn ⟨_, List.getElem?_set_self (by omega), rfl⟩
      exact PR.r2 rfl (.tmp rfl) (.tmp rfl) ⟨_, _, by rw [hpf]; rfl, hU, by simp only [pReserve, hns2, hpf]; exact hh, fun k hk => by rcases hk with h | h; exact .inl h; exact .inr h.1⟩
  · skip
    replace hc4_6 := of_decide_eq_false hc4_6
    refine WL.nil ?_
    refine W.cond_f rfl ?_
    refine W.exit ?_
    refine W.reg ?_
    refine WL.y (R.asg (v := .int _ _) rfl) rfl ?_
    refine WL.y (R.asg (v := .int _ _) rfl) rfl ?_
    refine WL.nil ?_
    refine W.ret ?_
    obtain rfl : v = p.vs.length := by omega
    have hpf := pFirst_eq (Nat.le_refl _) hall (pLive_big (by omega))
    omega
end Go.Proofs.Ytkjecokkdbapkaa

namespace Go.Proofs.Ytkjecokkdbapkaa
set_option linter.all false
open Go Go.Eng Go.RowKit
set_option maxRecDepth 20000
set_option maxHeartbeats 2000000
set_option linter.unusedVariables false
set_option linter.unusedSimpArgs false
attribute [local irreducible] WL W QL WA SP

def zc75 : List Value := [.int .i64 0, .int .i64 0, .int .i64 0, .int .i64 0, .int .i64 0, .int .i64 0, .int .i64 0, .int .i64 0, .int .i64 0, .int .i64 0, .int .i64 0, .int .i64 0, .bool false, .bool false, .int .u8 0, .int .u8 0, .int .u8 0, .int .u8 0, .int .u8 0, .int .u8 0, .int .u8 0, .int .u8 0, .int .u8 0, .int .u8 0, .int .u8 0, .int .u8 0, .int .u8 0, .int .u8 0, .int .u8 0, .int .u8 0, .bool false, .int .u8 0, .int .u8 0, .int .u8 0, .int .u8 0, .int .u8 0, .int .u8 0, .int .u8 0, .int .u8 0, .int .u8 0, .int .u8 0, .int .u8 0, .int .u8 0, .int .u8 0, .int .u8 0, .int .u8 0, .int .u8 0, .int .u32 0, .slice none 0 0, .int .i64 0, .int .i64 0, .slice none 0 0]
def pl75 : Nat → Option (Nat × Nat) := fun i => (#[(0, 48), (48, 1), (49, 1), (50, 1), (51, 1)] : Array (Nat × Nat))[i]?
theorem bld75 : Bld Try.prog 75 pl75 zc75 := ⟨_, fun parts w => by
  simp only [pl75, Instr.build, Sem.run_bind, Try.zeroValue75, Try.runUnderlying75, Result.andThen_ok, List.mapM_toArray, List.mapM_cons, List.mapM_nil, Try.sizeOf3, Try.sizeOf33, Try.sizeOf52, Try.sizeOf73, Sem.run_pure, Sem.run_map]
  rfl⟩

theorem Star.raiseAt {U : Nat → Prop} {w : World} {L1 L2 : List Asr} {A : Asr} (h : Star U w (L1 ++ A :: L2)) : Star U w (A :: (L1 ++ L2)) := ⟨h.new, h.sep.out⟩

theorem _root_.Go.Eng.Star.raise1 {U : Nat → Prop} {w : World} {L : List Asr} {A0 A : Asr} (h : Star U w (A0 :: A :: L)) : Star U w (A :: A0 :: L) := Star.raiseAt (L1 := [A0]) h

theorem _root_.Go.Eng.Star.raise2 {U : Nat → Prop} {w : World} {L : List Asr} {A0 A1 A : Asr} (h : Star U w (A0 :: A1 :: A :: L)) : Star U w (A :: A0 :: A1 :: L) := Star.raiseAt (L1 := [A0, A1]) h

theorem _root_.Go.Eng.Star.raise3 {U : Nat → Prop} {w : World} {L : List Asr} {A0 A1 A2 A : Asr} (h : Star U w (A0 :: A1 :: A2 :: A :: L)) : Star U w (A :: A0 :: A1 :: A2 :: L) := Star.raiseAt (L1 := [A0, A1, A2]) h

theorem _root_.Go.Eng.Star.raise4 {U : Nat → Prop} {w : World} {L : List Asr} {A0 A1 A2 A3 A : Asr} (h : Star U w (A0 :: A1 :: A2 :: A3 :: A :: L)) : Star U w (A :: A0 :: A1 :: A2 :: A3 :: L) := Star.raiseAt (L1 := [A0, A1, A2, A3]) h

theorem _root_.Go.Eng.Star.raise5 {U : Nat → Prop} {w : World} {L : List Asr} {A0 A1 A2 A3 A4 A : Asr} (h : Star U w (A0 :: A1 :: A2 :: A3 :: A4 :: A :: L)) : Star U w (A :: A0 :: A1 :: A2 :: A3 :: A4 :: L) := Star.raiseAt (L1 := [A0, A1, A2, A3, A4]) h

theorem newapart {U : Nat → Prop} {w : World} {L : List Asr} {aS aM : Option Addr} {cS cM bp gl nv : Nat} {ds : List Dip} {ms : List Mem} {cells : List Value} {rs : List RR}
    (h : Star U w (sliA encDip 18 aS cS ds :: boxA bp cells :: slwA encMem 19 aM cM ms :: slwA encR 4 (some ⟨gl, 0, none⟩) nv rs :: L)) :
    (∀ k, ownsC aS cS k → U k ∧ k ≠ bp ∧ k ≠ gl) ∧ (∀ k, ownsC aM cM k → U k ∧ k ≠ bp ∧ k ≠ gl) ∧ bp ≠ gl ∧ U bp ∧ U gl := by
  obtain ⟨-, FS, ⟨-, rfl⟩, hSU, FP, ⟨-, rfl⟩, hPU, FM, ⟨-, rfl⟩, hMU, FV, ⟨-, rfl⟩, hVU, -⟩ := h
  have hb := hPU bp rfl
  have hg := hVU gl ((owns_some _ _).2 rfl)
  exact ⟨fun k hk => ⟨hSU k hk, fun e => hb.2 (e ▸ hk), fun e => hg.1.1.2 (e ▸ hk)⟩, fun k hk => ⟨(hMU k hk.1).1.1, fun e => (hMU k hk.1).2 e, fun e => hg.2 (e ▸ hk.1)⟩, fun e => hg.1.2 e.symm, hb.1, hg.1.1.1⟩

theorem rNew_bad (c : Cfg) (hc : CfgOK c) (ms : List Mem) (h63 : ms.length ≤ 1000000000) (a : Option Addr) (cc : Nat) (w : World) (hM : Sli encMem 19 w a cc ms) (hm : memsOK ms = false) : CallV Try.prog 33 #[.agg (encCfg c).toArray, .slice a ms.length cc] w fun v w' => v = .pointer none ∧ Ext w w' := by
  have hX : Ext w w := Ext.rfl' w
  have hU : ∀ k, (fun k => w.heap.size ≤ k) k → w.heap.size ≤ k := fun _ h => h
  have hS : Star (fun k => w.heap.size ≤ k) w [] := Star.nil fun _ h => h
  generalize (fun k => w.heap.size ≤ k) = U at hU hS
  refine Calls.of_W (N := 40) Try.func33 rfl rfl rfl ?_
  refine W.reg ?_
  refine WL.box (v := .agg _) rfl rfl rfl ?_
  intro b1 w1 hb1 hs1 hx1 hB1
  replace hS := hS.pushBox hb1 hx1 hB1
  replace hX := hX.tr hx1
  clear hB1 hs1
  refine WL.y (R.asg (v := .pointer _) rfl) rfl ?_
  refine WL.nil ?_
  refine W.seq ?_
  refine W.reg ?_
  refine WL.y (R.loadA agg33 rfl (hS.blk0).r rfl rfl) rfl ?_
  refine WL.call Try.func120 rfl rfl ((refCheck_calls c hc _).val (y := bl true) rfl) rfl rfl ?_
  rintro _ w2 ⟨rfl, hx2⟩
  replace hS := hS.ext hx2
  replace hX := hX.tr hx2
  refine WL.y (R.notT rfl) rfl ?_
  refine WL.y (R.mv (v := .bool false) rfl) rfl ?_
  refine WL.y (R.mv (v := .slice _ _ _) rfl) rfl ?_
  refine WL.call Try.func121 rfl rfl ((refMembers_calls ms (by omega) a cc _ (hM.ext hX)).val (y := bl false) (by rw [hm])) rfl rfl ?_
  rintro _ w3 ⟨rfl, hx3⟩
  replace hS := hS.ext hx3
  replace hX := hX.tr hx3
  refine WL.y (R.notF rfl) rfl ?_
  refine WL.y (R.pkF (v := .bool true) rfl rfl) rfl ?_
  refine WL.nil ?_
  refine W.cond_t rfl ?_
  refine W.reg ?_
  refine WL.y (R.asg (v := .pointer _) rfl) rfl ?_
  refine WL.nil ?_
  refine W.ret ?_
  exact PR.r1 rfl (.tmp rfl) ⟨rfl, hX⟩

theorem rNew_good (c : Cfg) (hc : CfgOK c) (ms : List Mem) (h63 : ms.length ≤ 1000000000) (a : Option Addr) (cc : Nat) (w : World) (hM : Sli encMem 19 w a cc ms) (hm : memsOK ms = true) : CallV Try.prog 33 #[.agg (encCfg c).toArray, .slice a ms.length cc] w fun v w' => (∃ b R', v = .pointer (some ⟨b, 0, none⟩) ∧ w.heap.size ≤ b ∧ RPool w' (fun k => w.heap.size ≤ k ∧ k < w'.heap.size) b c (pNew c ms) R') ∧ Ext w w' := by
  have hX : Ext w w := Ext.rfl' w
  have hU : ∀ k, (fun k => w.heap.size ≤ k) k → w.heap.size ≤ k := fun _ h => h
  have hS : Star (fun k => w.heap.size ≤ k) w [] := Star.nil fun _ h => h
  generalize (fun k => w.heap.size ≤ k) = U at hU hS
  obtain ⟨ns, hns⟩ : ∃ n : Nat, c.slots = n := ⟨c.slots.toNat, by have := hc.slots; omega⟩
  obtain ⟨nv, hnv⟩ : ∃ n : Nat, c.versions = n := ⟨c.versions.toNat, by have := hc.versions; omega⟩
  have hns2 : c.slots.toNat = ns := by omega
  have hnv2 : c.versions.toNat = nv := by omega
  have hvb := hc.versions
  have hsb := hc.slots
  have hml := memsOK_len hm
  refine Calls.of_W (N := 40) Try.func33 rfl rfl rfl ?_
  refine W.reg ?_
  refine WL.box (v := .agg _) rfl rfl rfl ?_
  intro b1 w1 hb1 hs1 hx1 hB1
  replace hS := hS.pushBox hb1 hx1 hB1
  replace hX := hX.tr hx1
  clear hB1 hs1
  refine WL.y (R.asg (v := .pointer _) rfl) rfl ?_
  refine WL.nil ?_
  refine W.seq ?_
  refine W.reg ?_
  refine WL.y (R.loadA agg33 rfl (hS.blk0).r rfl rfl) rfl ?_
  refine WL.call Try.func120 rfl rfl ((refCheck_calls c hc _).val (y := bl true) rfl) rfl rfl ?_
  rintro _ w2 ⟨rfl, hx2⟩
  replace hS := hS.ext hx2
  replace hX := hX.tr hx2
  refine WL.y (R.notT rfl) rfl ?_
  refine WL.y (R.mv (v := .bool false) rfl) rfl ?_
  refine WL.y (R.mv (v := .slice _ _ _) rfl) rfl ?_
  refine WL.call Try.func121 rfl rfl ((refMembers_calls ms (by omega) a cc _ (hM.ext hX)).val (y := bl true) (by rw [hm])) rfl rfl ?_
  rintro _ w3 ⟨rfl, hx3⟩
  replace hS := hS.ext hx3
  replace hX := hX.tr hx3
  refine WL.y (R.notT rfl) rfl ?_
  refine WL.y (R.pkF (v := .bool false) rfl rfl) rfl ?_
  refine WL.nil ?_
  refine W.cond_f rfl ?_
  refine W.skip ?_
  refine W.seqX (ι := Nat × Nat × Option Addr × Nat) [(5, 6), (16, 25)] (fun q => [(5, .pointer (some ⟨q.1, 0, none⟩))]) (fun q w' => (True) ∧ Ext w w' ∧ Star U w' [boxA q.1 (encCfg c ++ [.slice (some ⟨q.2.1, 0, none⟩) nv nv, i64 0, i64 0, .slice q.2.2.1 ms.length q.2.2.2]), slwA encMem 19 q.2.2.1 q.2.2.2 ms, slwA encR 4 (some ⟨q.2.1, 0, none⟩) nv (List.replicate nv rr0), boxA b1 (encCfg c)]) ?_ ?_
  · skip
    refine W.draw (fun j => [1000].contains j) (fun wI => Ext w3 wI) rfl ?_
    have hI4 := Ext.dr w3
    refine WA.batch [0, 1, 2, 5] 6 (by kernel_rfl) hI4 ?_
    refine QL.y (fun wq hq => (R.loadA agg33 rfl (hq.blkR (hS.blk0).r) rfl rfl)) rfl ?_
    refine QL.y (fun wq hq => (R.fieldAddr fo33_6 rfl)) rfl ?_
    refine QL.y (fun wq hq => (R.load sca3 rfl (hq.blkR (hS.blk0).r) rfl)) rfl ?_
    refine QL.y (fun wq hq => (R.mv (v := .slice _ _ _) rfl)) rfl ?_
    refine QL.nil ?_
    have hD4 := Ext.dr w3
    have hD4z := hD4.size
    have hS0 := hS
    have hXo := hX
    replace hS := hS.ext hD4
    replace hX := hX.tr hD4
    refine WA.both 3 4 5 (by kernel_rfl) ?_ ?_
    · skip
      have hX0 := hX
      have hIz5 := hI4.size
      refine WL.makeSlice el73_211 (congrArg (Value.int .i64) hnv) (congrArg (Value.int .i64) hnv) (by omega) (by omega) rfl ?_
      intro b5 w5 hb5 hs5 hx5 hB5
      have hL5 := (SlO.made encRE rr0 rfl hB5).cl
      replace hS := hS.pushSlw hx5 hL5 (fun k hk => by rw [owns_some] at hk; simp only at hk; omega)
      replace hX := hX.tr hx5
      clear hL5 hB5 hs5
      refine WL.nil ?_
      refine ⟨fun _ h => h.tr hx5, ?_⟩
      replace hI4 := hI4.tr hx5
      clear hX0
      refine WA.one 4 4 (by kernel_rfl) ?_
      have hX0 := hX
      have hIz6 := hI4.size
      refine WL.buildSlice0 el52_57 (by decide) rfl ?_
      intro b6 w6 hb6 hs6 hx6 hB6
      have hL6 : Slw encMem 19 w6 (some ⟨b6, 0, none⟩) 0 [] := Slw.zero hB6
      replace hS := hS.pushSlw hx6 hL6 (fun k hk => by rw [owns_some] at hk; simp only at hk; omega)
      replace hX := hX.tr hx6
      clear hL6 hB6 hs6
      refine WL.nil ?_
      refine ⟨fun _ h => h.tr hx6, ?_⟩
      replace hI4 := hI4.tr hx6
      clear hX0
      refine WA.one 6 3 (by kernel_rfl) ?_
      have hX0 := hX
      have hIz7 := hI4.size
      refine WL.appendS el52_57 encM rfl rfl (hS.slw0) (by first | rfl | omega | (simp; done) | (simp; omega)) (hM.ext hX) (by first | rfl | omega | (simp; done) | (simp; omega)) (by first | omega | (simp; omega)) (by first | omega | (simp; omega)) rfl ?_
      intro a7 c7 w7 hu7 hl7 hf7
      have hxa7 := hI4.putU hu7 (fun k hk => by rw [owns_some] at hk; simp only at hk; omega)
      have hN := hS.app0 hu7 hl7 hf7
      replace hS := hN.1
      replace hX := hN.2 _ hX hU
      clear hN hu7 hl7 hf7
      refine WL.nil ?_
      refine ⟨fun _ _ => hxa7, ?_⟩
      replace hI4 := hxa7
      clear hX0
      refine WA.pures [7] 2 (by kernel_rfl) ?_
      refine QL.y (fun wq hq => (R.buildE (parts := [(0, .tmp 16), (1, .tmp 19), (4, .tmp 22)]) (vs := encCfg c ++ [.slice (some ⟨b5, 0, none⟩) nv nv, i64 0, i64 0, .slice a7 (0 + ms.length) c7]) bld75 (by kernel_rfl) (by kernel_rfl))) rfl ?_
      refine QL.nil ?_
      refine WA.one 8 1 (by kernel_rfl) ?_
      have hX0 := hX
      have hIz8 := hI4.size
      refine WL.box (v := .agg _) rfl rfl rfl ?_
      intro b8 w8 hb8 hs8 hx8 hB8
      replace hS := hS.pushBox hb8 hx8 hB8
      replace hX := hX.tr hx8
      clear hB8 hs8
      refine WL.nil ?_
      refine ⟨fun _ h => h.tr hx8, ?_⟩
      replace hI4 := hI4.tr hx8
      clear hX0
      refine WA.pures [9] 0 (by kernel_rfl) ?_
      refine QL.y (fun wq hq => (R.asg (v := .pointer _) rfl)) rfl ?_
      refine QL.nil ?_
      refine WA.done (by kernel_rfl) ?_
      rw [show (0 : Nat) + ms.length = ms.length from Nat.zero_add _] at hS
      exact ⟨⟨b8, b5, a7, c7⟩, (by repeat (first | exact Same.rfl' _ _ | refine Same.set _ rfl ?_ | refine Same.over' _ rfl ?_ | refine Same.sets rfl ?_)), ⟨rfl, trivial⟩, rfl, trivial, hX, hS⟩
    · skip
      have hX0 := hX
      have hIz9 := hI4.size
      refine WL.buildSlice0 el52_57 (by decide) rfl ?_
      intro b9 w9 hb9 hs9 hx9 hB9
      have hL9 : Slw encMem 19 w9 (some ⟨b9, 0, none⟩) 0 [] := Slw.zero hB9
      replace hS := hS.pushSlw hx9 hL9 (fun k hk => by rw [owns_some] at hk; simp only at hk; omega)
      replace hX := hX.tr hx9
      clear hL9 hB9 hs9
      refine WL.nil ?_
      refine ⟨fun _ h => h.tr hx9, ?_⟩
      replace hI4 := hI4.tr hx9
      clear hX0
      refine WA.both 3 6 4 (by kernel_rfl) ?_ ?_
      · skip
        have hX0 := hX
        have hIz10 := hI4.size
        refine WL.makeSlice el73_211 (congrArg (Value.int .i64) hnv) (congrArg (Value.int .i64) hnv) (by omega) (by omega) rfl ?_
        intro b10 w10 hb10 hs10 hx10 hB10
        have hL10 := (SlO.made encRE rr0 rfl hB10).cl
        replace hS := hS.pushSlw hx10 hL10 (fun k hk => by rw [owns_some] at hk; simp only at hk; omega)
        replace hX := hX.tr hx10
        clear hL10 hB10 hs10
        refine WL.nil ?_
        refine ⟨fun _ h => h.tr hx10, ?_⟩
        replace hI4 := hI4.tr hx10
        clear hX0
        refine WA.one 6 3 (by kernel_rfl) ?_
        have hX0 := hX
        have hIz11 := hI4.size
        refine WL.appendS el52_57 encM rfl rfl (hS.slw1) (by first | rfl | omega | (simp; done) | (simp; omega)) (hM.ext hX) (by first | rfl | omega | (simp; done) | (simp; omega)) (by first | omega | (simp; omega)) (by first | omega | (simp; omega)) rfl ?_
        intro a11 c11 w11 hu11 hl11 hf11
        have hxa11 := hI4.putU hu11 (fun k hk => by rw [owns_some] at hk; simp only at hk; omega)
        have hN := hS.app1 hu11 hl11 hf11
        replace hS := hN.1
        replace hX := hN.2 _ hX hU
        clear hN hu11 hl11 hf11
        refine WL.nil ?_
        refine ⟨fun _ _ => hxa11, ?_⟩
        replace hI4 := hxa11
        clear hX0
        refine WA.pures [7] 2 (by kernel_rfl) ?_
        refine QL.y (fun wq hq => (R.buildE (parts := [(0, .tmp 16), (1, .tmp 19), (4, .tmp 22)]) (vs := encCfg c ++ [.slice (some ⟨b10, 0, none⟩) nv nv, i64 0, i64 0, .slice a11 (0 + ms.length) c11]) bld75 (by kernel_rfl) (by kernel_rfl))) rfl ?_
        refine QL.nil ?_
        refine WA.one 8 1 (by kernel_rfl) ?_
        have hX0 := hX
        have hIz12 := hI4.size
        refine WL.box (v := .agg _) rfl rfl rfl ?_
        intro b12 w12 hb12 hs12 hx12 hB12
        replace hS := hS.pushBox hb12 hx12 hB12
        replace hX := hX.tr hx12
        clear hB12 hs12
        refine WL.nil ?_
        refine ⟨fun _ h => h.tr hx12, ?_⟩
        replace hI4 := hI4.tr hx12
        clear hX0
        refine WA.pures [9] 0 (by kernel_rfl) ?_
        refine QL.y (fun wq hq => (R.asg (v := .pointer _) rfl)) rfl ?_
        refine QL.nil ?_
        refine WA.done (by kernel_rfl) ?_
        rw [show (0 : Nat) + ms.length = ms.length from Nat.zero_add _] at hS
        replace hS := hS.raise3
        replace hS := hS.raise2
        replace hS := hS.raise3
        replace hS := hS.raise3
        exact ⟨⟨b12, b10, a11, c11⟩, (by repeat (first | exact Same.rfl' _ _ | refine Same.set _ rfl ?_ | refine Same.over' _ rfl ?_ | refine Same.sets rfl ?_)), ⟨rfl, trivial⟩, rfl, trivial, hX, hS⟩
      · skip
        have hX0 := hX
        have hIz13 := hI4.size
        refine WL.appendS el52_57 encM rfl rfl (hS.slw0) (by first | rfl | omega | (simp; done) | (simp; omega)) (hM.ext hX) (by first | rfl | omega | (simp; done) | (simp; omega)) (by first | omega | (simp; omega)) (by first | omega | (simp; omega)) rfl ?_
        intro a13 c13 w13 hu13 hl13 hf13
        have hxa13 := hI4.putU hu13 (fun k hk => by rw [owns_some] at hk; simp only at hk; omega)
        have hN := hS.app0 hu13 hl13 hf13
        replace hS := hN.1
        replace hX := hN.2 _ hX hU
        clear hN hu13 hl13 hf13
        refine WL.nil ?_
        refine ⟨fun _ _ => hxa13, ?_⟩
        replace hI4 := hxa13
        clear hX0
        refine WA.one 3 3 (by kernel_rfl) ?_
        have hX0 := hX
        have hIz14 := hI4.size
        refine WL.makeSlice el73_211 (congrArg (Value.int .i64) hnv) (congrArg (Value.int .i64) hnv) (by omega) (by omega) rfl ?_
        intro b14 w14 hb14 hs14 hx14 hB14
        have hL14 := (SlO.made encRE rr0 rfl hB14).cl
        replace hS := hS.pushSlw hx14 hL14 (fun k hk => by rw [owns_some] at hk; simp only at hk; omega)
        replace hX := hX.tr hx14
        clear hL14 hB14 hs14
        refine WL.nil ?_
        refine ⟨fun _ h => h.tr hx14, ?_⟩
        replace hI4 := hI4.tr hx14
        clear hX0
        refine WA.pures [7] 2 (by kernel_rfl) ?_
        refine QL.y (fun wq hq => (R.buildE (parts := [(0, .tmp 16), (1, .tmp 19), (4, .tmp 22)]) (vs := encCfg c ++ [.slice (some ⟨b14, 0, none⟩) nv nv, i64 0, i64 0, .slice a13 (0 + ms.length) c13]) bld75 (by kernel_rfl) (by kernel_rfl))) rfl ?_
        refine QL.nil ?_
        refine WA.one 8 1 (by kernel_rfl) ?_
        have hX0 := hX
        have hIz15 := hI4.size
        refine WL.box (v := .agg _) rfl rfl rfl ?_
        intro b15 w15 hb15 hs15 hx15 hB15
        replace hS := hS.pushBox hb15 hx15 hB15
        replace hX := hX.tr hx15
        clear hB15 hs15
        refine WL.nil ?_
        refine ⟨fun _ h => h.tr hx15, ?_⟩
        replace hI4 := hI4.tr hx15
        clear hX0
        refine WA.pures [9] 0 (by kernel_rfl) ?_
        refine QL.y (fun wq hq => (R.asg (v := .pointer _) rfl)) rfl ?_
        refine QL.nil ?_
        refine WA.done (by kernel_rfl) ?_
        rw [show (0 : Nat) + ms.length = ms.length from Nat.zero_add _] at hS
        replace hS := hS.raise3
        replace hS := hS.raise2
        replace hS := hS.raise3
        replace hS := hS.raise3
        exact ⟨⟨b15, b14, a13, c13⟩, (by repeat (first | exact Same.rfl' _ _ | refine Same.set _ rfl ?_ | refine Same.over' _ rfl ?_ | refine Same.sets rfl ?_)), ⟨rfl, trivial⟩, rfl, trivial, hX, hS⟩
  · skip
    rintro ⟨bp, gl, aM, cM⟩ j1 w_1 ⟨-, hX, hS⟩
    dsimp only at hX hS ⊢
    refine W.reg ?_
    refine WL.y (R.mv (v := .slice _ _ _) rfl) rfl ?_
    refine WL.y (R.fieldAddr fo33_5 rfl) rfl ?_
    refine WL.y (R.load sca3 rfl (hS.blk3).r rfl) rfl ?_
    refine WL.call (vs := [.slice none 0 0, .slice a ms.length cc, i64 ((ns : Nat) : Int)]) Try.func122 rfl rfl (refFill_calls [] ms ns none a 0 cc _ (Sli.nil _ _ _) (hM.ext hX) (by omega) hm (.inl rfl)) (by rw [← hns]; rfl) rfl ?_
    rintro _ w16 ⟨⟨a16, c16, rfl, hl16, hf16⟩, hx16⟩
    replace hS := hS.pushSli hx16 hl16 hf16
    replace hX := hX.tr hx16
    refine WL.y (R.mv (v := .tuple _) rfl) rfl ?_
    refine WL.y (R.extract rfl rfl) rfl ?_
    refine WL.y (R.extract rfl rfl) rfl ?_
    refine WL.y (R.asg (v := .slice _ _ _) rfl) rfl ?_
    refine WL.y (R.asg (v := .int _ _) rfl) rfl ?_
    refine WL.nil ?_
    refine W.reg ?_
    refine WL.y (R.mv (v := .pointer _) rfl) rfl ?_
    refine WL.y (R.nilCheck rfl) rfl ?_
    refine WL.y (R.fieldAddr fo75_1 rfl) rfl ?_
    refine WL.y (R.load sca73 rfl (hS.blk1).r rfl) rfl ?_
    refine WL.y (R.mv (v := .slice _ _ _) rfl) rfl ?_
    refine WL.y (R.buildE (parts := [(0, .const (.bool true)), (3, .tmp 36)]) (vs := encR ⟨true, false, 0, a16, (fill [] ms ns).length, c16⟩) bld211 (by kernel_rfl) (by kernel_rfl)) rfl ?_
    obtain ⟨cs1, hO1⟩ := (hS.slw3).op2 (by first | omega | (simp; done) | (simp; omega))
    obtain ⟨r, hr_1⟩ : ∃ x_, (List.replicate nv rr0)[0]? = some x_ := ⟨_, List.getElem?_eq_getElem (by first | omega | (simp; done) | (simp; omega))⟩
    refine WL.y (R.indexS (i := 0) Try.underlying73 siz211 rfl rfl rfl (by first | omega | (simp; done) | (simp; omega))) rfl ?_
    refine WL.store (v := .agg _) siz211 rfl rfl rfl rfl hO1.blk (hO1.bound (List.getElem?_eq_some_iff.1 hr_1).1) rfl rfl ?_
    intro w17 hu17 hz17 hn17
    have hQ := hO1.put encRE (List.getElem?_eq_some_iff.1 hr_1).1 (⟨true, false, 0, a16, (fill [] ms ns).length, c16⟩ : RR) hn17
    have hN := hS.app3 (hu17.mono fun k _ h => (owns_some _ k).2 h) hQ.cl (.inl rfl)
    replace hS := hN.1
    replace hX := hN.2 _ hX hU
    clear hN hQ hn17 hu17 hz17
    refine WL.nil ?_
    refine W.reg ?_
    refine WL.y (R.mv (v := .pointer _) rfl) rfl ?_
    refine WL.y (R.asg (v := .pointer _) rfl) rfl ?_
    refine WL.nil ?_
    refine W.ret ?_
    replace hS := hS.raise3
    replace hS := hS.raise3
    replace hS := hS.raise3
    replace hS := hS.raise3
    obtain ⟨hoS, hoM, hne, hub, hug⟩ := newapart hS
    have hBk := hS.blk1
    have hSM := (hS.slw2).ro
    have hSS := hS.sli0
    obtain ⟨csV, hV⟩ := (hS.slw3).op2 (by simp; omega)
    have hvl : (pNew c ms).vs.length = nv := by simp [pNew, hnv2]
    have hsl : (pNew c ms).sl = fill [] ms ns := by simp [pNew, hns2]
    have hRP : RPool w17 (fun k => w.heap.size ≤ k ∧ k < w17.heap.size) bp c (pNew c ms) ⟨gl, nv, (List.replicate nv rr0).set 0 ⟨true, false, 0, a16, (fill [] ms ns).length, c16⟩, aM, cM, 0⟩ := {
      blk := by rw [hvl]; exact hBk
      vers := ⟨_, hV⟩
      len := by rw [hvl]; simp
      each := fun i r v h1 h2 => by
        simp only [pNew, hnv2, hns2] at h2
        rcases set_get h1 with ⟨rfl, rfl⟩ | ⟨hi, h1⟩
        · rcases set_get h2 with ⟨_, rfl⟩ | ⟨hi, _⟩
          · exact ⟨rfl, rfl, rfl, hSS, fun k hk => ⟨⟨hU k (hoS k hk).1, hSS.lt k hk⟩, (hoS k hk).2⟩⟩
          · exact absurd rfl hi
        · rcases set_get h2 with ⟨e, _⟩ | ⟨_, h2⟩
          · exact absurd e hi
          · rw [List.getElem?_replicate] at h1 h2
            split at h1
            · cases h1
              rename_i hlt'
              rw [if_pos hlt'] at h2
              cases h2
              exact ⟨rfl, rfl, rfl, Sli.nil _ _ _, fun k hk => absurd hk.1 (owns_none k)⟩
            · cases h1
      last := hSM
      ownM := fun k hk => ⟨⟨hU k (hoM k hk).1, hSM.lt k hk⟩, (hoM k hk).2⟩
      fb := ⟨hU _ hub, hBk.lt⟩
      fg := ⟨hU _ hug, hV.blk.lt⟩
      ne := hne
      lt := fun k hk => hk.2
      v64 := by rw [hvl]; omega
      l32 := memsOK_len hm
      sv := fun v hv => by
        simp only [pNew, hnv2, hns2] at hv
        rcases mem_set_or hv with hv | rfl
        · rw [List.mem_replicate] at hv
          rw [hv.2]; simp [ver0]
        · exact fill_le (by omega) hm
      ok := hc
      nn := ⟨Int.le_refl _, by show (0 : Int) < ((pNew c ms).vs.length : Nat); rw [hvl]; omega⟩
      li := ⟨_, by simp only [pNew]; exact List.getElem?_set_self (by simp; omega), rfl⟩
      s0 := by rw [hsl, hns2]; by_cases h0 : ms.length = 0; exact .inl (by simp [fill, h0]); exact .inr (fill_length (by omega) hm (by omega)) }
    exact PR.r1 rfl (.tmp rfl) ⟨⟨bp, _, rfl, hU _ hub, hRP⟩, hX⟩
end Go.Proofs.Ytkjecokkdbapkaa
