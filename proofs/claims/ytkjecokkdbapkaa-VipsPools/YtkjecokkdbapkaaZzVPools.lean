import Derived.Test.YtkjecokkdbapkaaZzKinds
import Derived.Test.YtkjecokkdbapkaaZzInts
import Derived.Test.YtkjecokkdbapkaaProg
namespace Go.Proofs.Ytkjecokkdbapkaa
set_option linter.all false
open Go Go.Eng Go.RowKit
set_option maxRecDepth 20000
set_option maxHeartbeats 2000000
set_option linter.unusedVariables false
set_option linter.unusedSimpArgs false
attribute [local irreducible] WL W QL WA SP



theorem flat_same {α : Type} {enc : α → List Value} {sz : Nat} (E : Enc enc sz) {l : List α} {k : Nat} {x y : α} (h : l[k]? = some x) (e : enc y = enc x) : (l.set k y).flatMap enc = l.flatMap enc := by
  have hlt := (List.getElem?_eq_some_iff.1 h).1
  rw [← flat_set E l k y hlt, e]
  refine putAt_take_drop ?_ ?_
  · rw [flat_len E, E.len]
    have : (k + 1) * sz ≤ l.length * sz := Nat.mul_le_mul_right _ hlt
    rw [Nat.add_mul] at this; omega
  · rw [E.len]; exact flat_at E l k x h
/-- A pool of the table is turned. -/
theorem TabAt.pool {w : World} {F : Nat → Prop} {bt : Nat} {c : Cfg} {l : List (Option Ent)} {k : Nat} {e : Ent} (h : TabAt w F bt c l) (he : l[k]? = some (some e)) :
    ∃ Fo, PoolAt w Fo e.b c e.p ∧ (∀ j, Fo j → F j) ∧ ∀ {w' : World} {F2 : Nat → Prop} {p' : PSt}, Upd Fo w w' → PoolAt w' F2 e.b c p' → (∀ j, F2 j → Fo j ∨ w.heap.size ≤ j) →
      ∃ F3, TabAt w' F3 bt c (l.set k (some ⟨e.v, e.b, p'⟩)) ∧ ∀ j, F3 j → F j ∨ w.heap.size ≤ j := by
  obtain ⟨bm, cs, ml, Fs, H⟩ := h
  refine ⟨Fs k, (H.pool k e he).1, fun j hj => ((H.pool k e he).2 j hj).1, fun {w' F2 p'} hu hQ hF2 => ?_⟩
  have hlt := (List.getElem?_eq_some_iff.1 he).1
  have hk := fun j hj => (H.pool k e he).2 j hj
  have hget : ∀ {i : Nat} {q : Ent}, (l.set k (some ⟨e.v, e.b, p'⟩))[i]? = some (some q) → (i = k ∧ q = ⟨e.v, e.b, p'⟩) ∨ (i ≠ k ∧ l[i]? = some (some q)) := fun h => by
    rcases set_cases h with ⟨h1, h2⟩ | h2
    · exact .inl ⟨h1, Option.some.inj h2⟩
    · exact .inr h2
  refine ⟨fun j => F j ∨ F2 j, ⟨bm, cs, ml, fun i j => if i = k then F2 j else Fs i j, ?_⟩, fun j hj => ?_⟩
  · refine { arr := ⟨hu.blk (fun h => (hk _ h).2.1 rfl) H.arr.blk, by simpa using H.arr.le, H.arr.room, ?_⟩, len := by simpa using H.len, clen := H.clen, cfg := H.cfg, map := H.map, mp := hu.map (fun h => (hk _ h).2.2 rfl) H.mp, rel := fun v => ?_,
             mlen := ?_, uniq := ?_, pool := ?_, disj := ?_, ft := .inl H.ft, fm := .inl H.fm, ne := H.ne, lt := ?_, ok := H.ok }
    · rw [List.length_set, H.arr.flat]; exact (flat_same encEE he (y := some ⟨e.v, e.b, p'⟩) rfl).symm
    · rw [H.rel v]
      have : tIdx (l.set k (some ⟨e.v, e.b, p'⟩)) v = tIdx l v := idx_set_same he rfl
      rw [this]
    · have := count_set (x := some ⟨e.v, e.b, p'⟩) he
      simp at this
      rw [H.mlen, this]
    · intro i j q q' h1 h2 hv
      rcases hget h1 with ⟨rfl, rfl⟩ | ⟨hi, g1⟩ <;> rcases hget h2 with ⟨rfl, rfl⟩ | ⟨hj, g2⟩
      · rfl
      · exact H.uniq _ _ _ _ he g2 hv
      · exact H.uniq _ _ _ _ g1 he hv
      · exact H.uniq _ _ _ _ g1 g2 hv
    · intro i q h1
      rcases hget h1 with ⟨rfl, rfl⟩ | ⟨hi, g1⟩
      · simp only [if_true]
        refine ⟨hQ, fun j hj => ⟨.inr hj, ?_, ?_⟩⟩
        · intro e'; subst e'
          rcases hF2 _ hj with h | h
          · exact (hk _ h).2.1 rfl
          · have := H.lt _ H.ft; omega
        · intro e'; subst e'
          rcases hF2 _ hj with h | h
          · exact (hk _ h).2.2 rfl
          · have := H.lt _ H.fm; omega
      · simp only [hi, if_false]
        exact ⟨(H.pool i q g1).1.upd hu fun j hj hs => hi (H.disj i k j q e g1 he hj hs), fun j hj => ⟨.inl ((H.pool i q g1).2 j hj).1, ((H.pool i q g1).2 j hj).2⟩⟩
    · intro i j t q q' h1 h2 hk1 hk2
      rcases hget h1 with ⟨rfl, rfl⟩ | ⟨hi, g1⟩ <;> rcases hget h2 with ⟨rfl, rfl⟩ | ⟨hj, g2⟩
      · rfl
      · simp only [if_true, hj, if_false] at hk1 hk2
        rcases hF2 _ hk1 with h | h
        · exact H.disj _ _ _ _ _ he g2 h hk2
        · have := H.lt _ ((H.pool j q' g2).2 t hk2).1; omega
      · simp only [if_true, hi, if_false] at hk1 hk2
        rcases hF2 _ hk2 with h | h
        · exact H.disj _ _ _ _ _ g1 he hk1 h
        · have := H.lt _ ((H.pool i q g1).2 t hk1).1; omega
      · simp only [hi, hj, if_false] at hk1 hk2
        exact H.disj _ _ _ _ _ g1 g2 hk1 hk2
    · rintro j (hj | hj)
      · exact Nat.lt_of_lt_of_le (H.lt j hj) hu.size
      · exact hQ.lt j hj
  · rcases hj with hj | hj
    · exact .inl hj
    · rcases hF2 j hj with h | h
      · exact .inl (hk j h).1
      · exact .inr h
/-! ### VipsPools -/
def wKey : Key := mkKey 1 false false
def wp (i : Int) : Vip := ⟨6, wKey.dst, UInt16.ofInt i⟩
theorem wp_inj {i j : Nat} (hi : i < 65536) (hj : j < 65536) (h : wp i = wp j) : i = j := by
  have h2 := congrArg (fun v => v.port.toNat) h
  simp only [wp] at h2
  have e : ∀ k : Nat, k < 65536 → (UInt16.ofInt (k : Int)).toNat = k := by
    intro k hk
    have h1 := wrap_u16 (k : Int)
    rw [IntWalk.u16_in _ (by omega)] at h1
    omega
  rw [e i hi, e j hj] at h2
  exact h2
structure QInv (n : Nat) (st : Nat → PSt) (l : List (Option Ent)) : Prop where
  len : l.length = 16
  lo : ∀ j, j < n → ∃ b, l[j]? = some (some ⟨wp (j : Nat), b, st j⟩)
  hi : ∀ j, n ≤ j → j < 16 → l[j]? = some none
theorem QInv.at_ {n : Nat} {st : Nat → PSt} {l : List (Option Ent)} (h : QInv n st l) {j : Nat} {e : Ent} (hj : l[j]? = some (some e)) : j < n ∧ j < 16 ∧ e.v = wp (j : Nat) := by
  have hlt : j < 16 := by rw [← h.len]; exact (List.getElem?_eq_some_iff.1 hj).1
  rcases Nat.lt_or_ge j n with h1 | h1
  · obtain ⟨b, e1⟩ := h.lo j h1
    rw [e1] at hj; cases hj
    exact ⟨h1, hlt, rfl⟩
  · rw [h.hi j h1 hlt] at hj; cases hj
theorem QInv.nil (st : Nat → PSt) : QInv 0 st l0 := ⟨rfl, fun j h => absurd h (by omega), fun j _ h => by rw [List.getElem?_replicate, if_pos h]⟩
theorem QInv.miss {n : Nat} {st : Nat → PSt} {l : List (Option Ent)} (h : QInv n st l) {i : Nat} (hi : n ≤ i) (h16 : i < 65536) : tIdx l (wp (i : Nat)) = -1 := by
  refine idx_none fun j y hy => ?_
  cases y with
  | none => rfl
  | some e =>
    obtain ⟨h1, h2, h3⟩ := h.at_ hy
    refine isV_ne fun he => ?_
    have := wp_inj (by omega) h16 (h3.symm.trans he)
    omega
theorem QInv.lows {n : Nat} {st : Nat → PSt} {l : List (Option Ent)} (h : QInv n st l) {o : Nat} (ho : o ≤ n) : (l.take o).all (fun x => !x.isNone) = true := by
  rw [List.all_eq_true]
  intro x hx
  rw [List.mem_take_iff_getElem] at hx
  obtain ⟨j, hj, rfl⟩ := hx
  obtain ⟨b, e1⟩ := h.lo j (by omega)
  have := (List.getElem?_eq_some_iff.1 e1).2
  rw [this]; rfl
theorem QInv.free {n : Nat} {st : Nat → PSt} {l : List (Option Ent)} (h : QInv n st l) (h16 : n < 16) : idx Option.isNone l = n := idx_hit (h.lows (Nat.le_refl n)) (h.hi n (Nat.le_refl n) h16) rfl
theorem QInv.add {n : Nat} {st : Nat → PSt} {l : List (Option Ent)} (h : QInv n st l) (h16 : n < 16) (b : Nat) : QInv (n + 1) st (l.set n (some ⟨wp (n : Nat), b, st n⟩)) := by
  have hl := h.len
  refine ⟨by simpa using hl, fun j h1 => ?_, fun j h1 h2 => ?_⟩
  · by_cases e : j = n
    · subst e; exact ⟨b, List.getElem?_set_self (by omega)⟩
    · rw [List.getElem?_set_ne (Ne.symm e)]; exact h.lo j (by omega)
  · rw [List.getElem?_set_ne (by omega)]; exact h.hi j (by omega) h2
theorem QInv.turn {n : Nat} {st : Nat → PSt} {l : List (Option Ent)} (h : QInv n st l) {o : Nat} (ho : o < n) (h16 : n ≤ 16) (b : Nat) (p : PSt) : QInv n (fun j => if j = o then p else st j) (l.set o (some ⟨wp (o : Nat), b, p⟩)) := by
  have hl := h.len
  refine ⟨by simpa using hl, fun j h1 => ?_, fun j h1 h2 => ?_⟩
  · by_cases e : j = o
    · subst e; exact ⟨b, by rw [List.getElem?_set_self (by omega)]; simp⟩
    · rw [List.getElem?_set_ne (Ne.symm e)]
      obtain ⟨b', hb'⟩ := h.lo j h1
      exact ⟨b', by rw [hb', if_neg e]⟩
  · rw [List.getElem?_set_ne (by omega)]; exact h.hi j h1 h2
theorem QInv.uniq {n : Nat} {st : Nat → PSt} {l : List (Option Ent)} (h : QInv n st l) : ∀ (i j : Nat) (e e' : Ent), l[i]? = some (some e) → l[j]? = some (some e') → e.v = e'.v → i = j := fun i j e e' h1 h2 he => by
  obtain ⟨_, a2, a3⟩ := h.at_ h1
  obtain ⟨_, b2, b3⟩ := h.at_ h2
  exact wp_inj (by omega) (by omega) (a3.symm.trans (he.trans b3))
theorem QInv.del_free {n : Nat} {st : Nat → PSt} {l : List (Option Ent)} (h : QInv n st l) {o : Nat} (ho : o < n) (h16 : o < 16) : idx Option.isNone (l.set o none) = o := by
  have hl := h.len
  refine idx_hit (x := none) ?_ (List.getElem?_set_self (by omega)) rfl
  rw [List.take_set_of_le (Nat.le_refl o)]
  exact h.lows (by omega)
theorem QInv.del_find {n : Nat} {st : Nat → PSt} {l : List (Option Ent)} (h : QInv n st l) {o : Nat} {e : Ent} (ho : l[o]? = some (some e)) : tIdx (l.set o none) e.v = -1 := by
  rw [rel_del ho h.uniq, if_pos rfl]
theorem wp_ok (i : Int) : vipOK (wp i) = true := by
  have h1 : protoOK 6 = true := rfl
  have h2 : adrOK wKey.dst = true := by kernel_rfl
  simp only [vipOK, wp, h1, h2]; rfl
theorem kinds_servers {v : Vip} {ws : List Int} {b : Bool} (h : v.adr.v6 = b) : kinds v (servers ws b) = false := by
  have : idx (fun x : Mem => !(x.dip.adr.v6 == v.adr.v6)) (servers ws b) = -1 := idx_none fun i x hx => by
    have hlt := (List.getElem?_eq_some_iff.1 hx).1
    rw [servers_len] at hlt
    rw [servers_get (by omega) (List.getElem?_eq_getElem (show i < ws.length by omega))] at hx
    cases hx
    show (!(b == v.adr.v6)) = false
    rw [h]; simp
  simp only [kinds, this]; rfl
theorem wp_err {l : List (Option Ent)} {i : Int} (ws : List Int) (ht : tIdx l (wp i) < 0) (hf : ¬ idx Option.isNone l < 0) : addErr (roomy 5) l (wp i) (servers ws false) = 0 := by
  have h1 : (vipOK (wp i) && memsOK (servers ws false)) = true := by rw [wp_ok, servers_ok]; rfl
  have h2 : kinds (wp i) (servers ws false) = false := kinds_servers rfl
  simp only [addErr, h1, h2, ht, hf, not_true, if_false]
  simp
abbrev ws0 (i : Nat) : List Mem := servers (List.replicate i 0) false
def stq (j : Nat) : PSt := pNew (roomy 5) (ws0 j)
theorem stq_first (j : Nat) : pFirst (stq j) = 1 := pFirst_eq (p := stq j) (v := 1) (by show 1 ≤ 16; decide) (fun k hk => by (obtain rfl : k = 0 := by omega); rfl) rfl
def stR (j : Nat) (ms : List Mem) : PSt := pReserve (roomy 5) (stq j) ms
theorem stR_at (j : Nat) (ms : List Mem) : (stR j ms).vs[1]? = some ⟨fill (stq j).sl ms 32, 0, true⟩ := by
  have : (stR j ms).vs = (stq j).vs.set 1 ⟨fill (stq j).sl ms 32, 0, true⟩ := by simp only [stR, pReserve, stq_first]; rfl
  rw [this]; exact List.getElem?_set_self (show 1 < 16 by decide)
theorem stR_live (j : Nat) (ms : List Mem) : pLive (stR j ms) (1 : Nat) = true := by
  have hl : (stR j ms).vs.length = 16 := by simp only [stR, pReserve, List.length_set]; rfl
  rw [pLive_at (by rw [hl]; decide) (by show ¬ (1 : Int) = 0; decide) (stR_at j ms)]; rfl
def stS (j : Nat) (ms : List Mem) : PSt := ⟨(stR j ms).vs.set 1 ⟨fill (stq j).sl ms 32, 0, false⟩, (1 : Nat), (stR j ms).last, (stR j ms).sl⟩
theorem ws0_len {i : Nat} (h : i ≤ 32) : (ws0 i).length = i := by rw [servers_len]; simp; omega

theorem VipsPools_calls (n at_ : Int) (ws : List Int) (a : Option Addr) (cc : Nat) (w : World) (hW : Sli (fun n : Int => [i64 n]) 1 w a cc ws) : CallV Try.prog 8 #[i64 n, i64 at_, .slice a ws.length cc] w fun v w' => v = bl true ∧ Ext w w' := by
  have hX : Ext w w := Ext.rfl' w
  have hU : ∀ k, (fun k => w.heap.size ≤ k) k → w.heap.size ≤ k := fun _ h => h
  have hS : Star (fun k => w.heap.size ≤ k) w [] := Star.nil fun _ h => h
  generalize (fun k => w.heap.size ≤ k) = U at hU hS
  refine Calls.of_W (N := 173) Try.func8 rfl rfl rfl ?_
  refine W.reg ?_
  refine WL.y (R.asg (v := .bool false) rfl) rfl ?_
  refine WL.nil ?_
  refine W.seq ?_
  refine W.reg ?_
  refine WL.y (R.mv (v := .int _ _) rfl) rfl ?_
  refine WL.fork (R.lss rfl rfl) rfl (fun hc1_1 => ?_) (fun hc1_1 => ?_)
  · skip
    replace hc1_1 := of_decide_eq_true hc1_1
    refine WL.y (R.mv (v := .bool true) rfl) rfl ?_
    refine WL.skip rfl ?_
    refine WL.skip rfl ?_
    refine WL.y (R.pkT (v := .bool true) rfl rfl) rfl ?_
    refine WL.y (R.mv (v := .bool true) rfl) rfl ?_
    refine WL.skip rfl ?_
    refine WL.skip rfl ?_
    refine WL.skip rfl ?_
    refine WL.y (R.pkT (v := .bool true) rfl rfl) rfl ?_
    refine WL.nil ?_
    refine W.cond_t rfl ?_
    refine W.reg ?_
    refine WL.call Try.func19 rfl rfl (awake19_calls _) rfl rfl ?_
    rintro _ w1 ⟨rfl, hx1⟩
    replace hS := hS.ext hx1
    replace hX := hX.tr hx1
    refine WL.y (R.asg (v := .bool _) rfl) rfl ?_
    refine WL.nil ?_
    refine W.ret ?_
    exact PR.r1 rfl (.tmp rfl) ⟨rfl, hX⟩
  · skip
    replace hc1_1 := of_decide_eq_false hc1_1
    refine WL.y (R.mv (v := .bool false) rfl) rfl ?_
    refine WL.y (R.mv (v := .int _ _) rfl) rfl ?_
    refine WL.fork (R.gtr rfl rfl) rfl (fun hc1_4 => ?_) (fun hc1_4 => ?_)
    · skip
      replace hc1_4 := of_decide_eq_true hc1_4
      refine WL.y (R.pkF (v := .bool true) rfl rfl) rfl ?_
      refine WL.y (R.mv (v := .bool true) rfl) rfl ?_
      refine WL.skip rfl ?_
      refine WL.skip rfl ?_
      refine WL.skip rfl ?_
      refine WL.y (R.pkT (v := .bool true) rfl rfl) rfl ?_
      refine WL.nil ?_
      refine W.cond_t rfl ?_
      refine W.reg ?_
      refine WL.call Try.func19 rfl rfl (awake19_calls _) rfl rfl ?_
      rintro _ w2 ⟨rfl, hx2⟩
      replace hS := hS.ext hx2
      replace hX := hX.tr hx2
      refine WL.y (R.asg (v := .bool _) rfl) rfl ?_
      refine WL.nil ?_
      refine W.ret ?_
      exact PR.r1 rfl (.tmp rfl) ⟨rfl, hX⟩
    · skip
      replace hc1_4 := of_decide_eq_false hc1_4
      refine WL.y (R.pkF (v := .bool false) rfl rfl) rfl ?_
      refine WL.y (R.mv (v := .bool false) rfl) rfl ?_
      refine WL.y (R.mv (v := .slice _ _ _) rfl) rfl ?_
      refine WL.y (R.lenS Try.underlying22 rfl) rfl ?_
      refine WL.fork (R.gtr rfl rfl) rfl (fun hc1_9 => ?_) (fun hc1_9 => ?_)
      · skip
        replace hc1_9 := of_decide_eq_true hc1_9
        refine WL.y (R.pkF (v := .bool true) rfl rfl) rfl ?_
        refine WL.nil ?_
        refine W.cond_t rfl ?_
        refine W.reg ?_
        refine WL.call Try.func19 rfl rfl (awake19_calls _) rfl rfl ?_
        rintro _ w3 ⟨rfl, hx3⟩
        replace hS := hS.ext hx3
        replace hX := hX.tr hx3
        refine WL.y (R.asg (v := .bool _) rfl) rfl ?_
        refine WL.nil ?_
        refine W.ret ?_
        exact PR.r1 rfl (.tmp rfl) ⟨rfl, hX⟩
      · skip
        replace hc1_9 := of_decide_eq_false hc1_9
        refine WL.y (R.pkF (v := .bool false) rfl rfl) rfl ?_
        refine WL.nil ?_
        refine W.cond_f rfl ?_
        refine W.skip ?_
        refine W.reg ?_
        refine WL.call Try.func21 rfl rfl (roomy_calls 5 _) rfl rfl ?_
        rintro _ w4 ⟨rfl, hx4⟩
        replace hS := hS.ext hx4
        replace hX := hX.tr hx4
        refine WL.call Try.func20 rfl rfl (TNew_calls (roomy 5) (roomy_ok 5) _) rfl rfl ?_
        rintro _ w5 ⟨⟨bt, rfl, hT⟩, hx5⟩
        replace hS := hS.push hx5 (A := tabA bt (roomy 5) l0) hT (fun k hk => hk.1)
        replace hX := hX.tr hx5
        clear hT
        refine WL.y (R.mv (v := .tuple _) rfl) rfl ?_
        refine WL.y (R.extract rfl rfl) rfl ?_
        refine WL.y (R.extract rfl rfl) rfl ?_
        refine WL.y (R.asg (v := .pointer _) rfl) rfl ?_
        refine WL.y (R.asg (v := .int _ _) rfl) rfl ?_
        refine WL.nil ?_
        refine W.seq ?_
        refine W.reg ?_
        refine WL.y (R.mv (v := .int _ _) rfl) rfl ?_
        refine WL.y (R.neqF rfl rfl rfl) rfl ?_
        refine WL.y (R.mv (v := .bool false) rfl) rfl ?_
        refine WL.y (R.mv (v := .pointer _) rfl) rfl ?_
        refine WL.y (R.eqlNil Try.underlying24 rfl) rfl ?_
        refine WL.y (R.pkF (v := .bool false) rfl rfl) rfl ?_
        refine WL.nil ?_
        refine W.cond_f rfl ?_
        refine W.skip ?_
        refine W.reg ?_
        refine WL.call Try.func22 rfl rfl (mkKey_calls 1 false false _) rfl rfl ?_
        rintro _ w6 ⟨rfl, hx6⟩
        replace hS := hS.ext hx6
        replace hX := hX.tr hx6
        refine WL.alloc zer37 rfl ?_
        intro b7 w7 hb7 hs7 hx7 hB7
        replace hS := hS.pushBox hb7 hx7 hB7
        replace hX := hX.tr hx7
        clear hB7 hs7
        refine WL.store (v := .agg _) siz37 rfl rfl rfl rfl hS.blk0 (Nat.le_of_ble_eq_true rfl) rfl rfl ?_
        intro w8 hu8 hz8 hn8
        have hN := hS.box0 hu8 hn8
        replace hS := hN.1
        replace hX := hN.2 _ hX hU
        clear hN hn8 hu8 hz8
        obtain ⟨bk, rfl⟩ : ∃ b, b = b7 := ⟨_, rfl⟩
        obtain ⟨N, rfl⟩ : ∃ N : Nat, n = N := ⟨n.toNat, by omega⟩
        refine WL.nil ?_
        refine W.seqX (ι := List (Option Ent)) [(6, 7), (10, 13), (50, 70)] (fun _ => []) (fun q w' => (QInv N stq q) ∧ Ext w w' ∧ Star U w' [boxA bk (encKey wKey), tabA bt (roomy 5) q]) ?_ ?_
        · skip
          refine W.reg ?_
          refine WL.y (R.asg (v := .int _ _) rfl) rfl ?_
          refine WL.nil ?_
          refine W.block ?_
          refine W.loopS (ι := Nat × List (Option Ent)) [(6, 7), (10, 13), (50, 70)] (fun q => [(10, i64 (q.1 : Nat))]) (fun q => N - q.1) (fun q w' => (q.1 ≤ N ∧ QInv q.1 stq q.2) ∧ Ext w w' ∧ Star U w' [boxA bk (encKey wKey), tabA bt (roomy 5) q.2]) ⟨0, l0⟩ ⟨rfl, trivial⟩ ⟨⟨Nat.zero_le _, QInv.nil _⟩, hX, hS⟩ ?_
          rintro ⟨i, l⟩ j1 w_1 ⟨⟨hi, hI⟩, hX, hS⟩
          dsimp only at hi hI hX hS ⊢
          refine W.seq ?_
          refine W.reg ?_
          refine WL.y (R.mv (v := .int _ _) rfl) rfl ?_
          refine WL.y (R.mv (v := .int _ _) rfl) rfl ?_
          refine WL.fork (R.lss rfl rfl) rfl (fun hc8_2 => ?_) (fun hc8_2 => ?_)
          · skip
            replace hc8_2 := of_decide_eq_true hc8_2
            refine WL.nil ?_
            refine W.cond_t rfl ?_
            refine W.skip ?_
            refine W.seq ?_
            refine W.block ?_
            refine W.seq ?_
            refine W.draw (fun j => [9].contains j) (fun wI => Ext w_1 wI) rfl ?_
            have hI9 := Ext.dr w_1
            refine WA.batch [0, 1, 2, 3, 4, 5, 6] 8 (by kernel_rfl) hI9 ?_
            refine QL.y (fun wq hq => (R.mv (v := .pointer _) rfl)) rfl ?_
            refine QL.y (fun wq hq => (R.fieldAddr fo37_2 rfl)) rfl ?_
            refine QL.y (fun wq hq => (R.loadA agg30 rfl (hq.blkR (hS.blk0).r) rfl rfl)) rfl ?_
            refine QL.y (fun wq hq => (R.mv (v := .int _ _) rfl)) rfl ?_
            refine QL.y (fun wq hq => (R.convU16 Try.underlying3 Try.underlying35 rfl)) rfl ?_
            refine QL.y (fun wq hq => (R.buildE (parts := [(0, .const (.int .u8 6)), (1, .tmp 58), (2, .tmp 60)]) (vs := encVip (wp (i : Nat))) bld42 (by kernel_rfl) (by kernel_rfl))) rfl ?_
            refine QL.y (fun wq hq => (R.mv (v := .int _ _) rfl)) rfl ?_
            refine QL.nil ?_
            have hD9 := Ext.dr w_1
            have hD9z := hD9.size
            have hS0 := hS
            have hXo := hX
            replace hS := hS.ext hD9
            replace hX := hX.tr hD9
            refine WA.one 7 7 (by kernel_rfl) ?_
            have hX0 := hX
            refine WL.makeSlice el22_3 rfl rfl (by omega) (by omega) rfl ?_
            intro b10 w10 hb10 hs10 hx10 hB10
            have hL10 := (SlO.made encI (0 : Int) rfl hB10).cl
            replace hS := hS.pushSlw hx10 hL10 (fun k hk => by rw [owns_some] at hk; simp only at hk; omega)
            replace hX := hX.tr hx10
            clear hL10 hB10 hs10
            refine WL.nil ?_
            refine ⟨fun _ h => h.tr hx10, ?_⟩
            replace hI9 := hI9.tr hx10
            clear hX0
            refine WA.one 8 6 (by kernel_rfl) ?_
            have hX0 := hX
            have hcl11 := Servers_calls (List.replicate i 0) (by simp; omega) false _ _ _ (hS.slw0).ro
            try rw [List.length_replicate] at hcl11
            refine WL.call Try.func67 rfl rfl hcl11 rfl rfl ?_
            rintro _ w11 ⟨⟨a11, c11, rfl, hl11, hf11⟩, hx11⟩
            replace hS := hS.pushSli hx11 hl11 hf11
            replace hX := hX.tr hx11
            refine WL.nil ?_
            refine ⟨fun _ h => h.tr hx11, ?_⟩
            replace hI9 := hI9.tr hx11
            clear hX0
            refine WA.one 9 5 (by kernel_rfl) ?_
            have hX0 := hX
            obtain ⟨F12, hT12, hFU12, hf12⟩ := hS.split3
            refine WL.call Try.func23 rfl rfl (Add_calls F12 bt (roomy 5) l _ hT12 (wp (i : Nat)) (ws0 i) _ _ (hS.sli0)) rfl rfl ?_
            rintro _ w12 (⟨hae, _⟩ | ⟨_, n12, b12, G12, hi12, hg12, rfl, hu12, hQ12, hF12⟩)
            · exact absurd (wp_err _ (by rw [hI.miss (Nat.le_refl i) (by omega)]; decide) (by rw [hI.free (by omega)]; omega)) hae
            have hn12 : i = n12 := by have := hi12; rw [hI.free (by omega)] at this; omega
            subst hn12
            replace hS := hf12 hu12 (B := tabA bt (roomy 5) (l.set i (some ⟨wp (i : Nat), b12, stq i⟩))) hQ12 hF12
            replace hX := hX.putU hu12 (fun k hk => hU k (hFU12 k hk))
            clear hf12 hFU12 hT12 hu12 hQ12 hF12
            refine WL.nil ?_
            refine ⟨fun h => (by cases h), ?_⟩
            clear hX0
            refine WA.pures [10, 11, 12, 13, 14] 0 (by kernel_rfl) ?_
            refine QL.y (fun wq hq => (R.mv (v := .tuple _) rfl)) rfl ?_
            refine QL.y (fun wq hq => (R.extract rfl rfl)) rfl ?_
            refine QL.y (fun wq hq => (R.extract rfl rfl)) rfl ?_
            refine QL.y (fun wq hq => (R.asg (v := .int _ _) rfl)) rfl ?_
            refine QL.y (fun wq hq => (R.asg (v := .int _ _) rfl)) rfl ?_
            refine QL.nil ?_
            refine WA.done (by kernel_rfl) ?_
            refine W.reg ?_
            refine WL.y (R.mv (v := .int _ _) rfl) rfl ?_
            refine WL.y (R.neqF rfl rfl rfl) rfl ?_
            refine WL.nil ?_
            refine W.cond_f rfl ?_
            refine W.skip ?_
            refine W.region ?_
            refine WL.y (R.mv (v := .int _ _) rfl) rfl ?_
            refine WL.y (R.addI rfl rfl (by omega)) rfl ?_
            refine WL.y (R.asg (v := .int _ _) rfl) rfl ?_
            refine WL.nil ?_
            replace hS := hS.drop0
            replace hS := hS.drop0
            exact ⟨⟨i + 1, _⟩, (by simp only; omega), (by repeat (first | exact Same.rfl' _ _ | refine Same.set _ rfl ?_ | refine Same.over' _ rfl ?_ | refine Same.sets rfl ?_)), ⟨rfl, trivial⟩, rfl, ⟨by simp only; omega, hI.add (by omega) b12⟩, hX, hS⟩
          · skip
            replace hc8_2 := of_decide_eq_false hc8_2
            refine WL.nil ?_
            refine W.cond_f rfl ?_
            refine W.exit ?_
            obtain rfl : i = N := by omega
            exact ⟨l, (by repeat (first | exact Same.rfl' _ _ | refine Same.set _ rfl ?_ | refine Same.over' _ rfl ?_ | refine Same.sets rfl ?_)), trivial, rfl, hI, hX, hS⟩
        · skip
          rintro l j2 w_2 ⟨hI, hX, hS⟩
          refine W.reg ?_
          refine WL.y (R.mv (v := .int _ _) rfl) rfl ?_
          refine WL.y (R.mv (v := .int _ _) rfl) rfl ?_
          have hrb := round_bd at_ (N : Nat) (by omega)
          obtain ⟨o, ho⟩ : ∃ o : Nat, round at_ (N : Nat) = o := ⟨_, (Int.toNat_of_nonneg hrb.1).symm⟩
          refine WL.call Try.func24 rfl rfl ((round_calls at_ ((N : Nat) : Int) _ (by omega) (by omega)).val (y := i64 ((o : Nat) : Int)) (by rw [← ho]; rfl)) rfl rfl ?_
          rintro _ _ ⟨rfl, rfl⟩
          have hoN : o < N := by omega
          obtain ⟨bo, heo⟩ := hI.lo o hoN
          have hol : o < l.length := by have := hI.len; omega
          refine WL.y (R.asg (v := .int _ _) rfl) rfl ?_
          refine WL.nil ?_
          refine W.reg ?_
          refine WL.y (R.mv (v := .pointer _) rfl) rfl ?_
          refine WL.y (R.mv (v := .int _ _) rfl) rfl ?_
          obtain ⟨F14, hT14, -, -⟩ := hS.split1
          refine WL.call Try.func62 rfl rfl ((Pools_calls F14 bt (roomy 5) l _ hT14 (o : Nat)).val (y := .pointer (some ⟨bo, 0, none⟩)) (by rw [tHas_at heo])) rfl rfl ?_
          rintro _ w14 ⟨rfl, hx14⟩
          clear hT14
          replace hS := hS.ext hx14
          replace hX := hX.tr hx14
          refine WL.y (R.asg (v := .pointer _) rfl) rfl ?_
          refine WL.nil ?_
          refine W.seq ?_
          refine W.reg ?_
          refine WL.y (R.mv (v := .pointer _) rfl) rfl ?_
          refine WL.y (R.eqlNil Try.underlying61 rfl) rfl ?_
          refine WL.nil ?_
          refine W.cond_f rfl ?_
          refine W.skip ?_
          refine W.reg ?_
          refine WL.y (R.mv (v := .slice _ _ _) rfl) rfl ?_
          have hcl15 := Servers_calls ws (by omega) false _ _ _ (hW.ext hX)
          try rw [List.length_replicate] at hcl15
          refine WL.call Try.func67 rfl rfl hcl15 rfl rfl ?_
          rintro _ w15 ⟨⟨a15, c15, rfl, hl15, hf15⟩, hx15⟩
          replace hS := hS.pushSli hx15 hl15 hf15
          replace hX := hX.tr hx15
          obtain ⟨aS, rfl⟩ : ∃ a, a = a15 := ⟨_, rfl⟩
          obtain ⟨cS, rfl⟩ : ∃ a, a = c15 := ⟨_, rfl⟩
          refine WL.y (R.asg (v := .slice _ _ _) rfl) rfl ?_
          refine WL.nil ?_
          refine W.reg ?_
          refine WL.y (R.mv (v := .pointer _) rfl) rfl ?_
          refine WL.y (R.mv (v := .slice _ _ _) rfl) rfl ?_
          obtain ⟨F16, hT16, hFU16, hR16, hf16⟩ := hS.splitR2
          obtain ⟨Fo16, hPo16, hFoF16, hfo16⟩ := hT16.pool heo
          refine WL.call Try.func34 rfl rfl (Reserve_ok Fo16 bo (roomy 5) (stq o) _ hPo16 (servers ws false) _ _ (hS.sli0) (fun k hk h => (hR16.sliD0 k hk).2 (hFoF16 k h)) (servers_ok _ _) (by rw [stq_first]; show 1 < 16; decide)) rfl rfl ?_
          rintro _ w16 ⟨G16, rfl, hu16, hQ16, hF16⟩
          obtain ⟨F316, hT316, hF316⟩ := hfo16 hu16 hQ16 hF16
          replace hS := hf16 (hu16.mono fun k _ h => hFoF16 k h) (B := tabA bt (roomy 5) (l.set o (some ⟨wp (o : Nat), bo, stR o (servers ws false)⟩))) hT316 hF316
          replace hX := hX.putU hu16 (fun k hk => hU k (hFU16 k (hFoF16 k hk)))
          clear hf16 hFU16 hT16 hu16 hQ16 hR16 hFoF16 hfo16 hT316 hF316 hPo16
          refine WL.y (R.mv (v := .tuple _) rfl) rfl ?_
          refine WL.y (R.extract rfl rfl) rfl ?_
          refine WL.y (R.extract rfl rfl) rfl ?_
          refine WL.y (R.asg (v := .int _ _) rfl) rfl ?_
          refine WL.y (R.asg (v := .int _ _) rfl) rfl ?_
          refine WL.nil ?_
          refine W.reg ?_
          refine WL.y (R.mv (v := .pointer _) rfl) rfl ?_
          refine WL.y (R.mv (v := .int _ _) rfl) rfl ?_
          have heR : (l.set o (some ⟨wp (o : Nat), bo, stR o (servers ws false)⟩))[o]? = some (some ⟨wp (o : Nat), bo, stR o (servers ws false)⟩) := List.getElem?_set_self hol
          obtain ⟨F17, hT17, hFU17, hR17, hf17⟩ := hS.splitR2
          obtain ⟨Fo17, hPo17, hFoF17, hfo17⟩ := hT17.pool heR
          refine WL.call Try.func37 rfl rfl (Serve_ok Fo17 bo (roomy 5) _ _ hPo17 1 _ (stR_live o _) (stR_at o _) rfl) rfl rfl ?_
          rintro _ w17 ⟨rfl, hu17, hQ17⟩
          obtain ⟨F317, hT317, hF317⟩ := hfo17 hu17 hQ17 (fun k hk => .inl hk)
          replace hS := hf17 (hu17.mono fun k _ h => hFoF17 k h) (B := tabA bt (roomy 5) ((l.set o (some ⟨wp (o : Nat), bo, stR o (servers ws false)⟩)).set o (some ⟨wp (o : Nat), bo, stS o (servers ws false)⟩))) hT317 hF317
          replace hX := hX.putU hu17 (fun k hk => hU k (hFU17 k (hFoF17 k hk)))
          clear hf17 hFU17 hT17 hu17 hQ17 hR17 hFoF17 hfo17 hT317 hF317 hPo17
          rw [List.set_set] at hS
          replace hI := hI.turn hoN (by omega) bo (stS o (servers ws false))
          obtain ⟨l2, hl2⟩ : ∃ l2, l2 = (l.set o (some ⟨wp (o : Nat), bo, stS o (servers ws false)⟩)) := ⟨_, rfl⟩
          rw [← hl2] at hS hI
          clear hl2
          refine WL.y (R.asg (v := .int _ _) rfl) rfl ?_
          refine WL.nil ?_
          refine W.seq ?_
          refine W.reg ?_
          refine WL.y (R.mv (v := .int _ _) rfl) rfl ?_
          refine WL.y (R.neqF rfl rfl rfl) rfl ?_
          refine WL.y (R.mv (v := .bool false) rfl) rfl ?_
          refine WL.y (R.mv (v := .int _ _) rfl) rfl ?_
          refine WL.y (R.neqF rfl rfl rfl) rfl ?_
          refine WL.y (R.pkF (v := .bool false) rfl rfl) rfl ?_
          refine WL.nil ?_
          refine W.cond_f rfl ?_
          refine W.skip ?_
          refine W.seqX (ι := Unit) [(6, 7), (19, 21), (95, 129)] (fun _ => []) (fun _ w' => (True) ∧ Ext w w' ∧ Star U w' [sliA encMem 19 aS cS (servers ws false), boxA bk (encKey wKey), tabA bt (roomy 5) l2]) ?_ ?_
          · skip
            refine W.reg ?_
            refine WL.y (R.asg (v := .int _ _) rfl) rfl ?_
            refine WL.nil ?_
            refine W.block ?_
            refine W.loopS (ι := Nat) [(6, 7), (19, 21), (95, 129)] (fun q => [(19, i64 (q : Nat))]) (fun q => N - q) (fun q w' => (q ≤ N) ∧ Ext w w' ∧ Star U w' [sliA encMem 19 aS cS (servers ws false), boxA bk (encKey wKey), tabA bt (roomy 5) l2]) 0 ⟨rfl, trivial⟩ ⟨Nat.zero_le _, hX, hS⟩ ?_
            rintro i j3 w_3 ⟨hp, hX, hS⟩
            refine W.seq ?_
            refine W.reg ?_
            refine WL.y (R.mv (v := .int _ _) rfl) rfl ?_
            refine WL.y (R.mv (v := .int _ _) rfl) rfl ?_
            refine WL.fork (R.lss rfl rfl) rfl (fun hc23_2 => ?_) (fun hc23_2 => ?_)
            · skip
              replace hc23_2 := of_decide_eq_true hc23_2
              refine WL.nil ?_
              refine W.cond_t rfl ?_
              refine W.skip ?_
              refine W.seq ?_
              refine W.block ?_
              refine W.reg ?_
              refine WL.y (R.mv (v := .pointer _) rfl) rfl ?_
              refine WL.y (R.mv (v := .int _ _) rfl) rfl ?_
              obtain ⟨bi, hei⟩ := hI.lo i (by omega)
              obtain ⟨F18, hT18, -, -⟩ := hS.split2
              refine WL.call Try.func62 rfl rfl ((Pools_calls F18 bt (roomy 5) l2 _ hT18 (i : Nat)).val (y := .pointer (some ⟨bi, 0, none⟩)) (by rw [tHas_at hei])) rfl rfl ?_
              rintro _ w18 ⟨rfl, hx18⟩
              clear hT18
              replace hS := hS.ext hx18
              replace hX := hX.tr hx18
              refine WL.y (R.asg (v := .pointer _) rfl) rfl ?_
              refine WL.nil ?_
              refine W.seq ?_
              refine W.reg ?_
              refine WL.y (R.mv (v := .pointer _) rfl) rfl ?_
              refine WL.y (R.eqlNil Try.underlying61 rfl) rfl ?_
              refine WL.nil ?_
              refine W.cond_f rfl ?_
              refine W.skip ?_
              refine W.reg ?_
              refine WL.y (R.mv (v := .int _ _) rfl) rfl ?_
              refine WL.y (R.mv (v := .int _ _) rfl) rfl ?_
              refine WL.fork (R.eql rfl rfl) rfl (fun hc28_2 => ?_) (fun hc28_2 => ?_)
              · skip
                replace hc28_2 := eq_of_beq hc28_2
                refine WL.nil ?_
                refine W.cond_t rfl ?_
                refine W.reg ?_
                rw [if_pos (by omega)] at hei
                refine WL.y (R.mv (v := .pointer _) rfl) rfl ?_
                obtain ⟨F19, hT19, -, -⟩ := hS.split2
                obtain ⟨Fo19, hPo19, -, -⟩ := hT19.pool hei
                refine WL.call Try.func43 rfl rfl ((Now_calls Fo19 bi (roomy 5) _ _ hPo19).val (y := i64 (1 : Nat)) rfl) rfl rfl ?_
                rintro _ w19 ⟨rfl, hx19⟩
                clear hT19 hPo19
                replace hS := hS.ext hx19
                replace hX := hX.tr hx19
                refine WL.y (R.mv (v := .int _ _) rfl) rfl ?_
                refine WL.y (R.neqF rfl rfl rfl) rfl ?_
                refine WL.y (R.mv (v := .bool false) rfl) rfl ?_
                refine WL.y (R.mv (v := .pointer _) rfl) rfl ?_
                obtain ⟨F20, hT20, -, -⟩ := hS.split2
                obtain ⟨Fo20, hPo20, -, -⟩ := hT20.pool hei
                refine WL.call Try.func45 rfl rfl (Last_calls Fo20 bi (roomy 5) _ _ hPo20) rfl rfl ?_
                rintro _ w20 ⟨⟨a20, c20, rfl, hl20, hf20⟩, hx20⟩
                clear hT20 hPo20
                replace hS := hS.pushSli hx20 hl20 hf20
                replace hX := hX.tr hx20
                refine WL.y (R.mv (v := .slice _ _ _) rfl) rfl ?_
                refine WL.call Try.func44 rfl rfl ((Members_calls (servers ws false) (servers ws false) (by rw [servers_len]; omega) _ _ _ _ _ (hS.sli0) (hS.sli1)).val (y := bl true) (by rw [decide_eq_true rfl])) rfl rfl ?_
                rintro _ w21 ⟨rfl, hx21⟩
                replace hS := hS.ext hx21
                replace hX := hX.tr hx21
                refine WL.y (R.notT rfl) rfl ?_
                refine WL.y (R.pkF (v := .bool false) rfl rfl) rfl ?_
                refine WL.nil ?_
                refine W.cond_f rfl ?_
                refine W.skip ?_
                refine W.region ?_
                refine WL.y (R.mv (v := .int _ _) rfl) rfl ?_
                refine WL.y (R.addI rfl rfl (by omega)) rfl ?_
                refine WL.y (R.asg (v := .int _ _) rfl) rfl ?_
                refine WL.nil ?_
                replace hS := hS.drop0
                exact ⟨i + 1, (by omega), (by repeat (first | exact Same.rfl' _ _ | refine Same.set _ rfl ?_ | refine Same.over' _ rfl ?_ | refine Same.sets rfl ?_)), ⟨rfl, trivial⟩, rfl, (by omega), hX, hS⟩
              · skip
                replace hc28_2 := beq_F hc28_2
                refine WL.nil ?_
                refine W.cond_f rfl ?_
                refine W.reg ?_
                rw [if_neg (by omega)] at hei
                refine WL.y (R.mv (v := .pointer _) rfl) rfl ?_
                obtain ⟨F22, hT22, -, -⟩ := hS.split2
                obtain ⟨Fo22, hPo22, -, -⟩ := hT22.pool hei
                refine WL.call Try.func43 rfl rfl ((Now_calls Fo22 bi (roomy 5) _ _ hPo22).val (y := i64 0) rfl) rfl rfl ?_
                rintro _ w22 ⟨rfl, hx22⟩
                clear hT22 hPo22
                replace hS := hS.ext hx22
                replace hX := hX.tr hx22
                refine WL.y (R.neqF rfl rfl rfl) rfl ?_
                refine WL.y (R.mv (v := .bool false) rfl) rfl ?_
                refine WL.y (R.mv (v := .pointer _) rfl) rfl ?_
                obtain ⟨F23, hT23, -, -⟩ := hS.split2
                obtain ⟨Fo23, hPo23, -, -⟩ := hT23.pool hei
                refine WL.call Try.func45 rfl rfl (Last_calls Fo23 bi (roomy 5) _ _ hPo23) rfl rfl ?_
                rintro _ w23 ⟨⟨a23, c23, rfl, hl23, hf23⟩, hx23⟩
                clear hT23 hPo23
                replace hS := hS.pushSli hx23 hl23 hf23
                replace hX := hX.tr hx23
                refine WL.y (R.lenS Try.underlying52 rfl) rfl ?_
                refine WL.y (R.mv (v := .int _ _) rfl) rfl ?_
                refine WL.y (R.neqF rfl rfl (by show ((ws0 i).length : Int) = _; rw [ws0_len (by omega)])) rfl ?_
                refine WL.y (R.pkF (v := .bool false) rfl rfl) rfl ?_
                refine WL.nil ?_
                refine W.cond_f rfl ?_
                refine W.skip ?_
                refine W.region ?_
                refine WL.y (R.mv (v := .int _ _) rfl) rfl ?_
                refine WL.y (R.addI rfl rfl (by omega)) rfl ?_
                refine WL.y (R.asg (v := .int _ _) rfl) rfl ?_
                refine WL.nil ?_
                replace hS := hS.drop0
                exact ⟨i + 1, (by omega), (by repeat (first | exact Same.rfl' _ _ | refine Same.set _ rfl ?_ | refine Same.over' _ rfl ?_ | refine Same.sets rfl ?_)), ⟨rfl, trivial⟩, rfl, (by omega), hX, hS⟩
            · skip
              replace hc23_2 := of_decide_eq_false hc23_2
              refine WL.nil ?_
              refine W.cond_f rfl ?_
              refine W.exit ?_
              exact ⟨(), (by repeat (first | exact Same.rfl' _ _ | refine Same.set _ rfl ?_ | refine Same.over' _ rfl ?_ | refine Same.sets rfl ?_)), trivial, rfl, trivial, hX, hS⟩
          · skip
            rintro _ j4 w_4 ⟨-, hX, hS⟩
            obtain ⟨bx, hex⟩ := hI.lo o hoN
            rw [if_pos rfl] at hex
            have hol2 : o < l2.length := by have := hI.len; omega
            refine W.reg ?_
            refine WL.y (R.mv (v := .pointer _) rfl) rfl ?_
            refine WL.y (R.mv (v := .int _ _) rfl) rfl ?_
            obtain ⟨F24, hT24, -, -⟩ := hS.split2
            refine WL.call Try.func25 rfl rfl ((Vip_calls F24 bt (roomy 5) l2 _ hT24 (o : Nat)).val (y := .tuple #[encVv (wp (o : Nat)), bl true]) (by rw [tHas_at hex])) rfl rfl ?_
            rintro _ w24 ⟨rfl, hx24⟩
            clear hT24
            replace hS := hS.ext hx24
            replace hX := hX.tr hx24
            refine WL.y (R.mv (v := .tuple _) rfl) rfl ?_
            refine WL.y (R.extract rfl rfl) rfl ?_
            refine WL.y (R.extract rfl rfl) rfl ?_
            refine WL.alloc zer42 rfl ?_
            intro b25 w25 hb25 hs25 hx25 hB25
            replace hS := hS.pushBox hb25 hx25 hB25
            replace hX := hX.tr hx25
            clear hB25 hs25
            refine WL.store (v := .agg _) siz42 rfl rfl rfl rfl hS.blk0 (Nat.le_of_ble_eq_true rfl) rfl rfl ?_
            intro w26 hu26 hz26 hn26
            have hN := hS.box0 hu26 hn26
            replace hS := hN.1
            replace hX := hN.2 _ hX hU
            clear hN hn26 hu26 hz26
            refine WL.y (R.asg (v := .bool true) rfl) rfl ?_
            refine WL.nil ?_
            refine W.seq ?_
            refine W.reg ?_
            refine WL.y (R.mv (v := .pointer _) rfl) rfl ?_
            refine WL.y (R.mv (v := .int _ _) rfl) rfl ?_
            obtain ⟨F27, hT27, hFU27, hf27⟩ := hS.split3
            refine WL.call Try.func26 rfl rfl (Remove_yes F27 bt (roomy 5) l2 _ hT27 o _ hex) rfl rfl ?_
            rintro _ w27 ⟨rfl, hu27, hQ27, -⟩
            replace hS := hf27 hu27 (B := tabA bt (roomy 5) (l2.set o none)) hQ27 (fun k hk => .inl hk)
            replace hX := hX.putU hu27 (fun k hk => hU k (hFU27 k hk))
            clear hf27 hFU27 hT27 hu27 hQ27
            refine WL.y (R.neqF rfl rfl rfl) rfl ?_
            refine WL.nil ?_
            refine W.cond_f rfl ?_
            refine W.skip ?_
            refine W.reg ?_
            refine WL.y (R.mv (v := .pointer _) rfl) rfl ?_
            refine WL.y (R.loadA agg42 rfl (hS.blk0).r rfl rfl) rfl ?_
            have hfr : idx Option.isNone (l2.set o none) = o := hI.del_free hoN (by omega)
            have hfd : tIdx (l2.set o none) (wp (o : Nat)) = -1 := hI.del_find hex
            obtain ⟨F28, hT28, hFU28, hf28⟩ := hS.split3
            refine WL.call Try.func23 rfl rfl (Add_calls F28 bt (roomy 5) (l2.set o none) _ hT28 (wp (o : Nat)) [] _ _ (Sli.nil encMem 19 _)) rfl rfl ?_
            rintro _ w28 (⟨hae, _⟩ | ⟨_, n28, b28, G28, hi28, hg28, rfl, hu28, hQ28, hF28⟩)
            · exact absurd (wp_err (i := (o : Nat)) [] (by rw [hfd]; decide) (by rw [hfr]; omega)) hae
            have hn28 : o = n28 := by have := hi28; rw [hfr] at this; omega
            subst hn28
            rw [List.set_set] at hQ28
            replace hS := hf28 hu28 (B := tabA bt (roomy 5) (l2.set o (some ⟨wp (o : Nat), b28, pNew (roomy 5) []⟩))) hQ28 hF28
            replace hX := hX.putU hu28 (fun k hk => hU k (hFU28 k hk))
            clear hf28 hFU28 hT28 hu28 hQ28 hF28
            have hez : (l2.set o (some ⟨wp (o : Nat), b28, pNew (roomy 5) []⟩))[o]? = some (some ⟨wp (o : Nat), b28, pNew (roomy 5) []⟩) := List.getElem?_set_self hol2
            refine WL.y (R.mv (v := .tuple _) rfl) rfl ?_
            refine WL.y (R.extract rfl rfl) rfl ?_
            refine WL.y (R.extract rfl rfl) rfl ?_
            refine WL.y (R.asg (v := .int _ _) rfl) rfl ?_
            refine WL.y (R.asg (v := .int _ _) rfl) rfl ?_
            refine WL.nil ?_
            refine W.reg ?_
            refine WL.y (R.mv (v := .pointer _) rfl) rfl ?_
            refine WL.y (R.mv (v := .int _ _) rfl) rfl ?_
            obtain ⟨F29, hT29, -, -⟩ := hS.split3
            refine WL.call Try.func62 rfl rfl ((Pools_calls F29 bt (roomy 5) (l2.set o (some ⟨wp (o : Nat), b28, pNew (roomy 5) []⟩)) _ hT29 (o : Nat)).val (y := .pointer (some ⟨b28, 0, none⟩)) (by rw [tHas_at hez])) rfl rfl ?_
            rintro _ w29 ⟨rfl, hx29⟩
            clear hT29
            replace hS := hS.ext hx29
            replace hX := hX.tr hx29
            refine WL.y (R.asg (v := .pointer _) rfl) rfl ?_
            refine WL.nil ?_
            refine W.reg ?_
            refine WL.y (R.mv (v := .int _ _) rfl) rfl ?_
            refine WL.y (R.eqlT rfl rfl rfl) rfl ?_
            refine WL.y (R.mv (v := .bool true) rfl) rfl ?_
            refine WL.y (R.mv (v := .int _ _) rfl) rfl ?_
            refine WL.y (R.mv (v := .int _ _) rfl) rfl ?_
            refine WL.y (R.eqlT rfl rfl rfl) rfl ?_
            refine WL.y (R.pkT (v := .bool true) rfl rfl) rfl ?_
            refine WL.y (R.mv (v := .bool true) rfl) rfl ?_
            refine WL.y (R.mv (v := .pointer _) rfl) rfl ?_
            refine WL.y (R.neqNil Try.underlying61 rfl) rfl ?_
            refine WL.y (R.pkT (v := .bool true) rfl rfl) rfl ?_
            refine WL.y (R.mv (v := .bool true) rfl) rfl ?_
            refine WL.y (R.mv (v := .pointer _) rfl) rfl ?_
            obtain ⟨F30, hT30, -, -⟩ := hS.split3
            obtain ⟨Fo30, hPo30, -, -⟩ := hT30.pool hez
            refine WL.call Try.func43 rfl rfl ((Now_calls Fo30 b28 (roomy 5) _ _ hPo30).val (y := i64 0) rfl) rfl rfl ?_
            rintro _ w30 ⟨rfl, hx30⟩
            clear hT30 hPo30
            replace hS := hS.ext hx30
            replace hX := hX.tr hx30
            refine WL.y (R.eqlT rfl rfl rfl) rfl ?_
            refine WL.y (R.pkT (v := .bool true) rfl rfl) rfl ?_
            refine WL.y (R.mv (v := .bool true) rfl) rfl ?_
            refine WL.y (R.mv (v := .pointer _) rfl) rfl ?_
            obtain ⟨F31, hT31, -, -⟩ := hS.split3
            obtain ⟨Fo31, hPo31, -, -⟩ := hT31.pool hez
            refine WL.call Try.func45 rfl rfl (Last_calls Fo31 b28 (roomy 5) _ _ hPo31) rfl rfl ?_
            rintro _ w31 ⟨⟨a31, c31, rfl, hl31, hf31⟩, hx31⟩
            clear hT31 hPo31
            replace hS := hS.pushSli hx31 hl31 hf31
            replace hX := hX.tr hx31
            refine WL.y (R.lenS Try.underlying52 rfl) rfl ?_
            refine WL.y (R.eqlT rfl rfl rfl) rfl ?_
            refine WL.y (R.pkT (v := .bool true) rfl rfl) rfl ?_
            refine WL.y (R.mv (v := .bool true) rfl) rfl ?_
            refine WL.call Try.func19 rfl rfl (awake19_calls _) rfl rfl ?_
            rintro _ w32 ⟨rfl, hx32⟩
            replace hS := hS.ext hx32
            replace hX := hX.tr hx32
            refine WL.y (R.pkT (v := .bool _) rfl rfl) rfl ?_
            refine WL.y (R.asg (v := .bool _) rfl) rfl ?_
            refine WL.nil ?_
            refine W.ret ?_
            exact PR.r1 rfl (.tmp rfl) ⟨rfl, hX⟩
end Go.Proofs.Ytkjecokkdbapkaa
