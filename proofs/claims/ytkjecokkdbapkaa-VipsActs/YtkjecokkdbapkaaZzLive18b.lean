import Derived.Test.YtkjecokkdbapkaaZzLive18
import Derived.Test.YtkjecokkdbapkaaZzSt2
import Derived.Test.YtkjecokkdbapkaaProg
namespace Go.Proofs.Ytkjecokkdbapkaa
set_option linter.all false
open Go Go.Eng Go.RowKit
set_option maxRecDepth 20000
set_option maxHeartbeats 2000000
set_option linter.unusedVariables false
set_option linter.unusedSimpArgs false
attribute [local irreducible] WL W QL WA SP

def zc22 : List Value := [.slice none 0 0]
theorem zer22 : Zer Try.prog 22 zc22 := ⟨_, Try.zeroValue22, rfl⟩

theorem liveL_le {F : Nat → Prop} {b : Nat} {c : Cfg} {p : PSt} {w : World} (h : PoolAt w F b c p) : (liveL p).length ≤ 16 := by
  obtain ⟨gl, cl, csl, rvs, aL, cL, aS, cS, H⟩ := h
  have h1 := List.length_filter_le (fun v : Nat => pLive p (v : Nat)) (List.range p.vs.length)
  have h2 := H.v64
  rw [List.length_range] at h1
  exact Nat.le_trans h1 h2

theorem live18_calls (F : Nat → Prop) (b : Nat) (c : Cfg) (p : PSt) (w : World) (hP : PoolAt w F b c p) (most : Int) : CallV Try.prog 47 #[.pointer (some ⟨b, 0, none⟩), i64 most] w fun v w' => (∃ a' c', v = .slice a' (takeM most (liveL p)).length c' ∧ Sli (fun n : Int => [i64 n]) 1 w' a' c' (ofNats (takeM most (liveL p))) ∧ ∀ k, owns a' k → w.heap.size ≤ k) ∧ Ext w w' := by
  have hX : Ext w w := Ext.rfl' w
  have hU : ∀ k, (fun k => w.heap.size ≤ k) k → w.heap.size ≤ k := fun _ h => h
  have hS : Star (fun k => w.heap.size ≤ k) w [] := Star.nil fun _ h => h
  generalize (fun k => w.heap.size ≤ k) = U at hU hS
  refine Calls.of_W (N := 23) Try.func47 rfl rfl rfl ?_
  refine W.reg ?_
  refine WL.box (v := .int _ _) rfl rfl rfl ?_
  intro b1 w1 hb1 hs1 hx1 hB1
  replace hS := hS.pushBox hb1 hx1 hB1
  replace hX := hX.tr hx1
  clear hB1 hs1
  refine WL.y (R.asg (v := .slice _ _ _) rfl) rfl ?_
  refine WL.nil ?_
  refine W.reg ?_
  refine WL.alloc zer22 rfl ?_
  intro b2 w2 hb2 hs2 hx2 hB2
  replace hS := hS.pushBox hb2 hx2 hB2
  replace hX := hX.tr hx2
  clear hB2 hs2
  refine WL.nil ?_
  refine W.reg ?_
  replace hS := hS.pushNil (fun n : Int => [i64 n]) 1
  refine WL.y (R.mv (v := .pointer _) rfl) rfl ?_
  refine WL.call Try.func125 rfl rfl (Live_calls _ _) rfl rfl ?_
  rintro _ w3 ⟨bc, rfl, hbc, hge3, hx3⟩
  replace hS := hS.push hx3 (A := boxA bc _) (F := fun k => k = bc) ⟨hbc, rfl⟩ (fun k hk => by omega)
  replace hX := hX.tr hx3
  refine WL.y (R.asg (v := _) rfl) rfl ?_
  refine WL.nil ?_
  refine W.seq ?_
  refine W.reg ?_
  refine WL.y (R.mv (v := _) rfl) rfl ?_
  refine WL.y (R.eqlNilF Try.underlying213 rfl) rfl ?_
  refine WL.nil ?_
  refine W.cond_f rfl ?_
  refine W.skip ?_
  refine W.seq ?_
  refine W.reg ?_
  refine WL.y (R.mv (v := _) rfl) rfl ?_
  refine WL.nil ?_
  refine W.block ?_
  obtain ⟨wk4, hwk4⟩ : ∃ W, W = w3 := ⟨_, rfl⟩
  rw [← hwk4] at hS hX ⊢
  clear hwk4
  have hXz4 := hX.size
  have hUn4 := hS.new
  refine W.range (gf := 170) (lb := [.pointer (some ⟨bc, 0, none⟩)]) rfl Try.func170 rfl rfl (Live_iter F b bc c p) (fun _ => rfl) (fun pre W => ∃ q : Option Addr × Nat, (∀ j, j < pre.length → ¬ (j : Int) = most) ∧ Ext w W ∧ Star (offD U wk4.heap.size) W [boxA bc [.pointer (some ⟨b, 0, none⟩)], slwA (fun n : Int => [i64 n]) 1 q.1 q.2 (ofNats pre), boxA b2 [.slice q.1 pre.length q.2], boxA b1 [i64 most]]) (fun c pre W => (c = (.exit 0) ∧ ∃ q : Option Addr × Nat, ((pre.dropLast.length : Int) = most) ∧ Ext w W ∧ Star (offD U wk4.heap.size) W [boxA bc [.pointer (some ⟨b, 0, none⟩)], slwA (fun n : Int => [i64 n]) 1 q.1 q.2 (ofNats pre.dropLast), boxA b2 [.slice q.1 pre.dropLast.length q.2], boxA b1 [i64 most]])) ?_ ?_ ?_ ?_ ?_ ?_ ?_
  · rintro pre W W' ⟨q, hp, hX, hS⟩ hu
    exact ⟨q, hp, hX.putU hu (fun k hk => by rcases hk with rfl | rfl <;> omega), hS.updD hu⟩
  · rintro c pre W W' ⟨hc, q, hp, hX, hS⟩ hu
    exact ⟨hc, q, hp, hX.putU hu (fun k hk => by rcases hk with rfl | rfl <;> omega), hS.updD hu⟩
  · rintro pre W ⟨⟨ao, co⟩, hp, hX, hS⟩
    dsimp only at hS
    exact ⟨hS.blk0, hP.ext hX⟩
  · intro W hx hz
    exact ⟨⟨none, 0⟩, (fun j hj => absurd hj (by simp)), hX.tr hx, hS.shutD hx hz⟩
  · skip
    rintro pre x rest WW oL oD hsp ⟨⟨ao, co⟩, hp, hX, hS⟩ hRL hRD
    try dsimp only at hX hS ⊢
    have hlp := liveL_le hP
    rw [hsp] at hlp
    simp at hlp
    refine W.region ?_
    refine WL.y (R.asg (v := .int _ _) rfl) rfl ?_
    refine WL.nil ?_
    refine ⟨rfl, hRL, hRD, ?_⟩
    intro W2 oL2 hu2 hz2 hRL hRD
    replace hX := hX.putU hu2 (fun k hk => by omega)
    replace hS := hS.updL hu2
    replace hS := hS.inD hRL hRD (hUn4 _ (by omega)) (hUn4 _ (by omega))
    clear hRL hRD hu2 hz2
    refine W.block ?_
    refine W.seq ?_
    refine W.reg ?_
    refine WL.y (R.load sca22 rfl (hS.blk4).r rfl) rfl ?_
    refine WL.y (R.lenS Try.underlying22 rfl) rfl ?_
    refine WL.y (R.load sca3 rfl (hS.blk5).r rfl) rfl ?_
    refine WL.fork (R.eql rfl rfl) rfl (fun hc7_3 => ?_) (fun hc7_3 => ?_)
    · skip
      replace hc7_3 := eq_of_beq hc7_3
      refine WL.nil ?_
      refine W.cond_t rfl ?_
      refine W.exit ?_
      rw [show pre = (pre ++ [x]).dropLast from List.dropLast_concat.symm] at hS
      obtain ⟨hS, hRL, hRD⟩ := hS.outD
      exact ⟨⟨rfl, ⟨ao, co⟩, (by rw [List.dropLast_concat]; exact hc7_3), hX, hS⟩, hRL, hRD⟩
    · skip
      replace hc7_3 := beq_F hc7_3
      refine WL.nil ?_
      refine W.cond_f rfl ?_
      refine W.skip ?_
      refine W.region ?_
      refine WL.y (R.load sca22 rfl (hS.blk4).r rfl) rfl ?_
      refine WL.y (R.mv (v := .int _ _) rfl) rfl ?_
      refine WL.buildSliceP (parts := [(0, .tmp 19)]) (ps := [(0, .int _ _)]) el22_3 rfl rfl rfl (by decide) rfl rfl ?_
      intro b5 w5 hb5 hs5 hx5 hB5
      have hL5 := Slw.one encI _ hB5 rfl
      replace hS := hS.pushSlw hx5 hL5 (fun k hk => by rw [owns_some] at hk; simp only at hk; omega)
      replace hX := hX.tr hx5
      clear hL5 hB5 hs5
      refine WL.appendS el22_3 encI rfl rfl (hS.slw4) (by simp) (hS.slw0).ro (by first | rfl | omega | (simp; done) | (simp; omega)) (by first | omega | (simp; omega)) (by first | omega | (simp; omega)) rfl ?_
      intro a6 c6 w6 hu6 hl6 hf6
      have hN := hS.app4 hu6 hl6 hf6
      replace hS := hN.1
      replace hX := hN.2 _ hX hU
      clear hN hu6 hl6 hf6
      replace hS := hS.drop0
      refine WL.store1 (v := .slice _ _ _) sca22 rfl rfl rfl hS.blk4 (Nat.le_of_ble_eq_true rfl) rfl ?_
      intro w7 hu7 hz7 hn7
      have hN := hS.box4 hu7 hn7
      replace hS := hN.1
      replace hX := hN.2 _ hX hU
      clear hN hn7 hu7 hz7
      refine WL.nil ?_
      rw [show pre.length + 1 = (pre ++ [x]).length by simp, show ofNats pre ++ [((x : Nat) : Int)] = ofNats (pre ++ [x]) by simp [ofNats]] at hS
      obtain ⟨hS, hRL, hRD⟩ := hS.outD
      exact ⟨⟨⟨a6, c6⟩, (fun j hj => by rw [List.length_append] at hj; simp at hj; rcases Nat.lt_or_ge j pre.length with h | h; exact hp j h; (obtain rfl : j = pre.length := by omega); exact hc7_3), hX, hS⟩, hRL, hRD⟩
  · skip
    rintro WZ ⟨⟨ao, co⟩, hp, hX, hS⟩ hD
    try dsimp only at hX hS ⊢
    replace hS := hS.onD hD (hUn4 _ (by omega))
    clear hD
    have htk := takeM_all hp
    refine W.reg ?_
    refine WL.y (R.load sca22 rfl (hS.blk3).r rfl) rfl ?_
    refine WL.y (R.asg (v := .slice _ _ _) rfl) rfl ?_
    refine WL.nil ?_
    refine W.ret ?_
    refine PR.mark (hS.raw0) ?_
    intro w8 hu8 hz8
    replace hX := hX.putU hu8 (fun k hk => by omega)
    replace hS := hS.endD hu8
    obtain ⟨_, ⟨hsl, rfl⟩, hfu⟩ := hS.get1
    exact PR.r1 rfl (.tmp rfl) ⟨⟨ao, co, by rw [htk]; rfl, by rw [htk]; exact hsl.ro, fun k hk => hU k (hfu k hk)⟩, hX⟩
  · skip
    rintro c pre WZ hpre ⟨rfl, ⟨ao, co⟩, hp, hX, hS⟩ hD
    try dsimp only at hX hS ⊢
    replace hS := hS.onD hD (hUn4 _ (by omega))
    clear hD
    have htk := takeM_pre hpre hp
    refine W.exit ?_
    refine W.reg ?_
    refine WL.y (R.load sca22 rfl (hS.blk3).r rfl) rfl ?_
    refine WL.y (R.asg (v := .slice _ _ _) rfl) rfl ?_
    refine WL.nil ?_
    refine W.ret ?_
    refine PR.mark (hS.raw0) ?_
    intro w9 hu9 hz9
    replace hX := hX.putU hu9 (fun k hk => by omega)
    replace hS := hS.endD hu9
    obtain ⟨_, ⟨hsl, rfl⟩, hfu⟩ := hS.get1
    exact PR.r1 rfl (.tmp rfl) ⟨⟨ao, co, by rw [htk]; rfl, by rw [htk]; exact hsl.ro, fun k hk => hU k (hfu k hk)⟩, hX⟩
end Go.Proofs.Ytkjecokkdbapkaa
