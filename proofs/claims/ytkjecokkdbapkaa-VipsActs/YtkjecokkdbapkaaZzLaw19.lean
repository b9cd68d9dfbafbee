import Derived.Test.YtkjecokkdbapkaaZzLike1
import Derived.Test.YtkjecokkdbapkaaProg
namespace Go.Proofs.Ytkjecokkdbapkaa
set_option linter.all false
open Go Go.Eng Go.RowKit
set_option maxRecDepth 20000
set_option maxHeartbeats 2000000
set_option linter.unusedVariables false
set_option linter.unusedSimpArgs false
attribute [local irreducible] WL W QL WA SP



def aKey : Key := mkKey 5 false false
def aVip : Vip := ⟨6, aKey.dst, 80⟩
def aVip2 : Vip := ⟨17, aKey.dst, 0⟩
abbrev l0 : List (Option Ent) := List.replicate 16 none
theorem l0_idx (v : Vip) : tIdx l0 v = -1 := idx_none fun i x hx => by
  have := List.mem_of_getElem? hx
  rw [List.mem_replicate] at this
  rw [this.2]; rfl
theorem l0_free : idx Option.isNone l0 = 0 := by kernel_rfl
theorem a_err : addErr (roomy 1) l0 aVip (servers [1] false) = 0 := by
  have h1 : (vipOK aVip && memsOK (servers [1] false)) = true := by rw [servers_ok, Bool.and_true]; kernel_rfl
  have h2 : (!(roomy 1).encap && kinds aVip (servers [1] false)) = false := by kernel_rfl
  simp only [addErr, h1, h2, l0_idx, l0_free]; rfl
theorem mem0_ok : memsOK [] = true := rfl
theorem tIdx_put (v : Vip) (e : Ent) (h : e.v = v) : tIdx (l0.set 0 (some e)) v = 0 := by
  rw [← h]
  have := rel_new (l := l0) (n := 0) (e := e) rfl (by rw [l0_idx]; decide) e.v
  rw [this, if_pos rfl]; rfl
theorem a_err2 (b : Nat) (p : PSt) : addErr (roomy 1) (l0.set 0 (some ⟨aVip, b, p⟩)) aVip [] = 6 := by
  have h1 : (vipOK aVip && memsOK []) = true := by rw [mem0_ok, Bool.and_true]; kernel_rfl
  have h2 : (!(roomy 1).encap && kinds aVip []) = false := by kernel_rfl
  simp only [addErr, h1, h2, tIdx_put aVip ⟨aVip, b, p⟩ rfl]; rfl
theorem a_err3 (l : List (Option Ent)) : addErr (roomy 1) l aVip2 (servers [1] true) = 1 := by
  have h1 : (vipOK aVip2 && memsOK (servers [1] true)) = true := by rw [servers_ok, Bool.and_true]; kernel_rfl
  have h2 : (!(roomy 1).encap && kinds aVip2 (servers [1] true)) = true := by kernel_rfl
  simp only [addErr, h1, h2]; rfl
theorem a_of (b : Nat) (p : PSt) : ofR (l0.set 0 (some ⟨aVip, b, p⟩)) aKey = .tuple #[i64 0, bl true] := by
  have h1 : keyOK aKey = true := by kernel_rfl
  have h2 : keyVip aKey = aVip := by kernel_rfl
  simp only [ofR, h1, if_true, findR, h2, tIdx_put aVip ⟨aVip, b, p⟩ rfl]; rfl
theorem a_has (e : Ent) : tHas (l0.set 0 (some e)) 0 = some e := tHas_at (k := 0) rfl
theorem a_gone (e : Ent) : tHas ((l0.set 0 (some e)).set 0 none) 0 = none := tHas_at (k := 0) rfl
theorem a_count (e : Ent) : count ((l0.set 0 (some e)).set 0 none) = 0 := rfl
theorem a_ok : vipOK aVip = true := by kernel_rfl
theorem a_bad : vipOK vip0 = false := by kernel_rfl
theorem a_enc : encVip aVip = [u8 6] ++ encAdr aKey.dst ++ [u16 80] := rfl

theorem awake19_calls (w : World) : CallV Try.prog 19 #[] w fun v w' => v = bl true ∧ Ext w w' := by
  have hX : Ext w w := Ext.rfl' w
  refine Calls.of_W (N := 162) Try.func19 rfl rfl rfl ?_
  refine W.reg ?_
  refine WL.y (R.asg (v := .bool false) rfl) rfl ?_
  refine WL.nil ?_
  refine W.reg ?_
  refine WL.call Try.func21 rfl rfl (roomy_calls 1 _) rfl rfl ?_
  rintro _ w1 ⟨rfl, hx1⟩
  have hz1 := hx1.size
  replace hX := hX.tr hx1
  refine WL.call Try.func20 rfl rfl (TNew_calls (roomy 1) (roomy_ok 1) _) rfl rfl ?_
  rintro _ w2 ⟨⟨bt, rfl, hT⟩, hx2⟩
  have hz2 := hx2.size
  have hXz := hX.size
  replace hX := hX.tr hx2
  obtain ⟨F, hF⟩ : ∃ F, F = (fun k => w1.heap.size ≤ k ∧ k < w2.heap.size) := ⟨_, rfl⟩
  rw [← hF] at hT
  have hTlo : ∀ k, F k → w.heap.size ≤ k := fun k hk => by rw [hF] at hk; have := hk.1; omega
  clear hF
  refine WL.y (R.mv (v := .tuple _) rfl) rfl ?_
  refine WL.y (R.extract rfl rfl) rfl ?_
  refine WL.y (R.extract rfl rfl) rfl ?_
  refine WL.y (R.asg (v := .pointer _) rfl) rfl ?_
  refine WL.y (R.asg (v := .int _ _) rfl) rfl ?_
  refine WL.nil ?_
  refine W.reg ?_
  refine WL.y (R.buildE (parts := []) (vs := encCfg cfg0) bld33 (by kernel_rfl) (by kernel_rfl)) rfl ?_
  refine WL.call Try.func20 rfl rfl (TNew_zero _) rfl rfl ?_
  rintro _ w3 ⟨rfl, hx3⟩
  have hz3 := hx3.size
  replace hX := hX.tr hx3
  have hTl := hT.lt
  replace hT := hT.ext hx3
  refine WL.y (R.mv (v := .tuple _) rfl) rfl ?_
  refine WL.y (R.extract rfl rfl) rfl ?_
  refine WL.y (R.extract rfl rfl) rfl ?_
  refine WL.y (R.asg (v := .pointer _) rfl) rfl ?_
  refine WL.y (R.asg (v := .int _ _) rfl) rfl ?_
  refine WL.nil ?_
  refine W.seq ?_
  refine W.reg ?_
  refine WL.y (R.mv (v := .int _ _) rfl) rfl ?_
  refine WL.y (R.neqF rfl rfl rfl) rfl ?_
  refine WL.y (R.mv (v := .bool false) rfl) rfl ?_
  refine WL.y (R.mv (v := .pointer _) rfl) rfl ?_
  refine WL.y (R.eqlNil Try.underlying24 rfl) rfl ?_
  refine WL.y (R.pkF (v := .bool false) rfl rfl) rfl ?_
  refine WL.nil ?_
  refine W.cond_f rfl ?_
  refine W.skip ?_
  refine W.reg ?_
  refine WL.call Try.func22 rfl rfl (mkKey_calls 5 false false _) rfl rfl ?_
  rintro _ w4 ⟨rfl, hx4⟩
  have hz4 := hx4.size
  replace hX := hX.tr hx4
  have hTl := hT.lt
  replace hT := hT.ext hx4
  refine WL.alloc zer37 rfl ?_
  intro b5 w5 hb5 hs5 hx5 hB5
  have hge5 := hX.size
  replace hX := hX.tr hx5
  have hTl := hT.lt
  replace hT := hT.ext hx5
  have hnhT_b5 : ¬ F b5 := fun h => by have := hTl _ h; omega
  refine WL.store (v := .agg _) siz37 rfl rfl rfl rfl hB5 (Nat.le_of_ble_eq_true rfl) rfl rfl ?_
  intro w6 hu6 hz6 hn6
  replace hX := hX.put hu6 (by omega)
  replace hT := hT.upd hu6 (fun k hk he => hnhT_b5 (he ▸ hk))
  replace hB5 := hn6; clear hn6
  refine WL.nil ?_
  refine W.reg ?_
  refine WL.y (R.fieldAddr fo37_2 rfl) rfl ?_
  refine WL.y (R.loadA agg30 rfl (hB5).r rfl rfl) rfl ?_
  refine WL.y (R.buildE (parts := [(0, .const (.int .u8 6)), (1, .tmp 39), (2, .const (.int .u16 80))]) (vs := encVip aVip) bld42 (by kernel_rfl) (by kernel_rfl)) rfl ?_
  refine WL.alloc zer42 rfl ?_
  intro b7 w7 hb7 hs7 hx7 hB7
  have hge7 := hX.size
  replace hX := hX.tr hx7
  have hTl := hT.lt
  replace hT := hT.ext hx7
  replace hB5 := hx7.blk hB5
  have hnhT_b7 : ¬ F b7 := fun h => by have := hTl _ h; omega
  refine WL.store (v := .agg _) siz42 rfl rfl rfl rfl hB7 (Nat.le_of_ble_eq_true rfl) rfl rfl ?_
  intro w8 hu8 hz8 hn8
  replace hX := hX.put hu8 (by omega)
  replace hT := hT.upd hu8 (fun k hk he => hnhT_b7 (he ▸ hk))
  replace hB5 := hu8.blk (by omega) hB5
  replace hB7 := hn8; clear hn8
  refine WL.nil ?_
  refine W.seq ?_
  refine W.draw (fun j => [4].contains j) (fun wI => Ext w8 wI) rfl ?_
  have hI9 := Ext.dr w8
  refine WA.batch [0, 1] 8 (by kernel_rfl) hI9 ?_
  refine QL.y (fun wq hq => (R.mv (v := .pointer _) rfl)) rfl ?_
  refine QL.y (fun wq hq => (R.loadA agg42 rfl (hq.blkR (hB7).r) rfl rfl)) rfl ?_
  refine QL.nil ?_
  have hD9 := Ext.dr w8
  have hD9z := hD9.size
  replace hX := hX.tr hD9
  have hTl := hT.lt
  replace hT := hT.ext hD9
  replace hB5 := hD9.blk hB5
  replace hB7 := hD9.blk hB7
  refine WA.one 2 7 (by kernel_rfl) ?_
  refine WL.buildSliceP (parts := [(0, .const (.int .i64 1))]) (ps := [(0, (.int .i64 1))]) el22_3 rfl rfl rfl (by decide) rfl rfl ?_
  intro b10 w10 hb10 hs10 hx10 hB10
  have hge10 := hX.size
  replace hX := hX.tr hx10
  have hTl := hT.lt
  replace hT := hT.ext hx10
  replace hB5 := hx10.blk hB5
  replace hB7 := hx10.blk hB7
  refine WL.nil ?_
  refine ⟨fun _ h => h.tr hx10, ?_⟩
  replace hI9 := hI9.tr hx10
  refine WA.one 3 6 (by kernel_rfl) ?_
  refine WL.call (vs := [.slice (some ⟨b10, 0, none⟩) 1 1, bl false]) Try.func67 rfl rfl (Servers_calls [1] (by decide) false _ 1 _ (Sli.one encI 1 hB10 rfl)) rfl rfl ?_
  rintro _ w11 ⟨⟨a11, c11, rfl, hsl11, hof11⟩, hx11⟩
  have hz11 := hx11.size
  replace hX := hX.tr hx11
  have hTl := hT.lt
  replace hT := hT.ext hx11
  replace hB5 := hx11.blk hB5
  replace hB7 := hx11.blk hB7
  refine WL.nil ?_
  refine ⟨fun _ h => h.tr hx11, ?_⟩
  replace hI9 := hI9.tr hx11
  refine WA.one 4 5 (by kernel_rfl) ?_
  refine WL.call Try.func23 rfl rfl (Add_calls F bt (roomy 1) (List.replicate 16 none) _ hT aVip (servers [1] false) _ _ hsl11) rfl rfl ?_
  rintro _ w12 (⟨hae, _⟩ | ⟨_, n12, b12, F1, hi12, hg12, rfl, hu12, hT, hF2⟩)
  · exact absurd a_err hae
  replace hX := hX.putU hu12 hTlo
  have hlt_b5 := hB5.lt
  replace hB5 := hu12.blk hnhT_b5 hB5
  have hlt_b7 := hB7.lt
  replace hB7 := hu12.blk hnhT_b7 hB7
  have hoz := hu12.size
  replace hnhT_b5 : ¬ F1 b5 := fun h => by rcases hF2 _ h with h | h; exact hnhT_b5 h; omega
  replace hnhT_b7 : ¬ F1 b7 := fun h => by rcases hF2 _ h with h | h; exact hnhT_b7 h; omega
  replace hTlo : ∀ k, F1 k → w.heap.size ≤ k := fun k hk => by rcases hF2 k hk with h | h; exact hTlo k h; have := hX.size; omega
  have hn12 : n12 = 0 := by have := hi12; rw [l0_free] at this; omega
  subst hn12
  refine WL.nil ?_
  refine ⟨fun h => (by cases h), ?_⟩
  refine WA.pures [5, 6, 7, 8, 9] 0 (by kernel_rfl) ?_
  refine QL.y (fun wq hq => (R.mv (v := .tuple _) rfl)) rfl ?_
  refine QL.y (fun wq hq => (R.extract rfl rfl)) rfl ?_
  refine QL.y (fun wq hq => (R.extract rfl rfl)) rfl ?_
  refine QL.y (fun wq hq => (R.asg (v := .int _ _) rfl)) rfl ?_
  refine QL.y (fun wq hq => (R.asg (v := .int _ _) rfl)) rfl ?_
  refine QL.nil ?_
  refine WA.done (by kernel_rfl) ?_
  refine W.reg ?_
  refine WL.y (R.mv (v := .pointer _) rfl) rfl ?_
  refine WL.y (R.loadA agg42 rfl (hB7).r rfl rfl) rfl ?_
  refine WL.call Try.func23 rfl rfl (Add_calls F1 bt (roomy 1) (l0.set 0 (some ⟨aVip, b12, pNew (roomy 1) (servers [1] false)⟩)) _ hT aVip [] _ _ (Sli.nil encMem 19 _)) rfl rfl ?_
  have herr13 : addErr (roomy 1) (l0.set 0 (some ⟨aVip, b12, pNew (roomy 1) (servers [1] false)⟩)) aVip [] = 6 := a_err2 _ _
  rw [herr13]
  rintro _ w13 (⟨_, rfl, hx13⟩ | ⟨hae, _⟩)
  rotate_left
  · exact absurd hae (by decide)
  have hz13 := hx13.size
  replace hX := hX.tr hx13
  have hTl := hT.lt
  replace hT := hT.ext hx13
  replace hB5 := hx13.blk hB5
  replace hB7 := hx13.blk hB7
  refine WL.y (R.mv (v := .tuple _) rfl) rfl ?_
  refine WL.y (R.extract rfl rfl) rfl ?_
  refine WL.y (R.extract rfl rfl) rfl ?_
  refine WL.y (R.asg (v := .int _ _) rfl) rfl ?_
  refine WL.y (R.asg (v := .int _ _) rfl) rfl ?_
  refine WL.nil ?_
  refine W.seq ?_
  refine W.draw (fun j => [6].contains j) (fun wI => Ext w13 wI) rfl ?_
  have hI14 := Ext.dr w13
  refine WA.batch [0, 1, 2, 3] 8 (by kernel_rfl) hI14 ?_
  refine QL.y (fun wq hq => (R.mv (v := .pointer _) rfl)) rfl ?_
  refine QL.y (fun wq hq => (R.fieldAddr fo37_2 rfl)) rfl ?_
  refine QL.y (fun wq hq => (R.loadA agg30 rfl (hq.blkR (hB5).r) rfl rfl)) rfl ?_
  refine QL.y (fun wq hq => (R.buildE (parts := [(0, .const (.int .u8 17)), (1, .tmp 58)]) (vs := encVip aVip2) bld42 (by kernel_rfl) (by kernel_rfl))) rfl ?_
  refine QL.nil ?_
  have hD14 := Ext.dr w13
  have hD14z := hD14.size
  replace hX := hX.tr hD14
  have hTl := hT.lt
  replace hT := hT.ext hD14
  replace hB5 := hD14.blk hB5
  replace hB7 := hD14.blk hB7
  refine WA.one 4 7 (by kernel_rfl) ?_
  refine WL.buildSliceP (parts := [(0, .const (.int .i64 1))]) (ps := [(0, (.int .i64 1))]) el22_3 rfl rfl rfl (by decide) rfl rfl ?_
  intro b15 w15 hb15 hs15 hx15 hB15
  have hge15 := hX.size
  replace hX := hX.tr hx15
  have hTl := hT.lt
  replace hT := hT.ext hx15
  replace hB5 := hx15.blk hB5
  replace hB7 := hx15.blk hB7
  refine WL.nil ?_
  refine ⟨fun _ h => h.tr hx15, ?_⟩
  replace hI14 := hI14.tr hx15
  refine WA.one 5 6 (by kernel_rfl) ?_
  refine WL.call (vs := [.slice (some ⟨b15, 0, none⟩) 1 1, bl true]) Try.func67 rfl rfl (Servers_calls [1] (by decide) true _ 1 _ (Sli.one encI 1 hB15 rfl)) rfl rfl ?_
  rintro _ w16 ⟨⟨a16, c16, rfl, hsl16, hof16⟩, hx16⟩
  have hz16 := hx16.size
  replace hX := hX.tr hx16
  have hTl := hT.lt
  replace hT := hT.ext hx16
  replace hB5 := hx16.blk hB5
  replace hB7 := hx16.blk hB7
  refine WL.nil ?_
  refine ⟨fun _ h => h.tr hx16, ?_⟩
  replace hI14 := hI14.tr hx16
  refine WA.one 6 5 (by kernel_rfl) ?_
  refine WL.call Try.func23 rfl rfl (Add_calls F1 bt (roomy 1) (l0.set 0 (some ⟨aVip, b12, pNew (roomy 1) (servers [1] false)⟩)) _ hT aVip2 (servers [1] true) _ _ hsl16) rfl rfl ?_
  have herr17 : addErr (roomy 1) (l0.set 0 (some ⟨aVip, b12, pNew (roomy 1) (servers [1] false)⟩)) aVip2 (servers [1] true) = 1 := a_err3 _
  rw [herr17]
  rintro _ w17 (⟨_, rfl, hx17⟩ | ⟨hae, _⟩)
  rotate_left
  · exact absurd hae (by decide)
  have hz17 := hx17.size
  replace hX := hX.tr hx17
  have hTl := hT.lt
  replace hT := hT.ext hx17
  replace hB5 := hx17.blk hB5
  replace hB7 := hx17.blk hB7
  refine WL.nil ?_
  refine ⟨fun h => (by cases h), ?_⟩
  refine WA.pures [7, 8, 9, 10, 11] 0 (by kernel_rfl) ?_
  refine QL.y (fun wq hq => (R.mv (v := .tuple _) rfl)) rfl ?_
  refine QL.y (fun wq hq => (R.extract rfl rfl)) rfl ?_
  refine QL.y (fun wq hq => (R.extract rfl rfl)) rfl ?_
  refine QL.y (fun wq hq => (R.asg (v := .int _ _) rfl)) rfl ?_
  refine QL.y (fun wq hq => (R.asg (v := .int _ _) rfl)) rfl ?_
  refine QL.nil ?_
  refine WA.done (by kernel_rfl) ?_
  refine W.reg ?_
  refine WL.y (R.mv (v := .pointer _) rfl) rfl ?_
  refine WL.y (R.loadA agg37 rfl (hB5).r rfl rfl) rfl ?_
  refine WL.call Try.func28 rfl rfl ((Of_calls F1 bt (roomy 1) (l0.set 0 (some ⟨aVip, b12, pNew (roomy 1) (servers [1] false)⟩)) _ hT aKey).val (a_of _ _)) rfl rfl ?_
  rintro _ w18 ⟨rfl, hx18⟩
  have hz18 := hx18.size
  replace hX := hX.tr hx18
  have hTl := hT.lt
  replace hT := hT.ext hx18
  replace hB5 := hx18.blk hB5
  replace hB7 := hx18.blk hB7
  refine WL.y (R.mv (v := .tuple _) rfl) rfl ?_
  refine WL.y (R.extract rfl rfl) rfl ?_
  refine WL.y (R.extract rfl rfl) rfl ?_
  refine WL.y (R.asg (v := .int _ _) rfl) rfl ?_
  refine WL.y (R.asg (v := .bool true) rfl) rfl ?_
  refine WL.nil ?_
  refine W.reg ?_
  refine WL.y (R.mv (v := .pointer _) rfl) rfl ?_
  refine WL.call Try.func25 rfl rfl ((Vip_calls F1 bt (roomy 1) (l0.set 0 (some ⟨aVip, b12, pNew (roomy 1) (servers [1] false)⟩)) _ hT 0).val (y := .tuple #[encVv aVip, bl true]) (by rw [a_has])) rfl rfl ?_
  rintro _ w19 ⟨rfl, hx19⟩
  have hz19 := hx19.size
  replace hX := hX.tr hx19
  have hTl := hT.lt
  replace hT := hT.ext hx19
  replace hB5 := hx19.blk hB5
  replace hB7 := hx19.blk hB7
  refine WL.y (R.mv (v := .tuple _) rfl) rfl ?_
  refine WL.y (R.extract rfl rfl) rfl ?_
  refine WL.y (R.extract rfl rfl) rfl ?_
  refine WL.alloc zer42 rfl ?_
  intro b20 w20 hb20 hs20 hx20 hB20
  have hge20 := hX.size
  replace hX := hX.tr hx20
  have hTl := hT.lt
  replace hT := hT.ext hx20
  replace hB5 := hx20.blk hB5
  replace hB7 := hx20.blk hB7
  have hnhT_b20 : ¬ F1 b20 := fun h => by have := hTl _ h; omega
  refine WL.store (v := .agg _) siz42 rfl rfl rfl rfl hB20 (Nat.le_of_ble_eq_true rfl) rfl rfl ?_
  intro w21 hu21 hz21 hn21
  replace hX := hX.put hu21 (by omega)
  replace hT := hT.upd hu21 (fun k hk he => hnhT_b20 (he ▸ hk))
  replace hB5 := hu21.blk (by omega) hB5
  replace hB7 := hu21.blk (by omega) hB7
  replace hB20 := hn21; clear hn21
  refine WL.y (R.asg (v := .bool true) rfl) rfl ?_
  refine WL.nil ?_
  refine W.reg ?_
  refine WL.y (R.mv (v := .pointer _) rfl) rfl ?_
  refine WL.call Try.func62 rfl rfl ((Pools_calls F1 bt (roomy 1) (l0.set 0 (some ⟨aVip, b12, pNew (roomy 1) (servers [1] false)⟩)) _ hT 0).val (y := .pointer (some ⟨_, 0, none⟩)) (by rw [a_has])) rfl rfl ?_
  rintro _ w22 ⟨rfl, hx22⟩
  have hz22 := hx22.size
  replace hX := hX.tr hx22
  have hTl := hT.lt
  replace hT := hT.ext hx22
  replace hB5 := hx22.blk hB5
  replace hB7 := hx22.blk hB7
  replace hB20 := hx22.blk hB20
  refine WL.y (R.asg (v := .pointer _) rfl) rfl ?_
  refine WL.nil ?_
  refine W.reg ?_
  refine WL.y (R.mv (v := .pointer _) rfl) rfl ?_
  refine WL.call Try.func26 rfl rfl (Remove_yes F1 bt (roomy 1) (l0.set 0 (some ⟨aVip, b12, pNew (roomy 1) (servers [1] false)⟩)) _ hT 0 _ rfl) rfl rfl ?_
  rintro _ w23 ⟨rfl, hu23, hT, Fe, hP, hFe⟩
  have hF2 : ∀ k, F1 k → F1 k ∨ w22.heap.size ≤ k := fun k hk => .inl hk
  replace hX := hX.putU hu23 hTlo
  have hlt_b5 := hB5.lt
  replace hB5 := hu23.blk hnhT_b5 hB5
  have hlt_b7 := hB7.lt
  replace hB7 := hu23.blk hnhT_b7 hB7
  have hlt_b20 := hB20.lt
  replace hB20 := hu23.blk hnhT_b20 hB20
  have hoz := hu23.size
  replace hnhT_b5 : ¬ F1 b5 := fun h => by rcases hF2 _ h with h | h; exact hnhT_b5 h; omega
  replace hnhT_b7 : ¬ F1 b7 := fun h => by rcases hF2 _ h with h | h; exact hnhT_b7 h; omega
  replace hnhT_b20 : ¬ F1 b20 := fun h => by rcases hF2 _ h with h | h; exact hnhT_b20 h; omega
  replace hTlo : ∀ k, F1 k → w.heap.size ≤ k := fun k hk => by rcases hF2 k hk with h | h; exact hTlo k h; have := hX.size; omega
  refine WL.y (R.asg (v := .int _ _) rfl) rfl ?_
  refine WL.nil ?_
  refine W.reg ?_
  refine WL.y (R.mv (v := .pointer _) rfl) rfl ?_
  refine WL.call Try.func26 rfl rfl (Remove_no F1 bt (roomy 1) ((l0.set 0 (some ⟨aVip, b12, pNew (roomy 1) (servers [1] false)⟩)).set 0 none) _ hT 0 (a_gone _)) rfl rfl ?_
  rintro _ w24 ⟨rfl, hx24⟩
  have hz24 := hx24.size
  replace hX := hX.tr hx24
  have hTl := hT.lt
  replace hT := hT.ext hx24
  replace hB5 := hx24.blk hB5
  replace hB7 := hx24.blk hB7
  replace hB20 := hx24.blk hB20
  replace hP := hP.ext hx24
  refine WL.y (R.asg (v := .int _ _) rfl) rfl ?_
  refine WL.nil ?_
  refine W.reg ?_
  refine WL.y (R.asg (v := .pointer _) rfl) rfl ?_
  refine WL.nil ?_
  refine W.reg ?_
  refine WL.y (R.mv (v := .int _ _) rfl) rfl ?_
  refine WL.y (R.eqlT rfl rfl rfl) rfl ?_
  refine WL.y (R.mv (v := .bool true) rfl) rfl ?_
  refine WL.y (R.mv (v := .int _ _) rfl) rfl ?_
  refine WL.y (R.eqlT rfl rfl rfl) rfl ?_
  refine WL.y (R.pkT (v := .bool true) rfl rfl) rfl ?_
  refine WL.y (R.mv (v := .bool true) rfl) rfl ?_
  refine WL.y (R.mv (v := .int _ _) rfl) rfl ?_
  refine WL.y (R.eqlT rfl rfl rfl) rfl ?_
  refine WL.y (R.pkT (v := .bool true) rfl rfl) rfl ?_
  refine WL.y (R.mv (v := .bool true) rfl) rfl ?_
  refine WL.y (R.mv (v := .int _ _) rfl) rfl ?_
  refine WL.y (R.eqlT rfl rfl rfl) rfl ?_
  refine WL.y (R.pkT (v := .bool true) rfl rfl) rfl ?_
  refine WL.y (R.mv (v := .bool true) rfl) rfl ?_
  refine WL.y (R.mv (v := .int _ _) rfl) rfl ?_
  refine WL.y (R.eqlT rfl rfl rfl) rfl ?_
  refine WL.y (R.pkT (v := .bool true) rfl rfl) rfl ?_
  refine WL.y (R.mv (v := .bool true) rfl) rfl ?_
  refine WL.y (R.mv (v := .bool true) rfl) rfl ?_
  refine WL.y (R.pkT (v := .bool true) rfl rfl) rfl ?_
  refine WL.y (R.mv (v := .bool true) rfl) rfl ?_
  refine WL.y (R.mv (v := .int _ _) rfl) rfl ?_
  refine WL.y (R.eqlT rfl rfl rfl) rfl ?_
  refine WL.y (R.pkT (v := .bool true) rfl rfl) rfl ?_
  refine WL.y (R.mv (v := .bool true) rfl) rfl ?_
  refine WL.y (R.mv (v := .bool true) rfl) rfl ?_
  refine WL.y (R.pkT (v := .bool true) rfl rfl) rfl ?_
  refine WL.y (R.mv (v := .bool true) rfl) rfl ?_
  refine WL.y (R.loadA agg42 rfl (hB20).r rfl rfl) rfl ?_
  refine WL.y (R.loadA agg42 rfl (hB7).r rfl rfl) rfl ?_
  refine WL.y (R.eqlAT (xs := encVip aVip) (ys := encVip aVip) eq42 (by decide) agg42 Try.eqGuardType42 rfl rfl (typed_vip _) (typed_vip _) (q := true) (by rw [veq_vip]; decide)) rfl ?_
  refine WL.y (R.pkT (v := .bool true) rfl rfl) rfl ?_
  refine WL.y (R.mv (v := .bool true) rfl) rfl ?_
  refine WL.y (R.mv (v := .pointer _) rfl) rfl ?_
  refine WL.y (R.neqNil Try.underlying61 rfl) rfl ?_
  refine WL.y (R.pkT (v := .bool true) rfl rfl) rfl ?_
  refine WL.y (R.mv (v := .bool true) rfl) rfl ?_
  refine WL.y (R.mv (v := .pointer _) rfl) rfl ?_
  refine WL.call Try.func45 rfl rfl (Last_calls _ _ _ _ _ hP) rfl rfl ?_
  rintro _ w25 ⟨⟨a25, c25, rfl, _, _⟩, hx25⟩
  have hz25 := hx25.size
  replace hX := hX.tr hx25
  have hTl := hT.lt
  replace hT := hT.ext hx25
  replace hB5 := hx25.blk hB5
  replace hB7 := hx25.blk hB7
  replace hB20 := hx25.blk hB20
  replace hP := hP.ext hx25
  refine WL.y (R.lenS Try.underlying52 rfl) rfl ?_
  refine WL.y (R.eqlT rfl rfl (by kernel_rfl)) rfl ?_
  refine WL.y (R.pkT (v := .bool true) rfl rfl) rfl ?_
  refine WL.y (R.mv (v := .bool true) rfl) rfl ?_
  refine WL.y (R.mv (v := .int _ _) rfl) rfl ?_
  refine WL.y (R.eqlT rfl rfl rfl) rfl ?_
  refine WL.y (R.pkT (v := .bool true) rfl rfl) rfl ?_
  refine WL.y (R.mv (v := .bool true) rfl) rfl ?_
  refine WL.y (R.mv (v := .int _ _) rfl) rfl ?_
  refine WL.y (R.eqlT rfl rfl rfl) rfl ?_
  refine WL.y (R.pkT (v := .bool true) rfl rfl) rfl ?_
  refine WL.y (R.mv (v := .bool true) rfl) rfl ?_
  refine WL.y (R.mv (v := .pointer _) rfl) rfl ?_
  refine WL.call Try.func27 rfl rfl (Len_calls F1 bt (roomy 1) ((l0.set 0 (some ⟨aVip, b12, pNew (roomy 1) (servers [1] false)⟩)).set 0 none) _ hT) rfl rfl ?_
  rintro _ w26 ⟨rfl, hx26⟩
  have hz26 := hx26.size
  replace hX := hX.tr hx26
  have hTl := hT.lt
  replace hT := hT.ext hx26
  replace hB5 := hx26.blk hB5
  replace hB7 := hx26.blk hB7
  replace hB20 := hx26.blk hB20
  replace hP := hP.ext hx26
  refine WL.y (R.eqlT rfl rfl (by rw [a_count]; rfl)) rfl ?_
  refine WL.y (R.pkT (v := .bool true) rfl rfl) rfl ?_
  refine WL.y (R.mv (v := .bool true) rfl) rfl ?_
  refine WL.y (R.loadA agg42 rfl (hB7).r rfl rfl) rfl ?_
  refine WL.call Try.func60 rfl rfl ((vipValid_calls aVip _).val (y := bl true) (by rw [a_ok])) rfl rfl ?_
  rintro _ w27 ⟨rfl, hx27⟩
  have hz27 := hx27.size
  replace hX := hX.tr hx27
  have hTl := hT.lt
  replace hT := hT.ext hx27
  replace hB5 := hx27.blk hB5
  replace hB7 := hx27.blk hB7
  replace hB20 := hx27.blk hB20
  replace hP := hP.ext hx27
  refine WL.y (R.pkT (v := .bool true) rfl rfl) rfl ?_
  refine WL.y (R.mv (v := .bool true) rfl) rfl ?_
  refine WL.y (R.buildE (parts := []) (vs := encVip vip0) bld42 (by kernel_rfl) (by kernel_rfl)) rfl ?_
  refine WL.call Try.func60 rfl rfl ((vipValid_calls vip0 _).val (y := bl false) (by rw [a_bad])) rfl rfl ?_
  rintro _ w28 ⟨rfl, hx28⟩
  have hz28 := hx28.size
  replace hX := hX.tr hx28
  have hTl := hT.lt
  replace hT := hT.ext hx28
  replace hB5 := hx28.blk hB5
  replace hB7 := hx28.blk hB7
  replace hB20 := hx28.blk hB20
  replace hP := hP.ext hx28
  refine WL.y (R.notF rfl) rfl ?_
  refine WL.y (R.pkT (v := .bool true) rfl rfl) rfl ?_
  refine WL.y (R.mv (v := .bool true) rfl) rfl ?_
  refine WL.y (R.mv (v := .pointer _) rfl) rfl ?_
  refine WL.call Try.func27 rfl rfl (Len_nil _) rfl rfl ?_
  rintro _ w29 ⟨rfl, hx29⟩
  have hz29 := hx29.size
  replace hX := hX.tr hx29
  have hTl := hT.lt
  replace hT := hT.ext hx29
  replace hB5 := hx29.blk hB5
  replace hB7 := hx29.blk hB7
  replace hB20 := hx29.blk hB20
  replace hP := hP.ext hx29
  refine WL.y (R.eqlT rfl rfl rfl) rfl ?_
  refine WL.y (R.pkT (v := .bool true) rfl rfl) rfl ?_
  refine WL.y (R.mv (v := .bool true) rfl) rfl ?_
  refine WL.y (R.mv (v := .pointer _) rfl) rfl ?_
  refine WL.call Try.func62 rfl rfl (Pools_nil 0 _) rfl rfl ?_
  rintro _ w30 ⟨rfl, hx30⟩
  have hz30 := hx30.size
  replace hX := hX.tr hx30
  have hTl := hT.lt
  replace hT := hT.ext hx30
  replace hB5 := hx30.blk hB5
  replace hB7 := hx30.blk hB7
  replace hB20 := hx30.blk hB20
  replace hP := hP.ext hx30
  refine WL.y (R.eqlNil Try.underlying61 rfl) rfl ?_
  refine WL.y (R.pkT (v := .bool true) rfl rfl) rfl ?_
  refine WL.y (R.mv (v := .bool true) rfl) rfl ?_
  refine WL.y (R.mv (v := .pointer _) rfl) rfl ?_
  refine WL.call Try.func26 rfl rfl (Remove_nil 0 _) rfl rfl ?_
  rintro _ w31 ⟨rfl, hx31⟩
  have hz31 := hx31.size
  replace hX := hX.tr hx31
  have hTl := hT.lt
  replace hT := hT.ext hx31
  replace hB5 := hx31.blk hB5
  replace hB7 := hx31.blk hB7
  replace hB20 := hx31.blk hB20
  replace hP := hP.ext hx31
  refine WL.y (R.eqlT rfl rfl rfl) rfl ?_
  refine WL.y (R.pkT (v := .bool true) rfl rfl) rfl ?_
  refine WL.y (R.asg (v := .bool true) rfl) rfl ?_
  refine WL.nil ?_
  refine W.ret ?_
  exact PR.r1 rfl (.tmp rfl) ⟨rfl, hX⟩
end Go.Proofs.Ytkjecokkdbapkaa
