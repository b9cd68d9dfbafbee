import Derived.Test.YtkjecokkdbapkaaZzVips4
import Derived.Test.YtkjecokkdbapkaaProg
namespace Go.Proofs.Ytkjecokkdbapkaa
set_option linter.all false
open Go Go.Eng Go.RowKit
set_option maxRecDepth 20000
set_option maxHeartbeats 2000000
set_option linter.unusedVariables false
set_option linter.unusedSimpArgs false
attribute [local irreducible] WL W QL WA SP



theorem PoolAt.updB {b : Nat} {w w' : World} {F : Nat → Prop} {bp : Nat} {c : Cfg} {p : PSt} (h : PoolAt w F bp c p) (hu : Upd (fun k => k = b) w w') (hS : ∀ k, F k → k ≠ b) : PoolAt w' F bp c p := h.upd hu hS

theorem Add_good_e (F : Nat → Prop) (bt : Nat) (c : Cfg) (l : List (Option Ent)) (w : World) (hT : TabAt w F bt c l) (v : Vip) (ms : List Mem) (a : Option Addr) (cc : Nat) (hS : Sli encMem 19 w a cc ms) (hv : vipOK v = true) (hm : memsOK ms = true) (hen : c.encap = true) (ht : tIdx l v < 0) (n : Nat) (hf : idx Option.isNone l = n) (hn : l[n]? = some none) : CallV Try.prog 23 #[.pointer (some ⟨bt, 0, none⟩), encVv v, .slice a ms.length cc] w fun r w' => ∃ b F', r = .tuple #[i64 (n : Nat), i64 0] ∧ Upd F w w' ∧ TabAt w' F' bt c (l.set n (some ⟨v, b, pNew c ms⟩)) ∧ ∀ k, F' k → F k ∨ w.heap.size ≤ k := by
  have hU : Upd F w w := Upd.rfl' F w
  have hX : Ext w w := Ext.rfl' w
  obtain ⟨bm, cs, ml, Fs, H⟩ := hT
  have hA := H.arr
  have hl16 := H.len
  have hM := H.mp
  have hbt := hA.blk.lt
  have hbm := hM.lt
  have hne := H.ne
  have hUP : Upd (fun k => k = bt ∨ k = bm) w w := Upd.rfl' _ w
  have hSl := hS.lt
  have hget := H.rel v
  rw [if_pos ht] at hget
  have hnl : n < l.length := (List.getElem?_eq_some_iff.1 hn).1
  refine Calls.of_W (N := 82) Try.func23 rfl rfl rfl ?_
  refine W.reg ?_
  refine WL.box (v := .agg _) rfl rfl rfl ?_
  intro b1 w1 hb1 hs1 hx1 hB1
  have hge1 := hX.size
  replace hUP := hUP.tr (hx1.upd _)
  replace hU := hU.tr (hx1.upd _)
  replace hX := hX.tr hx1
  replace hA := hA.ext hx1
  replace hM := hx1.map hM
  replace hS := hS.ext hx1
  refine WL.y (R.asg (v := .int _ _) rfl) rfl ?_
  refine WL.y (R.asg (v := .int _ _) rfl) rfl ?_
  refine WL.nil ?_
  refine W.seq ?_
  refine W.reg ?_
  refine WL.y (R.mv (v := .pointer _) rfl) rfl ?_
  refine WL.y (R.eqlNil Try.underlying24 rfl) rfl ?_
  refine WL.y (R.mv (v := .bool false) rfl) rfl ?_
  refine WL.y (R.loadA agg42 rfl (hB1).r rfl rfl) rfl ?_
  refine WL.call Try.func60 rfl rfl ((vipValid_calls v _).val (y := bl true) (by rw [hv])) rfl rfl ?_
  rintro _ w2 ⟨rfl, hx2⟩
  have hz2 := hx2.size
  replace hUP := hUP.tr (hx2.upd _)
  replace hU := hU.tr (hx2.upd _)
  replace hX := hX.tr hx2
  replace hA := hA.ext hx2
  replace hM := hx2.map hM
  replace hS := hS.ext hx2
  replace hB1 := hx2.blk hB1
  refine WL.y (R.notT rfl) rfl ?_
  refine WL.y (R.pkF (v := .bool false) rfl rfl) rfl ?_
  refine WL.y (R.mv (v := .bool false) rfl) rfl ?_
  refine WL.y (R.mv (v := .slice _ _ _) rfl) rfl ?_
  refine WL.call Try.func109 rfl rfl ((Check_calls ms a cc _ hS).val (y := i64 0) (by rw [hm]; rfl)) rfl rfl ?_
  rintro _ w3 ⟨rfl, hx3⟩
  have hz3 := hx3.size
  replace hUP := hUP.tr (hx3.upd _)
  replace hU := hU.tr (hx3.upd _)
  replace hX := hX.tr hx3
  replace hA := hA.ext hx3
  replace hM := hx3.map hM
  replace hS := hS.ext hx3
  replace hB1 := hx3.blk hB1
  refine WL.y (R.neqF rfl rfl rfl) rfl ?_
  refine WL.y (R.pkF (v := .bool false) rfl rfl) rfl ?_
  refine WL.nil ?_
  refine W.cond_f rfl ?_
  refine W.skip ?_
  refine W.seq ?_
  refine W.reg ?_
  refine WL.y (R.mv (v := .pointer _) rfl) rfl ?_
  refine WL.y (R.nilCheck rfl) rfl ?_
  refine WL.y (R.fieldAddr fo189_0 rfl) rfl ?_
  refine WL.y (R.fieldAddr fo33_12 rfl) rfl ?_
  refine WL.y (R.load sca4 rfl (hA.blk).r ((H.cfgAt (by decide)).trans (congrArg some (congrArg Value.bool hen)))) rfl ?_
  refine WL.y (R.notT rfl) rfl ?_
  refine WL.y (R.mv (v := .bool false) rfl) rfl ?_
  refine WL.skip rfl ?_
  refine WL.skip rfl ?_
  refine WL.skip rfl ?_
  refine WL.y (R.pkF (v := .bool false) rfl rfl) rfl ?_
  refine WL.nil ?_
  refine W.cond_f rfl ?_
  refine W.skip ?_
  refine W.seq ?_
  refine W.seq ?_
  refine W.draw (fun j => [1000].contains j) (fun wI => Ext w3 wI) rfl ?_
  have hI4 := Ext.dr w3
  refine WA.batch [0, 1, 2, 3, 4, 5, 6, 7, 8, 9, 10] 0 (by kernel_rfl) hI4 ?_
  refine QL.y (fun wq hq => (R.mv (v := .pointer _) rfl)) rfl ?_
  refine QL.y (fun wq hq => (R.nilCheck rfl)) rfl ?_
  refine QL.y (fun wq hq => (R.fieldAddr fo189_2 rfl)) rfl ?_
  refine QL.y (fun wq hq => (R.load sca184 rfl (hq.blkR (hA.blk).r) H.map)) rfl ?_
  refine QL.y (fun wq hq => (R.loadA agg42 rfl (hq.blkR (hB1).r) rfl rfl)) rfl ?_
  refine QL.y (fun wq hq => (R.lookF keyVipL Try.underlying184 Try.zeroValue3 rfl (hq.map hM) (k := v) rfl hget)) rfl ?_
  refine QL.y (fun wq hq => (R.mv (v := .tuple _) rfl)) rfl ?_
  refine QL.y (fun wq hq => (R.extract rfl rfl)) rfl ?_
  refine QL.y (fun wq hq => (R.extract rfl rfl)) rfl ?_
  refine QL.y (fun wq hq => (R.asg (v := .int _ _) rfl)) rfl ?_
  refine QL.y (fun wq hq => (R.asg (v := .bool false) rfl)) rfl ?_
  refine QL.nil ?_
  have hD4 := Ext.dr w3
  have hD4z := hD4.size
  replace hUP := hUP.tr (hD4.upd _)
  replace hU := hU.tr (hD4.upd _)
  replace hX := hX.tr hD4
  replace hA := hA.ext hD4
  replace hM := hD4.map hM
  replace hS := hS.ext hD4
  replace hB1 := hD4.blk hB1
  refine WA.done (by kernel_rfl) ?_
  refine W.reg ?_
  refine WL.y (R.mv (v := .bool false) rfl) rfl ?_
  refine WL.nil ?_
  refine W.cond_f rfl ?_
  refine W.skip ?_
  refine W.reg ?_
  refine WL.y (R.mv (v := .pointer _) rfl) rfl ?_
  refine WL.y (R.nilCheck rfl) rfl ?_
  refine WL.y (R.fieldAddr fo189_1 rfl) rfl ?_
  refine WL.y (R.sliceA Try.underlying187 siz186 rfl) rfl ?_
  refine WL.call (vs := [.slice (some ⟨bt, 48, none⟩) l.length 16, .func (.func 113) #[] #[]]) Try.func112 rfl rfl ((IndexFuncE_calls 113 _ _ [] Option.isNone Try.func113 rfl rfl l (by omega) (some ⟨bt, 48, none⟩) 16 _ hA.cl.ro (fun x w' hx => AddE_calls x w')).val (y := i64 ((n : Nat) : Int)) (by rw [hf])) (by rw [hl16]; rfl) rfl ?_
  rintro _ w5 ⟨rfl, hx5⟩
  have hz5 := hx5.size
  replace hUP := hUP.tr (hx5.upd _)
  replace hU := hU.tr (hx5.upd _)
  replace hX := hX.tr hx5
  replace hA := hA.ext hx5
  replace hM := hx5.map hM
  replace hS := hS.ext hx5
  replace hB1 := hx5.blk hB1
  refine WL.y (R.asg (v := .int _ _) rfl) rfl ?_
  refine WL.nil ?_
  refine W.seq ?_
  refine W.reg ?_
  refine WL.y (R.mv (v := .int _ _) rfl) rfl ?_
  refine WL.y (R.lssF rfl rfl (by omega)) rfl ?_
  refine WL.nil ?_
  refine W.cond_f rfl ?_
  refine W.skip ?_
  refine W.reg ?_
  refine WL.y (R.mv (v := .pointer _) rfl) rfl ?_
  refine WL.y (R.nilCheck rfl) rfl ?_
  refine WL.y (R.fieldAddr fo189_0 rfl) rfl ?_
  refine WL.y (R.loadA agg33 rfl (hA.blk).r H.cfg rfl) rfl ?_
  refine WL.y (R.mv (v := .slice _ _ _) rfl) rfl ?_
  refine WL.call Try.func32 rfl rfl (New_good c H.ok ms a cc _ hS hm) rfl rfl ?_
  rintro _ w6 ⟨⟨bp, rfl, hbp, hP⟩, hx6⟩
  have hz6 := hx6.size
  replace hUP := hUP.tr (hx6.upd _)
  replace hU := hU.tr (hx6.upd _)
  replace hX := hX.tr hx6
  replace hA := hA.ext hx6
  replace hM := hx6.map hM
  replace hS := hS.ext hx6
  replace hB1 := hx6.blk hB1
  refine WL.y (R.mv (v := .tuple _) rfl) rfl ?_
  refine WL.y (R.extract rfl rfl) rfl ?_
  refine WL.y (R.extract rfl rfl) rfl ?_
  refine WL.y (R.asg (v := .pointer _) rfl) rfl ?_
  refine WL.y (R.asg (v := .int _ _) rfl) rfl ?_
  refine WL.nil ?_
  refine W.seq ?_
  refine W.reg ?_
  refine WL.y (R.mv (v := .int _ _) rfl) rfl ?_
  refine WL.y (R.neqF rfl rfl rfl) rfl ?_
  refine WL.nil ?_
  refine W.cond_f rfl ?_
  refine W.skip ?_
  refine W.seq ?_
  refine W.draw (fun _ => false) (fun wI => Blk wI b1 (encVip v) ∧ ∃ cs2, Blk wI bt cs2 ∧ cs2[368]? = some (.map (some bm))) rfl ?_
  have hD := Ext.dr w6
  have hDz := hD.size
  replace hUP := hUP.tr (hD.upd _)
  replace hU := hU.tr (hD.upd _)
  replace hA := hA.ext hD
  replace hM := hD.map hM
  replace hB1 := hD.blk hB1
  replace hP := hP.ext hD
  refine WA.batch [0, 1, 2, 3, 4, 5, 6, 7, 8, 9, 10, 11, 12, 13] 4 (by kernel_rfl) ⟨hB1, _, hA.blk, H.map⟩ ?_
  refine QL.y (fun wq hq => (R.mv (v := .pointer _) rfl)) rfl ?_
  refine QL.y (fun wq hq => (R.mv (v := .int _ _) rfl)) rfl ?_
  refine QL.y (fun wq hq => (R.mv (v := .pointer _) rfl)) rfl ?_
  refine QL.y (fun wq hq => (R.nilCheck rfl)) rfl ?_
  refine QL.y (fun wq hq => (R.fieldAddr fo189_2 rfl)) rfl ?_
  refine QL.y (v := .map (some bm)) (fun wq hq => by obtain ⟨_, cs2, h2, h3⟩ := hq; exact R.load sca184 rfl h2.r h3) rfl ?_
  refine QL.y (fun wq hq => (R.loadA agg42 rfl hq.1.r rfl rfl)) rfl ?_
  refine QL.y (fun wq hq => (R.loadA agg42 rfl hq.1.r rfl rfl)) rfl ?_
  refine QL.y (fun wq hq => (R.mv (v := .pointer _) rfl)) rfl ?_
  refine QL.y (fun wq hq => (R.buildE (parts := [(0, .tmp 72), (1, .tmp 73)]) (vs := encE (some ⟨v, bp, pNew c ms⟩)) bld186 (by kernel_rfl) (by kernel_rfl))) rfl ?_
  refine QL.y (fun wq hq => (R.mv (v := .int _ _) rfl)) rfl ?_
  refine QL.y (fun wq hq => (R.nilCheck rfl)) rfl ?_
  refine QL.y (fun wq hq => (R.fieldAddr fo189_1 rfl)) rfl ?_
  refine QL.y (fun wq hq => (R.indexA Try.underlying187 siz186 rfl rfl (i := n) (by omega))) rfl ?_
  refine QL.nil ?_
  refine WA.one 14 3 (by kernel_rfl) ?_
  refine WL.store (v := .agg _) siz186 rfl rfl rfl rfl hA.blk (hA.bound (by omega)) rfl rfl ?_
  intro w7 hu7 hz7 hn7
  replace hUP := hUP.tr (hu7.mono (fun k _ hk => by subst hk; first | exact .inl rfl | exact .inr rfl))
  replace hU := hU.tr (hu7.mono (fun k _ hk => by subst hk; first | exact H.ft | exact H.fm))
  replace hM := hu7.map (by omega) hM
  replace hB1 := hu7.blk (by omega) hB1
  replace hP := hP.updB hu7 (fun k hk => by have := hk.1; omega)
  replace hA := hA.put encEE (by omega) (some ⟨v, bp, pNew c ms⟩) hn7; clear hn7
  refine WL.nil ?_
  have hmap2 := (put_map (cs := cs) (vs := encE (some ⟨v, bp, pNew c ms⟩)) (off := 48 + n * 20) (by rw [encEE.len]; omega) (by rw [encEE.len, H.clen]; omega)).trans H.map
  refine ⟨fun _ _ => ⟨hB1, _, hA.blk, hmap2⟩, ?_⟩
  refine WA.one 15 2 (by kernel_rfl) ?_
  refine WL.mapEntry keyVipL Try.underlying184 Try.zeroValue3 rfl hM (k := v) rfl hget rfl ?_
  intro w8 cc8 hu8 hz8 hN
  replace hUP := hUP.tr (hu8.mono (fun k _ hk => by subst hk; first | exact .inl rfl | exact .inr rfl))
  replace hU := hU.tr (hu8.mono (fun k _ hk => by subst hk; first | exact H.ft | exact H.fm))
  replace hA := hA.updB hu8 (by omega)
  replace hB1 := hu8.blk (by omega) hB1
  replace hP := hP.updB hu8 (fun k hk => by have := hk.1; omega)
  refine WL.nil ?_
  refine ⟨fun _ _ => ⟨hB1, _, hA.blk, hmap2⟩, ?_⟩
  refine WA.pures [16] 1 (by kernel_rfl) ?_
  refine QL.y (fun wq hq => (R.extract rfl rfl)) rfl ?_
  refine QL.nil ?_
  refine WA.one 17 0 (by kernel_rfl) ?_
  refine WL.entryStore rfl rfl rfl hN rfl ?_
  intro w9 hu9 hz9 hM2
  replace hUP := hUP.tr (hu9.mono (fun k _ hk => by subst hk; first | exact .inl rfl | exact .inr rfl))
  replace hU := hU.tr (hu9.mono (fun k _ hk => by subst hk; first | exact H.ft | exact H.fm))
  replace hA := hA.updB hu9 (by omega)
  replace hB1 := hu9.blk (by omega) hB1
  replace hP := hP.updB hu9 (fun k hk => by have := hk.1; omega)
  refine WL.nil ?_
  refine ⟨fun _ _ => ⟨hB1, _, hA.blk, hmap2⟩, ?_⟩
  refine WA.done (by kernel_rfl) ?_
  refine W.reg ?_
  refine WL.y (R.mv (v := .int _ _) rfl) rfl ?_
  refine WL.y (R.asg (v := .int _ _) rfl) rfl ?_
  refine WL.y (R.asg (v := .int _ _) rfl) rfl ?_
  refine WL.nil ?_
  refine W.ret ?_
  have hT := H.add (e := ⟨v, bp, pNew c ms⟩) (Fp := fun k => _) hn ht hU.size hA hM2 hP (fun k hk => by have := hk.1; omega) (fun i q hq => (H.pool i q hq).1.upd hUP (fun k' hk' hs => by have := (H.pool i q hq).2 k' hk'; rcases hs with rfl | rfl <;> omega))
  exact PR.r2 rfl (.tmp rfl) (.tmp rfl) ⟨bp, _, rfl, hU, ⟨_, _, _, _, hT⟩, fun k hk => hk.imp_right (fun h => by have := h.1; omega)⟩

theorem Add_good_n (F : Nat → Prop) (bt : Nat) (c : Cfg) (l : List (Option Ent)) (w : World) (hT : TabAt w F bt c l) (v : Vip) (ms : List Mem) (a : Option Addr) (cc : Nat) (hS : Sli encMem 19 w a cc ms) (hv : vipOK v = true) (hm : memsOK ms = true) (hen : c.encap = false) (hkd : kinds v ms = false) (ht : tIdx l v < 0) (n : Nat) (hf : idx Option.isNone l = n) (hn : l[n]? = some none) : CallV Try.prog 23 #[.pointer (some ⟨bt, 0, none⟩), encVv v, .slice a ms.length cc] w fun r w' => ∃ b F', r = .tuple #[i64 (n : Nat), i64 0] ∧ Upd F w w' ∧ TabAt w' F' bt c (l.set n (some ⟨v, b, pNew c ms⟩)) ∧ ∀ k, F' k → F k ∨ w.heap.size ≤ k := by
  have hU : Upd F w w := Upd.rfl' F w
  have hX : Ext w w := Ext.rfl' w
  obtain ⟨bm, cs, ml, Fs, H⟩ := hT
  have hA := H.arr
  have hl16 := H.len
  have hM := H.mp
  have hbt := hA.blk.lt
  have hbm := hM.lt
  have hne := H.ne
  have hUP : Upd (fun k => k = bt ∨ k = bm) w w := Upd.rfl' _ w
  have hSl := hS.lt
  have hget := H.rel v
  rw [if_pos ht] at hget
  have hnl : n < l.length := (List.getElem?_eq_some_iff.1 hn).1
  refine Calls.of_W (N := 82) Try.func23 rfl rfl rfl ?_
  refine W.reg ?_
  refine WL.box (v := .agg _) rfl rfl rfl ?_
  intro b1 w1 hb1 hs1 hx1 hB1
  have hge1 := hX.size
  replace hUP := hUP.tr (hx1.upd _)
  replace hU := hU.tr (hx1.upd _)
  replace hX := hX.tr hx1
  replace hA := hA.ext hx1
  replace hM := hx1.map hM
  replace hS := hS.ext hx1
  refine WL.y (R.asg (v := .int _ _) rfl) rfl ?_
  refine WL.y (R.asg (v := .int _ _) rfl) rfl ?_
  refine WL.nil ?_
  refine W.seq ?_
  refine W.reg ?_
  refine WL.y (R.mv (v := .pointer _) rfl) rfl ?_
  refine WL.y (R.eqlNil Try.underlying24 rfl) rfl ?_
  refine WL.y (R.mv (v := .bool false) rfl) rfl ?_
  refine WL.y (R.loadA agg42 rfl (hB1).r rfl rfl) rfl ?_
  refine WL.call Try.func60 rfl rfl ((vipValid_calls v _).val (y := bl true) (by rw [hv])) rfl rfl ?_
  rintro _ w2 ⟨rfl, hx2⟩
  have hz2 := hx2.size
  replace hUP := hUP.tr (hx2.upd _)
  replace hU := hU.tr (hx2.upd _)
  replace hX := hX.tr hx2
  replace hA := hA.ext hx2
  replace hM := hx2.map hM
  replace hS := hS.ext hx2
  replace hB1 := hx2.blk hB1
  refine WL.y (R.notT rfl) rfl ?_
  refine WL.y (R.pkF (v := .bool false) rfl rfl) rfl ?_
  refine WL.y (R.mv (v := .bool false) rfl) rfl ?_
  refine WL.y (R.mv (v := .slice _ _ _) rfl) rfl ?_
  refine WL.call Try.func109 rfl rfl ((Check_calls ms a cc _ hS).val (y := i64 0) (by rw [hm]; rfl)) rfl rfl ?_
  rintro _ w3 ⟨rfl, hx3⟩
  have hz3 := hx3.size
  replace hUP := hUP.tr (hx3.upd _)
  replace hU := hU.tr (hx3.upd _)
  replace hX := hX.tr hx3
  replace hA := hA.ext hx3
  replace hM := hx3.map hM
  replace hS := hS.ext hx3
  replace hB1 := hx3.blk hB1
  refine WL.y (R.neqF rfl rfl rfl) rfl ?_
  refine WL.y (R.pkF (v := .bool false) rfl rfl) rfl ?_
  refine WL.nil ?_
  refine W.cond_f rfl ?_
  refine W.skip ?_
  refine W.seq ?_
  refine W.reg ?_
  refine WL.y (R.mv (v := .pointer _) rfl) rfl ?_
  refine WL.y (R.nilCheck rfl) rfl ?_
  refine WL.y (R.fieldAddr fo189_0 rfl) rfl ?_
  refine WL.y (R.fieldAddr fo33_12 rfl) rfl ?_
  refine WL.y (R.load sca4 rfl (hA.blk).r ((H.cfgAt (by decide)).trans (congrArg some (congrArg Value.bool hen)))) rfl ?_
  refine WL.y (R.notF rfl) rfl ?_
  refine WL.y (R.mv (v := .bool true) rfl) rfl ?_
  refine WL.y (R.mv (v := .slice _ _ _) rfl) rfl ?_
  refine WL.y (R.makeFuncP (cap := [.tmp 4]) (vs := [.pointer _]) rfl) rfl ?_
  refine WL.call (vs := [.slice a ms.length cc, .func (.func 111) #[] #[.pointer (some ⟨b1, 0, none⟩)]]) Try.func110 rfl rfl ((Contains_calls 111 _ _ [.pointer (some ⟨b1, 0, none⟩)] (fun x => !(x.dip.adr.v6 == v.adr.v6)) Try.func111 rfl rfl ms (by have := memsOK_len hm; omega) a cc _ hS (fun x w' hx => AddK_calls x v b1 w' (hx.blk hB1))).val (y := bl false) (by rw [← hkd]; rfl)) rfl rfl ?_
  rintro _ w4 ⟨rfl, hx4⟩
  have hz4 := hx4.size
  replace hUP := hUP.tr (hx4.upd _)
  replace hU := hU.tr (hx4.upd _)
  replace hX := hX.tr hx4
  replace hA := hA.ext hx4
  replace hM := hx4.map hM
  replace hS := hS.ext hx4
  replace hB1 := hx4.blk hB1
  refine WL.y (R.pkT (v := .bool false) rfl rfl) rfl ?_
  refine WL.nil ?_
  refine W.cond_f rfl ?_
  refine W.skip ?_
  refine W.seq ?_
  refine W.seq ?_
  refine W.draw (fun j => [1000].contains j) (fun wI => Ext w4 wI) rfl ?_
  have hI5 := Ext.dr w4
  refine WA.batch [0, 1, 2, 3, 4, 5, 6, 7, 8, 9, 10] 0 (by kernel_rfl) hI5 ?_
  refine QL.y (fun wq hq => (R.mv (v := .pointer _) rfl)) rfl ?_
  refine QL.y (fun wq hq => (R.nilCheck rfl)) rfl ?_
  refine QL.y (fun wq hq => (R.fieldAddr fo189_2 rfl)) rfl ?_
  refine QL.y (fun wq hq => (R.load sca184 rfl (hq.blkR (hA.blk).r) H.map)) rfl ?_
  refine QL.y (fun wq hq => (R.loadA agg42 rfl (hq.blkR (hB1).r) rfl rfl)) rfl ?_
  refine QL.y (fun wq hq => (R.lookF keyVipL Try.underlying184 Try.zeroValue3 rfl (hq.map hM) (k := v) rfl hget)) rfl ?_
  refine QL.y (fun wq hq => (R.mv (v := .tuple _) rfl)) rfl ?_
  refine QL.y (fun wq hq => (R.extract rfl rfl)) rfl ?_
  refine QL.y (fun wq hq => (R.extract rfl rfl)) rfl ?_
  refine QL.y (fun wq hq => (R.asg (v := .int _ _) rfl)) rfl ?_
  refine QL.y (fun wq hq => (R.asg (v := .bool false) rfl)) rfl ?_
  refine QL.nil ?_
  have hD5 := Ext.dr w4
  have hD5z := hD5.size
  replace hUP := hUP.tr (hD5.upd _)
  replace hU := hU.tr (hD5.upd _)
  replace hX := hX.tr hD5
  replace hA := hA.ext hD5
  replace hM := hD5.map hM
  replace hS := hS.ext hD5
  replace hB1 := hD5.blk hB1
  refine WA.done (by kernel_rfl) ?_
  refine W.reg ?_
  refine WL.y (R.mv (v := .bool false) rfl) rfl ?_
  refine WL.nil ?_
  refine W.cond_f rfl ?_
  refine W.skip ?_
  refine W.reg ?_
  refine WL.y (R.mv (v := .pointer _) rfl) rfl ?_
  refine WL.y (R.nilCheck rfl) rfl ?_
  refine WL.y (R.fieldAddr fo189_1 rfl) rfl ?_
  refine WL.y (R.sliceA Try.underlying187 siz186 rfl) rfl ?_
  refine WL.call (vs := [.slice (some ⟨bt, 48, none⟩) l.length 16, .func (.func 113) #[] #[]]) Try.func112 rfl rfl ((IndexFuncE_calls 113 _ _ [] Option.isNone Try.func113 rfl rfl l (by omega) (some ⟨bt, 48, none⟩) 16 _ hA.cl.ro (fun x w' hx => AddE_calls x w')).val (y := i64 ((n : Nat) : Int)) (by rw [hf])) (by rw [hl16]; rfl) rfl ?_
  rintro _ w6 ⟨rfl, hx6⟩
  have hz6 := hx6.size
  replace hUP := hUP.tr (hx6.upd _)
  replace hU := hU.tr (hx6.upd _)
  replace hX := hX.tr hx6
  replace hA := hA.ext hx6
  replace hM := hx6.map hM
  replace hS := hS.ext hx6
  replace hB1 := hx6.blk hB1
  refine WL.y (R.asg (v := .int _ _) rfl) rfl ?_
  refine WL.nil ?_
  refine W.seq ?_
  refine W.reg ?_
  refine WL.y (R.mv (v := .int _ _) rfl) rfl ?_
  refine WL.y (R.lssF rfl rfl (by omega)) rfl ?_
  refine WL.nil ?_
  refine W.cond_f rfl ?_
  refine W.skip ?_
  refine W.reg ?_
  refine WL.y (R.mv (v := .pointer _) rfl) rfl ?_
  refine WL.y (R.nilCheck rfl) rfl ?_
  refine WL.y (R.fieldAddr fo189_0 rfl) rfl ?_
  refine WL.y (R.loadA agg33 rfl (hA.blk).r H.cfg rfl) rfl ?_
  refine WL.y (R.mv (v := .slice _ _ _) rfl) rfl ?_
  refine WL.call Try.func32 rfl rfl (New_good c H.ok ms a cc _ hS hm) rfl rfl ?_
  rintro _ w7 ⟨⟨bp, rfl, hbp, hP⟩, hx7⟩
  have hz7 := hx7.size
  replace hUP := hUP.tr (hx7.upd _)
  replace hU := hU.tr (hx7.upd _)
  replace hX := hX.tr hx7
  replace hA := hA.ext hx7
  replace hM := hx7.map hM
  replace hS := hS.ext hx7
  replace hB1 := hx7.blk hB1
  refine WL.y (R.mv (v := .tuple _) rfl) rfl ?_
  refine WL.y (R.extract rfl rfl) rfl ?_
  refine WL.y (R.extract rfl rfl) rfl ?_
  refine WL.y (R.asg (v := .pointer _) rfl) rfl ?_
  refine WL.y (R.asg (v := .int _ _) rfl) rfl ?_
  refine WL.nil ?_
  refine W.seq ?_
  refine W.reg ?_
  refine WL.y (R.mv (v := .int _ _) rfl) rfl ?_
  refine WL.y (R.neqF rfl rfl rfl) rfl ?_
  refine WL.nil ?_
  refine W.cond_f rfl ?_
  refine W.skip ?_
  refine W.seq ?_
  refine W.draw (fun _ => false) (fun wI => Blk wI b1 (encVip v) ∧ ∃ cs2, Blk wI bt cs2 ∧ cs2[368]? = some (.map (some bm))) rfl ?_
  have hD := Ext.dr w7
  have hDz := hD.size
  replace hUP := hUP.tr (hD.upd _)
  replace hU := hU.tr (hD.upd _)
  replace hA := hA.ext hD
  replace hM := hD.map hM
  replace hB1 := hD.blk hB1
  replace hP := hP.ext hD
  refine WA.batch [0, 1, 2, 3, 4, 5, 6, 7, 8, 9, 10, 11, 12, 13] 4 (by kernel_rfl) ⟨hB1, _, hA.blk, H.map⟩ ?_
  refine QL.y (fun wq hq => (R.mv (v := .pointer _) rfl)) rfl ?_
  refine QL.y (fun wq hq => (R.mv (v := .int _ _) rfl)) rfl ?_
  refine QL.y (fun wq hq => (R.mv (v := .pointer _) rfl)) rfl ?_
  refine QL.y (fun wq hq => (R.nilCheck rfl)) rfl ?_
  refine QL.y (fun wq hq => (R.fieldAddr fo189_2 rfl)) rfl ?_
  refine QL.y (v := .map (some bm)) (fun wq hq => by obtain ⟨_, cs2, h2, h3⟩ := hq; exact R.load sca184 rfl h2.r h3) rfl ?_
  refine QL.y (fun wq hq => (R.loadA agg42 rfl hq.1.r rfl rfl)) rfl ?_
  refine QL.y (fun wq hq => (R.loadA agg42 rfl hq.1.r rfl rfl)) rfl ?_
  refine QL.y (fun wq hq => (R.mv (v := .pointer _) rfl)) rfl ?_
  refine QL.y (fun wq hq => (R.buildE (parts := [(0, .tmp 72), (1, .tmp 73)]) (vs := encE (some ⟨v, bp, pNew c ms⟩)) bld186 (by kernel_rfl) (by kernel_rfl))) rfl ?_
  refine QL.y (fun wq hq => (R.mv (v := .int _ _) rfl)) rfl ?_
  refine QL.y (fun wq hq => (R.nilCheck rfl)) rfl ?_
  refine QL.y (fun wq hq => (R.fieldAddr fo189_1 rfl)) rfl ?_
  refine QL.y (fun wq hq => (R.indexA Try.underlying187 siz186 rfl rfl (i := n) (by omega))) rfl ?_
  refine QL.nil ?_
  refine WA.one 14 3 (by kernel_rfl) ?_
  refine WL.store (v := .agg _) siz186 rfl rfl rfl rfl hA.blk (hA.bound (by omega)) rfl rfl ?_
  intro w8 hu8 hz8 hn8
  replace hUP := hUP.tr (hu8.mono (fun k _ hk => by subst hk; first | exact .inl rfl | exact .inr rfl))
  replace hU := hU.tr (hu8.mono (fun k _ hk => by subst hk; first | exact H.ft | exact H.fm))
  replace hM := hu8.map (by omega) hM
  replace hB1 := hu8.blk (by omega) hB1
  replace hP := hP.updB hu8 (fun k hk => by have := hk.1; omega)
  replace hA := hA.put encEE (by omega) (some ⟨v, bp, pNew c ms⟩) hn8; clear hn8
  refine WL.nil ?_
  have hmap2 := (put_map (cs := cs) (vs := encE (some ⟨v, bp, pNew c ms⟩)) (off := 48 + n * 20) (by rw [encEE.len]; omega) (by rw [encEE.len, H.clen]; omega)).trans H.map
  refine ⟨fun _ _ => ⟨hB1, _, hA.blk, hmap2⟩, ?_⟩
  refine WA.one 15 2 (by kernel_rfl) ?_
  refine WL.mapEntry keyVipL Try.underlying184 Try.zeroValue3 rfl hM (k := v) rfl hget rfl ?_
  intro w9 cc9 hu9 hz9 hN
  replace hUP := hUP.tr (hu9.mono (fun k _ hk => by subst hk; first | exact .inl rfl | exact .inr rfl))
  replace hU := hU.tr (hu9.mono (fun k _ hk => by subst hk; first | exact H.ft | exact H.fm))
  replace hA := hA.updB hu9 (by omega)
  replace hB1 := hu9.blk (by omega) hB1
  replace hP := hP.updB hu9 (fun k hk => by have := hk.1; omega)
  refine WL.nil ?_
  refine ⟨fun _ _ => ⟨hB1, _, hA.blk, hmap2⟩, ?_⟩
  refine WA.pures [16] 1 (by kernel_rfl) ?_
  refine QL.y (fun wq hq => (R.extract rfl rfl)) rfl ?_
  refine QL.nil ?_
  refine WA.one 17 0 (by kernel_rfl) ?_
  refine WL.entryStore rfl rfl rfl hN rfl ?_
  intro w10 hu10 hz10 hM2
  replace hUP := hUP.tr (hu10.mono (fun k _ hk => by subst hk; first | exact .inl rfl | exact .inr rfl))
  replace hU := hU.tr (hu10.mono (fun k _ hk => by subst hk; first | exact H.ft | exact H.fm))
  replace hA := hA.updB hu10 (by omega)
  replace hB1 := hu10.blk (by omega) hB1
  replace hP := hP.updB hu10 (fun k hk => by have := hk.1; omega)
  refine WL.nil ?_
  refine ⟨fun _ _ => ⟨hB1, _, hA.blk, hmap2⟩, ?_⟩
  refine WA.done (by kernel_rfl) ?_
  refine W.reg ?_
  refine WL.y (R.mv (v := .int _ _) rfl) rfl ?_
  refine WL.y (R.asg (v := .int _ _) rfl) rfl ?_
  refine WL.y (R.asg (v := .int _ _) rfl) rfl ?_
  refine WL.nil ?_
  refine W.ret ?_
  have hT := H.add (e := ⟨v, bp, pNew c ms⟩) (Fp := fun k => _) hn ht hU.size hA hM2 hP (fun k hk => by have := hk.1; omega) (fun i q hq => (H.pool i q hq).1.upd hUP (fun k' hk' hs => by have := (H.pool i q hq).2 k' hk'; rcases hs with rfl | rfl <;> omega))
  exact PR.r2 rfl (.tmp rfl) (.tmp rfl) ⟨bp, _, rfl, hU, ⟨_, _, _, _, hT⟩, fun k hk => hk.imp_right (fun h => by have := h.1; omega)⟩

theorem Add_calls (F : Nat → Prop) (bt : Nat) (c : Cfg) (l : List (Option Ent)) (w : World) (hT : TabAt w F bt c l) (v : Vip) (ms : List Mem) (a : Option Addr) (cc : Nat) (hS : Sli encMem 19 w a cc ms) : CallV Try.prog 23 #[.pointer (some ⟨bt, 0, none⟩), encVv v, .slice a ms.length cc] w fun r w' =>
    (addErr c l v ms ≠ 0 ∧ r = .tuple #[i64 0, i64 (addErr c l v ms)] ∧ Ext w w') ∨
    (addErr c l v ms = 0 ∧ ∃ (n b : Nat) (F' : Nat → Prop), idx Option.isNone l = n ∧ l[n]? = some none ∧ r = .tuple #[i64 (n : Nat), i64 0] ∧ Upd F w w' ∧ TabAt w' F' bt c (l.set n (some ⟨v, b, pNew c ms⟩)) ∧ ∀ k, F' k → F k ∨ w.heap.size ≤ k) := by
  have bad : ∀ e : Int, addErr c l v ms = e → e ≠ 0 → (CallV Try.prog 23 #[.pointer (some ⟨bt, 0, none⟩), encVv v, .slice a ms.length cc] w fun r w' => r = .tuple #[i64 0, i64 e] ∧ Ext w w') → CallV Try.prog 23 #[.pointer (some ⟨bt, 0, none⟩), encVv v, .slice a ms.length cc] w fun r w' =>
    (addErr c l v ms ≠ 0 ∧ r = .tuple #[i64 0, i64 (addErr c l v ms)] ∧ Ext w w') ∨
    (addErr c l v ms = 0 ∧ ∃ (n b : Nat) (F' : Nat → Prop), idx Option.isNone l = n ∧ l[n]? = some none ∧ r = .tuple #[i64 (n : Nat), i64 0] ∧ Upd F w w' ∧ TabAt w' F' bt c (l.set n (some ⟨v, b, pNew c ms⟩)) ∧ ∀ k, F' k → F k ∨ w.heap.size ≤ k) :=
    fun e he h0 h => h.mono fun r w' hr => .inl (by rw [he]; exact ⟨h0, hr⟩)
  cases hv : vipOK v with
  | false => exact bad 1 (by simp [addErr, hv]) (by decide) (Add_bad1 F bt c l w hT v ms a cc hS hv)
  | true =>
  cases hm : memsOK ms with
  | false => exact bad 1 (by simp [addErr, hv, hm]) (by decide) (Add_bad2 F bt c l w hT v ms a cc hS hv hm)
  | true =>
  by_cases hk : c.encap = false ∧ kinds v ms = true
  · exact bad 1 (by simp [addErr, hv, hm, hk.1, hk.2]) (by decide) (Add_kind F bt c l w hT v ms a cc hS hv hm hk.1 hk.2)
  have hkk : (!c.encap && kinds v ms) = false := by
    cases h1 : c.encap <;> cases h2 : kinds v ms <;> simp_all
  by_cases ht : tIdx l v < 0
  · by_cases hf : idx Option.isNone l < 0
    · refine bad 3 (by simp [addErr, hv, hm, hkk, ht, hf]) (by decide) ?_
      cases hen : c.encap with
      | true => exact Add_full_e F bt c l w hT v ms a cc hS hv hm hen ht hf
      | false => exact Add_full_n F bt c l w hT v ms a cc hS hv hm hen (by simpa [hen] using hk) ht hf
    · obtain ⟨n, x, h1, h2, h3⟩ := idx_nonneg hf
      have hn : l[n]? = some none := by cases x with | none => exact h2 | some e => cases h3
      have he : addErr c l v ms = 0 := by simp [addErr, hv, hm, hkk, ht, hf]
      have fin : (CallV Try.prog 23 #[.pointer (some ⟨bt, 0, none⟩), encVv v, .slice a ms.length cc] w fun r w' => ∃ b F', r = .tuple #[i64 (n : Nat), i64 0] ∧ Upd F w w' ∧ TabAt w' F' bt c (l.set n (some ⟨v, b, pNew c ms⟩)) ∧ ∀ k, F' k → F k ∨ w.heap.size ≤ k) := by
        cases hen : c.encap with
        | true => exact Add_good_e F bt c l w hT v ms a cc hS hv hm hen ht n h1 hn
        | false => exact Add_good_n F bt c l w hT v ms a cc hS hv hm hen (by simpa [hen] using hk) ht n h1 hn
      exact fin.mono fun r w' ⟨b, F', h⟩ => .inr ⟨he, n, b, F', h1, hn, h⟩
  · refine bad 6 (by simp [addErr, hv, hm, hkk, ht]) (by decide) ?_
    cases hen : c.encap with
    | true => exact Add_have_e F bt c l w hT v ms a cc hS hv hm hen ht
    | false => exact Add_have_n F bt c l w hT v ms a cc hS hv hm hen (by simpa [hen] using hk) ht
end Go.Proofs.Ytkjecokkdbapkaa
