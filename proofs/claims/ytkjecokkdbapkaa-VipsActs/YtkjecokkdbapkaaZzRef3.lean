import Derived.Test.YtkjecokkdbapkaaZzRef2
import Derived.Test.YtkjecokkdbapkaaProg
namespace Go.Proofs.Ytkjecokkdbapkaa
set_option linter.all false
open Go Go.Eng Go.RowKit
set_option maxRecDepth 20000
set_option maxHeartbeats 2000000
set_option linter.unusedVariables false
set_option linter.unusedSimpArgs false
attribute [local irreducible] WL W QL WA SP



theorem map_take_snoc {f : Mem → Int} {ms : List Mem} {i : Nat} {x : Mem} (h : ms[i]? = some x) : (ms.take i).map f ++ [f x] = (ms.take (i + 1)).map f := by
  rw [take_snoc h, List.map_append]; rfl
theorem idx_best {r : List Int} {b : Nat} {m : Int} (hb : r[b]? = some m) (h : ∀ (j : Nat) (z : Int), r[j]? = some z → z ≤ m ∧ (j < b → z < m)) : idx (fun x => maxL r == x) r = b := by
  have hlt := (List.getElem?_eq_some_iff.1 hb).1
  have hin := maxL_in (l := r) (by omega)
  have hm : maxL r = m := by
    obtain ⟨j, hj⟩ := List.getElem?_of_mem hin.1
    have h1 := (h j _ hj).1
    have h2 := hin.2 m (List.mem_of_getElem? hb)
    omega
  refine idx_hit (x := m) ?_ hb (by simp [hm])
  rw [List.all_eq_true]
  intro z hz
  rw [List.mem_take_iff_getElem] at hz
  obtain ⟨j, hj, rfl⟩ := hz
  have := (h j _ (List.getElem?_eq_getElem (by omega))).2 (by omega)
  rw [hm]
  simp
  omega
theorem bump_succ {k b : Nat} {o r : List Int} {x : Int} (hb : idx (fun x => maxL r == x) r = b) (hx : o[b]? = some x) : bump (k + 1) o r = bump k (o.set b (x + 1)) (r.set b (-1)) := by
  simp only [bump, hb, Int.toNat_natCast]
  rw [List.getD_eq_getElem?_getD, hx]; rfl

theorem refShares_calls (ms : List Mem) (n : Int) (hn : 0 ≤ n ∧ n ≤ 64) (hm : memsOK ms = true) (h0 : 1 ≤ ms.length) (a : Option Addr) (c : Nat) (w : World) (hM : Sli encMem 19 w a c ms) : CallV Try.prog 168 #[.slice a ms.length c, i64 n] w fun v w' => (∃ a' c', v = .slice a' (shares ms n).length c' ∧ Slw (fun n : Int => [i64 n]) 1 w' a' c' (shares ms n) ∧ ∀ k, owns a' k → w.heap.size ≤ k) ∧ Ext w w' := by
  have hX : Ext w w := Ext.rfl' w
  have hU : ∀ k, (fun k => w.heap.size ≤ k) k → w.heap.size ≤ k := fun _ h => h
  have hS : Star (fun k => w.heap.size ≤ k) w [] := Star.nil fun _ h => h
  generalize (fun k => w.heap.size ≤ k) = U at hU hS
  have hw := memsOK_wt hm
  have hml := memsOK_len hm
  have h0s : 0 < sumW ms := by have := sumW_bd hw; omega
  have hsw := sumW_bd hw
  refine Calls.of_W (N := 109) Try.func168 rfl rfl rfl ?_
  refine W.reg ?_
  refine WL.y (R.asg (v := .slice _ _ _) rfl) rfl ?_
  refine WL.nil ?_
  refine W.seq ?_
  refine W.reg ?_
  refine WL.y (R.mv (v := .slice _ _ _) rfl) rfl ?_
  refine WL.call Try.func121 rfl rfl ((refMembers_calls ms (by omega) a c _ (hM.ext hX)).val (y := bl true) (by rw [hm])) rfl rfl ?_
  rintro _ w1 ⟨rfl, hx1⟩
  replace hS := hS.ext hx1
  replace hX := hX.tr hx1
  refine WL.y (R.notT rfl) rfl ?_
  refine WL.y (R.mv (v := .bool false) rfl) rfl ?_
  refine WL.y (R.mv (v := .int _ _) rfl) rfl ?_
  refine WL.y (R.lssF rfl rfl (by omega)) rfl ?_
  refine WL.y (R.pkF (v := .bool false) rfl rfl) rfl ?_
  refine WL.y (R.mv (v := .bool false) rfl) rfl ?_
  refine WL.y (R.mv (v := .int _ _) rfl) rfl ?_
  refine WL.y (R.gtrF rfl rfl (by omega)) rfl ?_
  refine WL.y (R.pkF (v := .bool false) rfl rfl) rfl ?_
  refine WL.nil ?_
  refine W.cond_f rfl ?_
  refine W.skip ?_
  refine W.reg ?_
  refine WL.y (R.asg (v := .int _ _) rfl) rfl ?_
  refine WL.nil ?_
  refine W.seqX (ι := Unit) [(5, 7), (24, 37)] (fun _ => [(5, i64 (sumW ms))]) (fun _ w' => (True) ∧ Ext w w' ∧ Star U w' []) ?_ ?_
  · skip
    refine W.reg ?_
    refine WL.y (R.asg (v := .int _ _) rfl) rfl ?_
    refine WL.nil ?_
    refine W.block ?_
    refine W.loopS (ι := Nat) [(5, 7), (24, 37)] (fun q => [(5, i64 (sumW (ms.take q))), (6, i64 (q : Nat))]) (fun q => ms.length - q) (fun q w' => (q ≤ ms.length) ∧ Ext w w' ∧ Star U w' []) 0 ⟨rfl, rfl, trivial⟩ ⟨Nat.zero_le _, hX, hS⟩ ?_
    rintro i j1 w_1 ⟨hi, hX, hS⟩
    have hwt := wt_take hw i
    refine W.seq ?_
    refine W.reg ?_
    refine WL.y (R.mv (v := .int _ _) rfl) rfl ?_
    refine WL.y (R.mv (v := .slice _ _ _) rfl) rfl ?_
    refine WL.y (R.lenS Try.underlying52 rfl) rfl ?_
    refine WL.fork (R.lss rfl rfl) rfl (fun hc5_3 => ?_) (fun hc5_3 => ?_)
    · skip
      replace hc5_3 := of_decide_eq_true hc5_3
      refine WL.nil ?_
      refine W.cond_t rfl ?_
      refine W.skip ?_
      refine W.seq ?_
      refine W.block ?_
      refine W.region ?_
      refine WL.y (R.mv (v := .int _ _) rfl) rfl ?_
      refine WL.y (R.mv (v := .slice _ _ _) rfl) rfl ?_
      refine WL.y (R.mv (v := .int _ _) rfl) rfl ?_
      obtain ⟨g_ms, o_ms, cs_ms, rfl, hO_ms⟩ := hM.op (by omega)
      obtain ⟨x, hx_ms⟩ : ∃ x, ms[i]? = some x := ⟨_, List.getElem?_eq_getElem (by omega)⟩
      have hwx := hw x (List.mem_of_getElem? hx_ms)
      have hmx := mul_bd hn hwx
      refine WL.y (R.indexS Try.underlying52 siz57 rfl rfl rfl (by first | omega | (simp; done) | (simp; omega))) rfl ?_
      refine WL.y (R.fieldAddr fo57_1 rfl) rfl ?_
      refine WL.y (R.load sca3 rfl ((hO_ms.ext hX).blk).r (hO_ms.cell encM hx_ms (j := 18) (by decide))) rfl ?_
      refine WL.y (R.addI rfl rfl (by omega)) rfl ?_
      refine WL.y (R.asg (v := .int _ _) rfl) rfl ?_
      refine WL.nil ?_
      refine W.region ?_
      refine WL.y (R.mv (v := .int _ _) rfl) rfl ?_
      refine WL.y (R.addI rfl rfl (by omega)) rfl ?_
      refine WL.y (R.asg (v := .int _ _) rfl) rfl ?_
      refine WL.nil ?_
      exact ⟨i + 1, (by omega), (by repeat (first | exact Same.rfl' _ _ | refine Same.set _ rfl ?_ | refine Same.over' _ rfl ?_ | refine Same.sets rfl ?_)), ⟨by show i64 _ = i64 _; rw [sumW_snoc hx_ms], rfl, trivial⟩, rfl, (by omega), hX, hS⟩
    · skip
      replace hc5_3 := of_decide_eq_false hc5_3
      refine WL.nil ?_
      refine W.cond_f rfl ?_
      refine W.exit ?_
      obtain rfl : i = ms.length := by omega
      exact ⟨(), (by repeat (first | exact Same.rfl' _ _ | refine Same.set _ rfl ?_ | refine Same.over' _ rfl ?_ | refine Same.sets rfl ?_)), ⟨by show i64 (sumW (ms.take ms.length)) = i64 (sumW ms); rw [List.take_length], trivial⟩, rfl, trivial, hX, hS⟩
  · skip
    rintro _ j2 w_2 ⟨-, hX, hS⟩
    refine W.reg ?_
    refine WL.y (R.asg (v := .slice _ _ _) rfl) rfl ?_
    refine WL.y (R.asg (v := .slice _ _ _) rfl) rfl ?_
    refine WL.nil ?_
    refine W.reg ?_
    replace hS := hS.pushNil (fun n : Int => [i64 n]) 1
    replace hS := hS.pushNil (fun n : Int => [i64 n]) 1
    refine WL.y (R.mv (v := .int _ _) rfl) rfl ?_
    refine WL.y (R.asg (v := .int _ _) rfl) rfl ?_
    refine WL.nil ?_
    refine W.seqX (ι := Option Addr × Nat × Option Addr × Nat) [(7, 11), (38, 74)] (fun q => [(7, .slice q.1 ms.length q.2.1), (8, .slice q.2.2.1 ms.length q.2.2.2), (9, i64 (n - isum (ms.map (sbase n (sumW ms)))))]) (fun q w' => (True) ∧ Ext w w' ∧ Star U w' [slwA (fun n : Int => [i64 n]) 1 q.2.2.1 q.2.2.2 (ms.map (srest n (sumW ms))), slwA (fun n : Int => [i64 n]) 1 q.1 q.2.1 (ms.map (sbase n (sumW ms)))]) ?_ ?_
    · skip
      refine W.reg ?_
      refine WL.y (R.asg (v := .int _ _) rfl) rfl ?_
      refine WL.nil ?_
      refine W.block ?_
      refine W.loopS (ι := Nat × Option Addr × Nat × Option Addr × Nat) [(7, 11), (38, 74)] (fun q => [(7, .slice q.2.1 ((ms.take q.1).map (sbase n (sumW ms))).length q.2.2.1), (8, .slice q.2.2.2.1 ((ms.take q.1).map (srest n (sumW ms))).length q.2.2.2.2), (9, i64 (n - isum ((ms.take q.1).map (sbase n (sumW ms))))), (10, i64 (q.1 : Nat))]) (fun q => ms.length - q.1) (fun q w' => (q.1 ≤ ms.length) ∧ Ext w w' ∧ Star U w' [slwA (fun n : Int => [i64 n]) 1 q.2.2.2.1 q.2.2.2.2 ((ms.take q.1).map (srest n (sumW ms))), slwA (fun n : Int => [i64 n]) 1 q.2.1 q.2.2.1 ((ms.take q.1).map (sbase n (sumW ms)))]) ⟨0, none, 0, none, 0⟩ ⟨rfl, rfl, by show i64 n = i64 (n - isum []); rw [show n - isum [] = n by simp [isum]], rfl, trivial⟩ ⟨Nat.zero_le _, hX, hS⟩ ?_
      rintro ⟨i, ao, co, ar, cr⟩ j3 w_3 ⟨hi, hX, hS⟩
      dsimp only at hi hX hS ⊢
      have hli : ((ms.take i).map (sbase n (sumW ms))).length = i := by simp; omega
      have hlr : ((ms.take i).map (srest n (sumW ms))).length = i := by simp; omega
      have hbt := base_take hn hw h0s i
      refine W.seq ?_
      refine W.reg ?_
      refine WL.y (R.mv (v := .int _ _) rfl) rfl ?_
      refine WL.y (R.mv (v := .slice _ _ _) rfl) rfl ?_
      refine WL.y (R.lenS Try.underlying52 rfl) rfl ?_
      refine WL.fork (R.lss rfl rfl) rfl (fun hc11_3 => ?_) (fun hc11_3 => ?_)
      · skip
        replace hc11_3 := of_decide_eq_true hc11_3
        refine WL.nil ?_
        refine W.cond_t rfl ?_
        refine W.skip ?_
        refine W.seq ?_
        refine W.block ?_
        refine W.reg ?_
        refine WL.y (R.mv (v := .slice _ _ _) rfl) rfl ?_
        refine WL.y (R.mv (v := .int _ _) rfl) rfl ?_
        refine WL.y (R.mv (v := .slice _ _ _) rfl) rfl ?_
        refine WL.y (R.mv (v := .int _ _) rfl) rfl ?_
        obtain ⟨g_ms, o_ms, cs_ms, rfl, hO_ms⟩ := hM.op (by omega)
        obtain ⟨x, hx_ms⟩ : ∃ x, ms[i]? = some x := ⟨_, List.getElem?_eq_getElem (by omega)⟩
        have hwx := hw x (List.mem_of_getElem? hx_ms)
        have hmx := mul_bd hn hwx
        refine WL.y (R.indexS Try.underlying52 siz57 rfl rfl rfl (by first | omega | (simp; done) | (simp; omega))) rfl ?_
        refine WL.y (R.fieldAddr fo57_1 rfl) rfl ?_
        refine WL.y (R.load sca3 rfl ((hO_ms.ext hX).blk).r (hO_ms.cell encM hx_ms (j := 18) (by decide))) rfl ?_
        refine WL.y (R.mulI rfl rfl (by omega)) rfl ?_
        refine WL.y (R.mv (v := .int _ _) rfl) rfl ?_
        refine WL.y (R.quoI rfl rfl (by omega) (by omega)) rfl ?_
        refine WL.buildSliceP (parts := [(0, .tmp 53)]) (ps := [(0, .int _ _)]) el22_3 rfl rfl rfl (by decide) rfl rfl ?_
        intro b2 w2 hb2 hs2 hx2 hB2
        have hL2 := Slw.one encI (sbase n (sumW ms) x) hB2 rfl
        replace hS := hS.pushSlw hx2 hL2 (fun k hk => by rw [owns_some] at hk; simp only at hk; omega)
        replace hX := hX.tr hx2
        clear hL2 hB2 hs2
        refine WL.appendS el22_3 encI rfl rfl (hS.slw2) (by first | rfl | omega | (simp; done) | (simp; omega)) (hS.slw0).ro (by first | rfl | omega | (simp; done) | (simp; omega)) (by first | omega | (simp; omega)) (by first | omega | (simp; omega)) rfl ?_
        intro a3 c3 w3 hu3 hl3 hf3
        have hN := hS.app2 hu3 hl3 hf3
        replace hS := hN.1
        replace hX := hN.2 _ hX hU
        clear hN hu3 hl3 hf3
        replace hS := hS.drop0
        refine WL.y (R.asg (v := .slice _ _ _) rfl) rfl ?_
        refine WL.nil ?_
        refine W.reg ?_
        refine WL.y (R.mv (v := .slice _ _ _) rfl) rfl ?_
        refine WL.y (R.mv (v := .int _ _) rfl) rfl ?_
        refine WL.y (R.mv (v := .slice _ _ _) rfl) rfl ?_
        refine WL.y (R.mv (v := .int _ _) rfl) rfl ?_
        refine WL.y (R.indexS Try.underlying52 siz57 rfl rfl rfl (by first | omega | (simp; done) | (simp; omega))) rfl ?_
        refine WL.y (R.fieldAddr fo57_1 rfl) rfl ?_
        refine WL.y (R.load sca3 rfl ((hO_ms.ext hX).blk).r (hO_ms.cell encM hx_ms (j := 18) (by decide))) rfl ?_
        refine WL.y (R.mulI rfl rfl (by omega)) rfl ?_
        refine WL.y (R.mv (v := .int _ _) rfl) rfl ?_
        refine WL.y (R.rem rfl rfl (by omega)) rfl ?_
        refine WL.buildSliceP (parts := [(0, .tmp 65)]) (ps := [(0, .int _ _)]) el22_3 rfl rfl rfl (by decide) rfl rfl ?_
        intro b4 w4 hb4 hs4 hx4 hB4
        have hL4 := Slw.one encI (srest n (sumW ms) x) hB4 rfl
        replace hS := hS.pushSlw hx4 hL4 (fun k hk => by rw [owns_some] at hk; simp only at hk; omega)
        replace hX := hX.tr hx4
        clear hL4 hB4 hs4
        refine WL.appendS el22_3 encI rfl rfl (hS.slw1) (by first | rfl | omega | (simp; done) | (simp; omega)) (hS.slw0).ro (by first | rfl | omega | (simp; done) | (simp; omega)) (by first | omega | (simp; omega)) (by first | omega | (simp; omega)) rfl ?_
        intro a5 c5 w5 hu5 hl5 hf5
        have hN := hS.app1 hu5 hl5 hf5
        replace hS := hN.1
        replace hX := hN.2 _ hX hU
        clear hN hu5 hl5 hf5
        replace hS := hS.drop0
        refine WL.y (R.asg (v := .slice _ _ _) rfl) rfl ?_
        refine WL.nil ?_
        refine W.region ?_
        have hbx := sbase_bd hn hwx h0s
        refine WL.y (R.mv (v := .int _ _) rfl) rfl ?_
        refine WL.y (R.mv (v := .slice _ _ _) rfl) rfl ?_
        refine WL.y (R.mv (v := .int _ _) rfl) rfl ?_
        obtain ⟨g_O, o_O, cs1, rfl, hO1⟩ := (hS.slw1).op (by first | omega | (simp; done) | (simp; omega))
        obtain ⟨y, hy_1⟩ : ∃ x_, (((ms.take i).map (sbase n (sumW ms)) ++ [sbase n (sumW ms) x]))[i]? = some x_ := ⟨_, List.getElem?_eq_getElem (by first | omega | (simp; done) | (simp; omega))⟩
        obtain rfl : y = sbase n (sumW ms) x := Option.some.inj (hy_1.symm.trans (snoc_at hli))
        refine WL.y (R.indexS Try.underlying22 siz3 rfl rfl rfl (by first | omega | (simp; done) | (simp; omega))) rfl ?_
        refine WL.y (R.load sca3 rfl (hO1.blk).r (hO1.cell encI hy_1 (j := 0) (by decide))) rfl ?_
        refine WL.y (R.subI rfl rfl (by omega)) rfl ?_
        refine WL.y (R.asg (v := .int _ _) rfl) rfl ?_
        refine WL.nil ?_
        refine W.region ?_
        refine WL.y (R.mv (v := .int _ _) rfl) rfl ?_
        refine WL.y (R.addI rfl rfl (by omega)) rfl ?_
        refine WL.y (R.asg (v := .int _ _) rfl) rfl ?_
        refine WL.nil ?_
        rw [map_take_snoc hx_ms, map_take_snoc hx_ms] at hS
        exact ⟨⟨i + 1, _, c3, a5, c5⟩, (by simp only; omega), (by repeat (first | exact Same.rfl' _ _ | refine Same.set _ rfl ?_ | refine Same.over' _ rfl ?_ | refine Same.sets rfl ?_)), ⟨by show Value.slice _ _ _ = Value.slice _ _ _; congr 1; simp; omega, by show Value.slice _ _ _ = Value.slice _ _ _; congr 1; simp; omega, by show i64 _ = i64 _; rw [left_snoc n (sumW ms) hx_ms], rfl, trivial⟩, rfl, (by simp only; omega), hX, hS⟩
      · skip
        replace hc11_3 := of_decide_eq_false hc11_3
        refine WL.nil ?_
        refine W.cond_f rfl ?_
        refine W.exit ?_
        have hie : i = ms.length := by omega
        rw [hie, List.take_length] at hS
        have htl : ms.take i = ms := by rw [hie, List.take_length]
        exact ⟨⟨ao, co, ar, cr⟩, (by repeat (first | exact Same.rfl' _ _ | refine Same.set _ rfl ?_ | refine Same.over' _ rfl ?_ | refine Same.sets rfl ?_)), ⟨by show Value.slice ao ((ms.take i).map (sbase n (sumW ms))).length co = Value.slice ao ms.length co; rw [hli, hie], by show Value.slice ar ((ms.take i).map (srest n (sumW ms))).length cr = Value.slice ar ms.length cr; rw [hlr, hie], by show i64 (n - isum ((ms.take i).map (sbase n (sumW ms)))) = i64 (n - isum (ms.map (sbase n (sumW ms)))); rw [htl], trivial⟩, rfl, trivial, hX, hS⟩
    · skip
      rintro ⟨ao, co, ar, cr⟩ j4 w_4 ⟨-, hX, hS⟩
      dsimp only at hX hS ⊢
      refine W.seqX (ι := Unit) [(9, 10), (11, 13), (74, 108)] (fun _ => []) (fun _ w' => (True) ∧ Ext w w' ∧ Star U w' [slwA (fun n : Int => [i64 n]) 1 ao co (shares ms n)]) ?_ ?_
      · skip
        refine W.block ?_
        refine W.loopS (ι := Nat × List Int × List Int) [(9, 10), (11, 13), (74, 108)] (fun q => [(9, i64 (q.1 : Nat))]) (fun q => q.1) (fun q w' => (bump q.1 q.2.1 q.2.2 = shares ms n ∧ q.2.1.length = ms.length ∧ q.2.2.length = ms.length ∧ (∀ x ∈ q.2.1, 0 ≤ x) ∧ isum q.2.1 + q.1 = n) ∧ Ext w w' ∧ Star U w' [slwA (fun n : Int => [i64 n]) 1 ar cr q.2.2, slwA (fun n : Int => [i64 n]) 1 ao co q.2.1]) ⟨(n - isum (ms.map (sbase n (sumW ms)))).toNat, ms.map (sbase n (sumW ms)), ms.map (srest n (sumW ms))⟩ ⟨by show i64 (n - isum (ms.map (sbase n (sumW ms)))) = i64 _; congr 1; have := left_nonneg hn hw h0s; omega, trivial⟩ ⟨⟨rfl, by simp, by simp, fun x hx => by obtain ⟨y, hy, rfl⟩ := List.mem_map.1 hx; exact (sbase_bd hn (hw y hy) h0s).1, by have := left_nonneg hn hw h0s; simp only; omega⟩, hX, hS⟩ ?_
        rintro ⟨K, o, r⟩ j5 w_5 ⟨⟨hbp, hol, hrl, hpos, hsum⟩, hX, hS⟩
        dsimp only at hbp hol hrl hpos hsum hX hS ⊢
        refine W.seq ?_
        refine W.reg ?_
        refine WL.y (R.mv (v := .int _ _) rfl) rfl ?_
        refine WL.fork (R.gtr rfl rfl) rfl (fun hc16_1 => ?_) (fun hc16_1 => ?_)
        · skip
          replace hc16_1 := of_decide_eq_true hc16_1
          refine WL.y (R.mv (v := .bool true) rfl) rfl ?_
          refine WL.y (R.mv (v := .slice _ _ _) rfl) rfl ?_
          refine WL.y (R.lenS Try.underlying52 rfl) rfl ?_
          refine WL.y (R.gtrT rfl rfl (by omega)) rfl ?_
          refine WL.y (R.pkT (v := .bool true) rfl rfl) rfl ?_
          refine WL.nil ?_
          refine W.cond_t rfl ?_
          refine W.skip ?_
          refine W.block ?_
          refine W.reg ?_
          obtain ⟨K, rfl⟩ : ∃ k, K = k + 1 := ⟨K - 1, by omega⟩
          obtain ⟨m0, hm0⟩ : ∃ m, r[0]? = some m := ⟨_, List.getElem?_eq_getElem (by omega)⟩
          have hio := isum_nonneg hpos
          refine WL.y (R.asg (v := .int _ _) rfl) rfl ?_
          refine WL.nil ?_
          refine W.seqX (ι := Nat) [(11, 13), (81, 97)] (fun q => [(11, i64 (q : Nat))]) (fun q w' => (q < ms.length ∧ idx (fun x => maxL r == x) r = q) ∧ Ext w w' ∧ Star U w' [slwA (fun n : Int => [i64 n]) 1 ar cr r, slwA (fun n : Int => [i64 n]) 1 ao co o]) ?_ ?_
          · skip
            refine W.reg ?_
            refine WL.y (R.asg (v := .int _ _) rfl) rfl ?_
            refine WL.nil ?_
            refine W.block ?_
            refine W.loopS (ι := Nat × Nat × Int) [(11, 13), (81, 97)] (fun q => [(11, i64 (q.1 : Nat)), (12, i64 (q.2.1 : Nat))]) (fun q => ms.length - q.2.1) (fun q w' => (q.1 < q.2.1 ∧ q.2.1 ≤ ms.length ∧ r[q.1]? = some q.2.2 ∧ ∀ (j : Nat) (z : Int), j < q.2.1 → r[j]? = some z → z ≤ q.2.2 ∧ (j < q.1 → z < q.2.2)) ∧ Ext w w' ∧ Star U w' [slwA (fun n : Int => [i64 n]) 1 ar cr r, slwA (fun n : Int => [i64 n]) 1 ao co o]) ⟨0, 1, m0⟩ ⟨rfl, rfl, trivial⟩ ⟨⟨by show (0 : Nat) < 1; decide, by simp only; omega, hm0, fun j z hj hz => by (obtain rfl : j = 0 := by simp only at hj; omega); rw [hm0] at hz; cases hz; exact ⟨Int.le_refl _, fun h => absurd h (by omega)⟩⟩, hX, hS⟩ ?_
            rintro ⟨b, i, m⟩ j6 w_6 ⟨⟨hbi, hil, hbm, hall⟩, hX, hS⟩
            dsimp only at hbi hil hbm hall hX hS ⊢
            refine W.seq ?_
            refine W.reg ?_
            refine WL.y (R.mv (v := .int _ _) rfl) rfl ?_
            refine WL.y (R.mv (v := .slice _ _ _) rfl) rfl ?_
            refine WL.y (R.lenS Try.underlying52 rfl) rfl ?_
            refine WL.fork (R.lss rfl rfl) rfl (fun hc19_3 => ?_) (fun hc19_3 => ?_)
            · skip
              replace hc19_3 := of_decide_eq_true hc19_3
              refine WL.nil ?_
              refine W.cond_t rfl ?_
              refine W.skip ?_
              refine W.seq ?_
              refine W.block ?_
              refine W.seq ?_
              refine W.draw (fun j => [1000].contains j) (fun wI => Ext w_6 wI) rfl ?_
              have hI6 := Ext.dr w_6
              refine WA.batch [0, 1, 2, 3, 4, 5, 6, 7, 8] 0 (by kernel_rfl) hI6 ?_
              refine QL.y (fun wq hq => (R.mv (v := .slice _ _ _) rfl)) rfl ?_
              refine QL.y (fun wq hq => (R.mv (v := .int _ _) rfl)) rfl ?_
              obtain ⟨g_R, o_R, cs2, rfl, hO2⟩ := (hS.slw0).op (by first | omega | (simp; done) | (simp; omega))
              obtain ⟨x, hx_2⟩ : ∃ x_, (r)[i]? = some x_ := ⟨_, List.getElem?_eq_getElem (by first | omega | (simp; done) | (simp; omega))⟩
              have hr_x := hx_2
              refine QL.y (fun wq hq => (R.indexS Try.underlying22 siz3 rfl rfl rfl (by first | omega | (simp; done) | (simp; omega)))) rfl ?_
              refine QL.y (fun wq hq => (R.load sca3 rfl (hq.blkR (hO2.blk).r) (hO2.cell encI hx_2 (j := 0) (by decide)))) rfl ?_
              refine QL.y (fun wq hq => (R.mv (v := .slice _ _ _) rfl)) rfl ?_
              refine QL.y (fun wq hq => (R.mv (v := .int _ _) rfl)) rfl ?_
              obtain ⟨cs3, hO3⟩ := (hS.slw0).op2 (by first | omega | (simp; done) | (simp; omega))
              obtain ⟨y, hy_3⟩ : ∃ x_, (r)[b]? = some x_ := ⟨_, List.getElem?_eq_getElem (by first | omega | (simp; done) | (simp; omega))⟩
              have hr_y := hy_3
              refine QL.y (fun wq hq => (R.indexS Try.underlying22 siz3 rfl rfl rfl (by first | omega | (simp; done) | (simp; omega)))) rfl ?_
              refine QL.y (fun wq hq => (R.load sca3 rfl (hq.blkR (hO3.blk).r) (hO3.cell encI hy_3 (j := 0) (by decide)))) rfl ?_
              refine QL.y (fun wq hq => (R.gtr rfl rfl)) rfl ?_
              refine QL.nil ?_
              have hD6 := Ext.dr w_6
              have hD6z := hD6.size
              have hS0 := hS
              have hXo := hX
              replace hS := hS.ext hD6
              replace hX := hX.tr hD6
              refine WA.done (by kernel_rfl) ?_
              refine W.cond _ rfl (fun hgt => ?_) (fun hgt => ?_)
              · skip
                replace hgt := of_decide_eq_true hgt
                have hym := Option.some.inj (hr_y.symm.trans hbm)
                refine W.region ?_
                refine WL.y (R.mv (v := .int _ _) rfl) rfl ?_
                refine WL.y (R.asg (v := .int _ _) rfl) rfl ?_
                refine WL.nil ?_
                refine W.region ?_
                refine WL.y (R.mv (v := .int _ _) rfl) rfl ?_
                refine WL.y (R.addI rfl rfl (by omega)) rfl ?_
                refine WL.y (R.asg (v := .int _ _) rfl) rfl ?_
                refine WL.nil ?_
                exact ⟨⟨i, i + 1, x⟩, (by simp only; omega), (by repeat (first | exact Same.rfl' _ _ | refine Same.set _ rfl ?_ | refine Same.over' _ rfl ?_ | refine Same.sets rfl ?_)), ⟨rfl, rfl, trivial⟩, rfl, ⟨by simp only; omega, by simp only; omega, hr_x, fun j z hj hz => by simp only at hj ⊢; rcases Nat.lt_or_ge j i with h | h; (have := (hall j z h hz).1; omega); (obtain rfl : j = i := by omega); rw [hr_x] at hz; cases hz; exact ⟨Int.le_refl _, fun h => absurd h (by omega)⟩⟩, hX, hS⟩
              · skip
                replace hgt := of_decide_eq_false hgt
                have hym := Option.some.inj (hr_y.symm.trans hbm)
                refine W.skip ?_
                refine W.region ?_
                refine WL.y (R.mv (v := .int _ _) rfl) rfl ?_
                refine WL.y (R.addI rfl rfl (by omega)) rfl ?_
                refine WL.y (R.asg (v := .int _ _) rfl) rfl ?_
                refine WL.nil ?_
                exact ⟨⟨b, i + 1, m⟩, (by simp only; omega), (by repeat (first | exact Same.rfl' _ _ | refine Same.set _ rfl ?_ | refine Same.over' _ rfl ?_ | refine Same.sets rfl ?_)), ⟨rfl, rfl, trivial⟩, rfl, ⟨by simp only; omega, by simp only; omega, hbm, fun j z hj hz => by simp only at hj; rcases Nat.lt_or_ge j i with h | h; exact hall j z h hz; (obtain rfl : j = i := by omega); rw [hr_x] at hz; cases hz; exact ⟨by show x ≤ m; omega, fun h => absurd h (by show ¬ j < b; omega)⟩⟩, hX, hS⟩
            · skip
              replace hc19_3 := of_decide_eq_false hc19_3
              refine WL.nil ?_
              refine W.cond_f rfl ?_
              refine W.exit ?_
              exact ⟨b, (by repeat (first | exact Same.rfl' _ _ | refine Same.set _ rfl ?_ | refine Same.over' _ rfl ?_ | refine Same.sets rfl ?_)), ⟨rfl, trivial⟩, rfl, ⟨by omega, idx_best hbm fun j z hz => hall j z (by have := (List.getElem?_eq_some_iff.1 hz).1; omega) hz⟩, hX, hS⟩
          · skip
            rintro b j7 w_7 ⟨⟨hbl, hib⟩, hX, hS⟩
            refine W.reg ?_
            refine WL.y (R.mv (v := .slice _ _ _) rfl) rfl ?_
            refine WL.y (R.mv (v := .int _ _) rfl) rfl ?_
            obtain ⟨g_O, o_O, cs4, rfl, hO4⟩ := (hS.slw1).op (by first | omega | (simp; done) | (simp; omega))
            obtain ⟨y, hy_4⟩ : ∃ x_, (o)[b]? = some x_ := ⟨_, List.getElem?_eq_getElem (by first | omega | (simp; done) | (simp; omega))⟩
            have hob_y := hy_4
            have hby := bd_of (n := 0) (K := 128) hpos (by omega) b
            refine WL.y (R.indexS Try.underlying22 siz3 rfl rfl rfl (by first | omega | (simp; done) | (simp; omega))) rfl ?_
            refine WL.y (R.load sca3 rfl (hO4.blk).r (hO4.cell encI hy_4 (j := 0) (by decide))) rfl ?_
            refine WL.y (R.addI rfl rfl (by rw [List.getD_eq_getElem?_getD, hob_y] at hby; simp only [Option.getD_some] at hby; omega)) rfl ?_
            obtain ⟨cs5, hO5⟩ := (hS.slw1).op2 (by first | omega | (simp; done) | (simp; omega))
            obtain ⟨y2, hy2_5⟩ : ∃ x_, (o)[b]? = some x_ := ⟨_, List.getElem?_eq_getElem (by first | omega | (simp; done) | (simp; omega))⟩
            have hob_y2 := hy2_5
            have hby := bd_of (n := 0) (K := 128) hpos (by omega) b
            refine WL.y (R.indexS Try.underlying22 siz3 rfl rfl rfl (by first | omega | (simp; done) | (simp; omega))) rfl ?_
            refine WL.store1 (v := .int _ _) sca3 rfl rfl rfl hO5.blk (by have := hO5.bound (List.getElem?_eq_some_iff.1 hy2_5).1; omega) rfl ?_
            intro w7 hu7 hz7 hn7
            have hQ := hO5.set encI hy2_5 (j := 0) (by decide) (y := y + 1) rfl hn7
            have hN := hS.app1 (hu7.mono fun k _ h => (owns_some _ k).2 h) hQ.cl (.inl rfl)
            replace hS := hN.1
            replace hX := hN.2 _ hX hU
            clear hN hQ hn7 hu7 hz7
            refine WL.nil ?_
            refine W.reg ?_
            refine WL.y (R.mv (v := .slice _ _ _) rfl) rfl ?_
            refine WL.y (R.mv (v := .int _ _) rfl) rfl ?_
            obtain ⟨g_R, o_R, cs6, rfl, hO6⟩ := (hS.slw0).op (by first | omega | (simp; done) | (simp; omega))
            obtain ⟨y3, hy3_6⟩ : ∃ x_, (r)[b]? = some x_ := ⟨_, List.getElem?_eq_getElem (by first | omega | (simp; done) | (simp; omega))⟩
            refine WL.y (R.indexS Try.underlying22 siz3 rfl rfl rfl (by first | omega | (simp; done) | (simp; omega))) rfl ?_
            refine WL.store1 (v := .int _ _) sca3 rfl rfl rfl hO6.blk (by have := hO6.bound (List.getElem?_eq_some_iff.1 hy3_6).1; omega) rfl ?_
            intro w8 hu8 hz8 hn8
            have hQ := hO6.set encI hy3_6 (j := 0) (by decide) (y := -1) rfl hn8
            have hN := hS.app0 (hu8.mono fun k _ h => (owns_some _ k).2 h) hQ.cl (.inl rfl)
            replace hS := hN.1
            replace hX := hN.2 _ hX hU
            clear hN hQ hn8 hu8 hz8
            refine WL.nil ?_
            refine W.region ?_
            refine WL.y (R.mv (v := .int _ _) rfl) rfl ?_
            refine WL.y (R.subI rfl rfl (by omega)) rfl ?_
            refine WL.y (R.asg (v := .int _ _) rfl) rfl ?_
            refine WL.nil ?_
            exact ⟨⟨K, o.set b (y + 1), r.set b (-1)⟩, (by simp only; omega), (by repeat (first | exact Same.rfl' _ _ | refine Same.set _ rfl ?_ | refine Same.over' _ rfl ?_ | refine Same.sets rfl ?_)), ⟨by show i64 _ = i64 _; congr 1; simp only; omega, trivial⟩, rfl, ⟨by rw [← hbp]; exact (bump_succ hib hob_y).symm, by simp only [List.length_set]; exact hol, by simp only [List.length_set]; exact hrl, fun z hz => by rcases mem_set_or hz with hz | rfl; exact hpos z hz; (have := hpos y (List.mem_of_getElem? hob_y); omega), by simp only; rw [isum_set (by omega), List.getD_eq_getElem?_getD, hob_y]; simp only [Option.getD_some]; omega⟩, hX, hS⟩
        · skip
          replace hc16_1 := of_decide_eq_false hc16_1
          refine WL.y (R.mv (v := .bool false) rfl) rfl ?_
          refine WL.skip rfl ?_
          refine WL.skip rfl ?_
          refine WL.skip rfl ?_
          refine WL.y (R.pkF (v := .bool false) rfl rfl) rfl ?_
          refine WL.nil ?_
          refine W.cond_f rfl ?_
          refine W.exit ?_
          have hK0 : K = 0 := by omega
          rw [hK0] at hbp
          rw [show o = shares ms n from hbp] at hS
          replace hS := hS.drop0
          exact ⟨(), (by repeat (first | exact Same.rfl' _ _ | refine Same.set _ rfl ?_ | refine Same.over' _ rfl ?_ | refine Same.sets rfl ?_)), trivial, rfl, trivial, hX, hS⟩
      · skip
        rintro _ j8 w_8 ⟨-, hX, hS⟩
        refine W.reg ?_
        refine WL.y (R.mv (v := .slice _ _ _) rfl) rfl ?_
        refine WL.y (R.asg (v := .slice _ _ _) rfl) rfl ?_
        refine WL.nil ?_
        refine W.ret ?_
        have hsl := (shares_spec hn hm h0).1
        obtain ⟨_, ⟨hs, rfl⟩, hfu⟩ := hS.get0
        exact PR.r1 rfl (.tmp rfl) ⟨⟨ao, co, by rw [hsl]; rfl, hs, fun k hk => hU k (hfu k hk)⟩, hX⟩
end Go.Proofs.Ytkjecokkdbapkaa
