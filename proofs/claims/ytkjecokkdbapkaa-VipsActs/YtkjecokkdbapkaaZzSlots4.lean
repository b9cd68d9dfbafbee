import Derived.Test.YtkjecokkdbapkaaZzSlots3
import Derived.Test.YtkjecokkdbapkaaProg
namespace Go.Proofs.Ytkjecokkdbapkaa
set_option linter.all false
open Go Go.Eng Go.RowKit
set_option maxRecDepth 20000
set_option maxHeartbeats 2000000
set_option linter.unusedVariables false
set_option linter.unusedSimpArgs false
attribute [local irreducible] WL W QL WA SP

def zc3 : List Value := [.int .i64 0]
theorem el22_3 : Elem Try.prog 22 3 1 8 zc3 := ⟨Try.underlying22, ⟨Try.t3, _, rfl, rfl, rfl, rfl, rfl⟩, rfl, rfl⟩

theorem own_step {a a' : Option Addr} {N : Nat} {Q : Nat → Prop} (h : ∀ k, owns a k → Q k) (hf : a' = a ∨ ∀ k, owns a' k → N ≤ k) (hn : ∀ k, N ≤ k → Q k) : ∀ k, owns a' k → Q k := by
  rcases hf with rfl | hf
  · exact h
  · exact fun k hk => hn k (hf k hk)
theorem own2 {a : Option Addr} {Q R : Nat → Prop} (h : ∀ k, owns a k → Q k) (h2 : ∀ k, owns a k → R k) : ∀ k, owns a k → Q k ∧ R k := fun k hk => ⟨h k hk, h2 k hk⟩
theorem snoc_at {α : Type} {l : List α} {i : Nat} {v : α} (h : l.length = i) : (l ++ [v])[i]? = some v := by
  rw [List.getElem?_append_right (by omega), h, Nat.sub_self]; rfl
theorem own_nil {Q : Nat → Prop} : ∀ k, owns none k → Q k := fun k hk => absurd hk (owns_none k)
theorem sumW_snoc {ms : List Mem} {i : Nat} {x : Mem} (h : ms[i]? = some x) : sumW (ms.take (i + 1)) = sumW (ms.take i) + x.wt := by
  rw [take_snoc h, sumW_append]; simp [sumW]
theorem left_snoc {ms : List Mem} {i : Nat} {x : Mem} (n s : Int) (h : ms[i]? = some x) : n - isum ((ms.take (i + 1)).map (sbase n s)) = n - isum ((ms.take i).map (sbase n s)) - sbase n s x := by
  rw [take_snoc h, List.map_append, isum_append]; simp [isum]; omega
theorem rest_get {ms : List Mem} {i : Nat} (n s : Int) (h : i < ms.length) : ((ms.take i).map (srest n s) ++ List.replicate (ms.length - i) 0)[i]? = some 0 := by
  have l : ((ms.take i).map (srest n s)).length = i := by simp; omega
  rw [List.getElem?_append_right (by omega), l, List.getElem?_replicate]
  simp; omega
theorem rest_snoc {ms : List Mem} {i : Nat} {x : Mem} (n s : Int) (h : ms[i]? = some x) : ((ms.take i).map (srest n s) ++ List.replicate (ms.length - i) 0).set i (srest n s x) = (ms.take (i + 1)).map (srest n s) ++ List.replicate (ms.length - (i + 1)) 0 := by
  have hlt : i < ms.length := (List.getElem?_eq_some_iff.1 h).1
  have l : ((ms.take i).map (srest n s)).length = i := by simp; omega
  have e : ms.length - i = (ms.length - (i + 1)) + 1 := by omega
  rw [List.set_append_right _ _ (by omega), l, Nat.sub_self, e, List.replicate_succ, List.set_cons_zero, take_snoc h, List.map_append, List.append_assoc]
  rfl
theorem wt_take {ms : List Mem} (h : ∀ x ∈ ms, 1 ≤ x.wt ∧ x.wt ≤ 16) (i : Nat) : 0 ≤ sumW (ms.take i) ∧ sumW (ms.take i) ≤ 16 * ms.length := by
  have := sumW_bd (l := ms.take i) fun x hx => h x (List.mem_of_mem_take hx)
  simp at this
  omega
theorem base_take {ms : List Mem} {n s : Int} (hn : 0 ≤ n ∧ n ≤ 64) (h : ∀ x ∈ ms, 1 ≤ x.wt ∧ x.wt ≤ 16) (hs : 0 < s) (i : Nat) : 0 ≤ isum ((ms.take i).map (sbase n s)) ∧ isum ((ms.take i).map (sbase n s)) ≤ 1024 * ms.length := by
  have := isum_bd (l := (ms.take i).map (sbase n s)) (B := 1024) fun x hx => by
    obtain ⟨y, hy, rfl⟩ := List.mem_map.1 hx
    exact sbase_bd hn (h y (List.mem_of_mem_take hy)) hs
  rw [List.length_map, List.length_take] at this
  omega
theorem getD_get {l : List Int} {i : Nat} (h : i < l.length) : l[i]? = some (l.getD i 0) := by
  rw [List.getD_eq_getElem?_getD, List.getElem?_eq_getElem h]; rfl

theorem Shares_calls (ms : List Mem) (n : Int) (hn : 0 ≤ n ∧ n ≤ 64) (hok : memsOK ms = true) (h0 : 1 ≤ ms.length) (a : Option Addr) (c : Nat) (w : World) (hS : Sli encMem 19 w a c ms) :
    CallV Try.prog 164 #[.slice a ms.length c, i64 n] w fun v w' => ∃ g off c', v = .slice (some ⟨g, off, none⟩) ms.length c' ∧ Ext w w' ∧ w.heap.size ≤ g ∧ ∃ cs, SlO (fun n : Int => [i64 n]) 1 w' g off c' cs (shares ms n) := by
  have hX : Ext w w := Ext.rfl' w
  have hSl := hS.lt
  have hw := memsOK_wt hok
  have hlen := memsOK_len hok
  have hsw := sumW_bd hw
  have h0s : 0 < sumW ms := by omega
  refine Calls.of_W (N := 94) Try.func164 rfl rfl rfl ?_
  refine W.reg ?_
  refine WL.y (R.asg (v := .slice _ _ _) rfl) rfl ?_
  refine WL.nil ?_
  refine W.seq ?_
  refine W.reg ?_
  refine WL.y (R.mv (v := .int _ _) rfl) rfl ?_
  refine WL.y (R.lssF rfl rfl (by omega)) rfl ?_
  refine WL.y (R.mv (v := .bool false) rfl) rfl ?_
  refine WL.y (R.mv (v := .int _ _) rfl) rfl ?_
  refine WL.y (R.gtrF rfl rfl (by omega)) rfl ?_
  refine WL.y (R.pkF (v := .bool false) rfl rfl) rfl ?_
  refine WL.y (R.mv (v := .bool false) rfl) rfl ?_
  refine WL.y (R.mv (v := .slice _ _ _) rfl) rfl ?_
  refine WL.call Try.func109 rfl rfl ((Check_calls ms a c _ hS).val (y := i64 0) (by rw [hok]; rfl)) rfl rfl ?_
  rintro _ w1 ⟨rfl, hx1⟩
  have hz1 := hx1.size
  replace hX := hX.tr hx1
  replace hS := hS.ext hx1
  refine WL.y (R.neqF rfl rfl rfl) rfl ?_
  refine WL.y (R.pkF (v := .bool false) rfl rfl) rfl ?_
  refine WL.y (R.mv (v := .bool false) rfl) rfl ?_
  refine WL.y (R.mv (v := .slice _ _ _) rfl) rfl ?_
  refine WL.y (R.lenS Try.underlying52 rfl) rfl ?_
  refine WL.y (R.eqlF rfl rfl (by omega)) rfl ?_
  refine WL.y (R.pkF (v := .bool false) rfl rfl) rfl ?_
  refine WL.nil ?_
  refine W.cond_f rfl ?_
  refine W.skip ?_
  refine W.reg ?_
  refine WL.y (R.mv (v := .int _ _) rfl) rfl ?_
  refine WL.y (R.asg (v := .int _ _) rfl) rfl ?_
  refine WL.y (R.asg (v := .int _ _) rfl) rfl ?_
  refine WL.nil ?_
  refine W.seqX (ι := Unit) [(5, 6), (8, 9), (30, 41)] (fun _ => [(5, i64 (sumW ms))]) (fun _ w' => Ext w w' ∧ Sli encMem 19 w' a c ms) ?_ ?_
  · skip
    refine W.reg ?_
    refine WL.y (R.mv (v := .slice _ _ _) rfl) rfl ?_
    refine WL.y (R.lenS Try.underlying52 rfl) rfl ?_
    refine WL.y (R.mv (v := .int _ _) rfl) rfl ?_
    refine WL.nil ?_
    refine W.block ?_
    refine W.loopS (ι := Nat) [(5, 6), (8, 9), (32, 41)] (fun i => [(5, i64 (sumW (ms.take i))), (32, i64 (i : Nat))]) (fun i => ms.length - i) (fun i w' => Ext w w' ∧ Sli encMem 19 w' a c ms ∧ i ≤ ms.length) 0 ⟨rfl, rfl, trivial⟩ ⟨hX, hS, Nat.zero_le _⟩ ?_
    rintro i j wl ⟨hX, hS, hi⟩
    have hwi := wt_take hw i
    refine W.reg ?_
    refine WL.fork (R.lss rfl rfl) rfl (fun hc5_0 => ?_) (fun hc5_0 => ?_)
    · skip
      replace hc5_0 := of_decide_eq_true hc5_0
      refine WL.nil ?_
      refine W.seq ?_
      refine W.cond_t rfl ?_
      refine W.skip ?_
      refine W.seq ?_
      refine W.block ?_
      refine W.reg ?_
      obtain ⟨x, hx⟩ : ∃ x, ms[i]? = some x := ⟨_, List.getElem?_eq_getElem (by omega)⟩
      have hwx := hw x (List.mem_of_getElem? hx)
      have hmx := mul_bd hn hwx
      obtain ⟨g, off, cs, rfl, hO⟩ := hS.op (by omega)
      have hg := hSl g ⟨(owns_some _ _).2 rfl, by have := hO.le; omega⟩
      refine WL.y (R.indexS Try.underlying52 siz57 rfl rfl rfl (by omega)) rfl ?_
      refine WL.y (R.loadA agg57 rfl (hO.blk).r (hO.at encM hx) rfl) rfl ?_
      refine WL.alloc zer57 rfl ?_
      intro b2 w2 hb2 hs2 hx2 hB2
      have hge2 := hX.size
      replace hX := hX.tr hx2
      replace hO := hO.ext hx2
      refine WL.store (v := .agg _) siz57 rfl rfl rfl rfl hB2 (Nat.le_of_ble_eq_true rfl) rfl rfl ?_
      intro w3 hu3 hz3 hn3
      replace hX := hX.put hu3 (by omega)
      replace hO := hO.updB hu3 (by omega)
      replace hB2 := hn3; clear hn3
      refine WL.nil ?_
      refine W.region ?_
      refine WL.y (R.mv (v := .int _ _) rfl) rfl ?_
      refine WL.y (R.fieldAddr fo57_1 rfl) rfl ?_
      refine WL.y (R.load sca3 rfl (hB2).r rfl) rfl ?_
      refine WL.y (R.addI rfl rfl (by omega)) rfl ?_
      refine WL.y (R.asg (v := .int _ _) rfl) rfl ?_
      refine WL.nil ?_
      refine W.region ?_
      refine WL.y (R.addI rfl rfl (by omega)) rfl ?_
      refine WL.y (R.mv (v := .int _ _) rfl) rfl ?_
      refine WL.nil ?_
      exact ⟨i + 1, (by omega), (by repeat (first | exact Same.rfl' _ _ | refine Same.set _ rfl ?_ | refine Same.over' _ rfl ?_ | refine Same.sets rfl ?_)), ⟨by show _ = i64 (sumW (ms.take (i + 1))); rw [sumW_snoc hx]; rfl, rfl, trivial⟩, rfl, hX, hO.cl, by omega⟩
    · skip
      replace hc5_0 := of_decide_eq_false hc5_0
      refine WL.nil ?_
      refine W.seq ?_
      refine W.cond_f rfl ?_
      refine W.exit ?_
      exact ⟨(), (by repeat (first | exact Same.rfl' _ _ | refine Same.set _ rfl ?_ | refine Same.over' _ rfl ?_ | refine Same.sets rfl ?_)), ⟨by show _ = i64 (sumW ms); rw [show sumW ms = sumW (ms.take i) by rw [List.take_of_length_le (by omega)]]; rfl, trivial⟩, rfl, hX, hS⟩
  · skip
    rintro _ j wl ⟨hX, hS⟩
    have hXs := hX.size
    refine W.reg ?_
    refine WL.y (R.mv (v := .slice _ _ _) rfl) rfl ?_
    refine WL.y (R.lenS Try.underlying52 rfl) rfl ?_
    refine WL.makeSlice el22_3 rfl rfl (by omega) (by omega) rfl ?_
    intro b4 w4 hb4 hs4 hx4 hB4
    have hge4 := hX.size
    replace hX := hX.tr hx4
    replace hS := hS.ext hx4
    replace hB4 := SlO.made encI (0 : Int) rfl hB4
    obtain ⟨bR, rfl⟩ : ∃ bR, bR = b4 := ⟨_, rfl⟩
    have hR := hB4; clear hB4
    refine WL.y (R.asg (v := .slice _ _ _) rfl) rfl ?_
    refine WL.nil ?_
    refine W.seqX (ι := Nat × Nat × Nat) [(4, 5), (6, 7), (10, 12), (44, 76)] (fun q => [(4, .slice (some ⟨q.1, q.2.1, none⟩) ms.length q.2.2), (6, i64 (n - isum (ms.map (sbase n (sumW ms)))))]) (fun q w' => Ext w w' ∧ bR < w'.heap.size ∧ w.heap.size ≤ q.1 ∧ q.1 ≠ bR ∧ (∃ cs, SlO (fun n : Int => [i64 n]) 1 w' q.1 q.2.1 q.2.2 cs (ms.map (sbase n (sumW ms)))) ∧ ∃ cs, SlO (fun n : Int => [i64 n]) 1 w' bR 0 ms.length cs (ms.map (srest n (sumW ms)))) ?_ ?_
    · skip
      refine W.reg ?_
      refine WL.y (R.mv (v := .slice _ _ _) rfl) rfl ?_
      refine WL.y (R.lenS Try.underlying52 rfl) rfl ?_
      refine WL.y (R.mv (v := .int _ _) rfl) rfl ?_
      refine WL.nil ?_
      refine W.block ?_
      refine W.loopS (ι := Nat × Option Addr × Nat) [(4, 5), (6, 7), (10, 12), (46, 76)] (fun q => [(4, .slice q.2.1 q.1 q.2.2), (6, i64 (n - isum ((ms.take q.1).map (sbase n (sumW ms))))), (46, i64 (q.1 : Nat))]) (fun q => ms.length - q.1) (fun q w' => q.1 ≤ ms.length ∧ Ext w w' ∧ bR < w'.heap.size ∧ Sli encMem 19 w' a c ms ∧ Slw (fun n : Int => [i64 n]) 1 w' q.2.1 q.2.2 ((ms.take q.1).map (sbase n (sumW ms))) ∧ (∀ k, owns q.2.1 k → w.heap.size ≤ k ∧ k ≠ bR) ∧ ∃ cs, SlO (fun n : Int => [i64 n]) 1 w' bR 0 ms.length cs ((ms.take q.1).map (srest n (sumW ms)) ++ List.replicate (ms.length - q.1) 0)) (0, none, 0) ⟨rfl, by show _ = i64 (n - 0); rw [Int.sub_zero]; rfl, rfl, trivial⟩ ⟨Nat.zero_le _, hX, by omega, hS, Slw.nil _ _ _, own_nil, _, by simpa using hR⟩ ?_
      rintro ⟨i, ao, co⟩ j wl ⟨hi, hX, hbw, hS, hOut, hown, csR, hR⟩
      simp only at hi hOut hown hR
      have hXs := hX.size
      have hol := hOut.lt
      have hli : (List.map (sbase n (sumW ms)) (List.take i ms)).length = i := by simp; omega
      try dsimp only
      refine W.reg ?_
      refine WL.fork (R.lss rfl rfl) rfl (fun hc11_0 => ?_) (fun hc11_0 => ?_)
      · skip
        replace hc11_0 := of_decide_eq_true hc11_0
        refine WL.nil ?_
        refine W.seq ?_
        refine W.cond_t rfl ?_
        refine W.skip ?_
        refine W.seq ?_
        refine W.block ?_
        refine W.reg ?_
        obtain ⟨x, hx⟩ : ∃ x, ms[i]? = some x := ⟨_, List.getElem?_eq_getElem (by omega)⟩
        have hwx := hw x (List.mem_of_getElem? hx)
        have hmx := mul_bd hn hwx
        obtain ⟨g, off, cs, rfl, hO⟩ := hS.op (by omega)
        have hg := hSl g ⟨(owns_some _ _).2 rfl, by have := hO.le; omega⟩
        refine WL.y (R.mv (v := .int _ _) rfl) rfl ?_
        refine WL.y (R.indexS Try.underlying52 siz57 rfl rfl rfl (by omega)) rfl ?_
        refine WL.y (R.loadA agg57 rfl (hO.blk).r (hO.at encM hx) rfl) rfl ?_
        refine WL.alloc zer57 rfl ?_
        intro b5 w5 hb5 hs5 hx5 hB5
        have hge5 := hX.size
        replace hX := hX.tr hx5
        replace hOut := hOut.ext hx5
        replace hR := hR.ext hx5
        replace hO := hO.ext hx5
        refine WL.y (R.asg (v := .int _ _) rfl) rfl ?_
        refine WL.store (v := .agg _) siz57 rfl rfl rfl rfl hB5 (Nat.le_of_ble_eq_true rfl) rfl rfl ?_
        intro w6 hu6 hz6 hn6
        replace hX := hX.put hu6 (by omega)
        replace hOut := hOut.updB hu6 (fun k hk => by first | (have := (own2 hown hol) k hk; omega) | (have := (own2 hown hol) k hk.1; omega))
        replace hR := hR.updB hu6 (by omega)
        replace hO := hO.updB hu6 (by omega)
        replace hB5 := hn6; clear hn6
        refine WL.nil ?_
        refine W.reg ?_
        refine WL.y (R.mv (v := .slice _ _ _) rfl) rfl ?_
        refine WL.y (R.mv (v := .int _ _) rfl) rfl ?_
        refine WL.y (R.fieldAddr fo57_1 rfl) rfl ?_
        refine WL.y (R.load sca3 rfl (hB5).r rfl) rfl ?_
        refine WL.y (R.mulI rfl rfl (by omega)) rfl ?_
        refine WL.y (R.mv (v := .int _ _) rfl) rfl ?_
        refine WL.y (R.quoI rfl rfl (by omega) h0s) rfl ?_
        refine WL.buildSliceP (parts := [(0, .tmp 57)]) (ps := [(0, .int _ _)]) el22_3 rfl rfl rfl (by decide) rfl rfl ?_
        intro b7 w7 hb7 hs7 hx7 hB7
        have hge7 := hX.size
        replace hX := hX.tr hx7
        replace hOut := hOut.ext hx7
        replace hR := hR.ext hx7
        replace hO := hO.ext hx7
        replace hB5 := hx7.blk hB5
        refine WL.appendS el22_3 encI rfl rfl hOut (by first | omega | (simp; omega)) (Sli.one encI (sbase n (sumW ms) x) hB7 rfl) rfl (by omega) (by omega) rfl ?_
        intro a8 c8 w8 hu8 hsl8 hf8
        replace hX := hX.putU hu8 (fun k hk => by have := own2 hown hol k hk; omega)
        replace hR := hR.upd hu8 (fun hk => by have := own2 hown hol _ hk; omega)
        replace hO := hO.upd hu8 (fun hk => by have := own2 hown hol _ hk; omega)
        replace hB5 := hu8.blk (fun hk => by have := own2 hown hol _ hk; omega) hB5
        replace hB7 := hu8.blk (fun hk => by have := own2 hown hol _ hk; omega) hB7
        replace hOut := hsl8; clear hsl8
        have hz8 := hu8.size
        replace hown := own_step hown hf8 (fun k hk => ⟨by omega, by omega⟩)
        refine WL.y (R.asg (v := .slice _ _ _) rfl) rfl ?_
        refine WL.nil ?_
        refine W.reg ?_
        refine WL.y (R.mv (v := .slice _ _ _) rfl) rfl ?_
        refine WL.y (R.mv (v := .int _ _) rfl) rfl ?_
        refine WL.y (R.mv (v := .int _ _) rfl) rfl ?_
        refine WL.y (R.fieldAddr fo57_1 rfl) rfl ?_
        refine WL.y (R.load sca3 rfl (hB5).r rfl) rfl ?_
        refine WL.y (R.mulI rfl rfl (by omega)) rfl ?_
        refine WL.y (R.mv (v := .int _ _) rfl) rfl ?_
        refine WL.y (R.rem rfl rfl (by omega)) rfl ?_
        refine WL.y (R.indexS Try.underlying22 siz3 rfl rfl rfl (by omega)) rfl ?_
        refine WL.store1 (v := .int _ _) sca3 rfl rfl rfl hR.blk (by have := hR.bound (List.getElem?_eq_some_iff.1 (rest_get n (sumW ms) (show i < ms.length by omega))).1; omega) rfl ?_
        intro w9 hu9 hz9 hn9
        replace hX := hX.put hu9 (by omega)
        replace hOut := hOut.updB hu9 (fun k hk => by first | (have := (hown) k hk; omega) | (have := (hown) k hk.1; omega))
        replace hO := hO.updB hu9 (by omega)
        replace hB5 := hu9.blk (by omega) hB5
        replace hB7 := hu9.blk (by omega) hB7
        replace hR := hR.set encI (rest_get n (sumW ms) (show i < ms.length by omega)) (j := 0) (by decide) (y := srest n (sumW ms) x) rfl hn9; clear hn9
        refine WL.nil ?_
        refine W.region ?_
        obtain ⟨g2, off2, cs2, rfl, hP⟩ := hOut.op (by simp)
        have hown2 := hown g2 ((owns_some _ _).2 rfl)
        have hPx := snoc_at (v := sbase n (sumW ms) x) hli
        have hbt := base_take hn hw h0s i
        have hbx := sbase_bd hn hwx h0s
        refine WL.y (R.mv (v := .int _ _) rfl) rfl ?_
        refine WL.y (R.mv (v := .slice _ _ _) rfl) rfl ?_
        refine WL.y (R.mv (v := .int _ _) rfl) rfl ?_
        refine WL.y (R.indexS Try.underlying22 siz3 rfl rfl rfl (by omega)) rfl ?_
        refine WL.y (R.load sca3 rfl (hP.blk).r (hP.cell encI hPx (j := 0) (by decide))) rfl ?_
        refine WL.y (R.subI rfl rfl (by omega)) rfl ?_
        refine WL.y (R.asg (v := .int _ _) rfl) rfl ?_
        refine WL.nil ?_
        refine W.region ?_
        refine WL.y (R.addI rfl rfl (by omega)) rfl ?_
        refine WL.y (R.mv (v := .int _ _) rfl) rfl ?_
        refine WL.nil ?_
        exact ⟨⟨i + 1, _, _⟩, (by simp only; omega), (by repeat (first | exact Same.rfl' _ _ | refine Same.set _ rfl ?_ | refine Same.over' _ rfl ?_ | refine Same.sets rfl ?_)), ⟨rfl, by show _ = i64 (n - isum ((ms.take (i + 1)).map (sbase n (sumW ms)))); rw [left_snoc n (sumW ms) hx]; rfl, rfl, trivial⟩, rfl, by simp only; omega, hX, by omega, hO.cl, by simp only [take_snoc hx, List.map_append]; exact hP.cl, hown, _, by simp only [← rest_snoc n (sumW ms) hx]; exact hR⟩
      · skip
        replace hc11_0 := of_decide_eq_false hc11_0
        refine WL.nil ?_
        refine W.seq ?_
        refine W.cond_f rfl ?_
        refine W.exit ?_
        have hil : i = ms.length := by omega
        subst hil
        have htl : n - isum (ms.map (sbase n (sumW ms))) = n - isum ((ms.take ms.length).map (sbase n (sumW ms))) := by rw [List.take_length]
        rw [List.take_length] at hOut hR
        obtain ⟨g2, off2, cs2, rfl, hP⟩ := hOut.op (by simp; omega)
        have hown2 := hown g2 ((owns_some _ _).2 rfl)
        exact ⟨⟨g2, off2, co⟩, (by repeat (first | exact Same.rfl' _ _ | refine Same.set _ rfl ?_ | refine Same.over' _ rfl ?_ | refine Same.sets rfl ?_)), ⟨rfl, by show _ = i64 (n - isum (ms.map (sbase n (sumW ms)))); rw [htl]; rfl, trivial⟩, rfl, hX, hbw, hown2.1, hown2.2, ⟨_, hP⟩, _, by simpa using hR⟩
    · skip
      rintro ⟨g2, off2, c2⟩ j wl ⟨hX, hbw, hg2, hgr, ⟨cs2, hP⟩, csR, hR⟩
      simp only at hg2 hgr hP
      have hln := left_nonneg hn hw h0s
      have hbb : ∀ x ∈ ms.map (sbase n (sumW ms)), 0 ≤ x ∧ x ≤ 200000 - ((n - isum (ms.map (sbase n (sumW ms)))).toNat : Int) := fun x hx => by
        obtain ⟨y, hy, rfl⟩ := List.mem_map.1 hx
        have := sbase_bd hn (hw y hy) h0s
        have := base_take hn hw h0s ms.length
        rw [List.take_length] at this
        omega
      try dsimp only
      refine W.seqX (ι := Unit) [(6, 7), (12, 13), (76, 93)] (fun _ => []) (fun _ w' => Ext w w' ∧ ∃ cs, SlO (fun n : Int => [i64 n]) 1 w' g2 off2 c2 cs (shares ms n)) ?_ ?_
      · skip
        refine W.block ?_
        refine W.loopS (ι := Nat × List Int × List Int) [(6, 7), (12, 13), (76, 93)] (fun q => [(6, i64 (q.1 : Nat))]) (fun q => q.1) (fun q w' => q.1 ≤ 64 + 1024 * ms.length ∧ Ext w w' ∧ bR < w'.heap.size ∧ q.2.1.length = ms.length ∧ q.2.2.length = ms.length ∧ bump q.1 q.2.1 q.2.2 = shares ms n ∧ (∀ x ∈ q.2.1, 0 ≤ x ∧ x ≤ 200000 - q.1) ∧ (∃ cs, SlO (fun n : Int => [i64 n]) 1 w' g2 off2 c2 cs q.2.1) ∧ ∃ cs, SlO (fun n : Int => [i64 n]) 1 w' bR 0 ms.length cs q.2.2) ((n - isum (ms.map (sbase n (sumW ms)))).toNat, ms.map (sbase n (sumW ms)), ms.map (srest n (sumW ms))) ⟨by show _ = i64 (((n - isum (ms.map (sbase n (sumW ms)))).toNat : Nat) : Int); rw [Int.toNat_of_nonneg hln]; rfl, trivial⟩ ⟨by simp only; have := base_take hn hw h0s ms.length; rw [List.take_length] at this; omega, hX, hbw, by simp, by simp, rfl, hbb, ⟨_, hP⟩, _, hR⟩ ?_
        rintro ⟨k, o, r⟩ j wl ⟨hk, hX, hbw, hlo, hlr, hbump, hbo, ⟨cs2, hP⟩, csR, hR⟩
        simp only at hk hlo hlr hbump hbo hP hR
        have hXs := hX.size
        try dsimp only
        refine W.seq ?_
        refine W.reg ?_
        refine WL.y (R.mv (v := .int _ _) rfl) rfl ?_
        refine WL.fork (R.gtr rfl rfl) rfl (fun hc17_1 => ?_) (fun hc17_1 => ?_)
        · skip
          replace hc17_1 := of_decide_eq_true hc17_1
          refine WL.nil ?_
          refine W.cond_t rfl ?_
          refine W.skip ?_
          refine W.seq ?_
          refine W.block ?_
          refine W.reg ?_
          refine WL.y (R.mv (v := .slice _ _ _) rfl) rfl ?_
          refine WL.y (R.mv (v := .slice _ _ _) rfl) rfl ?_
          obtain ⟨k1, rfl⟩ : ∃ k1, k = k1 + 1 := ⟨k - 1, by omega⟩
          obtain ⟨p, hpi, hpl⟩ := idx_max (r := r) (by omega)
          have hpo := hbo _ (getD_mem (l := o) (i := p) (by omega))
          refine WL.call (vs := [.slice (some ⟨bR, 0, none⟩) r.length ms.length]) Try.func202 rfl rfl (Max_calls r (by omega) (by omega) _ _ _ hR.cl.ro) (by rw [hlr]; rfl) rfl ?_
          rintro _ _ ⟨rfl, rfl⟩
          refine WL.call (vs := [.slice (some ⟨bR, 0, none⟩) r.length ms.length, i64 (maxL r)]) Try.func201 rfl rfl (Index_calls r (maxL r) (by omega) _ _ _ hR.cl.ro) (by rw [hlr]; rfl) rfl ?_
          rw [hpi]
          rintro _ _ ⟨rfl, rfl⟩
          refine WL.y (R.asg (v := .int _ _) rfl) rfl ?_
          refine WL.nil ?_
          refine W.reg ?_
          have hpo2 : o[p]? = some (o.getD p 0) := getD_get (by omega)
          have hpr : r[p]? = some (r.getD p 0) := getD_get (by omega)
          refine WL.y (R.mv (v := .slice _ _ _) rfl) rfl ?_
          refine WL.y (R.mv (v := .int _ _) rfl) rfl ?_
          refine WL.y (R.indexS Try.underlying22 siz3 rfl rfl rfl (by omega)) rfl ?_
          refine WL.y (R.load sca3 rfl (hP.blk).r (hP.cell encI hpo2 (j := 0) (by decide))) rfl ?_
          refine WL.y (R.addI rfl rfl (by omega)) rfl ?_
          refine WL.y (R.indexS Try.underlying22 siz3 rfl rfl rfl (by omega)) rfl ?_
          refine WL.store1 (v := .int _ _) sca3 rfl rfl rfl hP.blk (by have := hP.bound (List.getElem?_eq_some_iff.1 hpo2).1; omega) rfl ?_
          intro w12 hu12 hz12 hn12
          replace hX := hX.put hu12 (by omega)
          replace hR := hR.updB hu12 (by omega)
          replace hP := hP.set encI hpo2 (j := 0) (by decide) (y := o.getD p 0 + 1) rfl hn12; clear hn12
          refine WL.nil ?_
          refine W.region ?_
          refine WL.y (R.mv (v := .slice _ _ _) rfl) rfl ?_
          refine WL.y (R.mv (v := .int _ _) rfl) rfl ?_
          refine WL.y (R.indexS Try.underlying22 siz3 rfl rfl rfl (by omega)) rfl ?_
          refine WL.store1 (v := .int _ _) sca3 rfl rfl rfl hR.blk (by have := hR.bound (List.getElem?_eq_some_iff.1 hpr).1; omega) rfl ?_
          intro w13 hu13 hz13 hn13
          replace hX := hX.put hu13 (by omega)
          replace hP := hP.updB hu13 (by omega)
          replace hR := hR.set encI hpr (j := 0) (by decide) (y := (-1 : Int)) rfl hn13; clear hn13
          refine WL.nil ?_
          refine W.region ?_
          refine WL.y (R.mv (v := .int _ _) rfl) rfl ?_
          refine WL.y (R.subI rfl rfl (by omega)) rfl ?_
          refine WL.y (R.asg (v := .int _ _) rfl) rfl ?_
          refine WL.nil ?_
          exact ⟨⟨k1, o.set p (o.getD p 0 + 1), r.set p (-1)⟩, (by simp only; omega), (by repeat (first | exact Same.rfl' _ _ | refine Same.set _ rfl ?_ | refine Same.over' _ rfl ?_ | refine Same.sets rfl ?_)), ⟨by show _ = i64 ((k1 : Nat) : Int); rw [show ((k1 : Nat) : Int) = ((k1 + 1 : Nat) : Int) - 1 by omega]; rfl, trivial⟩, rfl, by simp only; omega, hX, by omega, by simpa using hlo, by simpa using hlr, by rw [← hbump]; simp only [bump, hpi, Int.toNat_natCast], by simp only; intro y hy; rcases mem_set_or hy with hy | rfl; have := hbo y hy; omega; omega, ⟨_, hP⟩, _, hR⟩
        · skip
          replace hc17_1 := of_decide_eq_false hc17_1
          refine WL.nil ?_
          refine W.cond_f rfl ?_
          refine W.exit ?_
          obtain rfl : k = 0 := by omega
          exact ⟨(), (by repeat (first | exact Same.rfl' _ _ | refine Same.set _ rfl ?_ | refine Same.over' _ rfl ?_ | refine Same.sets rfl ?_)), trivial, rfl, hX, _, (show o = shares ms n from hbump) ▸ hP⟩
      · skip
        rintro _ j wl ⟨hX, cs2, hP⟩
        refine W.reg ?_
        refine WL.y (R.mv (v := .slice _ _ _) rfl) rfl ?_
        refine WL.y (R.asg (v := .slice _ _ _) rfl) rfl ?_
        refine WL.nil ?_
        refine W.ret ?_
        exact PR.r1 rfl (.tmp rfl) ⟨g2, off2, c2, rfl, hX, hg2, _, hP⟩
end Go.Proofs.Ytkjecokkdbapkaa
