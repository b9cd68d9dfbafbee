import Derived.Test.YtkjecokkdbapkaaZzKinds
import Derived.Test.YtkjecokkdbapkaaZzInts
import Derived.Test.YtkjecokkdbapkaaProg
namespace Go.Proofs.Ytkjecokkdbapkaa
set_option linter.all false
open Go Go.Eng Go.RowKit
set_option maxRecDepth 20000
set_option maxHeartbeats 2000000
set_option linter.unusedVariables false
set_option linter.unusedSimpArgs false
attribute [local irreducible] WL W QL WA SP



theorem memsOK_off {ms : List Mem} (r : Nat) (hl : r + ms.length ≤ 32) (h : ∀ (i : Nat) (m : Mem), ms[i]? = some m → (∃ b, m.dip = mkDip ((r + i : Nat) : Int) b) ∧ 1 ≤ m.wt ∧ m.wt ≤ 16) : memsOK ms = true := by
  have h1 : decide (ms.length ≤ 32) = true := by simp; omega
  have h2 : ms.all memOK = true := by
    rw [List.all_eq_true]
    intro m hm
    obtain ⟨i, hi⟩ := List.getElem?_of_mem hm
    obtain ⟨⟨b, e⟩, h3, h4⟩ := h i m hi
    have h5 : memOK m = (adrOK m.dip.adr && decide (1 ≤ m.wt) && decide (m.wt ≤ 16)) := rfl
    rw [h5, e, mkDip_ok, decide_eq_true h3, decide_eq_true h4]; rfl
  have h3 : (ms.map (·.dip)).Nodup := by
    rw [List.Nodup, List.pairwise_iff_getElem]
    intro i j hi hj hij
    simp at hi hj
    rw [List.getElem_map, List.getElem_map]
    obtain ⟨⟨b, e1⟩, _⟩ := h i _ (List.getElem?_eq_getElem (by omega))
    obtain ⟨⟨b', e2⟩, _⟩ := h j _ (List.getElem?_eq_getElem hj)
    rw [e1, e2]
    intro hh
    have := mkDip_inj2 (by omega) (by omega) hh
    omega
  simp only [memsOK, h1, h2, h3, decide_true, Bool.and_true]
def someK (n : Int) : Nat := (round n 6).toNat
theorem someK_lt (n : Int) : someK n < 6 ∧ ((someK n : Nat) : Int) = round n 6 := by
  have := round_bd n 6 (by decide)
  unfold someK; omega
def someW (fr : Int) (i : Nat) : List Int := (List.range i).map (fun j => fr.tdiv 3 + (j : Nat))
def someO (fr : Int) (j : Nat) : Mem := ⟨mkDip j false, 1 + round (fr.tdiv 3 + (j : Nat)) 16⟩
def someN (fr : Int) (j : Nat) : Mem := ⟨mkDip (round fr 5 + (j : Nat)) false, 1 + round (fr.tdiv 3 + (j : Nat)) 16⟩
def someMix (fr n : Int) (i : Nat) : List Mem := (List.range (someK n)).map (fun j => if j < i then someN fr j else someO fr j)
def someM (fr n : Int) : List Mem := (List.range (someK n)).map (someN fr)
theorem someM_len (fr n : Int) : (someM fr n).length = someK n := by simp [someM]
theorem someMix_len (fr n : Int) (i : Nat) : (someMix fr n i).length = someK n := by simp [someMix]
theorem someMix_get {fr n : Int} {i : Nat} (h : i < someK n) : (someMix fr n i)[i]? = some (someO fr i) := by simp [someMix, h]
theorem someMix_set {fr n : Int} {i : Nat} (h : i < someK n) : (someMix fr n i).set i (someN fr i) = someMix fr n (i + 1) := by
  apply List.ext_getElem?
  intro j
  by_cases e : j = i
  · subst e
    rw [List.getElem?_set_self (by simp [someMix]; exact h)]
    simp [someMix, h]
  · rw [List.getElem?_set_ne (Ne.symm e)]
    simp only [someMix, List.getElem?_map]
    by_cases hj : j < someK n
    · rw [List.getElem?_range hj]
      have e2 : (j < i) = (j < i + 1) := by simp only [eq_iff_iff]; omega
      simp only [Option.map_some, e2]
    · rw [List.getElem?_eq_none (by simp; omega)]; rfl
theorem someMix_end (fr n : Int) : someMix fr n (someK n) = someM fr n := by
  unfold someMix someM
  refine List.map_congr_left fun j hj => ?_
  rw [List.mem_range] at hj
  rw [if_pos hj]
theorem someW_succ (fr : Int) (i : Nat) : someW fr i ++ [fr.tdiv 3 + (i : Nat)] = someW fr (i + 1) := by simp [someW, List.range_succ]
theorem someW_len (fr : Int) (i : Nat) : (someW fr i).length = i := by simp [someW]
theorem some_servers (fr n : Int) : servers (someW fr (someK n)) false = someMix fr n 0 := by
  have hk := (someK_lt n).1
  apply List.ext_getElem?
  intro j
  by_cases hj : j < someK n
  · have h1 : (someW fr (someK n))[j]? = some (fr.tdiv 3 + (j : Nat)) := by simp [someW, hj]
    rw [servers_get (by omega) h1]
    simp [someMix, hj, srv, someO]
  · rw [List.getElem?_eq_none (by rw [servers_len, someW_len]; omega), List.getElem?_eq_none (by rw [someMix_len]; omega)]
theorem someM_ok (fr n : Int) : memsOK (someM fr n) = true := by
  have hk := (someK_lt n).1
  have hr := round_bd fr 5 (by decide)
  refine memsOK_off (round fr 5).toNat (by rw [someM_len]; omega) fun i m hm => ?_
  have hlt := (List.getElem?_eq_some_iff.1 hm).1
  rw [someM_len] at hlt
  have e : m = someN fr i := by simp [someM, hlt] at hm; exact hm.symm
  subst e
  have hw := round_bd (fr.tdiv 3 + (i : Nat)) 16 (by decide)
  refine ⟨⟨false, ?_⟩, by show 1 ≤ 1 + round _ 16; omega, by show 1 + round _ 16 ≤ 16; omega⟩
  show mkDip (round fr 5 + (i : Nat)) false = _
  congr 1; omega
theorem tdiv3 {n : Int} (h : okI n) : -3074457345618258603 ≤ n.tdiv 3 ∧ n.tdiv 3 ≤ 3074457345618258602 := by
  have h1 := Int.tdiv_eq_ediv_of_nonneg (a := n) (b := 3)
  rcases Int.lt_or_le n 0 with hn | hn
  · have : (-n).tdiv 3 = -(n.tdiv 3) := Int.neg_tdiv n 3
    rw [Int.tdiv_eq_ediv_of_nonneg (by omega)] at this
    omega
  · rw [Int.tdiv_eq_ediv_of_nonneg hn]; omega
theorem R.quoN {P : Program} {ρ : Env} {w : World} {d : Option Nat} {ty : TypeId} {pos : String} {af : Array Edge} {g : Option (Nat × Bool)} {m : Int} {x y : Operand} {t u : TypeId} (hx : ev ρ x = .int .i64 m) (hy : ev ρ y = .int .i64 3) (hm : okI m) :
    Run P ρ ⟨d, .binOp .quo t x y u, ty, pos, af, g⟩ w (.int .i64 (m.tdiv 3)) := by
  have := R.quo (P := P) (w := w) (d := d) (ty := ty) (pos := pos) (af := af) (g := g) (t := t) (u := u) hx hy (by decide)
  have h := tdiv3 hm
  rwa [wrap64_in (by omega)] at this

theorem some18_calls (fr n : Int) (hfr : okI fr) (w : World) : CallV Try.prog 35 #[i64 fr, i64 n] w fun v w' => (∃ a' c', v = .slice a' (someM fr n).length c' ∧ Sli encMem 19 w' a' c' (someM fr n) ∧ ∀ k, owns a' k → w.heap.size ≤ k) ∧ Ext w w' := by
  have hX : Ext w w := Ext.rfl' w
  have hU : ∀ k, (fun k => w.heap.size ≤ k) k → w.heap.size ≤ k := fun _ h => h
  have hS : Star (fun k => w.heap.size ≤ k) w [] := Star.nil fun _ h => h
  generalize (fun k => w.heap.size ≤ k) = U at hU hS
  refine Calls.of_W (N := 40) Try.func35 rfl rfl rfl ?_
  refine W.reg ?_
  refine WL.y (R.asg (v := .slice _ _ _) rfl) rfl ?_
  refine WL.nil ?_
  refine W.reg ?_
  refine WL.y (R.asg (v := .slice _ _ _) rfl) rfl ?_
  refine WL.nil ?_
  refine W.seqX (ι := Option Addr × Nat) [(5, 7), (9, 22)] (fun q => [(5, .slice q.1 (someW fr (someK n)).length q.2)]) (fun q w' => (True) ∧ Ext w w' ∧ Star U w' [slwA (fun n : Int => [i64 n]) 1 q.1 q.2 (someW fr (someK n))]) ?_ ?_
  · skip
    refine W.reg ?_
    replace hS := hS.pushNil (fun n : Int => [i64 n]) 1
    refine WL.y (R.asg (v := .int _ _) rfl) rfl ?_
    refine WL.nil ?_
    refine W.block ?_
    refine W.loopS (ι := Nat × Option Addr × Nat) [(5, 7), (9, 22)] (fun q => [(5, .slice q.2.1 (someW fr q.1).length q.2.2), (6, i64 (q.1 : Nat))]) (fun q => 6 - q.1) (fun q w' => (q.1 ≤ someK n) ∧ Ext w w' ∧ Star U w' [slwA (fun n : Int => [i64 n]) 1 q.2.1 q.2.2 (someW fr q.1)]) ⟨0, none, 0⟩ ⟨rfl, rfl, trivial⟩ ⟨Nat.zero_le _, hX, hS⟩ ?_
    rintro ⟨i, aw, cw⟩ j1 w_1 ⟨hp, hX, hS⟩
    dsimp only at hX hS ⊢
    have hwl := someW_len fr i
    have hkk := someK_lt n
    unfold round at hkk
    refine W.seq ?_
    refine W.reg ?_
    refine WL.y (R.mv (v := .int _ _) rfl) rfl ?_
    refine WL.y (R.mv (v := .int _ _) rfl) rfl ?_
    refine WL.call Try.func24 rfl rfl (round_calls n 6 _ (by decide) (by decide)) rfl rfl ?_
    rintro _ _ ⟨rfl, rfl⟩
    refine WL.fork (R.lss rfl rfl) rfl (fun hc3_3 => ?_) (fun hc3_3 => ?_)
    · skip
      replace hc3_3 := of_decide_eq_true hc3_3
      refine WL.nil ?_
      refine W.cond_t rfl ?_
      refine W.skip ?_
      refine W.seq ?_
      refine W.block ?_
      refine W.region ?_
      refine WL.y (R.mv (v := .slice _ _ _) rfl) rfl ?_
      refine WL.y (R.mv (v := .int _ _) rfl) rfl ?_
      refine WL.y (R.quoN rfl rfl hfr) rfl ?_
      refine WL.y (R.mv (v := .int _ _) rfl) rfl ?_
      refine WL.y (R.addI rfl rfl (by have := tdiv3 hfr; omega)) rfl ?_
      refine WL.buildSliceP (parts := [(0, .tmp 19)]) (ps := [(0, .int _ _)]) el22_3 rfl rfl rfl (by decide) rfl rfl ?_
      intro b2 w2 hb2 hs2 hx2 hB2
      have hL2 := Slw.one encI _ hB2 rfl
      replace hS := hS.pushSlw hx2 hL2 (fun k hk => by rw [owns_some] at hk; simp only at hk; omega)
      replace hX := hX.tr hx2
      clear hL2 hB2 hs2
      refine WL.appendS el22_3 encI rfl rfl (hS.slw1) (by first | rfl | omega | (simp; done) | (simp; omega)) (hS.slw0).ro (by first | rfl | omega | (simp; done) | (simp; omega)) (by first | omega | (simp; omega)) (by first | omega | (simp; omega)) rfl ?_
      intro a3 c3 w3 hu3 hl3 hf3
      have hN := hS.app1 hu3 hl3 hf3
      replace hS := hN.1
      replace hX := hN.2 _ hX hU
      clear hN hu3 hl3 hf3
      replace hS := hS.drop0
      refine WL.y (R.asg (v := .slice _ _ _) rfl) rfl ?_
      refine WL.nil ?_
      refine W.region ?_
      refine WL.y (R.mv (v := .int _ _) rfl) rfl ?_
      refine WL.y (R.addI rfl rfl (by omega)) rfl ?_
      refine WL.y (R.asg (v := .int _ _) rfl) rfl ?_
      refine WL.nil ?_
      rw [someW_succ] at hS
      exact ⟨⟨i + 1, a3, c3⟩, (by simp only; omega), (by repeat (first | exact Same.rfl' _ _ | refine Same.set _ rfl ?_ | refine Same.over' _ rfl ?_ | refine Same.sets rfl ?_)), ⟨by show Value.slice _ _ _ = Value.slice _ _ _; congr 1; simp [someW], rfl, trivial⟩, rfl, by simp only; omega, hX, hS⟩
    · skip
      replace hc3_3 := of_decide_eq_false hc3_3
      refine WL.nil ?_
      refine W.cond_f rfl ?_
      refine W.exit ?_
      obtain rfl : i = someK n := by omega
      exact ⟨⟨aw, cw⟩, (by repeat (first | exact Same.rfl' _ _ | refine Same.set _ rfl ?_ | refine Same.over' _ rfl ?_ | refine Same.sets rfl ?_)), ⟨rfl, trivial⟩, rfl, trivial, hX, hS⟩
  · skip
    rintro ⟨aw, cw⟩ j2 w_2 ⟨-, hX, hS⟩
    dsimp only at hX hS ⊢
    refine W.reg ?_
    refine WL.y (R.mv (v := .slice _ _ _) rfl) rfl ?_
    refine WL.call Try.func67 rfl rfl (Servers_callsW (someW fr (someK n)) (by rw [someW_len]; have := someK_lt n; omega) false _ _ _ (hS.slw0).ro) rfl rfl ?_
    rw [some_servers]
    rintro _ w4 ⟨⟨am, cm, rfl, hl4, hf4⟩, hx4⟩
    replace hS := hS.pushSlw hx4 hl4 hf4
    replace hX := hX.tr hx4
    refine WL.y (R.asg (v := .slice _ _ _) rfl) rfl ?_
    refine WL.nil ?_
    refine W.seqX (ι := Unit) [(8, 9), (24, 39)] (fun _ => []) (fun _ w' => (True) ∧ Ext w w' ∧ Star U w' [slwA encMem 19 am cm (someM fr n)]) ?_ ?_
    · skip
      refine W.reg ?_
      refine WL.y (R.asg (v := .int _ _) rfl) rfl ?_
      refine WL.nil ?_
      refine W.block ?_
      replace hS := hS.drop1
      refine W.loopS (ι := Nat) [(8, 9), (24, 39)] (fun q => [(8, i64 (q : Nat))]) (fun q => 6 - q) (fun q w' => (q ≤ someK n) ∧ Ext w w' ∧ Star U w' [slwA encMem 19 am cm (someMix fr n q)]) 0 ⟨rfl, trivial⟩ ⟨Nat.zero_le _, hX, hS⟩ ?_
      rintro i j3 w_3 ⟨hp, hX, hS⟩
      have hml := someMix_len fr n i
      have hm0 := someMix_len fr n 0
      have hkk := someK_lt n
      have hr5 := round_bd fr 5 (by decide)
      unfold round at hr5
      refine W.seq ?_
      refine W.reg ?_
      refine WL.y (R.mv (v := .int _ _) rfl) rfl ?_
      refine WL.y (R.mv (v := .slice _ _ _) rfl) rfl ?_
      refine WL.y (R.lenS Try.underlying52 rfl) rfl ?_
      refine WL.fork (R.lss rfl rfl) rfl (fun hc8_3 => ?_) (fun hc8_3 => ?_)
      · skip
        replace hc8_3 := of_decide_eq_true hc8_3
        refine WL.nil ?_
        refine W.cond_t rfl ?_
        refine W.skip ?_
        refine W.seq ?_
        refine W.block ?_
        refine W.region ?_
        refine WL.y (R.mv (v := .slice _ _ _) rfl) rfl ?_
        refine WL.y (R.mv (v := .int _ _) rfl) rfl ?_
        refine WL.y (R.mv (v := .int _ _) rfl) rfl ?_
        refine WL.call Try.func24 rfl rfl (round_calls fr 5 _ (by decide) (by decide)) rfl rfl ?_
        rintro _ _ ⟨rfl, rfl⟩
        refine WL.y (R.mv (v := .int _ _) rfl) rfl ?_
        refine WL.y (R.addI rfl rfl (by omega)) rfl ?_
        refine WL.call Try.func29 rfl rfl (mkDip_calls (round fr 5 + (i : Nat)) false _) rfl rfl ?_
        rintro _ w6 ⟨rfl, hx6⟩
        replace hS := hS.ext hx6
        replace hX := hX.tr hx6
        obtain ⟨g_M, o_M, cs1, rfl, hO1⟩ := (hS.slw0).op (by first | omega | (simp; omega))
        obtain ⟨x, hx_1⟩ : ∃ x, (someMix fr n i)[i]? = some x := ⟨_, List.getElem?_eq_getElem (by first | omega | (simp; omega))⟩
        obtain rfl : x = someO fr i := Option.some.inj (hx_1.symm.trans (someMix_get (by omega)))
        refine WL.y (R.indexS Try.underlying52 siz57 rfl rfl rfl (by first | omega | (simp; omega))) rfl ?_
        refine WL.y (R.fieldAddr fo57_0 rfl) rfl ?_
        refine WL.store (v := .agg _) siz54 rfl rfl rfl rfl hO1.blk (by have := hO1.bound (List.getElem?_eq_some_iff.1 hx_1).1; omega) rfl rfl ?_
        intro w7 hu7 hz7 hn7
        have hQ := hO1.sub encM hx_1 (j := 0) (Nat.le_of_ble_eq_true rfl) (y := someN fr i) rfl hn7
        have hN := hS.app0 (hu7.mono fun k _ h => (owns_some _ k).2 h) hQ.cl (.inl rfl)
        replace hS := hN.1
        replace hX := hN.2 _ hX hU
        clear hN hQ hn7 hu7 hz7
        refine WL.nil ?_
        refine W.region ?_
        refine WL.y (R.mv (v := .int _ _) rfl) rfl ?_
        refine WL.y (R.addI rfl rfl (by omega)) rfl ?_
        refine WL.y (R.asg (v := .int _ _) rfl) rfl ?_
        refine WL.nil ?_
        rw [someMix_set (by omega)] at hS
        exact ⟨i + 1, (by omega), (by repeat (first | exact Same.rfl' _ _ | refine Same.set _ rfl ?_ | refine Same.over' _ rfl ?_ | refine Same.sets rfl ?_)), ⟨rfl, trivial⟩, rfl, (by omega), hX, hS⟩
      · skip
        replace hc8_3 := of_decide_eq_false hc8_3
        refine WL.nil ?_
        refine W.cond_f rfl ?_
        refine W.exit ?_
        obtain rfl : i = someK n := by omega
        rw [someMix_end] at hS
        exact ⟨(), (by repeat (first | exact Same.rfl' _ _ | refine Same.set _ rfl ?_ | refine Same.over' _ rfl ?_ | refine Same.sets rfl ?_)), trivial, rfl, trivial, hX, hS⟩
    · skip
      rintro _ j4 w_4 ⟨-, hX, hS⟩
      refine W.reg ?_
      refine WL.y (R.mv (v := .slice _ _ _) rfl) rfl ?_
      refine WL.y (R.asg (v := .slice _ _ _) rfl) rfl ?_
      refine WL.nil ?_
      refine W.ret ?_
      have hml := someM_len fr n
      obtain ⟨_, ⟨hsl, rfl⟩, hfu⟩ := hS.get0
      exact PR.r1 rfl (.tmp rfl) ⟨⟨am, cm, by rw [hml, ← someMix_len fr n 0]; rfl, hsl.ro, fun k hk => hU k (hfu k hk)⟩, hX⟩
end Go.Proofs.Ytkjecokkdbapkaa
