import Derived.Test.YtkjecokkdbapkaaZzVips5
import Derived.Test.YtkjecokkdbapkaaProg
namespace Go.Proofs.Ytkjecokkdbapkaa
set_option linter.all false
open Go Go.Eng Go.RowKit
set_option maxRecDepth 20000
set_option maxHeartbeats 2000000
set_option linter.unusedVariables false
set_option linter.unusedSimpArgs false
attribute [local irreducible] WL W QL WA SP

def pl57 : Nat → Option (Nat × Nat) := fun i => (#[(0, 18), (18, 1)] : Array (Nat × Nat))[i]?
theorem bld57 : Bld Try.prog 57 pl57 zc57 := ⟨_, fun parts w => by
  simp only [pl57, Instr.build, Sem.run_bind, Try.zeroValue57, Try.runUnderlying57, Result.andThen_ok, List.mapM_toArray, List.mapM_cons, List.mapM_nil, Try.sizeOf3, Try.sizeOf54, Sem.run_pure, Sem.run_map]
  rfl⟩

def srv (v6 : Bool) (i : Nat) (x : Int) : Mem := ⟨mkDip i v6, 1 + round x 16⟩
def servers (ws : List Int) (v6 : Bool) : List Mem := (ws.take 32).mapIdx (srv v6)
theorem servers_get {ws : List Int} {v6 : Bool} {i : Nat} {x : Int} (hi : i < 32) (h : ws[i]? = some x) : (servers ws v6)[i]? = some (srv v6 i x) := by
  simp [servers, List.getElem?_mapIdx, List.getElem?_take_of_lt hi, h]
theorem servers_len (ws : List Int) (v6 : Bool) : (servers ws v6).length = min 32 ws.length := by simp [servers]
theorem mkDip_inj {i j : Nat} (hi : i < 32) (hj : j < 32) {v6 : Bool} (h : mkDip i v6 = mkDip j v6) : i = j := by
  have e : ∀ k : Nat, k < 32 → (mkDip k v6).port = UInt16.ofNat (8000 + k) := by
    intro k hk
    have : ∀ k, k < 32 → ∀ b, (mkDip (k : Nat) b).port = UInt16.ofNat (8000 + k) := by decide
    exact this k hk v6
  have h2 := congrArg Dip.port h
  rw [e i hi, e j hj] at h2
  have := congrArg UInt16.toNat h2
  simp at this
  omega
theorem mkDip_ok (i : Int) (v6 : Bool) : adrOK (mkDip i v6).adr = true := by cases v6 <;> simp [adrOK, mkDip, B16.list]
theorem servers_ok (ws : List Int) (v6 : Bool) : memsOK (servers ws v6) = true := by
  have hl := servers_len ws v6
  have h1 : decide ((servers ws v6).length ≤ 32) = true := by simp; omega
  have hget : ∀ (i : Nat) (m : Mem), (servers ws v6)[i]? = some m → i < 32 ∧ ∃ x, m = srv v6 i x := by
    intro i m h
    have hlt := (List.getElem?_eq_some_iff.1 h).1
    refine ⟨by omega, ?_⟩
    have hx : ws[i]? = some ws[i] := List.getElem?_eq_getElem (by omega)
    rw [servers_get (by omega) hx] at h
    exact ⟨_, (Option.some.inj h).symm⟩
  have h2 : (servers ws v6).all memOK = true := by
    rw [List.all_eq_true]
    intro m hm
    obtain ⟨i, hi⟩ := List.getElem?_of_mem hm
    obtain ⟨_, x, rfl⟩ := hget i m hi
    have := round_bd x 16 (by decide)
    have h5 : memOK (srv v6 i x) = (adrOK (mkDip i v6).adr && decide (1 ≤ 1 + round x 16) && decide (1 + round x 16 ≤ 16)) := rfl
    have h6 : 1 ≤ 1 + round x 16 := by omega
    have h7 : 1 + round x 16 ≤ 16 := by omega
    rw [h5, mkDip_ok, decide_eq_true h6, decide_eq_true h7]; rfl
  have h3 : ((servers ws v6).map (·.dip)).Nodup := by
    rw [List.Nodup, List.pairwise_iff_getElem]
    intro i j hi hj hij
    simp at hi hj
    have hi' : (servers ws v6)[i]? = some (servers ws v6)[i] := List.getElem?_eq_getElem (by omega)
    have hj' : (servers ws v6)[j]? = some (servers ws v6)[j] := List.getElem?_eq_getElem hj
    rw [List.getElem_map, List.getElem_map]
    obtain ⟨a1, x, e1⟩ := hget i _ hi'
    obtain ⟨a2, y, e2⟩ := hget j _ hj'
    rw [e1, e2]
    simp only [srv]
    intro h
    have := mkDip_inj a1 a2 h
    omega
  simp only [memsOK, h1, h2, h3, decide_true, Bool.and_true]

theorem Servers_callsW (xs : List Int) (h63 : xs.length ≤ 1000000) (v6 : Bool) (a : Option Addr) (c : Nat) (w : World) (hS : Sli (fun n : Int => [i64 n]) 1 w a c xs) : CallV Try.prog 67 #[.slice a xs.length c, bl v6] w fun v w' => (∃ a' c', v = .slice a' (servers xs v6).length c' ∧ Slw encMem 19 w' a' c' (servers xs v6) ∧ ∀ k, owns a' k → w.heap.size ≤ k) ∧ Ext w w' := by
  have hX : Ext w w := Ext.rfl' w
  have hSl := hS.lt
  refine Calls.of_W (N := 31) Try.func67 rfl rfl rfl ?_
  refine W.reg ?_
  refine WL.y (R.asg (v := .slice _ _ _) rfl) rfl ?_
  refine WL.nil ?_
  refine W.reg ?_
  refine WL.y (R.asg (v := .slice _ _ _) rfl) rfl ?_
  refine WL.nil ?_
  refine W.seqX (ι := Option Addr × Nat) [(5, 30)] (fun q => [(5, .slice q.1 (servers xs v6).length q.2)]) (fun q w' => Ext w w' ∧ Slw encMem 19 w' q.1 q.2 (servers xs v6) ∧ ∀ k, owns q.1 k → w.heap.size ≤ k) ?_ ?_
  · skip
    refine W.reg ?_
    refine WL.y (R.asg (v := .int _ _) rfl) rfl ?_
    refine WL.nil ?_
    refine W.block ?_
    refine W.loopS (ι := Nat × Option Addr × Nat) [(5, 30)] (fun q => [(5, .slice q.2.1 q.1 q.2.2), (6, i64 (q.1 : Nat))]) (fun q => 32 - q.1) (fun q w' => q.1 ≤ 32 ∧ q.1 ≤ xs.length ∧ Ext w w' ∧ Sli (fun n : Int => [i64 n]) 1 w' a c xs ∧ Slw encMem 19 w' q.2.1 q.2.2 ((servers xs v6).take q.1) ∧ ∀ k, owns q.2.1 k → w.heap.size ≤ k) (0, none, 0) ⟨rfl, rfl, trivial⟩ ⟨by omega, Nat.zero_le _, hX, hS, Slw.nil _ _ _, own_nil⟩ ?_
    rintro ⟨i, ao, co⟩ j wl ⟨h32, hi, hX, hS, hOut, hown⟩
    simp only at h32 hi hOut hown
    have hXs := hX.size
    have hol := hOut.lt
    have hsl := servers_len xs v6
    have hti : ((servers xs v6).take i).length = i := by simp; omega
    try dsimp only
    refine W.seq ?_
    refine W.reg ?_
    refine WL.y (R.mv (v := .int _ _) rfl) rfl ?_
    refine WL.y (R.mv (v := .slice _ _ _) rfl) rfl ?_
    refine WL.y (R.lenS Try.underlying22 rfl) rfl ?_
    refine WL.fork (R.lss rfl rfl) rfl (fun hc3_3 => ?_) (fun hc3_3 => ?_)
    · skip
      replace hc3_3 := of_decide_eq_true hc3_3
      refine WL.y (R.mv (v := .bool true) rfl) rfl ?_
      refine WL.y (R.mv (v := .int _ _) rfl) rfl ?_
      refine WL.fork (R.lss rfl rfl) rfl (fun hc3_6 => ?_) (fun hc3_6 => ?_)
      · skip
        replace hc3_6 := of_decide_eq_true hc3_6
        refine WL.y (R.pkT (v := .bool true) rfl rfl) rfl ?_
        refine WL.nil ?_
        refine W.cond_t rfl ?_
        refine W.skip ?_
        refine W.seq ?_
        refine W.block ?_
        obtain ⟨x, hx⟩ : ∃ x, xs[i]? = some x := ⟨_, List.getElem?_eq_getElem (by omega)⟩
        obtain ⟨g, off, cs, rfl, hO⟩ := hS.op (by omega)
        have hg := hSl g ⟨(owns_some _ _).2 rfl, by have := hO.le; omega⟩
        have hrb := round_bd x 16 (by decide)
        unfold round at hrb
        refine W.draw (fun j => [12].contains j) (fun wI => Ext wl wI) rfl ?_
        have hI1 := Ext.dr wl
        refine WA.batch [0, 1, 2, 4, 5, 6, 7] 7 (by kernel_rfl) hI1 ?_
        refine QL.y (fun wq hq => (R.mv (v := .slice _ _ _) rfl)) rfl ?_
        refine QL.y (fun wq hq => (R.mv (v := .int _ _) rfl)) rfl ?_
        refine QL.y (fun wq hq => (R.mv (v := .bool _) rfl)) rfl ?_
        refine QL.y (fun wq hq => (R.mv (v := .slice _ _ _) rfl)) rfl ?_
        refine QL.y (fun wq hq => (R.mv (v := .int _ _) rfl)) rfl ?_
        refine QL.y (fun wq hq => (R.indexS Try.underlying22 siz3 rfl rfl rfl (by omega))) rfl ?_
        refine QL.y (fun wq hq => (R.load sca3 rfl (hq.blkR (hO.blk).r) (hO.cell encI hx (j := 0) (by decide)))) rfl ?_
        refine QL.nil ?_
        have hD1 := Ext.dr wl
        have hD1z := hD1.size
        replace hX := hX.tr hD1
        replace hOut := hOut.ext hD1
        replace hO := hO.ext hD1
        refine WA.one 3 6 (by kernel_rfl) ?_
        refine WL.call Try.func29 rfl rfl (mkDip_calls (i : Int) v6 _) rfl rfl ?_
        rintro _ w2 ⟨rfl, hx2⟩
        have hz2 := hx2.size
        replace hX := hX.tr hx2
        replace hOut := hOut.ext hx2
        replace hO := hO.ext hx2
        refine WL.nil ?_
        refine ⟨fun _ h => h.tr hx2, ?_⟩
        replace hI1 := hI1.tr hx2
        refine WA.one 8 5 (by kernel_rfl) ?_
        refine WL.call Try.func24 rfl rfl (round_calls x 16 _ (by decide) (by decide)) rfl rfl ?_
        rintro _ _ ⟨rfl, rfl⟩
        refine WL.nil ?_
        refine ⟨fun _ h => h, ?_⟩
        refine WA.pures [9, 10] 3 (by kernel_rfl) ?_
        refine QL.y (fun wq hq => (R.addI rfl rfl (by omega))) rfl ?_
        refine QL.y (fun wq hq => (R.buildE (parts := [(0, .tmp 20), (1, .tmp 26)]) (vs := encMem (srv v6 i x)) bld57 (by kernel_rfl) (by kernel_rfl))) rfl ?_
        refine QL.nil ?_
        refine WA.one 11 2 (by kernel_rfl) ?_
        refine WL.buildSliceP (parts := [(0, .tmp 27)]) (ps := [(0, .agg _)]) el52_57 rfl rfl rfl (by decide) rfl rfl ?_
        intro b4 w4 hb4 hs4 hx4 hB4
        have hge4 := hX.size
        replace hX := hX.tr hx4
        replace hOut := hOut.ext hx4
        replace hO := hO.ext hx4
        refine WL.nil ?_
        refine ⟨fun _ h => h.tr hx4, ?_⟩
        replace hI1 := hI1.tr hx4
        refine WA.one 12 1 (by kernel_rfl) ?_
        refine WL.appendS el52_57 encM rfl rfl hOut (by first | omega | (simp; omega)) (Sli.one encM (srv v6 i x) hB4 rfl) rfl (by omega) (by omega) rfl ?_
        intro a5 c5 w5 hu5 hsl5 hf5
        replace hX := hX.putU hu5 (fun k hk => by have := own2 hown hol k hk; omega)
        replace hO := hO.upd hu5 (fun hk => by have := own2 hown hol _ hk; omega)
        replace hB4 := hu5.blk (fun hk => by have := own2 hown hol _ hk; omega) hB4
        replace hOut := hsl5; clear hsl5
        have hz5 := hu5.size
        replace hown := own_step hown hf5 (fun k hk => by omega)
        refine WL.nil ?_
        refine ⟨fun h => (by cases h), ?_⟩
        refine WA.pures [13] 0 (by kernel_rfl) ?_
        refine QL.y (fun wq hq => (R.asg (v := .slice _ _ _) rfl)) rfl ?_
        refine QL.nil ?_
        refine WA.done (by kernel_rfl) ?_
        refine W.region ?_
        refine WL.y (R.mv (v := .int _ _) rfl) rfl ?_
        refine WL.y (R.addI rfl rfl (by omega)) rfl ?_
        refine WL.y (R.asg (v := .int _ _) rfl) rfl ?_
        refine WL.nil ?_
        exact ⟨⟨i + 1, a5, c5⟩, (by simp only; omega), (by repeat (first | exact Same.rfl' _ _ | refine Same.set _ rfl ?_ | refine Same.over' _ rfl ?_ | refine Same.sets rfl ?_)), ⟨rfl, rfl, trivial⟩, rfl, by simp only; omega, by simp only; omega, hX, hO.cl, by simp only; rw [take_snoc (servers_get (by omega) hx)]; exact hOut, hown⟩
      · skip
        replace hc3_6 := of_decide_eq_false hc3_6
        refine WL.y (R.pkT (v := .bool false) rfl rfl) rfl ?_
        refine WL.nil ?_
        refine W.cond_f rfl ?_
        refine W.exit ?_
        have hil : i = (servers xs v6).length := by omega
        rw [List.take_of_length_le (by omega)] at hOut
        exact ⟨⟨ao, co⟩, (by repeat (first | exact Same.rfl' _ _ | refine Same.set _ rfl ?_ | refine Same.over' _ rfl ?_ | refine Same.sets rfl ?_)), ⟨by show _ = Value.slice ao (servers xs v6).length co; rw [← hil]; rfl, trivial⟩, rfl, hX, hOut, hown⟩
    · skip
      replace hc3_3 := of_decide_eq_false hc3_3
      refine WL.y (R.mv (v := .bool false) rfl) rfl ?_
      refine WL.skip rfl ?_
      refine WL.skip rfl ?_
      refine WL.y (R.pkF (v := .bool false) rfl rfl) rfl ?_
      refine WL.nil ?_
      refine W.cond_f rfl ?_
      refine W.exit ?_
      have hil : i = (servers xs v6).length := by omega
      rw [List.take_of_length_le (by omega)] at hOut
      exact ⟨⟨ao, co⟩, (by repeat (first | exact Same.rfl' _ _ | refine Same.set _ rfl ?_ | refine Same.over' _ rfl ?_ | refine Same.sets rfl ?_)), ⟨by show _ = Value.slice ao (servers xs v6).length co; rw [← hil]; rfl, trivial⟩, rfl, hX, hOut, hown⟩
  · skip
    rintro ⟨ao, co⟩ j wl ⟨hX, hOut, hown⟩
    try dsimp only
    refine W.reg ?_
    refine WL.y (R.mv (v := .slice _ _ _) rfl) rfl ?_
    refine WL.y (R.asg (v := .slice _ _ _) rfl) rfl ?_
    refine WL.nil ?_
    refine W.ret ?_
    exact PR.r1 rfl (.tmp rfl) ⟨⟨ao, co, rfl, hOut, hown⟩, hX⟩

theorem Servers_calls (xs : List Int) (h63 : xs.length ≤ 1000000) (v6 : Bool) (a : Option Addr) (c : Nat) (w : World) (hS : Sli (fun n : Int => [i64 n]) 1 w a c xs) : CallV Try.prog 67 #[.slice a xs.length c, bl v6] w fun v w' => (∃ a' c', v = .slice a' (servers xs v6).length c' ∧ Sli encMem 19 w' a' c' (servers xs v6) ∧ ∀ k, owns a' k → w.heap.size ≤ k) ∧ Ext w w' :=
  (Servers_callsW xs h63 v6 a c w hS).mono fun v w' ⟨⟨a', c', h1, h2, h3⟩, h4⟩ => ⟨⟨a', c', h1, h2.ro, h3⟩, h4⟩
end Go.Proofs.Ytkjecokkdbapkaa
