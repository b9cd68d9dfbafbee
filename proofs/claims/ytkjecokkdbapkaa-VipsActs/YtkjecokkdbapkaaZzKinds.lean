import Derived.Test.YtkjecokkdbapkaaZzLaw19
import Derived.Test.YtkjecokkdbapkaaZzSt2
import Derived.Test.YtkjecokkdbapkaaProg
namespace Go.Proofs.Ytkjecokkdbapkaa
set_option linter.all false
open Go Go.Eng Go.RowKit
set_option maxRecDepth 20000
set_option maxHeartbeats 2000000
set_option linter.unusedVariables false
set_option linter.unusedSimpArgs false
attribute [local irreducible] WL W QL WA SP

theorem fv37_2 : FV Try.prog 37 2 30 18 := fun cs w => by kernel_rfl
theorem siz4 : ∀ w, (sizeOf 4).run Try.prog w = .ok 1 w := Try.sizeOf4

def kmem (kinds : List Bool) : List Mem := kinds.mapIdx (fun i b => (⟨mkDip i b, 1⟩ : Mem))
theorem kmem_get {ks : List Bool} {i : Nat} {b : Bool} (h : ks[i]? = some b) : (kmem ks)[i]? = some ⟨mkDip i b, 1⟩ := by
  simp [kmem, List.getElem?_mapIdx, h]
theorem kmem_len (ks : List Bool) : (kmem ks).length = ks.length := by simp [kmem]
theorem mkDip_inj2 {i j : Nat} (hi : i < 32) (hj : j < 32) {u v : Bool} (h : mkDip i u = mkDip j v) : i = j := by
  have e : ∀ k : Nat, k < 32 → ∀ b, (mkDip (k : Nat) b).port = UInt16.ofNat (8000 + k) := by decide
  have h2 := congrArg Dip.port h
  rw [e i hi, e j hj] at h2
  have := congrArg UInt16.toNat h2
  simp at this
  omega
/-- Members of the servers, each by its number. -/
theorem memsOK_idx {ms : List Mem} (hl : ms.length ≤ 32) (h : ∀ (i : Nat) (m : Mem), ms[i]? = some m → (∃ b, m.dip = mkDip i b) ∧ 1 ≤ m.wt ∧ m.wt ≤ 16) : memsOK ms = true := by
  have h1 : decide (ms.length ≤ 32) = true := by simp; omega
  have h2 : ms.all memOK = true := by
    rw [List.all_eq_true]
    intro m hm
    obtain ⟨i, hi⟩ := List.getElem?_of_mem hm
    obtain ⟨⟨b, e⟩, h3, h4⟩ := h i m hi
    have h5 : memOK m = (adrOK m.dip.adr && decide (1 ≤ m.wt) && decide (m.wt ≤ 16)) := rfl
    rw [h5, e, mkDip_ok, decide_eq_true h3, decide_eq_true h4]; rfl
  have h3 : (ms.map (·.dip)).Nodup := by
    rw [List.Nodup, List.pairwise_iff_getElem]
    intro i j hi hj hij
    simp at hi hj
    rw [List.getElem_map, List.getElem_map]
    obtain ⟨⟨b, e1⟩, _⟩ := h i _ (List.getElem?_eq_getElem (by omega))
    obtain ⟨⟨b', e2⟩, _⟩ := h j _ (List.getElem?_eq_getElem hj)
    rw [e1, e2]
    intro hh
    have := mkDip_inj2 (by omega) (by omega) hh
    omega
  simp only [memsOK, h1, h2, h3, decide_true, Bool.and_true]
theorem kmem_ok {ks : List Bool} (h : ks.length ≤ 20) : memsOK (kmem ks) = true := by
  refine memsOK_idx (by rw [kmem_len]; omega) fun i m hm => ?_
  have hlt := (List.getElem?_eq_some_iff.1 hm).1
  rw [kmem_len] at hlt
  rw [kmem_get (List.getElem?_eq_getElem hlt)] at hm
  cases hm
  exact ⟨⟨_, rfl⟩, Int.le_refl _, by show (1 : Int) ≤ 16; decide⟩
def kgood (encap v6 : Bool) (ks : List Bool) : Bool := ks.all fun b => encap || b == v6
def kcfg (encap : Bool) : Cfg := { roomy 3 with encap := encap }
theorem kcfg_ok (encap : Bool) : CfgOK (kcfg encap) := { roomy_ok 3 with }
def kvip (v6 : Bool) : Vip := ⟨6, (mkKey 1 v6 false).dst, 1⟩
theorem kvip_ok (v6 : Bool) : vipOK (kvip v6) = true := by cases v6 <;> kernel_rfl
theorem kinds_kmem (v6 : Bool) (ks : List Bool) : kinds (kvip v6) (kmem ks) = !(ks.all fun b => b == v6) := by
  have hv : (kvip v6).adr.v6 = v6 := by cases v6 <;> rfl
  have hd : ∀ (i : Nat) (b : Bool), (mkDip i b).adr.v6 = b := fun i b => rfl
  unfold kinds
  rw [hv]
  by_cases h : ∃ (i : Nat) (b : Bool), ks[i]? = some b ∧ ¬ b = v6
  · obtain ⟨i, b, h1, h2⟩ := h
    have e : ¬ idx (fun x : Mem => !(x.dip.adr.v6 == v6)) (kmem ks) < 0 := by
      intro hn
      have := idx_neg hn i _ (kmem_get h1)
      simp [hd, h2] at this
    have e2 : (ks.all fun b => b == v6) = false := by
      rw [List.all_eq_false]
      exact ⟨b, List.mem_of_getElem? h1, by simpa using h2⟩
    rw [e2, decide_eq_true (by omega)]; rfl
  · have hall : ∀ b ∈ ks, b = v6 := fun b hb => by
      obtain ⟨i, hi⟩ := List.getElem?_of_mem hb
      cases Classical.em (b = v6) with
      | inl h' => exact h'
      | inr h' => exact absurd ⟨i, b, hi, h'⟩ h
    have e : idx (fun x : Mem => !(x.dip.adr.v6 == v6)) (kmem ks) = -1 := idx_none fun i x hx => by
      have hlt := (List.getElem?_eq_some_iff.1 hx).1
      rw [kmem_len] at hlt
      rw [kmem_get (List.getElem?_eq_getElem hlt)] at hx
      cases hx
      simp [hd, hall _ (List.getElem_mem hlt)]
    have e2 : (ks.all fun b => b == v6) = true := by
      rw [List.all_eq_true]; intro b hb; simp [hall b hb]
    rw [e, e2]; rfl
theorem kind_err (encap v6 : Bool) {ks : List Bool} (h : ks.length ≤ 20) : addErr (kcfg encap) l0 (kvip v6) (kmem ks) = if kgood encap v6 ks = true then 0 else 1 := by
  have h1 : (vipOK (kvip v6) && memsOK (kmem ks)) = true := by rw [kvip_ok, kmem_ok h]; rfl
  have hc : (kcfg encap).encap = encap := rfl
  simp only [addErr, h1, hc, kinds_kmem, l0_idx, l0_free, kgood]
  cases encap
  · cases hk : (ks.all fun b => b == v6) <;> simp [hk]
  · simp
theorem kgood_take {encap v6 : Bool} {ks : List Bool} {i : Nat} {x : Bool} (h : ks[i]? = some x) : kgood encap v6 (ks.take (i + 1)) = (kgood encap v6 (ks.take i) && (encap || x == v6)) := by
  rw [take_snoc h]; simp [kgood]
theorem encBo' : Enc (fun b : Bool => [bl b]) 1 := encBo

abbrev tabA (bt : Nat) (c : Cfg) (l : List (Option Ent)) : Asr where
  P w F := TabAt w F bt c l
  upd h hu hS := h.upd hu hS
  lt h := h.lt

theorem VipsKinds_calls (encap v6 : Bool) (ks : List Bool) (a : Option Addr) (cc : Nat) (w : World) (hK : Sli (fun b : Bool => [bl b]) 1 w a cc ks) : CallV Try.prog 4 #[bl encap, bl v6, .slice a ks.length cc] w fun v w' => v = bl true ∧ Ext w w' := by
  have hX : Ext w w := Ext.rfl' w
  have hU : ∀ k, (fun k => w.heap.size ≤ k) k → w.heap.size ≤ k := fun _ h => h
  have hS : Star (fun k => w.heap.size ≤ k) w [] := Star.nil fun _ h => h
  generalize (fun k => w.heap.size ≤ k) = U at hU hS
  refine Calls.of_W (N := 90) Try.func4 rfl rfl rfl ?_
  refine W.reg ?_
  refine WL.y (R.asg (v := .bool false) rfl) rfl ?_
  refine WL.nil ?_
  refine W.seq ?_
  refine W.reg ?_
  refine WL.y (R.mv (v := .slice _ _ _) rfl) rfl ?_
  refine WL.y (R.lenS Try.underlying51 rfl) rfl ?_
  refine WL.fork (R.gtr rfl rfl) rfl (fun hc1_2 => ?_) (fun hc1_2 => ?_)
  · skip
    replace hc1_2 := of_decide_eq_true hc1_2
    refine WL.nil ?_
    refine W.cond_t rfl ?_
    refine W.reg ?_
    refine WL.call Try.func19 rfl rfl (awake19_calls _) rfl rfl ?_
    rintro _ w1 ⟨rfl, hx1⟩
    replace hS := hS.ext hx1
    replace hX := hX.tr hx1
    refine WL.y (R.asg (v := .bool _) rfl) rfl ?_
    refine WL.nil ?_
    refine W.ret ?_
    exact PR.r1 rfl (.tmp rfl) ⟨rfl, hX⟩
  · skip
    replace hc1_2 := of_decide_eq_false hc1_2
    refine WL.nil ?_
    refine W.cond_f rfl ?_
    refine W.skip ?_
    refine W.reg ?_
    refine WL.call Try.func21 rfl rfl (roomy_calls 3 _) rfl rfl ?_
    rintro _ w2 ⟨rfl, hx2⟩
    replace hS := hS.ext hx2
    replace hX := hX.tr hx2
    refine WL.alloc zer33 rfl ?_
    intro b3 w3 hb3 hs3 hx3 hB3
    replace hS := hS.pushBox hb3 hx3 hB3
    replace hX := hX.tr hx3
    clear hB3 hs3
    refine WL.store (v := .agg _) siz33 rfl rfl rfl rfl hS.blk0 (Nat.le_of_ble_eq_true rfl) rfl rfl ?_
    intro w4 hu4 hz4 hn4
    have hN := hS.box0 hu4 hn4
    replace hS := hN.1
    replace hX := hN.2 _ hX hU
    clear hN hn4 hu4 hz4
    refine WL.nil ?_
    refine W.reg ?_
    refine WL.y (R.mv (v := .bool _) rfl) rfl ?_
    refine WL.y (R.fieldAddr fo33_12 rfl) rfl ?_
    refine WL.store1 (v := .bool _) sca4 rfl rfl rfl hS.blk0 (Nat.le_of_ble_eq_true rfl) rfl ?_
    intro w5 hu5 hz5 hn5
    have hN := hS.box0 hu5 hn5
    replace hS := hN.1
    replace hX := hN.2 _ hX hU
    clear hN hn5 hu5 hz5
    refine WL.nil ?_
    refine W.reg ?_
    refine WL.y (R.loadA agg33 rfl (hS.blk0).r rfl rfl) rfl ?_
    refine WL.call (vs := [.agg (encCfg (kcfg encap)).toArray]) Try.func20 rfl rfl (TNew_calls (kcfg encap) (kcfg_ok encap) _) rfl rfl ?_
    rintro _ w6 ⟨⟨bt, rfl, hT⟩, hx6⟩
    replace hS := hS.push hx6 (A := tabA bt (kcfg encap) l0) hT (fun k hk => hk.1)
    replace hX := hX.tr hx6
    refine WL.y (R.mv (v := .tuple _) rfl) rfl ?_
    refine WL.y (R.extract rfl rfl) rfl ?_
    refine WL.y (R.extract rfl rfl) rfl ?_
    refine WL.y (R.asg (v := .pointer _) rfl) rfl ?_
    refine WL.y (R.asg (v := .int _ _) rfl) rfl ?_
    refine WL.nil ?_
    refine W.seq ?_
    refine W.reg ?_
    refine WL.y (R.mv (v := .int _ _) rfl) rfl ?_
    refine WL.y (R.neqF rfl rfl rfl) rfl ?_
    refine WL.y (R.mv (v := .bool false) rfl) rfl ?_
    refine WL.y (R.mv (v := .pointer _) rfl) rfl ?_
    refine WL.y (R.eqlNil Try.underlying24 rfl) rfl ?_
    refine WL.y (R.pkF (v := .bool false) rfl rfl) rfl ?_
    refine WL.nil ?_
    refine W.cond_f rfl ?_
    refine W.skip ?_
    refine W.reg ?_
    refine WL.y (R.asg (v := .slice _ _ _) rfl) rfl ?_
    refine WL.nil ?_
    refine W.reg ?_
    obtain ⟨bc, rfl⟩ : ∃ b, b = b3 := ⟨_, rfl⟩
    replace hS := hS.pushNil encMem 19
    refine WL.y (R.asg (v := .bool true) rfl) rfl ?_
    refine WL.nil ?_
    refine W.seqX (ι := Option Addr × Nat) [(10, 13), (33, 61)] (fun q => [(10, .slice q.1 (kmem ks).length q.2), (11, bl (kgood encap v6 ks))]) (fun q w' => (True) ∧ Ext w w' ∧ Star U w' [slwA encMem 19 q.1 q.2 (kmem ks), tabA bt (kcfg encap) l0, boxA bc (encCfg (kcfg encap))]) ?_ ?_
    · skip
      refine W.reg ?_
      refine WL.y (R.asg (v := .int _ _) rfl) rfl ?_
      refine WL.nil ?_
      refine W.block ?_
      refine W.loopS (ι := Nat × Option Addr × Nat) [(10, 13), (33, 61)] (fun q => [(10, .slice q.2.1 ((kmem ks).take q.1).length q.2.2), (11, bl (kgood encap v6 (ks.take q.1))), (12, i64 (q.1 : Nat))]) (fun q => 20 - q.1) (fun q w' => (q.1 ≤ ks.length) ∧ Ext w w' ∧ Star U w' [slwA encMem 19 q.2.1 q.2.2 ((kmem ks).take q.1), tabA bt (kcfg encap) l0, boxA bc (encCfg (kcfg encap))]) (0, none, 0) ⟨rfl, rfl, rfl, trivial⟩ ⟨Nat.zero_le _, hX, hS⟩ ?_
      rintro ⟨i, ao, co⟩ j1 w_1 ⟨hp, hX, hS⟩
      dsimp only at hX hS ⊢
      have hkl := kmem_len ks
      have htl : ((kmem ks).take i).length = i := by rw [List.length_take, kmem_len]; omega
      refine W.seq ?_
      refine W.reg ?_
      refine WL.y (R.mv (v := .int _ _) rfl) rfl ?_
      refine WL.y (R.mv (v := .slice _ _ _) rfl) rfl ?_
      refine WL.y (R.lenS Try.underlying51 rfl) rfl ?_
      refine WL.fork (R.lss rfl rfl) rfl (fun hc11_3 => ?_) (fun hc11_3 => ?_)
      · skip
        replace hc11_3 := of_decide_eq_true hc11_3
        refine WL.nil ?_
        refine W.cond_t rfl ?_
        refine W.skip ?_
        refine W.seq ?_
        refine W.block ?_
        refine W.reg ?_
        refine WL.y (R.mv (v := .slice _ _ _) rfl) rfl ?_
        refine WL.y (R.mv (v := .int _ _) rfl) rfl ?_
        refine WL.y (R.mv (v := .slice _ _ _) rfl) rfl ?_
        refine WL.y (R.mv (v := .int _ _) rfl) rfl ?_
        obtain ⟨g_ks, o_ks, cs_ks, rfl, hO_ks⟩ := hK.op (by omega)
        obtain ⟨x, hx_ks⟩ : ∃ x, ks[i]? = some x := ⟨_, List.getElem?_eq_getElem (by omega)⟩
        refine WL.y (R.indexS Try.underlying51 siz4 rfl rfl rfl (by first | omega | (simp; omega))) rfl ?_
        refine WL.y (R.load sca4 rfl ((hO_ks.ext hX).blk).r (hO_ks.cell encBo hx_ks (j := 0) (by decide))) rfl ?_
        refine WL.call Try.func29 rfl rfl (mkDip_calls (i : Int) x _) rfl rfl ?_
        rintro _ w7 ⟨rfl, hx7⟩
        replace hS := hS.ext hx7
        replace hX := hX.tr hx7
        refine WL.y (R.buildP (parts := [(0, .tmp 45), (1, .const (.int .i64 1))]) (ps := [(0, .agg _), (1, (.int .i64 1))]) bld57 rfl rfl) rfl ?_
        refine WL.buildSliceP (parts := [(0, .tmp 46)]) (ps := [(0, .agg _)]) el52_57 rfl rfl rfl (by decide) rfl rfl ?_
        intro b8 w8 hb8 hs8 hx8 hB8
        have hL8 := Slw.one encM ((⟨mkDip (i : Nat) x, 1⟩ : Mem)) hB8 rfl
        replace hS := hS.pushSlw hx8 hL8 (fun k hk => by rw [owns_some] at hk; simp only at hk; omega)
        replace hX := hX.tr hx8
        clear hL8 hB8 hs8
        refine WL.appendS el52_57 encM rfl rfl (hS.slw1) (by first | rfl | omega | (simp; done) | (simp; omega)) (hS.slw0).ro (by first | rfl | omega | (simp; done) | (simp; omega)) (by first | omega | (simp; omega)) (by first | omega | (simp; omega)) rfl ?_
        intro a9 c9 w9 hu9 hl9 hf9
        have hN := hS.app1 hu9 hl9 hf9
        replace hS := hN.1
        replace hX := hN.2 _ hX hU
        clear hN hu9 hl9 hf9
        replace hS := hS.drop0
        refine WL.y (R.asg (v := .slice _ _ _) rfl) rfl ?_
        refine WL.nil ?_
        refine W.region ?_
        refine WL.y (R.mv (v := .bool _) rfl) rfl ?_
        refine WL.fork (R.mv (v := .bool _) rfl) rfl (fun hc14_1 => ?_) (fun hc14_1 => ?_)
        · skip
          refine WL.y (R.mv (v := .bool _) rfl) rfl ?_
          refine WL.fork (R.mv (v := .bool _) rfl) rfl (fun hc14_3 => ?_) (fun hc14_3 => ?_)
          · skip
            refine WL.skip rfl ?_
            refine WL.skip rfl ?_
            refine WL.skip rfl ?_
            refine WL.skip rfl ?_
            refine WL.skip rfl ?_
            refine WL.skip rfl ?_
            refine WL.y (R.pkT (v := .bool true) rfl rfl) rfl ?_
            refine WL.y (R.pkT (v := .bool true) rfl rfl) rfl ?_
            refine WL.y (R.asg (v := .bool true) rfl) rfl ?_
            refine WL.nil ?_
            refine W.region ?_
            refine WL.y (R.mv (v := .int _ _) rfl) rfl ?_
            refine WL.y (R.addI rfl rfl (by omega)) rfl ?_
            refine WL.y (R.asg (v := .int _ _) rfl) rfl ?_
            refine WL.nil ?_
            rw [← take_snoc (kmem_get hx_ks)] at hS
            exact ⟨⟨i + 1, a9, c9⟩, (by simp only; omega), (by repeat (first | exact Same.rfl' _ _ | refine Same.set _ rfl ?_ | refine Same.over' _ rfl ?_ | refine Same.sets rfl ?_)), ⟨by show Value.slice _ _ _ = Value.slice _ _ _; congr 1; simp [htl, hkl]; omega, (by show bl _ = bl _; first | (rw [kgood_take hx_ks, hc14_1]; rfl) | (rw [kgood_take hx_ks, hc14_1, hc14_3]; rfl) | (rw [kgood_take hx_ks, hc14_1, hc14_3, hc14_9]; rfl)), rfl, trivial⟩, rfl, by simp only; omega, hX, hS⟩
          · skip
            refine WL.y (R.mv (v := .slice _ _ _) rfl) rfl ?_
            refine WL.y (R.mv (v := .int _ _) rfl) rfl ?_
            refine WL.y (R.indexS Try.underlying51 siz4 rfl rfl rfl (by first | omega | (simp; omega))) rfl ?_
            refine WL.y (R.load sca4 rfl ((hO_ks.ext hX).blk).r (hO_ks.cell encBo hx_ks (j := 0) (by decide))) rfl ?_
            refine WL.y (R.mv (v := .bool _) rfl) rfl ?_
            refine WL.fork (R.eqlB Try.underlying4 rfl rfl) rfl (fun hc14_9 => ?_) (fun hc14_9 => ?_)
            · skip
              refine WL.y (R.pkF (v := .bool true) rfl rfl) rfl ?_
              refine WL.y (R.pkT (v := .bool true) rfl rfl) rfl ?_
              refine WL.y (R.asg (v := .bool true) rfl) rfl ?_
              refine WL.nil ?_
              refine W.region ?_
              refine WL.y (R.mv (v := .int _ _) rfl) rfl ?_
              refine WL.y (R.addI rfl rfl (by omega)) rfl ?_
              refine WL.y (R.asg (v := .int _ _) rfl) rfl ?_
              refine WL.nil ?_
              rw [← take_snoc (kmem_get hx_ks)] at hS
              exact ⟨⟨i + 1, a9, c9⟩, (by simp only; omega), (by repeat (first | exact Same.rfl' _ _ | refine Same.set _ rfl ?_ | refine Same.over' _ rfl ?_ | refine Same.sets rfl ?_)), ⟨by show Value.slice _ _ _ = Value.slice _ _ _; congr 1; simp [htl, hkl]; omega, (by show bl _ = bl _; first | (rw [kgood_take hx_ks, hc14_1]; rfl) | (rw [kgood_take hx_ks, hc14_1, hc14_3]; rfl) | (rw [kgood_take hx_ks, hc14_1, hc14_3, hc14_9]; rfl)), rfl, trivial⟩, rfl, by simp only; omega, hX, hS⟩
            · skip
              refine WL.y (R.pkF (v := .bool false) rfl rfl) rfl ?_
              refine WL.y (R.pkT (v := .bool false) rfl rfl) rfl ?_
              refine WL.y (R.asg (v := .bool false) rfl) rfl ?_
              refine WL.nil ?_
              refine W.region ?_
              refine WL.y (R.mv (v := .int _ _) rfl) rfl ?_
              refine WL.y (R.addI rfl rfl (by omega)) rfl ?_
              refine WL.y (R.asg (v := .int _ _) rfl) rfl ?_
              refine WL.nil ?_
              rw [← take_snoc (kmem_get hx_ks)] at hS
              exact ⟨⟨i + 1, a9, c9⟩, (by simp only; omega), (by repeat (first | exact Same.rfl' _ _ | refine Same.set _ rfl ?_ | refine Same.over' _ rfl ?_ | refine Same.sets rfl ?_)), ⟨by show Value.slice _ _ _ = Value.slice _ _ _; congr 1; simp [htl, hkl]; omega, (by show bl _ = bl _; first | (rw [kgood_take hx_ks, hc14_1]; rfl) | (rw [kgood_take hx_ks, hc14_1, hc14_3]; rfl) | (rw [kgood_take hx_ks, hc14_1, hc14_3, hc14_9]; rfl)), rfl, trivial⟩, rfl, by simp only; omega, hX, hS⟩
        · skip
          refine WL.skip rfl ?_
          refine WL.skip rfl ?_
          refine WL.skip rfl ?_
          refine WL.skip rfl ?_
          refine WL.skip rfl ?_
          refine WL.skip rfl ?_
          refine WL.skip rfl ?_
          refine WL.skip rfl ?_
          refine WL.skip rfl ?_
          refine WL.y (R.pkF (v := .bool false) rfl rfl) rfl ?_
          refine WL.y (R.asg (v := .bool false) rfl) rfl ?_
          refine WL.nil ?_
          refine W.region ?_
          refine WL.y (R.mv (v := .int _ _) rfl) rfl ?_
          refine WL.y (R.addI rfl rfl (by omega)) rfl ?_
          refine WL.y (R.asg (v := .int _ _) rfl) rfl ?_
          refine WL.nil ?_
          rw [← take_snoc (kmem_get hx_ks)] at hS
          exact ⟨⟨i + 1, a9, c9⟩, (by simp only; omega), (by repeat (first | exact Same.rfl' _ _ | refine Same.set _ rfl ?_ | refine Same.over' _ rfl ?_ | refine Same.sets rfl ?_)), ⟨by show Value.slice _ _ _ = Value.slice _ _ _; congr 1; simp [htl, hkl]; omega, (by show bl _ = bl _; first | (rw [kgood_take hx_ks, hc14_1]; rfl) | (rw [kgood_take hx_ks, hc14_1, hc14_3]; rfl) | (rw [kgood_take hx_ks, hc14_1, hc14_3, hc14_9]; rfl)), rfl, trivial⟩, rfl, by simp only; omega, hX, hS⟩
      · skip
        replace hc11_3 := of_decide_eq_false hc11_3
        refine WL.nil ?_
        refine W.cond_f rfl ?_
        refine W.exit ?_
        obtain rfl : i = ks.length := by omega
        rw [List.take_of_length_le (Nat.le_of_eq (kmem_len ks))] at hS
        exact ⟨⟨ao, co⟩, (by repeat (first | exact Same.rfl' _ _ | refine Same.set _ rfl ?_ | refine Same.over' _ rfl ?_ | refine Same.sets rfl ?_)), ⟨by show Value.slice ao ((kmem ks).take ks.length).length co = Value.slice ao (kmem ks).length co; rw [List.take_of_length_le (Nat.le_of_eq (kmem_len ks))], by show bl (kgood encap v6 (ks.take ks.length)) = bl (kgood encap v6 ks); rw [List.take_length], trivial⟩, rfl, trivial, hX, hS⟩
    · skip
      rintro ⟨ao, co⟩ j2 w_2 ⟨hp, hX, hS⟩
      dsimp only at hX hS ⊢
      refine W.reg ?_
      refine WL.y (R.mv (v := .pointer _) rfl) rfl ?_
      refine WL.y (R.mv (v := .bool _) rfl) rfl ?_
      refine WL.call Try.func22 rfl rfl (mkKey_calls 1 v6 false _) rfl rfl ?_
      rintro _ w10 ⟨rfl, hx10⟩
      replace hS := hS.ext hx10
      replace hX := hX.tr hx10
      refine WL.y (R.fieldA fv37_2 agg30 rfl rfl) rfl ?_
      refine WL.y (R.buildE (parts := [(0, .const (.int .u8 6)), (1, .tmp 65), (2, .const (.int .u16 1))]) (vs := encVip (kvip v6)) bld42 (by kernel_rfl) (by kernel_rfl)) rfl ?_
      refine WL.y (R.mv (v := .slice _ _ _) rfl) rfl ?_
      rcases Bool.eq_false_or_eq_true (kgood encap v6 ks) with hg | hg
      · skip
        obtain ⟨F11, hP11, hFU11, hf11⟩ := hS.split1
        refine WL.call Try.func23 rfl rfl (Add_calls F11 bt (kcfg encap) l0 _ hP11 (kvip v6) (kmem ks) _ _ (hS.slw0).ro) rfl rfl ?_
        rintro _ w11 (⟨hae, _⟩ | ⟨_, n11, b11, G11, hi11, hg11, rfl, hu11, hQ11, hF11⟩)
        · exact absurd (by rw [kind_err encap v6 (by omega), if_pos hg]) hae
        replace hS := hf11 hu11 (B := tabA bt (kcfg encap) _) hQ11 hF11
        replace hX := hX.putU hu11 (fun k hk => hU k (hFU11 k hk))
        refine WL.y (R.mv (v := .tuple _) rfl) rfl ?_
        refine WL.y (R.extract rfl rfl) rfl ?_
        refine WL.y (R.extract rfl rfl) rfl ?_
        refine WL.y (R.asg (v := .int _ _) rfl) rfl ?_
        refine WL.y (R.asg (v := .int _ _) rfl) rfl ?_
        refine WL.nil ?_
        refine W.reg ?_
        refine WL.y (R.mv (v := .int _ _) rfl) rfl ?_
        refine WL.y (R.eqlT rfl rfl rfl) rfl ?_
        refine WL.y (R.mv (v := bl true) (congrArg Value.bool hg)) rfl ?_
        refine WL.y (R.eqlB Try.underlying4 rfl rfl) rfl ?_
        refine WL.y (R.mv (v := .bool true) rfl) rfl ?_
        refine WL.y (R.mv (v := bl true) (congrArg Value.bool hg)) rfl ?_
        refine WL.y (R.mv (v := .bool true) rfl) rfl ?_
        refine WL.skip rfl ?_
        refine WL.skip rfl ?_
        refine WL.skip rfl ?_
        refine WL.skip rfl ?_
        refine WL.skip rfl ?_
        refine WL.skip rfl ?_
        refine WL.skip rfl ?_
        refine WL.y (R.pkT (v := .bool true) rfl rfl) rfl ?_
        refine WL.y (R.pkT (v := .bool true) rfl rfl) rfl ?_
        refine WL.y (R.mv (v := .bool true) rfl) rfl ?_
        refine WL.call Try.func19 rfl rfl (awake19_calls _) rfl rfl ?_
        rintro _ w12 ⟨rfl, hx12⟩
        replace hS := hS.ext hx12
        replace hX := hX.tr hx12
        refine WL.y (R.pkT (v := .bool _) rfl rfl) rfl ?_
        refine WL.y (R.asg (v := .bool _) rfl) rfl ?_
        refine WL.nil ?_
        refine W.ret ?_
        exact PR.r1 rfl (.tmp rfl) ⟨rfl, hX⟩
      · skip
        obtain ⟨F11, hP11, hFU11, hf11⟩ := hS.split1
        have herr := kind_err encap v6 (ks := ks) (by omega)
        rw [if_neg (by rw [hg]; decide)] at herr
        have hcl := Add_calls F11 bt (kcfg encap) l0 _ hP11 (kvip v6) (kmem ks) _ _ (hS.slw0).ro
        rw [herr] at hcl
        refine WL.call Try.func23 rfl rfl hcl rfl rfl ?_
        rintro _ w11 (⟨_, rfl, hx11⟩ | ⟨hae, _⟩)
        rotate_left
        · exact absurd hae (by decide)
        replace hS := hS.ext hx11
        replace hX := hX.tr hx11
        refine WL.y (R.mv (v := .tuple _) rfl) rfl ?_
        refine WL.y (R.extract rfl rfl) rfl ?_
        refine WL.y (R.extract rfl rfl) rfl ?_
        refine WL.y (R.asg (v := .int _ _) rfl) rfl ?_
        refine WL.y (R.asg (v := .int _ _) rfl) rfl ?_
        refine WL.nil ?_
        refine W.reg ?_
        refine WL.y (R.mv (v := .int _ _) rfl) rfl ?_
        refine WL.y (R.eqlF rfl rfl (by decide)) rfl ?_
        refine WL.y (R.mv (v := bl false) (congrArg Value.bool hg)) rfl ?_
        refine WL.y (R.eqlB Try.underlying4 rfl rfl) rfl ?_
        refine WL.y (R.mv (v := .bool true) rfl) rfl ?_
        refine WL.y (R.mv (v := bl false) (congrArg Value.bool hg)) rfl ?_
        refine WL.y (R.mv (v := .bool false) rfl) rfl ?_
        refine WL.y (R.mv (v := .int _ _) rfl) rfl ?_
        refine WL.y (R.eqlT rfl rfl rfl) rfl ?_
        refine WL.y (R.mv (v := .bool true) rfl) rfl ?_
        refine WL.y (R.mv (v := .pointer _) rfl) rfl ?_
        obtain ⟨F13, hP13, hFU13, hf13⟩ := hS.split1
        refine WL.call Try.func27 rfl rfl (Len_calls F13 bt (kcfg encap) l0 _ hP13) rfl rfl ?_
        rintro _ w13 ⟨rfl, hx13⟩
        replace hS := hS.ext hx13
        replace hX := hX.tr hx13
        refine WL.y (R.eqlT rfl rfl (by rfl)) rfl ?_
        refine WL.y (R.pkT (v := .bool true) rfl rfl) rfl ?_
        refine WL.y (R.pkF (v := .bool true) rfl rfl) rfl ?_
        refine WL.y (R.pkT (v := .bool true) rfl rfl) rfl ?_
        refine WL.y (R.mv (v := .bool true) rfl) rfl ?_
        refine WL.call Try.func19 rfl rfl (awake19_calls _) rfl rfl ?_
        rintro _ w14 ⟨rfl, hx14⟩
        replace hS := hS.ext hx14
        replace hX := hX.tr hx14
        refine WL.y (R.pkT (v := .bool _) rfl rfl) rfl ?_
        refine WL.y (R.asg (v := .bool _) rfl) rfl ?_
        refine WL.nil ?_
        refine W.ret ?_
        exact PR.r1 rfl (.tmp rfl) ⟨rfl, hX⟩
end Go.Proofs.Ytkjecokkdbapkaa
