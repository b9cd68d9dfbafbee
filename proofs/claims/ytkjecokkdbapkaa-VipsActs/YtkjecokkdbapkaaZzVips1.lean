import Derived.Test.YtkjecokkdbapkaaZzPools2
import Derived.Test.YtkjecokkdbapkaaProg
namespace Go.Proofs.Ytkjecokkdbapkaa
set_option linter.all false
open Go Go.Eng Go.RowKit
set_option maxRecDepth 20000
set_option maxHeartbeats 2000000
set_option linter.unusedVariables false
set_option linter.unusedSimpArgs false
attribute [local irreducible] WL W QL WA SP

theorem agg186 : Agg Try.prog 186 20 := ⟨Try.isAgg186, Try.sizeOf186⟩
theorem fo186_0 : FO Try.prog 186 0 0 := fun a w => by kernel_rfl
theorem fo186_1 : FO Try.prog 186 1 19 := fun a w => by kernel_rfl
theorem fo189_1 : FO Try.prog 189 1 48 := fun a w => by kernel_rfl
theorem fo189_2 : FO Try.prog 189 2 368 := fun a w => by kernel_rfl
theorem sca184 : Sca Try.prog 184 := ⟨Try.isAgg184, Try.sizeOf184⟩
theorem siz186 : ∀ w, (sizeOf 186).run Try.prog w = .ok 20 w := Try.sizeOf186
theorem eq42 : FlatEq Try.prog 42 tyVip 4 := FlatEq.struct [(5, [some .u8]), (30, tyAdr), (35, [some .u16])] (by kernel_rfl) Try.stoodInHeld42 rfl agg42 (by kernel_rfl) (List.forall_mem_cons.2 ⟨eq5.mono (by decide), (List.forall_mem_cons.2 ⟨eq30.mono (by decide), (List.forall_mem_cons.2 ⟨eq35.mono (by decide), (by simp)⟩)⟩)⟩)

theorem keyVipL : KeyL Try.prog 42 (fun v : Vip => .agg (encVip v).toArray) := KeyL.flat eq42 (by decide) agg42 Try.underlying42 typed_vip veq_vip
abbrev encVv (v : Vip) : Value := .agg (encVip v).toArray
def vip0 : Vip := ⟨0, adr0, 0⟩
structure Ent where
  (v : Vip) (b : Nat) (p : PSt)
def encE : Option Ent → List Value
  | none => encVip vip0 ++ [.pointer none]
  | some e => encVip e.v ++ [.pointer (some ⟨e.b, 0, none⟩)]
theorem encEE : Enc encE 20 := ⟨fun x => by cases x <;> rfl, fun x => by cases x <;> rfl⟩
def isV (v : Vip) : Option Ent → Bool
  | none => false
  | some e => decide (e.v = v)
def tIdx (l : List (Option Ent)) (v : Vip) : Int := idx (isV v) l
def count (l : List (Option Ent)) : Nat := (l.filter Option.isSome).length
structure TabO (w : World) (F : Nat → Prop) (bt bm : Nat) (cs : List Value) (ml : List (Vip × Value)) (Fs : Nat → Nat → Prop) (c : Cfg) (l : List (Option Ent)) : Prop where
  arr : SlO encE 20 w bt 48 16 cs l
  len : l.length = 16
  clen : cs.length = 369
  cfg : cs.take 48 = encCfg c
  map : cs[368]? = some (.map (some bm))
  mp : MapAt encVv w bm ml
  rel : ∀ v, mget v ml = if tIdx l v < 0 then none else some (i64 (tIdx l v))
  mlen : ml.length = count l
  uniq : ∀ (i j : Nat) (e e' : Ent), l[i]? = some (some e) → l[j]? = some (some e') → e.v = e'.v → i = j
  pool : ∀ (i : Nat) (e : Ent), l[i]? = some (some e) → PoolAt w (Fs i) e.b c e.p ∧ ∀ k, Fs i k → F k ∧ k ≠ bt ∧ k ≠ bm
  disj : ∀ (i j k : Nat) (e e' : Ent), l[i]? = some (some e) → l[j]? = some (some e') → Fs i k → Fs j k → i = j
  ft : F bt
  fm : F bm
  ne : bt ≠ bm
  lt : ∀ k, F k → k < w.heap.size
  ok : CfgOK c
def TabAt (w : World) (F : Nat → Prop) (bt : Nat) (c : Cfg) (l : List (Option Ent)) : Prop := ∃ bm cs ml Fs, TabO w F bt bm cs ml Fs c l
theorem TabO.upd {S : Nat → Prop} {w w' : World} {F : Nat → Prop} {bt bm : Nat} {cs : List Value} {ml : List (Vip × Value)} {Fs : Nat → Nat → Prop} {c : Cfg} {l : List (Option Ent)}
    (h : TabO w F bt bm cs ml Fs c l) (hu : Upd S w w') (hS : ∀ k, F k → ¬ S k) : TabO w' F bt bm cs ml Fs c l :=
  { h with arr := h.arr.upd hu (hS _ h.ft), mp := hu.map (hS _ h.fm) h.mp, lt := fun k hk => Nat.lt_of_lt_of_le (h.lt k hk) hu.size,
           pool := fun i e he => ⟨(h.pool i e he).1.upd hu (fun k hk => hS k ((h.pool i e he).2 k hk).1), (h.pool i e he).2⟩ }
theorem TabO.ext {w w' : World} {F : Nat → Prop} {bt bm : Nat} {cs : List Value} {ml : List (Vip × Value)} {Fs : Nat → Nat → Prop} {c : Cfg} {l : List (Option Ent)}
    (h : TabO w F bt bm cs ml Fs c l) (hu : Ext w w') : TabO w' F bt bm cs ml Fs c l := h.upd (hu.upd fun _ => False) (fun _ _ h => h)
theorem TabAt.upd {S : Nat → Prop} {w w' : World} {F : Nat → Prop} {bt : Nat} {c : Cfg} {l : List (Option Ent)} (h : TabAt w F bt c l) (hu : Upd S w w') (hS : ∀ k, F k → ¬ S k) : TabAt w' F bt c l := by
  obtain ⟨bm, cs, ml, Fs, h⟩ := h; exact ⟨bm, cs, ml, Fs, h.upd hu hS⟩
theorem TabAt.ext {w w' : World} {F : Nat → Prop} {bt : Nat} {c : Cfg} {l : List (Option Ent)} (h : TabAt w F bt c l) (hu : Ext w w') : TabAt w' F bt c l := by
  obtain ⟨bm, cs, ml, Fs, h⟩ := h; exact ⟨bm, cs, ml, Fs, h.ext hu⟩
theorem TabAt.lt {w : World} {F : Nat → Prop} {bt : Nat} {c : Cfg} {l : List (Option Ent)} (h : TabAt w F bt c l) : ∀ k, F k → k < w.heap.size := by
  obtain ⟨bm, cs, ml, Fs, h⟩ := h; exact h.lt
theorem TabAt.len {w : World} {F : Nat → Prop} {bt : Nat} {c : Cfg} {l : List (Option Ent)} (h : TabAt w F bt c l) : l.length = 16 := by
  obtain ⟨bm, cs, ml, Fs, h⟩ := h; exact h.len
theorem TabO.cfgAt {w : World} {F : Nat → Prop} {bt bm : Nat} {cs : List Value} {ml : List (Vip × Value)} {Fs : Nat → Nat → Prop} {c : Cfg} {l : List (Option Ent)}
    (h : TabO w F bt bm cs ml Fs c l) {j : Nat} (hj : j < 48) : cs[j]? = (encCfg c)[j]? := by
  rw [← h.cfg, List.getElem?_take_of_lt hj]
def tHas (l : List (Option Ent)) (i : Int) : Option Ent := if 0 ≤ i then (l[i.toNat]?).join else none
theorem tHas_neg {l : List (Option Ent)} {i : Int} (h : ¬ 0 ≤ i) : tHas l i = none := by simp [tHas, h]
theorem tHas_at {l : List (Option Ent)} {k : Nat} {o : Option Ent} (h : l[k]? = some o) : tHas l k = o := by
  have : (0 : Int) ≤ k := by omega
  simp [tHas, this, h]
theorem tHas_big {l : List (Option Ent)} {i : Int} (h : ¬ i < l.length) : tHas l i = none := by
  simp only [tHas]
  split
  · rw [List.getElem?_eq_none (by omega)]; rfl
  · rfl
theorem tHas_some {l : List (Option Ent)} {i : Int} {e : Ent} (h : tHas l i = some e) : ∃ k : Nat, i = k ∧ l[k]? = some (some e) := by
  simp only [tHas] at h
  split at h
  · refine ⟨i.toNat, by omega, ?_⟩
    cases hl : l[i.toNat]? with
    | none => rw [hl] at h; cases h
    | some o => rw [hl] at h; simp at h; rw [h]
  · cases h

theorem has_calls (F : Nat → Prop) (bt : Nat) (c : Cfg) (l : List (Option Ent)) (w : World) (hT : TabAt w F bt c l) (i : Int) : CallV Try.prog 114 #[.pointer (some ⟨bt, 0, none⟩), i64 i] w fun r w' => r = bl (tHas l i).isSome ∧ Ext w w' := by
  have hX : Ext w w := Ext.rfl' w
  obtain ⟨bm, cs, ml, Fs, H⟩ := hT
  have hA := H.arr
  have hl16 := H.len
  have hM := H.mp
  have hbt := hA.blk.lt
  have hbm := hM.lt
  refine Calls.of_W (N := 25) Try.func114 rfl rfl rfl ?_
  refine W.reg ?_
  refine WL.y (R.asg (v := .bool false) rfl) rfl ?_
  refine WL.nil ?_
  refine W.reg ?_
  refine WL.y (R.mv (v := .pointer _) rfl) rfl ?_
  refine WL.y (R.neqNil Try.underlying24 rfl) rfl ?_
  refine WL.y (R.mv (v := .bool true) rfl) rfl ?_
  refine WL.y (R.mv (v := .int _ _) rfl) rfl ?_
  refine WL.fork (R.geq rfl rfl) rfl (fun hc1_4 => ?_) (fun hc1_4 => ?_)
  · skip
    replace hc1_4 := of_decide_eq_true hc1_4
    refine WL.y (R.pkT (v := .bool true) rfl rfl) rfl ?_
    refine WL.y (R.mv (v := .bool true) rfl) rfl ?_
    refine WL.y (R.mv (v := .int _ _) rfl) rfl ?_
    refine WL.fork (R.lss rfl rfl) rfl (fun hc1_8 => ?_) (fun hc1_8 => ?_)
    · skip
      replace hc1_8 := of_decide_eq_true hc1_8
      obtain ⟨k, rfl⟩ : ∃ k : Nat, i = k := ⟨i.toNat, by omega⟩
      obtain ⟨o, ho⟩ : ∃ o, l[k]? = some o := ⟨_, List.getElem?_eq_getElem (by omega)⟩
      have hpt : (encE o)[19]? = some (.pointer (o.map fun e => ⟨e.b, 0, none⟩)) := by cases o <;> rfl
      refine WL.y (R.pkT (v := .bool true) rfl rfl) rfl ?_
      refine WL.y (R.mv (v := .bool true) rfl) rfl ?_
      refine WL.y (R.mv (v := .pointer _) rfl) rfl ?_
      refine WL.y (R.mv (v := .int _ _) rfl) rfl ?_
      refine WL.y (R.nilCheck rfl) rfl ?_
      refine WL.y (R.fieldAddr fo189_1 rfl) rfl ?_
      refine WL.y (R.indexA Try.underlying187 siz186 rfl rfl (by omega)) rfl ?_
      refine WL.y (R.fieldAddr fo186_1 rfl) rfl ?_
      refine WL.y (R.load sca61 rfl (hA.blk).r ((hA.cell encEE ho (j := 19) (by decide)).trans hpt)) rfl ?_
      refine WL.y (R.neqNil Try.underlying61 rfl) rfl ?_
      refine WL.y (R.pkT (v := .bool _) rfl rfl) rfl ?_
      refine WL.y (R.asg (v := .bool _) rfl) rfl ?_
      refine WL.nil ?_
      refine W.ret ?_
      exact PR.r1 rfl (.tmp rfl) ⟨by rw [tHas_at ho]; cases o <;> rfl, hX⟩
    · skip
      replace hc1_8 := of_decide_eq_false hc1_8
      skip
      refine WL.y (R.pkT (v := .bool false) rfl rfl) rfl ?_
      refine WL.y (R.mv (v := .bool false) rfl) rfl ?_
      refine WL.skip rfl ?_
      refine WL.skip rfl ?_
      refine WL.skip rfl ?_
      refine WL.skip rfl ?_
      refine WL.skip rfl ?_
      refine WL.skip rfl ?_
      refine WL.skip rfl ?_
      refine WL.skip rfl ?_
      refine WL.y (R.pkF (v := .bool false) rfl rfl) rfl ?_
      refine WL.y (R.asg (v := .bool false) rfl) rfl ?_
      refine WL.nil ?_
      refine W.ret ?_
      exact PR.r1 rfl (.tmp rfl) ⟨by rw [tHas_big (show ¬ i < (l.length : Int) by omega)]; rfl, hX⟩
  · skip
    replace hc1_4 := of_decide_eq_false hc1_4
    refine WL.y (R.pkT (v := .bool false) rfl rfl) rfl ?_
    refine WL.y (R.mv (v := .bool false) rfl) rfl ?_
    refine WL.skip rfl ?_
    refine WL.skip rfl ?_
    refine WL.y (R.pkF (v := .bool false) rfl rfl) rfl ?_
    refine WL.y (R.mv (v := .bool false) rfl) rfl ?_
    refine WL.skip rfl ?_
    refine WL.skip rfl ?_
    refine WL.skip rfl ?_
    refine WL.skip rfl ?_
    refine WL.skip rfl ?_
    refine WL.skip rfl ?_
    refine WL.skip rfl ?_
    refine WL.skip rfl ?_
    refine WL.y (R.pkF (v := .bool false) rfl rfl) rfl ?_
    refine WL.y (R.asg (v := .bool false) rfl) rfl ?_
    refine WL.nil ?_
    refine W.ret ?_
    exact PR.r1 rfl (.tmp rfl) ⟨by rw [tHas_neg hc1_4]; rfl, hX⟩

theorem isSome_of {α : Type} {o : Option α} (h : o.isSome = true) : ∃ e, o = some e := by cases o with | none => cases h | some e => exact ⟨e, rfl⟩
theorem isNone_of {α : Type} {o : Option α} (h : o.isSome = false) : o = none := by cases o with | none => rfl | some e => cases h

theorem Vip_calls (F : Nat → Prop) (bt : Nat) (c : Cfg) (l : List (Option Ent)) (w : World) (hT : TabAt w F bt c l) (i : Int) : CallV Try.prog 25 #[.pointer (some ⟨bt, 0, none⟩), i64 i] w fun r w' => r = .tuple (match tHas l i with | some e => #[encVv e.v, bl true] | none => #[encVv vip0, bl false]) ∧ Ext w w' := by
  have hX : Ext w w := Ext.rfl' w
  obtain ⟨bm, cs, ml, Fs, H⟩ := hT
  have hA := H.arr
  have hl16 := H.len
  have hM := H.mp
  have hbt := hA.blk.lt
  have hbm := hM.lt
  refine Calls.of_W (N := 18) Try.func25 rfl rfl rfl ?_
  refine W.reg ?_
  refine WL.alloc zer42 rfl ?_
  intro b1 w1 hb1 hs1 hx1 hB1
  have hge1 := hX.size
  replace hX := hX.tr hx1
  replace hA := hA.ext hx1
  replace hM := hx1.map hM
  refine WL.y (R.asg (v := .bool false) rfl) rfl ?_
  refine WL.nil ?_
  refine W.seq ?_
  refine W.reg ?_
  refine WL.y (R.mv (v := .pointer _) rfl) rfl ?_
  refine WL.y (R.mv (v := .int _ _) rfl) rfl ?_
  refine WL.call Try.func114 rfl rfl (CallV.fork (has_calls F bt c l _ ⟨bm, cs, ml, Fs, H.ext hX⟩ i)) rfl rfl ?_
  rintro _ w2 (⟨hc1_2, rfl, hx2⟩ | ⟨hc1_2, rfl, hx2⟩)
  · skip
    have hz2 := hx2.size
    replace hX := hX.tr hx2
    replace hA := hA.ext hx2
    replace hM := hx2.map hM
    replace hB1 := hx2.blk hB1
    obtain ⟨e, he⟩ := isSome_of hc1_2
    obtain ⟨k, rfl, hk⟩ := tHas_some he
    have hkl : k < l.length := (List.getElem?_eq_some_iff.1 hk).1
    refine WL.y (R.notT rfl) rfl ?_
    refine WL.nil ?_
    refine W.cond_f rfl ?_
    refine W.skip ?_
    refine W.reg ?_
    refine WL.y (R.mv (v := .pointer _) rfl) rfl ?_
    refine WL.y (R.mv (v := .int _ _) rfl) rfl ?_
    refine WL.y (R.nilCheck rfl) rfl ?_
    refine WL.y (R.fieldAddr fo189_1 rfl) rfl ?_
    refine WL.y (R.indexA Try.underlying187 siz186 rfl rfl (by omega)) rfl ?_
    refine WL.y (R.fieldAddr fo186_0 rfl) rfl ?_
    refine WL.y (R.loadA agg42 rfl (hA.blk).r (hA.fld encEE hk 0 19 (by decide)) rfl) rfl ?_
    refine WL.store (v := .agg _) siz42 rfl rfl rfl rfl hB1 (Nat.le_of_ble_eq_true rfl) rfl rfl ?_
    intro w3 hu3 hz3 hn3
    replace hX := hX.put hu3 (by omega)
    replace hA := hA.updB hu3 (by omega)
    replace hM := hu3.map (by omega) hM
    replace hB1 := hn3; clear hn3
    refine WL.y (R.asg (v := .bool true) rfl) rfl ?_
    refine WL.nil ?_
    refine W.ret ?_
    exact PR.r2 rfl (.agg agg42 rfl hB1 rfl) (.tmp rfl) ⟨by rw [he]; rfl, hX⟩
  · skip
    have hz2 := hx2.size
    replace hX := hX.tr hx2
    replace hA := hA.ext hx2
    replace hM := hx2.map hM
    replace hB1 := hx2.blk hB1
    have hno := isNone_of hc1_2
    refine WL.y (R.notF rfl) rfl ?_
    refine WL.nil ?_
    refine W.cond_t rfl ?_
    refine W.reg ?_
    refine WL.y (R.buildE (parts := []) (vs := encVip vip0) bld42 (by kernel_rfl) (by kernel_rfl)) rfl ?_
    refine WL.store (v := .agg _) siz42 rfl rfl rfl rfl hB1 (Nat.le_of_ble_eq_true rfl) rfl rfl ?_
    intro w4 hu4 hz4 hn4
    replace hX := hX.put hu4 (by omega)
    replace hA := hA.updB hu4 (by omega)
    replace hM := hu4.map (by omega) hM
    replace hB1 := hn4; clear hn4
    refine WL.y (R.asg (v := .bool false) rfl) rfl ?_
    refine WL.nil ?_
    refine W.ret ?_
    exact PR.r2 rfl (.agg agg42 rfl hB1 rfl) (.tmp rfl) ⟨by rw [hno]; rfl, hX⟩

theorem Pools_calls (F : Nat → Prop) (bt : Nat) (c : Cfg) (l : List (Option Ent)) (w : World) (hT : TabAt w F bt c l) (i : Int) : CallV Try.prog 62 #[.pointer (some ⟨bt, 0, none⟩), i64 i] w fun r w' => r = .pointer (match tHas l i with | some e => some ⟨e.b, 0, none⟩ | none => none) ∧ Ext w w' := by
  have hX : Ext w w := Ext.rfl' w
  obtain ⟨bm, cs, ml, Fs, H⟩ := hT
  have hA := H.arr
  have hl16 := H.len
  have hM := H.mp
  have hbt := hA.blk.lt
  have hbm := hM.lt
  refine Calls.of_W (N := 16) Try.func62 rfl rfl rfl ?_
  refine W.reg ?_
  refine WL.y (R.asg (v := .pointer _) rfl) rfl ?_
  refine WL.nil ?_
  refine W.seq ?_
  refine W.reg ?_
  refine WL.y (R.mv (v := .pointer _) rfl) rfl ?_
  refine WL.y (R.mv (v := .int _ _) rfl) rfl ?_
  refine WL.call Try.func114 rfl rfl (CallV.fork (has_calls F bt c l _ ⟨bm, cs, ml, Fs, H.ext hX⟩ i)) rfl rfl ?_
  rintro _ w1 (⟨hc1_2, rfl, hx1⟩ | ⟨hc1_2, rfl, hx1⟩)
  · skip
    have hz1 := hx1.size
    replace hX := hX.tr hx1
    replace hA := hA.ext hx1
    replace hM := hx1.map hM
    obtain ⟨e, he⟩ := isSome_of hc1_2
    obtain ⟨k, rfl, hk⟩ := tHas_some he
    have hkl : k < l.length := (List.getElem?_eq_some_iff.1 hk).1
    refine WL.y (R.notT rfl) rfl ?_
    refine WL.nil ?_
    refine W.cond_f rfl ?_
    refine W.skip ?_
    refine W.reg ?_
    refine WL.y (R.mv (v := .pointer _) rfl) rfl ?_
    refine WL.y (R.mv (v := .int _ _) rfl) rfl ?_
    refine WL.y (R.nilCheck rfl) rfl ?_
    refine WL.y (R.fieldAddr fo189_1 rfl) rfl ?_
    refine WL.y (R.indexA Try.underlying187 siz186 rfl rfl (by omega)) rfl ?_
    refine WL.y (R.fieldAddr fo186_1 rfl) rfl ?_
    refine WL.y (R.load sca61 rfl (hA.blk).r (hA.cell encEE hk (j := 19) (by decide))) rfl ?_
    refine WL.y (R.asg (v := .pointer _) rfl) rfl ?_
    refine WL.nil ?_
    refine W.ret ?_
    exact PR.r1 rfl (.tmp rfl) ⟨by rw [he]; rfl, hX⟩
  · skip
    have hz1 := hx1.size
    replace hX := hX.tr hx1
    replace hA := hA.ext hx1
    replace hM := hx1.map hM
    have hno := isNone_of hc1_2
    refine WL.y (R.notF rfl) rfl ?_
    refine WL.nil ?_
    refine W.cond_t rfl ?_
    refine W.reg ?_
    refine WL.y (R.asg (v := .pointer _) rfl) rfl ?_
    refine WL.nil ?_
    refine W.ret ?_
    exact PR.r1 rfl (.tmp rfl) ⟨by rw [hno]; rfl, hX⟩

theorem Len_calls (F : Nat → Prop) (bt : Nat) (c : Cfg) (l : List (Option Ent)) (w : World) (hT : TabAt w F bt c l) : CallV Try.prog 27 #[.pointer (some ⟨bt, 0, none⟩)] w fun r w' => r = i64 (count l : Nat) ∧ Ext w w' := by
  have hX : Ext w w := Ext.rfl' w
  obtain ⟨bm, cs, ml, Fs, H⟩ := hT
  have hA := H.arr
  have hl16 := H.len
  have hM := H.mp
  have hbt := hA.blk.lt
  have hbm := hM.lt
  refine Calls.of_W (N := 10) Try.func27 rfl rfl rfl ?_
  refine W.reg ?_
  refine WL.y (R.asg (v := .int _ _) rfl) rfl ?_
  refine WL.nil ?_
  refine W.seq ?_
  refine W.reg ?_
  refine WL.y (R.mv (v := .pointer _) rfl) rfl ?_
  refine WL.y (R.eqlNil Try.underlying24 rfl) rfl ?_
  refine WL.nil ?_
  refine W.cond_f rfl ?_
  refine W.skip ?_
  refine W.reg ?_
  refine WL.y (R.mv (v := .pointer _) rfl) rfl ?_
  refine WL.y (R.nilCheck rfl) rfl ?_
  refine WL.y (R.fieldAddr fo189_2 rfl) rfl ?_
  refine WL.y (R.load sca184 rfl (hA.blk).r H.map) rfl ?_
  refine WL.y (R.lenM Try.underlying184 rfl hM) rfl ?_
  refine WL.y (R.asg (v := .int _ _) rfl) rfl ?_
  refine WL.nil ?_
  refine W.ret ?_
  exact PR.r1 rfl (.tmp rfl) ⟨by rw [← H.mlen]; rfl, hX⟩

theorem Len_nil (w : World) : CallV Try.prog 27 #[.pointer none] w fun r w' => r = i64 0 ∧ Ext w w' := by
  have hX : Ext w w := Ext.rfl' w
  refine Calls.of_W (N := 10) Try.func27 rfl rfl rfl ?_
  refine W.reg ?_
  refine WL.y (R.asg (v := .int _ _) rfl) rfl ?_
  refine WL.nil ?_
  refine W.seq ?_
  refine W.reg ?_
  refine WL.y (R.mv (v := .pointer _) rfl) rfl ?_
  refine WL.y (R.eqlNil Try.underlying24 rfl) rfl ?_
  refine WL.nil ?_
  refine W.cond_t rfl ?_
  refine W.reg ?_
  refine WL.y (R.asg (v := .int _ _) rfl) rfl ?_
  refine WL.nil ?_
  refine W.ret ?_
  exact PR.r1 rfl (.tmp rfl) ⟨rfl, hX⟩

theorem has_nil (i : Int) (w : World) : CallV Try.prog 114 #[.pointer none, i64 i] w fun r w' => r = bl false ∧ Ext w w' := by
  have hX : Ext w w := Ext.rfl' w
  refine Calls.of_W (N := 25) Try.func114 rfl rfl rfl ?_
  refine W.reg ?_
  refine WL.y (R.asg (v := .bool false) rfl) rfl ?_
  refine WL.nil ?_
  refine W.reg ?_
  refine WL.y (R.mv (v := .pointer _) rfl) rfl ?_
  refine WL.y (R.neqNil Try.underlying24 rfl) rfl ?_
  refine WL.y (R.mv (v := .bool false) rfl) rfl ?_
  refine WL.skip rfl ?_
  refine WL.skip rfl ?_
  refine WL.y (R.pkF (v := .bool false) rfl rfl) rfl ?_
  refine WL.y (R.mv (v := .bool false) rfl) rfl ?_
  refine WL.skip rfl ?_
  refine WL.skip rfl ?_
  refine WL.y (R.pkF (v := .bool false) rfl rfl) rfl ?_
  refine WL.y (R.mv (v := .bool false) rfl) rfl ?_
  refine WL.skip rfl ?_
  refine WL.skip rfl ?_
  refine WL.skip rfl ?_
  refine WL.skip rfl ?_
  refine WL.skip rfl ?_
  refine WL.skip rfl ?_
  refine WL.skip rfl ?_
  refine WL.skip rfl ?_
  refine WL.y (R.pkF (v := .bool false) rfl rfl) rfl ?_
  refine WL.y (R.asg (v := .bool false) rfl) rfl ?_
  refine WL.nil ?_
  refine W.ret ?_
  exact PR.r1 rfl (.tmp rfl) ⟨rfl, hX⟩

theorem Pools_nil (i : Int) (w : World) : CallV Try.prog 62 #[.pointer none, i64 i] w fun r w' => r = .pointer none ∧ Ext w w' := by
  have hX : Ext w w := Ext.rfl' w
  refine Calls.of_W (N := 16) Try.func62 rfl rfl rfl ?_
  refine W.reg ?_
  refine WL.y (R.asg (v := .pointer _) rfl) rfl ?_
  refine WL.nil ?_
  refine W.seq ?_
  refine W.reg ?_
  refine WL.y (R.mv (v := .pointer _) rfl) rfl ?_
  refine WL.y (R.mv (v := .int _ _) rfl) rfl ?_
  refine WL.call Try.func114 rfl rfl (has_nil i _) rfl rfl ?_
  rintro _ w1 ⟨rfl, hx1⟩
  have hz1 := hx1.size
  replace hX := hX.tr hx1
  refine WL.y (R.notF rfl) rfl ?_
  refine WL.nil ?_
  refine W.cond_t rfl ?_
  refine W.reg ?_
  refine WL.y (R.asg (v := .pointer _) rfl) rfl ?_
  refine WL.nil ?_
  refine W.ret ?_
  exact PR.r1 rfl (.tmp rfl) ⟨rfl, hX⟩

theorem Remove_nil (i : Int) (w : World) : CallV Try.prog 26 #[.pointer none, i64 i] w fun r w' => r = i64 4 ∧ Ext w w' := by
  have hX : Ext w w := Ext.rfl' w
  refine Calls.of_W (N := 26) Try.func26 rfl rfl rfl ?_
  refine W.reg ?_
  refine WL.y (R.asg (v := .int _ _) rfl) rfl ?_
  refine WL.nil ?_
  refine W.seq ?_
  refine W.reg ?_
  refine WL.y (R.mv (v := .pointer _) rfl) rfl ?_
  refine WL.y (R.mv (v := .int _ _) rfl) rfl ?_
  refine WL.call Try.func114 rfl rfl (has_nil i _) rfl rfl ?_
  rintro _ w1 ⟨rfl, hx1⟩
  have hz1 := hx1.size
  replace hX := hX.tr hx1
  refine WL.y (R.notF rfl) rfl ?_
  refine WL.nil ?_
  refine W.cond_t rfl ?_
  refine W.reg ?_
  refine WL.y (R.asg (v := .int _ _) rfl) rfl ?_
  refine WL.nil ?_
  refine W.ret ?_
  exact PR.r1 rfl (.tmp rfl) ⟨rfl, hX⟩

theorem Find_yes (F : Nat → Prop) (bt : Nat) (c : Cfg) (l : List (Option Ent)) (w : World) (hT : TabAt w F bt c l) (v : Vip) (hv : ¬ tIdx l v < 0) : CallV Try.prog 57 #[.pointer (some ⟨bt, 0, none⟩), encVv v] w fun r w' => r = .tuple #[i64 (tIdx l v), bl true] ∧ Ext w w' := by
  have hX : Ext w w := Ext.rfl' w
  obtain ⟨bm, cs, ml, Fs, H⟩ := hT
  have hA := H.arr
  have hl16 := H.len
  have hM := H.mp
  have hbt := hA.blk.lt
  have hbm := hM.lt
  have hget := H.rel v
  rw [if_neg hv] at hget
  refine Calls.of_W (N := 21) Try.func57 rfl rfl rfl ?_
  refine W.reg ?_
  refine WL.box (v := .agg _) rfl rfl rfl ?_
  intro b1 w1 hb1 hs1 hx1 hB1
  have hge1 := hX.size
  replace hX := hX.tr hx1
  replace hA := hA.ext hx1
  replace hM := hx1.map hM
  refine WL.y (R.asg (v := .int _ _) rfl) rfl ?_
  refine WL.y (R.asg (v := .bool false) rfl) rfl ?_
  refine WL.nil ?_
  refine W.seq ?_
  refine W.reg ?_
  refine WL.y (R.mv (v := .pointer _) rfl) rfl ?_
  refine WL.y (R.eqlNil Try.underlying24 rfl) rfl ?_
  refine WL.nil ?_
  refine W.cond_f rfl ?_
  refine W.skip ?_
  refine W.seq ?_
  refine W.draw (fun j => [1000].contains j) (fun wI => Ext w1 wI) rfl ?_
  have hI2 := Ext.dr w1
  refine WA.batch [0, 1, 2, 3, 4, 5, 6, 7, 8, 9, 10] 0 (by kernel_rfl) hI2 ?_
  refine QL.y (fun wq hq => (R.mv (v := .pointer _) rfl)) rfl ?_
  refine QL.y (fun wq hq => (R.nilCheck rfl)) rfl ?_
  refine QL.y (fun wq hq => (R.fieldAddr fo189_2 rfl)) rfl ?_
  refine QL.y (fun wq hq => (R.load sca184 rfl (hq.blkR (hA.blk).r) H.map)) rfl ?_
  refine QL.y (fun wq hq => (R.loadA agg42 rfl (hq.blkR (hB1).r) rfl rfl)) rfl ?_
  refine QL.y (fun wq hq => (R.lookT keyVipL Try.underlying184 Try.zeroValue3 rfl (hq.map hM) (k := v) rfl hget)) rfl ?_
  refine QL.y (fun wq hq => (R.mv (v := .tuple _) rfl)) rfl ?_
  refine QL.y (fun wq hq => (R.extract rfl rfl)) rfl ?_
  refine QL.y (fun wq hq => (R.extract rfl rfl)) rfl ?_
  refine QL.y (fun wq hq => (R.asg (v := .int _ _) rfl)) rfl ?_
  refine QL.y (fun wq hq => (R.asg (v := .bool _) rfl)) rfl ?_
  refine QL.nil ?_
  have hD2 := Ext.dr w1
  have hD2z := hD2.size
  replace hX := hX.tr hD2
  replace hA := hA.ext hD2
  replace hM := hD2.map hM
  replace hB1 := hD2.blk hB1
  refine WA.done (by kernel_rfl) ?_
  refine W.reg ?_
  refine WL.y (R.mv (v := .int _ _) rfl) rfl ?_
  refine WL.y (R.mv (v := .bool _) rfl) rfl ?_
  refine WL.y (R.asg (v := .int _ _) rfl) rfl ?_
  refine WL.y (R.asg (v := .bool _) rfl) rfl ?_
  refine WL.nil ?_
  refine W.ret ?_
  exact PR.r2 rfl (.tmp rfl) (.tmp rfl) ⟨rfl, hX⟩

theorem Find_no (F : Nat → Prop) (bt : Nat) (c : Cfg) (l : List (Option Ent)) (w : World) (hT : TabAt w F bt c l) (v : Vip) (hv : tIdx l v < 0) : CallV Try.prog 57 #[.pointer (some ⟨bt, 0, none⟩), encVv v] w fun r w' => r = .tuple #[i64 0, bl false] ∧ Ext w w' := by
  have hX : Ext w w := Ext.rfl' w
  obtain ⟨bm, cs, ml, Fs, H⟩ := hT
  have hA := H.arr
  have hl16 := H.len
  have hM := H.mp
  have hbt := hA.blk.lt
  have hbm := hM.lt
  have hget := H.rel v
  rw [if_pos hv] at hget
  refine Calls.of_W (N := 21) Try.func57 rfl rfl rfl ?_
  refine W.reg ?_
  refine WL.box (v := .agg _) rfl rfl rfl ?_
  intro b1 w1 hb1 hs1 hx1 hB1
  have hge1 := hX.size
  replace hX := hX.tr hx1
  replace hA := hA.ext hx1
  replace hM := hx1.map hM
  refine WL.y (R.asg (v := .int _ _) rfl) rfl ?_
  refine WL.y (R.asg (v := .bool false) rfl) rfl ?_
  refine WL.nil ?_
  refine W.seq ?_
  refine W.reg ?_
  refine WL.y (R.mv (v := .pointer _) rfl) rfl ?_
  refine WL.y (R.eqlNil Try.underlying24 rfl) rfl ?_
  refine WL.nil ?_
  refine W.cond_f rfl ?_
  refine W.skip ?_
  refine W.seq ?_
  refine W.draw (fun j => [1000].contains j) (fun wI => Ext w1 wI) rfl ?_
  have hI2 := Ext.dr w1
  refine WA.batch [0, 1, 2, 3, 4, 5, 6, 7, 8, 9, 10] 0 (by kernel_rfl) hI2 ?_
  refine QL.y (fun wq hq => (R.mv (v := .pointer _) rfl)) rfl ?_
  refine QL.y (fun wq hq => (R.nilCheck rfl)) rfl ?_
  refine QL.y (fun wq hq => (R.fieldAddr fo189_2 rfl)) rfl ?_
  refine QL.y (fun wq hq => (R.load sca184 rfl (hq.blkR (hA.blk).r) H.map)) rfl ?_
  refine QL.y (fun wq hq => (R.loadA agg42 rfl (hq.blkR (hB1).r) rfl rfl)) rfl ?_
  refine QL.y (fun wq hq => (R.lookF keyVipL Try.underlying184 Try.zeroValue3 rfl (hq.map hM) (k := v) rfl hget)) rfl ?_
  refine QL.y (fun wq hq => (R.mv (v := .tuple _) rfl)) rfl ?_
  refine QL.y (fun wq hq => (R.extract rfl rfl)) rfl ?_
  refine QL.y (fun wq hq => (R.extract rfl rfl)) rfl ?_
  refine QL.y (fun wq hq => (R.asg (v := .int _ _) rfl)) rfl ?_
  refine QL.y (fun wq hq => (R.asg (v := .bool _) rfl)) rfl ?_
  refine QL.nil ?_
  have hD2 := Ext.dr w1
  have hD2z := hD2.size
  replace hX := hX.tr hD2
  replace hA := hA.ext hD2
  replace hM := hD2.map hM
  replace hB1 := hD2.blk hB1
  refine WA.done (by kernel_rfl) ?_
  refine W.reg ?_
  refine WL.y (R.mv (v := .int _ _) rfl) rfl ?_
  refine WL.y (R.mv (v := .bool _) rfl) rfl ?_
  refine WL.y (R.asg (v := .int _ _) rfl) rfl ?_
  refine WL.y (R.asg (v := .bool _) rfl) rfl ?_
  refine WL.nil ?_
  refine W.ret ?_
  exact PR.r2 rfl (.tmp rfl) (.tmp rfl) ⟨rfl, hX⟩

def findR (l : List (Option Ent)) (v : Vip) : Value := if tIdx l v < 0 then .tuple #[i64 0, bl false] else .tuple #[i64 (tIdx l v), bl true]
theorem Find_calls (F : Nat → Prop) (bt : Nat) (c : Cfg) (l : List (Option Ent)) (w : World) (hT : TabAt w F bt c l) (v : Vip) : CallV Try.prog 57 #[.pointer (some ⟨bt, 0, none⟩), encVv v] w fun r w' => r = findR l v ∧ Ext w w' := by
  by_cases hv : tIdx l v < 0
  · simpa [findR, hv] using Find_no F bt c l w hT v hv
  · simpa [findR, hv] using Find_yes F bt c l w hT v hv

theorem Of_yes (F : Nat → Prop) (bt : Nat) (c : Cfg) (l : List (Option Ent)) (w : World) (hT : TabAt w F bt c l) (k : Key) (hk : keyOK k = true) (hv : ¬ tIdx l (keyVip k) < 0) : CallV Try.prog 28 #[.pointer (some ⟨bt, 0, none⟩), .agg (encKey k).toArray] w fun r w' => r = findR l (keyVip k) ∧ Ext w w' := by
  have hX : Ext w w := Ext.rfl' w
  refine Calls.of_W (N := 15) Try.func28 rfl rfl rfl ?_
  refine W.reg ?_
  refine WL.box (v := .agg _) rfl rfl rfl ?_
  intro b1 w1 hb1 hs1 hx1 hB1
  have hge1 := hX.size
  replace hX := hX.tr hx1
  refine WL.y (R.asg (v := .int _ _) rfl) rfl ?_
  refine WL.y (R.asg (v := .bool false) rfl) rfl ?_
  refine WL.nil ?_
  refine W.seq ?_
  refine W.reg ?_
  refine WL.y (R.loadA agg37 rfl (hB1).r rfl rfl) rfl ?_
  refine WL.call Try.func115 rfl rfl ((keyValid_calls k _).val (y := bl true) (by rw [hk])) rfl rfl ?_
  rintro _ w2 ⟨rfl, hx2⟩
  have hz2 := hx2.size
  replace hX := hX.tr hx2
  replace hB1 := hx2.blk hB1
  refine WL.y (R.notT rfl) rfl ?_
  refine WL.nil ?_
  refine W.cond_f rfl ?_
  refine W.skip ?_
  refine W.reg ?_
  refine WL.y (R.mv (v := .pointer _) rfl) rfl ?_
  refine WL.y (R.loadA agg37 rfl (hB1).r rfl rfl) rfl ?_
  refine WL.call Try.func116 rfl rfl (keyVip_calls k _) rfl rfl ?_
  rintro _ w3 ⟨rfl, hx3⟩
  have hz3 := hx3.size
  replace hX := hX.tr hx3
  replace hB1 := hx3.blk hB1
  refine WL.call Try.func57 rfl rfl (Find_yes F bt c l _ (hT.ext hX) (keyVip k) hv) rfl rfl ?_
  rintro _ w4 ⟨rfl, hx4⟩
  have hz4 := hx4.size
  replace hX := hX.tr hx4
  replace hB1 := hx4.blk hB1
  refine WL.y (R.extract rfl rfl) rfl ?_
  refine WL.y (R.extract rfl rfl) rfl ?_
  refine WL.y (R.asg (v := .int _ _) rfl) rfl ?_
  refine WL.y (R.asg (v := .bool _) rfl) rfl ?_
  refine WL.nil ?_
  refine W.ret ?_
  exact PR.r2 rfl (.tmp rfl) (.tmp rfl) ⟨by simp only [findR, if_neg hv]; rfl, hX⟩

theorem Of_no (F : Nat → Prop) (bt : Nat) (c : Cfg) (l : List (Option Ent)) (w : World) (hT : TabAt w F bt c l) (k : Key) (hk : keyOK k = true) (hv : tIdx l (keyVip k) < 0) : CallV Try.prog 28 #[.pointer (some ⟨bt, 0, none⟩), .agg (encKey k).toArray] w fun r w' => r = findR l (keyVip k) ∧ Ext w w' := by
  have hX : Ext w w := Ext.rfl' w
  refine Calls.of_W (N := 15) Try.func28 rfl rfl rfl ?_
  refine W.reg ?_
  refine WL.box (v := .agg _) rfl rfl rfl ?_
  intro b1 w1 hb1 hs1 hx1 hB1
  have hge1 := hX.size
  replace hX := hX.tr hx1
  refine WL.y (R.asg (v := .int _ _) rfl) rfl ?_
  refine WL.y (R.asg (v := .bool false) rfl) rfl ?_
  refine WL.nil ?_
  refine W.seq ?_
  refine W.reg ?_
  refine WL.y (R.loadA agg37 rfl (hB1).r rfl rfl) rfl ?_
  refine WL.call Try.func115 rfl rfl ((keyValid_calls k _).val (y := bl true) (by rw [hk])) rfl rfl ?_
  rintro _ w2 ⟨rfl, hx2⟩
  have hz2 := hx2.size
  replace hX := hX.tr hx2
  replace hB1 := hx2.blk hB1
  refine WL.y (R.notT rfl) rfl ?_
  refine WL.nil ?_
  refine W.cond_f rfl ?_
  refine W.skip ?_
  refine W.reg ?_
  refine WL.y (R.mv (v := .pointer _) rfl) rfl ?_
  refine WL.y (R.loadA agg37 rfl (hB1).r rfl rfl) rfl ?_
  refine WL.call Try.func116 rfl rfl (keyVip_calls k _) rfl rfl ?_
  rintro _ w3 ⟨rfl, hx3⟩
  have hz3 := hx3.size
  replace hX := hX.tr hx3
  replace hB1 := hx3.blk hB1
  refine WL.call Try.func57 rfl rfl (Find_no F bt c l _ (hT.ext hX) (keyVip k) hv) rfl rfl ?_
  rintro _ w4 ⟨rfl, hx4⟩
  have hz4 := hx4.size
  replace hX := hX.tr hx4
  replace hB1 := hx4.blk hB1
  refine WL.y (R.extract rfl rfl) rfl ?_
  refine WL.y (R.extract rfl rfl) rfl ?_
  refine WL.y (R.asg (v := .int _ _) rfl) rfl ?_
  refine WL.y (R.asg (v := .bool _) rfl) rfl ?_
  refine WL.nil ?_
  refine W.ret ?_
  exact PR.r2 rfl (.tmp rfl) (.tmp rfl) ⟨by simp only [findR, if_pos hv]; rfl, hX⟩

theorem Of_bad (F : Nat → Prop) (bt : Nat) (c : Cfg) (l : List (Option Ent)) (w : World) (hT : TabAt w F bt c l) (k : Key) (hk : keyOK k = false) : CallV Try.prog 28 #[.pointer (some ⟨bt, 0, none⟩), .agg (encKey k).toArray] w fun r w' => r = .tuple #[i64 0, bl false] ∧ Ext w w' := by
  have hX : Ext w w := Ext.rfl' w
  refine Calls.of_W (N := 15) Try.func28 rfl rfl rfl ?_
  refine W.reg ?_
  refine WL.box (v := .agg _) rfl rfl rfl ?_
  intro b1 w1 hb1 hs1 hx1 hB1
  have hge1 := hX.size
  replace hX := hX.tr hx1
  refine WL.y (R.asg (v := .int _ _) rfl) rfl ?_
  refine WL.y (R.asg (v := .bool false) rfl) rfl ?_
  refine WL.nil ?_
  refine W.seq ?_
  refine W.reg ?_
  refine WL.y (R.loadA agg37 rfl (hB1).r rfl rfl) rfl ?_
  refine WL.call Try.func115 rfl rfl ((keyValid_calls k _).val (y := bl false) (by rw [hk])) rfl rfl ?_
  rintro _ w2 ⟨rfl, hx2⟩
  have hz2 := hx2.size
  replace hX := hX.tr hx2
  replace hB1 := hx2.blk hB1
  refine WL.y (R.notF rfl) rfl ?_
  refine WL.nil ?_
  refine W.cond_t rfl ?_
  refine W.reg ?_
  refine WL.y (R.asg (v := .int _ _) rfl) rfl ?_
  refine WL.y (R.asg (v := .bool false) rfl) rfl ?_
  refine WL.nil ?_
  refine W.ret ?_
  exact PR.r2 rfl (.tmp rfl) (.tmp rfl) ⟨rfl, hX⟩

def ofR (l : List (Option Ent)) (k : Key) : Value := if keyOK k = true then findR l (keyVip k) else .tuple #[i64 0, bl false]
theorem Of_calls (F : Nat → Prop) (bt : Nat) (c : Cfg) (l : List (Option Ent)) (w : World) (hT : TabAt w F bt c l) (k : Key) : CallV Try.prog 28 #[.pointer (some ⟨bt, 0, none⟩), .agg (encKey k).toArray] w fun r w' => r = ofR l k ∧ Ext w w' := by
  cases hk : keyOK k
  · simpa [ofR, hk] using Of_bad F bt c l w hT k hk
  · by_cases hv : tIdx l (keyVip k) < 0
    · simpa [ofR, hk] using Of_no F bt c l w hT k hk hv
    · simpa [ofR, hk] using Of_yes F bt c l w hT k hk hv
end Go.Proofs.Ytkjecokkdbapkaa
