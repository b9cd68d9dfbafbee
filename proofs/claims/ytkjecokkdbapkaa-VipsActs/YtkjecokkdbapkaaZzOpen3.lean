import Derived.Test.YtkjecokkdbapkaaZzOpen2
namespace Go.Eng
set_option linter.all false
open Go Go.RowKit
/-- Cells that read as a value of type t are an 'enc a', of which ok holds in that world. -/
def OpensW {α : Type} (P : Program) (t : TypeId) (enc : α → List Value) (ok : World → α → Prop) : Prop :=
  ∀ {H : Type} {en : TypeId × Value → H} {w : World} {base : Nat} {held : Bool} {fuel : Nat} {cs : List Value} {x : DataW H × List MemPlace},
    DataW.trod en P w base (fun _ => true) held fuel t cs = some x → ∃ a, cs = enc a ∧ ok w a
theorem Opens.toW {α : Type} {P : Program} {t : TypeId} {enc : α → List Value} {ok : α → Prop} (O : Opens P t enc ok) : OpensW P t enc (fun _ a => ok a) := fun h => O h
theorem OpensW.via {α β : Type} {P : Program} {t : TypeId} {enc : α → List Value} {enc' : β → List Value} {ok : World → α → Prop} {ok' : World → β → Prop} (O : OpensW P t enc ok) (f : α → β) (he : ∀ a, enc a = enc' (f a)) (hk : ∀ w a, ok w a → ok' w (f a)) : OpensW P t enc' ok' := fun h => by
  obtain ⟨a, rfl, ha⟩ := O h
  exact ⟨f a, he a, hk _ a ha⟩
section
variable {α : Type} {enc : α → List Value} {sz : Nat} {ok : World → α → Prop}

theorem Sli.of_trodF {H : Type} {en : TypeId × Value → H} {P : Program} {w : World} {base : Nat} {held : Bool} {t e : TypeId} {a : Option Addr} {len cap : Nat} {d : DataW H} {ps : List MemPlace}
    (E : Enc enc sz) (hs : 0 < sz) (ht : P.underlying t = some (.slice e)) (hc : P.cellsOf e = sz) (O : OpensW P e enc ok)
    {fuel : Nat} (h : DataW.trod en P w base (fun _ => true) held fuel t [.slice a len cap] = some (d, ps)) : ∃ xs : List α, Sli enc sz w a cap xs ∧ xs.length = len ∧ (∀ x ∈ xs, ok w x) ∧ len ≤ maxLen := by
  rcases DataW.trod_slice ht h with ⟨h0, _⟩ | ⟨ad, l, c, elems, rest, n, _, h0, _, hb, hl, hm, hel, hE, hR, _⟩
  · simp at h0
    obtain ⟨rfl, rfl, rfl⟩ := h0
    exact ⟨[], Sli.nil _ _ _, rfl, (fun x hx => absurd hx (by simp)), Nat.zero_le _⟩
  · simp at h0
    obtain ⟨rfl, rfl, rfl⟩ := h0
    obtain ⟨hrl, hR⟩ := hR rfl
    have hq : ∀ i, i < cap → ∃ x, ok w x ∧ w.cells? base (ad.add (i * sz)) sz = some (enc x) := by
      intro i hi
      have key : ∃ y, (w.cells? base (ad.add (i * P.cellsOf e)) (P.cellsOf e)).bind (DataW.trod en P w base (fun _ => true) held n e) = some y := by
        by_cases h1 : i < len
        · exact ⟨elems[i]'(by omega), by rw [hE i h1, List.getElem?_eq_getElem]⟩
        · have := hR (i - len) (by omega)
          rw [show len + (i - len) = i by omega] at this
          exact ⟨rest[i - len]'(by omega), by rw [this, List.getElem?_eq_getElem]⟩
      obtain ⟨y, hy⟩ := key
      rw [Option.bind_eq_some_iff] at hy
      obtain ⟨ci, h1, h2⟩ := hy
      obtain ⟨x, rfl, hx⟩ := O h2
      rw [hc] at h1
      exact ⟨x, hx, h1⟩
    obtain ⟨l, hll, hlq⟩ := list_choice cap hq
    have hcell : ∀ i j x, l[i]? = some x → j < sz → w.cell? (ad.add (i * sz + j)) = (enc x)[j]? := by
      intro i j x hx hj
      have h1 := (World.cells?_some (hlq i x hx).2).2.2 j hj
      rw [← h1, Addr.add_add]
    refine ⟨l.take len, ?_, by simp; omega, fun x hx => ?_, by omega⟩
    rotate_left
    · obtain ⟨i, hi⟩ := List.getElem?_of_mem (List.mem_of_mem_take hx)
      exact (hlq i x hi).1
    by_cases hc0 : cap = 0
    · exact .inl ⟨hc0, by have : len = 0 := by omega
                          subst this; simp⟩
    · obtain ⟨x0, hx0⟩ : ∃ x, l[0]? = some x := ⟨l[0]'(by omega), List.getElem?_eq_getElem _⟩
      have hl0 := E.len x0
      have h00 := hcell 0 0 x0 hx0 hs
      rw [List.getElem?_eq_getElem (show 0 < (enc x0).length by omega)] at h00
      obtain ⟨b, off, sp⟩ := ad
      obtain ⟨hsp, cs, T, z, hb', h1⟩ := cell_some h00
      have hsn : sp = none := by
        unfold Addr.add at hsp
        split at hsp <;> simp_all
      subst hsn
      rw [add_at] at hb'
      simp only at hb'
      have hcs : ∀ i j x, l[i]? = some x → j < sz → cs.toList[off + (i * sz + j)]? = (enc x)[j]? := fun i j x hx hj => by
        have := hcell i j x hx hj
        rw [add_at] at this
        unfold World.cell? at this
        simp only [hb'] at this
        simpa using this
      have hroom : off + cap * sz ≤ cs.toList.length := by
        obtain ⟨x, hx⟩ : ∃ x, l[cap - 1]? = some x := ⟨l[cap - 1]'(by omega), List.getElem?_eq_getElem _⟩
        have h2 := hcs (cap - 1) (sz - 1) x hx (by omega)
        have hlx := E.len x
        rw [List.getElem?_eq_getElem (show sz - 1 < (enc x).length by omega)] at h2
        have h3 := (List.getElem?_eq_some_iff.1 h2).1
        have h4 : (cap - 1 + 1) * sz = (cap - 1) * sz + sz := by rw [Nat.add_mul]; omega
        rw [show cap - 1 + 1 = cap by omega] at h4
        omega
      have hlen : (l.take len).length = len := by simp; omega
      refine .inr ⟨b, off, cs.toList, rfl, ⟨T, z, by simpa using hb'⟩, by omega, hroom, ?_⟩
      apply List.ext_getElem?
      intro k
      rw [hlen, List.getElem?_take, List.getElem?_drop]
      by_cases hk : k < len * sz
      · rw [if_pos hk]
        have hdm := Nat.div_add_mod k sz
        have hmod := Nat.mod_lt k hs
        have hdiv : k / sz < len := Nat.div_lt_of_lt_mul (by rw [Nat.mul_comm]; exact hk)
        obtain ⟨x, hx⟩ : ∃ x, l[k / sz]? = some x := ⟨l[k / sz]'(by omega), List.getElem?_eq_getElem _⟩
        have hx' : (l.take len)[k / sz]? = some x := by rw [List.getElem?_take_of_lt hdiv]; exact hx
        have e1 := hcs (k / sz) (k % sz) x hx hmod
        have e2 := flat_cell E hx' hmod
        have e3 : k / sz * sz + k % sz = k := by rw [Nat.mul_comm]; exact hdm
        rw [e3] at e1 e2
        rw [e1, e2]
      · rw [if_neg hk, eq_comm, List.getElem?_eq_none_iff, flat_len E, hlen]; omega

theorem Sli.of_trodW {H : Type} {en : TypeId × Value → H} {P : Program} {w : World} {base : Nat} {held : Bool} {t e : TypeId} {a : Option Addr} {len cap : Nat} {d : DataW H} {ps : List MemPlace}
    (E : Enc enc sz) (hs : 0 < sz) (ht : P.underlying t = some (.slice e)) (hc : P.cellsOf e = sz) (O : OpensW P e enc ok)
    (h : DataW.Trod en P w base (fun _ => true) held t (.slice a len cap) d ps) : ∃ xs : List α, Sli enc sz w a cap xs ∧ xs.length = len ∧ (∀ x ∈ xs, ok w x) ∧ len ≤ maxLen := by
  obtain ⟨fuel, h⟩ := h
  exact Sli.of_trodF E hs ht hc O h
structure SlV (α : Type) where
  (a : Option Addr) (c : Nat) (xs : List α)
theorem OpensW.slice {P : Program} {t e : TypeId} (E : Enc enc sz) (hs : 0 < sz) (ht : P.underlying t = some (.slice e)) (hc : P.cellsOf e = sz) (O : OpensW P e enc ok) :
    OpensW P t (fun s : SlV α => [.slice s.a s.xs.length s.c]) (fun w s => Sli enc sz w s.a s.c s.xs ∧ ∀ x ∈ s.xs, ok w x) := fun {H en w base held fuel cs x} h => by
  obtain ⟨d, ps⟩ := x
  have hc1 : ∃ a len cap, cs = [.slice a len cap] := by
    rcases DataW.trod_slice ht h with ⟨h0, _⟩ | ⟨ad, l, c, _, _, _, _, h0, _⟩
    · exact ⟨none, 0, 0, h0⟩
    · exact ⟨some ad, l, c, h0⟩
  obtain ⟨a, len, cap, rfl⟩ := hc1
  obtain ⟨xs, h1, h2, h3, _⟩ := Sli.of_trodF E hs ht hc O h
  exact ⟨⟨a, cap, xs⟩, by subst h2; rfl, h1, h3⟩
end
theorem OpensW.struct3 {α0 α1 α2 : Type} {P : Program} {t : TypeId} {fs : Array Field} {e0 : α0 → List Value} {k0 : World → α0 → Prop} {f0 : Field} {c0 : Nat} {e1 : α1 → List Value} {k1 : World → α1 → Prop} {f1 : Field} {c1 : Nat} {e2 : α2 → List Value} {k2 : World → α2 → Prop} {f2 : Field} {c2 : Nat} (ht : P.underlying t = some (.struct fs)) (hn : fs.size = 3) (hz : P.cellsOf t = 0 + c0 + c1 + c2) (O0 : OpensW P f0.type e0 k0) (h0 : fs[0]? = some f0) (o0 : f0.offset = 0) (z0 : P.cellsOf f0.type = c0) (O1 : OpensW P f1.type e1 k1) (h1 : fs[1]? = some f1) (o1 : f1.offset = 0 + c0) (z1 : P.cellsOf f1.type = c1) (O2 : OpensW P f2.type e2 k2) (h2 : fs[2]? = some f2) (o2 : f2.offset = 0 + c0 + c1) (z2 : P.cellsOf f2.type = c2) :
    OpensW P t (fun q : α0 × α1 × α2 => e0 q.1 ++ (e1 q.2.1 ++ (e2 q.2.2 ++ []))) (fun w q => k0 w q.1 ∧ k1 w q.2.1 ∧ k2 w q.2.2) := fun h => by
  obtain ⟨xs, m, -, -, hl, hxn, hf⟩ := DataW.trod_struct ht h
  have g0 := hf 0 f0 h0
  rw [List.getElem?_eq_getElem (show 0 < xs.length by omega), z0, o0] at g0
  obtain ⟨a0, p0, w0⟩ := O0 g0
  have g1 := hf 1 f1 h1
  rw [List.getElem?_eq_getElem (show 1 < xs.length by omega), z1, o1] at g1
  obtain ⟨a1, p1, w1⟩ := O1 g1
  have g2 := hf 2 f2 h2
  rw [List.getElem?_eq_getElem (show 2 < xs.length by omega), z2, o2] at g2
  obtain ⟨a2, p2, w2⟩ := O2 g2
  refine ⟨⟨a0, a1, a2⟩, ?_, ⟨w0, w1, w2⟩⟩
  rename_i cs _
  have d0 : cs = cs.drop 0 := by simp
  have t0 := cut cs (0) c0
  rw [p0] at t0
  have t1 := cut cs (0 + c0) c1
  rw [p1] at t1
  have t2 := cut cs (0 + c0 + c1) c2
  rw [p2] at t2
  have te : cs.drop (0 + c0 + c1 + c2) = [] := List.drop_eq_nil_iff.2 (by omega)
  simp only
  rw [← te, ← t2, ← t1, ← t0]
  exact d0
theorem OpensW.struct4 {α0 α1 α2 α3 : Type} {P : Program} {t : TypeId} {fs : Array Field} {e0 : α0 → List Value} {k0 : World → α0 → Prop} {f0 : Field} {c0 : Nat} {e1 : α1 → List Value} {k1 : World → α1 → Prop} {f1 : Field} {c1 : Nat} {e2 : α2 → List Value} {k2 : World → α2 → Prop} {f2 : Field} {c2 : Nat} {e3 : α3 → List Value} {k3 : World → α3 → Prop} {f3 : Field} {c3 : Nat} (ht : P.underlying t = some (.struct fs)) (hn : fs.size = 4) (hz : P.cellsOf t = 0 + c0 + c1 + c2 + c3) (O0 : OpensW P f0.type e0 k0) (h0 : fs[0]? = some f0) (o0 : f0.offset = 0) (z0 : P.cellsOf f0.type = c0) (O1 : OpensW P f1.type e1 k1) (h1 : fs[1]? = some f1) (o1 : f1.offset = 0 + c0) (z1 : P.cellsOf f1.type = c1) (O2 : OpensW P f2.type e2 k2) (h2 : fs[2]? = some f2) (o2 : f2.offset = 0 + c0 + c1) (z2 : P.cellsOf f2.type = c2) (O3 : OpensW P f3.type e3 k3) (h3 : fs[3]? = some f3) (o3 : f3.offset = 0 + c0 + c1 + c2) (z3 : P.cellsOf f3.type = c3) :
    OpensW P t (fun q : α0 × α1 × α2 × α3 => e0 q.1 ++ (e1 q.2.1 ++ (e2 q.2.2.1 ++ (e3 q.2.2.2 ++ [])))) (fun w q => k0 w q.1 ∧ k1 w q.2.1 ∧ k2 w q.2.2.1 ∧ k3 w q.2.2.2) := fun h => by
  obtain ⟨xs, m, -, -, hl, hxn, hf⟩ := DataW.trod_struct ht h
  have g0 := hf 0 f0 h0
  rw [List.getElem?_eq_getElem (show 0 < xs.length by omega), z0, o0] at g0
  obtain ⟨a0, p0, w0⟩ := O0 g0
  have g1 := hf 1 f1 h1
  rw [List.getElem?_eq_getElem (show 1 < xs.length by omega), z1, o1] at g1
  obtain ⟨a1, p1, w1⟩ := O1 g1
  have g2 := hf 2 f2 h2
  rw [List.getElem?_eq_getElem (show 2 < xs.length by omega), z2, o2] at g2
  obtain ⟨a2, p2, w2⟩ := O2 g2
  have g3 := hf 3 f3 h3
  rw [List.getElem?_eq_getElem (show 3 < xs.length by omega), z3, o3] at g3
  obtain ⟨a3, p3, w3⟩ := O3 g3
  refine ⟨⟨a0, a1, a2, a3⟩, ?_, ⟨w0, w1, w2, w3⟩⟩
  rename_i cs _
  have d0 : cs = cs.drop 0 := by simp
  have t0 := cut cs (0) c0
  rw [p0] at t0
  have t1 := cut cs (0 + c0) c1
  rw [p1] at t1
  have t2 := cut cs (0 + c0 + c1) c2
  rw [p2] at t2
  have t3 := cut cs (0 + c0 + c1 + c2) c3
  rw [p3] at t3
  have te : cs.drop (0 + c0 + c1 + c2 + c3) = [] := List.drop_eq_nil_iff.2 (by omega)
  simp only
  rw [← te, ← t3, ← t2, ← t1, ← t0]
  exact d0
theorem OpensW.struct5 {α0 α1 α2 α3 α4 : Type} {P : Program} {t : TypeId} {fs : Array Field} {e0 : α0 → List Value} {k0 : World → α0 → Prop} {f0 : Field} {c0 : Nat} {e1 : α1 → List Value} {k1 : World → α1 → Prop} {f1 : Field} {c1 : Nat} {e2 : α2 → List Value} {k2 : World → α2 → Prop} {f2 : Field} {c2 : Nat} {e3 : α3 → List Value} {k3 : World → α3 → Prop} {f3 : Field} {c3 : Nat} {e4 : α4 → List Value} {k4 : World → α4 → Prop} {f4 : Field} {c4 : Nat} (ht : P.underlying t = some (.struct fs)) (hn : fs.size = 5) (hz : P.cellsOf t = 0 + c0 + c1 + c2 + c3 + c4) (O0 : OpensW P f0.type e0 k0) (h0 : fs[0]? = some f0) (o0 : f0.offset = 0) (z0 : P.cellsOf f0.type = c0) (O1 : OpensW P f1.type e1 k1) (h1 : fs[1]? = some f1) (o1 : f1.offset = 0 + c0) (z1 : P.cellsOf f1.type = c1) (O2 : OpensW P f2.type e2 k2) (h2 : fs[2]? = some f2) (o2 : f2.offset = 0 + c0 + c1) (z2 : P.cellsOf f2.type = c2) (O3 : OpensW P f3.type e3 k3) (h3 : fs[3]? = some f3) (o3 : f3.offset = 0 + c0 + c1 + c2) (z3 : P.cellsOf f3.type = c3) (O4 : OpensW P f4.type e4 k4) (h4 : fs[4]? = some f4) (o4 : f4.offset = 0 + c0 + c1 + c2 + c3) (z4 : P.cellsOf f4.type = c4) :
    OpensW P t (fun q : α0 × α1 × α2 × α3 × α4 => e0 q.1 ++ (e1 q.2.1 ++ (e2 q.2.2.1 ++ (e3 q.2.2.2.1 ++ (e4 q.2.2.2.2 ++ []))))) (fun w q => k0 w q.1 ∧ k1 w q.2.1 ∧ k2 w q.2.2.1 ∧ k3 w q.2.2.2.1 ∧ k4 w q.2.2.2.2) := fun h => by
  obtain ⟨xs, m, -, -, hl, hxn, hf⟩ := DataW.trod_struct ht h
  have g0 := hf 0 f0 h0
  rw [List.getElem?_eq_getElem (show 0 < xs.length by omega), z0, o0] at g0
  obtain ⟨a0, p0, w0⟩ := O0 g0
  have g1 := hf 1 f1 h1
  rw [List.getElem?_eq_getElem (show 1 < xs.length by omega), z1, o1] at g1
  obtain ⟨a1, p1, w1⟩ := O1 g1
  have g2 := hf 2 f2 h2
  rw [List.getElem?_eq_getElem (show 2 < xs.length by omega), z2, o2] at g2
  obtain ⟨a2, p2, w2⟩ := O2 g2
  have g3 := hf 3 f3 h3
  rw [List.getElem?_eq_getElem (show 3 < xs.length by omega), z3, o3] at g3
  obtain ⟨a3, p3, w3⟩ := O3 g3
  have g4 := hf 4 f4 h4
  rw [List.getElem?_eq_getElem (show 4 < xs.length by omega), z4, o4] at g4
  obtain ⟨a4, p4, w4⟩ := O4 g4
  refine ⟨⟨a0, a1, a2, a3, a4⟩, ?_, ⟨w0, w1, w2, w3, w4⟩⟩
  rename_i cs _
  have d0 : cs = cs.drop 0 := by simp
  have t0 := cut cs (0) c0
  rw [p0] at t0
  have t1 := cut cs (0 + c0) c1
  rw [p1] at t1
  have t2 := cut cs (0 + c0 + c1) c2
  rw [p2] at t2
  have t3 := cut cs (0 + c0 + c1 + c2) c3
  rw [p3] at t3
  have t4 := cut cs (0 + c0 + c1 + c2 + c3) c4
  rw [p4] at t4
  have te : cs.drop (0 + c0 + c1 + c2 + c3 + c4) = [] := List.drop_eq_nil_iff.2 (by omega)
  simp only
  rw [← te, ← t4, ← t3, ← t2, ← t1, ← t0]
  exact d0
theorem OpensW.struct6 {α0 α1 α2 α3 α4 α5 : Type} {P : Program} {t : TypeId} {fs : Array Field} {e0 : α0 → List Value} {k0 : World → α0 → Prop} {f0 : Field} {c0 : Nat} {e1 : α1 → List Value} {k1 : World → α1 → Prop} {f1 : Field} {c1 : Nat} {e2 : α2 → List Value} {k2 : World → α2 → Prop} {f2 : Field} {c2 : Nat} {e3 : α3 → List Value} {k3 : World → α3 → Prop} {f3 : Field} {c3 : Nat} {e4 : α4 → List Value} {k4 : World → α4 → Prop} {f4 : Field} {c4 : Nat} {e5 : α5 → List Value} {k5 : World → α5 → Prop} {f5 : Field} {c5 : Nat} (ht : P.underlying t = some (.struct fs)) (hn : fs.size = 6) (hz : P.cellsOf t = 0 + c0 + c1 + c2 + c3 + c4 + c5) (O0 : OpensW P f0.type e0 k0) (h0 : fs[0]? = some f0) (o0 : f0.offset = 0) (z0 : P.cellsOf f0.type = c0) (O1 : OpensW P f1.type e1 k1) (h1 : fs[1]? = some f1) (o1 : f1.offset = 0 + c0) (z1 : P.cellsOf f1.type = c1) (O2 : OpensW P f2.type e2 k2) (h2 : fs[2]? = some f2) (o2 : f2.offset = 0 + c0 + c1) (z2 : P.cellsOf f2.type = c2) (O3 : OpensW P f3.type e3 k3) (h3 : fs[3]? = some f3) (o3 : f3.offset = 0 + c0 + c1 + c2) (z3 : P.cellsOf f3.type = c3) (O4 : OpensW P f4.type e4 k4) (h4 : fs[4]? = some f4) (o4 : f4.offset = 0 + c0 + c1 + c2 + c3) (z4 : P.cellsOf f4.type = c4) (O5 : OpensW P f5.type e5 k5) (h5 : fs[5]? = some f5) (o5 : f5.offset = 0 + c0 + c1 + c2 + c3 + c4) (z5 : P.cellsOf f5.type = c5) :
    OpensW P t (fun q : α0 × α1 × α2 × α3 × α4 × α5 => e0 q.1 ++ (e1 q.2.1 ++ (e2 q.2.2.1 ++ (e3 q.2.2.2.1 ++ (e4 q.2.2.2.2.1 ++ (e5 q.2.2.2.2.2 ++ [])))))) (fun w q => k0 w q.1 ∧ k1 w q.2.1 ∧ k2 w q.2.2.1 ∧ k3 w q.2.2.2.1 ∧ k4 w q.2.2.2.2.1 ∧ k5 w q.2.2.2.2.2) := fun h => by
  obtain ⟨xs, m, -, -, hl, hxn, hf⟩ := DataW.trod_struct ht h
  have g0 := hf 0 f0 h0
  rw [List.getElem?_eq_getElem (show 0 < xs.length by omega), z0, o0] at g0
  obtain ⟨a0, p0, w0⟩ := O0 g0
  have g1 := hf 1 f1 h1
  rw [List.getElem?_eq_getElem (show 1 < xs.length by omega), z1, o1] at g1
  obtain ⟨a1, p1, w1⟩ := O1 g1
  have g2 := hf 2 f2 h2
  rw [List.getElem?_eq_getElem (show 2 < xs.length by omega), z2, o2] at g2
  obtain ⟨a2, p2, w2⟩ := O2 g2
  have g3 := hf 3 f3 h3
  rw [List.getElem?_eq_getElem (show 3 < xs.length by omega), z3, o3] at g3
  obtain ⟨a3, p3, w3⟩ := O3 g3
  have g4 := hf 4 f4 h4
  rw [List.getElem?_eq_getElem (show 4 < xs.length by omega), z4, o4] at g4
  obtain ⟨a4, p4, w4⟩ := O4 g4
  have g5 := hf 5 f5 h5
  rw [List.getElem?_eq_getElem (show 5 < xs.length by omega), z5, o5] at g5
  obtain ⟨a5, p5, w5⟩ := O5 g5
  refine ⟨⟨a0, a1, a2, a3, a4, a5⟩, ?_, ⟨w0, w1, w2, w3, w4, w5⟩⟩
  rename_i cs _
  have d0 : cs = cs.drop 0 := by simp
  have t0 := cut cs (0) c0
  rw [p0] at t0
  have t1 := cut cs (0 + c0) c1
  rw [p1] at t1
  have t2 := cut cs (0 + c0 + c1) c2
  rw [p2] at t2
  have t3 := cut cs (0 + c0 + c1 + c2) c3
  rw [p3] at t3
  have t4 := cut cs (0 + c0 + c1 + c2 + c3) c4
  rw [p4] at t4
  have t5 := cut cs (0 + c0 + c1 + c2 + c3 + c4) c5
  rw [p5] at t5
  have te : cs.drop (0 + c0 + c1 + c2 + c3 + c4 + c5) = [] := List.drop_eq_nil_iff.2 (by omega)
  simp only
  rw [← te, ← t5, ← t4, ← t3, ← t2, ← t1, ← t0]
  exact d0
end Go.Eng
