import Derived.Test.YtkjecokkdbapkaaZzOpen
import Derived.Test.YtkjecokkdbapkaaZzData
namespace Go.Eng
set_option linter.all false
open Go Go.RowKit
theorem cut {α : Type} (cs : List α) (o k : Nat) : cs.drop o = (cs.drop o).take k ++ cs.drop (o + k) := by
  rw [← List.drop_drop, List.take_append_drop]
theorem Opens.via {α β : Type} {P : Program} {t : TypeId} {enc : α → List Value} {enc' : β → List Value} {ok : α → Prop} {ok' : β → Prop} (O : Opens P t enc ok) (f : α → β) (he : ∀ a, enc a = enc' (f a)) (hk : ∀ a, ok a → ok' (f a)) : Opens P t enc' ok' := fun h => by
  obtain ⟨a, rfl, ha⟩ := O h
  exact ⟨f a, he a, hk a ha⟩
theorem Opens.struct1 {α0 : Type} {P : Program} {t : TypeId} {fs : Array Field} {e0 : α0 → List Value} {k0 : α0 → Prop} {f0 : Field} {c0 : Nat} (ht : P.underlying t = some (.struct fs)) (hn : fs.size = 1) (hz : P.cellsOf t = 0 + c0) (O0 : Opens P f0.type e0 k0) (h0 : fs[0]? = some f0) (o0 : f0.offset = 0) (z0 : P.cellsOf f0.type = c0) :
    Opens P t (fun q : α0 => e0 q ++ []) (fun q => k0 q) := fun h => by
  obtain ⟨xs, m, -, -, hl, hxn, hf⟩ := DataW.trod_struct ht h
  have g0 := hf 0 f0 h0
  rw [List.getElem?_eq_getElem (show 0 < xs.length by omega), z0, o0] at g0
  obtain ⟨a0, p0, w0⟩ := O0 g0
  refine ⟨a0, ?_, w0⟩
  rename_i cs _
  have d0 : cs = cs.drop 0 := by simp
  have t0 := cut cs (0) c0
  rw [p0] at t0
  have te : cs.drop (0 + c0) = [] := List.drop_eq_nil_iff.2 (by omega)
  simp only
  rw [← te, ← t0]
  exact d0
theorem Opens.struct2 {α0 α1 : Type} {P : Program} {t : TypeId} {fs : Array Field} {e0 : α0 → List Value} {k0 : α0 → Prop} {f0 : Field} {c0 : Nat} {e1 : α1 → List Value} {k1 : α1 → Prop} {f1 : Field} {c1 : Nat} (ht : P.underlying t = some (.struct fs)) (hn : fs.size = 2) (hz : P.cellsOf t = 0 + c0 + c1) (O0 : Opens P f0.type e0 k0) (h0 : fs[0]? = some f0) (o0 : f0.offset = 0) (z0 : P.cellsOf f0.type = c0) (O1 : Opens P f1.type e1 k1) (h1 : fs[1]? = some f1) (o1 : f1.offset = 0 + c0) (z1 : P.cellsOf f1.type = c1) :
    Opens P t (fun q : α0 × α1 => e0 q.1 ++ (e1 q.2 ++ [])) (fun q => k0 q.1 ∧ k1 q.2) := fun h => by
  obtain ⟨xs, m, -, -, hl, hxn, hf⟩ := DataW.trod_struct ht h
  have g0 := hf 0 f0 h0
  rw [List.getElem?_eq_getElem (show 0 < xs.length by omega), z0, o0] at g0
  obtain ⟨a0, p0, w0⟩ := O0 g0
  have g1 := hf 1 f1 h1
  rw [List.getElem?_eq_getElem (show 1 < xs.length by omega), z1, o1] at g1
  obtain ⟨a1, p1, w1⟩ := O1 g1
  refine ⟨⟨a0, a1⟩, ?_, ⟨w0, w1⟩⟩
  rename_i cs _
  have d0 : cs = cs.drop 0 := by simp
  have t0 := cut cs (0) c0
  rw [p0] at t0
  have t1 := cut cs (0 + c0) c1
  rw [p1] at t1
  have te : cs.drop (0 + c0 + c1) = [] := List.drop_eq_nil_iff.2 (by omega)
  simp only
  rw [← te, ← t1, ← t0]
  exact d0
theorem Opens.struct3 {α0 α1 α2 : Type} {P : Program} {t : TypeId} {fs : Array Field} {e0 : α0 → List Value} {k0 : α0 → Prop} {f0 : Field} {c0 : Nat} {e1 : α1 → List Value} {k1 : α1 → Prop} {f1 : Field} {c1 : Nat} {e2 : α2 → List Value} {k2 : α2 → Prop} {f2 : Field} {c2 : Nat} (ht : P.underlying t = some (.struct fs)) (hn : fs.size = 3) (hz : P.cellsOf t = 0 + c0 + c1 + c2) (O0 : Opens P f0.type e0 k0) (h0 : fs[0]? = some f0) (o0 : f0.offset = 0) (z0 : P.cellsOf f0.type = c0) (O1 : Opens P f1.type e1 k1) (h1 : fs[1]? = some f1) (o1 : f1.offset = 0 + c0) (z1 : P.cellsOf f1.type = c1) (O2 : Opens P f2.type e2 k2) (h2 : fs[2]? = some f2) (o2 : f2.offset = 0 + c0 + c1) (z2 : P.cellsOf f2.type = c2) :
    Opens P t (fun q : α0 × α1 × α2 => e0 q.1 ++ (e1 q.2.1 ++ (e2 q.2.2 ++ []))) (fun q => k0 q.1 ∧ k1 q.2.1 ∧ k2 q.2.2) := fun h => by
  obtain ⟨xs, m, -, -, hl, hxn, hf⟩ := DataW.trod_struct ht h
  have g0 := hf 0 f0 h0
  rw [List.getElem?_eq_getElem (show 0 < xs.length by omega), z0, o0] at g0
  obtain ⟨a0, p0, w0⟩ := O0 g0
  have g1 := hf 1 f1 h1
  rw [List.getElem?_eq_getElem (show 1 < xs.length by omega), z1, o1] at g1
  obtain ⟨a1, p1, w1⟩ := O1 g1
  have g2 := hf 2 f2 h2
  rw [List.getElem?_eq_getElem (show 2 < xs.length by omega), z2, o2] at g2
  obtain ⟨a2, p2, w2⟩ := O2 g2
  refine ⟨⟨a0, a1, a2⟩, ?_, ⟨w0, w1, w2⟩⟩
  rename_i cs _
  have d0 : cs = cs.drop 0 := by simp
  have t0 := cut cs (0) c0
  rw [p0] at t0
  have t1 := cut cs (0 + c0) c1
  rw [p1] at t1
  have t2 := cut cs (0 + c0 + c1) c2
  rw [p2] at t2
  have te : cs.drop (0 + c0 + c1 + c2) = [] := List.drop_eq_nil_iff.2 (by omega)
  simp only
  rw [← te, ← t2, ← t1, ← t0]
  exact d0
theorem Opens.struct4 {α0 α1 α2 α3 : Type} {P : Program} {t : TypeId} {fs : Array Field} {e0 : α0 → List Value} {k0 : α0 → Prop} {f0 : Field} {c0 : Nat} {e1 : α1 → List Value} {k1 : α1 → Prop} {f1 : Field} {c1 : Nat} {e2 : α2 → List Value} {k2 : α2 → Prop} {f2 : Field} {c2 : Nat} {e3 : α3 → List Value} {k3 : α3 → Prop} {f3 : Field} {c3 : Nat} (ht : P.underlying t = some (.struct fs)) (hn : fs.size = 4) (hz : P.cellsOf t = 0 + c0 + c1 + c2 + c3) (O0 : Opens P f0.type e0 k0) (h0 : fs[0]? = some f0) (o0 : f0.offset = 0) (z0 : P.cellsOf f0.type = c0) (O1 : Opens P f1.type e1 k1) (h1 : fs[1]? = some f1) (o1 : f1.offset = 0 + c0) (z1 : P.cellsOf f1.type = c1) (O2 : Opens P f2.type e2 k2) (h2 : fs[2]? = some f2) (o2 : f2.offset = 0 + c0 + c1) (z2 : P.cellsOf f2.type = c2) (O3 : Opens P f3.type e3 k3) (h3 : fs[3]? = some f3) (o3 : f3.offset = 0 + c0 + c1 + c2) (z3 : P.cellsOf f3.type = c3) :
    Opens P t (fun q : α0 × α1 × α2 × α3 => e0 q.1 ++ (e1 q.2.1 ++ (e2 q.2.2.1 ++ (e3 q.2.2.2 ++ [])))) (fun q => k0 q.1 ∧ k1 q.2.1 ∧ k2 q.2.2.1 ∧ k3 q.2.2.2) := fun h => by
  obtain ⟨xs, m, -, -, hl, hxn, hf⟩ := DataW.trod_struct ht h
  have g0 := hf 0 f0 h0
  rw [List.getElem?_eq_getElem (show 0 < xs.length by omega), z0, o0] at g0
  obtain ⟨a0, p0, w0⟩ := O0 g0
  have g1 := hf 1 f1 h1
  rw [List.getElem?_eq_getElem (show 1 < xs.length by omega), z1, o1] at g1
  obtain ⟨a1, p1, w1⟩ := O1 g1
  have g2 := hf 2 f2 h2
  rw [List.getElem?_eq_getElem (show 2 < xs.length by omega), z2, o2] at g2
  obtain ⟨a2, p2, w2⟩ := O2 g2
  have g3 := hf 3 f3 h3
  rw [List.getElem?_eq_getElem (show 3 < xs.length by omega), z3, o3] at g3
  obtain ⟨a3, p3, w3⟩ := O3 g3
  refine ⟨⟨a0, a1, a2, a3⟩, ?_, ⟨w0, w1, w2, w3⟩⟩
  rename_i cs _
  have d0 : cs = cs.drop 0 := by simp
  have t0 := cut cs (0) c0
  rw [p0] at t0
  have t1 := cut cs (0 + c0) c1
  rw [p1] at t1
  have t2 := cut cs (0 + c0 + c1) c2
  rw [p2] at t2
  have t3 := cut cs (0 + c0 + c1 + c2) c3
  rw [p3] at t3
  have te : cs.drop (0 + c0 + c1 + c2 + c3) = [] := List.drop_eq_nil_iff.2 (by omega)
  simp only
  rw [← te, ← t3, ← t2, ← t1, ← t0]
  exact d0
theorem Opens.struct5 {α0 α1 α2 α3 α4 : Type} {P : Program} {t : TypeId} {fs : Array Field} {e0 : α0 → List Value} {k0 : α0 → Prop} {f0 : Field} {c0 : Nat} {e1 : α1 → List Value} {k1 : α1 → Prop} {f1 : Field} {c1 : Nat} {e2 : α2 → List Value} {k2 : α2 → Prop} {f2 : Field} {c2 : Nat} {e3 : α3 → List Value} {k3 : α3 → Prop} {f3 : Field} {c3 : Nat} {e4 : α4 → List Value} {k4 : α4 → Prop} {f4 : Field} {c4 : Nat} (ht : P.underlying t = some (.struct fs)) (hn : fs.size = 5) (hz : P.cellsOf t = 0 + c0 + c1 + c2 + c3 + c4) (O0 : Opens P f0.type e0 k0) (h0 : fs[0]? = some f0) (o0 : f0.offset = 0) (z0 : P.cellsOf f0.type = c0) (O1 : Opens P f1.type e1 k1) (h1 : fs[1]? = some f1) (o1 : f1.offset = 0 + c0) (z1 : P.cellsOf f1.type = c1) (O2 : Opens P f2.type e2 k2) (h2 : fs[2]? = some f2) (o2 : f2.offset = 0 + c0 + c1) (z2 : P.cellsOf f2.type = c2) (O3 : Opens P f3.type e3 k3) (h3 : fs[3]? = some f3) (o3 : f3.offset = 0 + c0 + c1 + c2) (z3 : P.cellsOf f3.type = c3) (O4 : Opens P f4.type e4 k4) (h4 : fs[4]? = some f4) (o4 : f4.offset = 0 + c0 + c1 + c2 + c3) (z4 : P.cellsOf f4.type = c4) :
    Opens P t (fun q : α0 × α1 × α2 × α3 × α4 => e0 q.1 ++ (e1 q.2.1 ++ (e2 q.2.2.1 ++ (e3 q.2.2.2.1 ++ (e4 q.2.2.2.2 ++ []))))) (fun q => k0 q.1 ∧ k1 q.2.1 ∧ k2 q.2.2.1 ∧ k3 q.2.2.2.1 ∧ k4 q.2.2.2.2) := fun h => by
  obtain ⟨xs, m, -, -, hl, hxn, hf⟩ := DataW.trod_struct ht h
  have g0 := hf 0 f0 h0
  rw [List.getElem?_eq_getElem (show 0 < xs.length by omega), z0, o0] at g0
  obtain ⟨a0, p0, w0⟩ := O0 g0
  have g1 := hf 1 f1 h1
  rw [List.getElem?_eq_getElem (show 1 < xs.length by omega), z1, o1] at g1
  obtain ⟨a1, p1, w1⟩ := O1 g1
  have g2 := hf 2 f2 h2
  rw [List.getElem?_eq_getElem (show 2 < xs.length by omega), z2, o2] at g2
  obtain ⟨a2, p2, w2⟩ := O2 g2
  have g3 := hf 3 f3 h3
  rw [List.getElem?_eq_getElem (show 3 < xs.length by omega), z3, o3] at g3
  obtain ⟨a3, p3, w3⟩ := O3 g3
  have g4 := hf 4 f4 h4
  rw [List.getElem?_eq_getElem (show 4 < xs.length by omega), z4, o4] at g4
  obtain ⟨a4, p4, w4⟩ := O4 g4
  refine ⟨⟨a0, a1, a2, a3, a4⟩, ?_, ⟨w0, w1, w2, w3, w4⟩⟩
  rename_i cs _
  have d0 : cs = cs.drop 0 := by simp
  have t0 := cut cs (0) c0
  rw [p0] at t0
  have t1 := cut cs (0 + c0) c1
  rw [p1] at t1
  have t2 := cut cs (0 + c0 + c1) c2
  rw [p2] at t2
  have t3 := cut cs (0 + c0 + c1 + c2) c3
  rw [p3] at t3
  have t4 := cut cs (0 + c0 + c1 + c2 + c3) c4
  rw [p4] at t4
  have te : cs.drop (0 + c0 + c1 + c2 + c3 + c4) = [] := List.drop_eq_nil_iff.2 (by omega)
  simp only
  rw [← te, ← t4, ← t3, ← t2, ← t1, ← t0]
  exact d0
theorem Opens.struct6 {α0 α1 α2 α3 α4 α5 : Type} {P : Program} {t : TypeId} {fs : Array Field} {e0 : α0 → List Value} {k0 : α0 → Prop} {f0 : Field} {c0 : Nat} {e1 : α1 → List Value} {k1 : α1 → Prop} {f1 : Field} {c1 : Nat} {e2 : α2 → List Value} {k2 : α2 → Prop} {f2 : Field} {c2 : Nat} {e3 : α3 → List Value} {k3 : α3 → Prop} {f3 : Field} {c3 : Nat} {e4 : α4 → List Value} {k4 : α4 → Prop} {f4 : Field} {c4 : Nat} {e5 : α5 → List Value} {k5 : α5 → Prop} {f5 : Field} {c5 : Nat} (ht : P.underlying t = some (.struct fs)) (hn : fs.size = 6) (hz : P.cellsOf t = 0 + c0 + c1 + c2 + c3 + c4 + c5) (O0 : Opens P f0.type e0 k0) (h0 : fs[0]? = some f0) (o0 : f0.offset = 0) (z0 : P.cellsOf f0.type = c0) (O1 : Opens P f1.type e1 k1) (h1 : fs[1]? = some f1) (o1 : f1.offset = 0 + c0) (z1 : P.cellsOf f1.type = c1) (O2 : Opens P f2.type e2 k2) (h2 : fs[2]? = some f2) (o2 : f2.offset = 0 + c0 + c1) (z2 : P.cellsOf f2.type = c2) (O3 : Opens P f3.type e3 k3) (h3 : fs[3]? = some f3) (o3 : f3.offset = 0 + c0 + c1 + c2) (z3 : P.cellsOf f3.type = c3) (O4 : Opens P f4.type e4 k4) (h4 : fs[4]? = some f4) (o4 : f4.offset = 0 + c0 + c1 + c2 + c3) (z4 : P.cellsOf f4.type = c4) (O5 : Opens P f5.type e5 k5) (h5 : fs[5]? = some f5) (o5 : f5.offset = 0 + c0 + c1 + c2 + c3 + c4) (z5 : P.cellsOf f5.type = c5) :
    Opens P t (fun q : α0 × α1 × α2 × α3 × α4 × α5 => e0 q.1 ++ (e1 q.2.1 ++ (e2 q.2.2.1 ++ (e3 q.2.2.2.1 ++ (e4 q.2.2.2.2.1 ++ (e5 q.2.2.2.2.2 ++ [])))))) (fun q => k0 q.1 ∧ k1 q.2.1 ∧ k2 q.2.2.1 ∧ k3 q.2.2.2.1 ∧ k4 q.2.2.2.2.1 ∧ k5 q.2.2.2.2.2) := fun h => by
  obtain ⟨xs, m, -, -, hl, hxn, hf⟩ := DataW.trod_struct ht h
  have g0 := hf 0 f0 h0
  rw [List.getElem?_eq_getElem (show 0 < xs.length by omega), z0, o0] at g0
  obtain ⟨a0, p0, w0⟩ := O0 g0
  have g1 := hf 1 f1 h1
  rw [List.getElem?_eq_getElem (show 1 < xs.length by omega), z1, o1] at g1
  obtain ⟨a1, p1, w1⟩ := O1 g1
  have g2 := hf 2 f2 h2
  rw [List.getElem?_eq_getElem (show 2 < xs.length by omega), z2, o2] at g2
  obtain ⟨a2, p2, w2⟩ := O2 g2
  have g3 := hf 3 f3 h3
  rw [List.getElem?_eq_getElem (show 3 < xs.length by omega), z3, o3] at g3
  obtain ⟨a3, p3, w3⟩ := O3 g3
  have g4 := hf 4 f4 h4
  rw [List.getElem?_eq_getElem (show 4 < xs.length by omega), z4, o4] at g4
  obtain ⟨a4, p4, w4⟩ := O4 g4
  have g5 := hf 5 f5 h5
  rw [List.getElem?_eq_getElem (show 5 < xs.length by omega), z5, o5] at g5
  obtain ⟨a5, p5, w5⟩ := O5 g5
  refine ⟨⟨a0, a1, a2, a3, a4, a5⟩, ?_, ⟨w0, w1, w2, w3, w4, w5⟩⟩
  rename_i cs _
  have d0 : cs = cs.drop 0 := by simp
  have t0 := cut cs (0) c0
  rw [p0] at t0
  have t1 := cut cs (0 + c0) c1
  rw [p1] at t1
  have t2 := cut cs (0 + c0 + c1) c2
  rw [p2] at t2
  have t3 := cut cs (0 + c0 + c1 + c2) c3
  rw [p3] at t3
  have t4 := cut cs (0 + c0 + c1 + c2 + c3) c4
  rw [p4] at t4
  have t5 := cut cs (0 + c0 + c1 + c2 + c3 + c4) c5
  rw [p5] at t5
  have te : cs.drop (0 + c0 + c1 + c2 + c3 + c4 + c5) = [] := List.drop_eq_nil_iff.2 (by omega)
  simp only
  rw [← te, ← t5, ← t4, ← t3, ← t2, ← t1, ← t0]
  exact d0
theorem Opens.struct7 {α0 α1 α2 α3 α4 α5 α6 : Type} {P : Program} {t : TypeId} {fs : Array Field} {e0 : α0 → List Value} {k0 : α0 → Prop} {f0 : Field} {c0 : Nat} {e1 : α1 → List Value} {k1 : α1 → Prop} {f1 : Field} {c1 : Nat} {e2 : α2 → List Value} {k2 : α2 → Prop} {f2 : Field} {c2 : Nat} {e3 : α3 → List Value} {k3 : α3 → Prop} {f3 : Field} {c3 : Nat} {e4 : α4 → List Value} {k4 : α4 → Prop} {f4 : Field} {c4 : Nat} {e5 : α5 → List Value} {k5 : α5 → Prop} {f5 : Field} {c5 : Nat} {e6 : α6 → List Value} {k6 : α6 → Prop} {f6 : Field} {c6 : Nat} (ht : P.underlying t = some (.struct fs)) (hn : fs.size = 7) (hz : P.cellsOf t = 0 + c0 + c1 + c2 + c3 + c4 + c5 + c6) (O0 : Opens P f0.type e0 k0) (h0 : fs[0]? = some f0) (o0 : f0.offset = 0) (z0 : P.cellsOf f0.type = c0) (O1 : Opens P f1.type e1 k1) (h1 : fs[1]? = some f1) (o1 : f1.offset = 0 + c0) (z1 : P.cellsOf f1.type = c1) (O2 : Opens P f2.type e2 k2) (h2 : fs[2]? = some f2) (o2 : f2.offset = 0 + c0 + c1) (z2 : P.cellsOf f2.type = c2) (O3 : Opens P f3.type e3 k3) (h3 : fs[3]? = some f3) (o3 : f3.offset = 0 + c0 + c1 + c2) (z3 : P.cellsOf f3.type = c3) (O4 : Opens P f4.type e4 k4) (h4 : fs[4]? = some f4) (o4 : f4.offset = 0 + c0 + c1 + c2 + c3) (z4 : P.cellsOf f4.type = c4) (O5 : Opens P f5.type e5 k5) (h5 : fs[5]? = some f5) (o5 : f5.offset = 0 + c0 + c1 + c2 + c3 + c4) (z5 : P.cellsOf f5.type = c5) (O6 : Opens P f6.type e6 k6) (h6 : fs[6]? = some f6) (o6 : f6.offset = 0 + c0 + c1 + c2 + c3 + c4 + c5) (z6 : P.cellsOf f6.type = c6) :
    Opens P t (fun q : α0 × α1 × α2 × α3 × α4 × α5 × α6 => e0 q.1 ++ (e1 q.2.1 ++ (e2 q.2.2.1 ++ (e3 q.2.2.2.1 ++ (e4 q.2.2.2.2.1 ++ (e5 q.2.2.2.2.2.1 ++ (e6 q.2.2.2.2.2.2 ++ []))))))) (fun q => k0 q.1 ∧ k1 q.2.1 ∧ k2 q.2.2.1 ∧ k3 q.2.2.2.1 ∧ k4 q.2.2.2.2.1 ∧ k5 q.2.2.2.2.2.1 ∧ k6 q.2.2.2.2.2.2) := fun h => by
  obtain ⟨xs, m, -, -, hl, hxn, hf⟩ := DataW.trod_struct ht h
  have g0 := hf 0 f0 h0
  rw [List.getElem?_eq_getElem (show 0 < xs.length by omega), z0, o0] at g0
  obtain ⟨a0, p0, w0⟩ := O0 g0
  have g1 := hf 1 f1 h1
  rw [List.getElem?_eq_getElem (show 1 < xs.length by omega), z1, o1] at g1
  obtain ⟨a1, p1, w1⟩ := O1 g1
  have g2 := hf 2 f2 h2
  rw [List.getElem?_eq_getElem (show 2 < xs.length by omega), z2, o2] at g2
  obtain ⟨a2, p2, w2⟩ := O2 g2
  have g3 := hf 3 f3 h3
  rw [List.getElem?_eq_getElem (show 3 < xs.length by omega), z3, o3] at g3
  obtain ⟨a3, p3, w3⟩ := O3 g3
  have g4 := hf 4 f4 h4
  rw [List.getElem?_eq_getElem (show 4 < xs.length by omega), z4, o4] at g4
  obtain ⟨a4, p4, w4⟩ := O4 g4
  have g5 := hf 5 f5 h5
  rw [List.getElem?_eq_getElem (show 5 < xs.length by omega), z5, o5] at g5
  obtain ⟨a5, p5, w5⟩ := O5 g5
  have g6 := hf 6 f6 h6
  rw [List.getElem?_eq_getElem (show 6 < xs.length by omega), z6, o6] at g6
  obtain ⟨a6, p6, w6⟩ := O6 g6
  refine ⟨⟨a0, a1, a2, a3, a4, a5, a6⟩, ?_, ⟨w0, w1, w2, w3, w4, w5, w6⟩⟩
  rename_i cs _
  have d0 : cs = cs.drop 0 := by simp
  have t0 := cut cs (0) c0
  rw [p0] at t0
  have t1 := cut cs (0 + c0) c1
  rw [p1] at t1
  have t2 := cut cs (0 + c0 + c1) c2
  rw [p2] at t2
  have t3 := cut cs (0 + c0 + c1 + c2) c3
  rw [p3] at t3
  have t4 := cut cs (0 + c0 + c1 + c2 + c3) c4
  rw [p4] at t4
  have t5 := cut cs (0 + c0 + c1 + c2 + c3 + c4) c5
  rw [p5] at t5
  have t6 := cut cs (0 + c0 + c1 + c2 + c3 + c4 + c5) c6
  rw [p6] at t6
  have te : cs.drop (0 + c0 + c1 + c2 + c3 + c4 + c5 + c6) = [] := List.drop_eq_nil_iff.2 (by omega)
  simp only
  rw [← te, ← t6, ← t5, ← t4, ← t3, ← t2, ← t1, ← t0]
  exact d0
theorem Opens.struct8 {α0 α1 α2 α3 α4 α5 α6 α7 : Type} {P : Program} {t : TypeId} {fs : Array Field} {e0 : α0 → List Value} {k0 : α0 → Prop} {f0 : Field} {c0 : Nat} {e1 : α1 → List Value} {k1 : α1 → Prop} {f1 : Field} {c1 : Nat} {e2 : α2 → List Value} {k2 : α2 → Prop} {f2 : Field} {c2 : Nat} {e3 : α3 → List Value} {k3 : α3 → Prop} {f3 : Field} {c3 : Nat} {e4 : α4 → List Value} {k4 : α4 → Prop} {f4 : Field} {c4 : Nat} {e5 : α5 → List Value} {k5 : α5 → Prop} {f5 : Field} {c5 : Nat} {e6 : α6 → List Value} {k6 : α6 → Prop} {f6 : Field} {c6 : Nat} {e7 : α7 → List Value} {k7 : α7 → Prop} {f7 : Field} {c7 : Nat} (ht : P.underlying t = some (.struct fs)) (hn : fs.size = 8) (hz : P.cellsOf t = 0 + c0 + c1 + c2 + c3 + c4 + c5 + c6 + c7) (O0 : Opens P f0.type e0 k0) (h0 : fs[0]? = some f0) (o0 : f0.offset = 0) (z0 : P.cellsOf f0.type = c0) (O1 : Opens P f1.type e1 k1) (h1 : fs[1]? = some f1) (o1 : f1.offset = 0 + c0) (z1 : P.cellsOf f1.type = c1) (O2 : Opens P f2.type e2 k2) (h2 : fs[2]? = some f2) (o2 : f2.offset = 0 + c0 + c1) (z2 : P.cellsOf f2.type = c2) (O3 : Opens P f3.type e3 k3) (h3 : fs[3]? = some f3) (o3 : f3.offset = 0 + c0 + c1 + c2) (z3 : P.cellsOf f3.type = c3) (O4 : Opens P f4.type e4 k4) (h4 : fs[4]? = some f4) (o4 : f4.offset = 0 + c0 + c1 + c2 + c3) (z4 : P.cellsOf f4.type = c4) (O5 : Opens P f5.type e5 k5) (h5 : fs[5]? = some f5) (o5 : f5.offset = 0 + c0 + c1 + c2 + c3 + c4) (z5 : P.cellsOf f5.type = c5) (O6 : Opens P f6.type e6 k6) (h6 : fs[6]? = some f6) (o6 : f6.offset = 0 + c0 + c1 + c2 + c3 + c4 + c5) (z6 : P.cellsOf f6.type = c6) (O7 : Opens P f7.type e7 k7) (h7 : fs[7]? = some f7) (o7 : f7.offset = 0 + c0 + c1 + c2 + c3 + c4 + c5 + c6) (z7 : P.cellsOf f7.type = c7) :
    Opens P t (fun q : α0 × α1 × α2 × α3 × α4 × α5 × α6 × α7 => e0 q.1 ++ (e1 q.2.1 ++ (e2 q.2.2.1 ++ (e3 q.2.2.2.1 ++ (e4 q.2.2.2.2.1 ++ (e5 q.2.2.2.2.2.1 ++ (e6 q.2.2.2.2.2.2.1 ++ (e7 q.2.2.2.2.2.2.2 ++ [])))))))) (fun q => k0 q.1 ∧ k1 q.2.1 ∧ k2 q.2.2.1 ∧ k3 q.2.2.2.1 ∧ k4 q.2.2.2.2.1 ∧ k5 q.2.2.2.2.2.1 ∧ k6 q.2.2.2.2.2.2.1 ∧ k7 q.2.2.2.2.2.2.2) := fun h => by
  obtain ⟨xs, m, -, -, hl, hxn, hf⟩ := DataW.trod_struct ht h
  have g0 := hf 0 f0 h0
  rw [List.getElem?_eq_getElem (show 0 < xs.length by omega), z0, o0] at g0
  obtain ⟨a0, p0, w0⟩ := O0 g0
  have g1 := hf 1 f1 h1
  rw [List.getElem?_eq_getElem (show 1 < xs.length by omega), z1, o1] at g1
  obtain ⟨a1, p1, w1⟩ := O1 g1
  have g2 := hf 2 f2 h2
  rw [List.getElem?_eq_getElem (show 2 < xs.length by omega), z2, o2] at g2
  obtain ⟨a2, p2, w2⟩ := O2 g2
  have g3 := hf 3 f3 h3
  rw [List.getElem?_eq_getElem (show 3 < xs.length by omega), z3, o3] at g3
  obtain ⟨a3, p3, w3⟩ := O3 g3
  have g4 := hf 4 f4 h4
  rw [List.getElem?_eq_getElem (show 4 < xs.length by omega), z4, o4] at g4
  obtain ⟨a4, p4, w4⟩ := O4 g4
  have g5 := hf 5 f5 h5
  rw [List.getElem?_eq_getElem (show 5 < xs.length by omega), z5, o5] at g5
  obtain ⟨a5, p5, w5⟩ := O5 g5
  have g6 := hf 6 f6 h6
  rw [List.getElem?_eq_getElem (show 6 < xs.length by omega), z6, o6] at g6
  obtain ⟨a6, p6, w6⟩ := O6 g6
  have g7 := hf 7 f7 h7
  rw [List.getElem?_eq_getElem (show 7 < xs.length by omega), z7, o7] at g7
  obtain ⟨a7, p7, w7⟩ := O7 g7
  refine ⟨⟨a0, a1, a2, a3, a4, a5, a6, a7⟩, ?_, ⟨w0, w1, w2, w3, w4, w5, w6, w7⟩⟩
  rename_i cs _
  have d0 : cs = cs.drop 0 := by simp
  have t0 := cut cs (0) c0
  rw [p0] at t0
  have t1 := cut cs (0 + c0) c1
  rw [p1] at t1
  have t2 := cut cs (0 + c0 + c1) c2
  rw [p2] at t2
  have t3 := cut cs (0 + c0 + c1 + c2) c3
  rw [p3] at t3
  have t4 := cut cs (0 + c0 + c1 + c2 + c3) c4
  rw [p4] at t4
  have t5 := cut cs (0 + c0 + c1 + c2 + c3 + c4) c5
  rw [p5] at t5
  have t6 := cut cs (0 + c0 + c1 + c2 + c3 + c4 + c5) c6
  rw [p6] at t6
  have t7 := cut cs (0 + c0 + c1 + c2 + c3 + c4 + c5 + c6) c7
  rw [p7] at t7
  have te : cs.drop (0 + c0 + c1 + c2 + c3 + c4 + c5 + c6 + c7) = [] := List.drop_eq_nil_iff.2 (by omega)
  simp only
  rw [← te, ← t7, ← t6, ← t5, ← t4, ← t3, ← t2, ← t1, ← t0]
  exact d0
theorem arr16_opens {P : Program} {t e : TypeId} (ht : P.underlying t = some (.array 16 e)) (hz : P.cellsOf t = 16) (he : P.cellsOf e = 1) (O : Opens P e (fun b : UInt8 => [u8 b]) (fun _ => True)) : Opens P t encB (fun _ => True) := fun h => by
  obtain ⟨xs, m, -, -, hl, hxn, hf⟩ := DataW.trod_array ht h
  rename_i cs _
  have hp : ∀ i, i < 16 → ∃ b : UInt8, (cs.drop i).take 1 = [u8 b] := fun i hi => by
    have g := hf i hi
    rw [List.getElem?_eq_getElem (show i < xs.length by omega), he, Nat.mul_one] at g
    obtain ⟨b, hb, -⟩ := O g
    exact ⟨b, hb⟩
  obtain ⟨b0, p0⟩ := hp 0 (by decide)
  obtain ⟨b1, p1⟩ := hp 1 (by decide)
  obtain ⟨b2, p2⟩ := hp 2 (by decide)
  obtain ⟨b3, p3⟩ := hp 3 (by decide)
  obtain ⟨b4, p4⟩ := hp 4 (by decide)
  obtain ⟨b5, p5⟩ := hp 5 (by decide)
  obtain ⟨b6, p6⟩ := hp 6 (by decide)
  obtain ⟨b7, p7⟩ := hp 7 (by decide)
  obtain ⟨b8, p8⟩ := hp 8 (by decide)
  obtain ⟨b9, p9⟩ := hp 9 (by decide)
  obtain ⟨b10, p10⟩ := hp 10 (by decide)
  obtain ⟨b11, p11⟩ := hp 11 (by decide)
  obtain ⟨b12, p12⟩ := hp 12 (by decide)
  obtain ⟨b13, p13⟩ := hp 13 (by decide)
  obtain ⟨b14, p14⟩ := hp 14 (by decide)
  obtain ⟨b15, p15⟩ := hp 15 (by decide)
  refine ⟨⟨b0, b1, b2, b3, b4, b5, b6, b7, b8, b9, b10, b11, b12, b13, b14, b15⟩, ?_, trivial⟩
  have t0 := cut cs 0 1
  rw [p0] at t0
  have t1 := cut cs 1 1
  rw [p1] at t1
  have t2 := cut cs 2 1
  rw [p2] at t2
  have t3 := cut cs 3 1
  rw [p3] at t3
  have t4 := cut cs 4 1
  rw [p4] at t4
  have t5 := cut cs 5 1
  rw [p5] at t5
  have t6 := cut cs 6 1
  rw [p6] at t6
  have t7 := cut cs 7 1
  rw [p7] at t7
  have t8 := cut cs 8 1
  rw [p8] at t8
  have t9 := cut cs 9 1
  rw [p9] at t9
  have t10 := cut cs 10 1
  rw [p10] at t10
  have t11 := cut cs 11 1
  rw [p11] at t11
  have t12 := cut cs 12 1
  rw [p12] at t12
  have t13 := cut cs 13 1
  rw [p13] at t13
  have t14 := cut cs 14 1
  rw [p14] at t14
  have t15 := cut cs 15 1
  rw [p15] at t15
  have te : cs.drop 16 = [] := List.drop_eq_nil_iff.2 (by omega)
  have d0 : cs = cs.drop 0 := by simp
  rw [d0, t0, t1, t2, t3, t4, t5, t6, t7, t8, t9, t10, t11, t12, t13, t14, t15, te]; rfl
end Go.Eng
