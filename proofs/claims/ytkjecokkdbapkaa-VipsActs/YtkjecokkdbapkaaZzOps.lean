import Derived.Test.YtkjecokkdbapkaaZzEng
namespace Go.Eng
set_option linter.all false
open Go Go.RowKit

/-! ## Memory -/
/-- Block b holds these cells, and may be written. -/
def Blk (w : World) (b : Nat) (cs : List Value) : Prop := ∃ T, w.heap[b]? = some (.cells cs.toArray T (0, 0))
theorem Blk.lt {w : World} {b : Nat} {cs : List Value} (h : Blk w b cs) : b < w.heap.size := by
  obtain ⟨T, h⟩ := h; exact (Array.getElem?_eq_some_iff.1 h).1
theorem Blk.cell {w : World} {b off : Nat} {cs : List Value} (h : Blk w b cs) : w.cell? ⟨b, off, none⟩ = cs[off]? := by
  obtain ⟨T, h⟩ := h; simp [World.cell?, h]
theorem Blk.frozen {w : World} {b off : Nat} {cs : List Value} (h : Blk w b cs) : w.frozen? ⟨b, off, none⟩ = false := by
  obtain ⟨T, h⟩ := h; simp [World.frozen?, h]
/-- Block b holds these cells; of it may be that it is frozen. -/
def BlkR (w : World) (b : Nat) (cs : List Value) : Prop := ∃ T z, w.heap[b]? = some (.cells cs.toArray T z)
theorem Blk.r {w : World} {b : Nat} {cs : List Value} (h : Blk w b cs) : BlkR w b cs := by obtain ⟨T, h⟩ := h; exact ⟨T, _, h⟩
theorem BlkR.r {w : World} {b : Nat} {cs : List Value} (h : BlkR w b cs) : BlkR w b cs := h
theorem BlkR.lt {w : World} {b : Nat} {cs : List Value} (h : BlkR w b cs) : b < w.heap.size := by
  obtain ⟨T, z, h⟩ := h; exact (Array.getElem?_eq_some_iff.1 h).1
theorem BlkR.cell {w : World} {b off : Nat} {cs : List Value} (h : BlkR w b cs) : w.cell? ⟨b, off, none⟩ = cs[off]? := by
  obtain ⟨T, z, h⟩ := h; simp [World.cell?, h]
theorem Blk.inj {w : World} {b : Nat} {cs cs' : List Value} (h : Blk w b cs) (h' : Blk w b cs') : cs = cs' := by
  obtain ⟨T, h⟩ := h; obtain ⟨T', h'⟩ := h'
  rw [h] at h'; simp at h'; exact h'.1

/-- Nothing that was there has turned. -/
abbrev Ext (w w' : World) : Prop := Below w.heap.size w w'
theorem Ext.rfl' (w : World) : Ext w w := Below.refl _ _
theorem Ext.tr {a b c : World} (h : Ext a b) (k : Ext b c) : Ext a c := h.trans (k.mono h.size)
theorem Ext.blk {w w' : World} {b : Nat} {cs : List Value} (h : Ext w w') (hb : Blk w b cs) : Blk w' b cs := by
  have := hb.lt
  obtain ⟨T, hb⟩ := hb; exact ⟨T, (h.block b this).trans hb⟩
theorem Ext.blkR {w w' : World} {b : Nat} {cs : List Value} (h : Ext w w') (hb : BlkR w b cs) : BlkR w' b cs := by
  have := hb.lt
  obtain ⟨T, z, hb⟩ := hb; exact ⟨T, z, (h.block b this).trans hb⟩
theorem Ext.drew {w w' : World} (h : Ext w w') : Ext w w'.drew := Below.drew h
theorem Ext.dr (w : World) : Ext w w.drew := (Below.refl _ w).drew

/-- What has turned lies in S. -/
structure Upd (S : Nat → Prop) (w w' : World) : Prop where
  os : w'.os = w.os
  tape : w'.tape = w.tape
  output : w'.output = w.output
  size : w.heap.size ≤ w'.heap.size
  block : ∀ k, k < w.heap.size → ¬ S k → w'.heap[k]? = w.heap[k]?
theorem Upd.rfl' (S : Nat → Prop) (w : World) : Upd S w w := ⟨rfl, rfl, rfl, Nat.le_refl _, fun _ _ _ => rfl⟩
theorem Ext.upd {w w' : World} (h : Ext w w') (S : Nat → Prop) : Upd S w w' := ⟨h.os, h.tape, h.output, h.size, fun k hk _ => h.block k hk⟩
theorem Upd.ext {S : Nat → Prop} {w w' : World} (h : Upd S w w') (hS : ∀ k, k < w.heap.size → ¬ S k) : Ext w w' := ⟨h.os, h.tape, h.output, h.size, fun k hk => h.block k hk (hS k hk)⟩
theorem Upd.tr {S : Nat → Prop} {a b c : World} (h : Upd S a b) (k : Upd S b c) : Upd S a c :=
  ⟨k.os.trans h.os, k.tape.trans h.tape, k.output.trans h.output, Nat.le_trans h.size k.size, fun i hi hs => (k.block i (Nat.lt_of_lt_of_le hi h.size) hs).trans (h.block i hi hs)⟩
theorem Upd.mono {S S' : Nat → Prop} {a b : World} (h : Upd S a b) (hS : ∀ k, k < a.heap.size → S k → S' k) : Upd S' a b :=
  ⟨h.os, h.tape, h.output, h.size, fun i hi hs => h.block i hi (fun h' => hs (hS i hi h'))⟩
/-- What turns in the second step may be new since the first. -/
theorem Upd.tr' {S S' : Nat → Prop} {a b c : World} (h : Upd S a b) (k : Upd S' b c) (hS : ∀ k, k < a.heap.size → S' k → S k) : Upd S a c :=
  ⟨k.os.trans h.os, k.tape.trans h.tape, k.output.trans h.output, Nat.le_trans h.size k.size,
    fun i hi hs => (k.block i (Nat.lt_of_lt_of_le hi h.size) (fun h' => hs (hS i hi h'))).trans (h.block i hi hs)⟩
theorem Upd.blk {S : Nat → Prop} {w w' : World} {b : Nat} {cs : List Value} (h : Upd S w w') (hS : ¬ S b) (hb : Blk w b cs) : Blk w' b cs := by
  have := hb.lt
  obtain ⟨T, hb⟩ := hb; exact ⟨T, (h.block b this hS).trans hb⟩
theorem Upd.blkR {S : Nat → Prop} {w w' : World} {b : Nat} {cs : List Value} (h : Upd S w w') (hS : ¬ S b) (hb : BlkR w b cs) : BlkR w' b cs := by
  have := hb.lt
  obtain ⟨T, z, hb⟩ := hb; exact ⟨T, z, (h.block b this hS).trans hb⟩
theorem Upd.drew {S : Nat → Prop} {w w' : World} (h : Upd S w w') : Upd S w w'.drew := ⟨h.os, h.tape, h.output, h.size, h.block⟩

/-- A type of one cell. -/
def Sca (P : Program) (t : TypeId) : Prop := (∀ w, (isAgg t).run P w = .ok false w) ∧ ∀ w, (sizeOf t).run P w = .ok 1 w
/-- A struct's or array's type of n cells. -/
def Agg (P : Program) (t : TypeId) (n : Nat) : Prop := (∀ w, (isAgg t).run P w = .ok true w) ∧ ∀ w, (sizeOf t).run P w = .ok n w

theorem add_at (b off i : Nat) : (⟨b, off, none⟩ : Addr).add i = ⟨b, off + i, none⟩ := by
  unfold Addr.add; split <;> simp_all

theorem run_loadCellsFrom {P : Program} {w : World} {b off : Nat} {cs : List Value} (hb : BlkR w b cs) : ∀ (n i : Nat) (acc : Array Value), off + i + n ≤ cs.length →
    (loadCellsFrom ⟨b, off, none⟩ i n acc).run P w = .ok (acc ++ ((cs.drop (off + i)).take n).toArray) w
  | 0, i, acc, _ => by simp [loadCellsFrom]
  | n + 1, i, acc, h => by
    have hlt : off + i < cs.length := by omega
    have hc : w.cell? (Addr.add ⟨b, off, none⟩ i) = some cs[off + i] := by rw [add_at, hb.cell, List.getElem?_eq_getElem hlt]
    have hd : cs.drop (off + i) = cs[off + i] :: cs.drop (off + i + 1) := List.drop_eq_getElem_cons hlt
    simp only [loadCellsFrom, Sem.run_bind, run_load, hc, Result.andThen_ok]
    rw [run_loadCellsFrom hb n (i + 1) _ (by omega), hd, List.take_succ_cons]
    simp [Nat.add_assoc]

theorem run_loadVar_sca {P : Program} {w : World} {b off : Nat} {cs : List Value} {t : TypeId} {v : Value} (ht : Sca P t) (hb : BlkR w b cs) (hv : cs[off]? = some v) :
    (loadVar t ⟨b, off, none⟩).run P w = .ok v w := by
  have hc : w.cell? ⟨b, off, none⟩ = some v := by rw [hb.cell, hv]
  simp [loadVar, ht.1 w, hc]

theorem run_loadVar_agg {P : Program} {w : World} {b off n : Nat} {cs vs : List Value} {t : TypeId} (ht : Agg P t n) (hb : BlkR w b cs) (hv : (cs.drop off).take n = vs) (hn : vs.length = n) :
    (loadVar t ⟨b, off, none⟩).run P w = .ok (.agg vs.toArray) w := by
  subst hv
  have hl : off + n ≤ cs.length ∨ n = 0 := by simp at hn; omega
  have : (loadCells ⟨b, off, none⟩ n).run P w = .ok ((cs.drop off).take n).toArray w := by
    rcases hl with hl | rfl
    · have := run_loadCellsFrom (P := P) (off := off) hb n 0 #[] (by omega)
      simpa [loadCells] using this
    · simp [loadCells, loadCellsFrom]
  simp [loadVar, ht.1 w, ht.2 w, this]

/-! ## What an operation yields, the world unturned -/
abbrev Run (P : Program) (ρ : Env) (o : Oper) (w : World) (v : Value) : Prop := (execOp (ev ρ) o).run P w = .ok (.value v) w

section
variable {P : Program} {ρ : Env} {w : World} {d : Option Nat} {ty : TypeId} {pos : String} {af : Array Edge} {g : Option (Nat × Bool)}

theorem R.move {x : Operand} : Run P ρ ⟨d, .move x, ty, pos, af, g⟩ w (ev ρ x) := by simp [Run, execOp]
theorem R.mv {x : Operand} {v : Value} (hx : ev ρ x = v) : Run P ρ ⟨d, .move x, ty, pos, af, g⟩ w v := by simp [Run, execOp, hx]
theorem R.asg {x : Operand} {v : Value} (hx : ev ρ x = v) : Run P ρ ⟨d, .assign x, ty, pos, af, g⟩ w v := by simp [Run, execOp, hx]
theorem R.pkT {c a b : Operand} {v : Value} (hc : ev ρ c = .bool true) (ha : ev ρ a = v) : Run P ρ ⟨d, .pick c a b, ty, pos, af, g⟩ w v := by simp [Run, execOp, hc, asBool, ha]
theorem R.pkF {c a b : Operand} {v : Value} (hc : ev ρ c = .bool false) (hb : ev ρ b = v) : Run P ρ ⟨d, .pick c a b, ty, pos, af, g⟩ w v := by simp [Run, execOp, hc, asBool, hb]
theorem R.assign {x : Operand} : Run P ρ ⟨d, .assign x, ty, pos, af, g⟩ w (ev ρ x) := by simp [Run, execOp]
theorem R.pick {c a b : Operand} (t : Bool) (hc : ev ρ c = .bool t) : Run P ρ ⟨d, .pick c a b, ty, pos, af, g⟩ w (bif t then ev ρ a else ev ρ b) := by
  cases t <;> simp [Run, execOp, hc, asBool]
theorem R.add {k : IntKind} {m n : Int} {x y : Operand} {t u : TypeId} (hx : ev ρ x = .int k m) (hy : ev ρ y = .int k n) : Run P ρ ⟨d, .binOp .add t x y u, ty, pos, af, g⟩ w (.int k (k.wrap (m + n))) := by
  simp [Run, execOp, hx, hy, eqGuard, binOp, Op.intArith]
theorem R.sub {k : IntKind} {m n : Int} {x y : Operand} {t u : TypeId} (hx : ev ρ x = .int k m) (hy : ev ρ y = .int k n) : Run P ρ ⟨d, .binOp .sub t x y u, ty, pos, af, g⟩ w (.int k (k.wrap (m - n))) := by
  simp [Run, execOp, hx, hy, eqGuard, binOp, Op.intArith]
theorem R.mul {k : IntKind} {m n : Int} {x y : Operand} {t u : TypeId} (hx : ev ρ x = .int k m) (hy : ev ρ y = .int k n) : Run P ρ ⟨d, .binOp .mul t x y u, ty, pos, af, g⟩ w (.int k (k.wrap (m * n))) := by
  simp [Run, execOp, hx, hy, eqGuard, binOp, Op.intArith]
theorem wrap64_in {x : Int} (h : -9223372036854775808 ≤ x ∧ x ≤ 9223372036854775807) : IntKind.i64.wrap x = x := IntWalk.i64_in x (by omega)
theorem R.addI {m n : Int} {x y : Operand} {t u : TypeId} (hx : ev ρ x = .int .i64 m) (hy : ev ρ y = .int .i64 n) (h : -9223372036854775808 ≤ m + n ∧ m + n ≤ 9223372036854775807) :
    Run P ρ ⟨d, .binOp .add t x y u, ty, pos, af, g⟩ w (.int .i64 (m + n)) := by
  have := R.add (P := P) (w := w) (d := d) (ty := ty) (pos := pos) (af := af) (g := g) (t := t) (u := u) hx hy
  rwa [wrap64_in h] at this
theorem R.subI {m n : Int} {x y : Operand} {t u : TypeId} (hx : ev ρ x = .int .i64 m) (hy : ev ρ y = .int .i64 n) (h : -9223372036854775808 ≤ m - n ∧ m - n ≤ 9223372036854775807) :
    Run P ρ ⟨d, .binOp .sub t x y u, ty, pos, af, g⟩ w (.int .i64 (m - n)) := by
  have := R.sub (P := P) (w := w) (d := d) (ty := ty) (pos := pos) (af := af) (g := g) (t := t) (u := u) hx hy
  rwa [wrap64_in h] at this
theorem R.mulI {m n : Int} {x y : Operand} {t u : TypeId} (hx : ev ρ x = .int .i64 m) (hy : ev ρ y = .int .i64 n) (h : -9223372036854775808 ≤ m * n ∧ m * n ≤ 9223372036854775807) :
    Run P ρ ⟨d, .binOp .mul t x y u, ty, pos, af, g⟩ w (.int .i64 (m * n)) := by
  have := R.mul (P := P) (w := w) (d := d) (ty := ty) (pos := pos) (af := af) (g := g) (t := t) (u := u) hx hy
  rwa [wrap64_in h] at this
theorem R.rem {k : IntKind} {m n : Int} {x y : Operand} {t u : TypeId} (hx : ev ρ x = .int k m) (hy : ev ρ y = .int k n) (h : n ≠ 0) : Run P ρ ⟨d, .binOp .rem t x y u, ty, pos, af, g⟩ w (.int k (m.tmod n)) := by
  simp [Run, execOp, hx, hy, eqGuard, binOp, Op.intDiv, h]
theorem R.quo {k : IntKind} {m n : Int} {x y : Operand} {t u : TypeId} (hx : ev ρ x = .int k m) (hy : ev ρ y = .int k n) (h : n ≠ 0) : Run P ρ ⟨d, .binOp .quo t x y u, ty, pos, af, g⟩ w (.int k (k.wrap (m.tdiv n))) := by
  simp [Run, execOp, hx, hy, eqGuard, binOp, Op.intDiv, h]
theorem R.lss {k : IntKind} {m n : Int} {x y : Operand} {t u : TypeId} (hx : ev ρ x = .int k m) (hy : ev ρ y = .int k n) : Run P ρ ⟨d, .binOp .lss t x y u, ty, pos, af, g⟩ w (.bool (decide (m < n))) := by
  simp [Run, execOp, hx, hy, eqGuard, binOp, Op.intCmp]
theorem R.leq {k : IntKind} {m n : Int} {x y : Operand} {t u : TypeId} (hx : ev ρ x = .int k m) (hy : ev ρ y = .int k n) : Run P ρ ⟨d, .binOp .leq t x y u, ty, pos, af, g⟩ w (.bool (decide (m ≤ n))) := by
  simp [Run, execOp, hx, hy, eqGuard, binOp, Op.intCmp]
theorem R.gtr {k : IntKind} {m n : Int} {x y : Operand} {t u : TypeId} (hx : ev ρ x = .int k m) (hy : ev ρ y = .int k n) : Run P ρ ⟨d, .binOp .gtr t x y u, ty, pos, af, g⟩ w (.bool (decide (n < m))) := by
  simp [Run, execOp, hx, hy, eqGuard, binOp, Op.intCmp]
theorem R.geq {k : IntKind} {m n : Int} {x y : Operand} {t u : TypeId} (hx : ev ρ x = .int k m) (hy : ev ρ y = .int k n) : Run P ρ ⟨d, .binOp .geq t x y u, ty, pos, af, g⟩ w (.bool (decide (n ≤ m))) := by
  simp [Run, execOp, hx, hy, eqGuard, binOp, Op.intCmp]
theorem R.eql {k : IntKind} {m n : Int} {x y : Operand} {t u : TypeId} (hx : ev ρ x = .int k m) (hy : ev ρ y = .int k n) : Run P ρ ⟨d, .binOp .eql t x y u, ty, pos, af, g⟩ w (.bool (m == n)) := by
  simp [Run, execOp, hx, hy, eqGuard, binOp, Op.intCmp]
theorem R.neq {k : IntKind} {m n : Int} {x y : Operand} {t u : TypeId} (hx : ev ρ x = .int k m) (hy : ev ρ y = .int k n) : Run P ρ ⟨d, .binOp .neq t x y u, ty, pos, af, g⟩ w (.bool (m != n)) := by
  simp [Run, execOp, hx, hy, eqGuard, binOp, Op.intCmp]
theorem R.lssT {k : IntKind} {m n : Int} {x y : Operand} {t u : TypeId} (hx : ev ρ x = .int k m) (hy : ev ρ y = .int k n) (h : m < n) : Run P ρ ⟨d, .binOp .lss t x y u, ty, pos, af, g⟩ w (.bool true) := by
  have := R.lss (P := P) (w := w) (d := d) (ty := ty) (pos := pos) (af := af) (g := g) (t := t) (u := u) hx hy
  rwa [decide_eq_true h] at this
theorem R.lssF {k : IntKind} {m n : Int} {x y : Operand} {t u : TypeId} (hx : ev ρ x = .int k m) (hy : ev ρ y = .int k n) (h : ¬ m < n) : Run P ρ ⟨d, .binOp .lss t x y u, ty, pos, af, g⟩ w (.bool false) := by
  have := R.lss (P := P) (w := w) (d := d) (ty := ty) (pos := pos) (af := af) (g := g) (t := t) (u := u) hx hy
  rwa [decide_eq_false h] at this
theorem R.leqT {k : IntKind} {m n : Int} {x y : Operand} {t u : TypeId} (hx : ev ρ x = .int k m) (hy : ev ρ y = .int k n) (h : m ≤ n) : Run P ρ ⟨d, .binOp .leq t x y u, ty, pos, af, g⟩ w (.bool true) := by
  have := R.leq (P := P) (w := w) (d := d) (ty := ty) (pos := pos) (af := af) (g := g) (t := t) (u := u) hx hy
  rwa [decide_eq_true h] at this
theorem R.leqF {k : IntKind} {m n : Int} {x y : Operand} {t u : TypeId} (hx : ev ρ x = .int k m) (hy : ev ρ y = .int k n) (h : ¬ m ≤ n) : Run P ρ ⟨d, .binOp .leq t x y u, ty, pos, af, g⟩ w (.bool false) := by
  have := R.leq (P := P) (w := w) (d := d) (ty := ty) (pos := pos) (af := af) (g := g) (t := t) (u := u) hx hy
  rwa [decide_eq_false h] at this
theorem R.gtrT {k : IntKind} {m n : Int} {x y : Operand} {t u : TypeId} (hx : ev ρ x = .int k m) (hy : ev ρ y = .int k n) (h : n < m) : Run P ρ ⟨d, .binOp .gtr t x y u, ty, pos, af, g⟩ w (.bool true) := by
  have := R.gtr (P := P) (w := w) (d := d) (ty := ty) (pos := pos) (af := af) (g := g) (t := t) (u := u) hx hy
  rwa [decide_eq_true h] at this
theorem R.gtrF {k : IntKind} {m n : Int} {x y : Operand} {t u : TypeId} (hx : ev ρ x = .int k m) (hy : ev ρ y = .int k n) (h : ¬ n < m) : Run P ρ ⟨d, .binOp .gtr t x y u, ty, pos, af, g⟩ w (.bool false) := by
  have := R.gtr (P := P) (w := w) (d := d) (ty := ty) (pos := pos) (af := af) (g := g) (t := t) (u := u) hx hy
  rwa [decide_eq_false h] at this
theorem R.geqT {k : IntKind} {m n : Int} {x y : Operand} {t u : TypeId} (hx : ev ρ x = .int k m) (hy : ev ρ y = .int k n) (h : n ≤ m) : Run P ρ ⟨d, .binOp .geq t x y u, ty, pos, af, g⟩ w (.bool true) := by
  have := R.geq (P := P) (w := w) (d := d) (ty := ty) (pos := pos) (af := af) (g := g) (t := t) (u := u) hx hy
  rwa [decide_eq_true h] at this
theorem R.geqF {k : IntKind} {m n : Int} {x y : Operand} {t u : TypeId} (hx : ev ρ x = .int k m) (hy : ev ρ y = .int k n) (h : ¬ n ≤ m) : Run P ρ ⟨d, .binOp .geq t x y u, ty, pos, af, g⟩ w (.bool false) := by
  have := R.geq (P := P) (w := w) (d := d) (ty := ty) (pos := pos) (af := af) (g := g) (t := t) (u := u) hx hy
  rwa [decide_eq_false h] at this
theorem R.eqlT {k : IntKind} {m n : Int} {x y : Operand} {t u : TypeId} (hx : ev ρ x = .int k m) (hy : ev ρ y = .int k n) (h : m = n) : Run P ρ ⟨d, .binOp .eql t x y u, ty, pos, af, g⟩ w (.bool true) := by
  have := R.eql (P := P) (w := w) (d := d) (ty := ty) (pos := pos) (af := af) (g := g) (t := t) (u := u) hx hy
  simpa [h] using this
theorem R.eqlF {k : IntKind} {m n : Int} {x y : Operand} {t u : TypeId} (hx : ev ρ x = .int k m) (hy : ev ρ y = .int k n) (h : ¬ m = n) : Run P ρ ⟨d, .binOp .eql t x y u, ty, pos, af, g⟩ w (.bool false) := by
  have := R.eql (P := P) (w := w) (d := d) (ty := ty) (pos := pos) (af := af) (g := g) (t := t) (u := u) hx hy
  rwa [beq_eq_false_iff_ne.2 h] at this
theorem R.neqT {k : IntKind} {m n : Int} {x y : Operand} {t u : TypeId} (hx : ev ρ x = .int k m) (hy : ev ρ y = .int k n) (h : ¬ m = n) : Run P ρ ⟨d, .binOp .neq t x y u, ty, pos, af, g⟩ w (.bool true) := by
  have := R.neq (P := P) (w := w) (d := d) (ty := ty) (pos := pos) (af := af) (g := g) (t := t) (u := u) hx hy
  rwa [bne_iff_ne.2 h] at this
theorem R.neqF {k : IntKind} {m n : Int} {x y : Operand} {t u : TypeId} (hx : ev ρ x = .int k m) (hy : ev ρ y = .int k n) (h : m = n) : Run P ρ ⟨d, .binOp .neq t x y u, ty, pos, af, g⟩ w (.bool false) := by
  have := R.neq (P := P) (w := w) (d := d) (ty := ty) (pos := pos) (af := af) (g := g) (t := t) (u := u) hx hy
  simpa [h] using this
theorem R.bits {k : IntKind} {m n : Int} {x y : Operand} {t u : TypeId} {op : BinOp} {v : Value} (hop : (match op with | .and | .or | .xor | .andNot => true | _ => false) = true) (hx : ev ρ x = .int k m) (hy : ev ρ y = .int k n)
    (hv : (Op.intBits op k m n).run P w = .ok v w) : Run P ρ ⟨d, .binOp op t x y u, ty, pos, af, g⟩ w v := by
  cases op <;> simp at hop <;> simp [Run, execOp, hx, hy, eqGuard, binOp, hv]
theorem R.shift {k k' : IntKind} {m n : Int} {x y : Operand} {t u : TypeId} {op : BinOp} {v : Value} (hop : (match op with | .shl | .shr => true | _ => false) = true) (hx : ev ρ x = .int k m) (hy : ev ρ y = .int k' n)
    (hv : (Op.shift op k m k' n).run P w = .ok v w) : Run P ρ ⟨d, .binOp op t x y u, ty, pos, af, g⟩ w v := by
  cases op <;> simp at hop <;> simp [Run, execOp, hx, hy, eqGuard, binOp, hv]
theorem R.not {p : Bool} {x : Operand} {t : TypeId} (hx : ev ρ x = .bool p) : Run P ρ ⟨d, .unOp .not t x, ty, pos, af, g⟩ w (.bool !p) := by
  simp [Run, execOp, hx, Op.unary]
theorem R.notT {x : Operand} {t : TypeId} (hx : ev ρ x = .bool true) : Run P ρ ⟨d, .unOp .not t x, ty, pos, af, g⟩ w (.bool false) := by
  simp [Run, execOp, hx, Op.unary]
theorem R.notF {x : Operand} {t : TypeId} (hx : ev ρ x = .bool false) : Run P ρ ⟨d, .unOp .not t x, ty, pos, af, g⟩ w (.bool true) := by
  simp [Run, execOp, hx, Op.unary]
theorem R.neg {m : Int} {k : IntKind} {x : Operand} {t : TypeId} (hx : ev ρ x = .int k m) : Run P ρ ⟨d, .unOp .neg t x, ty, pos, af, g⟩ w (.int k (k.wrap (0 - m))) := by
  simp [Run, execOp, hx, Op.unary, Op.intArith]
theorem equalIn_nil (n : Nat) {t e : TypeId} (ht : P.underlying t = some (.pointer e)) (p : Option Addr) (w : World) : (Op.equalIn (n + 1) t (.pointer p) (.pointer none)).run P w = .ok p.isNone w := by
  cases p <;> simp [Op.equalIn, run_underlying ht]
theorem equal_nil {t e : TypeId} (ht : P.underlying t = some (.pointer e)) (p : Option Addr) (w : World) : (Op.equal t (.pointer p) (.pointer none)).run P w = .ok p.isNone w := equalIn_nil 9999 ht p w
theorem equalIn_bool (n : Nat) {t : TypeId} (ht : P.underlying t = some .bool) (p q : Bool) (w : World) : (Op.equalIn (n + 1) t (.bool p) (.bool q)).run P w = .ok (p == q) w := by
  simp [Op.equalIn, run_underlying ht]
theorem equal_bool {t : TypeId} (ht : P.underlying t = some .bool) (p q : Bool) (w : World) : (Op.equal t (.bool p) (.bool q)).run P w = .ok (p == q) w := equalIn_bool 9999 ht p q w
/-- '==' by what 'equal' says. -/
theorem R.eqlBy {x y : Operand} {t u : TypeId} {a b : Value} {q : Bool} (hx : ev ρ x = a) (hy : ev ρ y = b) (hg : (eqGuard .eql t x y a b).run P w = .ok () w) (hbin : binOp .eql t a b = (do pure (.bool (← Op.equal t a b))))
    (he : (Op.equal t a b).run P w = .ok q w) : Run P ρ ⟨d, .binOp .eql t x y u, ty, pos, af, g⟩ w (.bool q) := by
  subst hx hy
  show Sem.run P (do let v ← (do eqGuard .eql t x y (ev ρ x) (ev ρ y); binOp .eql t (ev ρ x) (ev ρ y)); pure (Next.value v) : Sem Next) w = _
  rw [hbin]; simp [hg, he]
theorem R.neqBy {x y : Operand} {t u : TypeId} {a b : Value} {q : Bool} (hx : ev ρ x = a) (hy : ev ρ y = b) (hg : (eqGuard .neq t x y a b).run P w = .ok () w) (hbin : binOp .neq t a b = (do pure (.bool (!(← Op.equal t a b)))))
    (he : (Op.equal t a b).run P w = .ok q w) : Run P ρ ⟨d, .binOp .neq t x y u, ty, pos, af, g⟩ w (.bool !q) := by
  subst hx hy
  show Sem.run P (do let v ← (do eqGuard .neq t x y (ev ρ x) (ev ρ y); binOp .neq t (ev ρ x) (ev ρ y)); pure (Next.value v) : Sem Next) w = _
  rw [hbin]; simp [hg, he]
/-- A pointer against nil. -/
theorem R.eqlNil {p : Option Addr} {x : Operand} {t e u : TypeId} (ht : P.underlying t = some (.pointer e)) (hx : ev ρ x = .pointer p) : Run P ρ ⟨d, .binOp .eql t x (.const (.pointer none)) u, ty, pos, af, g⟩ w (.bool p.isNone) :=
  R.eqlBy hx rfl (by simp [eqGuard]) rfl (equal_nil ht p w)
theorem R.neqNil {p : Option Addr} {x : Operand} {t e u : TypeId} (ht : P.underlying t = some (.pointer e)) (hx : ev ρ x = .pointer p) : Run P ρ ⟨d, .binOp .neq t x (.const (.pointer none)) u, ty, pos, af, g⟩ w (.bool !p.isNone) :=
  R.neqBy hx rfl (by simp [eqGuard]) rfl (equal_nil ht p w)
theorem R.eqlB {p q : Bool} {x y : Operand} {t u : TypeId} (ht : P.underlying t = some .bool) (hx : ev ρ x = .bool p) (hy : ev ρ y = .bool q) : Run P ρ ⟨d, .binOp .eql t x y u, ty, pos, af, g⟩ w (.bool (p == q)) :=
  R.eqlBy hx hy (by simp [eqGuard]) rfl (equal_bool ht p q w)
theorem R.neqB {p q : Bool} {x y : Operand} {t u : TypeId} (ht : P.underlying t = some .bool) (hx : ev ρ x = .bool p) (hy : ev ρ y = .bool q) : Run P ρ ⟨d, .binOp .neq t x y u, ty, pos, af, g⟩ w (.bool (!(p == q))) :=
  R.neqBy hx hy (by simp [eqGuard]) rfl (equal_bool ht p q w)
theorem R.extract {vs : Array Value} {v : Value} {x : Operand} {i : Nat} (hx : ev ρ x = .tuple vs) (hv : vs[i]? = some v) : Run P ρ ⟨d, .extract x i, ty, pos, af, g⟩ w v := by
  simp [Run, execOp, hx, Instr.extract, hv]
theorem R.nilCheck {a : Addr} {x : Operand} (hx : ev ρ x = .pointer (some a)) : Run P ρ ⟨d, .nilCheck x, ty, pos, af, g⟩ w (.pointer (some a)) := by
  simp [Run, execOp, hx]
theorem R.convII {k k' : IntKind} {m : Int} {x : Operand} {s t : TypeId} (hs : P.underlying s = some (.int k)) (ht : P.underlying t = some (.int k')) (hx : ev ρ x = .int k m) :
    Run P ρ ⟨d, .convert s t x, ty, pos, af, g⟩ w (.int k' (k'.wrap m)) := by
  simp [Run, execOp, hx, convert, run_underlying hs, run_underlying ht, Conv.intToInt]

/-- Field f of a struct of type s lies k cells on. -/
def FO (P : Program) (s : TypeId) (f k : Nat) : Prop := ∀ a w, (Instr.fieldAt s (.pointer (some a)) f).run P w = .ok (.pointer (some (a.add k))) w
theorem R.fieldAddr {b off k : Nat} {x : Operand} {s : TypeId} {f : Nat} (hf : FO P s f k) (hx : ev ρ x = .pointer (some ⟨b, off, none⟩)) :
    Run P ρ ⟨d, .fieldAddr s x f, ty, pos, af, g⟩ w (.pointer (some ⟨b, off + k, none⟩)) := by
  simp [Run, execOp, hx, hf _ w, add_at]
theorem R.load {b off : Nat} {cs : List Value} {v : Value} {x : Operand} {t : TypeId} (ht : Sca P t) (hx : ev ρ x = .pointer (some ⟨b, off, none⟩)) (hb : BlkR w b cs) (hv : cs[off]? = some v) :
    Run P ρ ⟨d, .load t x, ty, pos, af, g⟩ w v := by
  simp [Run, execOp, hx, Instr.loadAt, Instr.sureAddr, run_loadVar_sca ht hb hv]
theorem R.loadA {b off n : Nat} {cs vs : List Value} {x : Operand} {t : TypeId} (ht : Agg P t n) (hx : ev ρ x = .pointer (some ⟨b, off, none⟩)) (hb : BlkR w b cs) (hv : (cs.drop off).take n = vs) (hn : vs.length = n) :
    Run P ρ ⟨d, .load t x, ty, pos, af, g⟩ w (.agg vs.toArray) := by
  simp [Run, execOp, hx, Instr.loadAt, Instr.sureAddr, run_loadVar_agg ht hb hv hn]
theorem R.lenS {a : Option Addr} {n c : Nat} {x : Operand} {t e : TypeId} (ht : P.underlying t = some (.slice e)) (hx : ev ρ x = .slice a n c) :
    Run P ρ ⟨d, .call ⟨.builtin .len, #[x], #[t]⟩, ty, pos, af, g⟩ w (.int .i64 n) := by
  simp [Run, execOp, hx, resolve, invoke, builtin, Builtin.len_, run_underlying ht, goInt]
theorem R.indexS {a : Option Addr} {b off n c i sz : Nat} {k : IntKind} {x y : Operand} {t e : TypeId} (ht : P.underlying t = some (.slice e)) (hs : ∀ w, (sizeOf e).run P w = .ok sz w)
    (hx : ev ρ x = .slice a n c) (ha : a = some ⟨b, off, none⟩) (hy : ev ρ y = .int k (i : Int)) (hi : i < n) :
    Run P ρ ⟨d, .indexAddr t x y, ty, pos, af, g⟩ w (.pointer (some ⟨b, off + i * sz, none⟩)) := by
  subst ha
  have h0 : (0 : Int) ≤ i ∧ (i : Int) < n := by omega
  simp [Run, execOp, hx, hy, Instr.indexAt, asIntOf, run_underlying ht, h0, hs, add_at]
  omega
theorem R.indexA {b off n i sz : Nat} {k : IntKind} {x y : Operand} {t e : TypeId} (ht : P.underlying t = some (.array n e)) (hs : ∀ w, (sizeOf e).run P w = .ok sz w)
    (hx : ev ρ x = .pointer (some ⟨b, off, none⟩)) (hy : ev ρ y = .int k (i : Int)) (hi : i < n) :
    Run P ρ ⟨d, .indexAddr t x y, ty, pos, af, g⟩ w (.pointer (some ⟨b, off + i * sz, none⟩)) := by
  have h0 : (0 : Int) ≤ i ∧ (i : Int) < n := by omega
  simp [Run, execOp, hx, hy, Instr.indexAt, asIntOf, run_underlying ht, h0, hs, Instr.sureAddr, add_at]
  omega
theorem R.makeFunc {fn : Fn} {fs cs : Array Operand} : Run P ρ ⟨d, .makeFunc fn fs cs, ty, pos, af, g⟩ w (.func fn (fs.map (ev ρ)) (cs.map (ev ρ))) := by
  simp [Run, execOp, Instr.makeFunc]
end

/-! ## Steps -/
section
variable {r : Option Nat} {P : Program} {ops : Array Oper} {K : Cont} {rest : List Oper} {ρ : Env} {w : World} {d : Nat} {op : Op} {ty : TypeId} {pos : String} {af : Array Edge} {g : Option (Nat × Bool)}

theorem WL.nil (h : K ρ w) : WL r P ops K [] ρ w := h
theorem WL.y {v : Value} (h : Run P ρ ⟨some d, op, ty, pos, af, g⟩ w v) (hg : wantE ops ρ ⟨some d, op, ty, pos, af, g⟩ = true) (k : WL r P ops K rest (ρ.set d v) w) :
    WL r P ops K (⟨some d, op, ty, pos, af, g⟩ :: rest) ρ w := by
  simp only [WL, hg, if_true]
  rw [h]; exact k
theorem WL.skip (hg : wantE ops ρ ⟨some d, op, ty, pos, af, g⟩ = false) (k : WL r P ops K rest (ρ.set d undef) w) :
    WL r P ops K (⟨some d, op, ty, pos, af, g⟩ :: rest) ρ w := by
  simp only [WL, hg]; exact k
theorem QL.y {J : World → Prop} {K : Env → Prop} {v : Value} (h : ∀ w, J w → Run P ρ ⟨some d, op, ty, pos, af, g⟩ w v) (hg : wantE ops ρ ⟨some d, op, ty, pos, af, g⟩ = true) (k : QL P ops J K rest (ρ.set d v)) :
    QL P ops J K (⟨some d, op, ty, pos, af, g⟩ :: rest) ρ := ⟨v, .inl ⟨hg, h⟩, k⟩
theorem QL.skip {J : World → Prop} {K : Env → Prop} (hg : wantE ops ρ ⟨some d, op, ty, pos, af, g⟩ = false) (k : QL P ops J K rest (ρ.set d undef)) :
    QL P ops J K (⟨some d, op, ty, pos, af, g⟩ :: rest) ρ := ⟨undef, .inr ⟨hg, rfl⟩, k⟩
theorem QL.nil {J : World → Prop} {K : Env → Prop} (h : K ρ) : QL P ops J K [] ρ := h

/-- A call that returns, with R of what it hands back and of the world behind it. -/
def CallV (P : Program) (f : FuncId) (args : Array Value) (w : World) (R : Value → World → Prop) : Prop :=
  Calls P f args w fun e w' => ∃ v, e = .returned v ∧ R v w'
theorem CallV.mono {P : Program} {f : FuncId} {args : Array Value} {w : World} {R R' : Value → World → Prop} (h : CallV P f args w R) (hr : ∀ v w', R v w' → R' v w') : CallV P f args w R' :=
  Calls.mono h fun _ _ ⟨v, e, hv⟩ => ⟨v, e, hr _ _ hv⟩

theorem CallV.val {P : Program} {f : FuncId} {args : Array Value} {w : World} {x y : Value} {Q : World → Prop} (h : CallV P f args w fun v w' => v = x ∧ Q w') (e : x = y) : CallV P f args w fun v w' => v = y ∧ Q w' :=
  h.mono fun _ _ ⟨hv, hq⟩ => ⟨hv.trans e, hq⟩

/-- A call of a function by its name. -/
theorem WL.call {f : FuncId} {fn : Func} {c : Code} {args : List Operand} {ats : Array TypeId} {vs : List Value} {R : Value → World → Prop} (hf : P.funcs[f]? = some fn) (hb : fn.body = some c) (hnm : (fn.name == "runtime.NumGoroutine") = false)
    (h : CallV P f vs.toArray w R) (hvs : args.map (ev ρ) = vs) (hg : wantE ops ρ ⟨some d, .call ⟨.value (.func f), args.toArray, ats⟩, ty, pos, af, g⟩ = true)
    (k : ∀ v w', R v w' → WL r P ops K rest (ρ.set d v) w') :
    WL r P ops K (⟨some d, .call ⟨.value (.func f), args.toArray, ats⟩, ty, pos, af, g⟩ :: rest) ρ w := by
  simp only [WL, hg, if_true]
  have : (execOp (ev ρ) ⟨some d, .call ⟨.value (.func f), args.toArray, ats⟩, ty, pos, af, g⟩).run P w = .ok (.enter f vs.toArray) w := by
    simp [execOp, resolve, ev, Deferred.ofValue, invoke, callFunc, hf, hb, ← hvs]
    simpa using hnm
  rw [this]
  have hc : CallsIn (FW r) 0 P f vs.toArray w fun e w' => ∃ v, e = .returned v ∧ R v w' := callsIn_wide.2 h
  refine hc.mono ?_
  rintro e w' ⟨v, rfl, hr⟩
  exact k v w' hr
/-- A call of a function value. -/
theorem WL.callF {f : FuncId} {fn : Func} {c : Code} {x : Operand} {cap : List Value} {args : List Operand} {ats : Array TypeId} {vs : List Value} {R : Value → World → Prop} (hx : ev ρ x = .func (.func f) #[] cap.toArray) (hf : P.funcs[f]? = some fn) (hb : fn.body = some c) (hnm : (fn.name == "runtime.NumGoroutine") = false)
    (h : CallV P f vs.toArray w R) (hvs : args.map (ev ρ) ++ cap = vs) (hg : wantE ops ρ ⟨some d, .call ⟨.value x, args.toArray, ats⟩, ty, pos, af, g⟩ = true)
    (k : ∀ v w', R v w' → WL r P ops K rest (ρ.set d v) w') :
    WL r P ops K (⟨some d, .call ⟨.value x, args.toArray, ats⟩, ty, pos, af, g⟩ :: rest) ρ w := by
  simp only [WL, hg, if_true]
  have : (execOp (ev ρ) ⟨some d, .call ⟨.value x, args.toArray, ats⟩, ty, pos, af, g⟩).run P w = .ok (.enter f vs.toArray) w := by
    simp [execOp, resolve, hx, Deferred.ofValue, invoke, callFunc, hf, hb, ← hvs]
    simpa using hnm
  rw [this]
  have hc : CallsIn (FW r) 0 P f vs.toArray w fun e w' => ∃ v, e = .returned v ∧ R v w' := callsIn_wide.2 h
  refine hc.mono ?_
  rintro e w' ⟨v, rfl, hr⟩
  exact k v w' hr
end

/-! ## In and out of a function -/
def Env.args (vs : Array Value) : Env := fun i => vs.getD i undef

/-- The results, read off the frame. -/
def rv (ρ : Env) : ResultVar → Sem Value
  | .tmp t => pure (ρ t)
  | .cell a t => do loadVar t (← asAddr (ρ a))
def resE (fn : Func) (ρ : Env) : Sem Value := do
  let vs ← fn.results.mapM (rv ρ)
  pure (if h : vs.size = 1 then vs[0] else .tuple vs)

def resIn (N : Nat) (fn : Func) : Bool := fn.results.toList.all fun | .tmp t => Nat.blt t N | .cell t _ => Nat.blt t N

theorem mapM_same {α β : Type} {f g : α → Sem β} : ∀ (l : List α), (∀ x ∈ l, f x = g x) → l.mapM f = l.mapM g
  | [], _ => rfl
  | x :: l, h => by
    simp only [List.mapM_cons, h x (by simp), mapM_same l (fun y hy => h y (by simp [hy]))]

theorem results_resE {N : Nat} {a : Act} {ρ : Env} {ds : List Deferred} (h : Fits N a ρ ds) {fn : Func} (hr : resIn N fn = true) : results fn a.tmps = resE fn ρ := by
  unfold results resE
  congr 1
  rw [Array.mapM_eq_mapM_toList, Array.mapM_eq_mapM_toList]
  congr 1
  refine mapM_same _ fun x hx => ?_
  have := List.all_eq_true.1 hr x hx
  cases x with
  | tmp t => simp only [rv]; rw [h.get t (blt_lt this)]
  | cell t e => simp only [rv]; rw [h.get t (blt_lt this)]

/-- The deferred calls are marks of loops over functions, and are taken. -/
def Taken (P : Program) : List Deferred → World → World → Prop
  | [], w, w' => w' = w
  | d :: ds, w, w' => ∃ r w1, d.target = .collected r ∧ (Instr.takeDeferred r).run P w = .ok [] w1 ∧ Taken P ds w1 w'

def PR (P : Program) (fn : Func) (R : Value → World → Prop) : DCont := fun ρ ds w => ∃ w', Taken P ds w w' ∧ ∃ v, (resE fn ρ).run P w' = .ok v w' ∧ R v w'


theorem leaves_taken {P : Program} {fn : Func} {tmps : Array Value} {R : Ending → World → Prop} : ∀ (ds : List Deferred) (w w' : World) (v : Value), Taken P ds w w' → (results fn tmps).run P w' = .ok v w' → R (.returned v) w' →
    LeavesInM (FW none) 0 P fn tmps R ds .returning w
  | [], w, w', v, ht, hr, hR => by
    cases ht
    exact ⟨v, hr, hR⟩
  | d :: ds, w, w', v, ht, hr, hR => by
    obtain ⟨b, w1, hd, hk, ht⟩ := ht
    exact ⟨by simp, .inl ⟨b, w1, hd, hk, leaves_taken ds w1 w' v ht hr hR⟩⟩

/-- **A FUNCTION's CONTRACT FROM ITS BODY.** -/
theorem Calls.of_W {P : Program} {f : FuncId} {fn : Func} {c : Code} {N : Nat} {args : Array Value} {w : World} {R : Value → World → Prop}
    (hf : P.funcs[f]? = some fn) (hb : fn.body = some c) (hN : fn.ntmps = N) (hin : (codeIn N c && (resIn N fn && Nat.ble args.size N)) = true)
    (h : W none N P c (PR P fn R) (fun e => match e with | .ret => PR P fn R | _ => fun _ _ _ => False) (Env.args args) [] w) :
    CallV P f args w R := by
  simp only [Bool.and_eq_true] at hin
  obtain ⟨hc, hres, hle⟩ := hin
  have hle : args.size ≤ N := by rwa [Nat.ble_eq] at hle
  refine callsIn_wide (n := 0).1 (callsIn_of_wp_marks hf hb trivial ?_ rfl)
  have hfit : Fits N { tmps := args ++ Array.replicate (fn.ntmps - args.size) undef, defers := [] } (Env.args args) [] := by
    refine ⟨by simp [hN]; omega, fun i hi => ?_, rfl⟩
    simp only [Env.args]
    rcases Nat.lt_or_ge i args.size with hlt | hge
    · simp [Array.getElem?_append_left hlt]
    · rw [Array.getD_eq_getD_getElem?, Array.getElem?_append_right hge, Array.getD_eq_getD_getElem?, Array.getElem?_eq_none hge]
      simp [Array.getElem?_replicate]
      split <;> rfl
  refine wpIn_mono (h hc _ hfit) ?_
  rintro e a' w' ⟨ρ', ds', hf', hh⟩
  cases e with
  | normal =>
    obtain ⟨w2, ht, v, hr, hR⟩ := hh
    show LeavesInM _ _ _ _ _ _ _ _ _
    rw [hf'.defs]
    exact leaves_taken ds' w' w2 v ht (by rw [results_resE hf' hres]; exact hr) ⟨v, rfl, hR⟩
  | ret =>
    obtain ⟨w2, ht, v, hr, hR⟩ := hh
    show LeavesInM _ _ _ _ _ _ _ _ _
    rw [hf'.defs]
    exact leaves_taken ds' w' w2 v ht (by rw [results_resE hf' hres]; exact hr) ⟨v, rfl, hR⟩
  | _ => exact hh.elim


/-! ## Results -/
inductive ResV (P : Program) (w : World) (ρ : Env) : ResultVar → Value → Prop
  | tmp {t : Nat} {v : Value} (h : ρ t = v) : ResV P w ρ (.tmp t) v
  | sca {a b : Nat} {t : TypeId} {cs : List Value} {v : Value} (ht : Sca P t) (h : ρ a = .pointer (some ⟨b, 0, none⟩)) (hb : Blk w b cs) (hv : cs[0]? = some v) : ResV P w ρ (.cell a t) v
  | agg {a b n : Nat} {t : TypeId} {cs : List Value} (ht : Agg P t n) (h : ρ a = .pointer (some ⟨b, 0, none⟩)) (hb : Blk w b cs) (hn : cs.length = n) : ResV P w ρ (.cell a t) (.agg cs.toArray)

theorem ResV.run {P : Program} {w : World} {ρ : Env} {x : ResultVar} {v : Value} (h : ResV P w ρ x v) : (rv ρ x).run P w = .ok v w := by
  cases h with
  | tmp h => simp [rv, h]
  | sca ht h hb hv => simp [rv, h, asAddr, run_loadVar_sca ht hb.r hv]
  | agg ht h hb hn => simp [rv, h, asAddr, run_loadVar_agg ht hb.r (vs := _) (by rw [List.drop_zero, List.take_of_length_le (by omega)]) hn]

section
variable {P : Program} {fn : Func} {R : Value → World → Prop} {ρ : Env} {w : World}
theorem PR.r0 (h : fn.results = #[]) (hR : R (.tuple #[]) w) : PR P fn R ρ [] w :=
  ⟨w, rfl, .tuple #[], by simp [resE, h], hR⟩
theorem PR.r1 {x : ResultVar} {v : Value} (h : fn.results = #[x]) (hx : ResV P w ρ x v) (hR : R v w) : PR P fn R ρ [] w :=
  ⟨w, rfl, v, by simp [resE, h, hx.run], hR⟩
theorem PR.r2 {x y : ResultVar} {v u : Value} (h : fn.results = #[x, y]) (hx : ResV P w ρ x v) (hy : ResV P w ρ y u) (hR : R (.tuple #[v, u]) w) : PR P fn R ρ [] w :=
  ⟨w, rfl, .tuple #[v, u], by simp [resE, h, hx.run, hy.run], hR⟩
theorem PR.r3 {x y z : ResultVar} {v u t : Value} (h : fn.results = #[x, y, z]) (hx : ResV P w ρ x v) (hy : ResV P w ρ y u) (hz : ResV P w ρ z t) (hR : R (.tuple #[v, u, t]) w) : PR P fn R ρ [] w :=
  ⟨w, rfl, .tuple #[v, u, t], by simp [resE, h, hx.run, hy.run, hz.run], hR⟩
end
end Go.Eng
