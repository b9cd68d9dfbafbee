import Derived.Test.YtkjecokkdbapkaaZzBld
namespace Go.Eng
set_option linter.all false
open Go Go.RowKit
section
variable {P : Program} {ρ : Env} {w : World} {d : Option Nat} {ty : TypeId} {pos : String} {af : Array Edge} {g : Option (Nat × Bool)}

/-- A cell that is known by itself. -/
theorem R.loadC {b off : Nat} {v : Value} {x : Operand} {t : TypeId} (ht : Sca P t) (hx : ev ρ x = .pointer (some ⟨b, off, none⟩)) (hv : w.cell? ⟨b, off, none⟩ = some v) :
    Run P ρ ⟨d, .load t x, ty, pos, af, g⟩ w v := by
  simp [Run, execOp, hx, Instr.loadAt, Instr.sureAddr, loadVar, ht.1 w, hv]
theorem R.sliceLH {a : Option Addr} {n c l h sz : Nat} {x lo hi : Operand} {k k' : IntKind} {t e : TypeId} (ht : P.underlying t = some (.slice e)) (hs : ∀ w, (sizeOf e).run P w = .ok sz w) (hx : ev ρ x = .slice a n c)
    (hlo : ev ρ lo = .int k (l : Int)) (hhi : ev ρ hi = .int k' (h : Int)) (h1 : l ≤ h) (h2 : h ≤ c) :
    Run P ρ ⟨d, .slice t x (some lo) (some hi) none, ty, pos, af, g⟩ w (.slice (if c = l then a else a.map (·.add (l * sz))) (h - l) (c - l)) := by
  have e1 : (0 : Int) ≤ h ∧ (h : Int) ≤ c := by omega
  have e2 : (0 : Int) ≤ l ∧ (l : Int) ≤ h := by omega
  have e3 : ¬ (c < h) := by omega
  have e4 : ¬ (h < l) := by omega
  simp [Run, execOp, hx, hlo, hhi, Instr.sliceAt, Instr.slice, run_underlying ht, Instr.sliceBounds, Instr.sliceBound, asIntOf, hs, h1, h2]
theorem R.sliceL {a : Option Addr} {n c l sz : Nat} {x lo : Operand} {k : IntKind} {t e : TypeId} (ht : P.underlying t = some (.slice e)) (hs : ∀ w, (sizeOf e).run P w = .ok sz w) (hx : ev ρ x = .slice a n c)
    (hlo : ev ρ lo = .int k (l : Int)) (h1 : l ≤ n) :
    Run P ρ ⟨d, .slice t x (some lo) none none, ty, pos, af, g⟩ w (.slice (if c = l then a else a.map (·.add (l * sz))) (n - l) (c - l)) := by
  simp [Run, execOp, hx, hlo, Instr.sliceAt, Instr.slice, run_underlying ht, Instr.sliceBounds, Instr.sliceBound, asIntOf, hs, h1]
theorem R.sliceH {a : Option Addr} {n c h sz : Nat} {x hi : Operand} {k : IntKind} {t e : TypeId} (ht : P.underlying t = some (.slice e)) (hs : ∀ w, (sizeOf e).run P w = .ok sz w) (hx : ev ρ x = .slice a n c)
    (hhi : ev ρ hi = .int k (h : Int)) (h2 : h ≤ c) :
    Run P ρ ⟨d, .slice t x none (some hi) none, ty, pos, af, g⟩ w (.slice a h c) := by
  have : (if c = 0 then a else a.map (·.add 0)) = a := by
    split
    · rfl
    · cases a <;> simp [Addr.add]
  simp [Run, execOp, hx, hhi, Instr.sliceAt, Instr.slice, run_underlying ht, Instr.sliceBounds, Instr.sliceBound, asIntOf, hs, h2]
  intro _; cases a <;> simp [Addr.add]
/-- 'a[:]' of an array in memory. -/
theorem R.sliceA {b off n sz : Nat} {x : Operand} {t e : TypeId} (ht : P.underlying t = some (.array n e)) (hs : ∀ w, (sizeOf e).run P w = .ok sz w) (hx : ev ρ x = .pointer (some ⟨b, off, none⟩)) :
    Run P ρ ⟨d, .slice t x none none none, ty, pos, af, g⟩ w (.slice (some ⟨b, off, none⟩) n n) := by
  simp [Run, execOp, hx, Instr.sliceAt, run_underlying ht, Instr.sureAddr, Instr.sliceBounds, hs]
  intro _; simp [Addr.add]
theorem R.sliceAL {b off n l sz : Nat} {x lo : Operand} {k : IntKind} {t e : TypeId} (ht : P.underlying t = some (.array n e)) (hs : ∀ w, (sizeOf e).run P w = .ok sz w) (hx : ev ρ x = .pointer (some ⟨b, off, none⟩))
    (hlo : ev ρ lo = .int k (l : Int)) (h1 : l < n) :
    Run P ρ ⟨d, .slice t x (some lo) none none, ty, pos, af, g⟩ w (.slice (some ⟨b, off + l * sz, none⟩) (n - l) (n - l)) := by
  have hle : l ≤ n := by omega
  simp [Run, execOp, hx, hlo, Instr.sliceAt, run_underlying ht, Instr.sureAddr, Instr.sliceBounds, Instr.sliceBound, asIntOf, hs, hle, add_at]
  intro h; omega
theorem R.arrayAt {b off n c k : Nat} {x : Operand} {t e : TypeId} (ht : P.underlying t = some (.array k e)) (hx : ev ρ x = .slice (some ⟨b, off, none⟩) n c) (h : k ≤ n) :
    Run P ρ ⟨d, .sliceToArrayPointer t x, ty, pos, af, g⟩ w (.pointer (some ⟨b, off, none⟩)) := by
  have : ¬ n < k := by omega
  simp [Run, execOp, hx, Instr.arrayAt, run_underlying ht, this]
theorem R.capS {a : Option Addr} {n c : Nat} {x : Operand} {t e : TypeId} (ht : P.underlying t = some (.slice e)) (hx : ev ρ x = .slice a n c) :
    Run P ρ ⟨d, .call ⟨.builtin .cap, #[x], #[t]⟩, ty, pos, af, g⟩ w (.int .i64 c) := by
  simp [Run, execOp, hx, resolve, invoke, builtin, Builtin.cap_, run_underlying ht, goInt]
end
end Go.Eng
namespace Go.Eng
open Go Go.RowKit
theorem wrap_u8 (x : Int) : IntKind.u8.wrap x = ((UInt8.ofInt x).toNat : Int) := by
  simp [IntKind.wrap, IntKind.signed, IntKind.bits, UInt8.ofInt, UInt8.toNat_ofNat']
  omega
theorem wrap_u16 (x : Int) : IntKind.u16.wrap x = ((UInt16.ofInt x).toNat : Int) := by
  simp [IntKind.wrap, IntKind.signed, IntKind.bits, UInt16.ofInt, UInt16.toNat_ofNat']
  omega
theorem wrap_u32 (x : Int) : IntKind.u32.wrap x = ((UInt32.ofInt x).toNat : Int) := by
  simp [IntKind.wrap, IntKind.signed, IntKind.bits, UInt32.ofInt, UInt32.toNat_ofNat']
  omega
section
variable {P : Program} {ρ : Env} {w : World} {d : Option Nat} {ty : TypeId} {pos : String} {af : Array Edge} {g : Option (Nat × Bool)}
theorem R.convU8 {k : IntKind} {m : Int} {x : Operand} {s t : TypeId} (hs : P.underlying s = some (.int k)) (ht : P.underlying t = some (.int .u8)) (hx : ev ρ x = .int k m) :
    Run P ρ ⟨d, .convert s t x, ty, pos, af, g⟩ w (.int .u8 ((UInt8.ofInt m).toNat : Int)) := by
  rw [← wrap_u8]; exact R.convII hs ht hx
theorem R.convU16 {k : IntKind} {m : Int} {x : Operand} {s t : TypeId} (hs : P.underlying s = some (.int k)) (ht : P.underlying t = some (.int .u16)) (hx : ev ρ x = .int k m) :
    Run P ρ ⟨d, .convert s t x, ty, pos, af, g⟩ w (.int .u16 ((UInt16.ofInt m).toNat : Int)) := by
  rw [← wrap_u16]; exact R.convII hs ht hx
theorem R.convU32 {k : IntKind} {m : Int} {x : Operand} {s t : TypeId} (hs : P.underlying s = some (.int k)) (ht : P.underlying t = some (.int .u32)) (hx : ev ρ x = .int k m) :
    Run P ρ ⟨d, .convert s t x, ty, pos, af, g⟩ w (.int .u32 ((UInt32.ofInt m).toNat : Int)) := by
  rw [← wrap_u32]; exact R.convII hs ht hx
theorem R.shr {k k' : IntKind} {m : Int} {n : Nat} {x y : Operand} {t u : TypeId} (hx : ev ρ x = .int k m) (hy : ev ρ y = .int k' (n : Int)) (h : n ≤ k.bits) :
    Run P ρ ⟨d, .binOp .shr t x y u, ty, pos, af, g⟩ w (.int k (m.fdiv (2 ^ n))) := by
  refine R.shift rfl hx hy ?_
  have h0 : ¬ ((n : Int) < 0) := by omega
  have : min n k.bits = n := Nat.min_eq_left h
  simp [Op.shift, h0, this]
theorem R.shl {k k' : IntKind} {m : Int} {n : Nat} {x y : Operand} {t u : TypeId} (hx : ev ρ x = .int k m) (hy : ev ρ y = .int k' (n : Int)) (h : n ≤ k.bits) :
    Run P ρ ⟨d, .binOp .shl t x y u, ty, pos, af, g⟩ w (.int k (k.wrap (m * 2 ^ n))) := by
  refine R.shift rfl hx hy ?_
  have h0 : ¬ ((n : Int) < 0) := by omega
  have : min n k.bits = n := Nat.min_eq_left h
  simp [Op.shift, h0, this]
end
end Go.Eng
