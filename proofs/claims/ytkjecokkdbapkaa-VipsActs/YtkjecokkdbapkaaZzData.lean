import Derived.Test.YtkjecokkdbapkaaZzMore
namespace Go.Eng
set_option linter.all false
open Go Go.RowKit

/-! ## The program's plain data -/
structure B16 where
  (b0 b1 b2 b3 b4 b5 b6 b7 b8 b9 b10 b11 b12 b13 b14 b15 : UInt8)
  deriving DecidableEq
def B16.list (b : B16) : List UInt8 := [b.b0, b.b1, b.b2, b.b3, b.b4, b.b5, b.b6, b.b7, b.b8, b.b9, b.b10, b.b11, b.b12, b.b13, b.b14, b.b15]
structure Adr where
  (v6 : Bool) (b : B16)
  deriving DecidableEq
structure Dip where
  (adr : Adr) (port : UInt16)
  deriving DecidableEq
structure Mem where
  (dip : Dip) (wt : Int)
  deriving DecidableEq
structure Vip where
  (proto : UInt8) (adr : Adr) (port : UInt16)
  deriving DecidableEq
structure Key where
  (proto : UInt8) (src : Adr) (dst : Adr) (sport : UInt16) (dport : UInt16)
  deriving DecidableEq
structure Cfg where
  (stages size digest bloom hashes slots versions queue evict idle linger fails : Int) (encap six : Bool) (seed : UInt32)
  deriving DecidableEq

abbrev u8 (x : UInt8) : Value := .int .u8 (x.toNat : Int)
abbrev u16 (x : UInt16) : Value := .int .u16 (x.toNat : Int)
abbrev u32 (x : UInt32) : Value := .int .u32 (x.toNat : Int)
abbrev i64 (x : Int) : Value := .int .i64 x
abbrev bl (b : Bool) : Value := .bool b
def encB (b : B16) : List Value := [u8 b.b0, u8 b.b1, u8 b.b2, u8 b.b3, u8 b.b4, u8 b.b5, u8 b.b6, u8 b.b7, u8 b.b8, u8 b.b9, u8 b.b10, u8 b.b11, u8 b.b12, u8 b.b13, u8 b.b14, u8 b.b15]
def encAdr (a : Adr) : List Value := bl a.v6 :: encB a.b
def encDip (d : Dip) : List Value := encAdr d.adr ++ [u16 d.port]
def encMem (m : Mem) : List Value := encDip m.dip ++ [i64 m.wt]
def encVip (v : Vip) : List Value := u8 v.proto :: encAdr v.adr ++ [u16 v.port]
def encKey (k : Key) : List Value := u8 k.proto :: encAdr k.src ++ encAdr k.dst ++ [u16 k.sport, u16 k.dport]
def b0 : B16 := ⟨0, 0, 0, 0, 0, 0, 0, 0, 0, 0, 0, 0, 0, 0, 0, 0⟩
def adr0 : Adr := ⟨false, b0⟩
def dip0 : Dip := ⟨adr0, 0⟩
def encCfg (c : Cfg) : List Value :=
  [i64 c.stages, i64 c.size, i64 c.digest, i64 c.bloom, i64 c.hashes, i64 c.slots, i64 c.versions, i64 c.queue, i64 c.evict, i64 c.idle, i64 c.linger, i64 c.fails, bl c.encap] ++ encAdr adr0 ++ encAdr ⟨c.six, b0⟩ ++ [u32 c.seed]
def cfg0 : Cfg := ⟨0, 0, 0, 0, 0, 0, 0, 0, 0, 0, 0, 0, false, false, 0⟩

@[simp] theorem encB_length (b : B16) : (encB b).length = 16 := rfl
@[simp] theorem encAdr_length (a : Adr) : (encAdr a).length = 17 := rfl
@[simp] theorem encDip_length (a : Dip) : (encDip a).length = 18 := rfl
@[simp] theorem encMem_length (a : Mem) : (encMem a).length = 19 := rfl
@[simp] theorem encVip_length (a : Vip) : (encVip a).length = 19 := rfl
@[simp] theorem encKey_length (a : Key) : (encKey a).length = 37 := rfl
@[simp] theorem encCfg_length (a : Cfg) : (encCfg a).length = 48 := rfl

/-- An address that may be. -/
def adrOK (a : Adr) : Bool := a.v6 || decide (a.b.list.drop 4 = List.replicate 12 0)

/-- A configuration that may be. -/
structure CfgOK (c : Cfg) : Prop where
  stages : 1 ≤ c.stages ∧ c.stages ≤ 4
  size : 2 ≤ c.size ∧ c.size ≤ 1024
  sizeP : ∃ k, k < 11 ∧ c.size = ((2 ^ k : Nat) : Int)
  digest : 1 ≤ c.digest ∧ c.digest ≤ 16
  bloom : 8 ≤ c.bloom ∧ c.bloom ≤ 65536
  bloomP : ∃ k, k < 17 ∧ c.bloom = ((2 ^ k : Nat) : Int)
  hashes : 1 ≤ c.hashes ∧ c.hashes ≤ 4
  slots : 1 ≤ c.slots ∧ c.slots ≤ 64
  versions : 2 ≤ c.versions ∧ c.versions ≤ 16
  queue : 1 ≤ c.queue ∧ c.queue ≤ 256
  evict : 1 ≤ c.evict ∧ c.evict ≤ 64
  idle : 1 ≤ c.idle ∧ c.idle ≤ 1000
  linger : 1 ≤ c.linger ∧ c.linger ≤ 1000
  fails : 1 ≤ c.fails ∧ c.fails ≤ 10
  six : c.six = true
end Go.Eng
