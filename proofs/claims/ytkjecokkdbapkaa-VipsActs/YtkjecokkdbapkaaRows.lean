/-
  No cell of these rows narrows 'for every input' (looked for: loops, veiled, ifaces, maps, wideKeys, modest, calm, conditions, laid).
  DERIVED. THE GIVEN ROWS OF THIS SEAT. 16 by the template 'for every input the law returns true; each argument reads behind the call as it read before'; 0 by the template 'total and deterministic' (their statements: YtkjecokkdbapkaaTotals.lean).
  GIVEN WITH THE SEED: the statements are not yours to turn. If you find one false, say at which input.
  Laid BY PROGRAM, IN A SANDBOX (cutbox-rows.mjs): the forced cells as the released guide's own fill.sh prints them over the translation 07e9ae51f9e021ba… (all of the seat's roots in one cut). By AI agents, Wed Nov 11 2026. No macro, syntax, notation, axiom, sorry.
-/
import Derived.Test.YtkjecokkdbapkaaChecked
import GoSem.Claim
import GoSem.ClaimJoined
import GoSem.ClaimMapViews
import Derived.JoinedTies
import Derived.KernelRfl
namespace Go.Proofs.Ytkjecokkdbapkaa
/- THE CELL 'sum', in the pinned program and in every row, IS THE sha256 OF THE DUMP (.gsa) THAT YtkjecokkdbapkaaProg.lean LOADS. Nothing in Lean hashes anything: it is a label: what it is worth is what the hold of that sum in a sandbox is worth. -/
noncomputable def Try.pinned : Pinned := { name := "ytkjecokkdbapkaa", sum := "07e9ae51f9e021ba24446d5cbd31768ebb22609180b2e126179a60b8696ef56f", checked := Try.checked }
namespace Rows
def none {H : Type} : Left H := { results := [], args := [] }

/-- 'bazaarlaw19.VipsNumbers': WHATEVER THE INPUT: true; the input reads as it did. -/
def vipsNumbersSpec : ChangeSpec := { name := "vipsNumbers", fn := fun _ => fun
  | [d1, d2] => { results := [.lit (.bool true)], args := [d1, d2] }
  | _ => none }
def vipsNumbersRow : OpenClaim := { program := "ytkjecokkdbapkaa", sum := "07e9ae51f9e021ba24446d5cbd31768ebb22609180b2e126179a60b8696ef56f", func := "bazaar/bazaarlaw19.VipsNumbers", spec := "vipsNumbers", unfollowed := true, recurses := true, plainKeys := false, apart := false }
def VipsNumbersSaid : Prop := vipsNumbersRow.holds Try.pinned (OpenSpec.ofChange vipsNumbersSpec)

/-- ITS FALSE NEIGHBOUR: 'it returns false'. Refute it at one input. -/
def vipsNumbersWrong : ChangeSpec := { name := "vipsNumbers", fn := fun _ => fun
  | [d1, d2] => { results := [.lit (.bool false)], args := [d1, d2] }
  | _ => none }
def VipsNumbersWrongFalsely : Prop := vipsNumbersRow.holds Try.pinned (OpenSpec.ofChange vipsNumbersWrong)

/-- 'bazaarlaw19.VipsKinds': WHATEVER THE INPUT: true; the input reads as it did. -/
def vipsKindsSpec : ChangeSpec := { name := "vipsKinds", fn := fun _ => fun
  | [d1, d2, d3] => { results := [.lit (.bool true)], args := [d1, d2, d3] }
  | _ => none }
def vipsKindsRow : OpenClaim := { program := "ytkjecokkdbapkaa", sum := "07e9ae51f9e021ba24446d5cbd31768ebb22609180b2e126179a60b8696ef56f", func := "bazaar/bazaarlaw19.VipsKinds", spec := "vipsKinds", unfollowed := true, recurses := true, plainKeys := false, apart := false }
def VipsKindsSaid : Prop := vipsKindsRow.holds Try.pinned (OpenSpec.ofChange vipsKindsSpec)

/-- ITS FALSE NEIGHBOUR: 'it returns false'. Refute it at one input. -/
def vipsKindsWrong : ChangeSpec := { name := "vipsKinds", fn := fun _ => fun
  | [d1, d2, d3] => { results := [.lit (.bool false)], args := [d1, d2, d3] }
  | _ => none }
def VipsKindsWrongFalsely : Prop := vipsKindsRow.holds Try.pinned (OpenSpec.ofChange vipsKindsWrong)

/-- 'bazaarlaw18.PoolsActs': WHATEVER THE INPUT: true; the input reads as it did. -/
def poolsActsSpec : ChangeSpec := { name := "poolsActs", fn := fun _ => fun
  | [d1, d2, d3] => { results := [.lit (.bool true)], args := [d1, d2, d3] }
  | _ => none }
def poolsActsRow : OpenClaim := { program := "ytkjecokkdbapkaa", sum := "07e9ae51f9e021ba24446d5cbd31768ebb22609180b2e126179a60b8696ef56f", func := "bazaar/bazaarlaw18.PoolsActs", spec := "poolsActs", unfollowed := true, recurses := true, plainKeys := false, apart := false }
def PoolsActsSaid : Prop := poolsActsRow.holds Try.pinned (OpenSpec.ofChange poolsActsSpec)

/-- ITS FALSE NEIGHBOUR: 'it returns false'. Refute it at one input. -/
def poolsActsWrong : ChangeSpec := { name := "poolsActs", fn := fun _ => fun
  | [d1, d2, d3] => { results := [.lit (.bool false)], args := [d1, d2, d3] }
  | _ => none }
def PoolsActsWrongFalsely : Prop := poolsActsRow.holds Try.pinned (OpenSpec.ofChange poolsActsWrong)

/-- 'bazaarlaw18.PoolsRefs': WHATEVER THE INPUT: true; the input reads as it did. -/
def poolsRefsSpec : ChangeSpec := { name := "poolsRefs", fn := fun _ => fun
  | [d1, d2] => { results := [.lit (.bool true)], args := [d1, d2] }
  | _ => none }
def poolsRefsRow : OpenClaim := { program := "ytkjecokkdbapkaa", sum := "07e9ae51f9e021ba24446d5cbd31768ebb22609180b2e126179a60b8696ef56f", func := "bazaar/bazaarlaw18.PoolsRefs", spec := "poolsRefs", unfollowed := true, recurses := true, plainKeys := false, apart := false }
def PoolsRefsSaid : Prop := poolsRefsRow.holds Try.pinned (OpenSpec.ofChange poolsRefsSpec)

/-- ITS FALSE NEIGHBOUR: 'it returns false'. Refute it at one input. -/
def poolsRefsWrong : ChangeSpec := { name := "poolsRefs", fn := fun _ => fun
  | [d1, d2] => { results := [.lit (.bool false)], args := [d1, d2] }
  | _ => none }
def PoolsRefsWrongFalsely : Prop := poolsRefsRow.holds Try.pinned (OpenSpec.ofChange poolsRefsWrong)

/-- 'bazaarlaw19.VipsActs': WHATEVER THE INPUT: true; the input reads as it did. -/
def vipsActsSpec : ChangeSpec := { name := "vipsActs", fn := fun _ => fun
  | [d1, d2, d3, d4] => { results := [.lit (.bool true)], args := [d1, d2, d3, d4] }
  | _ => none }
def vipsActsRow : OpenClaim := { program := "ytkjecokkdbapkaa", sum := "07e9ae51f9e021ba24446d5cbd31768ebb22609180b2e126179a60b8696ef56f", func := "bazaar/bazaarlaw19.VipsActs", spec := "vipsActs", unfollowed := true, recurses := true, plainKeys := false, apart := false }
def VipsActsSaid : Prop := vipsActsRow.holds Try.pinned (OpenSpec.ofChange vipsActsSpec)

/-- ITS FALSE NEIGHBOUR: 'it returns false'. Refute it at one input. -/
def vipsActsWrong : ChangeSpec := { name := "vipsActs", fn := fun _ => fun
  | [d1, d2, d3, d4] => { results := [.lit (.bool false)], args := [d1, d2, d3, d4] }
  | _ => none }
def VipsActsWrongFalsely : Prop := vipsActsRow.holds Try.pinned (OpenSpec.ofChange vipsActsWrong)

/-- 'bazaarlaw19.VipsPools': WHATEVER THE INPUT: true; the input reads as it did. -/
def vipsPoolsSpec : ChangeSpec := { name := "vipsPools", fn := fun _ => fun
  | [d1, d2, d3] => { results := [.lit (.bool true)], args := [d1, d2, d3] }
  | _ => none }
def vipsPoolsRow : OpenClaim := { program := "ytkjecokkdbapkaa", sum := "07e9ae51f9e021ba24446d5cbd31768ebb22609180b2e126179a60b8696ef56f", func := "bazaar/bazaarlaw19.VipsPools", spec := "vipsPools", unfollowed := true, recurses := true, plainKeys := false, apart := false }
def VipsPoolsSaid : Prop := vipsPoolsRow.holds Try.pinned (OpenSpec.ofChange vipsPoolsSpec)

/-- ITS FALSE NEIGHBOUR: 'it returns false'. Refute it at one input. -/
def vipsPoolsWrong : ChangeSpec := { name := "vipsPools", fn := fun _ => fun
  | [d1, d2, d3] => { results := [.lit (.bool false)], args := [d1, d2, d3] }
  | _ => none }
def VipsPoolsWrongFalsely : Prop := vipsPoolsRow.holds Try.pinned (OpenSpec.ofChange vipsPoolsWrong)

/-- 'bazaarlaw16.CuckooFinds': WHATEVER THE INPUT: true; the input reads as it did. -/
def cuckooFindsSpec : ChangeSpec := { name := "cuckooFinds", fn := fun _ => fun
  | [d1, d2, d3] => { results := [.lit (.bool true)], args := [d1, d2, d3] }
  | _ => none }
def cuckooFindsRow : OpenClaim := { program := "ytkjecokkdbapkaa", sum := "07e9ae51f9e021ba24446d5cbd31768ebb22609180b2e126179a60b8696ef56f", func := "bazaar/bazaarlaw16.CuckooFinds", spec := "cuckooFinds", inPlace := ["internal/bytealg.Compare"], unfollowed := true, recurses := true, plainKeys := false, apart := false }
def CuckooFindsSaid : Prop := cuckooFindsRow.holds Try.pinned (OpenSpec.ofChange cuckooFindsSpec)

/-- ITS FALSE NEIGHBOUR: 'it returns false'. Refute it at one input. -/
def cuckooFindsWrong : ChangeSpec := { name := "cuckooFinds", fn := fun _ => fun
  | [d1, d2, d3] => { results := [.lit (.bool false)], args := [d1, d2, d3] }
  | _ => none }
def CuckooFindsWrongFalsely : Prop := cuckooFindsRow.holds Try.pinned (OpenSpec.ofChange cuckooFindsWrong)

/-- 'bazaarlaw16.CuckooTwins': WHATEVER THE INPUT: true; the input reads as it did. -/
def cuckooTwinsSpec : ChangeSpec := { name := "cuckooTwins", fn := fun _ => fun
  | [d1, d2] => { results := [.lit (.bool true)], args := [d1, d2] }
  | _ => none }
def cuckooTwinsRow : OpenClaim := { program := "ytkjecokkdbapkaa", sum := "07e9ae51f9e021ba24446d5cbd31768ebb22609180b2e126179a60b8696ef56f", func := "bazaar/bazaarlaw16.CuckooTwins", spec := "cuckooTwins", inPlace := ["internal/bytealg.Compare"], unfollowed := true, recurses := true, plainKeys := false, apart := false }
def CuckooTwinsSaid : Prop := cuckooTwinsRow.holds Try.pinned (OpenSpec.ofChange cuckooTwinsSpec)

/-- ITS FALSE NEIGHBOUR: 'it returns false'. Refute it at one input. -/
def cuckooTwinsWrong : ChangeSpec := { name := "cuckooTwins", fn := fun _ => fun
  | [d1, d2] => { results := [.lit (.bool false)], args := [d1, d2] }
  | _ => none }
def CuckooTwinsWrongFalsely : Prop := cuckooTwinsRow.holds Try.pinned (OpenSpec.ofChange cuckooTwinsWrong)

/-- 'bazaarlaw16.CuckooVips': WHATEVER THE INPUT: true; the input reads as it did. -/
def cuckooVipsSpec : ChangeSpec := { name := "cuckooVips", fn := fun _ => fun
  | [d1, d2] => { results := [.lit (.bool true)], args := [d1, d2] }
  | _ => none }
def cuckooVipsRow : OpenClaim := { program := "ytkjecokkdbapkaa", sum := "07e9ae51f9e021ba24446d5cbd31768ebb22609180b2e126179a60b8696ef56f", func := "bazaar/bazaarlaw16.CuckooVips", spec := "cuckooVips", inPlace := ["internal/bytealg.Compare"], unfollowed := true, recurses := true, plainKeys := false, apart := false }
def CuckooVipsSaid : Prop := cuckooVipsRow.holds Try.pinned (OpenSpec.ofChange cuckooVipsSpec)

/-- ITS FALSE NEIGHBOUR: 'it returns false'. Refute it at one input. -/
def cuckooVipsWrong : ChangeSpec := { name := "cuckooVips", fn := fun _ => fun
  | [d1, d2] => { results := [.lit (.bool false)], args := [d1, d2] }
  | _ => none }
def CuckooVipsWrongFalsely : Prop := cuckooVipsRow.holds Try.pinned (OpenSpec.ofChange cuckooVipsWrong)

/-- 'bazaarlaw16.CuckooAgain': WHATEVER THE INPUT: true; the input reads as it did. -/
def cuckooAgainSpec : ChangeSpec := { name := "cuckooAgain", fn := fun _ => fun
  | [d1, d2, d3] => { results := [.lit (.bool true)], args := [d1, d2, d3] }
  | _ => none }
def cuckooAgainRow : OpenClaim := { program := "ytkjecokkdbapkaa", sum := "07e9ae51f9e021ba24446d5cbd31768ebb22609180b2e126179a60b8696ef56f", func := "bazaar/bazaarlaw16.CuckooAgain", spec := "cuckooAgain", inPlace := ["internal/bytealg.Compare"], unfollowed := true, recurses := true, plainKeys := false, apart := false }
def CuckooAgainSaid : Prop := cuckooAgainRow.holds Try.pinned (OpenSpec.ofChange cuckooAgainSpec)

/-- ITS FALSE NEIGHBOUR: 'it returns false'. Refute it at one input. -/
def cuckooAgainWrong : ChangeSpec := { name := "cuckooAgain", fn := fun _ => fun
  | [d1, d2, d3] => { results := [.lit (.bool false)], args := [d1, d2, d3] }
  | _ => none }
def CuckooAgainWrongFalsely : Prop := cuckooAgainRow.holds Try.pinned (OpenSpec.ofChange cuckooAgainWrong)

/-- 'bazaarlaw16.CuckooActs': WHATEVER THE INPUT: true; the input reads as it did. -/
def cuckooActsSpec : ChangeSpec := { name := "cuckooActs", fn := fun _ => fun
  | [d1, d2] => { results := [.lit (.bool true)], args := [d1, d2] }
  | _ => none }
def cuckooActsRow : OpenClaim := { program := "ytkjecokkdbapkaa", sum := "07e9ae51f9e021ba24446d5cbd31768ebb22609180b2e126179a60b8696ef56f", func := "bazaar/bazaarlaw16.CuckooActs", spec := "cuckooActs", inPlace := ["internal/bytealg.Compare"], unfollowed := true, recurses := true, plainKeys := false, apart := false }
def CuckooActsSaid : Prop := cuckooActsRow.holds Try.pinned (OpenSpec.ofChange cuckooActsSpec)

/-- ITS FALSE NEIGHBOUR: 'it returns false'. Refute it at one input. -/
def cuckooActsWrong : ChangeSpec := { name := "cuckooActs", fn := fun _ => fun
  | [d1, d2] => { results := [.lit (.bool false)], args := [d1, d2] }
  | _ => none }
def CuckooActsWrongFalsely : Prop := cuckooActsRow.holds Try.pinned (OpenSpec.ofChange cuckooActsWrong)

/-- 'bazaarlaw16.CuckooFull': WHATEVER THE INPUT: true; the input reads as it did. -/
def cuckooFullSpec : ChangeSpec := { name := "cuckooFull", fn := fun _ => fun
  | [d1, d2] => { results := [.lit (.bool true)], args := [d1, d2] }
  | _ => none }
def cuckooFullRow : OpenClaim := { program := "ytkjecokkdbapkaa", sum := "07e9ae51f9e021ba24446d5cbd31768ebb22609180b2e126179a60b8696ef56f", func := "bazaar/bazaarlaw16.CuckooFull", spec := "cuckooFull", inPlace := ["internal/bytealg.Compare"], unfollowed := true, recurses := true, plainKeys := false, apart := false }
def CuckooFullSaid : Prop := cuckooFullRow.holds Try.pinned (OpenSpec.ofChange cuckooFullSpec)

/-- ITS FALSE NEIGHBOUR: 'it returns false'. Refute it at one input. -/
def cuckooFullWrong : ChangeSpec := { name := "cuckooFull", fn := fun _ => fun
  | [d1, d2] => { results := [.lit (.bool false)], args := [d1, d2] }
  | _ => none }
def CuckooFullWrongFalsely : Prop := cuckooFullRow.holds Try.pinned (OpenSpec.ofChange cuckooFullWrong)

/-- 'bazaarlaw22.UpdateKeeps': WHATEVER THE INPUT: true; the input reads as it did. -/
def updateKeepsSpec : ChangeSpec := { name := "updateKeeps", fn := fun _ => fun
  | [d1, d2] => { results := [.lit (.bool true)], args := [d1, d2] }
  | _ => none }
def updateKeepsRow : OpenClaim := { program := "ytkjecokkdbapkaa", sum := "07e9ae51f9e021ba24446d5cbd31768ebb22609180b2e126179a60b8696ef56f", func := "bazaar/bazaarlaw22.UpdateKeeps", spec := "updateKeeps", unfollowed := true, recurses := true, plainKeys := false, apart := false }
def UpdateKeepsSaid : Prop := updateKeepsRow.holds Try.pinned (OpenSpec.ofChange updateKeepsSpec)

/-- ITS FALSE NEIGHBOUR: 'it returns false'. Refute it at one input. -/
def updateKeepsWrong : ChangeSpec := { name := "updateKeeps", fn := fun _ => fun
  | [d1, d2] => { results := [.lit (.bool false)], args := [d1, d2] }
  | _ => none }
def UpdateKeepsWrongFalsely : Prop := updateKeepsRow.holds Try.pinned (OpenSpec.ofChange updateKeepsWrong)

/-- 'bazaarlaw22.UpdateEnds': WHATEVER THE INPUT: true; the input reads as it did. -/
def updateEndsSpec : ChangeSpec := { name := "updateEnds", fn := fun _ => fun
  | [d1, d2] => { results := [.lit (.bool true)], args := [d1, d2] }
  | _ => none }
def updateEndsRow : OpenClaim := { program := "ytkjecokkdbapkaa", sum := "07e9ae51f9e021ba24446d5cbd31768ebb22609180b2e126179a60b8696ef56f", func := "bazaar/bazaarlaw22.UpdateEnds", spec := "updateEnds", unfollowed := true, recurses := true, plainKeys := false, apart := false }
def UpdateEndsSaid : Prop := updateEndsRow.holds Try.pinned (OpenSpec.ofChange updateEndsSpec)

/-- ITS FALSE NEIGHBOUR: 'it returns false'. Refute it at one input. -/
def updateEndsWrong : ChangeSpec := { name := "updateEnds", fn := fun _ => fun
  | [d1, d2] => { results := [.lit (.bool false)], args := [d1, d2] }
  | _ => none }
def UpdateEndsWrongFalsely : Prop := updateEndsRow.holds Try.pinned (OpenSpec.ofChange updateEndsWrong)

/-- 'bazaarlaw22.UpdateMarks': WHATEVER THE INPUT: true; the input reads as it did. -/
def updateMarksSpec : ChangeSpec := { name := "updateMarks", fn := fun _ => fun
  | [d1, d2] => { results := [.lit (.bool true)], args := [d1, d2] }
  | _ => none }
def updateMarksRow : OpenClaim := { program := "ytkjecokkdbapkaa", sum := "07e9ae51f9e021ba24446d5cbd31768ebb22609180b2e126179a60b8696ef56f", func := "bazaar/bazaarlaw22.UpdateMarks", spec := "updateMarks", unfollowed := true, recurses := true, plainKeys := false, apart := false }
def UpdateMarksSaid : Prop := updateMarksRow.holds Try.pinned (OpenSpec.ofChange updateMarksSpec)

/-- ITS FALSE NEIGHBOUR: 'it returns false'. Refute it at one input. -/
def updateMarksWrong : ChangeSpec := { name := "updateMarks", fn := fun _ => fun
  | [d1, d2] => { results := [.lit (.bool false)], args := [d1, d2] }
  | _ => none }
def UpdateMarksWrongFalsely : Prop := updateMarksRow.holds Try.pinned (OpenSpec.ofChange updateMarksWrong)

/-- 'bazaarlaw21.WheelActs': WHATEVER THE INPUT: true; the input reads as it did. -/
def wheelActsSpec : ChangeSpec := { name := "wheelActs", fn := fun _ => fun
  | [d1, d2] => { results := [.lit (.bool true)], args := [d1, d2] }
  | _ => none }
def wheelActsRow : OpenClaim := { program := "ytkjecokkdbapkaa", sum := "07e9ae51f9e021ba24446d5cbd31768ebb22609180b2e126179a60b8696ef56f", func := "bazaar/bazaarlaw21.WheelActs", spec := "wheelActs", unfollowed := true, recurses := true, plainKeys := false, apart := false }
def WheelActsSaid : Prop := wheelActsRow.holds Try.pinned (OpenSpec.ofChange wheelActsSpec)

/-- ITS FALSE NEIGHBOUR: 'it returns false'. Refute it at one input. -/
def wheelActsWrong : ChangeSpec := { name := "wheelActs", fn := fun _ => fun
  | [d1, d2] => { results := [.lit (.bool false)], args := [d1, d2] }
  | _ => none }
def WheelActsWrongFalsely : Prop := wheelActsRow.holds Try.pinned (OpenSpec.ofChange wheelActsWrong)

/- THE SECOND FORM. 'bulk': how many values and letters a reading holds, each counted each time it is reached (what is shared counts as often as it is met; a slice's spare places count too). A statement '..UptoSaid' is the law's where the arguments, and the package variables that the reading takes, are together of bulk at most 1048576: NARROWER than '..Said'. Prove '..Said' where nothing that the law and all that it calls make is longer than what came in: it says more and counts as full. Else prove '..UptoSaid'. A law counts once. -/
mutual
def uptoBulk {H : Type} : DataW H → Nat
  | .lit (.string bytes) => bytes.length + 1
  | .lit _ => 1
  | .nil => 1
  | .ptr d => uptoBulk d + 1
  | .slice elems spare => uptoBulkAll elems + uptoBulkAll spare + 1
  | .agg parts => uptoBulkAll parts + 1
  | .iface _ d => uptoBulk d + 1
  | .map entries => uptoBulkEntries entries + 1
  | .held _ => 1
def uptoBulkAll {H : Type} : List (DataW H) → Nat
  | [] => 0
  | d :: r => uptoBulk d + uptoBulkAll r
def uptoBulkEntries {H : Type} : List (Lit × DataW H) → Nat
  | [] => 0
  | x :: r => uptoBulkEntry x + uptoBulkEntries r
def uptoBulkEntry {H : Type} : Lit × DataW H → Nat
  | (.string bytes, d) => bytes.length + uptoBulk d + 1
  | (_, d) => uptoBulk d + 1
 end
def uptoSmall : (H : Type) → List (DataW H) → Bool := fun _ ds => decide (uptoBulkAll ds ≤ 1048576)
def OpenSpec.upto (s : _root_.Go.ChangeSpec) : _root_.Go.OpenSpec := { _root_.Go.OpenSpec.ofChange s with cond := some uptoSmall }

/-- 'bazaarlaw19.VipsNumbers', WHERE WHAT IT READS IS OF BULK AT MOST 1048576: true; the input reads as it did. -/
def vipsNumbersUptoRow : OpenClaim := { program := "ytkjecokkdbapkaa", sum := "07e9ae51f9e021ba24446d5cbd31768ebb22609180b2e126179a60b8696ef56f", func := "bazaar/bazaarlaw19.VipsNumbers", spec := "vipsNumbers", unfollowed := true, recurses := true, plainKeys := false, apart := false, narrowed := true }
def VipsNumbersUptoSaid : Prop := vipsNumbersUptoRow.holds Try.pinned (OpenSpec.upto vipsNumbersSpec)

/-- 'bazaarlaw19.VipsKinds', WHERE WHAT IT READS IS OF BULK AT MOST 1048576: true; the input reads as it did. -/
def vipsKindsUptoRow : OpenClaim := { program := "ytkjecokkdbapkaa", sum := "07e9ae51f9e021ba24446d5cbd31768ebb22609180b2e126179a60b8696ef56f", func := "bazaar/bazaarlaw19.VipsKinds", spec := "vipsKinds", unfollowed := true, recurses := true, plainKeys := false, apart := false, narrowed := true }
def VipsKindsUptoSaid : Prop := vipsKindsUptoRow.holds Try.pinned (OpenSpec.upto vipsKindsSpec)

/-- 'bazaarlaw18.PoolsActs', WHERE WHAT IT READS IS OF BULK AT MOST 1048576: true; the input reads as it did. -/
def poolsActsUptoRow : OpenClaim := { program := "ytkjecokkdbapkaa", sum := "07e9ae51f9e021ba24446d5cbd31768ebb22609180b2e126179a60b8696ef56f", func := "bazaar/bazaarlaw18.PoolsActs", spec := "poolsActs", unfollowed := true, recurses := true, plainKeys := false, apart := false, narrowed := true }
def PoolsActsUptoSaid : Prop := poolsActsUptoRow.holds Try.pinned (OpenSpec.upto poolsActsSpec)

/-- 'bazaarlaw18.PoolsRefs', WHERE WHAT IT READS IS OF BULK AT MOST 1048576: true; the input reads as it did. -/
def poolsRefsUptoRow : OpenClaim := { program := "ytkjecokkdbapkaa", sum := "07e9ae51f9e021ba24446d5cbd31768ebb22609180b2e126179a60b8696ef56f", func := "bazaar/bazaarlaw18.PoolsRefs", spec := "poolsRefs", unfollowed := true, recurses := true, plainKeys := false, apart := false, narrowed := true }
def PoolsRefsUptoSaid : Prop := poolsRefsUptoRow.holds Try.pinned (OpenSpec.upto poolsRefsSpec)

/-- 'bazaarlaw19.VipsActs', WHERE WHAT IT READS IS OF BULK AT MOST 1048576: true; the input reads as it did. -/
def vipsActsUptoRow : OpenClaim := { program := "ytkjecokkdbapkaa", sum := "07e9ae51f9e021ba24446d5cbd31768ebb22609180b2e126179a60b8696ef56f", func := "bazaar/bazaarlaw19.VipsActs", spec := "vipsActs", unfollowed := true, recurses := true, plainKeys := false, apart := false, narrowed := true }
def VipsActsUptoSaid : Prop := vipsActsUptoRow.holds Try.pinned (OpenSpec.upto vipsActsSpec)

/-- 'bazaarlaw19.VipsPools', WHERE WHAT IT READS IS OF BULK AT MOST 1048576: true; the input reads as it did. -/
def vipsPoolsUptoRow : OpenClaim := { program := "ytkjecokkdbapkaa", sum := "07e9ae51f9e021ba24446d5cbd31768ebb22609180b2e126179a60b8696ef56f", func := "bazaar/bazaarlaw19.VipsPools", spec := "vipsPools", unfollowed := true, recurses := true, plainKeys := false, apart := false, narrowed := true }
def VipsPoolsUptoSaid : Prop := vipsPoolsUptoRow.holds Try.pinned (OpenSpec.upto vipsPoolsSpec)

/-- 'bazaarlaw16.CuckooFinds', WHERE WHAT IT READS IS OF BULK AT MOST 1048576: true; the input reads as it did. -/
def cuckooFindsUptoRow : OpenClaim := { program := "ytkjecokkdbapkaa", sum := "07e9ae51f9e021ba24446d5cbd31768ebb22609180b2e126179a60b8696ef56f", func := "bazaar/bazaarlaw16.CuckooFinds", spec := "cuckooFinds", inPlace := ["internal/bytealg.Compare"], unfollowed := true, recurses := true, plainKeys := false, apart := false, narrowed := true }
def CuckooFindsUptoSaid : Prop := cuckooFindsUptoRow.holds Try.pinned (OpenSpec.upto cuckooFindsSpec)

/-- 'bazaarlaw16.CuckooTwins', WHERE WHAT IT READS IS OF BULK AT MOST 1048576: true; the input reads as it did. -/
def cuckooTwinsUptoRow : OpenClaim := { program := "ytkjecokkdbapkaa", sum := "07e9ae51f9e021ba24446d5cbd31768ebb22609180b2e126179a60b8696ef56f", func := "bazaar/bazaarlaw16.CuckooTwins", spec := "cuckooTwins", inPlace := ["internal/bytealg.Compare"], unfollowed := true, recurses := true, plainKeys := false, apart := false, narrowed := true }
def CuckooTwinsUptoSaid : Prop := cuckooTwinsUptoRow.holds Try.pinned (OpenSpec.upto cuckooTwinsSpec)

/-- 'bazaarlaw16.CuckooVips', WHERE WHAT IT READS IS OF BULK AT MOST 1048576: true; the input reads as it did. -/
def cuckooVipsUptoRow : OpenClaim := { program := "ytkjecokkdbapkaa", sum := "07e9ae51f9e021ba24446d5cbd31768ebb22609180b2e126179a60b8696ef56f", func := "bazaar/bazaarlaw16.CuckooVips", spec := "cuckooVips", inPlace := ["internal/bytealg.Compare"], unfollowed := true, recurses := true, plainKeys := false, apart := false, narrowed := true }
def CuckooVipsUptoSaid : Prop := cuckooVipsUptoRow.holds Try.pinned (OpenSpec.upto cuckooVipsSpec)

/-- 'bazaarlaw16.CuckooAgain', WHERE WHAT IT READS IS OF BULK AT MOST 1048576: true; the input reads as it did. -/
def cuckooAgainUptoRow : OpenClaim := { program := "ytkjecokkdbapkaa", sum := "07e9ae51f9e021ba24446d5cbd31768ebb22609180b2e126179a60b8696ef56f", func := "bazaar/bazaarlaw16.CuckooAgain", spec := "cuckooAgain", inPlace := ["internal/bytealg.Compare"], unfollowed := true, recurses := true, plainKeys := false, apart := false, narrowed := true }
def CuckooAgainUptoSaid : Prop := cuckooAgainUptoRow.holds Try.pinned (OpenSpec.upto cuckooAgainSpec)

/-- 'bazaarlaw16.CuckooActs', WHERE WHAT IT READS IS OF BULK AT MOST 1048576: true; the input reads as it did. -/
def cuckooActsUptoRow : OpenClaim := { program := "ytkjecokkdbapkaa", sum := "07e9ae51f9e021ba24446d5cbd31768ebb22609180b2e126179a60b8696ef56f", func := "bazaar/bazaarlaw16.CuckooActs", spec := "cuckooActs", inPlace := ["internal/bytealg.Compare"], unfollowed := true, recurses := true, plainKeys := false, apart := false, narrowed := true }
def CuckooActsUptoSaid : Prop := cuckooActsUptoRow.holds Try.pinned (OpenSpec.upto cuckooActsSpec)

/-- 'bazaarlaw16.CuckooFull', WHERE WHAT IT READS IS OF BULK AT MOST 1048576: true; the input reads as it did. -/
def cuckooFullUptoRow : OpenClaim := { program := "ytkjecokkdbapkaa", sum := "07e9ae51f9e021ba24446d5cbd31768ebb22609180b2e126179a60b8696ef56f", func := "bazaar/bazaarlaw16.CuckooFull", spec := "cuckooFull", inPlace := ["internal/bytealg.Compare"], unfollowed := true, recurses := true, plainKeys := false, apart := false, narrowed := true }
def CuckooFullUptoSaid : Prop := cuckooFullUptoRow.holds Try.pinned (OpenSpec.upto cuckooFullSpec)

/-- 'bazaarlaw22.UpdateKeeps', WHERE WHAT IT READS IS OF BULK AT MOST 1048576: true; the input reads as it did. -/
def updateKeepsUptoRow : OpenClaim := { program := "ytkjecokkdbapkaa", sum := "07e9ae51f9e021ba24446d5cbd31768ebb22609180b2e126179a60b8696ef56f", func := "bazaar/bazaarlaw22.UpdateKeeps", spec := "updateKeeps", unfollowed := true, recurses := true, plainKeys := false, apart := false, narrowed := true }
def UpdateKeepsUptoSaid : Prop := updateKeepsUptoRow.holds Try.pinned (OpenSpec.upto updateKeepsSpec)

/-- 'bazaarlaw22.UpdateEnds', WHERE WHAT IT READS IS OF BULK AT MOST 1048576: true; the input reads as it did. -/
def updateEndsUptoRow : OpenClaim := { program := "ytkjecokkdbapkaa", sum := "07e9ae51f9e021ba24446d5cbd31768ebb22609180b2e126179a60b8696ef56f", func := "bazaar/bazaarlaw22.UpdateEnds", spec := "updateEnds", unfollowed := true, recurses := true, plainKeys := false, apart := false, narrowed := true }
def UpdateEndsUptoSaid : Prop := updateEndsUptoRow.holds Try.pinned (OpenSpec.upto updateEndsSpec)

/-- 'bazaarlaw22.UpdateMarks', WHERE WHAT IT READS IS OF BULK AT MOST 1048576: true; the input reads as it did. -/
def updateMarksUptoRow : OpenClaim := { program := "ytkjecokkdbapkaa", sum := "07e9ae51f9e021ba24446d5cbd31768ebb22609180b2e126179a60b8696ef56f", func := "bazaar/bazaarlaw22.UpdateMarks", spec := "updateMarks", unfollowed := true, recurses := true, plainKeys := false, apart := false, narrowed := true }
def UpdateMarksUptoSaid : Prop := updateMarksUptoRow.holds Try.pinned (OpenSpec.upto updateMarksSpec)

/-- 'bazaarlaw21.WheelActs', WHERE WHAT IT READS IS OF BULK AT MOST 1048576: true; the input reads as it did. -/
def wheelActsUptoRow : OpenClaim := { program := "ytkjecokkdbapkaa", sum := "07e9ae51f9e021ba24446d5cbd31768ebb22609180b2e126179a60b8696ef56f", func := "bazaar/bazaarlaw21.WheelActs", spec := "wheelActs", unfollowed := true, recurses := true, plainKeys := false, apart := false, narrowed := true }
def WheelActsUptoSaid : Prop := wheelActsUptoRow.holds Try.pinned (OpenSpec.upto wheelActsSpec)

end Rows
end Go.Proofs.Ytkjecokkdbapkaa
