import Derived.Test.YtkjecokkdbapkaaZzPActs
import Derived.Test.YtkjecokkdbapkaaZzOpen2
import Derived.Test.YtkjecokkdbapkaaProg
namespace Go.Proofs.Ytkjecokkdbapkaa
set_option linter.all false
open Go Go.Eng Go.RowKit
set_option maxRecDepth 20000
set_option maxHeartbeats 2000000
set_option linter.unusedVariables false
set_option linter.unusedSimpArgs false
attribute [local irreducible] WL W QL WA SP



theorem opensAdr : Opens Try.prog 30 encAdr (fun _ => True) :=
  Opens.via (Opens.struct2 (c0 := 1) (c1 := 16) Try.underlying30 rfl (by kernel_rfl) (Opens.bool Try.underlying4) rfl rfl (by kernel_rfl) (arr16_opens Try.underlying28 (by kernel_rfl) (by kernel_rfl) (Opens.u8 Try.underlying5)) rfl rfl (by kernel_rfl)) (fun q => ⟨q.1, q.2⟩) (fun q => by simp [encAdr]) (fun _ _ => trivial)
theorem opensDip : Opens Try.prog 54 encDip (fun _ => True) :=
  Opens.via (Opens.struct2 (c0 := 17) (c1 := 1) Try.underlying54 rfl (by kernel_rfl) opensAdr rfl rfl (by kernel_rfl) (Opens.u16 Try.underlying35) rfl rfl (by kernel_rfl)) (fun q => ⟨q.1, q.2⟩) (fun q => by simp [encDip]) (fun _ _ => trivial)
theorem opensMem : Opens Try.prog 57 encMem (fun _ => True) :=
  Opens.via (Opens.struct2 (c0 := 18) (c1 := 1) Try.underlying57 rfl (by kernel_rfl) opensDip rfl rfl (by kernel_rfl) (Opens.int Try.underlying3) rfl rfl (by kernel_rfl)) (fun q => ⟨q.1, q.2⟩) (fun q => by simp [encMem]) (fun _ _ => trivial)
theorem opensAct : Opens Try.prog 67 encAct (fun x => okI x.a ∧ okI x.b) :=
  Opens.via (Opens.struct3 (c0 := 1) (c1 := 1) (c2 := 1) Try.underlying67 rfl (by kernel_rfl) (Opens.int Try.underlying3) rfl rfl (by kernel_rfl) (Opens.int Try.underlying3) rfl rfl (by kernel_rfl) (Opens.int Try.underlying3) rfl rfl (by kernel_rfl)) (fun q => ⟨q.1, q.2.1, q.2.2⟩) (fun q => rfl) (fun _ h => ⟨h.2.1, h.2.2⟩)
end Go.Proofs.Ytkjecokkdbapkaa
