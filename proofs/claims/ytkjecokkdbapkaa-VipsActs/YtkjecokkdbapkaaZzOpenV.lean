import Derived.Test.YtkjecokkdbapkaaZzVActs
import Derived.Test.YtkjecokkdbapkaaZzOpen3
import Derived.Test.YtkjecokkdbapkaaProg
namespace Go.Proofs.Ytkjecokkdbapkaa
set_option linter.all false
open Go Go.Eng Go.RowKit
set_option maxRecDepth 20000
set_option maxHeartbeats 2000000
set_option linter.unusedVariables false
set_option linter.unusedSimpArgs false
attribute [local irreducible] WL W QL WA SP



theorem opensAdr : Opens Try.prog 30 encAdr (fun _ => True) :=
  Opens.via (Opens.struct2 (c0 := 1) (c1 := 16) Try.underlying30 rfl (by kernel_rfl) (Opens.bool Try.underlying4) rfl rfl (by kernel_rfl) (arr16_opens Try.underlying28 (by kernel_rfl) (by kernel_rfl) (Opens.u8 Try.underlying5)) rfl rfl (by kernel_rfl)) (fun q => ⟨q.1, q.2⟩) (fun q => by simp [encAdr]) (fun _ _ => trivial)
theorem opensDip : Opens Try.prog 54 encDip (fun _ => True) :=
  Opens.via (Opens.struct2 (c0 := 17) (c1 := 1) Try.underlying54 rfl (by kernel_rfl) opensAdr rfl rfl (by kernel_rfl) (Opens.u16 Try.underlying35) rfl rfl (by kernel_rfl)) (fun q => ⟨q.1, q.2⟩) (fun q => by simp [encDip]) (fun _ _ => trivial)
theorem opensMem : Opens Try.prog 57 encMem (fun _ => True) :=
  Opens.via (Opens.struct2 (c0 := 18) (c1 := 1) Try.underlying57 rfl (by kernel_rfl) opensDip rfl rfl (by kernel_rfl) (Opens.int Try.underlying3) rfl rfl (by kernel_rfl)) (fun q => ⟨q.1, q.2⟩) (fun q => by simp [encMem]) (fun _ _ => trivial)
theorem opensVip : Opens Try.prog 42 encVip (fun _ => True) :=
  Opens.via (Opens.struct3 (c0 := 1) (c1 := 17) (c2 := 1) Try.underlying42 rfl (by kernel_rfl) (Opens.u8 Try.underlying5) rfl rfl (by kernel_rfl) opensAdr rfl rfl (by kernel_rfl) (Opens.u16 Try.underlying35) rfl rfl (by kernel_rfl)) (fun q => ⟨q.1, q.2.1, q.2.2⟩) (fun q => by simp [encVip]) (fun _ _ => trivial)
theorem opensKey : Opens Try.prog 37 encKey (fun _ => True) :=
  Opens.via (Opens.struct5 (c0 := 1) (c1 := 17) (c2 := 17) (c3 := 1) (c4 := 1) Try.underlying37 rfl (by kernel_rfl) (Opens.u8 Try.underlying5) rfl rfl (by kernel_rfl) opensAdr rfl rfl (by kernel_rfl) opensAdr rfl rfl (by kernel_rfl) (Opens.u16 Try.underlying35) rfl rfl (by kernel_rfl) (Opens.u16 Try.underlying35) rfl rfl (by kernel_rfl)) (fun q => ⟨q.1, q.2.1, q.2.2.1, q.2.2.2.1, q.2.2.2.2⟩) (fun q => by simp [encKey]) (fun _ _ => trivial)
theorem opensAct4 : OpensW Try.prog 94 encA (fun w x => Sli encMem 19 w x.a x.c x.ms) :=
  OpensW.via (enc' := encA) (ok' := fun w x => Sli encMem 19 w x.a x.c x.ms) (OpensW.struct4 (c0 := 1) (c1 := 19) (c2 := 1) (c3 := 1) Try.underlying94 rfl (by kernel_rfl) (Opens.toW (Opens.int Try.underlying3)) rfl rfl (by kernel_rfl) (Opens.toW opensVip) rfl rfl (by kernel_rfl) (OpensW.slice encM (by decide) Try.underlying52 (by kernel_rfl) (Opens.toW opensMem)) rfl rfl (by kernel_rfl) (Opens.toW (Opens.int Try.underlying3)) rfl rfl (by kernel_rfl)) (fun q : Int × Vip × SlV Mem × Int => (⟨q.1, q.2.1, q.2.2.1.a, q.2.2.1.c, q.2.2.1.xs, q.2.2.2⟩ : Act4)) (fun q => by simp [encA]) (fun _ _ h => h.2.2.1.1)
end Go.Proofs.Ytkjecokkdbapkaa
