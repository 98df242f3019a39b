/- wakes of layer 19, by the kernel: from a heap that holds the table of powers, whatever its type's number. -/
import Derived.Test.YtibeinbfhhoeiaaGreatDoorZS
namespace Go.Proofs.YtibeinbfhhoeiaaGreatDoor.Ab
open Go Go.Proofs
noncomputable section
def hkLib : FuncId → Option (List Value → Heap → AEnd) := fun g => match Nat.beq g 26 with
  | true => some hkItoa
  | false => match Nat.beq g 184 with
    | true => some hkCopy
    | false => match Nat.beq g 172 with
      | true => some hkStr
      | false => none
def tabH (t : TypeId) : Heap := ⟨Tr.set .lf 0 (.row tabV t .ro), Tryz.prog.globals.size⟩
def wakesN : Nat := 200000
theorem wakes_run (t : TypeId) : retIs isTrue ((run Tryz.prog hkLib wakesN).call 8 [] (tabH t)) = true := by kernel_rfl
end
end Go.Proofs.YtibeinbfhhoeiaaGreatDoor.Ab
