/- wakes, by the kernel. -/
import Derived.Test.YtmlgmgjakhbhjaaGreatDoorZS
import Derived.Test.YtmlgmgjakhbhjaaGreatDoorProg
import Derived.Test.YtmlgmgjakhbhjaaGreatDoorZA6
namespace Go.Proofs.YtmlgmgjakhbhjaaGreatDoor.Ab
open Go Go.Proofs
theorem wakes_run : retIs isTrue ((run Tryz.prog (fun _ => none) 100000).call 8 [] ⟨.lf, Tryz.prog.globals.size⟩) = true := by kernel_rfl
end Go.Proofs.YtmlgmgjakhbhjaaGreatDoor.Ab
