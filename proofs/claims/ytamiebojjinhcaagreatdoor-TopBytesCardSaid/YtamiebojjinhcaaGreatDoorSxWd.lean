/-
  works() by pieces: a batch is produced.
-/
import Derived.Test.YtamiebojjinhcaaGreatDoorSxWb
set_option linter.unusedVariables false
namespace Go.Proofs.YtamiebojjinhcaaGreatDoor.Sx
set_option maxRecDepth 1000000 in
theorem piece5 : pieceOK (fstC (sndC (sndC (sndC (sndC (sndC bodyW)))))) t4 261 o4 t5 703 o5 = true := by kernel_rfl
end Go.Proofs.YtamiebojjinhcaaGreatDoor.Sx
