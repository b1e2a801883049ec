/-
  works() by pieces: a topic is created.
-/
import Derived.Test.YtamiebojjinhcaaGreatDoorSxWb
set_option linter.unusedVariables false
namespace Go.Proofs.YtamiebojjinhcaaGreatDoor.Sx
set_option maxRecDepth 1000000 in
theorem piece4 : pieceOK (fstC (sndC (sndC (sndC (sndC bodyW))))) t3 48 o3 t4 261 o4 = true := by kernel_rfl
end Go.Proofs.YtamiebojjinhcaaGreatDoor.Sx
