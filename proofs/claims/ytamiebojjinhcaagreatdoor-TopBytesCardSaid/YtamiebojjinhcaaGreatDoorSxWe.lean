/-
  works() by pieces: it is fetched.
-/
import Derived.Test.YtamiebojjinhcaaGreatDoorSxWb
set_option linter.unusedVariables false
namespace Go.Proofs.YtamiebojjinhcaaGreatDoor.Sx
set_option maxRecDepth 1000000 in
theorem piece6 : pieceOK (fstC (sndC (sndC (sndC (sndC (sndC (sndC bodyW))))))) t5 703 o5 t6 1052 o6 = true := by kernel_rfl
set_option maxRecDepth 1000000 in
theorem piece7 : lastOK (sndC (sndC (sndC (sndC (sndC (sndC (sndC bodyW))))))) t6 1052 o6 = true := by kernel_rfl
end Go.Proofs.YtamiebojjinhcaaGreatDoor.Sx
