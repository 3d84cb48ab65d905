/-
  Joined: JE0, JE1, JE2.
-/
import Derived.Test.YtakjligkeplohaaGreatDoorPFL3
set_option linter.unusedVariables false
set_option linter.unusedSimpArgs false
/-
  VmFuel: what the machine comes to, for 0 to 25 calls more.
-/
namespace Go.HL
set_option maxRecDepth 1000000
theorem fuE0 : fuEnd 0 = some (0, 3, 0) := by kernel_rfl
theorem fuE1 : fuEnd 1 = some (0, 3, 8) := by kernel_rfl
theorem fuE2 : fuEnd 2 = some (0, 3, 16) := by kernel_rfl
theorem fuE3 : fuEnd 3 = some (0, 3, 24) := by kernel_rfl
theorem fuE4 : fuEnd 4 = some (0, 3, 32) := by kernel_rfl
theorem fuE5 : fuEnd 5 = some (0, 3, 40) := by kernel_rfl
theorem fuE6 : fuEnd 6 = some (0, 3, 48) := by kernel_rfl
theorem fuE7 : fuEnd 7 = some (0, 3, 56) := by kernel_rfl
theorem fuE8 : fuEnd 8 = some (0, 3, 64) := by kernel_rfl
theorem fuE9 : fuEnd 9 = some (0, 3, 72) := by kernel_rfl
theorem fuE10 : fuEnd 10 = some (0, 3, 80) := by kernel_rfl
theorem fuE11 : fuEnd 11 = some (0, 3, 88) := by kernel_rfl
theorem fuE12 : fuEnd 12 = some (0, 3, 96) := by kernel_rfl
theorem fuE13 : fuEnd 13 = some (0, 3, 104) := by kernel_rfl
theorem fuE14 : fuEnd 14 = some (0, 3, 112) := by kernel_rfl
theorem fuE15 : fuEnd 15 = some (0, 3, 120) := by kernel_rfl
theorem fuE16 : fuEnd 16 = some (0, 3, 128) := by kernel_rfl
theorem fuE17 : fuEnd 17 = some (0, 3, 136) := by kernel_rfl
theorem fuE18 : fuEnd 18 = some (0, 3, 144) := by kernel_rfl
theorem fuE19 : fuEnd 19 = some (0, 3, 152) := by kernel_rfl
theorem fuE20 : fuEnd 20 = some (0, 3, 160) := by kernel_rfl
theorem fuE21 : fuEnd 21 = some (0, 3, 168) := by kernel_rfl
theorem fuE22 : fuEnd 22 = some (0, 3, 176) := by kernel_rfl
theorem fuE23 : fuEnd 23 = some (0, 3, 184) := by kernel_rfl
theorem fuE24 : fuEnd 24 = some (0, 3, 192) := by kernel_rfl
theorem fuE25 : fuEnd 25 = some (0, 3, 200) := by kernel_rfl
end Go.HL
/-
  VmFuel: what the machine comes to, for 26 to 39 calls more.
-/
namespace Go.HL
set_option maxRecDepth 1000000
theorem fuE26 : fuEnd 26 = some (0, 3, 208) := by kernel_rfl
theorem fuE27 : fuEnd 27 = some (0, 3, 216) := by kernel_rfl
theorem fuE28 : fuEnd 28 = some (0, 3, 224) := by kernel_rfl
theorem fuE29 : fuEnd 29 = some (0, 3, 232) := by kernel_rfl
theorem fuE30 : fuEnd 30 = some (0, 3, 240) := by kernel_rfl
theorem fuE31 : fuEnd 31 = some (0, 3, 248) := by kernel_rfl
theorem fuE32 : fuEnd 32 = some (0, 3, 256) := by kernel_rfl
theorem fuE33 : fuEnd 33 = some (0, 3, 264) := by kernel_rfl
theorem fuE34 : fuEnd 34 = some (0, 3, 272) := by kernel_rfl
theorem fuE35 : fuEnd 35 = some (0, 3, 280) := by kernel_rfl
theorem fuE36 : fuEnd 36 = some (0, 3, 288) := by kernel_rfl
theorem fuE37 : fuEnd 37 = some (0, 3, 296) := by kernel_rfl
theorem fuE38 : fuEnd 38 = some (0, 3, 304) := by kernel_rfl
theorem fuE39 : fuEnd 39 = some (0, 3, 312) := by kernel_rfl
end Go.HL
/-
  VmFuel: what the machine comes to, for 40 to 50 calls more.
-/
namespace Go.HL
set_option maxRecDepth 1000000
theorem fuE40 : fuEnd 40 = some (0, 3, 320) := by kernel_rfl
theorem fuE41 : fuEnd 41 = some (0, 3, 328) := by kernel_rfl
theorem fuE42 : fuEnd 42 = some (0, 3, 336) := by kernel_rfl
theorem fuE43 : fuEnd 43 = some (0, 3, 344) := by kernel_rfl
theorem fuE44 : fuEnd 44 = some (0, 3, 352) := by kernel_rfl
theorem fuE45 : fuEnd 45 = some (0, 3, 360) := by kernel_rfl
theorem fuE46 : fuEnd 46 = some (0, 3, 368) := by kernel_rfl
theorem fuE47 : fuEnd 47 = some (0, 3, 376) := by kernel_rfl
theorem fuE48 : fuEnd 48 = some (0, 3, 384) := by kernel_rfl
theorem fuE49 : fuEnd 49 = some (0, 3, 392) := by kernel_rfl
theorem fuE50 : fuEnd 50 = some (0, 3, 400) := by kernel_rfl
end Go.HL
