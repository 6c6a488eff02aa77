/- dec.Read tells by a function of the text. Plain: the chapter's examples. No program in sight. -/
import Derived.Test.YtgnejohiagagmaaGreatDoorD3
import Derived.Test.YtgnejohiagagmaaGreatDoorG10
import Derived.Test.YtgnejohiagagmaaGreatDoorG13
import Derived.KernelRfl
namespace Go.Proofs.YtgnejohiagagmaaGreatDoor
open Go.RowKit Tab

theorem decIs : DecIs decED := fun s W hg hs => (decRead_any s hs W hg).mono fun _ _ h => ⟨(decReadD s.data.toList).1.1, (decReadD s.data.toList).1.2, h.1, h.2⟩
end Go.Proofs.YtgnejohiagagmaaGreatDoor

namespace Tab
open Go
def exT1 : Bs := [83, 85, 77, 40, 36, 65, 49, 58, 98, 50, 41, 42, 45, 49, 46, 53, 48]
def exL1 : List TokT := [(7, [83, 85, 77], 0), (8, [40], 3), (5, [36, 65, 49], 4), (8, [58], 7), (5, [98, 50], 8), (8, [41], 10), (8, [42], 11), (8, [45], 12), (1, [49, 46, 53, 48], 13)]
theorem ex_toks1 : tokensD decED exT1 = .ok exL1 := by kernel_rfl
def exT2 : Bs := [39, 77, 121, 32, 83, 104, 101, 101, 116, 39, 33, 65, 49, 38, 84, 91, 80, 114, 105, 99, 101, 93]
def exL2 : List TokT := [(5, [39, 77, 121, 32, 83, 104, 101, 101, 116, 39, 33, 65, 49], 0), (8, [38], 13), (9, [84, 91, 80, 114, 105, 99, 101, 93], 14)]
theorem ex_toks2 : tokensD decED exT2 = .ok exL2 := by kernel_rfl
def exT3 : Bs := [65, 57, 57, 57, 32, 60, 62, 34, 97, 34, 34, 98, 34]
def exL3 : List TokT := [(6, [65, 57, 57, 57], 0), (8, [60, 62], 5), (2, [97, 34, 98], 7)]
theorem ex_toks3 : tokensD decED exT3 = .ok exL3 := by kernel_rfl
def exM1 : List TokT := [(7, [83, 85, 77], 0), (8, [40], 0), (5, [36, 65, 49], 0), (8, [58], 0), (5, [98, 50], 0), (8, [41], 0), (8, [42], 0), (8, [45], 0), (1, [49, 46, 53, 48], 0)]
theorem ex_same1 : sameT exL1 exM1 = true := by decide +kernel
def exM2 : List TokT := [(5, [39, 77, 121, 32, 83, 104, 101, 101, 116, 39, 33, 65, 49], 0), (8, [38], 0), (9, [84, 91, 80, 114, 105, 99, 101, 93], 0)]
theorem ex_same2 : sameT exL2 exM2 = true := by decide +kernel
def exT4 : Bs := [49, 32, 43, 32, 63]
theorem ex_toks4 : tokensD decED exT4 = .error 4 := by kernel_rfl
theorem ex_print1 : printD decED exL3 = ([65, 57, 57, 57, 60, 62, 34, 97, 34, 34, 98, 34], 0) := by kernel_rfl
theorem ex_print2 : printD decED [(7, [102], 0)] = ([], 40) := by kernel_rfl
theorem ex_name_A999 : isNameD [65, 57, 57, 57] = true := by decide +kernel
theorem ex_name_A9 : isNameD [65, 57] = false := by decide +kernel
theorem ex_name_true : isNameD [116, 114, 117, 101] = false := by decide +kernel
theorem ex_name_9A : isNameD [57, 65] = false := by decide +kernel
end Tab
