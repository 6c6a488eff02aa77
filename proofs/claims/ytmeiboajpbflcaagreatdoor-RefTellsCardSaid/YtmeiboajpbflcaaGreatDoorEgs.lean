/- Chapter 2's examples, in plain Lean. No program in sight. -/
import Derived.Test.YtmeiboajpbflcaaGreatDoorReadD
import Derived.Test.YtmeiboajpbflcaaGreatDoorWrite
import Derived.KernelRfl
namespace Tab
open Go
def egText : RefD := ⟨⟨#[73, 116, 39, 115]⟩, 4, 27, true, true, false⟩
def egB3 : RefD := ⟨⟨#[]⟩, 2, 1, false, false, false⟩
theorem eg1 : textD egText = ([39, 73, 116, 39, 39, 115, 39, 33, 36, 65, 66, 36, 53], 0) := by decide +kernel
theorem eg2 : readD ⟨#[98, 51]⟩ = (egB3, 0) := by kernel_rfl
theorem eg3 : readD ⟨#[66, 48]⟩ = (RefD.zero, 20) := by kernel_rfl
theorem eg4 : readD ⟨#[66, 48, 51]⟩ = (RefD.zero, 20) := by kernel_rfl
theorem eg5 : readD ⟨#[39, 39, 33, 65, 49]⟩ = (RefD.zero, 20) := by kernel_rfl
theorem eg6 : areaOf ⟨⟨#[]⟩, 4, 2, false, false, false⟩ ⟨⟨#[]⟩, 6, 0, false, false, false⟩ 1 = (⟨1, 4, 0, 3, 3⟩, 0) := by kernel_rfl
theorem eg7 : meetA ⟨1, 4, 0, 3, 3⟩ ⟨1, 5, 1, 9, 9⟩ = ⟨1, 5, 1, 2, 2⟩ := by kernel_rfl
theorem eg7b : meetB ⟨1, 4, 0, 3, 3⟩ ⟨1, 5, 1, 9, 9⟩ = true := by kernel_rfl
theorem eg8 : movedOf egB3 (-2) 1 = (⟨⟨#[]⟩, 0, 2, false, false, false⟩, 0) := by kernel_rfl
theorem eg9 : movedOf egB3 (-3) 1 = (RefD.zero, 20) := by kernel_rfl
theorem eg10 : colOf [97, 90] = some 51 := by decide +kernel
theorem eg11 : hasB ⟨1, 4, 0, 3, 3⟩ 1 6 2 = true := by kernel_rfl
theorem eg12 : hasB ⟨1, 4, 0, 3, 3⟩ 0 6 2 = false := by kernel_rfl
theorem eg13 : rightB [] 2 1 false false false = true := by kernel_rfl
theorem eg14 : rightB [] 1 0 false false true = false := by kernel_rfl
theorem eg15 : colL 51 = [65, 90] ∧ colE 51 = 0 := by decide +kernel
end Tab
