/- How a reference is written, in plain Lean. No program in sight. -/
import Derived.Test.YtmeiboajpbflcaaGreatDoorText
import Derived.Lib.ReplaceLaws
import Derived.Lib.ItoaLen
namespace Tab
open Go.Lib
def fixD (b : Bool) : Bs := if b then [36] else []
/-- a place's text, without its sheet. -/
def shortD (r : RefD) : Bs := fixD r.fc ++ colL r.col ++ fixD r.fr ++ itoa (r.row + 1)
/-- a right reference's text. -/
def longD (r : RefD) : Bs :=
  if r.s.data.toList.isEmpty then shortD r
  else if plainB r.s.data.toList then r.s.data.toList ++ [33] ++ shortD r
  else [39] ++ replaceAll r.s.data.toList [39] [39, 39] ++ [39] ++ [33] ++ shortD r
def textD (r : RefD) : Bs × Int := if r.right then (if r.bad then [35, 82, 69, 70, 33] else longD r, 0) else ([], 20)
theorem textD_no {r : RefD} (h : r.right = false) : textD r = ([], 20) := by rw [textD, h]; rfl
theorem textD_gone {r : RefD} (h : r.right = true) (hb : r.bad = true) : textD r = ([35, 82, 69, 70, 33], 0) := by rw [textD, h, hb]; rfl
theorem textD_yes {r : RefD} (h : r.right = true) (hb : r.bad = false) : textD r = (longD r, 0) := by rw [textD, h, hb]; rfl
end Tab
