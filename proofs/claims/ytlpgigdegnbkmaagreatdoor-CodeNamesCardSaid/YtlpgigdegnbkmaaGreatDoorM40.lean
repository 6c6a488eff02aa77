import Derived.Test.YtlpgigdegnbkmaaGreatDoorM46
import Derived.Test.YtlpgigdegnbkmaaGreatDoorM39
namespace Tab
theorem eg_a : compileD egA = some (codeOf egA) := by
 have h1 : rightT egA = true := by kernel_rfl
 have h2 : rightC (codeOf egA) = true := by kernel_rfl
 unfold compileD; rw [h1, h2]; rfl
theorem eg_b : compileD egB = some (codeOf egB) := by
 have h1 : rightT egB = true := by kernel_rfl
 have h2 : rightC (codeOf egB) = true := by kernel_rfl
 unfold compileD; rw [h1, h2]; rfl
theorem eg_c : compileD egC = some (codeOf egC) := by
 have h1 : rightT egC = true := by kernel_rfl
 have h2 : rightC (codeOf egC) = true := by kernel_rfl
 unfold compileD; rw [h1, h2]; rfl
theorem eg_none : compileD NodeD.none = none /\ errOf NodeD.none = 50 := by
 have h1 : rightT NodeD.none = false := by kernel_rfl
 unfold compileD errOf; rw [h1]; exact ⟨rfl, rfl⟩
theorem text_a : rightC (codeOf egA) = true := by kernel_rfl
theorem text_b : rightC (codeOf egB) = true := by kernel_rfl
theorem text_c : rightC (codeOf egC) = true := by kernel_rfl
theorem text_a' : textC (codeOf egA) = [98, 108, 111, 99, 107, 32, 48, 32, 40, 41, 10, 32, 32, 114, 101, 102, 32, 65, 49, 10, 32, 32, 117, 110, 108, 101, 115, 115, 32, 50, 32, 51, 10, 32, 32, 110, 117, 109, 32, 50, 10, 32, 32, 103, 111, 32, 49, 10, 32, 32, 116, 114, 117, 116, 104, 32, 48, 10] := by kernel_rfl
theorem text_b' : textC (codeOf egB) = [98, 108, 111, 99, 107, 32, 48, 32, 40, 41, 10, 32, 32, 110, 117, 109, 32, 50, 10, 32, 32, 107, 101, 101, 112, 32, 120, 10, 32, 32, 103, 101, 116, 32, 120, 10, 32, 32, 103, 101, 116, 32, 120, 10, 32, 32, 111, 112, 32, 43, 10, 32, 32, 102, 111, 114, 103, 101, 116, 32, 49, 10] := by kernel_rfl
theorem text_c' : textC (codeOf egC) = [98, 108, 111, 99, 107, 32, 48, 32, 40, 41, 10, 32, 32, 102, 117, 110, 99, 32, 49, 32, 59, 102, 10, 32, 32, 107, 101, 101, 112, 32, 102, 10, 32, 32, 103, 101, 116, 32, 102, 10, 32, 32, 102, 111, 114, 103, 101, 116, 32, 49, 10, 98, 108, 111, 99, 107, 32, 49, 32, 40, 110, 41, 10, 32, 32, 103, 101, 116, 32, 102, 10, 32, 32, 103, 101, 116, 32, 110, 10, 32, 32, 97, 112, 112, 108, 121, 32, 49, 10] := by kernel_rfl
theorem same_aa : sameC (codeOf egA) (codeOf egA) = true := (sameC_iff _ _).2 rfl
theorem same_ab : sameC (codeOf egA) (codeOf egB) = false := by kernel_rfl
theorem none_wrong : rightC ⟨[], []⟩ = false := by kernel_rfl
end Tab
namespace Go.Proofs.YtlpgigdegnbkmaaGreatDoor
open Go.RowKit Tab
theorem compile_is {n : NodeD} {c : CodeD} (h : compileD n = some c) {w : World} {e : Ending} {W : World} (hr : CodeRet w n e W) : Below w.heap.size w W /\ ∃ ga gc ha hc, e = .returned (.tuple #[codeV ga gc ha hc c, .int .i64 0]) /\ CodeIn W ga gc ha hc c /\ CodeSm c := by
 obtain ⟨hb, ⟨h1, _⟩ | ⟨c', ga, gc, ha, hc, h1, h2, h3, h4⟩⟩ := hr
 ·rw [h] at h1; cases h1
 ·rw [h] at h1; injection h1 with h1; subst h1
  exact ⟨hb, ga, gc, ha, hc, h2, h3, h4⟩
theorem compile_no {n : NodeD} (h : compileD n = none) {w : World} {e : Ending} {W : World} (hr : CodeRet w n e W) : Below w.heap.size w W /\ e = .returned (.tuple #[noCode, .int .i64 (errOf n)]) := by
 obtain ⟨hb, ⟨_, h2⟩ | ⟨c', ga, gc, ha, hc, h1, _⟩⟩ := hr
 ·exact ⟨hb, h2⟩
 ·rw [h] at h1; cases h1
end Go.Proofs.YtlpgigdegnbkmaaGreatDoor
