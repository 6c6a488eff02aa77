/- The walks of Has and Area. -/
import Derived.Test.YtmeiboajpbflcaaGreatDoorAreas
import Derived.Test.YtmeiboajpbflcaaGreatDoorNames
namespace Go.Proofs.YtmeiboajpbflcaaGreatDoor
open Go.RowKit Tab

set_option maxRecDepth 100000 in
set_option maxHeartbeats 1000000 in
theorem Has_any (s1 r1 c1 n1 m1 s r c : Int) (w : World) : Calls Tryz.prog 26 #[.agg #[.int .i64 s1, .int .i64 r1, .int .i64 c1, .int .i64 n1, .int .i64 m1], .agg #[.int .i64 s, .int .i64 r, .int .i64 c]] w (Ret (.bool (hasB ⟨s1, r1, c1, n1, m1⟩ s r c)) w) := by
  have cM : ∀ W, Calls Tryz.prog 25 #[.agg #[.int .i64 s1, .int .i64 r1, .int .i64 c1, .int .i64 n1, .int .i64 m1], .agg #[.int .i64 s, .int .i64 r, .int .i64 c, .int .i64 1, .int .i64 1]] W (Ret (.tuple #[areaV (meetA ⟨s1, r1, c1, n1, m1⟩ ⟨s, r, c, 1, 1⟩), .bool (hasB ⟨s1, r1, c1, n1, m1⟩ s r c)]) W) := fun W => Meet_any ⟨s1, r1, c1, n1, m1⟩ ⟨s, r, c, 1, 1⟩ W
  generalize hasB ⟨s1, r1, c1, n1, m1⟩ s r c = N at *
  generalize meetA ⟨s1, r1, c1, n1, m1⟩ ⟨s, r, c, 1, 1⟩ = M at *
  go_enter Tryz.func26, Tryz.ntmps26
  go_wp2_with fail
  refine (cM _).mono ?_
  rintro e w1 ⟨rfl, hb1⟩
  have hb0 : Below w.heap.size w w1 := (by repeat' (first | with_reducible assumption | with_reducible exact Below.refl _ _ | with_reducible refine allocB ?_ | with_reducible refine setB ?_ ?_ | with_reducible refine drewB ?_ | with_reducible refine after ?_ (by assumption) | (simp; omega) | omega))
  clear hb1 cM
  unfold areaV
  go_wp2
  go_ret
  exact Ret.mk' rfl (by repeat' (first | with_reducible assumption | with_reducible exact Below.refl _ _ | with_reducible refine allocB ?_ | with_reducible refine setB ?_ ?_ | with_reducible refine drewB ?_ | with_reducible refine after ?_ (by assumption) | (simp; omega) | omega))
end Go.Proofs.YtmeiboajpbflcaaGreatDoor
