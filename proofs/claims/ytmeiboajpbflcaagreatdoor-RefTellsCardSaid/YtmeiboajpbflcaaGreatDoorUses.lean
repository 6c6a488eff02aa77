/- Contracts in the form in which the laws' walks use them. -/
import Derived.Test.YtmeiboajpbflcaaGreatDoorAwake
import Derived.Test.YtmeiboajpbflcaaGreatDoorRefOf
import Derived.Test.YtmeiboajpbflcaaGreatDoorMoves
import Derived.Test.YtmeiboajpbflcaaGreatDoorMeets
namespace Go.Proofs.YtmeiboajpbflcaaGreatDoor
open Go.RowKit Tab

/-- a contract of Moved at a reference that is known. -/
theorem Moved_is {t : ByteArray} {R C : Int} {fr fc bad : Bool} {m n : Int} {t' : ByteArray} {R' C' : Int} {fr' fc' bad' : Bool} {e : Int} {w : World} (hg : Good w) (ht : t.size ≤ 9223372036854775807) (hR : Int64 R) (hC : Int64 C)
    (h : movedOf ⟨t, R, C, fr, fc, bad⟩ m n = (⟨t', R', C', fr', fc', bad'⟩, e)) (W : World) (hb : Below w.heap.size w W) :
    Calls Tryz.prog 18 #[.agg #[.string t, .int .i64 R, .int .i64 C, .bool fr, .bool fc, .bool bad], .int .i64 m, .int .i64 n] W (Ret (.tuple #[.agg #[.string t', .int .i64 R', .int .i64 C', .bool fr', .bool fc', .bool bad'], .int .i64 e]) W) := by
  have := Moved_any ⟨t, R, C, fr, fc, bad⟩ m n W (hg.below hb) ⟨ht, hR, hC⟩
  rw [h] at this
  exact this
theorem pick_is (c n : Int) (h : Int64 c) (hn : 1 ≤ n) (hn1 : n ≤ 1000000) (P : Int) (hP : pickI c n = P) (W : World) : Calls Tryz.prog 7 #[.int .i64 c, .int .i64 n] W (Still (.int .i64 P) W) := by
  rw [← hP]; exact pick_any c n W h.1 h.2 hn hn1
theorem Meet_is {a1 a2 a3 a4 a5 b1 b2 b3 b4 b5 c1 c2 c3 c4 c5 : Int} {B : Bool} (h : meetA ⟨a1, a2, a3, a4, a5⟩ ⟨b1, b2, b3, b4, b5⟩ = ⟨c1, c2, c3, c4, c5⟩) (h' : meetB ⟨a1, a2, a3, a4, a5⟩ ⟨b1, b2, b3, b4, b5⟩ = B) (W : World) :
    Calls Tryz.prog 25 #[.agg #[.int .i64 a1, .int .i64 a2, .int .i64 a3, .int .i64 a4, .int .i64 a5], .agg #[.int .i64 b1, .int .i64 b2, .int .i64 b3, .int .i64 b4, .int .i64 b5]] W (Ret (.tuple #[.agg #[.int .i64 c1, .int .i64 c2, .int .i64 c3, .int .i64 c4, .int .i64 c5], .bool B]) W) := by
  have := Meet_any ⟨a1, a2, a3, a4, a5⟩ ⟨b1, b2, b3, b4, b5⟩ W
  rw [h, h'] at this
  exact this
theorem Has_is {a1 a2 a3 a4 a5 s r c : Int} {B : Bool} (h : hasB ⟨a1, a2, a3, a4, a5⟩ s r c = B) (W : World) :
    Calls Tryz.prog 26 #[.agg #[.int .i64 a1, .int .i64 a2, .int .i64 a3, .int .i64 a4, .int .i64 a5], .agg #[.int .i64 s, .int .i64 r, .int .i64 c]] W (Ret (.bool B) W) := by
  rw [← h]; exact Has_any a1 a2 a3 a4 a5 s r c W
theorem MkArea_is (a : AreaD) (h1 : Int64 a.sheet) (h2 : Int64 a.row) (h3 : Int64 a.col) (h4 : Int64 a.rows) (h5 : Int64 a.cols) {x1 x2 x3 x4 x5 : Int} (h : mkArea a = ⟨x1, x2, x3, x4, x5⟩) (W : World) :
    Calls Tryz.prog 23 #[.agg #[.int .i64 a.sheet, .int .i64 a.row, .int .i64 a.col, .int .i64 a.rows, .int .i64 a.cols]] W (Ret (.agg #[.int .i64 x1, .int .i64 x2, .int .i64 x3, .int .i64 x4, .int .i64 x5]) W) := by
  have := RefArea_any a.sheet a.row a.col a.rows a.cols W h1 h2 h3 h4 h5
  rw [show (⟨a.sheet, a.row, a.col, a.rows, a.cols⟩ : AreaD) = a from rfl, h] at this
  exact this
theorem Area_is {t : ByteArray} {R C : Int} {x y z : Bool} {u : ByteArray} {P Q : Int} {x' y' z' : Bool} {s a1 a2 a3 a4 a5 e : Int} {w : World} (hg : Good w) (ha : RefIn ⟨t, R, C, x, y, z⟩) (hb : RefIn ⟨u, P, Q, x', y', z'⟩)
    (h : areaOf ⟨t, R, C, x, y, z⟩ ⟨u, P, Q, x', y', z'⟩ s = (⟨a1, a2, a3, a4, a5⟩, e)) (W : World) (hB : Below w.heap.size w W) :
    Calls Tryz.prog 20 #[.agg #[.string t, .int .i64 R, .int .i64 C, .bool x, .bool y, .bool z], .agg #[.string u, .int .i64 P, .int .i64 Q, .bool x', .bool y', .bool z'], .int .i64 s] W (Ret (.tuple #[.agg #[.int .i64 a1, .int .i64 a2, .int .i64 a3, .int .i64 a4, .int .i64 a5], .int .i64 e]) W) := by
  have := Area_any ⟨t, R, C, x, y, z⟩ ⟨u, P, Q, x', y', z'⟩ s W (hg.below hB) ha hb
  rw [h] at this
  exact this
theorem Text_is {t : ByteArray} {R C : Int} {x y z : Bool} {u : ByteArray} {e : Int} {w : World} (hg : Good w) (ht : t.size ≤ 9223372036854775807) (h : textD ⟨t, R, C, x, y, z⟩ = (u.data.toList, e)) (W : World) (hB : Below w.heap.size w W) :
    Calls Tryz.prog 15 #[.agg #[.string t, .int .i64 R, .int .i64 C, .bool x, .bool y, .bool z]] W (Ret (.tuple #[.string u, .int .i64 e]) W) := by
  have := Text_any ⟨t, R, C, x, y, z⟩ W (hg.below hB) ht
  rw [h] at this
  exact this
theorem Read_is {s : ByteArray} {t : ByteArray} {R C : Int} {x y z : Bool} {e : Int} {w : World} (hg : Good w) (hs : s.size ≤ 1000000) (h : readD s = (⟨t, R, C, x, y, z⟩, e)) (W : World) (hB : Below w.heap.size w W) :
    Calls Tryz.prog 9 #[.string s] W (Ret (.tuple #[.agg #[.string t, .int .i64 R, .int .i64 C, .bool x, .bool y, .bool z], .int .i64 e]) W) := by
  have := Read_any s W (hg.below hB) hs
  rw [h] at this
  exact this
/-- what RefOf makes may be. -/
theorem made_in {row col : Int} {x y z : Bool} {q : RefD} (h : RefMade row col x y z q) : RefIn q ∧ q.right = true ∧ q.s.size ≤ 30 := by
  rcases h with ⟨_, rfl⟩ | ⟨t, ht, rfl⟩
  · exact ⟨⟨by decide, by decide, by decide⟩, by decide, by decide⟩
  · have rR := pickI_range row 200 (by omega)
    have rC := pickI_range col 52 (by omega)
    have hts : t.size ≤ 30 := by rcases ht with rfl | h; decide; simp only [nameB, Bool.and_eq_true, decide_eq_true_eq] at h; rw [ba_size] at h; omega
    refine ⟨⟨by show t.size ≤ _; omega, by dsimp only; omega, by dsimp only; omega⟩, ?_, hts⟩
    rw [right_at t _ _ x y (by rcases ht with rfl | h; exact rfl; rw [h, Bool.or_true])]
    exact decide_eq_true (by omega)
end Go.Proofs.YtmeiboajpbflcaaGreatDoor
