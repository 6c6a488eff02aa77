/- The worlds in which all that the library's contracts ask of package variables holds; it stays so. -/
import Derived.Test.YtmeiboajpbflcaaGreatDoorBase
import Derived.Test.YtmeiboajpbflcaaGreatDoorText
import Derived.Test.YtmeiboajpbflcaaGreatDoorShelf
import Derived.ChangeAgain
import Derived.Lib.LaidTab
import Derived.Lib.QuietBelow
namespace Go.Proofs.YtmeiboajpbflcaaGreatDoor
open Go.RowKit Go.Shelf

structure Good (w : World) : Prop where
  shaped : w.ShapedOpen Tryz.prog
  low : 8 ≤ w.heap.size
  u8 : Lib.Utf8Tabs 0 1 w
  pow : Lib.TabIs Tryz.prog w "internal/strconv.uint64pow10" .u64 Lib.pow10Tab
  syn : ∃ tp p, w.var? Tryz.prog "strconv.ErrSyntax" = some #[.iface tp p]
  rng : ∃ tp p, w.var? Tryz.prog "strconv.ErrRange" = some #[.iface tp p]

theorem gPow : Tryz.prog.globalNamed "internal/strconv.uint64pow10" = some 5 := by kernel_rfl
theorem gSyn : Tryz.prog.globalNamed "strconv.ErrSyntax" = some 3 := by kernel_rfl
theorem gRng : Tryz.prog.globalNamed "strconv.ErrRange" = some 4 := by kernel_rfl

theorem Good.below {w W : World} (h : Good w) (hb : Below w.heap.size w W) : Good W where
  shaped := h.shaped.keptBut (hb.frame (fun _ => False)) (fun _ hf => hf.elim)
  low := Nat.le_trans h.low hb.size
  u8 := Utf8Tabs_below h.u8 hb
  pow := var?_below hb gPow (Nat.lt_of_lt_of_le (by decide) h.low) h.pow
  syn := let ⟨t, p, e⟩ := h.syn; ⟨t, p, var?_below hb gSyn (Nat.lt_of_lt_of_le (by decide) h.low) e⟩
  rng := let ⟨t, p, e⟩ := h.rng; ⟨t, p, var?_below hb gRng (Nat.lt_of_lt_of_le (by decide) h.low) e⟩
end Go.Proofs.YtmeiboajpbflcaaGreatDoor
