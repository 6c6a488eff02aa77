/- What is kept: blocks of cells, and all that was there. No program's function in sight. -/
import Derived.Test.YtmeiboajpbflcaaGreatDoorBase
namespace Go.Proofs.YtmeiboajpbflcaaGreatDoor
open Go.RowKit

/-- blocks that hold these cells; and what was there in w is as it was. -/
def Keep (w : World) : List (Nat × Array Value) → World → Prop
  | [], W => Below w.heap.size w W
  | p :: L, W => Blk W p.1 p.2 ∧ Keep w L W
section
variable {w W W1 : World} {L : List (Nat × Array Value)} {p : Nat × Array Value} {b : Nat} {C : Array Value}
theorem Keep.bel : ∀ {L : List (Nat × Array Value)}, Keep w L W → Below w.heap.size w W
  | [], h => h
  | _ :: _, h => Keep.bel h.2
theorem Keep.hd (h : Keep w ((b, C) :: L) W) : Blk W b C := h.1
theorem Keep.tl (h : Keep w (p :: L) W) : Keep w L W := h.2
theorem Keep.below : ∀ {L : List (Nat × Array Value)}, Keep w L W → Below W.heap.size W W1 → Keep w L W1
  | [], h, hb => after h hb
  | _ :: _, h, hb => ⟨h.1.below hb, Keep.below h.2 hb⟩
theorem Keep.add (hk : Blk W b C) (h : Keep w L W) : Keep w ((b, C) :: L) W := ⟨hk, h⟩
theorem Keep.nil (h : Below w.heap.size w W) : Keep w [] W := h
theorem calls_keep {P : Program} {f : FuncId} {args : Array Value} {K : Ending → World → Prop} {W : World} (F : World → Prop) (hF : F W) (h : ∀ w1, F w1 → Calls P f args w1 K) : Calls P f args W K := h W hF
end
end Go.Proofs.YtmeiboajpbflcaaGreatDoor
