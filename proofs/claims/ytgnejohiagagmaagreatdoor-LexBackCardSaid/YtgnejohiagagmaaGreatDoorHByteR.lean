/- Bytes that came in, as a row. -/
import Derived.Test.YtgnejohiagagmaaGreatDoorG4
namespace Go.Proofs.YtgnejohiagagmaaGreatDoor
open Go.RowKit Tab

/-- bytes that came in: nil, or so many cells. -/
def ByteRow (w : World) (v : Value) (l : List Int) : Prop :=
  (v = .slice none 0 0 ∧ l = []) ∨ ∃ (a : Addr) (cap : Nat), v = .slice (some a) l.length cap ∧ l.length ≤ cap ∧ ∀ i, i < l.length → w.cell? (a.add i) = some (.int .u8 (l.getD i 0))
end Go.Proofs.YtgnejohiagagmaaGreatDoor
