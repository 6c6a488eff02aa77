import Derived.Test.YtlpgigdegnbkmaaGreatDoorM20
import Derived.Test.YtlpgigdegnbkmaaGreatDoorM21
import Derived.Test.YtlpgigdegnbkmaaGreatDoorM19
namespace Go.Proofs.YtlpgigdegnbkmaaGreatDoor
open Go.RowKit Tab
theorem wantC_one (k : Int) : ∀ u ∈ ([.int .i64 k, .string ⟨#[]⟩, .int .i64 0, .int .i64 0, .bool false, .int .i64 0, .string ⟨#[]⟩, .int .i64 0, .int .i64 0, .bool false, .bool false, .bool false, .string ⟨#[]⟩, .int .i64 0, .int .i64 0, .bool false, .bool false, .bool false, .int .i64 0, .slice none 0 0] : List Value), u.oneCell' = true := by
 intro u hu
 simp only [List.mem_cons, List.not_mem_nil, or_false] at hu
 rcases hu with rfl | rfl | rfl | rfl | rfl | rfl | rfl | rfl | rfl | rfl | rfl | rfl | rfl | rfl | rfl | rfl | rfl | rfl | rfl | rfl <;> rfl
theorem kids_below {f : Nat} {w W : World} {a : Option Addr} {K : List NodeD} (h : KidsAt (NodeAt f w) w a K) (hb : Below w.heap.size w W) : KidsAt (NodeAt f W) W a K := h.imp id fun ⟨b, o, e1, e2, e3⟩ => ⟨b, o, e1, Nat.lt_of_lt_of_le e2 hb.size, fun i k hi => by
 obtain ⟨cs, r1, r2⟩ := e3 i k hi
 exact ⟨cs, fun j v hj => (hb.cell (p := ⟨b, o + i * 20 + j, none⟩) e2).trans (r1 j v hj), r2.below hb⟩⟩
theorem guardDec : Tryz.prog.eqGuardType Tryz.prog.depth 25 = false := by kernel_rfl
theorem guardRef : Tryz.prog.eqGuardType Tryz.prog.depth 27 = false := by kernel_rfl
theorem sameR_self (r : RefD) : sameR r r = true := by unfold sameR; simp
theorem empty_is2 (l : Bs) : l.isEmpty = (l == []) := by cases l <;> rfl
end Go.Proofs.YtlpgigdegnbkmaaGreatDoor
namespace Go.Proofs.YtlpgigdegnbkmaaGreatDoor
open Go.RowKit Tab
def bN (k : Int) (n : NodeD) (na : Option Addr) (L nc : Nat) : List Value := [.int .i64 k, .string ⟨n.text.toArray⟩, .int .i64 n.m, .int .i64 n.e, .bool n.b, .int .i64 n.err, .string n.ref.s, .int .i64 n.ref.row, .int .i64 n.ref.col, .bool n.ref.fr, .bool n.ref.fc, .bool n.ref.bad, .string n.far.s, .int .i64 n.far.row, .int .i64 n.far.col, .bool n.far.fr, .bool n.far.fc, .bool n.far.bad, .int .i64 n.rows, .slice na L nc]
def bZ (k : Int) : List Value := [.int .i64 k, .string ⟨#[]⟩, .int .i64 0, .int .i64 0, .bool false, .int .i64 0, .string ⟨#[]⟩, .int .i64 0, .int .i64 0, .bool false, .bool false, .bool false, .string ⟨#[]⟩, .int .i64 0, .int .i64 0, .bool false, .bool false, .bool false, .int .i64 0, .slice none 0 0]
def bW1m (n : NodeD) : List Value := [.int .i64 1, .string ⟨#[]⟩, .int .i64 n.m, .int .i64 n.e, .bool false, .int .i64 0, .string ⟨#[]⟩, .int .i64 0, .int .i64 0, .bool false, .bool false, .bool false, .string ⟨#[]⟩, .int .i64 0, .int .i64 0, .bool false, .bool false, .bool false, .int .i64 0, .slice none 0 0]
def bW2s (n : NodeD) : List Value := [.int .i64 2, .string ⟨n.text.toArray⟩, .int .i64 0, .int .i64 0, .bool false, .int .i64 0, .string ⟨#[]⟩, .int .i64 0, .int .i64 0, .bool false, .bool false, .bool false, .string ⟨#[]⟩, .int .i64 0, .int .i64 0, .bool false, .bool false, .bool false, .int .i64 0, .slice none 0 0]
def bW3b (n : NodeD) : List Value := [.int .i64 3, .string ⟨#[]⟩, .int .i64 0, .int .i64 0, .bool n.b, .int .i64 0, .string ⟨#[]⟩, .int .i64 0, .int .i64 0, .bool false, .bool false, .bool false, .string ⟨#[]⟩, .int .i64 0, .int .i64 0, .bool false, .bool false, .bool false, .int .i64 0, .slice none 0 0]
def bW4e (n : NodeD) : List Value := [.int .i64 4, .string ⟨#[]⟩, .int .i64 0, .int .i64 0, .bool false, .int .i64 n.err, .string ⟨#[]⟩, .int .i64 0, .int .i64 0, .bool false, .bool false, .bool false, .string ⟨#[]⟩, .int .i64 0, .int .i64 0, .bool false, .bool false, .bool false, .int .i64 0, .slice none 0 0]
def bW5r (n : NodeD) : List Value := [.int .i64 5, .string ⟨#[]⟩, .int .i64 0, .int .i64 0, .bool false, .int .i64 0, .string n.ref.s, .int .i64 n.ref.row, .int .i64 n.ref.col, .bool n.ref.fr, .bool n.ref.fc, .bool n.ref.bad, .string ⟨#[]⟩, .int .i64 0, .int .i64 0, .bool false, .bool false, .bool false, .int .i64 0, .slice none 0 0]
def bW6rt (n : NodeD) : List Value := [.int .i64 6, .string ⟨#[]⟩, .int .i64 0, .int .i64 0, .bool false, .int .i64 0, .string n.ref.s, .int .i64 n.ref.row, .int .i64 n.ref.col, .bool n.ref.fr, .bool n.ref.fc, .bool n.ref.bad, .string n.far.s, .int .i64 n.far.row, .int .i64 n.far.col, .bool n.far.fr, .bool n.far.fc, .bool n.far.bad, .int .i64 0, .slice none 0 0]
def bW7s (n : NodeD) : List Value := [.int .i64 7, .string ⟨n.text.toArray⟩, .int .i64 0, .int .i64 0, .bool false, .int .i64 0, .string ⟨#[]⟩, .int .i64 0, .int .i64 0, .bool false, .bool false, .bool false, .string ⟨#[]⟩, .int .i64 0, .int .i64 0, .bool false, .bool false, .bool false, .int .i64 0, .slice none 0 0]
def bW8s (n : NodeD) : List Value := [.int .i64 8, .string ⟨n.text.toArray⟩, .int .i64 0, .int .i64 0, .bool false, .int .i64 0, .string ⟨#[]⟩, .int .i64 0, .int .i64 0, .bool false, .bool false, .bool false, .string ⟨#[]⟩, .int .i64 0, .int .i64 0, .bool false, .bool false, .bool false, .int .i64 0, .slice none 0 0]
def bW9s (n : NodeD) : List Value := [.int .i64 9, .string ⟨n.text.toArray⟩, .int .i64 0, .int .i64 0, .bool false, .int .i64 0, .string ⟨#[]⟩, .int .i64 0, .int .i64 0, .bool false, .bool false, .bool false, .string ⟨#[]⟩, .int .i64 0, .int .i64 0, .bool false, .bool false, .bool false, .int .i64 0, .slice none 0 0]
def bW10s (n : NodeD) : List Value := [.int .i64 10, .string ⟨n.text.toArray⟩, .int .i64 0, .int .i64 0, .bool false, .int .i64 0, .string ⟨#[]⟩, .int .i64 0, .int .i64 0, .bool false, .bool false, .bool false, .string ⟨#[]⟩, .int .i64 0, .int .i64 0, .bool false, .bool false, .bool false, .int .i64 0, .slice none 0 0]
def bW11s (n : NodeD) : List Value := [.int .i64 11, .string ⟨n.text.toArray⟩, .int .i64 0, .int .i64 0, .bool false, .int .i64 0, .string ⟨#[]⟩, .int .i64 0, .int .i64 0, .bool false, .bool false, .bool false, .string ⟨#[]⟩, .int .i64 0, .int .i64 0, .bool false, .bool false, .bool false, .int .i64 0, .slice none 0 0]
def bW12s (n : NodeD) : List Value := [.int .i64 12, .string ⟨n.text.toArray⟩, .int .i64 0, .int .i64 0, .bool false, .int .i64 0, .string ⟨#[]⟩, .int .i64 0, .int .i64 0, .bool false, .bool false, .bool false, .string ⟨#[]⟩, .int .i64 0, .int .i64 0, .bool false, .bool false, .bool false, .int .i64 0, .slice none 0 0]
def bW13w (n : NodeD) : List Value := [.int .i64 13, .string ⟨#[]⟩, .int .i64 0, .int .i64 0, .bool false, .int .i64 0, .string ⟨#[]⟩, .int .i64 0, .int .i64 0, .bool false, .bool false, .bool false, .string ⟨#[]⟩, .int .i64 0, .int .i64 0, .bool false, .bool false, .bool false, .int .i64 n.rows, .slice none 0 0]
def bW14s (n : NodeD) : List Value := [.int .i64 14, .string ⟨n.text.toArray⟩, .int .i64 0, .int .i64 0, .bool false, .int .i64 0, .string ⟨#[]⟩, .int .i64 0, .int .i64 0, .bool false, .bool false, .bool false, .string ⟨#[]⟩, .int .i64 0, .int .i64 0, .bool false, .bool false, .bool false, .int .i64 0, .slice none 0 0]
def bW16s (n : NodeD) : List Value := [.int .i64 16, .string ⟨n.text.toArray⟩, .int .i64 0, .int .i64 0, .bool false, .int .i64 0, .string ⟨#[]⟩, .int .i64 0, .int .i64 0, .bool false, .bool false, .bool false, .string ⟨#[]⟩, .int .i64 0, .int .i64 0, .bool false, .bool false, .bool false, .int .i64 0, .slice none 0 0]
def bW6r (n : NodeD) : List Value := [.int .i64 6, .string ⟨#[]⟩, .int .i64 0, .int .i64 0, .bool false, .int .i64 0, .string n.ref.s, .int .i64 n.ref.row, .int .i64 n.ref.col, .bool n.ref.fr, .bool n.ref.fc, .bool n.ref.bad, .string ⟨#[]⟩, .int .i64 0, .int .i64 0, .bool false, .bool false, .bool false, .int .i64 0, .slice none 0 0]
attribute [go_sem] bN bZ bW1m bW2s bW3b bW4e bW5r bW6rt bW7s bW8s bW9s bW10s bW11s bW12s bW13w bW14s bW16s bW6r
end Go.Proofs.YtlpgigdegnbkmaaGreatDoor
