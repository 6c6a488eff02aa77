import Derived.Test.YtlpgigdegnbkmaaGreatDoorM21
namespace Go.Proofs.YtlpgigdegnbkmaaGreatDoor
open Go.RowKit Tab Tryz
theorem wantC_one (k : Int) : ∀ u ∈ ([.int .i64 k, .string ⟨#[]⟩, .int .i64 0, .int .i64 0, .bool false, .int .i64 0, .string ⟨#[]⟩, .int .i64 0, .int .i64 0, .bool false, .bool false, .bool false, .string ⟨#[]⟩, .int .i64 0, .int .i64 0, .bool false, .bool false, .bool false, .int .i64 0, .slice none 0 0] : List Value), u.oneCell' = true := by
 intro u hu
 simp only [List.mem_cons, List.not_mem_nil, or_false] at hu
 rcases hu with rfl | rfl | rfl | rfl | rfl | rfl | rfl | rfl | rfl | rfl | rfl | rfl | rfl | rfl | rfl | rfl | rfl | rfl | rfl | rfl <;> rfl
theorem kids_below {f : Nat} {w W : World} {a : Option Addr} {K : List NodeD} (h : KidsAt (NodeAt f w) w a K) (hb : Below w.heap.size w W) : KidsAt (NodeAt f W) W a K := h.imp id fun ⟨b, o, e1, e2, e3⟩ => ⟨b, o, e1, Nat.lt_of_lt_of_le e2 hb.size, fun i k hi => by
 obtain ⟨cs, r1, r2⟩ := e3 i k hi
 exact ⟨cs, fun j v hj => (hb.cell (p := ⟨b, o + i * 20 + j, none⟩) e2).trans (r1 j v hj), r2.below hb⟩⟩
theorem guardDec : prog.eqGuardType prog.depth 25 = false := by kernel_rfl
theorem guardRef : prog.eqGuardType prog.depth 27 = false := by kernel_rfl
theorem empty_is2 (l : Bs) : l.isEmpty = (l == []) := by cases l <;> rfl
def bN (k : Int) (n : NodeD) (na : Option Addr) (L nc : Nat) : List Value := [.int .i64 k, .string ⟨n.text.toArray⟩, .int .i64 n.m, .int .i64 n.e, .bool n.b, .int .i64 n.err, .string n.ref.s, .int .i64 n.ref.row, .int .i64 n.ref.col, .bool n.ref.fr, .bool n.ref.fc, .bool n.ref.bad, .string n.far.s, .int .i64 n.far.row, .int .i64 n.far.col, .bool n.far.fr, .bool n.far.fc, .bool n.far.bad, .int .i64 n.rows, .slice na L nc]
def bW (k : Int) (s : Bs) (m e : Int) (b : Bool) (err : Int) (r t : RefD) (rows : Int) : List Value := [.int .i64 k, .string ⟨s.toArray⟩, .int .i64 m, .int .i64 e, .bool b, .int .i64 err, .string r.s, .int .i64 r.row, .int .i64 r.col, .bool r.fr, .bool r.fc, .bool r.bad, .string t.s, .int .i64 t.row, .int .i64 t.col, .bool t.fr, .bool t.fc, .bool t.bad, .int .i64 rows, .slice none 0 0]
def wC (k : Int) (x : NodeD) : List Value := bW k x.text x.m x.e x.b x.err x.ref x.far x.rows
def bZ (k : Int) : List Value := [.int .i64 k, .string ⟨#[]⟩, .int .i64 0, .int .i64 0, .bool false, .int .i64 0, .string ⟨#[]⟩, .int .i64 0, .int .i64 0, .bool false, .bool false, .bool false, .string ⟨#[]⟩, .int .i64 0, .int .i64 0, .bool false, .bool false, .bool false, .int .i64 0, .slice none 0 0]
attribute [go_sem] bN bZ bW wC
end Go.Proofs.YtlpgigdegnbkmaaGreatDoor
