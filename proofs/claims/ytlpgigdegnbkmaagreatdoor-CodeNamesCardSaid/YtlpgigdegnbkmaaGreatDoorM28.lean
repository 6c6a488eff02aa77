import Derived.Test.YtlpgigdegnbkmaaGreatDoorM19
namespace Go.Proofs.YtlpgigdegnbkmaaGreatDoor
open Go.RowKit Tab
def fX (k : Int) (x : InsD) : List Value := [.int .i64 k, .int .i64 x.a, .int .i64 x.b, .string ⟨x.s.toArray⟩, .int .i64 x.m, .int .i64 x.e, .string x.ref.s, .int .i64 x.ref.row, .int .i64 x.ref.col, .bool x.ref.fr, .bool x.ref.fc, .bool x.ref.bad, .string x.far.s, .int .i64 x.far.row, .int .i64 x.far.col, .bool x.far.fr, .bool x.far.fc, .bool x.far.bad]
def fZ (k : Int) : List Value := [.int .i64 k, .int .i64 0, .int .i64 0, .string ⟨#[]⟩, .int .i64 0, .int .i64 0, .string ⟨#[]⟩, .int .i64 0, .int .i64 0, .bool false, .bool false, .bool false, .string ⟨#[]⟩, .int .i64 0, .int .i64 0, .bool false, .bool false, .bool false]
def fB (k a b : Int) (s : Bs) (m e : Int) (r f : RefD) : List Value := [.int .i64 k, .int .i64 a, .int .i64 b, .string ⟨s.toArray⟩, .int .i64 m, .int .i64 e, .string r.s, .int .i64 r.row, .int .i64 r.col, .bool r.fr, .bool r.fc, .bool r.bad, .string f.s, .int .i64 f.row, .int .i64 f.col, .bool f.fr, .bool f.fc, .bool f.bad]
attribute [go_sem] fX fZ fB
end Go.Proofs.YtlpgigdegnbkmaaGreatDoor
