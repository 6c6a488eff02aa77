/- How a row's arguments are opened, and read again behind the call: structs by value. -/
import Derived.Test.YtmeiboajpbflcaaGreatDoorFrame
import Derived.Test.YtmeiboajpbflcaaGreatDoorArea
import Derived.Test.YtmeiboajpbflcaaGreatDoorMakers
import Derived.SevenTiedAt
import Derived.Carry
import Derived.Deep.Fields
namespace Go.Proofs.YtmeiboajpbflcaaGreatDoor
open Go.ChangeShapes Go.WideShapes Go.RowKit Go.ChangeMaps Go.Deep

theorem int64_of {n : Int} (h : (Lit.int .i64 n).wf = true) : Int64 n := by
  have e1 : IntKind.i64.min = -9223372036854775808 := rfl
  have e2 : IntKind.i64.max = 9223372036854775807 := rfl
  simp [Lit.wf, e1, e2] at h
  exact ⟨by omega, by omega⟩

section
variable {H : Type} {enc : TypeId × Value → H} {P : Program}
/-- what was read reads as it did where nothing old has turned. -/
theorem trodAll_back (hl : laidOutB P = true) {W W' : World} (hb : Below W.heap.size W W') : ∀ {ts : List TypeId} {vs : List Value} {ds : List (DataW H)} {ps : List MemPlace},
    (ts.all fun t => P.readableRec t && decide (t < P.types.size)) = true → DataW.TrodAll enc P W 0 (fun _ => true) true ts vs ds ps → (∀ x ∈ ps, x.block < W.heap.size) →
    DataW.TrodAll enc P W' 0 (fun b => decide (b < W.heap.size)) true ts vs ds ps
  | [], [], [], _, _, h, _ => h
  | t :: _, _ :: _, _ :: _, _, hr, ⟨p, q, h1, h2, e⟩, hs => by
    rw [List.all_cons, Bool.and_eq_true, Bool.and_eq_true, decide_eq_true_iff] at hr
    exact ⟨p, q, Below.trod hl hr.1.1 hr.1.2 h1 hb (fun x hx => hs x (by rw [e]; exact List.mem_append_left _ hx)), trodAll_back hl hb hr.2 h2 (fun x hx => hs x (by rw [e]; exact List.mem_append_right _ hx)), e⟩

theorem array3 {α : Type} {cs : Array α} (h : cs.size = 3) : ∃ c0 c1 c2, cs = #[c0, c1, c2] := by
  obtain ⟨l⟩ := cs
  match l, h with
  | [c0, c1, c2], _ => exact ⟨c0, c1, c2, rfl⟩
theorem array5 {α : Type} {cs : Array α} (h : cs.size = 5) : ∃ c0 c1 c2 c3 c4, cs = #[c0, c1, c2, c3, c4] := by
  obtain ⟨l⟩ := cs
  match l, h with
  | [c0, c1, c2, c3, c4], _ => exact ⟨c0, c1, c2, c3, c4, rfl⟩
theorem array6 {α : Type} {cs : Array α} (h : cs.size = 6) : ∃ c0 c1 c2 c3 c4 c5, cs = #[c0, c1, c2, c3, c4, c5] := by
  obtain ⟨l⟩ := cs
  match l, h with
  | [c0, c1, c2, c3, c4, c5], _ => exact ⟨c0, c1, c2, c3, c4, c5, rfl⟩
/-- a struct's field of one cell. -/
theorem field_trod {W : World} {base : Nat} {sp : Nat → Bool} {held : Bool} {t : TypeId} {fs : Array Field} {cs : Array Value} {d : DataW H} {p : List MemPlace} (hs : P.underlying t = some (.struct fs)) (hone : oneCellFields P fs = true)
    (h : DataW.Trod enc P W base sp held t (.agg cs) d p) (i : Nat) (f : Field) (v : Value) (hf : fs[i]? = some f) (hv : cs[i]? = some v) : ∃ n y, DataW.trod enc P W base sp held n f.type [v] = some y := by
  obtain ⟨fuel, hh⟩ := h
  obtain ⟨xs, n, _, _, _, hlen, hx⟩ := DataW.trod_struct hs hh
  obtain ⟨o, k⟩ := hone_of hone i f hf
  have hi : i < xs.length := by rw [hlen]; exact (Array.getElem?_eq_some_iff.1 hf).1
  have := hx i f hf
  rw [o, k, List.getElem?_eq_getElem hi] at this
  refine ⟨n, xs[i], ?_⟩
  have e : ((Value.agg cs).cells.toList.drop i).take 1 = [v] := by
    obtain ⟨l⟩ := cs
    have hv' : l[i]? = some v := by simpa using hv
    show (l.drop i).take 1 = [v]
    obtain ⟨hl, rfl⟩ := List.getElem?_eq_some_iff.1 hv'
    rw [List.drop_eq_getElem_cons hl]; rfl
  rw [e] at this; exact this
theorem field_int {W : World} {base : Nat} {sp : Nat → Bool} {held : Bool} {n : Nat} {t : TypeId} {v : Value} {y : DataW H × List MemPlace} (ht : P.underlying t = some (.int .i64)) (h : DataW.trod enc P W base sp held n t [v] = some y) : ∃ k, v = .int .i64 k ∧ Int64 k := by
  obtain ⟨k, e, _, w⟩ := DataW.trod_int ht h
  exact ⟨k, by simpa using e, int64_of w⟩
theorem field_bool {W : World} {base : Nat} {sp : Nat → Bool} {held : Bool} {n : Nat} {t : TypeId} {v : Value} {y : DataW H × List MemPlace} (ht : P.underlying t = some .bool) (h : DataW.trod enc P W base sp held n t [v] = some y) : ∃ k, v = .bool k := by
  obtain ⟨k, e, _⟩ := DataW.trod_bool ht h
  exact ⟨k, by simpa using e⟩
theorem field_string {W : World} {base : Nat} {sp : Nat → Bool} {held : Bool} {n : Nat} {t : TypeId} {v : Value} {y : DataW H × List MemPlace} (ht : P.underlying t = some .string) (h : DataW.trod enc P W base sp held n t [v] = some y) : ∃ s : ByteArray, v = .string s ∧ s.size ≤ maxLen := by
  obtain ⟨s, e, _, w⟩ := DataW.trod_string ht h
  exact ⟨s, by simpa using e, w⟩
end

/-- the fields of a struct are a cell each. -/
theorem one_of {P : Program} {t : TypeId} {fs : Array Field} (_ : P.underlying t = some (.struct fs)) (h : oneCellFields P fs = true) : oneCellFields P fs = true := h
set_option maxRecDepth 100000 in
theorem cellsRef : Tryz.prog.cellsOf 23 = 6 := by kernel_rfl
set_option maxRecDepth 100000 in
theorem cellsArea : Tryz.prog.cellsOf 25 = 5 := by kernel_rfl
set_option maxRecDepth 100000 in
theorem cellsAt : Tryz.prog.cellsOf 27 = 3 := by kernel_rfl
section
variable {H : Type} {enc : TypeId × Value → H} {W : World} {base b0 : Nat} {sp : Nat → Bool} {held : Bool} {r : Reach} {v : Value} {d : DataW H} {p : List MemPlace}
set_option maxRecDepth 100000 in
theorem open_ref (hv : Value.okWide Tryz.prog W r b0 23 v) (h : DataW.Trod enc Tryz.prog W base sp held 23 v d p) : ∃ q : Tab.RefD, v = refV q ∧ RefIn q := by
  have hs := Tryz.underlying23
  obtain ⟨cs, rfl, hsz⟩ := okWide_struct hs hv
  obtain ⟨c0, c1, c2, c3, c4, c5, rfl⟩ := array6 (hsz.trans cellsRef)
  have hone := one_of hs (by kernel_rfl)
  obtain ⟨_, _, h0⟩ := field_trod hs hone h 0 _ c0 rfl rfl
  obtain ⟨_, _, h1⟩ := field_trod hs hone h 1 _ c1 rfl rfl
  obtain ⟨_, _, h2⟩ := field_trod hs hone h 2 _ c2 rfl rfl
  obtain ⟨_, _, h3⟩ := field_trod hs hone h 3 _ c3 rfl rfl
  obtain ⟨_, _, h4⟩ := field_trod hs hone h 4 _ c4 rfl rfl
  obtain ⟨_, _, h5⟩ := field_trod hs hone h 5 _ c5 rfl rfl
  obtain ⟨s, rfl, w0⟩ := field_string Tryz.underlying9 h0
  obtain ⟨i, rfl, w1⟩ := field_int Tryz.underlying3 h1
  obtain ⟨j, rfl, w2⟩ := field_int Tryz.underlying3 h2
  obtain ⟨x, rfl⟩ := field_bool Tryz.underlying4 h3
  obtain ⟨y, rfl⟩ := field_bool Tryz.underlying4 h4
  obtain ⟨z, rfl⟩ := field_bool Tryz.underlying4 h5
  exact ⟨⟨s, i, j, x, y, z⟩, rfl, Nat.le_trans w0 (by decide), w1, w2⟩
set_option maxRecDepth 100000 in
theorem open_area (hv : Value.okWide Tryz.prog W r b0 25 v) (h : DataW.Trod enc Tryz.prog W base sp held 25 v d p) : ∃ q : Tab.AreaD, v = areaV q ∧ AreaIn q := by
  have hs := Tryz.underlying25
  obtain ⟨cs, rfl, hsz⟩ := okWide_struct hs hv
  obtain ⟨c0, c1, c2, c3, c4, rfl⟩ := array5 (hsz.trans cellsArea)
  have hone := one_of hs (by kernel_rfl)
  obtain ⟨_, _, h0⟩ := field_trod hs hone h 0 _ c0 rfl rfl
  obtain ⟨_, _, h1⟩ := field_trod hs hone h 1 _ c1 rfl rfl
  obtain ⟨_, _, h2⟩ := field_trod hs hone h 2 _ c2 rfl rfl
  obtain ⟨_, _, h3⟩ := field_trod hs hone h 3 _ c3 rfl rfl
  obtain ⟨_, _, h4⟩ := field_trod hs hone h 4 _ c4 rfl rfl
  obtain ⟨i0, rfl, w0⟩ := field_int Tryz.underlying3 h0
  obtain ⟨i1, rfl, w1⟩ := field_int Tryz.underlying3 h1
  obtain ⟨i2, rfl, w2⟩ := field_int Tryz.underlying3 h2
  obtain ⟨i3, rfl, w3⟩ := field_int Tryz.underlying3 h3
  obtain ⟨i4, rfl, w4⟩ := field_int Tryz.underlying3 h4
  exact ⟨⟨i0, i1, i2, i3, i4⟩, rfl, w0, w1, w2, w3, w4⟩
set_option maxRecDepth 100000 in
theorem open_at (hv : Value.okWide Tryz.prog W r b0 27 v) (h : DataW.Trod enc Tryz.prog W base sp held 27 v d p) : ∃ s i j : Int, v = .agg #[.int .i64 s, .int .i64 i, .int .i64 j] ∧ Int64 s ∧ Int64 i ∧ Int64 j := by
  have hs := Tryz.underlying27
  obtain ⟨cs, rfl, hsz⟩ := okWide_struct hs hv
  obtain ⟨c0, c1, c2, rfl⟩ := array3 (hsz.trans cellsAt)
  have hone := one_of hs (by kernel_rfl)
  obtain ⟨_, _, h0⟩ := field_trod hs hone h 0 _ c0 rfl rfl
  obtain ⟨_, _, h1⟩ := field_trod hs hone h 1 _ c1 rfl rfl
  obtain ⟨_, _, h2⟩ := field_trod hs hone h 2 _ c2 rfl rfl
  obtain ⟨i0, rfl, w0⟩ := field_int Tryz.underlying3 h0
  obtain ⟨i1, rfl, w1⟩ := field_int Tryz.underlying3 h1
  obtain ⟨i2, rfl, w2⟩ := field_int Tryz.underlying3 h2
  exact ⟨i0, i1, i2, rfl, w0, w1, w2⟩
end
set_option maxRecDepth 100000 in
theorem laidOut : laidOutB Tryz.prog = true := by kernel_rfl
end Go.Proofs.YtmeiboajpbflcaaGreatDoor
