import Derived.Test.YtlpgigdegnbkmaaGreatDoorM43
import Derived.Test.YtlpgigdegnbkmaaGreatDoorN07
import Derived.Deep.Slices
set_option maxRecDepth 100000
set_option maxHeartbeats 200000
namespace Go.Proofs.YtlpgigdegnbkmaaGreatDoor
open Go.ChangeShapes Go.WideShapes Go.RowKit Go.ChangeMaps Go.Deep Tab
theorem cellsRawO : Tryz.prog.cellsOf 97 = 16 := by kernel_rfl
theorem cellsRefR : Tryz.prog.cellsOf 27 = 6 := by kernel_rfl
theorem cellsI : Tryz.prog.cellsOf 3 = 1 := by kernel_rfl
theorem cellsS : Tryz.prog.cellsOf 9 = 1 := by kernel_rfl
theorem cellsB : Tryz.prog.cellsOf 4 = 1 := by kernel_rfl
theorem pick_ltR {α : Type} {n : Nat} {P : Nat -> α -> Prop} (d : α) (h : ∀ i, i < n -> ∃ q, P i q) : ∃ f : Nat -> α, ∀ i, i < n -> P i (f i) := by
 classical
 refine ⟨fun i => if hi : i < n then (h i hi).choose else d, fun i hi => ?_⟩
 dsimp only
 rw [dif_pos hi]
 exact (h i hi).choose_spec
section
variable {H : Type} {enc : TypeId × Value -> H} {W : World}
theorem field_str {P : Program} {n : Nat} {t : TypeId} {v : Value} {y : DataW H × List MemPlace} (ht : P.underlying t = some .string) (h : DataW.trod enc P W 0 (fun _ => true) true n t [v] = some y) : ∃ s : ByteArray, v = .string s /\ s.size <= maxLen := by
 obtain ⟨s, e, _, w⟩ := DataW.trod_string ht h
 exact ⟨s, by simpa using e, w⟩
theorem field_i64 {P : Program} {n : Nat} {t : TypeId} {v : Value} {y : DataW H × List MemPlace} (ht : P.underlying t = some (.int .i64)) (h : DataW.trod enc P W 0 (fun _ => true) true n t [v] = some y) : ∃ k, v = .int .i64 k /\ Int64 k := by
 obtain ⟨k, e, _, w⟩ := DataW.trod_int ht h
 exact ⟨k, by simpa using e, int64_of w⟩
theorem field_boo {P : Program} {n : Nat} {t : TypeId} {v : Value} {y : DataW H × List MemPlace} (ht : P.underlying t = some .bool) (h : DataW.trod enc P W 0 (fun _ => true) true n t [v] = some y) : ∃ k, v = .bool k := by
 obtain ⟨k, e, _⟩ := DataW.trod_bool ht h
 exact ⟨k, by simpa using e⟩
theorem trod_ref {k : Nat} {c0 c1 c2 c3 c4 c5 : Value} {y : DataW H × List MemPlace} (h : DataW.trod enc Tryz.prog W 0 (fun _ => true) true k 27 [c0, c1, c2, c3, c4, c5] = some y) : ∃ r : RefD, [c0, c1, c2, c3, c4, c5] = refL r /\ Int64 r.row /\ Int64 r.col /\ r.s.size <= 9223372036854775807 := by
 obtain ⟨xs, k', _, _, _, hxl, hfl⟩ := DataW.trod_struct Tryz.underlying27 h
 have hxl6 : xs.length = 6 := hxl
 have g0 : DataW.trod enc Tryz.prog W 0 (fun _ => true) true k' 9 (List.take (Tryz.prog.cellsOf 9) [c0, c1, c2, c3, c4, c5]) = xs[0]? := hfl 0 _ rfl
 have g1 : DataW.trod enc Tryz.prog W 0 (fun _ => true) true k' 3 (List.take (Tryz.prog.cellsOf 3) [c1, c2, c3, c4, c5]) = xs[1]? := hfl 1 _ rfl
 have g2 : DataW.trod enc Tryz.prog W 0 (fun _ => true) true k' 3 (List.take (Tryz.prog.cellsOf 3) [c2, c3, c4, c5]) = xs[2]? := hfl 2 _ rfl
 have g3 : DataW.trod enc Tryz.prog W 0 (fun _ => true) true k' 4 (List.take (Tryz.prog.cellsOf 4) [c3, c4, c5]) = xs[3]? := hfl 3 _ rfl
 have g4 : DataW.trod enc Tryz.prog W 0 (fun _ => true) true k' 4 (List.take (Tryz.prog.cellsOf 4) [c4, c5]) = xs[4]? := hfl 4 _ rfl
 have g5 : DataW.trod enc Tryz.prog W 0 (fun _ => true) true k' 4 (List.take (Tryz.prog.cellsOf 4) [c5]) = xs[5]? := hfl 5 _ rfl
 rw [cellsS, List.take_succ_cons, List.take_zero, List.getElem?_eq_getElem (by omega)] at g0
 rw [cellsI, List.take_succ_cons, List.take_zero, List.getElem?_eq_getElem (by omega)] at g1 g2
 rw [cellsB, List.take_succ_cons, List.take_zero, List.getElem?_eq_getElem (by omega)] at g3 g4 g5
 obtain ⟨s, rfl, w0⟩ := field_str Tryz.underlying9 g0
 obtain ⟨i, rfl, w1⟩ := field_i64 Tryz.underlying3 g1
 obtain ⟨j, rfl, w2⟩ := field_i64 Tryz.underlying3 g2
 obtain ⟨x, rfl⟩ := field_boo Tryz.underlying4 g3
 obtain ⟨y, rfl⟩ := field_boo Tryz.underlying4 g4
 obtain ⟨z, rfl⟩ := field_boo Tryz.underlying4 g5
 exact ⟨⟨s, i, j, x, y, z⟩, rfl, w1, w2, Nat.le_trans w0 (by decide)⟩
theorem open_raws {v : Value} {r : Reach} {b0 : Nat} {d : DataW H} {p : List MemPlace} (hv : Value.okWide Tryz.prog W r b0 22 v) (h : DataW.Trod enc Tryz.prog W 0 (fun _ => true) true 22 v d p) :
  ∃ (X : List RawD) (a : Option Addr) (cap : Nat), v = .slice a X.length cap /\ RawRow W a X /\ (∀ x ∈ X, RawOk x) /\ X.length <= 9223372036854775807 := by
 obtain ⟨a0, len0, cap0, rfl⟩ := okWide_slice Tryz.underlying22 hv
 obtain ⟨fuel, hf⟩ := h
 have hmx : maxLen <= 9223372036854775807 := by unfold maxLen; decide
 rcases open_slice Tryz.underlying22 hf with ⟨h1, _⟩ | ⟨a, len, cap, m, n, D, Pl, h1, _, hl, hm, hmm, _, hx⟩
 ·have e : Value.slice a0 len0 cap0 = .slice none 0 0 := by simpa [Value.cells] using h1
  rw [e]
  exact ⟨[], none, 0, rfl, .inl rfl, fun x hx => (List.not_mem_nil hx).elim, Nat.zero_le _⟩
 ·have e : Value.slice a0 len0 cap0 = .slice (some a) len cap := by simpa [Value.cells] using h1
  rw [e]
  have hlm : len <= m := by rw [hmm]; split <;> omega
  have each : ∀ i, i < len -> ∃ q : RawD, (∀ j u, (rawC q)[j]? = some u -> W.cell? (a.add (i * 16 + j)) = some u) /\ RawOk q := by
   intro i hi
   obtain ⟨cs', g1, g2⟩ := hx i (by omega)
   rw [cellsRawO] at g1
   obtain ⟨_, hlen, hcell⟩ := World.cells?_some g1
   obtain ⟨xs, k, hk, hxy, _, hxl, hfl⟩ := DataW.trod_struct Tryz.underlying97 g2
   match cs', hlen with
   | [v0, v1, v2, v3, v4, v5, v6, v7, v8, v9, v10, v11, v12, v13, v14, v15], _ =>
    have hxl6 : xs.length = 6 := hxl
    have f0 : DataW.trod enc Tryz.prog W 0 (fun _ => true) true k 3 (List.take (Tryz.prog.cellsOf 3) [v0, v1, v2, v3, v4, v5, v6, v7, v8, v9, v10, v11, v12, v13, v14, v15]) = xs[0]? := hfl 0 _ rfl
    have f1 : DataW.trod enc Tryz.prog W 0 (fun _ => true) true k 9 (List.take (Tryz.prog.cellsOf 9) [v1, v2, v3, v4, v5, v6, v7, v8, v9, v10, v11, v12, v13, v14, v15]) = xs[1]? := hfl 1 _ rfl
    have f2 : DataW.trod enc Tryz.prog W 0 (fun _ => true) true k 3 (List.take (Tryz.prog.cellsOf 3) [v2, v3, v4, v5, v6, v7, v8, v9, v10, v11, v12, v13, v14, v15]) = xs[2]? := hfl 2 _ rfl
    have f3 : DataW.trod enc Tryz.prog W 0 (fun _ => true) true k 27 (List.take (Tryz.prog.cellsOf 27) [v3, v4, v5, v6, v7, v8, v9, v10, v11, v12, v13, v14, v15]) = xs[3]? := hfl 3 _ rfl
    have f4 : DataW.trod enc Tryz.prog W 0 (fun _ => true) true k 27 (List.take (Tryz.prog.cellsOf 27) [v9, v10, v11, v12, v13, v14, v15]) = xs[4]? := hfl 4 _ rfl
    have f5 : DataW.trod enc Tryz.prog W 0 (fun _ => true) true k 3 (List.take (Tryz.prog.cellsOf 3) [v15]) = xs[5]? := hfl 5 _ rfl
    rw [cellsI, List.take_succ_cons, List.take_zero, List.getElem?_eq_getElem (by omega)] at f0 f2 f5
    rw [cellsS, List.take_succ_cons, List.take_zero, List.getElem?_eq_getElem (by omega)] at f1
    rw [cellsRefR, List.getElem?_eq_getElem (by omega)] at f3 f4
    obtain ⟨i0, e0, w0⟩ := field_i64 Tryz.underlying3 f0
    obtain ⟨s1, e1, w1⟩ := field_str Tryz.underlying9 f1
    obtain ⟨i2, e2, w2⟩ := field_i64 Tryz.underlying3 f2
    obtain ⟨r3, e3, w3⟩ := trod_ref f3
    obtain ⟨r4, e4, w4⟩ := trod_ref f4
    obtain ⟨i5, e5, w5⟩ := field_i64 Tryz.underlying3 f5
    injection e3 with a3 e3; injection e3 with a4 e3; injection e3 with a5 e3; injection e3 with a6 e3; injection e3 with a7 e3; injection e3 with a8 _
    injection e4 with a9 e4; injection e4 with a10 e4; injection e4 with a11 e4; injection e4 with a12 e4; injection e4 with a13 e4; injection e4 with a14 _
    subst e0 e1 e2 a3 a4 a5 a6 a7 a8 a9 a10 a11 a12 a13 a14 e5
    refine ⟨⟨i0, s1, i2, r3, r4, i5⟩, fun j u hj => ?_, ⟨w0, Nat.le_trans w1 hmx, w2, w3, w4, w5⟩⟩
    have hj16 : j < 16 := by have := (List.getElem?_eq_some_iff.1 hj).1; exact this
    have := hcell j hj16
    rw [add_add] at this
    rw [this]; exact hj
  obtain ⟨q, hq⟩ := pick_ltR ⟨0, ⟨#[]⟩, 0, RefD.zero, RefD.zero, 0⟩ each
  have hat : ∀ i x, ((List.range len).map q)[i]? = some x -> i < len /\ x = q i := fun i x hx => by
   obtain ⟨hi, e⟩ := List.getElem?_eq_some_iff.1 hx
   rw [List.length_map, List.length_range] at hi
   rw [List.getElem_map, List.getElem_range] at e
   exact ⟨hi, e.symm⟩
  refine ⟨(List.range len).map q, some a, cap, by simp, ?_, fun x hx => ?_, by simp; omega⟩
  ·rcases Nat.eq_zero_or_pos len with h0 | h0
   ·exact .inl (by rw [h0]; rfl)
   ·have hc0 := (hq 0 h0).1 0 _ rfl
    rw [Nat.zero_mul] at hc0
    obtain ⟨b, o, sp⟩ := a
    have hsp : sp = none := by
     cases sp with
     | none => rfl
     | some z =>
      have h1 : W.cell? ⟨b, o, some z⟩ = some (.int .i64 (q 0).kind) := by simpa [Addr.add] using hc0
      unfold World.cell? at h1
      split at h1
      ·simp at h1
      ·cases h1
    subst hsp
    refine .inr ⟨b, o, rfl, World.block_lt_of_cell? W _ hc0, fun i x hx j u hu => ?_⟩
    obtain ⟨hi, rfl⟩ := hat i x hx
    have := (hq i hi).1 j u hu
    rw [Addr.add_mid] at this
    rwa [Nat.add_assoc]
  ·obtain ⟨i, hi, rfl⟩ := List.mem_map.1 hx
   exact (hq i (List.mem_range.1 hi)).2
end
end Go.Proofs.YtlpgigdegnbkmaaGreatDoor
