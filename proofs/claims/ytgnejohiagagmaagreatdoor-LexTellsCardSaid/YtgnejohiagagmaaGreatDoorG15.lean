/- The walk of tabulalaw04.examples. -/
import Derived.Test.YtgnejohiagagmaaGreatDoorG14
namespace Go.Proofs.YtgnejohiagagmaaGreatDoor
open Go.RowKit Tab

theorem tokRow_new (w : World) (T : TypeId) (L : List TokT) (C : Array Value) (h : C = (toksV L).toArray) : TokRow (w.alloc (.cells C T)) (.slice (some ⟨w.heap.size, 0, none⟩) L.length L.length) L := by
  subst h
  refine .inr ⟨w.heap.size, 0, L.length, rfl, Nat.le_refl _, by simp, fun i x hx => ?_⟩
  obtain ⟨k0, k1, k2⟩ := toksV_at L i x hx
  have hc : ∀ j, (w.alloc (.cells (toksV L).toArray T)).cell? ⟨w.heap.size, j, none⟩ = (toksV L)[j]? := fun j => by
    rw [Lib.cell_of_heap (heap_alloc_new w _), List.getElem?_toArray]
  rw [Nat.zero_add, hc, hc, hc]
  exact ⟨k0, k1, k2⟩

set_option maxRecDepth 100000 in
set_option maxHeartbeats 16000000 in
theorem examples_any (w : World) (hg : Good w) (hwd : Words w) : Calls Tryz.prog 10 #[] w (Ret (.bool true) w) := by
  have cT : ∀ (s : ByteArray) (W : World), Below w.heap.size w W → s.size ≤ 1000 → Calls Tryz.prog 17 #[.string s] W (Toks (tokensD decED s.data.toList) W) := fun s W hb hs => Tokens_any decED decIs s W (hg.below hb) (hwd.below hb) (by omega)
  have cP : ∀ L hn hl v W, Below w.heap.size w W → TokRow W v L → Calls Tryz.prog 11 #[v] W (Ret (.tuple #[strV (printD decED L).1, .int .i64 (printD decED L).2]) W) := fun L hn hl v W hb h => print_any decED decIs L hn hl v W (hg.below hb) (hwd.below hb) h
  have cI : ∀ (s : ByteArray) (W : World), Below w.heap.size w W → s.size ≤ 1000 → Calls Tryz.prog 14 #[.string s] W (Ret (.bool (isNameD s.data.toList)) W) := fun s W hb hs => isName_any s W (hg.below hb) (by omega)
  have cS := fun L M hn hm v u W hL hM => same_any L M hn hm v u W hL hM
  have c1 := fun W hb => cT ⟨exT1.toArray⟩ W hb (by decide)
  have c2 := fun W hb => cT ⟨exT2.toArray⟩ W hb (by decide)
  have c3 := fun W hb => cT ⟨exT3.toArray⟩ W hb (by decide)
  have c4 := fun W hb => cT ⟨exT4.toArray⟩ W hb (by decide)
  rw [show (⟨exT1.toArray⟩ : ByteArray).data.toList = exT1 from rfl, ex_toks1] at c1
  rw [show (⟨exT2.toArray⟩ : ByteArray).data.toList = exT2 from rfl, ex_toks2] at c2
  rw [show (⟨exT3.toArray⟩ : ByteArray).data.toList = exT3 from rfl, ex_toks3] at c3
  rw [show (⟨exT4.toArray⟩ : ByteArray).data.toList = exT4 from rfl, ex_toks4] at c4
  have p1 := fun v W hb h => cP exL3 (by decide) (by decide) v W hb h
  have p2 := fun v W hb h => cP [(7, [102], 0)] (by decide) (by decide) v W hb h
  rw [ex_print1] at p1
  rw [ex_print2] at p2
  have s1 := fun v u W hL hM => cS exL1 exM1 (by decide) (by decide) v u W hL hM
  have s2 := fun v u W hL hM => cS exL2 exM2 (by decide) (by decide) v u W hL hM
  rw [ex_same1] at s1
  rw [ex_same2] at s2
  have i1 := fun W hb => cI ⟨#[65, 57, 57, 57]⟩ W hb (by decide)
  have i2 := fun W hb => cI ⟨#[65, 57]⟩ W hb (by decide)
  have i3 := fun W hb => cI ⟨#[116, 114, 117, 101]⟩ W hb (by decide)
  have i4 := fun W hb => cI ⟨#[57, 65]⟩ W hb (by decide)
  rw [show (ByteArray.mk #[65, 57, 57, 57]).data.toList = [65, 57, 57, 57] from rfl, ex_name_A999] at i1
  rw [show (ByteArray.mk #[65, 57]).data.toList = [65, 57] from rfl, ex_name_A9] at i2
  rw [show (ByteArray.mk #[116, 114, 117, 101]).data.toList = [116, 114, 117, 101] from rfl, ex_name_true] at i3
  rw [show (ByteArray.mk #[57, 65]).data.toList = [57, 65] from rfl, ex_name_9A] at i4
  clear cT cP cI cS
  unfold strV at *
  go_enter Tryz.func10, Tryz.ntmps10
  go_wp2_with fail
  refine (c1 _ (by repeat' (first | with_reducible assumption | with_reducible exact Below.refl _ _ | with_reducible refine allocB ?_ | with_reducible refine setB ?_ ?_ | with_reducible refine drewB ?_ | with_reducible refine after ?_ (by assumption) | (simp; omega) | omega))).mono ?_; rintro e w1 ⟨v1, rfl, hown1, hb1⟩
  have R1 := tokRow_of_own hown1
  have hW : Below w.heap.size w w1 := (by repeat' (first | with_reducible assumption | with_reducible exact Below.refl _ _ | with_reducible refine allocB ?_ | with_reducible refine setB ?_ ?_ | with_reducible refine drewB ?_ | with_reducible refine after ?_ (by assumption) | (simp; omega) | omega))
  clear hown1 hb1
  go_wp2_with fail
  refine (c2 _ hW).mono ?_; rintro e w2 ⟨v2, rfl, hown2, hb2⟩
  replace R1 := R1.below hb2
  have R2 := tokRow_of_own hown2
  replace hW := after hW hb2
  clear hown2 hb2
  go_wp2_with fail
  refine (c3 _ hW).mono ?_; rintro e w3 ⟨v3, rfl, hown3, hb3⟩
  replace R1 := R1.below hb3
  replace R2 := R2.below hb3
  have R3 := tokRow_of_own hown3
  replace hW := after hW hb3
  clear hown3 hb3
  go_wp2_with fail
  refine (p1 _ _ hW R3).mono ?_; rintro e w4 ⟨rfl, hb4⟩
  replace R1 := R1.below hb4
  replace R2 := R2.below hb4
  replace R3 := R3.below hb4
  replace hW := after hW hb4
  clear hb4
  go_wp2_with fail
  refine (c4 _ hW).mono ?_; rintro e w5 ⟨rfl, hb5⟩
  replace R1 := R1.below hb5
  replace R2 := R2.below hb5
  replace R3 := R3.below hb5
  replace hW := after hW hb5
  clear hb5
  go_wp2_with fail
  refine (p2 _ _ (allocB hW) (tokRow_new _ _ [(7, [102], 0)] _ rfl)).mono ?_; rintro e w6 ⟨rfl, hb6⟩
  have hb6' := after (allocB (Below.refl w5.heap.size w5)) hb6
  replace R1 := R1.below hb6'
  replace R2 := R2.below hb6'
  replace R3 := R3.below hb6'
  replace hW := after hW hb6'
  clear hb6 hb6'
  go_wp2_with fail
  refine (s1 _ _ _ (R1.below (allocB (Below.refl _ _))) (tokRow_new _ _ exM1 _ rfl)).mono ?_; rintro e w7 ⟨rfl, hb7⟩
  have hb7' := after (allocB (Below.refl w6.heap.size w6)) hb7
  replace R2 := R2.below hb7'
  replace R3 := R3.below hb7'
  replace hW := after hW hb7'
  clear hb7 hb7' R1
  go_wp2_with fail
  refine (s2 _ _ _ (R2.below (allocB (Below.refl _ _))) (tokRow_new _ _ exM2 _ rfl)).mono ?_; rintro e w8 ⟨rfl, hb8⟩
  have hb8' := after (allocB (Below.refl w7.heap.size w7)) hb8
  replace R3 := R3.below hb8'
  replace hW := after hW hb8'
  clear hb8 hb8' R2 s1 s2 c1 c2 c3 c4 p1 p2
  obtain ⟨b3, o3, d3, rfl, hd3, hz3, hc3⟩ : ∃ b o cap, v3 = .slice (some ⟨b, o, none⟩) exL3.length cap ∧ exL3.length ≤ cap ∧ b < w8.heap.size ∧ TokCells w8 b o exL3 := by
    rcases R3 with ⟨_, h⟩ | h
    · cases h
    · exact h
  have k0 := (hc3 0 _ rfl).1
  have k1 := (hc3 1 _ rfl).2.2
  have k2 := (hc3 2 _ rfl).2.1
  rw [show o3 + 0 * 3 = o3 by omega] at k0
  rw [show o3 + 1 * 3 + 2 = o3 + 5 by omega] at k1
  rw [show o3 + 2 * 3 + 1 = o3 + 7 by omega] at k2
  have k1' := k1
  have k2' := k2
  rw [show o3 + 5 = o3 + 3 + 2 by omega] at k1'
  rw [show o3 + 7 = o3 + 6 + 1 by omega] at k2'
  rw [show exL3.length = 3 from rfl] at hd3 ⊢
  clear hc3 R3
  go_wp2_with fail
  refine (i1 _ hW).mono ?_; rintro e w9 ⟨rfl, hb9⟩
  replace hW := after hW hb9
  clear hb9 k0 k1 k2 k1' k2' hz3 hd3
  go_wp2_with fail
  refine (i2 _ hW).mono ?_; rintro e w10 ⟨rfl, hb10⟩
  replace hW := after hW hb10
  clear hb10
  go_wp2_with fail
  refine (i3 _ hW).mono ?_; rintro e w11 ⟨rfl, hb11⟩
  replace hW := after hW hb11
  clear hb11
  go_wp2_with fail
  refine (i4 _ hW).mono ?_; rintro e w12 ⟨rfl, hb12⟩
  replace hW := after hW hb12
  clear hb12
  go_wp2
  go_ret
  exact ⟨rfl, hW⟩
end Go.Proofs.YtgnejohiagagmaaGreatDoor
