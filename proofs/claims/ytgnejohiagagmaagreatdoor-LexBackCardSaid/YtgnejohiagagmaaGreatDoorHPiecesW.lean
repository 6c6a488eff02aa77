/- The walk of tabulalaw04.Pieces. -/
import Derived.Test.YtgnejohiagagmaaGreatDoorHByteR
import Derived.Test.YtgnejohiagagmaaGreatDoorHTokA
import Derived.Test.YtgnejohiagagmaaGreatDoorG15
namespace Tab
def wordsT : List Bs := [[65, 49], [36, 66, 36, 50], [99, 51], [39, 97, 32, 98, 39, 33, 68, 52], [83, 33, 36, 69, 53], [35, 82, 69, 70, 33], [120], [84, 111, 116, 97, 108], [65, 57, 57, 57], [84, 91, 80, 114, 105, 99, 101, 93], [116, 95, 49, 91, 97, 32, 98, 93], [83, 85, 77], [102, 46, 103], [84, 82, 85, 69], [70, 65, 76, 83, 69], [35, 78, 47, 65], [35, 68, 73, 86, 47, 48, 33], [48], [49, 46, 53, 48], [48, 48, 55], [49, 50], [97, 34, 98], [], [90, 32, 122]]
def kindsT : List Int := [5, 5, 5, 5, 5, 5, 6, 6, 6, 9, 9, 7, 7, 3, 3, 4, 4, 1, 1, 1, 1, 2, 2, 2]
/-- the pieces of a byte. -/
def pieceT (n : Nat) : List TokT := if 24 ≤ n then [(8, signsB.getD (n - 24) [], 0)] else (kindsT.getD n 0, wordsT.getD n [], 0) :: (if kindsT.getD n 0 == 7 then [(8, [40], 0)] else [])
def piecesT (l : List Int) : List TokT := (l.take 18).flatMap fun z => pieceT (z % 44).toNat
theorem pieceT_len (n : Nat) : (pieceT n).length ≤ 2 := by
  unfold pieceT
  split
  · simp
  · split <;> simp
theorem piecesT_step (l : List Int) (j : Nat) (h : j < l.length) (_h18 : j < 18) : ((l.take (j + 1)).flatMap fun z => pieceT (z % 44).toNat) = ((l.take j).flatMap fun z => pieceT (z % 44).toNat) ++ pieceT (l[j] % 44).toNat := by
  rw [List.take_succ_eq_append_getElem h, List.flatMap_append]; simp
end Tab
namespace Go.Proofs.YtgnejohiagagmaaGreatDoor
open Go.RowKit Tab

def wordsC : Array Value := (wordsT.map fun x => Value.string ⟨x.toArray⟩).toArray
def kindsC : Array Value := (kindsT.map fun x => Value.int .i64 x).toArray
def signsC : Array Value := (signsB.map fun x => Value.string ⟨x.toArray⟩).toArray
theorem wordsC_at (n : Nat) (h : n < 24) : wordsC[n]? = some (.string ⟨(wordsT.getD n []).toArray⟩) := by
  have hl : n < wordsT.length := h
  unfold wordsC
  rw [List.getElem?_toArray, List.getElem?_map, List.getElem?_eq_getElem hl, List.getD_eq_getElem?_getD, List.getElem?_eq_getElem hl]; rfl
theorem kindsC_at (n : Nat) (h : n < 24) : kindsC[n]? = some (.int .i64 (kindsT.getD n 0)) := by
  have hl : n < kindsT.length := h
  unfold kindsC
  rw [List.getElem?_toArray, List.getElem?_map, List.getElem?_eq_getElem hl, List.getD_eq_getElem?_getD, List.getElem?_eq_getElem hl]; rfl
theorem signsC_at (n : Nat) (h : n < 20) : signsC[n]? = some (.string ⟨(signsB.getD n []).toArray⟩) := by
  have hl : n < signsB.length := h
  unfold signsC
  rw [List.getElem?_toArray, List.getElem?_map, List.getElem?_eq_getElem hl, List.getD_eq_getElem?_getD, List.getElem?_eq_getElem hl]; rfl
theorem tokRow_heap {w : World} {b : Nat} {T : TypeId} (L : List TokT) (h : w.heap[b]? = some (.cells (toksV L).toArray T (0, 0))) : TokRow w (.slice (some ⟨b, 0, none⟩) L.length L.length) L := by
  refine .inr ⟨b, 0, L.length, rfl, Nat.le_refl _, ?_, fun i x hx => ?_⟩
  · rcases Nat.lt_or_ge b w.heap.size with h' | h'
    · exact h'
    · simp [Array.getElem?_eq_none h'] at h
  · obtain ⟨k0, k1, k2⟩ := toksV_at L i x hx
    have hc : ∀ j, w.cell? ⟨b, j, none⟩ = (toksV L)[j]? := fun j => by rw [Lib.cell_of_heap h, List.getElem?_toArray]
    rw [Nat.zero_add, hc, hc, hc]
    exact ⟨k0, k1, k2⟩
theorem Keep.grown3 {w W W1 : World} {row : Option Nat} {L : List (Nat × Array Value)} (h : Keep w L W) (hg : W.grownBy W1 row) (hr : ∀ k, row = some k → w.heap.size ≤ k) (hL : ∀ p ∈ L, row ≠ some p.1) : Keep w L W1 := by
  induction L with
  | nil => exact Keep.nil (h.bel.grown hg h.bel.size hr)
  | cons p L ih => exact Keep.add (h.hd.grown hg (hL p (by simp))) (ih h.tl (fun q hq => hL q (by simp [hq])))

set_option maxRecDepth 100000 in
set_option maxHeartbeats 16000000 in
theorem pieces_any (v : Value) (l : List Int) (w : World) (hv : ByteRow w v l) (hr : ∀ z ∈ l, 0 ≤ z ∧ z ≤ 255) (hlen : l.length ≤ 9223372036854775807) : Calls Tryz.prog 16 #[v] w fun e w' => ∃ u, e = .returned u ∧ w'.ownsRow w.heap.size 25 3 u (piecesT l).length (toksV (piecesT l)) ∧ Below w.heap.size w w' := by
  obtain ⟨iT, hi, hz0, hz1, hz2⟩ := info_parts infoTok
  obtain ⟨ao, c1, rfl, h1⟩ : ∃ ao c, v = .slice ao l.length c ∧ (l = [] ∨ ∃ a : Addr, ao = some a ∧ l.length ≤ c ∧ ∀ i, i < l.length → w.cell? (a.add i) = some (.int .u8 (l.getD i 0))) := by
    rcases hv with ⟨rfl, rfl⟩ | ⟨a, c, rfl, h⟩
    · exact ⟨none, 0, rfl, .inl rfl⟩
    · exact ⟨_, c, rfl, .inr ⟨a, rfl, h⟩⟩
  clear hv
  go_enter Tryz.func16, Tryz.ntmps16
  go_wp2_with fail
  go_loopw [6, 7] (fun o i w' => ∃ (j : Nat), i = .int .i64 (j : Int) ∧ j ≤ l.length ∧ j ≤ 18 ∧ w'.ownsRow (w.heap.size + 3) 25 3 o ((l.take j).flatMap fun z => pieceT (z % 44).toNat).length (toksV ((l.take j).flatMap fun z => pieceT (z % 44).toNat)) ∧ ((l.take j).flatMap fun z => pieceT (z % 44).toNat).length ≤ 2 * j ∧ Keep w [(w.heap.size, wordsC), (w.heap.size + 1, kindsC), (w.heap.size + 1 + 1, signsC)] w') (fun _ i _ => 18 - (intOf i).toNat)
  case atStart => exact ⟨0, rfl, by omega, by omega, ⟨rfl, .inl ⟨rfl, rfl⟩⟩, by simp, Keep.add (by apply Blk.eq; (repeat' (first | with_reducible assumption | with_reducible apply Blk.set | with_reducible apply Blk.other | (with_reducible refine Blk.new ?_; simp; done) | with_reducible apply Blk.alloc | omega)); rfl) (Keep.add (by apply Blk.eq; (repeat' (first | with_reducible assumption | with_reducible apply Blk.set | with_reducible apply Blk.other | (with_reducible refine Blk.new ?_; simp; done) | with_reducible apply Blk.alloc | omega)); rfl) (Keep.add (by apply Blk.eq; (repeat' (first | with_reducible assumption | with_reducible apply Blk.set | with_reducible apply Blk.other | (with_reducible refine Blk.new ?_; simp; done) | with_reducible apply Blk.alloc | omega)); rfl) (Keep.nil (by repeat' (first | with_reducible assumption | with_reducible exact Below.refl _ _ | with_reducible refine allocB ?_ | with_reducible refine setB ?_ ?_ | with_reducible refine drewB ?_ | with_reducible refine after ?_ (by assumption) | (simp; omega) | omega)))))⟩
  case round =>
    obtain ⟨j, rfl, hj1, hj2, hown, hln, K⟩ := hrel
    obtain ⟨f0, g0, z0⟩ := K.hd.facts
    obtain ⟨f1, g1, z1⟩ := K.tl.hd.facts
    obtain ⟨f2, g2, z2⟩ := K.tl.tl.hd.facts
    by_cases hlt : j < l.length ∧ j < 18
    · obtain ⟨hl1, hl2⟩ := hlt
      have hst := piecesT_step l j hl1 hl2
      rcases h1 with h1 | ⟨a, rfl, hc, hcell⟩
      · rw [h1] at hl1; simp at hl1
      have k0 := hcell j hl1
      have hbk : (a.add j).block = a.block := by unfold Addr.add; split <;> rfl
      have hb : a.block < w.heap.size := by rw [← hbk]; exact World.block_lt_of_cell? w _ k0
      have k1 : wr.cell? (a.add j) = some (.int .u8 (l.getD j 0)) := by
        rw [← k0]
        exact World.cell?_of_block (w := w) (K.bel.block _ (by rw [hbk]; exact hb))
      have hgd : l.getD j 0 = l[j] := by rw [List.getD_eq_getElem?_getD, List.getElem?_eq_getElem hl1]; rfl
      have hzr := hr l[j] (List.getElem_mem _)
      rw [hgd] at k1
      obtain ⟨n, hn⟩ : ∃ n : Nat, l[j] % 44 = (n : Int) := ⟨(l[j] % 44).toNat, by omega⟩
      have hn44 : n < 44 := by omega
      rw [show (l[j] % 44).toNat = n by omega] at hst
      generalize l[j] = z at *
      have ewj : IntKind.i64.wrap ((j : Int) + 1) = ((j + 1 : Nat) : Int) := by rw [IntWalk.i64_in _ (by omega)]; omega
      generalize (l.take j).flatMap (fun z => pieceT (z % 44).toNat) = acc at *
      clear hcell k0 hgd hc
      by_cases h24 : 24 ≤ n
      · have e24 : decide (24 ≤ (n : Int)) = true := decide_eq_true (by omega)
        have e24' : decide (24 ≤ n) = true := decide_eq_true (by omega)
        have ewn : IntKind.i64.wrap ((n : Int) - 24) = ((n - 24 : Nat) : Int) := by rw [IntWalk.i64_in _ (by omega)]; omega
        have ks : wr.cell? ⟨w.heap.size + 1 + 1, n - 24, none⟩ = some (.string ⟨(signsB.getD (n - 24) []).toArray⟩) := by rw [f2]; exact signsC_at _ (by omega)
        have hp : pieceT n = [(8, signsB.getD (n - 24) [], 0)] := by unfold pieceT; rw [if_pos h24]
        generalize signsB.getD (n - 24) [] = x at *
        clear f0 f1 f2 g0 g1 g2
        go_wp2_with (at_builtin; refine held ?_)
        unfold Held
        refine wpList_want (by rfl) ?_
        intro KK hKK
        refine tok_append _ _ rfl (w.heap.size + 3) _ _ (acc) [(8, x, 0)] rfl rfl (hown.alloc _) (tokRow_new _ _ [(8, x, 0)] _ rfl) (by simp; omega) (by have := K.bel.size; have := K.tl.tl.hd.facts.2.2; simp; omega) ?_
        intro v5 w5 own5 hg5
        have K5 := (K.below (allocB (Below.refl wr.heap.size wr))).grown3 hg5 (fun k hk => by have := (hown.lt k hk).1; omega) (fun p hp hk => by
          have := (hown.lt p.1 hk).1
          simp only [List.mem_cons, List.not_mem_nil, or_false] at hp
          rcases hp with rfl | rfl | rfl <;> dsimp only at this <;> omega)
        refine hKK _ _ ?_
        clear hKK hg5

        go_wp2
        go_roundw
        case rel => exact ⟨j + 1, rfl, hl1, hl2, by rw [hst, hp]; exact own5, by rw [hst, hp]; simp; omega, K5⟩
        case measure => simp [intOf]; omega
      · have e24 : decide (24 ≤ (n : Int)) = false := decide_eq_false (by omega)
        have e24' : decide (24 ≤ n) = false := decide_eq_false (by omega)
        have kw : wr.cell? ⟨w.heap.size, n, none⟩ = some (.string ⟨(wordsT.getD n []).toArray⟩) := by rw [f0]; exact wordsC_at _ (by omega)
        have kk : wr.cell? ⟨w.heap.size + 1, n, none⟩ = some (.int .i64 (kindsT.getD n 0)) := by rw [f1]; exact kindsC_at _ (by omega)
        have hkC := kindsC_at n (by omega)
        have hp : pieceT n = (kindsT.getD n 0, wordsT.getD n [], 0) :: (if kindsT.getD n 0 == 7 then [(8, [40], 0)] else []) := by unfold pieceT; rw [if_neg h24]
        generalize wordsT.getD n [] = x at *
        generalize kindsT.getD n 0 = k at *
        clear f0 f1 f2 g0 g1 g2
        go_wp2_with fail
        have kc := gcell wr
        have hnI : (n : Int) < 24 := by omega
        refine region_made_tail 11 (by kernel_rfl) (by kernel_rfl) fun β => ?_
        simp only [List.take_succ_cons, List.take_zero, List.drop_succ_cons, List.drop_zero]
        iterate 10 (refine wpM_step (fun K hK => ?_); go_simp; refine hK _ ?_; clear hK K)
        refine wpM_make (fun b => .slice (some ⟨b, 0, none⟩) 1 1) (.cells #[.int .i64 k, .string ⟨x.toArray⟩, .int .i64 0] 25) rfl (fun W _ => by kernel_rfl) ?_
        refine wpM_nil ?_
        intro w3 ⟨hb3, hla, hap⟩
        obtain ⟨zb, hl2⟩ := hla 10 _ _ rfl
        replace K := K.below hb3
        replace hown := own_below hown hb3
        have hsrc : TokRow w3 (.slice (some ⟨β 10, 0, none⟩) 1 1) [(k, x, 0)] := tokRow_heap [(k, x, 0)] hl2
        clear kw kk kc hb3 z0 z1 z2 k1 hla hap zb hl2
        refine wpList_want (by rfl) ?_
        intro KK hKK
        refine tok_append _ _ rfl (w.heap.size + 3) _ _ (acc) [(k, x, 0)] rfl rfl hown hsrc (by simp; omega) (by have := K.tl.tl.hd.facts.2.2; omega) ?_
        intro v5 w5 own5 hg5
        have K5 := K.grown3 hg5 (fun k hk => by have := (hown.lt k hk).1; omega) (fun p hp hk => by
          have := (hown.lt p.1 hk).1
          simp only [List.mem_cons, List.not_mem_nil, or_false] at hp
          rcases hp with rfl | rfl | rfl <;> dsimp only at this <;> omega)
        refine hKK _ _ ?_
        clear hKK hg5 hsrc
        have kk5 : w5.cell? ⟨w.heap.size + 1, n, none⟩ = some (.int .i64 k) := by rw [K5.tl.hd.facts.1]; exact hkC
        have z5 := K5.tl.hd.facts.2.2
        clear K hown
        cases h7 : (k == 7)
        · rw [h7, if_neg Bool.false_ne_true] at hp
          go_wp2
          go_roundw
          case rel => exact ⟨j + 1, rfl, hl1, hl2, by rw [hst, hp]; exact own5, by rw [hst, hp]; simp; omega, K5⟩
          case measure => simp [intOf]; omega
        · rw [h7, if_pos rfl] at hp
          go_wp2_with (at_builtin; refine held ?_)
          unfold Held
          refine wpList_want (by rfl) ?_
          intro KK hKK
          refine tok_append _ _ rfl (w.heap.size + 3) _ _ (acc ++ [(k, x, 0)]) [(8, [40], 0)] rfl rfl (own5.alloc _) (tokRow_new _ _ [(8, [40], 0)] _ rfl) (by simp; omega) (by have := K5.bel.size; have := K5.tl.tl.hd.facts.2.2; simp; omega) ?_
          intro v7 w7 own7 hg5
          have K7 := (K5.below (allocB (Below.refl w5.heap.size w5))).grown3 hg5 (fun k hk => by have := (own5.lt k hk).1; omega) (fun p hp hk => by
            have := (own5.lt p.1 hk).1
            simp only [List.mem_cons, List.not_mem_nil, or_false] at hp
            rcases hp with rfl | rfl | rfl <;> dsimp only at this <;> omega)
          refine hKK _ _ ?_
          clear hKK hg5
          go_wp2
          go_roundw
          case rel => exact ⟨j + 1, rfl, hl1, hl2, by rw [hst, hp]; simpa using own7, by rw [hst, hp]; simp; omega, K7⟩
          case measure => simp [intOf]; omega
    · have hfin : (l.take j).flatMap (fun z => pieceT (z % 44).toNat) = piecesT l := by
        unfold piecesT
        congr 1
        by_cases h : j < l.length
        · have : j = 18 := by omega
          rw [this]
        · rw [List.take_of_length_le (by omega), List.take_of_length_le (by omega)]
      rw [hfin] at hown
      have hbel := K.bel
      have hown' := own_mono (base' := w.heap.size) hown (by omega)
      clear f0 f1 f2 g0 g1 g2 h1
      rcases (show ¬ j < l.length ∨ (j < l.length ∧ ¬ j < 18) by omega) with hx | ⟨hx, hy⟩
      all_goals (
        go_wp2
        go_ret
        exact ⟨_, rfl, hown', hbel⟩)
end Go.Proofs.YtgnejohiagagmaaGreatDoor
