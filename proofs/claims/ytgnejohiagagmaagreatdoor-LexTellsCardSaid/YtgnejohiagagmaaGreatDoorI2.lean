/- The walk of tabularef01's by. The walks of tabularef01's lowest, unit. The walk of tabularef01's whole. The walk of tabularef01's near. -/
import Derived.Test.YtgnejohiagagmaaGreatDoorI1
import Derived.Test.YtgnejohiagagmaaGreatDoorN1
import Derived.Deep.Cut
import Derived.Deep.RegionWith
namespace Go.Proofs.YtgnejohiagagmaaGreatDoor
open Go.RowKit Tab

/-- what a quotient hands back. -/
def RetTwo (L M : List Nat) (w : World) (e : Ending) (w' : World) : Prop := ∃ v u, e = .returned (.tuple #[v, u]) ∧ IntRow w' v L ∧ IntRow w' u M ∧ Below w.heap.size w w'
theorem RetTwo.mk' {L M : List Nat} {w w' : World} {v v' u u' : Value} (h : v = v') (h2 : u = u') (hr : IntRow w' v' L) (hr2 : IntRow w' u' M) (hb : Below w.heap.size w w') : RetTwo L M w (.returned (.tuple #[v, u])) w' := ⟨v, u, rfl, h ▸ hr, h2 ▸ hr2, hb⟩

set_option maxRecDepth 100000 in
set_option maxHeartbeats 8000000 in
theorem by_any (x b : Nat) (hb0 : 0 < b) (hx : (dgN x).length ≤ 500) (hy : (dgN b).length ≤ 500) (v u : Value) (w : World) (hL : IntRow w v (dgN x)) (hM : IntRow w u (dgN b)) : Calls Tryz.prog 204 #[v, u] w (RetTwo (dgN (x / b)) (dgN (x % b)) w) := by
  have hQ0 := QuoI.start (dgN x) b hb0
  have lx := dgN_low x
  have vx := vals_dgN x
  have cL := fun R (hR : (dgN R).length ≤ 501) r W (hW : Below w.heap.size w W) (hr : IntRow W r (dgN R)) => less_any R b (by omega) (by omega) r u W hr (hM.below hW)
  have cM := fun R (hRb : b ≤ R) (hR : (dgN R).length ≤ 501) r W (hW : Below w.heap.size w W) (hr : IntRow W r (dgN R)) => minus_any R b hRb (by omega) (by omega) r u W hr (hM.below hW)
  have hlen : ∀ R, R < 10 * b → (dgN R).length ≤ 501 := fun R h => by
    have h1 := dgN_len_le (show R ≤ b * 10 ^ 1 by omega)
    have h2 := dgN_len_pow b 1
    omega
  generalize dgN x = L at *
  obtain ⟨p, c, rfl, hA⟩ := hL
  obtain ⟨q, d, rfl, hB⟩ := hM
  have HQ := Lib.hid hQ0
  have HX := Lib.hid lx
  have HV := Lib.hid vx
  have HN := Lib.hid hlen
  clear hQ0 lx vx hB hlen
  go_enter Tryz.func204, Tryz.ntmps204
  go_wp2_with fail
  go_loopw [6, 7, 8] (fun o r i w' => ∃ (j R : Nat) (Q : List Nat), i = .int .i64 ((j : Int) - 1) ∧ j ≤ L.length ∧ QuoI L Q j b R ∧ IntRow w' o Q ∧ IntRow w' r (dgN R) ∧ Below w.heap.size w w') (fun _ _ i _ => (intOf i + 1).toNat)
  case atStart => exact ⟨L.length, 0, [], by go_num, Nat.le_refl _, HQ.out, IntRow.nil _, by rw [dgN_zero]; exact IntRow.nil _, Below.refl _ _⟩
  case round =>
    clear HQ
    obtain ⟨j, R, Q, rfl, hj, hI, hQ, hR, hW⟩ := hrel
    have hQl := hI.2.1
    have HI := Lib.hid hI
    clear hI
    by_cases h0 : j = 0
    · subst h0
      have ek : decide ((0 : Int) ≤ ((0 : Nat) : Int) - 1) = false := decide_eq_false (by omega)
      obtain ⟨hd1, hd2⟩ := HI.out.done
      rw [HV.out] at hd1 hd2
      have cT := trim_any Q (by omega) _ _ hQ
      rw [hd1] at cT
      subst hd2
      clear HI HN cL cM hd1
      go_wp2_with fail
      refine cT.mono ?_; rintro e w1 ⟨v1, rfl, h1, hb1⟩
      have hb2 := after hW hb1
      have h2 := hR.below hb1
      clear hb1 cT hQ hR
      go_wp2
      go_ret2
      exact RetTwo.mk' rfl rfl h1 h2 hb2
    · obtain ⟨i, rfl⟩ : ∃ i, j = i + 1 := ⟨j - 1, by omega⟩
      have hil : i < L.length := by omega
      have hRb := HI.out.2.2.1
      have hs10 := HX.out.at hil
      have hst := HI.out.step HX.out hil
      obtain ⟨bl, o, rfl, hc, hb, hcell⟩ := hA.at hil
      have e1 : (((i + 1 : Nat) : Int) - 1) = (i : Int) := by omega
      rw [e1]
      have ek : decide ((0 : Int) ≤ (i : Int)) = true := decide_eq_true (by omega)
      have ew3 : IntKind.i64.wrap ((i : Int) - 1) = (i : Int) - 1 := IntWalk.i64_in _ (by omega)
      have hz1 := Nat.lt_of_lt_of_le hb hW.size
      have k1 : wr.cell? ⟨bl, o + i, none⟩ = some (.int .i64 (L[i] : Int)) := by rw [hW.cell (p := ⟨bl, o + i, none⟩) hb]; exact hcell
      clear hcell HI
      generalize L[i] = s at *
      have HS := Lib.hid hst
      have hTl := HN.out (s + 10 * R) (by omega)
      have hRl : (dgN R).length ≤ 501 := HN.out R (by omega)
      have hfr := trim_front s R hs10
      obtain ⟨T, hT⟩ : ∃ T, s + 10 * R = T := ⟨_, rfl⟩
      have hT10 : T < 10 * b := by omega
      rw [hT] at hTl hfr HS
      clear hst
      go_wp2_with (at_builtin; refine held ?_)
      unfold Held
      refine wpList_want (by rfl) ?_
      intro KK hKK
      refine int_append _ _ rfl wr.heap.size _ _ [s] (dgN R) rfl rfl (own_one wr wr.heap.size (Nat.le_refl _) s) (hR.below (allocB (Below.refl _ _))) (by simp; omega) (by simp) ?_
      intro v5 w5 own5 hg5
      have hb5 : Below wr.heap.size wr w5 := (allocB (Below.refl _ _)).grown hg5 (by simp) (own_row (own_one wr wr.heap.size (Nat.le_refl _) s))
      have hrow := intRow_of_own own5
      have hW5 := after hW hb5
      have hQ5 := hQ.below hb5
      refine hKK _ _ ?_
      clear hKK hg5 own5 hb5 hQ hR hW k1 hz1
      have cT := trim_any ([s] ++ dgN R) (by simp; omega) _ _ hrow
      rw [show [s] ++ dgN R = s :: dgN R from rfl, hfr] at cT
      clear hrow hfr
      go_wp2_with fail
      refine cT.mono ?_; rintro e w6 ⟨v6, rfl, h6, hb6⟩
      replace hW5 := after hW5 hb6
      replace hQ5 := hQ5.below hb6
      clear hb6 cT
      go_wp2_with fail
      go_loopw [7, 9] (fun r k w' => ∃ (m S : Nat), k = .int .i64 (m : Int) ∧ m * b + S = T ∧ IntRow w' r (dgN S) ∧ IntRow w' _ Q ∧ Below w.heap.size w w') (fun _ k _ => 10 - (intOf k).toNat)
      case atStart => exact ⟨0, T, rfl, by omega, h6, hQ5, hW5⟩
      case round =>
        clear h6 hQ5 hW5
        obtain ⟨m, S, rfl, hmS, hS, hQ7, hW7⟩ := hrel
        have hm10 : m < 10 := by
          rcases Nat.lt_or_ge m 10 with h | h
          · exact h
          · have := Nat.mul_le_mul_right b h; omega
        have hSl : (dgN S).length ≤ 501 := HN.out S (by omega)
        have cL := cL S hSl _ _ hW7 hS
        by_cases hlt : S < b
        · rw [decide_eq_true hlt] at cL
          obtain ⟨g1, g2⟩ := div_step b S m hb0
          rw [hmS, Nat.div_eq_of_lt hlt, Nat.add_zero] at g1
          rw [hmS, Nat.mod_eq_of_lt hlt] at g2
          rw [g1, g2] at HS
          clear cM g1 g2 hlt
          go_wp2_with fail
          refine cL.mono ?_; rintro e w8 ⟨rfl, hb8⟩
          replace hW7 := after hW7 hb8
          replace hQ7 := hQ7.below hb8
          replace hS := hS.below hb8
          clear hb8 cL
          go_wp2_with (at_builtin; refine held ?_)
          unfold Held
          refine wpList_want (by rfl) ?_
          intro KK hKK
          refine int_append _ _ rfl w8.heap.size _ _ [m] Q rfl rfl (own_one w8 w8.heap.size (Nat.le_refl _) m) (hQ7.below (allocB (Below.refl _ _))) (by simp; omega) (by simp) ?_
          intro v9 w9 own9 hg9
          have hb9 : Below w8.heap.size w8 w9 := (allocB (Below.refl _ _)).grown hg9 (by simp) (own_row (own_one w8 w8.heap.size (Nat.le_refl _) m))
          have hrow := intRow_of_own own9
          have hW9 := after hW7 hb9
          have hS9 := hS.below hb9
          refine hKK _ _ ?_
          clear hKK hg9 own9 hb9 hQ7 hS hW7
          go_wp2
          go_roundw
          case rel => exact ⟨i, S, m :: Q, rfl, by omega, HS.out.2, hrow, hS9, hW9⟩
          case measure => simp [intOf]
        · have cM := fun r W hW h => cM S (by omega) hSl r W hW h
          rw [decide_eq_false hlt] at cL
          have ewm : IntKind.i64.wrap ((m : Int) + 1) = ((m + 1 : Nat) : Int) := by rw [IntWalk.i64_in _ (by omega)]; omega
          have hmS2 : (m + 1) * b + (S - b) = T := by rw [Nat.add_mul]; omega
          clear hlt
          go_wp2_with fail
          refine cL.mono ?_; rintro e w8 ⟨rfl, hb8⟩
          replace hW7 := after hW7 hb8
          replace hQ7 := hQ7.below hb8
          replace hS := hS.below hb8
          clear hb8 cL
          go_wp2_with fail
          refine (cM _ _ hW7 hS).mono ?_; rintro e w9 ⟨v9, rfl, h9, hb9⟩
          replace hW7 := after hW7 hb9
          replace hQ7 := hQ7.below hb9
          clear hb9 cM hS
          go_wp2
          go_roundw
          case rel => exact ⟨m + 1, S - b, rfl, hmS2, h9, hQ7, hW7⟩
          case measure => simp [intOf]; omega
end Go.Proofs.YtgnejohiagagmaaGreatDoor

namespace Go.Proofs.YtgnejohiagagmaaGreatDoor
open Go.RowKit Tab

theorem cell2_give {w w' : World} (h : Blk w' w.heap.size #[.int .i64 0, .int .i64 0]) (hb : Below w.heap.size w w') (M E : Int) :
    ((w'.setCell ⟨w.heap.size, 0, none⟩ (.int .i64 M)).setCell ⟨w.heap.size, 1, none⟩ (.int .i64 E)).cell? ⟨w.heap.size, 0, none⟩ = some (.int .i64 M) ∧
    ((w'.setCell ⟨w.heap.size, 0, none⟩ (.int .i64 M)).setCell ⟨w.heap.size, 1, none⟩ (.int .i64 E)).cell? ⟨w.heap.size, 1, none⟩ = some (.int .i64 E) ∧
    Below w.heap.size w ((w'.setCell ⟨w.heap.size, 0, none⟩ (.int .i64 M)).setCell ⟨w.heap.size, 1, none⟩ (.int .i64 E)) := by
  have k9 : Blk ((w'.setCell ⟨w.heap.size, 0, none⟩ (.int .i64 M)).setCell ⟨w.heap.size, 1, none⟩ (.int .i64 E)) w.heap.size _ := h.set.set
  have q0 := k9.facts.1 0
  have q1 := k9.facts.1 1
  simp only [List.setIfInBounds_toArray, List.set_cons_zero, List.set_cons_succ, List.getElem?_toArray, List.getElem?_cons_zero, List.getElem?_cons_succ] at q0 q1
  exact ⟨q0, q1, (hb.setCell (Nat.le_refl _) _).setCell (Nat.le_refl _) _⟩

set_option maxRecDepth 100000 in
set_option maxHeartbeats 4000000 in
theorem lowest_any (m : Nat) (hm : m < 1000000000000000000) (e : Int) (h0 : -9 ≤ e) (h9 : e ≤ 9) (w : World) : Calls Tryz.prog 208 #[.int .i64 (m : Int), .int .i64 e] w (Ret (decV (lowD m e)) w) := by
  by_cases hz : m = 0
  · subst hz
    rw [show lowD 0 e = (0, 0) from rfl]
    go_enter Tryz.func208, Tryz.ntmps208
    go_upto_region 1 with fail
    refine wp_abs2 (fun W => Blk W w.heap.size #[.int .i64 0, .int .i64 0] ∧ Below w.heap.size w W) ⟨(by apply Blk.eq; (repeat' (first | with_reducible assumption | with_reducible apply Blk.set | with_reducible apply Blk.other | (with_reducible refine Blk.new ?_; simp; done) | with_reducible apply Blk.alloc | omega)); rfl), (by repeat' (first | with_reducible assumption | with_reducible exact Below.refl _ _ | with_reducible refine allocB ?_ | with_reducible refine setB ?_ ?_ | with_reducible refine drewB ?_ | with_reducible refine after ?_ (by assumption) | (simp; omega) | omega))⟩ ?_
    rintro W ⟨hB, hW⟩
    obtain ⟨q0, q1, hb9⟩ := cell2_give hB hW 0 0
    obtain ⟨fr, gr, zr⟩ := hB.facts
    have cr0 := fr 0
    have cr1 := fr 1
    clear fr
    simp only [List.getElem?_toArray, List.getElem?_cons_zero, List.getElem?_cons_succ] at cr0 cr1
    have HB9 := Lib.hid hb9
    clear hb9 hB
    go_wp2
    exact bodyPost_ret (v := decV (0, 0)) (by simp [results, Tryz.results208, go_sem, decV, *]) rfl ⟨rfl, HB9.out⟩
  · obtain ⟨V, hV⟩ : ∃ V, lowD m e = V := ⟨_, rfl⟩
    rw [hV]
    unfold lowD at hV
    rw [if_neg hz] at hV
    have e0 : ((m : Int) == 0) = false := by rw [beq_eq_false_iff_ne]; omega
    have HV := Lib.hid hV
    clear hV
    go_enter Tryz.func208, Tryz.ntmps208
    go_upto_region 1 with fail
    refine wp_abs2 (fun W => Blk W w.heap.size #[.int .i64 0, .int .i64 0] ∧ Below w.heap.size w W) ⟨(by apply Blk.eq; (repeat' (first | with_reducible assumption | with_reducible apply Blk.set | with_reducible apply Blk.other | (with_reducible refine Blk.new ?_; simp; done) | with_reducible apply Blk.alloc | omega)); rfl), (by repeat' (first | with_reducible assumption | with_reducible exact Below.refl _ _ | with_reducible refine allocB ?_ | with_reducible refine setB ?_ ?_ | with_reducible refine drewB ?_ | with_reducible refine after ?_ (by assumption) | (simp; omega) | omega))⟩ ?_
    rintro W ⟨hB, hW⟩
    have HB := Lib.hid hB
    clear hB
    go_wp2
    go_loop [0, 1] (fun u v => ∃ (k : Nat) (f : Int), u = .int .i64 (k : Int) ∧ v = .int .i64 f ∧ 1 ≤ k ∧ k ≤ m ∧ -9 ≤ f ∧ f ≤ 9 ∧ stripF (9 - f).toNat k f = V) (fun _ v => (9 - intOf v).toNat)
    case atStart => exact ⟨m, e, rfl, rfl, by omega, Nat.le_refl _, h0, h9, HV.out⟩
    case round =>
      clear HV
      obtain ⟨k, f, rfl, rfl, hk1, hk2, hf0, hf9, hI⟩ := hrel
      have HI := Lib.hid hI
      clear hI
      have e2 : (k : Int).tmod 10 = ((k % 10 : Nat) : Int) := by rw [Int.tmod_eq_emod_of_nonneg (by omega)]; omega
      have e3 : (k : Int).tdiv 10 = ((k / 10 : Nat) : Int) := by rw [Int.tdiv_eq_ediv_of_nonneg (by omega)]; omega
      have ew : IntKind.i64.wrap (f + 1) = f + 1 := IntWalk.i64_in _ (by omega)
      by_cases hs : k % 10 = 0 ∧ f < 9
      · have e5 : (((k % 10 : Nat) : Int) == 0) = true := by rw [beq_iff_eq]; omega
        have e6 : ((k : Int) % 10 == 0) = true := by rw [beq_iff_eq]; omega
        have e7 : decide (f < 9) = true := decide_eq_true hs.2
        have hI := HI.out
        rw [show (9 - f).toNat = (9 - (f + 1)).toNat + 1 by omega, stripF, if_pos (by omega)] at hI
        have hI2 : stripF (9 - (f + 1)).toNat ((k / 10 : Nat) : Int) (f + 1) = V := by
          rw [← hI]; congr 1
        have HI2 := Lib.hid hI2
        have HS := Lib.hid hs
        clear hI hI2 HI hs
        go_wp2
        go_round
        case rel => exact ⟨k / 10, f + 1, rfl, rfl, by have := HS.out; omega, by omega, by omega, by have := HS.out; omega, HI2.out⟩
        case measure => have := HS.out; simp [intOf]; omega
      · have hv : ((k : Int), f) = V := by
          rw [← HI.out]
          rcases hfu : (9 - f).toNat with _ | n
          · rfl
          · rw [stripF, if_neg (by omega)]
        subst hv
        have hz2 : ((((k % 10 : Nat) : Int) == 0) = false ∧ ((k : Int) % 10 == 0) = false) ∨ ((((k % 10 : Nat) : Int) == 0) = true ∧ ((k : Int) % 10 == 0) = true ∧ decide (f < 9) = false) := by
          by_cases h : k % 10 = 0
          · exact .inr ⟨by rw [beq_iff_eq]; omega, by rw [beq_iff_eq]; omega, decide_eq_false fun h2 => hs ⟨h, h2⟩⟩
          · exact .inl ⟨by rw [beq_eq_false_iff_ne]; omega, by rw [beq_eq_false_iff_ne]; omega⟩
        clear hs HI
        obtain ⟨q0, q1, hb9⟩ := cell2_give HB.out hW (k : Int) f
        obtain ⟨fr, gr, zr⟩ := HB.out.facts
        have cr0 := fr 0
        have cr1 := fr 1
        clear fr
        simp only [List.getElem?_toArray, List.getElem?_cons_zero, List.getElem?_cons_succ] at cr0 cr1
        have HB9 := Lib.hid hb9
        clear hb9
        rcases hz2 with ⟨e5, e6⟩ | ⟨e5, e6, e7⟩
        all_goals (
          go_wp2
          exact bodyPost_ret (v := decV ((k : Int), f)) (by simp [results, Tryz.results208, go_sem, decV, *]) rfl ⟨rfl, HB9.out⟩)

set_option maxRecDepth 100000 in
theorem unit_any (n : Nat) (hn : n ≤ 1000) (w : World) : Calls Tryz.prog 185 #[.int .i64 (n : Int)] w (RetRow (dgN (10 ^ n)) w) := by
  have e1 : dgN 1 = [1] := by rw [dgN_pos (by decide), dgN_zero]
  have cT := fun v W h => ten_any 1 (by rw [e1]; decide) (n : Int) n (by omega) hn (by omega) v W h
  rw [Nat.one_mul, e1] at cT
  go_enter Tryz.func185, Tryz.ntmps185
  go_wp2_with fail
  refine (cT _ _ (intRow_one _ 1 _)).mono ?_; rintro e w1 ⟨v1, rfl, h1, hb1⟩
  have hb := after (allocB (Below.refl _ _)) hb1
  clear hb1 cT
  go_wp2
  go_ret
  exact RetRow.mk' rfl h1 hb

end Go.Proofs.YtgnejohiagagmaaGreatDoor

namespace Go.Proofs.YtgnejohiagagmaaGreatDoor
open Go.RowKit Tab

set_option maxRecDepth 100000 in
set_option maxHeartbeats 4000000 in
theorem whole_any (M : Nat) (hM : M ≤ 1000000000000000) (E : Int) (h0 : -9 ≤ E) (h9 : E ≤ 9) (w : World) : Calls Tryz.prog 187 #[decV ((M : Int), E)] w (RetRow (dgN (M * 10 ^ (E + 9).toNat)) w) := by
  have cD := fun W => digits_any M (by omega) W
  have hl : (dgN M).length ≤ 19 := dgN_len_bound (by omega)
  have cT := fun v W h => ten_any M (by omega) (E + 9) (E + 9).toNat rfl (by omega) (by omega) v W h
  have ew : IntKind.i64.wrap (E + 9) = E + 9 := IntWalk.i64_in _ (by omega)
  unfold decV
  go_enter Tryz.func187, Tryz.ntmps187
  go_upto_region 1 with fail
  refine wp_abs2 (fun W => Blk W w.heap.size #[.int .i64 (M : Int), .int .i64 E] ∧ Below w.heap.size w W) ⟨(by apply Blk.eq; (repeat' (first | with_reducible assumption | with_reducible apply Blk.set | with_reducible apply Blk.other | (with_reducible refine Blk.new ?_; simp; done) | with_reducible apply Blk.alloc | omega)); rfl), (by repeat' (first | with_reducible assumption | with_reducible exact Below.refl _ _ | with_reducible refine allocB ?_ | with_reducible refine setB ?_ ?_ | with_reducible refine drewB ?_ | with_reducible refine after ?_ (by assumption) | (simp; omega) | omega))⟩ ?_
  rintro W ⟨hB, hW⟩
  obtain ⟨fr, gr, zr⟩ := hB.facts
  have cr0 := fr 0
  have cr1 := fr 1
  clear fr
  simp only [List.getElem?_toArray, List.getElem?_cons_zero, List.getElem?_cons_succ] at cr0 cr1
  have hf : ∀ w1, Below W.drew.heap.size W.drew w1 → w1.cell? ⟨w.heap.size, 1, none⟩ = some (.int .i64 E) ∧ (∀ o, w1.frozen? ⟨w.heap.size, o, none⟩ = false) ∧ w.heap.size < w1.heap.size ∧ Below w.heap.size w w1 := fun w1 hb1 => by
    have hb2 : Below W.heap.size W w1 := after (drewB (Below.refl _ _)) hb1
    have h3 := (hB.below hb2).facts
    exact ⟨(h3.1 1).trans rfl, h3.2.1, h3.2.2, after hW hb2⟩
  go_region_with (first
    | (go_at_call 207; refine (cD _).mono ?_; rintro e w1 ⟨v1, rfl, h1, hb1⟩; obtain ⟨cr1b, gr1, zr1, hW1⟩ := hf w1 hb1)
    | (go_at_call 186; refine (cT _ _ h1).mono ?_; rintro e w2 ⟨v2, rfl, h2, hb2⟩))
  all_goals (
    have hb := after hW1 hb2
    go_wp2
    go_ret
    exact RetRow.mk' rfl h2 hb)
end Go.Proofs.YtgnejohiagagmaaGreatDoor

namespace Tab
theorem low_bound {n k : Nat} (h : (dgN n).length ≤ k) : n < 10 ^ k := by
  have h1 := vals_lt (dgN_low n)
  rw [vals_dgN] at h1
  exact Nat.lt_of_lt_of_le h1 (Nat.pow_le_pow_right (by decide) h)
theorem dgN_head (n : Nat) : (dgN n).getD 0 0 = n % 10 := by
  by_cases h : n = 0
  · subst h; rw [dgN_zero]; rfl
  · rw [dgN_pos h]; rfl
end Tab
namespace Go.Proofs.YtgnejohiagagmaaGreatDoor
open Go.RowKit Tab

/-- what near hands back, of a number that is not below nought. -/
def nearW : Option (Int × Int) → Value
  | none => .tuple #[decV (0, 0), .int .i64 10]
  | some p => .tuple #[decV p, .int .i64 0]

set_option maxRecDepth 100000 in
set_option maxHeartbeats 16000000 in
theorem near_any (N D : Nat) (hD0 : 0 < D) (hN : (dgN N).length ≤ 100) (hD : (dgN D).length ≤ 100) (v u : Value) (w : World) (hL : IntRow w v (dgN N)) (hM : IntRow w u (dgN D)) : Calls Tryz.prog 184 #[.bool false, v, u] w (Ret (nearW (nearN N D 19 (-9))) w) := by
  obtain ⟨V, hV⟩ : ∃ V, nearN N D 19 (-9) = V := ⟨_, rfl⟩
  rw [hV]
  have HV := Lib.hid hV
  clear hV
  have cTN := fun (m : Int) (n : Nat) (h1 : m.toNat = n) (h2 : n ≤ 9) (h3 : -1000 ≤ m) W (hb : Below w.heap.size w W) => ten_any N (by omega) m n h1 (by omega) h3 v W (hL.below hb)
  have cTD := fun (m : Int) (n : Nat) (h1 : m.toNat = n) (h2 : n ≤ 9) (h3 : -1000 ≤ m) W (hb : Below w.heap.size w W) => ten_any D (by omega) m n h1 (by omega) h3 u W (hM.below hb)
  have lN := fun n => dgN_len_pow N n
  have lD := fun n => dgN_len_pow D n
  clear hL hM
  go_enter Tryz.func184, Tryz.ntmps184
  go_upto_region 1 with fail
  refine wp_abs2 (fun W => Blk W w.heap.size #[.int .i64 0, .int .i64 0] ∧ Below w.heap.size w W) ⟨(by apply Blk.eq; (repeat' (first | with_reducible assumption | with_reducible apply Blk.set | with_reducible apply Blk.other | (with_reducible refine Blk.new ?_; simp; done) | with_reducible apply Blk.alloc | omega)); rfl), (by repeat' (first | with_reducible assumption | with_reducible exact Below.refl _ _ | with_reducible refine allocB ?_ | with_reducible refine setB ?_ ?_ | with_reducible refine drewB ?_ | with_reducible refine after ?_ (by assumption) | (simp; omega) | omega))⟩ ?_
  rintro W ⟨hB, hW⟩
  go_wp2_with fail
  go_loopw [8] (fun i w' => ∃ (f : Nat) (e : Int), i = .int .i64 e ∧ e + (f : Int) = 10 ∧ -9 ≤ e ∧ nearN N D f e = V ∧ Blk w' w.heap.size #[.int .i64 0, .int .i64 0] ∧ Below w.heap.size w w') (fun i _ => (10 - intOf i).toNat)
  case atStart => exact ⟨19, -9, rfl, by decide, by decide, HV.out, hB, hW⟩
  case round =>
    clear HV hB hW
    obtain ⟨f, e, rfl, hf, he, hI, hB, hW⟩ := hrel
    have HI := Lib.hid hI
    clear hI
    cases f with
    | zero =>
      have hv : V = none := HI.out.symm
      subst hv
      have e1 : decide (e ≤ 9) = false := decide_eq_false (by omega)
      obtain ⟨q0, q1, hb9⟩ := cell2_give hB hW 0 0
      obtain ⟨fr, gr, zr⟩ := hB.facts
      have cr0 := fr 0
      have cr1 := fr 1
      clear fr
      simp only [List.getElem?_toArray, List.getElem?_cons_zero, List.getElem?_cons_succ] at cr0 cr1
      have HB9 := Lib.hid hb9
      clear hb9 cTN cTD HI
      go_wp2
      exact bodyPost_ret (v := .tuple #[decV (0, 0), .int .i64 10]) (by simp [results, Tryz.results184, go_sem, decV, *]) rfl ⟨rfl, HB9.out⟩
    | succ f =>
      have e1 : decide (e ≤ 9) = true := decide_eq_true (by omega)
      have ewn : IntKind.i64.wrap (-e) = -e := IntWalk.i64_in _ (by omega)
      have ewe : IntKind.i64.wrap (e + 1) = e + 1 := IntWalk.i64_in _ (by omega)
      have cTN := cTN (-e) (-e).toNat rfl (by omega) (by omega)
      have cTD := cTD e e.toNat rfl (by omega) (by omega)
      have lN := lN (-e).toNat
      have lD := lD e.toNat
      have hst : (if 999999999999999 < rndN (N * 10 ^ (-e).toNat) (D * 10 ^ e.toNat) then nearN N D f (e + 1) else some (lowD (rndN (N * 10 ^ (-e).toNat) (D * 10 ^ e.toNat)) e)) = V := HI.out
      have hB0 : 0 < D * 10 ^ e.toNat := Nat.mul_pos hD0 (Nat.pow_pos (by decide))
      obtain ⟨A, hA⟩ : ∃ A, N * 10 ^ (-e).toNat = A := ⟨_, rfl⟩
      obtain ⟨B, hBe⟩ : ∃ B, D * 10 ^ e.toNat = B := ⟨_, rfl⟩
      rw [hA, hBe] at hst
      rw [hA] at cTN lN
      rw [hBe] at cTD lD hB0
      have lA : (dgN A).length ≤ 109 := by omega
      have lB : (dgN B).length ≤ 109 := by omega
      unfold rndN at hst
      obtain ⟨Q, hQ⟩ : ∃ Q, A / B = Q := ⟨_, rfl⟩
      obtain ⟨R, hR⟩ : ∃ R, A % B = R := ⟨_, rfl⟩
      rw [hQ, hR] at hst
      have hQA : Q ≤ A := by rw [← hQ]; exact Nat.div_le_self _ _
      have hRB : R < B := by rw [← hR]; exact Nat.mod_lt _ hB0
      have lQ : (dgN Q).length ≤ 109 := by have := dgN_len_le hQA; omega
      have lR : (dgN R).length ≤ 109 := by have := dgN_len_le (Nat.le_of_lt hRB); omega
      have l2R : (dgN (R + R)).length ≤ 110 := by
        have h1 := dgN_len_le (show R + R ≤ B * 10 ^ 1 by omega)
        have h2 := dgN_len_pow B 1
        omega
      have lQ1 : (dgN (Q + 1)).length ≤ 110 := dgN_len_bound (by
        have h1 := low_bound lQ
        have h2 : (10 : Nat) ^ 109 < 10 ^ 110 := Nat.pow_lt_pow_right (by decide) (by decide)
        omega)
      have HS := Lib.hid hst
      have HLQ := Lib.hid lQ
      have HL1 := Lib.hid lQ1
      have cB := fun v u W h1 h2 => by_any A B hB0 (by omega) (by omega) v u W h1 h2
      rw [hQ, hR] at cB
      clear hst lN lD hA hBe hQ hR HI lQ1 hQA lQ
      go_wp2_with fail
      refine (cTD _ hW).mono ?_; rintro e4 w4 ⟨v4, rfl, h4, hb⟩
      replace hW := after hW hb
      replace hB := hB.below hb
      clear hb cTD
      go_wp2_with fail
      refine (cTN _ hW).mono ?_; rintro e5 w5 ⟨v5, rfl, h5, hb⟩
      replace hW := after hW hb
      replace hB := hB.below hb
      replace h4 := h4.below hb
      clear hb cTN
      go_wp2_with fail
      refine (cB _ _ _ h5 h4).mono ?_; rintro e6 w6 ⟨q6, r6, rfl, hq, hr, hb⟩
      replace hW := after hW hb
      replace hB := hB.below hb
      replace h4 := h4.below hb
      clear hb cB h5
      have cP := plus_any R R (by omega) (by omega) r6 r6 w6 hr hr
      go_wp2_with fail
      refine cP.mono ?_; rintro e7 w7 ⟨t7, rfl, ht, hb⟩
      replace hW := after hW hb
      replace hB := hB.below hb
      replace h4 := h4.below hb
      replace hq := hq.below hb
      clear hb cP hr
      have cL1 := less_any B (R + R) (by omega) (by omega) v4 t7 w7 h4 ht
      by_cases h1 : B < R + R
      · rw [decide_eq_true h1] at cL1
        have hst := HS.out
        rw [show (if B < 2 * R ∨ (¬ 2 * R < B ∧ Q % 2 = 1) then Q + 1 else Q) = Q + 1 from if_pos (.inl (by omega))] at hst
        have HS := Lib.hid hst
        clear hst
        go_wp2_with fail
        refine cL1.mono ?_; rintro e8 w8 ⟨rfl, hb⟩
        replace hW := after hW hb
        replace hB := hB.below hb
        replace hq := hq.below hb
        clear hb cL1 h4 ht h1
        have cP := plus_any Q 1 (by have := HLQ.out; omega) (by rw [dgN_pos (by decide), dgN_zero]; decide) q6 (.slice (some ⟨w8.heap.size, 0, none⟩) 1 1) (w8.alloc (.cells #[.int .i64 ((1 : Nat) : Int)] 3 (0, 0))) (hq.below (allocB (Below.refl _ _))) (by rw [dgN_pos (show 1 ≠ 0 by decide), dgN_zero]; exact intRow_one _ 1 _)
        go_wp2_with fail
        refine cP.mono ?_; rintro ep wp ⟨qp, rfl, hqp, hb⟩
        have hb' := after (allocB (Below.refl w8.heap.size w8)) hb
        replace hW := after hW hb'
        replace hB := hB.below hb'
        clear hb hb' cP hq
        have hx : (dgN (Q + 1)).length ≤ 110 := HL1.out
        generalize Q + 1 = X at *
        clear HL1 HLQ
        have cD := fun W => digits_any 999999999999999 (by decide) W
        have lm : (dgN 999999999999999).length ≤ 110 := dgN_len_bound (Nat.lt_of_lt_of_le (show 999999999999999 < 10 ^ 15 by decide) (Nat.pow_le_pow_right (by decide) (by decide)))
        go_wp2_with fail
        refine (cD _).mono ?_; rintro ed wd ⟨vd, rfl, hvd, hb⟩
        replace hW := after hW hb
        replace hB := hB.below hb
        replace hqp := hqp.below hb
        clear hb cD
        have cL3 := less_any 999999999999999 X (by omega) (by omega) _ _ wd hvd hqp
        by_cases hbig : 999999999999999 < X
        · rw [decide_eq_true hbig] at cL3
          have hst := HS.out
          rw [if_pos hbig] at hst
          have HS := Lib.hid hst
          clear hst hvd hbig
          go_wp2_with fail
          refine cL3.mono ?_; rintro e9 w9 ⟨rfl, hb⟩
          replace hW := after hW hb
          replace hB := hB.below hb
          clear hb cL3 hqp
          go_wp2
          go_roundw
          case rel => exact ⟨f, e + 1, rfl, by omega, by omega, HS.out, hB, hW⟩
          case measure => simp [intOf]; omega
        · rw [decide_eq_false hbig] at cL3
          have hst := HS.out
          rw [if_neg hbig] at hst
          subst hst
          clear hvd HS
          go_wp2_with fail
          refine cL3.mono ?_; rintro e9 w9 ⟨rfl, hb⟩
          replace hW := after hW hb
          replace hB := hB.below hb
          replace hqp := hqp.below hb
          clear hb cL3
          have cV := value_any X (by omega) _ w9 hqp
          have cO := fun W => lowest_any X (by omega) e (by omega) (by omega) W
          obtain ⟨⟨P, E⟩, hp⟩ : ∃ p, lowD X e = p := ⟨_, rfl⟩
          rw [hp] at cO
          have HP := Lib.hid hp
          clear hp hqp
          unfold decV at cO
          dsimp only at cO
          go_wp2_with fail
          refine cV.mono ?_; rintro ev wv ⟨rfl, rfl⟩
          go_wp2_with fail
          refine (cO _).mono ?_; rintro eo wo ⟨rfl, hb⟩
          replace hW := after hW hb
          replace hB := hB.below hb
          clear hb cV cO
          obtain ⟨q0, q1, hb9⟩ := cell2_give hB hW P E
          obtain ⟨fr, gr, zr⟩ := hB.facts
          have cr0 := fr 0
          have cr1 := fr 1
          clear fr
          simp only [List.getElem?_toArray, List.getElem?_cons_zero, List.getElem?_cons_succ] at cr0 cr1
          have HB9 := Lib.hid (allocB (o := .cells #[.int .i64 P, .int .i64 E] 40) hb9)
          clear hb9
          go_wp2
          exact bodyPost_ret (v := .tuple #[decV (P, E), .int .i64 0]) (by simp [results, Tryz.results184, go_sem, decV, *]) rfl ⟨by rw [HP.out]; rfl, HB9.out⟩
      · rw [decide_eq_false h1] at cL1
        have cL2 := fun W hb => less_any (R + R) B (by omega) (by omega) t7 v4 W (ht.below hb) (h4.below hb)
        by_cases h2 : R + R < B
        · have e2 := decide_eq_true h2
          rw [e2] at cL2
          have hst := HS.out
          rw [show (if B < 2 * R ∨ (¬ 2 * R < B ∧ Q % 2 = 1) then Q + 1 else Q) = Q from if_neg (by omega)] at hst
          have HS := Lib.hid hst
          clear hst
          go_wp2_with fail
          refine cL1.mono ?_; rintro e8 w8 ⟨rfl, hb⟩
          replace cL2 := cL2 w8 hb
          replace hW := after hW hb
          replace hB := hB.below hb
          replace hq := hq.below hb
          clear hb cL1 h4 ht
          go_wp2_with fail
          refine cL2.mono ?_; rintro e8 w8b ⟨rfl, hb⟩
          replace hW := after hW hb
          replace hB := hB.below hb
          replace hq := hq.below hb
          clear hb cL2 h1 h2 e2
          have hqp := hq
          have hx : (dgN Q).length ≤ 110 := Nat.le_trans HLQ.out (by decide)
          clear hq
          generalize Q = X at *
          clear HL1 HLQ
          have cD := fun W => digits_any 999999999999999 (by decide) W
          have lm : (dgN 999999999999999).length ≤ 110 := dgN_len_bound (Nat.lt_of_lt_of_le (show 999999999999999 < 10 ^ 15 by decide) (Nat.pow_le_pow_right (by decide) (by decide)))
          go_wp2_with fail
          refine (cD _).mono ?_; rintro ed wd ⟨vd, rfl, hvd, hb⟩
          replace hW := after hW hb
          replace hB := hB.below hb
          replace hqp := hqp.below hb
          clear hb cD
          have cL3 := less_any 999999999999999 X (by omega) (by omega) _ _ wd hvd hqp
          by_cases hbig : 999999999999999 < X
          · rw [decide_eq_true hbig] at cL3
            have hst := HS.out
            rw [if_pos hbig] at hst
            have HS := Lib.hid hst
            clear hst hvd hbig
            go_wp2_with fail
            refine cL3.mono ?_; rintro e9 w9 ⟨rfl, hb⟩
            replace hW := after hW hb
            replace hB := hB.below hb
            clear hb cL3 hqp
            go_wp2
            go_roundw
            case rel => exact ⟨f, e + 1, rfl, by omega, by omega, HS.out, hB, hW⟩
            case measure => simp [intOf]; omega
          · rw [decide_eq_false hbig] at cL3
            have hst := HS.out
            rw [if_neg hbig] at hst
            subst hst
            clear hvd HS
            go_wp2_with fail
            refine cL3.mono ?_; rintro e9 w9 ⟨rfl, hb⟩
            replace hW := after hW hb
            replace hB := hB.below hb
            replace hqp := hqp.below hb
            clear hb cL3
            have cV := value_any X (by omega) _ w9 hqp
            have cO := fun W => lowest_any X (by omega) e (by omega) (by omega) W
            obtain ⟨⟨P, E⟩, hp⟩ : ∃ p, lowD X e = p := ⟨_, rfl⟩
            rw [hp] at cO
            have HP := Lib.hid hp
            clear hp hqp
            unfold decV at cO
            dsimp only at cO
            go_wp2_with fail
            refine cV.mono ?_; rintro ev wv ⟨rfl, rfl⟩
            go_wp2_with fail
            refine (cO _).mono ?_; rintro eo wo ⟨rfl, hb⟩
            replace hW := after hW hb
            replace hB := hB.below hb
            clear hb cV cO
            obtain ⟨q0, q1, hb9⟩ := cell2_give hB hW P E
            obtain ⟨fr, gr, zr⟩ := hB.facts
            have cr0 := fr 0
            have cr1 := fr 1
            clear fr
            simp only [List.getElem?_toArray, List.getElem?_cons_zero, List.getElem?_cons_succ] at cr0 cr1
            have HB9 := Lib.hid (allocB (o := .cells #[.int .i64 P, .int .i64 E] 40) hb9)
            clear hb9
            go_wp2
            exact bodyPost_ret (v := .tuple #[decV (P, E), .int .i64 0]) (by simp [results, Tryz.results184, go_sem, decV, *]) rfl ⟨by rw [HP.out]; rfl, HB9.out⟩
        · have e2 := decide_eq_false h2
          rw [e2] at cL2
          have cA := fun W hb => intAt_any (dgN Q) (by have := HLQ.out; omega) 0 (by decide) q6 W (hq.below hb)
          rw [dgN_head] at cA
          have e4 : ((Q % 10 : Nat) : Int).tmod 2 = ((Q % 2 : Nat) : Int) := by rw [Int.tmod_eq_emod_of_nonneg (by omega)]; omega
          by_cases h3 : Q % 2 = 1
          · have e5 : (((Q % 2 : Nat) : Int) == 1) = true := by rw [beq_iff_eq]; omega
            have hst := HS.out
            rw [show (if B < 2 * R ∨ (¬ 2 * R < B ∧ Q % 2 = 1) then Q + 1 else Q) = Q + 1 from if_pos (.inr ⟨by omega, h3⟩)] at hst
            have HS := Lib.hid hst
            clear hst
            go_wp2_with fail
            refine cL1.mono ?_; rintro e8 w8 ⟨rfl, hb⟩
            replace cL2 := cL2 w8 hb
            replace cA := cA w8 hb
            replace hW := after hW hb
            replace hB := hB.below hb
            replace hq := hq.below hb
            clear hb cL1 h4 ht
            have cA := fun W hb => intAt_any (dgN Q) (by have := HLQ.out; omega) 0 (by decide) q6 W (hq.below hb)
            rw [dgN_head] at cA
            go_wp2_with fail
            refine cL2.mono ?_; rintro e8 w8b ⟨rfl, hb⟩
            replace cA := cA w8b hb
            replace hW := after hW hb
            replace hB := hB.below hb
            replace hq := hq.below hb
            clear hb cL2 h1 h2 e2
            go_wp2_with fail
            refine cA.mono ?_; rintro e8 w8c ⟨rfl, rfl⟩
            clear cA h3
            have cP := plus_any Q 1 (by have := HLQ.out; omega) (by rw [dgN_pos (by decide), dgN_zero]; decide) q6 (.slice (some ⟨w8b.heap.size, 0, none⟩) 1 1) (w8b.alloc (.cells #[.int .i64 ((1 : Nat) : Int)] 3 (0, 0))) (hq.below (allocB (Below.refl _ _))) (by rw [dgN_pos (show 1 ≠ 0 by decide), dgN_zero]; exact intRow_one _ 1 _)
            go_wp2_with fail
            refine cP.mono ?_; rintro ep wp ⟨qp, rfl, hqp, hb⟩
            have hb' := after (allocB (Below.refl w8b.heap.size w8b)) hb
            replace hW := after hW hb'
            replace hB := hB.below hb'
            clear hb hb' cP hq
            have hx : (dgN (Q + 1)).length ≤ 110 := HL1.out
            generalize Q + 1 = X at *
            clear HL1 HLQ
            have cD := fun W => digits_any 999999999999999 (by decide) W
            have lm : (dgN 999999999999999).length ≤ 110 := dgN_len_bound (Nat.lt_of_lt_of_le (show 999999999999999 < 10 ^ 15 by decide) (Nat.pow_le_pow_right (by decide) (by decide)))
            go_wp2_with fail
            refine (cD _).mono ?_; rintro ed wd ⟨vd, rfl, hvd, hb⟩
            replace hW := after hW hb
            replace hB := hB.below hb
            replace hqp := hqp.below hb
            clear hb cD
            have cL3 := less_any 999999999999999 X (by omega) (by omega) _ _ wd hvd hqp
            by_cases hbig : 999999999999999 < X
            · rw [decide_eq_true hbig] at cL3
              have hst := HS.out
              rw [if_pos hbig] at hst
              have HS := Lib.hid hst
              clear hst hvd hbig
              go_wp2_with fail
              refine cL3.mono ?_; rintro e9 w9 ⟨rfl, hb⟩
              replace hW := after hW hb
              replace hB := hB.below hb
              clear hb cL3 hqp
              go_wp2
              go_roundw
              case rel => exact ⟨f, e + 1, rfl, by omega, by omega, HS.out, hB, hW⟩
              case measure => simp [intOf]; omega
            · rw [decide_eq_false hbig] at cL3
              have hst := HS.out
              rw [if_neg hbig] at hst
              subst hst
              clear hvd HS
              go_wp2_with fail
              refine cL3.mono ?_; rintro e9 w9 ⟨rfl, hb⟩
              replace hW := after hW hb
              replace hB := hB.below hb
              replace hqp := hqp.below hb
              clear hb cL3
              have cV := value_any X (by omega) _ w9 hqp
              have cO := fun W => lowest_any X (by omega) e (by omega) (by omega) W
              obtain ⟨⟨P, E⟩, hp⟩ : ∃ p, lowD X e = p := ⟨_, rfl⟩
              rw [hp] at cO
              have HP := Lib.hid hp
              clear hp hqp
              unfold decV at cO
              dsimp only at cO
              go_wp2_with fail
              refine cV.mono ?_; rintro ev wv ⟨rfl, rfl⟩
              go_wp2_with fail
              refine (cO _).mono ?_; rintro eo wo ⟨rfl, hb⟩
              replace hW := after hW hb
              replace hB := hB.below hb
              clear hb cV cO
              obtain ⟨q0, q1, hb9⟩ := cell2_give hB hW P E
              obtain ⟨fr, gr, zr⟩ := hB.facts
              have cr0 := fr 0
              have cr1 := fr 1
              clear fr
              simp only [List.getElem?_toArray, List.getElem?_cons_zero, List.getElem?_cons_succ] at cr0 cr1
              have HB9 := Lib.hid (allocB (o := .cells #[.int .i64 P, .int .i64 E] 40) hb9)
              clear hb9
              go_wp2
              exact bodyPost_ret (v := .tuple #[decV (P, E), .int .i64 0]) (by simp [results, Tryz.results184, go_sem, decV, *]) rfl ⟨by rw [HP.out]; rfl, HB9.out⟩
          · have e5 : (((Q % 2 : Nat) : Int) == 1) = false := by rw [beq_eq_false_iff_ne]; omega
            have hst := HS.out
            rw [show (if B < 2 * R ∨ (¬ 2 * R < B ∧ Q % 2 = 1) then Q + 1 else Q) = Q from if_neg (by omega)] at hst
            have HS := Lib.hid hst
            clear hst
            go_wp2_with fail
            refine cL1.mono ?_; rintro e8 w8 ⟨rfl, hb⟩
            replace cL2 := cL2 w8 hb
            replace cA := cA w8 hb
            replace hW := after hW hb
            replace hB := hB.below hb
            replace hq := hq.below hb
            clear hb cL1 h4 ht
            have cA := fun W hb => intAt_any (dgN Q) (by have := HLQ.out; omega) 0 (by decide) q6 W (hq.below hb)
            rw [dgN_head] at cA
            go_wp2_with fail
            refine cL2.mono ?_; rintro e8 w8b ⟨rfl, hb⟩
            replace cA := cA w8b hb
            replace hW := after hW hb
            replace hB := hB.below hb
            replace hq := hq.below hb
            clear hb cL2 h1 h2 e2
            go_wp2_with fail
            refine cA.mono ?_; rintro e8 w8c ⟨rfl, rfl⟩
            clear cA h3
            have hqp := hq
            have hx : (dgN Q).length ≤ 110 := Nat.le_trans HLQ.out (by decide)
            clear hq
            generalize Q = X at *
            clear HL1 HLQ
            have cD := fun W => digits_any 999999999999999 (by decide) W
            have lm : (dgN 999999999999999).length ≤ 110 := dgN_len_bound (Nat.lt_of_lt_of_le (show 999999999999999 < 10 ^ 15 by decide) (Nat.pow_le_pow_right (by decide) (by decide)))
            go_wp2_with fail
            refine (cD _).mono ?_; rintro ed wd ⟨vd, rfl, hvd, hb⟩
            replace hW := after hW hb
            replace hB := hB.below hb
            replace hqp := hqp.below hb
            clear hb cD
            have cL3 := less_any 999999999999999 X (by omega) (by omega) _ _ wd hvd hqp
            by_cases hbig : 999999999999999 < X
            · rw [decide_eq_true hbig] at cL3
              have hst := HS.out
              rw [if_pos hbig] at hst
              have HS := Lib.hid hst
              clear hst hvd hbig
              go_wp2_with fail
              refine cL3.mono ?_; rintro e9 w9 ⟨rfl, hb⟩
              replace hW := after hW hb
              replace hB := hB.below hb
              clear hb cL3 hqp
              go_wp2
              go_roundw
              case rel => exact ⟨f, e + 1, rfl, by omega, by omega, HS.out, hB, hW⟩
              case measure => simp [intOf]; omega
            · rw [decide_eq_false hbig] at cL3
              have hst := HS.out
              rw [if_neg hbig] at hst
              subst hst
              clear hvd HS
              go_wp2_with fail
              refine cL3.mono ?_; rintro e9 w9 ⟨rfl, hb⟩
              replace hW := after hW hb
              replace hB := hB.below hb
              replace hqp := hqp.below hb
              clear hb cL3
              have cV := value_any X (by omega) _ w9 hqp
              have cO := fun W => lowest_any X (by omega) e (by omega) (by omega) W
              obtain ⟨⟨P, E⟩, hp⟩ : ∃ p, lowD X e = p := ⟨_, rfl⟩
              rw [hp] at cO
              have HP := Lib.hid hp
              clear hp hqp
              unfold decV at cO
              dsimp only at cO
              go_wp2_with fail
              refine cV.mono ?_; rintro ev wv ⟨rfl, rfl⟩
              go_wp2_with fail
              refine (cO _).mono ?_; rintro eo wo ⟨rfl, hb⟩
              replace hW := after hW hb
              replace hB := hB.below hb
              clear hb cV cO
              obtain ⟨q0, q1, hb9⟩ := cell2_give hB hW P E
              obtain ⟨fr, gr, zr⟩ := hB.facts
              have cr0 := fr 0
              have cr1 := fr 1
              clear fr
              simp only [List.getElem?_toArray, List.getElem?_cons_zero, List.getElem?_cons_succ] at cr0 cr1
              have HB9 := Lib.hid (allocB (o := .cells #[.int .i64 P, .int .i64 E] 40) hb9)
              clear hb9
              go_wp2
              exact bodyPost_ret (v := .tuple #[decV (P, E), .int .i64 0]) (by simp [results, Tryz.results184, go_sem, decV, *]) rfl ⟨by rw [HP.out]; rfl, HB9.out⟩
end Go.Proofs.YtgnejohiagagmaaGreatDoor
