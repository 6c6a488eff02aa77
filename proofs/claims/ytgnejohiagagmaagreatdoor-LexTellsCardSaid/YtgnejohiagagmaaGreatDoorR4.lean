/- Rows of pieces, appended. The walks of tabularef04.sign, Faults, fault. The walks of tabularef04.piece, Tokens. -/
import Derived.Test.YtgnejohiagagmaaGreatDoorG10
import Derived.Test.YtgnejohiagagmaaGreatDoorG1
import Derived.Laws.AppendOwnNone
import Derived.Test.YtgnejohiagagmaaGreatDoorR2
import Derived.Test.YtgnejohiagagmaaGreatDoorG8
import Derived.Test.YtgnejohiagagmaaGreatDoorG11
import Derived.Test.YtgnejohiagagmaaGreatDoorR3
import Derived.Test.YtgnejohiagagmaaGreatDoorG15
namespace Go.Proofs.YtgnejohiagagmaaGreatDoor
open Go.RowKit Tab

theorem toksV_cell {w : World} {b : Nat} : ∀ (L : List TokT) (o : Nat), TokCells w b o L → ∀ (j : Nat) (u : Value), (toksV L)[j]? = some u → w.cell? ⟨b, o + j, none⟩ = some u
  | [], o, _, j, u, h => by simp [toksV] at h
  | x :: L, o, h, j, u, hj => by
    have h0 := h 0 x rfl
    rw [Nat.zero_mul, Nat.add_zero] at h0
    match j, hj with
    | 0, hj => cases hj; exact h0.1
    | 1, hj => cases hj; exact h0.2.1
    | 2, hj => cases hj; exact h0.2.2
    | j + 3, hj =>
      have ht : TokCells w b (o + 3) L := fun i y hy => by
        have := h (i + 1) y (by simpa using hy)
        rw [show o + (i + 1) * 3 = o + 3 + i * 3 by omega] at this
        exact this
      have := toksV_cell L (o + 3) ht j u hj
      rw [show o + (j + 3) = o + 3 + j by omega]
      exact this
theorem toksV_one (L : List TokT) : ∀ u ∈ toksV L, u.oneCell' = true := by
  intro u hu
  unfold toksV at hu
  obtain ⟨x, _, hx⟩ := List.mem_flatMap.1 hu
  simp only [tokCells, List.mem_cons, List.not_mem_nil, or_false] at hx
  rcases hx with rfl | rfl | rfl <;> rfl
theorem toksV_app (L M : List TokT) : toksV (L ++ M) = toksV L ++ toksV M := by unfold toksV; simp

/-- pieces appended to pieces that the call owns. -/
theorem tok_append {w : World} {o : Oper} {a : Act} {K : Act → World → Prop} {Q : Exit → Act → World → Prop} (s x : Operand)
    (ho : o.op = .call { callee := .builtin .append, args := #[s, x], argTypes := #[22, 22] })
    (base : Nat) (v u : Value) (M L : List TokT) (hs : a.eval s = v) (hx : a.eval x = u) (hown : w.ownsRow base 25 3 v M.length (toksV M)) (hL : TokRow w u L) (hn : M.length + L.length ≤ 1000) (hbase : base ≤ w.heap.size)
    (h : ∀ v' w', w'.ownsRow base 25 3 v' (M ++ L).length (toksV (M ++ L)) → w.grownBy w' v.ownBlock → K (a.put o.dst v') w') : o.wp Tryz.prog a w K Q := by
  obtain ⟨iT, hi, hz0, hz1, hz2⟩ := info_parts infoTok
  rcases hL with ⟨rfl, rfl⟩ | ⟨b, of, c, rfl, hc, hb, hcell⟩
  · refine wp_append_none s x 22 ho base 25 iT 3 Tryz.underlying22 hi v M.length (toksV M) hs hown hx ?_
    exact h v w (by rw [List.append_nil]; exact hown) ⟨rfl, rfl, rfl, Nat.le_refl _, fun _ _ _ => rfl⟩
  · refine wp_append_own w s x 22 ho base 25 iT (.agg #[.int .i64 0, .string ⟨#[]⟩, .int .i64 0]) 3 32 Tryz.underlying22 hi hz0 hz1 hz2 rfl (by decide) v M.length (toksV M) hs hown ⟨b, of, none⟩ L.length c (toksV L) hx (toksV_len L) ?_ (toksV_one L) (by unfold maxLen; omega) (by omega) hbase ?_
    · intro j u hu
      have := toksV_cell L of hcell j u hu
      unfold Addr.add
      by_cases h0 : j = 0
      · subst h0; simpa using this
      · simpa [h0] using this
    · intro v' w' h1 h2 _
      exact h v' w' (by rw [List.length_append, toksV_app]; exact h1) h2
end Go.Proofs.YtgnejohiagagmaaGreatDoor

namespace Go.Proofs.YtgnejohiagagmaaGreatDoor
open Go.RowKit Tab

def textsA (L : List Bs) : Array Value := (L.map fun x => Value.string ⟨x.toArray⟩).toArray
theorem textsA_at (L : List Bs) (i : Nat) (x : Bs) (h : L[i]? = some x) : (textsA L)[i]? = some (.string ⟨x.toArray⟩) := by
  unfold textsA
  rw [List.getElem?_toArray, List.getElem?_map, h]; rfl
theorem find_step {α : Type} (P : α → Bool) (L : List α) (j : Nat) (x : α) (h : L[j]? = some x) : (L.drop j).find? P = if P x = true then some x else (L.drop (j + 1)).find? P := by
  obtain ⟨hj, e⟩ := List.getElem?_eq_some_iff.1 h
  rw [List.drop_eq_getElem_cons hj, e, List.find?_cons]
  cases P x <;> rfl

set_option maxRecDepth 100000 in
set_option maxHeartbeats 8000000 in
theorem refSign_any (s : ByteArray) (a : Nat) (ha : a < s.size) (hs : s.size ≤ 1000) (w : World) : Calls Tryz.prog 102 #[.string s, .int .i64 (a : Int)] w (RPiece a (signPD (s.data.toList.drop a)) w) := by
  have cA := fun (t : ByteArray) (ht : t.size ≤ 1000) W => refAt_any s a (by omega) (by omega) t ht W
  unfold signPD
  generalize s.data.toList.drop a = l at *
  obtain ⟨O, hO⟩ : ∃ O, signsB.find? (fun x => Lib.hasPrefix l x) = O := ⟨_, rfl⟩
  rw [hO]
  have hall : ∀ x ∈ signsB, x.length ≤ 2 ∧ x.length ≠ 0 := by decide
  have hn : signsB.length = 20 := rfl
  have HO : Hid ((signsB.drop 0).find? (fun x => Lib.hasPrefix l x) = O) := Lib.hid hO
  have HA := Lib.hid hall
  have HN := Lib.hid hn
  clear hO hall hn
  go_enter Tryz.func102, Tryz.ntmps102
  go_upto_region 2 with fail
  refine wp_abs2 (fun W => Keep w [(w.heap.size + 1, textsA signsB), (w.heap.size, zeroTok)] W) (Keep.add (by apply Blk.eq; (repeat' (first | with_reducible assumption | with_reducible apply Blk.set | with_reducible apply Blk.other | (with_reducible refine Blk.new ?_; simp; done) | with_reducible apply Blk.alloc | omega)); rfl) (Keep.add (by apply Blk.eq; (repeat' (first | with_reducible assumption | with_reducible apply Blk.set | with_reducible apply Blk.other | (with_reducible refine Blk.new ?_; simp; done) | with_reducible apply Blk.alloc | omega)); rfl) (Keep.nil (by repeat' (first | with_reducible assumption | with_reducible exact Below.refl _ _ | with_reducible refine allocB ?_ | with_reducible refine setB ?_ ?_ | with_reducible refine drewB ?_ | with_reducible refine after ?_ (by assumption) | (simp; omega) | omega))))) ?_
  rintro W K
  obtain ⟨ft, gt, zt⟩ := K.hd.facts
  go_wp2
  go_loop [7] (fun i => ∃ j : Nat, i = .int .i64 (j : Int) ∧ j ≤ 20 ∧ (signsB.drop j).find? (fun x => Lib.hasPrefix l x) = O) (fun i => 20 - (intOf i).toNat)
  case atStart => exact ⟨0, rfl, by omega, HO.out⟩
  case round =>
    clear HO
    obtain ⟨j, rfl, hj, hI⟩ := hrel
    have HI := Lib.hid hI
    clear hI
    by_cases hlt : j < 20
    · have hjl : j < signsB.length := by rw [HN.out]; exact hlt
      obtain ⟨x, hx⟩ : ∃ x, signsB[j]? = some x := ⟨_, List.getElem?_eq_getElem hjl⟩
      have hxm := HA.out x (List.mem_of_getElem? hx)
      have kx : W.cell? ⟨w.heap.size + 1, j, none⟩ = some (.string ⟨x.toArray⟩) := (ft j).trans (textsA_at _ _ _ hx)
      have cA := fun W => cA ⟨x.toArray⟩ (by show x.toArray.size ≤ _; simp; omega) W
      rw [show (⟨x.toArray⟩ : ByteArray).data.toList = x from rfl] at cA
      have ew : IntKind.i64.wrap ((j : Int) + 1) = ((j + 1 : Nat) : Int) := by rw [IntWalk.i64_in _ (by omega)]; omega
      have hji : (j : Int) < 20 := by omega
      have hI := HI.out
      rw [find_step _ _ _ _ hx] at hI
      clear HI ft hx
      cases hp : Lib.hasPrefix l x
      · rw [hp] at cA
        rw [hp, if_neg Bool.false_ne_true] at hI
        have HI := Lib.hid hI
        clear hI hp
        go_wp2_with fail
        refine (cA _).mono ?_; rintro e w1 ⟨rfl, rfl⟩
        go_wp2
        go_round
        case rel => exact ⟨j + 1, rfl, hlt, HI.out⟩
        case measure => simp [intOf]; omega
      · rw [hp] at cA
        rw [hp, if_pos rfl] at hI
        subst hI
        clear hp
        show Code.wp _ _ _ _ _
        have hxl : (⟨x.toArray⟩ : ByteArray).size = x.length := by show x.toArray.size = _; simp
        have ewx : IntKind.i64.wrap ((a : Int) + (x.length : Int)) = ((a + x.length : Nat) : Int) := by rw [IntWalk.i64_in _ (by omega)]; omega
        go_wp2_with fail
        refine (cA _).mono ?_; rintro e w1 ⟨rfl, rfl⟩
        clear cA
        have hv : signOf (some x) = some (8, x, x.length) := by show mkD 8 x x.length = _; unfold mkD; rw [if_neg hxm.2]
        have HV := Lib.hid hv
        clear hv
        obtain ⟨-, -, -, -, dr0, dr1, dr2, dg, dz⟩ := cell3_give K.tl.hd K.bel (.int .i64 0) (.string ⟨#[]⟩) (.int .i64 0)
        obtain ⟨q0, q1, q2, hb9, -, -, -, -, -⟩ := cell3_give (K.below (drewB (Below.refl _ _))).tl.hd (drewB K.bel) (.int .i64 8) (.string ⟨x.toArray⟩) (.int .i64 (a : Int))
        have HB9 := Lib.hid hb9
        clear hb9 K
        go_upto_region 6 with fail
        go_region
        all_goals (
          go_wp2
          exact bodyPost_ret (v := .tuple #[.agg #[.int .i64 8, .string ⟨x.toArray⟩, .int .i64 (a : Int)], .int .i64 ((a + x.length : Nat) : Int)]) (by simp [results, Tryz.results102, go_sem, *]) rfl ⟨by rw [HV.out], HB9.out⟩)
    · have hj20 : j = 20 := by omega
      have hI := HI.out
      rw [hj20, ← HN.out, List.drop_length] at hI
      have hO : O = none := hI.symm
      subst hO
      clear hI HI ft gt zt
      obtain ⟨q0, q1, q2, hb9, cr0, cr1, cr2, gr, zr⟩ := cell3_give K.tl.hd K.bel (.int .i64 0) (.string ⟨#[]⟩) (.int .i64 0)
      have HB9 := Lib.hid hb9
      clear hb9 K
      go_wp2
      exact bodyPost_ret (v := .tuple #[.agg #[.int .i64 0, .string ⟨#[]⟩, .int .i64 0], .int .i64 0]) (by simp [results, Tryz.results102, go_sem, *]) rfl ⟨rfl, HB9.out⟩

set_option maxRecDepth 100000 in
theorem refFaults_any (w : World) : Calls Tryz.prog 151 #[] w fun e w' => ∃ b, e = .returned (.slice (some ⟨b, 0, none⟩) 9 9) ∧ Blk w' b (textsA faultsB) ∧ w.heap.size ≤ b ∧ Below w.heap.size w w' := by
  go_enter Tryz.func151, Tryz.ntmps151
  go_wp2
  go_ret
  exact ⟨w.heap.size, rfl, Blk.eq (Blk.new rfl) rfl, Nat.le_refl _, allocB (Below.refl _ _)⟩

theorem torn_at : ∀ j : Fin 9, (faultsB[j.val]? = some tornB) ↔ j.val = 3 := by decide

set_option maxRecDepth 100000 in
set_option maxHeartbeats 8000000 in
theorem refFault_any (s : ByteArray) (a : Nat) (ha : a < s.size) (hs : s.size ≤ 1000) (w : World) : Calls Tryz.prog 97 #[.string s, .int .i64 (a : Int)] w (RPiece a (faultPD (s.data.toList.drop a)) w) := by
  have cU := fun W => Upper_any s W (by omega)
  have hUs : (⟨(s.data.toList.map upB).toArray⟩ : ByteArray).size = s.size := by show (s.data.toList.map upB).toArray.size = _; simp
  have cA := fun (t : ByteArray) (ht : t.size ≤ 1000) W => refAt_any ⟨(s.data.toList.map upB).toArray⟩ a (by omega) (by omega) t ht W
  rw [show (⟨(s.data.toList.map upB).toArray⟩ : ByteArray).data.toList = s.data.toList.map upB from rfl] at cA
  have hdm : (s.data.toList.map upB).drop a = (s.data.toList.drop a).map upB := List.map_drop.symm
  rw [hdm] at cA
  have hall : ∀ x ∈ faultsB, x.length ≤ 10 ∧ x.length ≠ 0 ∧ ∀ b ∈ x, b.toNat < 128 := by decide
  have hup : ∀ x ∈ faultsB, Lib.hasPrefix ((s.data.toList.drop a).map upB) x = Lib.hasPrefix (upperD (s.data.toList.drop a)) x := fun x hx => (up_bytes x _ (hall x hx).2.2).symm
  unfold faultPD
  generalize s.data.toList.map upB = U at *
  clear hdm hUs
  generalize (s.data.toList.drop a).map upB = l at *
  generalize upperD (s.data.toList.drop a) = l2 at *
  obtain ⟨O, hO⟩ : ∃ O, faultsB.find? (fun x => Lib.hasPrefix l2 x) = O := ⟨_, rfl⟩
  rw [hO]
  have hn : faultsB.length = 9 := rfl
  have HO : Hid ((faultsB.drop 0).find? (fun x => Lib.hasPrefix l2 x) = O) := Lib.hid hO
  have HA := Lib.hid hall
  have HN := Lib.hid hn
  have HU := Lib.hid hup
  clear hO hall hn hup
  go_enter Tryz.func97, Tryz.ntmps97
  go_upto_region 1 with fail
  refine wp_abs2 (fun W => Keep w [(w.heap.size, zeroTok)] W) (Keep.add (by apply Blk.eq; (repeat' (first | with_reducible assumption | with_reducible apply Blk.set | with_reducible apply Blk.other | (with_reducible refine Blk.new ?_; simp; done) | with_reducible apply Blk.alloc | omega)); rfl) (Keep.nil (by repeat' (first | with_reducible assumption | with_reducible exact Below.refl _ _ | with_reducible refine allocB ?_ | with_reducible refine setB ?_ ?_ | with_reducible refine drewB ?_ | with_reducible refine after ?_ (by assumption) | (simp; omega) | omega)))) ?_
  rintro W K
  go_wp2_with fail
  refine (refFaults_any W).mono ?_; rintro e w1 ⟨bf, rfl, hbf, hlf, hb⟩
  have zk := K.hd.facts.2.2
  replace K := Keep.add hbf (K.below hb)
  have hne : bf ≠ w.heap.size := by omega
  clear hb hbf hlf zk
  go_wp2_with fail
  go_loopw [7] (fun i w' => ∃ j : Nat, i = .int .i64 (j : Int) ∧ j ≤ 9 ∧ (faultsB.drop j).find? (fun x => Lib.hasPrefix l2 x) = O ∧ Keep w [(bf, textsA faultsB), (w.heap.size, zeroTok)] w') (fun i _ => 9 - (intOf i).toNat)
  case atStart => exact ⟨0, rfl, by omega, HO.out, K⟩
  case round =>
    clear HO K
    obtain ⟨j, rfl, hj, hI, K⟩ := hrel
    have HI := Lib.hid hI
    clear hI
    obtain ⟨ft, gt, zt⟩ := K.hd.facts
    by_cases hlt : j < 9
    · have hjl : j < faultsB.length := by rw [HN.out]; exact hlt
      obtain ⟨x, hx⟩ : ∃ x, faultsB[j]? = some x := ⟨_, List.getElem?_eq_getElem hjl⟩
      have hxm := HA.out x (List.mem_of_getElem? hx)
      have hux := HU.out x (List.mem_of_getElem? hx)
      have kx : wr.cell? ⟨bf, j, none⟩ = some (.string ⟨x.toArray⟩) := (ft j).trans (textsA_at _ _ _ hx)
      have cA := fun W => cA ⟨x.toArray⟩ (by show x.toArray.size ≤ _; simp; omega) W
      rw [show (⟨x.toArray⟩ : ByteArray).data.toList = x from rfl] at cA
      have ew : IntKind.i64.wrap ((j : Int) + 1) = ((j + 1 : Nat) : Int) := by rw [IntWalk.i64_in _ (by omega)]; omega
      have hji : (j : Int) < 9 := by omega
      have htn := torn_at ⟨j, hlt⟩
      dsimp only at htn
      rw [hx] at htn
      have hI := HI.out
      rw [find_step _ _ _ _ hx] at hI
      clear HI ft
      have kc := gcell wr
      cases hp : Lib.hasPrefix l2 x
      · rw [hux, hp] at cA
        rw [hp, if_neg Bool.false_ne_true] at hI
        have HI := Lib.hid hI
        have HX := Lib.hid hx
        clear hI hp hux htn hx
        go_upto_region 5 with fail
        refine region_below (by kernel_rfl) (by kernel_rfl) ?_
        repeat (quiet_step (first | exact Ret.grown (fun W _ => cU W) | exact Ret.grown (fun W _ => (cA W).mono fun _ _ h => h.ret)))
        refine wpQuiet_nil ?_
        intro w2 hb2
        replace K := K.below hb2
        clear hb2 kc kx gt zt
        go_wp2
        go_roundw
        case rel => exact ⟨j + 1, rfl, hlt, HI.out, K⟩
        case measure => simp [intOf]; omega
      · rw [hux, hp] at cA
        rw [hp, if_pos rfl] at hI
        subst hI
        clear hp hux
        have hxl : (⟨x.toArray⟩ : ByteArray).size = x.length := by show x.toArray.size = _; simp
        have ewx : IntKind.i64.wrap ((a : Int) + (x.length : Int)) = ((a + x.length : Nat) : Int) := by rw [IntWalk.i64_in _ (by omega)]; omega
        have HX := Lib.hid hx
        have HT := Lib.hid htn
        clear hx htn
        go_upto_region 5 with fail
        refine region_below (by kernel_rfl) (by kernel_rfl) ?_
        repeat (quiet_step (first | exact Ret.grown (fun W _ => cU W) | exact Ret.grown (fun W _ => (cA W).mono fun _ _ h => h.ret)))
        refine wpQuiet_nil ?_
        intro w2 hb2
        replace K := K.below hb2
        clear hb2 kc kx gt zt cA cU
        obtain ⟨ft, gt, zt⟩ := K.hd.facts
        have kx : w2.cell? ⟨bf, j, none⟩ = some (.string ⟨x.toArray⟩) := (ft j).trans (textsA_at _ _ _ HX.out)
        have kc := gcell w2
        clear ft
        by_cases h3 : j = 3
        · have e4 : (((j + 1 : Nat) : Int) == 4) = true := by rw [beq_iff_eq]; omega
          have e4b : ((j : Int) + 1 == 4) = true := by rw [beq_iff_eq]; omega
          have hxt : x = tornB := by have := HT.out.2 h3; injection this
          have hv : faultOf (some x) = some (5, x, x.length) := by
            show (if x = tornB then mkD 5 x x.length else mkD 4 x x.length) = _
            rw [if_pos hxt]; unfold mkD; rw [if_neg hxm.2.1]
          have HV := Lib.hid hv
          clear h3 hxt hv
          clear kc
          obtain ⟨-, -, -, -, dr0, dr1, dr2, dg, dz⟩ := cell3_give K.tl.hd K.bel (.int .i64 0) (.string ⟨#[]⟩) (.int .i64 0)
          obtain ⟨q0, q1, q2, hb9, -, -, -, -, -⟩ := cell3_give (K.below (drewB (Below.refl _ _))).tl.hd (drewB K.bel) (.int .i64 5) (.string ⟨x.toArray⟩) (.int .i64 (a : Int))
          have HB9 := Lib.hid hb9
          clear hb9 K
          go_upto_region 7 with fail
          go_region
          all_goals (
            go_wp2
            exact bodyPost_ret (v := .tuple #[.agg #[.int .i64 5, .string ⟨x.toArray⟩, .int .i64 (a : Int)], .int .i64 ((a + x.length : Nat) : Int)]) (by simp [results, Tryz.results97, go_sem, *]) rfl ⟨by rw [HV.out], HB9.out⟩)
        · have e4 : (((j + 1 : Nat) : Int) == 4) = false := by rw [beq_eq_false_iff_ne]; omega
          have e4b : ((j : Int) + 1 == 4) = false := by rw [beq_eq_false_iff_ne]; omega
          have hxt : x ≠ tornB := fun e => h3 (HT.out.1 (by rw [e]))
          have hv : faultOf (some x) = some (4, x, x.length) := by
            show (if x = tornB then mkD 5 x x.length else mkD 4 x x.length) = _
            rw [if_neg hxt]; unfold mkD; rw [if_neg hxm.2.1]
          have HV := Lib.hid hv
          clear h3 hxt hv
          clear kc
          obtain ⟨-, -, -, -, dr0, dr1, dr2, dg, dz⟩ := cell3_give K.tl.hd K.bel (.int .i64 0) (.string ⟨#[]⟩) (.int .i64 0)
          obtain ⟨q0, q1, q2, hb9, -, -, -, -, -⟩ := cell3_give (K.below (drewB (Below.refl _ _))).tl.hd (drewB K.bel) (.int .i64 4) (.string ⟨x.toArray⟩) (.int .i64 (a : Int))
          have HB9 := Lib.hid hb9
          clear hb9 K
          go_upto_region 8 with fail
          go_region
          all_goals (
            go_wp2
            exact bodyPost_ret (v := .tuple #[.agg #[.int .i64 4, .string ⟨x.toArray⟩, .int .i64 (a : Int)], .int .i64 ((a + x.length : Nat) : Int)]) (by simp [results, Tryz.results97, go_sem, *]) rfl ⟨by rw [HV.out], HB9.out⟩)
    · have hj9 : j = 9 := by omega
      have hI := HI.out
      rw [hj9, ← HN.out, List.drop_length] at hI
      have hO : O = none := hI.symm
      subst hO
      clear hI HI ft gt zt
      obtain ⟨q0, q1, q2, hb9, cr0, cr1, cr2, gr, zr⟩ := cell3_give K.tl.hd K.bel (.int .i64 0) (.string ⟨#[]⟩) (.int .i64 0)
      have HB9 := Lib.hid hb9
      clear hb9 K
      go_wp2
      exact bodyPost_ret (v := .tuple #[.agg #[.int .i64 0, .string ⟨#[]⟩, .int .i64 0], .int .i64 0]) (by simp [results, Tryz.results97, go_sem, *]) rfl ⟨rfl, HB9.out⟩
end Go.Proofs.YtgnejohiagagmaaGreatDoor

namespace Go.Proofs.YtgnejohiagagmaaGreatDoor
open Go.RowKit Tab

set_option maxRecDepth 100000 in
set_option maxHeartbeats 16000000 in
theorem refPiece_any (s : ByteArray) (a : Nat) (ha : a < s.size) (hs : s.size ≤ 1000) (w : World) : Calls Tryz.prog 59 #[.string s, .int .i64 (a : Int)] w (RPiece a (nextPD decED (s.data.toList.drop a)) w) := by
  have h0 : (s.data.toList.drop a).getD 0 0 = s[a] := by rw [drop_at s a ha]; rfl
  have hq := (quoted_range (s.data.toList.drop a)).1
  have hll : (s.data.toList.drop a).length = s.size - a := by rw [List.length_drop, ba_size]
  have p1 := fun h W => refNumber_any s a ha hs h W
  have p2 := fun W => refText_any s a ha hs W
  have p3 := fun W => refFault_any s a ha hs W
  have cQ := fun W => refQuoted_any s a ha (by omega) W
  have p4 := fun W => refFar_any s a ha hs (quotedD (s.data.toList.drop a)).2 (by omega) W
  have p5 := fun h W => refWord_any s a ha hs h W
  have p6 := fun W => refSign_any s a ha hs W
  have cD := fun W => rDigit_any s[a].toNat W
  have cW := fun W => rWordy_any s[a].toNat W
  unfold nextPD
  rw [h0]
  unfold sheetPD
  generalize numberPD decED (s.data.toList.drop a) = o1 at *
  generalize textPD (s.data.toList.drop a) = o2 at *
  generalize faultPD (s.data.toList.drop a) = o3 at *
  generalize wordPD (s.data.toList.drop a) = o5 at *
  generalize signPD (s.data.toList.drop a) = o6 at *
  generalize farD (s.data.toList.drop a) (quotedD (s.data.toList.drop a)).2 = o4 at *
  generalize quotedD (s.data.toList.drop a) = Q at *
  obtain ⟨V, n⟩ := Q
  dsimp only at cQ p4
  generalize endQ a n = T at *
  unfold strV at cQ
  have e34 : ((s[a].toNat : Int) == 34) = decide (s[a].toNat = 34) := by rw [Bool.eq_iff_iff, beq_iff_eq, decide_eq_true_eq]; omega
  have e35 : ((s[a].toNat : Int) == 35) = decide (s[a].toNat = 35) := by rw [Bool.eq_iff_iff, beq_iff_eq, decide_eq_true_eq]; omega
  have e39 : ((s[a].toNat : Int) == 39) = decide (s[a].toNat = 39) := by rw [Bool.eq_iff_iff, beq_iff_eq, decide_eq_true_eq]; omega
  have e46 : ((s[a].toNat : Int) != 46) = decide (s[a].toNat ≠ 46) := by rw [Bool.eq_iff_iff, bne_iff_ne, decide_eq_true_eq]; omega
  clear h0 hq hll
  cases hd : digR s[a].toNat
  rotate_left
  · rw [if_pos rfl]
    rw [hd] at cD
    replace p1 := p1 hd
    clear hd e34 e35 e39 e46 p2 p3 p4 p5 p6 cQ cW
    go_enter Tryz.func59, Tryz.ntmps59
    go_upto_region 1 with fail
    refine wp_abs2 (fun W => Blk W w.heap.size #[.int .i64 0, .string ⟨#[]⟩, .int .i64 0] ∧ Below w.heap.size w W) ⟨(by apply Blk.eq; (repeat' (first | with_reducible assumption | with_reducible apply Blk.set | with_reducible apply Blk.other | (with_reducible refine Blk.new ?_; simp; done) | with_reducible apply Blk.alloc | omega)); rfl), (by repeat' (first | with_reducible assumption | with_reducible exact Below.refl _ _ | with_reducible refine allocB ?_ | with_reducible refine setB ?_ ?_ | with_reducible refine drewB ?_ | with_reducible refine after ?_ (by assumption) | (simp; omega) | omega))⟩ ?_
    rintro W ⟨hK, hW⟩
    go_wp2_with fail
    refine (cD _).mono ?_; rintro e w1 ⟨rfl, rfl⟩
    go_wp2_with fail
    refine (p1 _).mono ?_
    cases o1 with
    | none =>
      rintro e w1 ⟨rfl, hb⟩
      replace hW := after hW hb
      replace hK := hK.below hb
      clear hb
      obtain ⟨q0, q1, q2, hb9, cr0, cr1, cr2, gr, zr⟩ := cell3_give hK hW (.int .i64 0) (.string ⟨#[]⟩) (.int .i64 0)
      have HB9 := Lib.hid hb9
      clear hb9 hK hW
      go_wp2
      exact bodyPost_ret (v := .tuple #[.agg #[.int .i64 0, .string ⟨#[]⟩, .int .i64 0], .int .i64 0]) (by simp [results, Tryz.results59, go_sem, *]) rfl ⟨rfl, HB9.out⟩
    | some x =>
      obtain ⟨k9, S9, n9⟩ := x
      rintro e w1 ⟨rfl, hb⟩
      replace hW := after hW hb
      replace hK := hK.below hb
      clear hb
      dsimp only
      obtain ⟨q0, q1, q2, hb9, cr0, cr1, cr2, gr, zr⟩ := cell3_give hK hW (.int .i64 k9) (.string ⟨S9.toArray⟩) (.int .i64 (a : Int))
      have HB9 := Lib.hid hb9
      clear hb9 hK hW
      go_wp2
      exact bodyPost_ret (v := .tuple #[.agg #[.int .i64 k9, .string ⟨S9.toArray⟩, .int .i64 (a : Int)], .int .i64 ((a + n9 : Nat) : Int)]) (by simp [results, Tryz.results59, go_sem, *]) rfl ⟨rfl, HB9.out⟩
  rw [if_neg Bool.false_ne_true]
  rw [hd] at cD
  clear hd p1
  by_cases h34 : s[a].toNat = 34
  · rw [if_pos h34]
    rw [decide_eq_true h34] at e34
    clear h34 e35 e39 e46 p3 p4 p5 p6 cQ cW
    go_enter Tryz.func59, Tryz.ntmps59
    go_upto_region 1 with fail
    refine wp_abs2 (fun W => Blk W w.heap.size #[.int .i64 0, .string ⟨#[]⟩, .int .i64 0] ∧ Below w.heap.size w W) ⟨(by apply Blk.eq; (repeat' (first | with_reducible assumption | with_reducible apply Blk.set | with_reducible apply Blk.other | (with_reducible refine Blk.new ?_; simp; done) | with_reducible apply Blk.alloc | omega)); rfl), (by repeat' (first | with_reducible assumption | with_reducible exact Below.refl _ _ | with_reducible refine allocB ?_ | with_reducible refine setB ?_ ?_ | with_reducible refine drewB ?_ | with_reducible refine after ?_ (by assumption) | (simp; omega) | omega))⟩ ?_
    rintro W ⟨hK, hW⟩
    go_wp2_with fail
    refine (cD _).mono ?_; rintro e w1 ⟨rfl, rfl⟩
    go_wp2_with fail
    refine (p2 _).mono ?_
    cases o2 with
    | none =>
      rintro e w1 ⟨rfl, hb⟩
      replace hW := after hW hb
      replace hK := hK.below hb
      clear hb
      obtain ⟨q0, q1, q2, hb9, cr0, cr1, cr2, gr, zr⟩ := cell3_give hK hW (.int .i64 0) (.string ⟨#[]⟩) (.int .i64 0)
      have HB9 := Lib.hid hb9
      clear hb9 hK hW
      go_wp2
      exact bodyPost_ret (v := .tuple #[.agg #[.int .i64 0, .string ⟨#[]⟩, .int .i64 0], .int .i64 0]) (by simp [results, Tryz.results59, go_sem, *]) rfl ⟨rfl, HB9.out⟩
    | some x =>
      obtain ⟨k9, S9, n9⟩ := x
      rintro e w1 ⟨rfl, hb⟩
      replace hW := after hW hb
      replace hK := hK.below hb
      clear hb
      dsimp only
      obtain ⟨q0, q1, q2, hb9, cr0, cr1, cr2, gr, zr⟩ := cell3_give hK hW (.int .i64 k9) (.string ⟨S9.toArray⟩) (.int .i64 (a : Int))
      have HB9 := Lib.hid hb9
      clear hb9 hK hW
      go_wp2
      exact bodyPost_ret (v := .tuple #[.agg #[.int .i64 k9, .string ⟨S9.toArray⟩, .int .i64 (a : Int)], .int .i64 ((a + n9 : Nat) : Int)]) (by simp [results, Tryz.results59, go_sem, *]) rfl ⟨rfl, HB9.out⟩
  rw [if_neg h34]
  rw [decide_eq_false h34] at e34
  clear h34 p2
  by_cases h35 : s[a].toNat = 35
  · rw [if_pos h35]
    rw [decide_eq_true h35] at e35
    clear h35 e39 e46 p4 p5 p6 cQ cW
    go_enter Tryz.func59, Tryz.ntmps59
    go_upto_region 1 with fail
    refine wp_abs2 (fun W => Blk W w.heap.size #[.int .i64 0, .string ⟨#[]⟩, .int .i64 0] ∧ Below w.heap.size w W) ⟨(by apply Blk.eq; (repeat' (first | with_reducible assumption | with_reducible apply Blk.set | with_reducible apply Blk.other | (with_reducible refine Blk.new ?_; simp; done) | with_reducible apply Blk.alloc | omega)); rfl), (by repeat' (first | with_reducible assumption | with_reducible exact Below.refl _ _ | with_reducible refine allocB ?_ | with_reducible refine setB ?_ ?_ | with_reducible refine drewB ?_ | with_reducible refine after ?_ (by assumption) | (simp; omega) | omega))⟩ ?_
    rintro W ⟨hK, hW⟩
    go_wp2_with fail
    refine (cD _).mono ?_; rintro e w1 ⟨rfl, rfl⟩
    go_wp2_with fail
    refine (p3 _).mono ?_
    cases o3 with
    | none =>
      rintro e w1 ⟨rfl, hb⟩
      replace hW := after hW hb
      replace hK := hK.below hb
      clear hb
      obtain ⟨q0, q1, q2, hb9, cr0, cr1, cr2, gr, zr⟩ := cell3_give hK hW (.int .i64 0) (.string ⟨#[]⟩) (.int .i64 0)
      have HB9 := Lib.hid hb9
      clear hb9 hK hW
      go_wp2
      exact bodyPost_ret (v := .tuple #[.agg #[.int .i64 0, .string ⟨#[]⟩, .int .i64 0], .int .i64 0]) (by simp [results, Tryz.results59, go_sem, *]) rfl ⟨rfl, HB9.out⟩
    | some x =>
      obtain ⟨k9, S9, n9⟩ := x
      rintro e w1 ⟨rfl, hb⟩
      replace hW := after hW hb
      replace hK := hK.below hb
      clear hb
      dsimp only
      obtain ⟨q0, q1, q2, hb9, cr0, cr1, cr2, gr, zr⟩ := cell3_give hK hW (.int .i64 k9) (.string ⟨S9.toArray⟩) (.int .i64 (a : Int))
      have HB9 := Lib.hid hb9
      clear hb9 hK hW
      go_wp2
      exact bodyPost_ret (v := .tuple #[.agg #[.int .i64 k9, .string ⟨S9.toArray⟩, .int .i64 (a : Int)], .int .i64 ((a + n9 : Nat) : Int)]) (by simp [results, Tryz.results59, go_sem, *]) rfl ⟨rfl, HB9.out⟩
  rw [if_neg h35]
  rw [decide_eq_false h35] at e35
  clear h35 p3
  by_cases h39 : s[a].toNat = 39
  · rw [if_pos h39]
    rw [decide_eq_true h39] at e39
    clear h39 e46 p5 p6 cW
    go_enter Tryz.func59, Tryz.ntmps59
    go_upto_region 1 with fail
    refine wp_abs2 (fun W => Blk W w.heap.size #[.int .i64 0, .string ⟨#[]⟩, .int .i64 0] ∧ Below w.heap.size w W) ⟨(by apply Blk.eq; (repeat' (first | with_reducible assumption | with_reducible apply Blk.set | with_reducible apply Blk.other | (with_reducible refine Blk.new ?_; simp; done) | with_reducible apply Blk.alloc | omega)); rfl), (by repeat' (first | with_reducible assumption | with_reducible exact Below.refl _ _ | with_reducible refine allocB ?_ | with_reducible refine setB ?_ ?_ | with_reducible refine drewB ?_ | with_reducible refine after ?_ (by assumption) | (simp; omega) | omega))⟩ ?_
    rintro W ⟨hK, hW⟩
    go_wp2_with fail
    refine (cD _).mono ?_; rintro e w1 ⟨rfl, rfl⟩
    go_wp2_with fail
    refine (cQ _).mono ?_; rintro e w1 ⟨rfl, hb⟩
    replace hW := after hW hb
    replace hK := hK.below hb
    clear hb
    go_wp2_with fail
    refine (p4 _).mono ?_
    cases o4 with
    | none =>
      rintro e w1 ⟨rfl, hb⟩
      replace hW := after hW hb
      replace hK := hK.below hb
      clear hb
      obtain ⟨q0, q1, q2, hb9, cr0, cr1, cr2, gr, zr⟩ := cell3_give hK hW (.int .i64 0) (.string ⟨#[]⟩) (.int .i64 0)
      have HB9 := Lib.hid hb9
      clear hb9 hK hW
      go_wp2
      exact bodyPost_ret (v := .tuple #[.agg #[.int .i64 0, .string ⟨#[]⟩, .int .i64 0], .int .i64 0]) (by simp [results, Tryz.results59, go_sem, *]) rfl ⟨rfl, HB9.out⟩
    | some x =>
      obtain ⟨k9, S9, n9⟩ := x
      rintro e w1 ⟨rfl, hb⟩
      replace hW := after hW hb
      replace hK := hK.below hb
      clear hb
      dsimp only
      obtain ⟨q0, q1, q2, hb9, cr0, cr1, cr2, gr, zr⟩ := cell3_give hK hW (.int .i64 k9) (.string ⟨S9.toArray⟩) (.int .i64 (a : Int))
      have HB9 := Lib.hid hb9
      clear hb9 hK hW
      go_wp2
      exact bodyPost_ret (v := .tuple #[.agg #[.int .i64 k9, .string ⟨S9.toArray⟩, .int .i64 (a : Int)], .int .i64 ((a + n9 : Nat) : Int)]) (by simp [results, Tryz.results59, go_sem, *]) rfl ⟨rfl, HB9.out⟩
  rw [if_neg h39]
  rw [decide_eq_false h39] at e39
  clear h39 p4 cQ
  cases hw : wordR s[a].toNat
  · rw [if_neg (fun h => Bool.false_ne_true h.1)]
    rw [hw] at cW
    clear hw p5 e46
    go_enter Tryz.func59, Tryz.ntmps59
    go_upto_region 1 with fail
    refine wp_abs2 (fun W => Blk W w.heap.size #[.int .i64 0, .string ⟨#[]⟩, .int .i64 0] ∧ Below w.heap.size w W) ⟨(by apply Blk.eq; (repeat' (first | with_reducible assumption | with_reducible apply Blk.set | with_reducible apply Blk.other | (with_reducible refine Blk.new ?_; simp; done) | with_reducible apply Blk.alloc | omega)); rfl), (by repeat' (first | with_reducible assumption | with_reducible exact Below.refl _ _ | with_reducible refine allocB ?_ | with_reducible refine setB ?_ ?_ | with_reducible refine drewB ?_ | with_reducible refine after ?_ (by assumption) | (simp; omega) | omega))⟩ ?_
    rintro W ⟨hK, hW⟩
    go_wp2_with fail
    refine (cD _).mono ?_; rintro e w1 ⟨rfl, rfl⟩
    go_wp2_with fail
    refine (cW _).mono ?_; rintro e w1 ⟨rfl, rfl⟩
    go_wp2_with fail
    refine (p6 _).mono ?_
    cases o6 with
    | none =>
      rintro e w1 ⟨rfl, hb⟩
      replace hW := after hW hb
      replace hK := hK.below hb
      clear hb
      obtain ⟨q0, q1, q2, hb9, cr0, cr1, cr2, gr, zr⟩ := cell3_give hK hW (.int .i64 0) (.string ⟨#[]⟩) (.int .i64 0)
      have HB9 := Lib.hid hb9
      clear hb9 hK hW
      go_wp2
      exact bodyPost_ret (v := .tuple #[.agg #[.int .i64 0, .string ⟨#[]⟩, .int .i64 0], .int .i64 0]) (by simp [results, Tryz.results59, go_sem, *]) rfl ⟨rfl, HB9.out⟩
    | some x =>
      obtain ⟨k9, S9, n9⟩ := x
      rintro e w1 ⟨rfl, hb⟩
      replace hW := after hW hb
      replace hK := hK.below hb
      clear hb
      dsimp only
      obtain ⟨q0, q1, q2, hb9, cr0, cr1, cr2, gr, zr⟩ := cell3_give hK hW (.int .i64 k9) (.string ⟨S9.toArray⟩) (.int .i64 (a : Int))
      have HB9 := Lib.hid hb9
      clear hb9 hK hW
      go_wp2
      exact bodyPost_ret (v := .tuple #[.agg #[.int .i64 k9, .string ⟨S9.toArray⟩, .int .i64 (a : Int)], .int .i64 ((a + n9 : Nat) : Int)]) (by simp [results, Tryz.results59, go_sem, *]) rfl ⟨rfl, HB9.out⟩
  rw [hw] at cW
  by_cases h46 : s[a].toNat ≠ 46
  · rw [if_pos ⟨rfl, h46⟩]
    rw [decide_eq_true h46] at e46
    replace p5 := p5 hw
    clear hw p6 h46
    go_enter Tryz.func59, Tryz.ntmps59
    go_upto_region 1 with fail
    refine wp_abs2 (fun W => Blk W w.heap.size #[.int .i64 0, .string ⟨#[]⟩, .int .i64 0] ∧ Below w.heap.size w W) ⟨(by apply Blk.eq; (repeat' (first | with_reducible assumption | with_reducible apply Blk.set | with_reducible apply Blk.other | (with_reducible refine Blk.new ?_; simp; done) | with_reducible apply Blk.alloc | omega)); rfl), (by repeat' (first | with_reducible assumption | with_reducible exact Below.refl _ _ | with_reducible refine allocB ?_ | with_reducible refine setB ?_ ?_ | with_reducible refine drewB ?_ | with_reducible refine after ?_ (by assumption) | (simp; omega) | omega))⟩ ?_
    rintro W ⟨hK, hW⟩
    go_wp2_with fail
    refine (cD _).mono ?_; rintro e w1 ⟨rfl, rfl⟩
    go_wp2_with fail
    refine (cW _).mono ?_; rintro e w1 ⟨rfl, rfl⟩
    go_wp2_with fail
    refine (p5 _).mono ?_
    cases o5 with
    | none =>
      rintro e w1 ⟨rfl, hb⟩
      replace hW := after hW hb
      replace hK := hK.below hb
      clear hb
      obtain ⟨q0, q1, q2, hb9, cr0, cr1, cr2, gr, zr⟩ := cell3_give hK hW (.int .i64 0) (.string ⟨#[]⟩) (.int .i64 0)
      have HB9 := Lib.hid hb9
      clear hb9 hK hW
      go_wp2
      exact bodyPost_ret (v := .tuple #[.agg #[.int .i64 0, .string ⟨#[]⟩, .int .i64 0], .int .i64 0]) (by simp [results, Tryz.results59, go_sem, *]) rfl ⟨rfl, HB9.out⟩
    | some x =>
      obtain ⟨k9, S9, n9⟩ := x
      rintro e w1 ⟨rfl, hb⟩
      replace hW := after hW hb
      replace hK := hK.below hb
      clear hb
      dsimp only
      obtain ⟨q0, q1, q2, hb9, cr0, cr1, cr2, gr, zr⟩ := cell3_give hK hW (.int .i64 k9) (.string ⟨S9.toArray⟩) (.int .i64 (a : Int))
      have HB9 := Lib.hid hb9
      clear hb9 hK hW
      go_wp2
      exact bodyPost_ret (v := .tuple #[.agg #[.int .i64 k9, .string ⟨S9.toArray⟩, .int .i64 (a : Int)], .int .i64 ((a + n9 : Nat) : Int)]) (by simp [results, Tryz.results59, go_sem, *]) rfl ⟨rfl, HB9.out⟩
  · rw [if_neg (fun h => h46 h.2)]
    rw [decide_eq_false h46] at e46
    clear hw p5 h46
    go_enter Tryz.func59, Tryz.ntmps59
    go_upto_region 1 with fail
    refine wp_abs2 (fun W => Blk W w.heap.size #[.int .i64 0, .string ⟨#[]⟩, .int .i64 0] ∧ Below w.heap.size w W) ⟨(by apply Blk.eq; (repeat' (first | with_reducible assumption | with_reducible apply Blk.set | with_reducible apply Blk.other | (with_reducible refine Blk.new ?_; simp; done) | with_reducible apply Blk.alloc | omega)); rfl), (by repeat' (first | with_reducible assumption | with_reducible exact Below.refl _ _ | with_reducible refine allocB ?_ | with_reducible refine setB ?_ ?_ | with_reducible refine drewB ?_ | with_reducible refine after ?_ (by assumption) | (simp; omega) | omega))⟩ ?_
    rintro W ⟨hK, hW⟩
    go_wp2_with fail
    refine (cD _).mono ?_; rintro e w1 ⟨rfl, rfl⟩
    go_wp2_with fail
    refine (cW _).mono ?_; rintro e w1 ⟨rfl, rfl⟩
    go_wp2_with fail
    refine (p6 _).mono ?_
    cases o6 with
    | none =>
      rintro e w1 ⟨rfl, hb⟩
      replace hW := after hW hb
      replace hK := hK.below hb
      clear hb
      obtain ⟨q0, q1, q2, hb9, cr0, cr1, cr2, gr, zr⟩ := cell3_give hK hW (.int .i64 0) (.string ⟨#[]⟩) (.int .i64 0)
      have HB9 := Lib.hid hb9
      clear hb9 hK hW
      go_wp2
      exact bodyPost_ret (v := .tuple #[.agg #[.int .i64 0, .string ⟨#[]⟩, .int .i64 0], .int .i64 0]) (by simp [results, Tryz.results59, go_sem, *]) rfl ⟨rfl, HB9.out⟩
    | some x =>
      obtain ⟨k9, S9, n9⟩ := x
      rintro e w1 ⟨rfl, hb⟩
      replace hW := after hW hb
      replace hK := hK.below hb
      clear hb
      dsimp only
      obtain ⟨q0, q1, q2, hb9, cr0, cr1, cr2, gr, zr⟩ := cell3_give hK hW (.int .i64 k9) (.string ⟨S9.toArray⟩) (.int .i64 (a : Int))
      have HB9 := Lib.hid hb9
      clear hb9 hK hW
      go_wp2
      exact bodyPost_ret (v := .tuple #[.agg #[.int .i64 k9, .string ⟨S9.toArray⟩, .int .i64 (a : Int)], .int .i64 ((a + n9 : Nat) : Int)]) (by simp [results, Tryz.results59, go_sem, *]) rfl ⟨rfl, HB9.out⟩

set_option maxRecDepth 100000 in
set_option maxHeartbeats 8000000 in
theorem refTokens_any (s : ByteArray) (w : World) (hs : s.size ≤ 4611686018427387904) : Calls Tryz.prog 33 #[.string s] w (Toks (tokensD decED s.data.toList) w) := by
  obtain ⟨R, hR⟩ : ∃ R, tokensD decED s.data.toList = R := ⟨_, rfl⟩
  rw [hR]
  unfold tokensD at hR
  rw [ba_size] at hR
  by_cases h2 : 200 < s.size
  · rw [if_pos h2] at hR
    subst hR
    have e2 : decide (200 < (s.size : Int)) = true := decide_eq_true (by omega)
    go_enter Tryz.func33, Tryz.ntmps33
    go_wp2
    go_ret3
    exact ⟨rfl, Below.refl _ _⟩
  · rw [if_neg h2] at hR
    have e2 : decide (200 < (s.size : Int)) = false := decide_eq_false (by omega)
    have HR := Lib.hid hR
    clear hR
    go_enter Tryz.func33, Tryz.ntmps33
    go_wp2_with fail
    go_loopw [5, 6] (fun o i w' => ∃ (a f : Nat) (acc : List TokT), i = .int .i64 (a : Int) ∧ a ≤ s.size ∧ s.size ≤ a + f ∧ acc.length ≤ a ∧ w'.ownsRow w.heap.size 25 3 o acc.length (toksV acc) ∧ toksF decED s.data.toList f a acc = R ∧ Below w.heap.size w w') (fun _ i _ => s.size - (intOf i).toNat)
    case atStart => exact ⟨0, s.size, [], rfl, by omega, by omega, by simp, ⟨rfl, .inl ⟨rfl, rfl⟩⟩, HR.out, Below.refl _ _⟩
    case round =>
      clear HR
      obtain ⟨a, f, acc, rfl, ha, hf, hal, hown, hI, hB⟩ := hrel
      have HI := Lib.hid hI
      clear hI
      by_cases hlt : a < s.size
      · obtain ⟨f, rfl⟩ : ∃ f', f = f' + 1 := ⟨f - 1, by omega⟩
        have hci : decide ((a : Int) < (s.size : Int)) = true := decide_eq_true (by omega)
        have ew : IntKind.i64.wrap ((a : Int) + 1) = ((a + 1 : Nat) : Int) := by rw [IntWalk.i64_in _ (by omega)]; omega
        have hget : s.data.toList.getD a 0 = s[a] := by rw [List.getD_eq_getElem?_getD, List.getElem?_eq_getElem (by rw [ba_size]; exact hlt)]; rfl
        by_cases h32 : s[a] = 32
        · have e32 : ((s[a].toNat : Int) == 32) = true := by rw [h32]; rfl
          have hI := HI.out
          rw [toks_blank _ _ _ _ _ (by rw [ba_size]; exact hlt) (by rw [hget]; exact h32)] at hI
          have HI := Lib.hid hI
          clear hI h32 hget
          go_wp2
          go_roundw
          case rel => exact ⟨a + 1, f, acc, rfl, by omega, by omega, by omega, hown, HI.out, hB⟩
          case measure => simp [intOf]; omega
        · have e32 : ((s[a].toNat : Int) == 32) = false := by
            have h := byte_beq s[a] 32
            rw [beq_eq_false_iff_ne.2 h32] at h
            exact h
          have hgn : s.data.toList.getD a 0 ≠ 32 := by rw [hget]; exact h32
          have cN := fun W => refPiece_any s a hlt (by omega) W
          have hr := fun x hx => next_range decED (s.data.toList.drop a) x hx
          have hls : (s.data.toList.drop a).length = s.size - a := by rw [List.length_drop, ba_size]
          cases hp : nextPD decED (s.data.toList.drop a) with
          | none =>
            have hI := HI.out
            rw [toks_none _ _ _ _ _ (by rw [ba_size]; exact hlt) hgn hp] at hI
            subst hI
            rw [hp] at cN
            clear HI hp hr hgn hget h32
            go_wp2_with fail
            refine (cN _).mono ?_; rintro e w9 ⟨rfl, hb9⟩
            have hB9 := after hB hb9
            go_wp2
            go_ret3
            exact ⟨rfl, (by repeat' (first | with_reducible assumption | with_reducible exact Below.refl _ _ | with_reducible refine allocB ?_ | with_reducible refine setB ?_ ?_ | with_reducible refine drewB ?_ | with_reducible refine after ?_ (by assumption) | (simp; omega) | omega))⟩
          | some x =>
            obtain ⟨k9, S9, n9⟩ := x
            have hI := HI.out
            rw [toks_some _ _ _ _ _ (by rw [ba_size]; exact hlt) hgn k9 S9 n9 hp] at hI
            have hr9 := hr _ hp
            dsimp only at hr9
            rw [hls] at hr9
            rw [hp] at cN
            have HI := Lib.hid hI
            have eT : (((a + n9 : Nat) : Int) == 0) = false := by rw [beq_eq_false_iff_ne]; omega
            clear hI hp hr hgn hget h32 hls
            go_wp2_with fail
            refine (cN _).mono ?_; rintro e w9 ⟨rfl, hb9⟩
            dsimp only
            have hown9 := own_below hown hb9
            have hB9 := after hB hb9
            have hz9 := hB9.size
            clear hb9 cN
            have hrow : TokRow ((w9.alloc (.cells #[.int .i64 k9, .string ⟨S9.toArray⟩, .int .i64 (a : Int)] 25)).alloc (.cells #[.int .i64 k9, .string ⟨S9.toArray⟩, .int .i64 (a : Int)] 25)) (.slice (some ⟨w9.heap.size + 1, 0, none⟩) 1 1) [(k9, S9, a)] := by
              have h := tokRow_new (w9.alloc (.cells #[.int .i64 k9, .string ⟨S9.toArray⟩, .int .i64 (a : Int)] 25)) 25 [(k9, S9, a)] _ rfl
              have e : (w9.alloc (.cells #[.int .i64 k9, .string ⟨S9.toArray⟩, .int .i64 (a : Int)] 25)).heap.size = w9.heap.size + 1 := by simp
              rw [e] at h
              exact h
            go_wp2_with (at_builtin; refine held ?_)
            unfold Held
            refine wpList_want (by rfl) ?_
            intro KK hKK
            refine tok_append _ _ rfl w.heap.size _ _ acc [(k9, S9, a)] rfl rfl ((hown9.alloc _).alloc _) hrow (by simp; omega) (by simp; omega) ?_
            intro v5 w5 own5 hg5
            have hB5 : Below w.heap.size w w5 := (allocB (allocB hB9)).grown hg5 (by simp; omega) (own_row hown9)
            refine hKK _ _ ?_
            clear hKK hg5
            go_wp2
            go_roundw
            case rel => exact ⟨a + n9, f, acc ++ [(k9, S9, a)], rfl, by omega, by omega, by rw [List.length_append]; simp only [List.length_cons, List.length_nil]; omega, own5, HI.out, hB5⟩
            case measure => simp [intOf]; omega
      · have hci : decide ((a : Int) < (s.size : Int)) = false := decide_eq_false (by omega)
        have hI := HI.out
        rw [toks_end _ _ _ _ _ (by rw [ba_size]; exact hlt)] at hI
        subst hI
        clear HI
        go_wp2
        go_ret3
        exact ⟨_, rfl, hown, hB⟩
end Go.Proofs.YtgnejohiagagmaaGreatDoor
