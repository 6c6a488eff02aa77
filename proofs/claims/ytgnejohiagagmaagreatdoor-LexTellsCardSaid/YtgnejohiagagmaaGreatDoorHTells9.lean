/- The walk of the reference's unquoted. -/
import Derived.Test.YtgnejohiagagmaaGreatDoorHTells1
import Derived.Test.YtgnejohiagagmaaGreatDoorHBytes
namespace Tab
def shiftP (x : Bs) (k : Nat) (p : Bs × Nat) : Bs × Nat := (x ++ p.1, p.2 + k)
/-- what stands behind an apostrophe, up to the next one that is not doubled, and how many bytes that is. -/
def unqF : Bs → Option (Bs × Nat)
  | [] => none
  | [a] => if a = 39 then some ([], 1) else none
  | a :: b :: l => if a = 39 then (if b = 39 then (unqF l).map (shiftP [39] 2) else some ([], 1)) else (unqF (b :: l)).map (shiftP [a] 1)
def unqD (l : Bs) : Bs × Int := match l with
  | [] => ([], -1)
  | a :: r => if a = 39 then (match unqF r with
    | none => ([], -1)
    | some p => (p.1, (p.2 : Int) + 1)) else ([], -1)
theorem unq_other (a : UInt8) (r : Bs) (h : a ≠ 39) : unqF (a :: r) = (unqF r).map (shiftP [a] 1) := by
  cases r with
  | nil => unfold unqF; rw [if_neg h]; rfl
  | cons b l => rw [unqF, if_neg h]
theorem unq_two (l : Bs) : unqF (39 :: 39 :: l) = (unqF l).map (shiftP [39] 2) := by rw [unqF, if_pos rfl, if_pos rfl]
theorem unq_end (r : Bs) (h : ∀ b l, r = b :: l → b ≠ 39) : unqF (39 :: r) = some ([], 1) := by
  cases r with
  | nil => rfl
  | cons b l => rw [unqF, if_pos rfl, if_neg (h b l rfl)]
theorem shift_shift (x y : Bs) (j k : Nat) (o : Option (Bs × Nat)) : (o.map (shiftP y k)).map (shiftP x j) = o.map (shiftP (x ++ y) (j + k)) := by
  cases o with
  | none => rfl
  | some p => simp [shiftP, List.append_assoc]; omega
end Tab
namespace Go.Proofs.YtgnejohiagagmaaGreatDoor
open Go.RowKit Tab

set_option maxRecDepth 100000 in
set_option maxHeartbeats 4000000 in
theorem Unq_any (s : ByteArray) (w : World) (hm : s.size ≤ 1000000) : Calls Tryz.prog 153 #[.string s] w (Still (.tuple #[strV (unqD s.data.toList).1, .int .i64 (unqD s.data.toList).2]) w) := by
  obtain ⟨V, e, hV⟩ : ∃ V e, unqD s.data.toList = (V, e) := ⟨_, _, rfl⟩
  rw [hV]
  by_cases h0 : s.size = 0
  · have hn : s.data.toList = [] := List.length_eq_zero_iff.1 h0
    rw [hn] at hV
    simp only [unqD, Prod.mk.injEq] at hV
    obtain ⟨rfl, rfl⟩ := hV
    clear hn
    go_enter Tryz.func153, Tryz.ntmps153
    go_wp2
    go_ret2
    exact ⟨rfl, rfl⟩
  have hd := drop_at s 0 (by omega)
  rw [List.drop_zero] at hd
  have h0s : 0 < s.size := by omega
  have e0 : ((s.size : Int) == 0) = false := by rw [beq_eq_false_iff_ne]; omega
  by_cases hf : s[0] = 39
  · have hf' : (s[0].toNat : Int) = 39 := by rw [hf]; rfl
    have hf2 : ((s[0].toNat : Int) != 39) = false := by rw [hf']; rfl
    have hV' : unqD s.data.toList = (match unqF (s.data.toList.drop 1) with
        | none => ([], -1)
        | some p => (p.1, (p.2 : Int) + 1)) := by
      conv => lhs; rw [hd]
      show (if s[0] = 39 then _ else _) = _
      rw [if_pos hf]
    rw [hV'] at hV
    have HV := Lib.hid hV
    clear hV hV' hd hf hf'
    go_enter Tryz.func153, Tryz.ntmps153
    go_wp2
    go_loop [4, 5] (fun o i => ∃ (k : Nat) (A : Bs), 1 ≤ k ∧ k ≤ s.size ∧ A.length ≤ k ∧ i = .int .i64 k ∧ o = strV A ∧ unqF (s.data.toList.drop 1) = (unqF (s.data.toList.drop k)).map (shiftP A (k - 1))) (fun _ i => s.size - (intOf i).toNat)
    case atStart => exact ⟨1, [], by omega, by omega, by simp, rfl, rfl, by cases unqF (s.data.toList.drop 1) <;> simp [shiftP]⟩
    case round =>
      obtain ⟨k, A, hk1, hk, hA, rfl, rfl, hI⟩ := hrel
      unfold strV
      by_cases hlt : k < s.size
      · have hd := drop_at s k hlt
        rw [hd] at hI
        have a1 : ¬ 9223372036854775807 < A.length + 1 := by omega
        by_cases hb : s[k] = 39
        · have hb' : ((s[k].toNat : Int) != 39) = false := by rw [hb]; rfl
          by_cases hl2 : k + 1 < s.size
          · have hd2 := drop_at s (k + 1) hl2
            by_cases hc : s[k + 1] = 39
            · have hc' : ((s[k + 1].toNat : Int) == 39) = true := by rw [hc]; rfl
              rw [hd2, hb, hc, unq_two, shift_shift] at hI
              have HI := Lib.hid hI
              clear hI hd hd2 hb hc
              go_wp2
              go_round
              case rel => exact ⟨k + 2, A ++ [39], by omega, by omega, by rw [List.length_append]; simp only [List.length_cons, List.length_nil]; omega, by go_num, (strV_eq (by rw [ba_append])), by rw [HI.out, show k - 1 + 2 = k + 2 - 1 by omega]⟩
              case measure => simp [intOf]; omega
            · have hc' : ((s[k + 1].toNat : Int) == 39) = false := by
                rw [beq_eq_false_iff_ne]; intro e; exact hc (UInt8.toNat_inj.1 (by have h : s[k + 1].toNat = 39 := by omega
                                                                                   rw [h]; rfl))
              rw [hd2, hb, unq_end _ (fun b l h => by injection h with h1 _; rw [← h1]; exact hc)] at hI
              have HI := Lib.hid hI
              clear hI hd hd2 hb hc
              go_wp2
              go_ret2
              have hv := HV.out
              rw [HI.out] at hv
              simp only [Option.map_some, shiftP, List.append_nil, Prod.mk.injEq] at hv
              obtain ⟨rfl, rfl⟩ := hv
              exact ⟨by rw [show ((1 + (k - 1) : Nat) : Int) + 1 = (k : Int) + 1 by omega]; rfl, rfl⟩
          · rw [hb, unq_end _ (fun b l h => by rw [List.drop_eq_nil_of_le (by rw [ba_size]; omega)] at h; cases h)] at hI
            have HI := Lib.hid hI
            clear hI hd hb
            have hl2' : ¬ (k : Int) + 1 < s.size := by omega
            go_wp2
            go_ret2
            have hv := HV.out
            rw [HI.out] at hv
            simp only [Option.map_some, shiftP, List.append_nil, Prod.mk.injEq] at hv
            obtain ⟨rfl, rfl⟩ := hv
            exact ⟨by rw [show ((1 + (k - 1) : Nat) : Int) + 1 = (k : Int) + 1 by omega]; rfl, rfl⟩
        · have hb' : ((s[k].toNat : Int) != 39) = true := by
            rw [bne_iff_ne]; intro e; exact hb (UInt8.toNat_inj.1 (by have h : s[k].toNat = 39 := by omega
                                                                      rw [h]; rfl))
          rw [unq_other _ _ hb, shift_shift] at hI
          have HI := Lib.hid hI
          clear hI hd hb
          go_wp2
          go_round
          case rel => exact ⟨k + 1, A ++ [s[k]], by omega, by omega, by rw [List.length_append]; simp only [List.length_cons, List.length_nil]; omega, by go_num, (strV_eq (by rw [ba_append, ba_extract, one_ext s k hlt])), by rw [HI.out, show k - 1 + 1 = k + 1 - 1 by omega]⟩
          case measure => simp [intOf]; omega
      · rw [show s.data.toList.drop k = [] from List.drop_eq_nil_of_le (by rw [ba_size]; omega)] at hI
        rw [show unqF [] = none from rfl, Option.map_none] at hI
        have HI := Lib.hid hI
        clear hI
        go_wp2
        go_ret2
        have hv := HV.out
        rw [HI.out] at hv
        simp only [Prod.mk.injEq] at hv
        obtain ⟨rfl, rfl⟩ := hv
        exact ⟨rfl, rfl⟩
  · have hf2 : ((s[0].toNat : Int) != 39) = true := by
      rw [bne_iff_ne]; intro e; exact hf (UInt8.toNat_inj.1 (by have h : s[0].toNat = 39 := by omega
                                                                rw [h]; rfl))
    have hV' : unqD s.data.toList = ([], -1) := by
      conv => lhs; rw [hd]
      show (if s[0] = 39 then _ else _) = _
      rw [if_neg hf]
    rw [hV'] at hV
    simp only [Prod.mk.injEq] at hV
    obtain ⟨rfl, rfl⟩ := hV
    clear hV' hd hf
    go_enter Tryz.func153, Tryz.ntmps153
    go_wp2
    go_ret2
    exact ⟨rfl, rfl⟩
end Go.Proofs.YtgnejohiagagmaaGreatDoor
namespace Tab
def finD (l n : Bs) (q : Nat) : Bs × Int := if nameB n = true ∧ l[q]? = some 33 then (n, (q : Int) + 1) else ([], -1)
def tsheetD (l : Bs) : Bs × Int :=
  if (unqD l).2 < 0 then
    (if (l.takeWhile (· != 33)).length = l.length then ([], 0)
    else if plainB (l.takeWhile (· != 33)) then finD l (l.takeWhile (· != 33)) (l.takeWhile (· != 33)).length else ([], -1))
  else finD l (unqD l).1 (unqD l).2.toNat
theorem tw_below (l : Bs) (k : Nat) (h : k < (l.takeWhile (· != 33)).length) (hk : k < l.length) : l[k] ≠ 33 := by
  have h1 := List.getElem_mem h
  have h2 : (l.takeWhile (· != 33))[k] = l[k] := by
    have := List.takeWhile_prefix (p := (· != (33 : UInt8))) (l := l)
    exact this.getElem h
  rw [h2] at h1
  have := List.all_eq_true.1 (tw_all (· != 33) l) _ h1
  simpa using this
theorem tw_next (l : Bs) : ∀ (h : (l.takeWhile (· != 33)).length < l.length), l[(l.takeWhile (· != 33)).length] = 33 := by
  induction l with
  | nil => intro h; simp at h
  | cons b l ih =>
    intro h
    by_cases hb : b = 33
    · subst hb; rfl
    · have e : (b :: l).takeWhile (· != 33) = b :: l.takeWhile (· != 33) := by rw [List.takeWhile_cons, if_pos (by simpa using hb)]
      simp only [e, List.length_cons] at h ⊢
      rw [List.getElem_cons_succ]
      exact ih (by omega)
theorem tw_take (l : Bs) : l.take (l.takeWhile (· != 33)).length = l.takeWhile (· != 33) := (List.prefix_iff_eq_take.1 (List.takeWhile_prefix _)).symm
end Tab
namespace Go.Proofs.YtgnejohiagagmaaGreatDoor
open Go.RowKit Tab

set_option maxRecDepth 100000 in
set_option maxHeartbeats 4000000 in
theorem TSheet_any (s : ByteArray) (w : World) (hm : s.size ≤ 1000000) (hu : (unqD s.data.toList).1.length ≤ 1000000) (hu2 : (unqD s.data.toList).2 ≤ 2000000 ∧ -1 ≤ (unqD s.data.toList).2) : Calls Tryz.prog 107 #[.string s] w (Still (.tuple #[strV (tsheetD s.data.toList).1, .int .i64 (tsheetD s.data.toList).2]) w) := by
  obtain ⟨V, e, hV⟩ : ∃ V e, tsheetD s.data.toList = (V, e) := ⟨_, _, rfl⟩
  rw [hV]
  have cU := Unq_any s w hm
  unfold tsheetD at hV
  generalize unqD s.data.toList = p at *
  obtain ⟨n, q⟩ := p
  dsimp only at *
  -- the end, at a name and a place
  have fin : ∀ (m : Bs) (k : Nat), finD s.data.toList m k = (V, e) → (k < s.size → s[k]! = s[k]!) ∧ ((nameB m = true ∧ ∃ h : k < s.size, s[k] = 33) ∧ V = m ∧ e = (k : Int) + 1 ∨ (nameB m = false ∧ V = [] ∧ e = -1) ∨ (nameB m = true ∧ ¬ k < s.size ∧ V = [] ∧ e = -1) ∨ (nameB m = true ∧ (∃ h : k < s.size, s[k] ≠ 33) ∧ V = [] ∧ e = -1)) := by
    intro m k h
    refine ⟨fun _ => rfl, ?_⟩
    unfold finD at h
    by_cases hk : k < s.size
    · have ek : s.data.toList[k]? = some s[k] := by rw [List.getElem?_eq_getElem (by rw [ba_size]; exact hk)]; rfl
      rw [ek] at h
      cases hn : nameB m
      · rw [if_neg (by rw [hn]; simp)] at h
        injection h with h1 h2
        exact .inr (.inl ⟨rfl, h1.symm, h2.symm⟩)
      · by_cases h3 : s[k] = 33
        · rw [if_pos ⟨hn, by rw [h3]⟩] at h
          injection h with h1 h2
          exact .inl ⟨⟨rfl, hk, h3⟩, h1.symm, h2.symm⟩
        · rw [if_neg (fun hh => h3 (Option.some.inj hh.2))] at h
          injection h with h1 h2
          exact .inr (.inr (.inr ⟨rfl, ⟨hk, h3⟩, h1.symm, h2.symm⟩))
    · rw [if_neg (fun hh => by rw [List.getElem?_eq_none (by rw [ba_size]; omega)] at hh; cases hh.2)] at h
      injection h with h1 h2
      cases hn : nameB m
      · exact .inr (.inl ⟨rfl, h1.symm, h2.symm⟩)
      · exact .inr (.inr (.inl ⟨rfl, hk, h1.symm, h2.symm⟩))
  have byte33 : ∀ (k : Nat) (h : k < s.size), (s[k] = 33 → ((s[k].toNat : Int) != 33) = false) ∧ (s[k] ≠ 33 → ((s[k].toNat : Int) != 33) = true) := by
    intro k h
    refine ⟨fun e => by rw [e]; rfl, fun e => ?_⟩
    rw [bne_iff_ne]; intro e2
    have e3 : s[k].toNat = 33 := by omega
    exact e (UInt8.toNat_inj.1 (e3.trans rfl))
  replace fin : ∀ (m : Bs) (k : Nat), finD s.data.toList m k = (V, e) → ((nameB m = true ∧ ∃ h : k < s.size, s[k] = 33) ∧ V = m ∧ e = (k : Int) + 1 ∨ (nameB m = false ∧ V = [] ∧ e = -1) ∨ (nameB m = true ∧ ¬ k < s.size ∧ V = [] ∧ e = -1) ∨ (nameB m = true ∧ (∃ h : k < s.size, s[k] ≠ 33) ∧ V = [] ∧ e = -1)) := fun m k h => (fin m k h).2
  by_cases hq : q < 0
  · rw [if_pos hq] at hV
    have HV := Lib.hid hV
    have HF := Lib.hid fin
    have HB := Lib.hid byte33
    clear hV fin byte33
    obtain ⟨T, hT⟩ : ∃ T, (s.data.toList.takeWhile (· != 33)).length = T := ⟨_, rfl⟩
    have hTs : T ≤ s.size := by rw [← hT, ← ba_size]; exact tw_len _ _
    have below : ∀ k (h : k < s.size), k < T → s[k] ≠ 33 := fun k h hk => tw_below s.data.toList k (by rw [hT]; exact hk) (by rw [ba_size]; exact h)
    have next : ∀ h : T < s.size, s[T] = 33 := fun h => by
      have := tw_next s.data.toList (by rw [hT, ba_size]; exact h)
      simp only [hT] at this; exact this
    have tk : (s.extract 0 T).data.toList = s.data.toList.takeWhile (· != 33) := by rw [ba_extract, List.drop_zero, ← hT, tw_take]
    have HN := Lib.hid (And.intro below next)
    have HT := Lib.hid tk
    clear below next tk
    go_enter Tryz.func107, Tryz.ntmps107
    go_wp2_with (go_at_call 153; refine cU.mono ?_; rintro e w1 ⟨rfl, rfl⟩; unfold strV)
    go_loop [5] (fun i => ∃ k : Nat, k ≤ T ∧ i = .int .i64 k) (fun i => s.size - (intOf i).toNat)
    case atStart => exact ⟨0, by omega, rfl⟩
    case round =>
      obtain ⟨k, hk, rfl⟩ := hrel
      by_cases hlt : k < T
      · have h1 : k < s.size := by omega
        have hb := (HB.out k h1).2 (HN.out.1 k h1 hlt)
        go_wp2
        go_round
        case rel => exact ⟨k + 1, by omega, by go_num⟩
        case measure => simp [intOf]; omega
      · obtain rfl : k = T := by omega
        clear hlt hk
        by_cases hl : k < s.size
        · have hb := (HB.out k hl).1 (HN.out.2 hl)
          have hV := HV.out
          rw [hT, if_neg (by rw [ba_size]; omega), ← HT.out] at hV
          have hle : k ≤ s.size := by omega
          have hne : ¬ k = s.size := by omega
          obtain ⟨U, hU⟩ : ∃ U, s.extract 0 k = U := ⟨_, rfl⟩
          rw [hU] at hV
          have hUs : U.size ≤ 1000000 := by rw [← hU, ByteArray.size_extract]; omega
          have cP := fun W => Plain_any U W (by omega)
          have cN := IsSheet_any U w (by omega)
          have fin := HF.out
          have byte33 := HB.out
          clear HV HT HN HF HB
          cases hp : plainB U.data.toList
          · rw [hp, if_neg Bool.false_ne_true] at hV
            injection hV with h1 h2
            subst h1 h2
            rw [hp] at cP
            clear fin byte33 cN hp
            go_wp2_with (go_at_call 154; refine (cP _).mono ?_; rintro e w1 ⟨rfl, rfl⟩)
            go_ret2
            exact ⟨rfl, rfl⟩
          · rw [hp, if_pos rfl] at hV
            rw [hp] at cP
            clear hp
            rcases fin _ _ hV with ⟨⟨hn, hk, h3⟩, rfl, rfl⟩ | ⟨hn, rfl, rfl⟩ | ⟨hn, hk, rfl, rfl⟩ | ⟨hn, ⟨hk, h3⟩, rfl, rfl⟩
            · have hb33 := (byte33 _ hk).1 h3
              clear h3
              rw [hn] at cN
              clear fin byte33 hV
              go_wp2_with (first | (go_at_call 154; refine (cP _).mono ?_; rintro e w1 ⟨rfl, rfl⟩) | (go_at_call 155; refine cN.mono ?_; rintro e w1 ⟨rfl, rfl⟩))
              all_goals (go_ret2; exact ⟨rfl, rfl⟩)
            · skip
              rw [hn] at cN
              clear fin byte33 hV
              go_wp2_with (first | (go_at_call 154; refine (cP _).mono ?_; rintro e w1 ⟨rfl, rfl⟩) | (go_at_call 155; refine cN.mono ?_; rintro e w1 ⟨rfl, rfl⟩))
              all_goals (go_ret2; exact ⟨rfl, rfl⟩)
            · skip
              rw [hn] at cN
              clear fin byte33 hV
              go_wp2_with (first | (go_at_call 154; refine (cP _).mono ?_; rintro e w1 ⟨rfl, rfl⟩) | (go_at_call 155; refine cN.mono ?_; rintro e w1 ⟨rfl, rfl⟩))
              all_goals (go_ret2; exact ⟨rfl, rfl⟩)
            · have hb33 := (byte33 _ hk).2 h3
              clear h3
              rw [hn] at cN
              clear fin byte33 hV
              go_wp2_with (first | (go_at_call 154; refine (cP _).mono ?_; rintro e w1 ⟨rfl, rfl⟩) | (go_at_call 155; refine cN.mono ?_; rintro e w1 ⟨rfl, rfl⟩))
              all_goals (go_ret2; exact ⟨rfl, rfl⟩)
        · obtain rfl : k = s.size := by omega
          have hV := HV.out
          rw [hT, if_pos (by rw [ba_size])] at hV
          injection hV with h1 h2
          subst h1 h2
          clear HV HT HN HF HB
          go_wp2
          go_ret2
          exact ⟨rfl, rfl⟩
  · rw [if_neg hq] at hV
    obtain ⟨k, rfl⟩ : ∃ k : Nat, q = (k : Int) := ⟨q.toNat, by omega⟩
    rw [Int.toNat_natCast] at hV
    have cN := IsSheet_any ⟨n.toArray⟩ w (by show n.length ≤ _; omega)
    rw [mk_list] at cN
    unfold strV at cU
    rcases fin _ _ hV with ⟨⟨hn, hk, h3⟩, rfl, rfl⟩ | ⟨hn, rfl, rfl⟩ | ⟨hn, hk, rfl, rfl⟩ | ⟨hn, ⟨hk, h3⟩, rfl, rfl⟩
    · have hb33 := (byte33 _ hk).1 h3
      clear h3
      rw [hn] at cN
      clear fin byte33 hV
      go_enter Tryz.func107, Tryz.ntmps107
      go_wp2_with (first | (go_at_call 153; refine cU.mono ?_; rintro e w1 ⟨rfl, rfl⟩) | (go_at_call 155; refine cN.mono ?_; rintro e w1 ⟨rfl, rfl⟩))
      go_ret2
      exact ⟨rfl, rfl⟩
    · skip
      rw [hn] at cN
      clear fin byte33 hV
      go_enter Tryz.func107, Tryz.ntmps107
      go_wp2_with (first | (go_at_call 153; refine cU.mono ?_; rintro e w1 ⟨rfl, rfl⟩) | (go_at_call 155; refine cN.mono ?_; rintro e w1 ⟨rfl, rfl⟩))
      go_ret2
      exact ⟨rfl, rfl⟩
    · skip
      rw [hn] at cN
      clear fin byte33 hV
      go_enter Tryz.func107, Tryz.ntmps107
      go_wp2_with (first | (go_at_call 153; refine cU.mono ?_; rintro e w1 ⟨rfl, rfl⟩) | (go_at_call 155; refine cN.mono ?_; rintro e w1 ⟨rfl, rfl⟩))
      go_ret2
      exact ⟨rfl, rfl⟩
    · have hb33 := (byte33 _ hk).2 h3
      clear h3
      rw [hn] at cN
      clear fin byte33 hV
      go_enter Tryz.func107, Tryz.ntmps107
      go_wp2_with (first | (go_at_call 153; refine cU.mono ?_; rintro e w1 ⟨rfl, rfl⟩) | (go_at_call 155; refine cN.mono ?_; rintro e w1 ⟨rfl, rfl⟩))
      go_ret2
      exact ⟨rfl, rfl⟩
end Go.Proofs.YtgnejohiagagmaaGreatDoor
