/- Walks of the reference's Has, Upper, ReadColumn, Digits. -/
import Derived.Test.YtgnejohiagagmaaGreatDoorHTells1
import Derived.Test.YtgnejohiagagmaaGreatDoorG9
import Derived.Test.YtgnejohiagagmaaGreatDoorHBytes
import Derived.Test.YtgnejohiagagmaaGreatDoorG4
import Derived.Lib.ItoaLen
namespace Go.Proofs.YtgnejohiagagmaaGreatDoor
open Go.RowKit Tab

theorem has_dec (s1 r1 c1 n1 m1 s r c : Int) (hok : areaOk s1 r1 c1 n1 m1 = true) : hasB ⟨s1, r1, c1, n1, m1⟩ s r c = decide (s = s1 ∧ r1 ≤ r ∧ r < r1 + n1 ∧ c1 ≤ c ∧ c < c1 + m1) := by
  have hk := (ok_iff ⟨s1, r1, c1, n1, m1⟩).1 hok
  have hk' := hk
  obtain ⟨q1, q2, q3, q4, q5, q6, q7, q8, q9, q10⟩ := hk'
  dsimp only at q1 q2 q3 q4 q5 q6 q7 q8 q9 q10
  rw [Bool.eq_iff_iff, has_iff, decide_eq_true_iff]
  dsimp only
  constructor
  · rintro ⟨_, _, _, _, _, h, _⟩; omega
  · rintro ⟨_, _⟩; refine ⟨hk, ?_, ?_, ?_, ?_, ?_, ?_, ?_, ?_, ?_⟩ <;> omega
theorem up_set (l : Bs) (k : Nat) (hk : k < l.length) : ((l.take k).map upB ++ l.drop k).set k (upB l[k]) = (l.take (k + 1)).map upB ++ l.drop (k + 1) := by
  rw [List.drop_eq_getElem_cons hk, List.take_succ_eq_append_getElem hk, List.map_append, List.set_append_right _ _ (by simp; omega)]
  have e : (List.map upB (List.take k l)).length = k := by simp; omega
  rw [e, Nat.sub_self, List.set_cons_zero, List.append_assoc]; rfl
theorem up_at (l : Bs) (k : Nat) (hk : k < l.length) : ((l.take k).map upB ++ l.drop k).length = l.length ∧ ∀ h, ((l.take k).map upB ++ l.drop k)[k]'h = l[k] := by
  refine ⟨by simp; omega, fun h => ?_⟩
  rw [List.getElem_append_right (by simp; omega)]
  simp [Nat.min_eq_left (Nat.le_of_lt hk)]
theorem upB_yes (b : UInt8) (h1 : 97 ≤ b.toNat) (h2 : b.toNat ≤ 122) : (b.toNat : Int) - 32 = ((upB b).toNat : Int) := by
  unfold upB
  rw [if_pos ⟨UInt8.le_iff_toNat_le.2 h1, UInt8.le_iff_toNat_le.2 h2⟩, UInt8.toNat_sub_of_le _ _ (UInt8.le_iff_toNat_le.2 (by have : (32 : UInt8).toNat = 32 := rfl; omega))]
  have : (32 : UInt8).toNat = 32 := rfl
  omega
theorem upB_no (b : UInt8) (h : ¬ (97 ≤ b.toNat ∧ b.toNat ≤ 122)) : upB b = b := by
  unfold upB
  rw [if_neg]
  rintro ⟨e1, e2⟩
  have e1 := UInt8.le_iff_toNat_le.1 e1
  have e2 := UInt8.le_iff_toNat_le.1 e2
  have k1 : (97 : UInt8).toNat = 97 := rfl
  have k2 : (122 : UInt8).toNat = 122 := rfl
  omega
set_option maxRecDepth 100000 in
set_option maxHeartbeats 4000000 in
theorem Upper_any (s : ByteArray) (w : World) (hs : s.size ≤ 4611686018427387904) : Calls Tryz.prog 37 #[.string s] w (Ret (.string ⟨(s.data.toList.map upB).toArray⟩) w) := by
  obtain ⟨sb, hsb⟩ : ∃ l, s.data.toList = l := ⟨_, rfl⟩
  have hse : s = ⟨sb.toArray⟩ := by rw [← hsb, ba_eta]
  have hlb : sb.length ≤ 4611686018427387904 := by rw [← hsb]; exact hs
  rw [hsb]
  subst hse
  clear hsb hs
  obtain ⟨sm, hlow⟩ : ∃ l, sb.map upB = l := ⟨_, rfl⟩
  rw [hlow]
  have hcv : ∀ W : World, (convert 9 31 (.string ⟨sb.toArray⟩)).run Tryz.prog W = .ok (.slice (some ⟨W.heap.size, 0, none⟩) sb.length (grownCap W sb.length 0 5)) (W.drew.alloc (.cells (bytesRow ⟨sb.toArray⟩ (grownCap W sb.length 0 5)) 5 ((bytesRow ⟨sb.toArray⟩ (grownCap W sb.length 0 5)).size, (bytesRow ⟨sb.toArray⟩ (grownCap W sb.length 0 5)).size + 1))) := fun W => run_bytes_of_string W _ _ 5 ⟨sb.toArray⟩ Tryz.underlying9 Tryz.underlying31 Tryz.underlying5
  go_enter Tryz.func37, Tryz.ntmps37
  go_upto_region 2 with fail
  refine wp_abs2 (fun W => Byt W w.heap.size sb ∧ Below w.heap.size w W) ⟨byt_new2 _ _ _, (by repeat' (first | with_reducible assumption | with_reducible exact Below.refl _ _ | with_reducible refine allocB ?_ | with_reducible refine setB ?_ ?_ | with_reducible refine drewB ?_ | with_reducible refine after ?_ (by assumption) | (simp; omega) | omega))⟩ ?_
  clear hcv
  rintro wl ⟨B17, hb0⟩
  obtain ⟨b17, hb17⟩ : ∃ n, w.heap.size = n := ⟨_, rfl⟩
  have o17 : w.heap.size ≤ b17 := by omega
  rw [hb17] at B17
  rw [show (⟨w.heap.size, 0, none⟩ : Addr) = ⟨b17, 0, none⟩ from by rw [hb17]]
  generalize grownCap _ _ _ _ = cap at *
  clear hb17
  go_wp2_with fail
  go_loopw [4] (fun i w' => ∃ k : Nat, k ≤ sb.length ∧ i = .int .i64 k ∧ Byt w' b17 ((sb.take k).map upB ++ sb.drop k) ∧ Below w.heap.size w w') (fun i _ => sb.length - (intOf i).toNat)
  case atStart => exact ⟨0, by omega, rfl, by simpa using B17, hb0⟩
  case round =>
    clear hb0 B17
    obtain ⟨k, hk, rfl, B17, hb0⟩ := hrel
    by_cases hlt : k < sb.length
    · obtain ⟨ln, la⟩ := up_at sb k hlt
      obtain ⟨hc, hf⟩ := B17.1 k (by omega)
      rw [la (by omega)] at hc
      have hset := fun x => (B17.set (i := k) (by omega) x)
      have hst := up_set sb k hlt
      have HS := Lib.hid (And.intro hset hst)
      have z17 := B17.2
      clear hset hst
      have cb := sb[k].toNat_lt
      by_cases h1 : 97 ≤ sb[k].toNat ∧ sb[k].toNat ≤ 122
      · have hy := upB_yes sb[k] h1.1 h1.2
        have HY := Lib.hid hy; clear hy
        obtain ⟨h1, h2⟩ := h1
        go_wp2
        go_roundw
        case rel => exact ⟨k + 1, by omega, by go_num, (by have := (HS.out.1 (upB sb[k])).eq HS.out.2; rw [← HY.out] at this; exact this), (by repeat' (first | with_reducible assumption | with_reducible exact Below.refl _ _ | with_reducible refine allocB ?_ | with_reducible refine setB ?_ ?_ | with_reducible refine drewB ?_ | with_reducible refine after ?_ (by assumption) | (simp; omega) | omega))⟩
        case measure => simp [intOf]; omega
      · have hy := upB_no sb[k] h1
        have HY := Lib.hid hy; clear hy
        go_wp2
        all_goals go_roundw
        all_goals first
          | (exact ⟨k + 1, by omega, by go_num, B17.eq (by rw [← HS.out.2, HY.out, set_same _ _ _ la]), hb0⟩)
          | (simp [intOf]; omega)
    · have hke : k = sb.length := by omega
      subst hke
      rw [List.take_length, List.drop_length, List.append_nil, hlow] at B17
      have hbk := fun cap => byt_back (cap := cap) B17
      rw [show sm.length = sb.length by rw [← hlow, List.length_map]] at hbk
      go_wp2
      go_ret; exact Ret.mk' rfl hb0
end Go.Proofs.YtgnejohiagagmaaGreatDoor
namespace Go.Proofs.YtgnejohiagagmaaGreatDoor
open Go.RowKit Tab

set_option maxRecDepth 100000 in
set_option maxHeartbeats 2000000 in
theorem TReadColumn_any (s : ByteArray) (w : World) (hs : s.size ≤ 4611686018427387904) : Calls Tryz.prog 109 #[.string s] w (Ret (colV (colOf s.data.toList)) w) := by
  rw [← tcol_is]
  by_cases h2 : 2 < s.size
  · have H : Hid (tcolOf s.data.toList = none) := by
      show _ = _
      rw [tcolOf, if_pos (by rw [ba_size]; exact h2)]
    go_enter Tryz.func109, Tryz.ntmps109
    go_wp2
    go_ret2
    exact ⟨by rw [H.out]; rfl, Below.refl _ _⟩
  · have cM : ∀ W, Calls Tryz.prog 37 #[.string s] W (Ret (.string ⟨(s.data.toList.map upB).toArray⟩) W) := fun W => Upper_any s W hs
    have H : tcolOf s.data.toList = findCol (s.data.toList.map upB) 52 0 := by
      rw [tcolOf, if_neg (by rw [ba_size]; exact h2)]
    rw [H]; clear H
    generalize s.data.toList.map upB = g at *
    go_enter Tryz.func109, Tryz.ntmps109
    go_wp2
    go_loopw [4] (fun i w' => ∃ k : Nat, k ≤ 52 ∧ i = .int .i64 k ∧ Below w.heap.size w w' ∧ findCol g (52 - k) k = findCol g 52 0) (fun i _ => 52 - (intOf i).toNat)
    case atStart => exact ⟨0, by omega, rfl, Below.refl _ _, rfl⟩
    case round =>
      obtain ⟨k, hk, rfl, hb, hI⟩ := hrel
      have HI := Lib.hid hI; clear hI
      by_cases hlt : k < 52
      · have hst := findCol_step g (52 - (k + 1)) k
        rw [show 52 - (k + 1) + 1 = 52 - k from by omega] at hst
        have Hst := Lib.hid hst; clear hst
        cases he : (colL k == g)
        · have Hn : Hid (findCol g (52 - (k + 1)) (k + 1) = findCol g 52 0) := by
            show _ = _
            rw [← HI.out, Hst.out, he]; rfl
          go_wp2_with (first | (go_at_call 156; refine (TColumn_any _ _ (by omega) (by omega)).mono ?_; rintro e w2 ⟨rfl, rfl⟩; unfold strV) | (go_at_call 37; refine (cM _).mono ?_; rintro e w3 ⟨rfl, hb2⟩))
          go_roundw
          case rel => exact ⟨k + 1, by omega, by go_num, after hb hb2, Hn.out⟩
          case measure => simp [intOf]; omega
        · have Hn : Hid (findCol g 52 0 = some k) := by
            show _ = _
            rw [← HI.out, Hst.out, he]; rfl
          go_wp2_with (first | (go_at_call 156; refine (TColumn_any _ _ (by omega) (by omega)).mono ?_; rintro e w2 ⟨rfl, rfl⟩; unfold strV) | (go_at_call 37; refine (cM _).mono ?_; rintro e w3 ⟨rfl, hb2⟩))
          go_ret2
          exact ⟨by rw [Hn.out]; rfl, after hb hb2⟩
      · have Hn : Hid (findCol g 52 0 = none) := by
          show _ = _
          rw [← HI.out, show 52 - k = 0 from by omega]; rfl
        go_wp2
        go_ret2
        exact ⟨by rw [Hn.out]; rfl, hb⟩

theorem dig_at : ∀ i : Fin 10, (ByteArray.mk #[48, 49, 50, 51, 52, 53, 54, 55, 56, 57]).extract i.val (i.val + 1) = ⟨#[48 + UInt8.ofNat i.val]⟩ := by decide +kernel
set_option maxRecDepth 100000 in
set_option maxHeartbeats 2000000 in
theorem Digits_any (m : Nat) (w : World) (hm : m ≤ 1000000) : Calls Tryz.prog 110 #[.int .i64 (m : Int)] w (Still (.string ⟨(Lib.itoa (m : Int)).toArray⟩) w) := by
  induction m using Nat.strongRecOn with
  | _ m ih =>
    have hx := dig_at ⟨m % 10, by omega⟩
    dsimp only at hx
    have hi : Lib.itoa (m : Int) = Lib.decDigits m := by unfold Lib.itoa; rw [if_neg (by omega)]; rfl
    by_cases h : m < 10
    · have hd : Lib.itoa (m : Int) = [UInt8.ofNat 48 + UInt8.ofNat (m % 10)] := by rw [hi, Lib.decDigits_one h, Nat.mod_eq_of_lt h, UInt8.ofNat_add]
      rw [hd]; clear hd hi ih
      go_enter Tryz.func110, Tryz.ntmps110
      go_wp2
      go_ret
      exact Still.mk' (congrArg Value.string hx)
    · have hd : Lib.itoa (m : Int) = Lib.itoa ((m / 10 : Nat) : Int) ++ [UInt8.ofNat 48 + UInt8.ofNat (m % 10)] := by
        rw [hi, Lib.decDigits, dif_neg h, UInt8.ofNat_add]
        congr 1
      have cI := ih (m / 10) (by omega) (by omega)
      have hl := Lib.itoa_length_le ((m / 10 : Nat) : Int) (by omega) (by omega)
      rw [hd]
      clear hd hi ih
      generalize Lib.itoa ((m / 10 : Nat) : Int) = D at *
      have e1 : ¬ 9223372036854775807 < D.length + 1 := by omega
      go_enter Tryz.func110, Tryz.ntmps110
      go_wp2_with fail
      refine cI.mono ?_; rintro e w1 ⟨rfl, rfl⟩
      go_wp2
      go_ret
      exact Still.mk' (strV_eq (l := D ++ [UInt8.ofNat 48 + UInt8.ofNat (m % 10)]) (by rw [ba_append]; rfl))
end Go.Proofs.YtgnejohiagagmaaGreatDoor
