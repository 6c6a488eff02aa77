/- The walk of ReadColumn. -/
import Derived.Test.YtmeiboajpbflcaaGreatDoorGood
import Derived.Test.YtmeiboajpbflcaaGreatDoorInts
namespace Go.Proofs.YtmeiboajpbflcaaGreatDoor
open Go.RowKit Tab

set_option maxHeartbeats 400000 in
theorem up_any (x : Nat) (hx : x ≤ 1114111) (w : World) : Calls Tryz.prog 42 #[.int .i32 (x : Int)] w (Still (.int .i32 (upI x)) w) := by
  by_cases h : 97 ≤ (x : Int) ∧ (x : Int) ≤ 122
  · have H : Hid (upI x = (x : Int) - 97 + 65) := by
      show _ = _
      rw [upI, if_pos h]; omega
    obtain ⟨h1, h2⟩ := h
    go_enter Tryz.func42, Tryz.ntmps42
    go_wp2
    go_ret
    exact Still.mk' (congrArg (Value.int .i32) H.out.symm)
  · have H : Hid (upI x = (x : Int)) := by
      show _ = _
      rw [upI, if_neg h]
    have Hh := Lib.hid h; clear h
    go_enter Tryz.func42, Tryz.ntmps42
    go_wp2
    all_goals first
      | (go_ret; exact Still.mk' (congrArg (Value.int .i32) H.out.symm))
      | exact absurd ⟨by assumption, by assumption⟩ Hh.out

theorem enters_up : ∀ args w, (callFunc 42 args).run Tryz.prog w = .ok (.enter 42 args) w := enters_of Tryz.func42 (by kernel_rfl) rfl

theorem map_up (s : ByteArray) (w : World) (hg : Good w) (hs : s.size < 35184372088832) : Calls Tryz.prog 41 #[.func (.func 42) #[] #[], .string s] w (Ret (strV (Lib.mapD upI s.data.toList)) w) :=
  Tryz.strings_Map_grows 42 #[] enters_up upI s w hs
    (fun W x hx _ => (up_any x hx W).mono fun _ _ h => h.ret)
    (fun x hx => by unfold upI; split <;> omega) hg.u8

theorem findCol_step (g : Bs) (n k : Nat) : findCol g (n + 1) k = if colL k == g then some k else findCol g n (k + 1) := rfl

def colV (o : Option Nat) : Value := .tuple #[.int .i64 (o.getD 0), .int .i64 (if o.isSome then 0 else 20)]

set_option maxRecDepth 100000 in
set_option maxHeartbeats 1000000 in
theorem ReadColumn_any (s : ByteArray) (w : World) (hg : Good w) (hs : s.size ≤ 9223372036854775807) : Calls Tryz.prog 11 #[.string s] w (Ret (colV (colOf s.data.toList)) w) := by
  by_cases h2 : 2 < s.size
  · have H : Hid (colOf s.data.toList = none) := by
      show _ = _
      rw [colOf, if_pos (by rw [← Lib.size_eq]; exact h2)]
    clear hg
    go_enter Tryz.func11, Tryz.ntmps11
    go_wp2
    go_ret2
    exact ⟨by rw [H.out]; rfl, Below.refl _ _⟩
  · have cM : ∀ W, Below w.heap.size w W → Calls Tryz.prog 41 #[.func (.func 42) #[] #[], .string s] W (Ret (strV (Lib.mapD upI s.data.toList)) W) := fun W hb => map_up s W (hg.below hb) (by omega)
    have H : colOf s.data.toList = findCol (Lib.mapD upI s.data.toList) 52 0 := by
      rw [colOf, if_neg (by rw [← Lib.size_eq]; exact h2)]
    rw [H]; clear H
    generalize Lib.mapD upI s.data.toList = g at *
    clear hg
    go_enter Tryz.func11, Tryz.ntmps11
    go_wp2_with (go_at_call 41; refine (cM _ (Below.refl _ _)).mono ?_; rintro e w1 ⟨rfl, hb1⟩; unfold strV)
    go_loopw [13] (fun i w' => ∃ k : Nat, k ≤ 52 ∧ i = .int .i64 k ∧ Below w.heap.size w w' ∧ findCol g (52 - k) k = findCol g 52 0) (fun i _ => 52 - (intOf i).toNat)
    case atStart => exact ⟨0, by omega, rfl, hb1, rfl⟩
    case round =>
      obtain ⟨k, hk, rfl, hb, hI⟩ := hrel
      have HI := Lib.hid hI; clear hI
      by_cases hlt : k < 52
      · have hst := findCol_step g (52 - (k + 1)) k
        rw [show 52 - (k + 1) + 1 = 52 - k from by omega] at hst
        have Hst := Lib.hid hst; clear hst
        cases he : (colL k == g)
        · have Hn : Hid (findCol g (52 - (k + 1)) (k + 1) = findCol g 52 0) := by
            show _ = _
            rw [← HI.out, Hst.out, he]; rfl
          go_wp2_with (go_at_call 13; refine (Column_any _ _ (by omega) (by omega)).mono ?_; rintro e w2 ⟨rfl, hb2⟩; unfold strV)
          go_roundw
          case rel => exact ⟨k + 1, by omega, by go_num, after hb hb2, Hn.out⟩
          case measure => simp [intOf]; omega
        · have Hn : Hid (findCol g 52 0 = some k) := by
            show _ = _
            rw [← HI.out, Hst.out, he]; rfl
          go_wp2_with (go_at_call 13; refine (Column_any _ _ (by omega) (by omega)).mono ?_; rintro e w2 ⟨rfl, hb2⟩; unfold strV)
          go_ret2
          exact ⟨by rw [Hn.out]; rfl, after hb hb2⟩
      · have Hn : Hid (findCol g 52 0 = none) := by
          show _ = _
          rw [← HI.out, show 52 - k = 0 from by omega]; rfl
        go_wp2
        go_ret2
        exact ⟨by rw [Hn.out]; rfl, hb⟩
end Go.Proofs.YtmeiboajpbflcaaGreatDoor
