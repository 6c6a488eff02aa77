import Derived.Test.YtlpgigdegnbkmaaGreatDoorM19
import Derived.Laws.AppendOwn
set_option maxRecDepth 100000
set_option maxHeartbeats 8000000
namespace Go.Proofs.YtlpgigdegnbkmaaGreatDoor
open Go.RowKit Tab Tryz
theorem enters_change : ∀ args w, (callFunc 176 args).run prog w = .ok (.enter 176 args) w := enters_of func176 (by kernel_rfl) rfl
theorem tgreat_one (x : Nat) (hx : x <= 1114111) (b1 b2 : Nat) (w : World) (h1 : w.cell? ⟨b1, 0, none⟩ = some (.int .i32 97)) (h2 : w.cell? ⟨b2, 0, none⟩ = some (.int .i32 65)) : Calls prog 176 #[.int .i32 (x : Int), .pointer (some ⟨b1, 0, none⟩), .pointer (some ⟨b2, 0, none⟩)] w (Still (.int .i32 (upI x)) w) := by
 by_cases h : 97 <= x
 ·have e1 : decide ((97 : Int) <= (x : Int)) = true := decide_eq_true (by omega)
  by_cases h' : x < 123
  ·have e2 : decide ((x : Int) < 123) = true := decide_eq_true (by omega)
   have H : Hid (upI x = (x : Int) - 97 + 65) := by
    show _ = _
    rw [upI, if_pos (by omega)]; omega
   have ew1 : IntKind.i32.wrap ((x : Int) - 97) = (x : Int) - 97 := by rw [IntKind.wrap_i32]; omega
   have ew2 : IntKind.i32.wrap ((x : Int) - 97 + 65) = (x : Int) - 97 + 65 := by rw [IntKind.wrap_i32]; omega
   go_enter func176, ntmps176
   go_wp2
   go_ret
   exact Still.mk' (congrArg (Value.int .i32) H.out.symm)
  ·have e2 : decide ((x : Int) < 123) = false := decide_eq_false (by omega)
   have H : Hid (upI x = (x : Int)) := by
    show _ = _
    rw [upI, if_neg (by omega)]
   go_enter func176, ntmps176
   go_wp2
   go_ret
   exact Still.mk' (congrArg (Value.int .i32) H.out.symm)
 ·have e1 : decide ((97 : Int) <= (x : Int)) = false := decide_eq_false (by omega)
  have H : Hid (upI x = (x : Int)) := by
   show _ = _
   rw [upI, if_neg (by omega)]
  go_enter func176, ntmps176
  go_wp2
  go_ret
  exact Still.mk' (congrArg (Value.int .i32) H.out.symm)
theorem map_tgreat (s : ByteArray) (b1 b2 : Nat) (w : World) (hg : Good w) (hs : s.size < 35184372088832) (h1 : w.cell? ⟨b1, 0, none⟩ = some (.int .i32 97)) (h2 : w.cell? ⟨b2, 0, none⟩ = some (.int .i32 65)) (l1 : b1 < w.heap.size) (l2 : b2 < w.heap.size) : Calls prog 131 #[.func (.func 176) #[] #[.pointer (some ⟨b1, 0, none⟩), .pointer (some ⟨b2, 0, none⟩)], .string s] w (Ret (strV (upperD s.data.toList)) w) :=
 Tryz.strings_Map_grows 176 #[.pointer (some ⟨b1, 0, none⟩), .pointer (some ⟨b2, 0, none⟩)] enters_change upI s w hs
  (fun W x hx hb => (tgreat_one x hx b1 b2 W ((hb.cell (p := ⟨b1, 0, none⟩) l1).trans h1) ((hb.cell (p := ⟨b2, 0, none⟩) l2).trans h2)).mono fun _ _ h => h.ret)
  (fun x hx => by unfold upI; split <;> omega) hg.u8
theorem ch_tgreat (s : ByteArray) (w : World) (hg : Good w) (hs : s.size <= 1000000) : Calls prog 139 #[.string s, .int .i32 97, .int .i32 65] w (Ret (strV (upperD s.data.toList)) w) := by
 have cM := fun W b1 b2 (h : Below w.heap.size w W) => map_tgreat s b1 b2 W (hg.below h) (by omega)
 unfold strV at *
 generalize upperD s.data.toList = U at *
 go_enter func139, ntmps139
 go_upto_region 1 with (fail)
 refine wp_abs2 (fun W => Below w.heap.size w W /\ W.heap[w.heap.size]? = some (.cells #[.int .i32 97] 21 (0, 0)) /\ W.heap[w.heap.size + 1]? = some (.cells #[.int .i32 65] 21 (0, 0))) ⟨belx, heap_alloc2_old _ _ _, heap_alloc2_new _ _ _⟩ ?_
 rintro w1 ⟨hb1, q1, r1⟩
 obtain ⟨f1, -, z1⟩ := lie_cell q1
 obtain ⟨g1, -, y1⟩ := lie_cell r1
 go_wp2_with fail
 refine (cM w1 w.heap.size (w.heap.size + 1) hb1 (f1 0) (g1 0) z1 y1).mono ?_; rintro e w2 ⟨rfl, hb2⟩
 go_wp2
 go_ret; exact Ret.mk' rfl (after hb1 hb2)
theorem tgreat_any (s : ByteArray) (w : World) (hg : Good w) (hs : s.size <= 1000000) : Calls prog 94 #[.string s] w (Ret (strV (upperD s.data.toList)) w) := by
 have cM := ch_tgreat s w hg hs
 unfold strV at *
 generalize upperD s.data.toList = U at *
 go_enter func94, ntmps94
 go_wp2_with fail
 refine cM.mono ?_; rintro e w1 ⟨rfl, hb⟩
 go_wp2
 go_ret; exact Ret.mk' rfl hb
theorem tfold_one (x : Nat) (hx : x <= 1114111) (b1 b2 : Nat) (w : World) (h1 : w.cell? ⟨b1, 0, none⟩ = some (.int .i32 65)) (h2 : w.cell? ⟨b2, 0, none⟩ = some (.int .i32 97)) : Calls prog 176 #[.int .i32 (x : Int), .pointer (some ⟨b1, 0, none⟩), .pointer (some ⟨b2, 0, none⟩)] w (Still (.int .i32 (loI x)) w) := by
 by_cases h : 65 <= x
 ·have e1 : decide ((65 : Int) <= (x : Int)) = true := decide_eq_true (by omega)
  by_cases h' : x < 91
  ·have e2 : decide ((x : Int) < 91) = true := decide_eq_true (by omega)
   have H : Hid (loI x = (x : Int) - 65 + 97) := by
    show _ = _
    rw [loI, if_pos (by omega)]; omega
   have ew1 : IntKind.i32.wrap ((x : Int) - 65) = (x : Int) - 65 := by rw [IntKind.wrap_i32]; omega
   have ew2 : IntKind.i32.wrap ((x : Int) - 65 + 97) = (x : Int) - 65 + 97 := by rw [IntKind.wrap_i32]; omega
   go_enter func176, ntmps176
   go_wp2
   go_ret
   exact Still.mk' (congrArg (Value.int .i32) H.out.symm)
  ·have e2 : decide ((x : Int) < 91) = false := decide_eq_false (by omega)
   have H : Hid (loI x = (x : Int)) := by
    show _ = _
    rw [loI, if_neg (by omega)]
   go_enter func176, ntmps176
   go_wp2
   go_ret
   exact Still.mk' (congrArg (Value.int .i32) H.out.symm)
 ·have e1 : decide ((65 : Int) <= (x : Int)) = false := decide_eq_false (by omega)
  have H : Hid (loI x = (x : Int)) := by
   show _ = _
   rw [loI, if_neg (by omega)]
  go_enter func176, ntmps176
  go_wp2
  go_ret
  exact Still.mk' (congrArg (Value.int .i32) H.out.symm)
theorem map_tfold (s : ByteArray) (b1 b2 : Nat) (w : World) (hg : Good w) (hs : s.size < 35184372088832) (h1 : w.cell? ⟨b1, 0, none⟩ = some (.int .i32 65)) (h2 : w.cell? ⟨b2, 0, none⟩ = some (.int .i32 97)) (l1 : b1 < w.heap.size) (l2 : b2 < w.heap.size) : Calls prog 131 #[.func (.func 176) #[] #[.pointer (some ⟨b1, 0, none⟩), .pointer (some ⟨b2, 0, none⟩)], .string s] w (Ret (strV (lowerD s.data.toList)) w) :=
 Tryz.strings_Map_grows 176 #[.pointer (some ⟨b1, 0, none⟩), .pointer (some ⟨b2, 0, none⟩)] enters_change loI s w hs
  (fun W x hx hb => (tfold_one x hx b1 b2 W ((hb.cell (p := ⟨b1, 0, none⟩) l1).trans h1) ((hb.cell (p := ⟨b2, 0, none⟩) l2).trans h2)).mono fun _ _ h => h.ret)
  (fun x hx => by unfold loI; split <;> omega) hg.u8
theorem ch_tfold (s : ByteArray) (w : World) (hg : Good w) (hs : s.size <= 1000000) : Calls prog 139 #[.string s, .int .i32 65, .int .i32 97] w (Ret (strV (lowerD s.data.toList)) w) := by
 have cM := fun W b1 b2 (h : Below w.heap.size w W) => map_tfold s b1 b2 W (hg.below h) (by omega)
 unfold strV at *
 generalize lowerD s.data.toList = U at *
 go_enter func139, ntmps139
 go_upto_region 1 with (fail)
 refine wp_abs2 (fun W => Below w.heap.size w W /\ W.heap[w.heap.size]? = some (.cells #[.int .i32 65] 21 (0, 0)) /\ W.heap[w.heap.size + 1]? = some (.cells #[.int .i32 97] 21 (0, 0))) ⟨belx, heap_alloc2_old _ _ _, heap_alloc2_new _ _ _⟩ ?_
 rintro w1 ⟨hb1, q1, r1⟩
 obtain ⟨f1, -, z1⟩ := lie_cell q1
 obtain ⟨g1, -, y1⟩ := lie_cell r1
 go_wp2_with fail
 refine (cM w1 w.heap.size (w.heap.size + 1) hb1 (f1 0) (g1 0) z1 y1).mono ?_; rintro e w2 ⟨rfl, hb2⟩
 go_wp2
 go_ret; exact Ret.mk' rfl (after hb1 hb2)
theorem tfold_any (s : ByteArray) (w : World) (hg : Good w) (hs : s.size <= 1000000) : Calls prog 142 #[.string s] w (Ret (strV (lowerD s.data.toList)) w) := by
 have cM := ch_tfold s w hg hs
 unfold strV at *
 generalize lowerD s.data.toList = U at *
 go_enter func142, ntmps142
 go_wp2_with fail
 refine cM.mono ?_; rintro e w1 ⟨rfl, hb⟩
 go_wp2
 go_ret; exact Ret.mk' rfl hb
structure NodeSm (n : NodeD) : Prop where
 dec : -9000000000000000000 <= n.m /\ n.m <= 9000000000000000000
 text : n.text.length <= 1000
 kids : n.kids.length <= 1000
 rows : n.rows <= 9223372036854775807
 refs : n.ref.s.size <= 9223372036854775807 /\ n.far.s.size <= 9223372036854775807
def NodeAt : Nat -> World -> List Value -> NodeD -> Prop
 | 0, _, _, _ => False
 | f + 1, w, cs, n => ∃ a c, cs = nodeC n (.slice a n.kids.length c) /\ n.kids.length <= c /\ NodeSm n /\ KidsAt (NodeAt f w) w a n.kids
theorem NodeAt.len {f : Nat} {w : World} {cs : List Value} {n : NodeD} (h : NodeAt f w cs n) : cs.length = 20 := by
 cases f with
 | zero => exact h.elim
 | succ f => obtain ⟨a, c, rfl, _⟩ := h; rfl
theorem NodeAt.below {w W : World} (hb : Below w.heap.size w W) : ∀ {f : Nat} {cs : List Value} {n : NodeD}, NodeAt f w cs n -> NodeAt f W cs n
 | 0, _, _, h => h.elim
 | f + 1, cs, n, h => by
  obtain ⟨a, c, h1, h2, h3, hk⟩ := h
  refine ⟨a, c, h1, h2, h3, hk.imp id ?_⟩
  rintro ⟨b, o, e1, e2, e3⟩
  refine ⟨b, o, e1, Nat.lt_of_lt_of_le e2 hb.size, fun i k hi => ?_⟩
  obtain ⟨cs', r1, r2⟩ := e3 i k hi
  exact ⟨cs', fun j v hj => (hb.cell (p := ⟨b, o + i * 20 + j, none⟩) e2).trans (r1 j v hj), r2.below hb⟩
theorem NodeAt.kind {f : Nat} {w : World} {cs : List Value} {n : NodeD} (h : NodeAt f w cs n) : cs[0]? = some (.int .i64 n.kind) := by
 cases f with
 | zero => exact h.elim
 | succ f => obtain ⟨a, c, rfl, _⟩ := h; rfl
theorem const_any (f : Nat) (n : NodeD) (cs : List Value) (w : World) (hn : NodeAt f w cs n) : Calls prog 97 #[.agg cs.toArray] w (Ret (.bool (constD n)) w) := by
 cases f with
 | zero => exact hn.elim
 | succ f =>
 obtain ⟨a, c, rfl, hc, hs, hkids⟩ := hn
 obtain ⟨V, hV⟩ : ∃ V, constD n = V := ⟨_, rfl⟩
 rw [hV]
 obtain ⟨L, hL⟩ : ∃ L, n.kids.length = L := ⟨_, rfl⟩
 unfold nodeC
 rw [hL] at hc ⊢
 by_cases h1 : n.kind = 1
 ·have hR : true = V := by rw [<- hV]; unfold constD; rw [if_pos (by simp [h1])]
  subst hR
  rw [h1]
  clear h1 hV hkids hs
  go_enter func97, ntmps97
  go_upto_region 1 with (fail)
  refine wp_abs2 (On1 30 w (List.toArray [.int .i64 1, .string ⟨n.text.toArray⟩, .int .i64 n.m, .int .i64 n.e, .bool n.b, .int .i64 n.err, .string n.ref.s, .int .i64 n.ref.row, .int .i64 n.ref.col, .bool n.ref.fr, .bool n.ref.fc, .bool n.ref.bad, .string n.far.s, .int .i64 n.far.row, .int .i64 n.far.col, .bool n.far.fr, .bool n.far.fc, .bool n.far.bad, .int .i64 n.rows, .slice a L c])) ⟨belx, heap_alloc_new _ _⟩ ?_
  rintro w1 ⟨hb1, q1⟩
  obtain ⟨f1, -, z1⟩ := lie_cell q1
  clear q1
  go_wp2
  go_ret; exact Ret.mk' rfl hb1
 by_cases h2 : n.kind = 2
 ·have hR : true = V := by rw [<- hV]; unfold constD; rw [if_pos (by simp [h2])]
  subst hR
  rw [h2]
  clear h2 hV hkids hs
  go_enter func97, ntmps97
  go_upto_region 1 with (fail)
  refine wp_abs2 (On1 30 w (List.toArray [.int .i64 2, .string ⟨n.text.toArray⟩, .int .i64 n.m, .int .i64 n.e, .bool n.b, .int .i64 n.err, .string n.ref.s, .int .i64 n.ref.row, .int .i64 n.ref.col, .bool n.ref.fr, .bool n.ref.fc, .bool n.ref.bad, .string n.far.s, .int .i64 n.far.row, .int .i64 n.far.col, .bool n.far.fr, .bool n.far.fc, .bool n.far.bad, .int .i64 n.rows, .slice a L c])) ⟨belx, heap_alloc_new _ _⟩ ?_
  rintro w1 ⟨hb1, q1⟩
  obtain ⟨f1, -, z1⟩ := lie_cell q1
  clear q1
  go_wp2
  go_ret; exact Ret.mk' rfl hb1
 by_cases h3 : n.kind = 3
 ·have hR : true = V := by rw [<- hV]; unfold constD; rw [if_pos (by simp [h3])]
  subst hR
  rw [h3]
  clear h3 hV hkids hs
  go_enter func97, ntmps97
  go_upto_region 1 with (fail)
  refine wp_abs2 (On1 30 w (List.toArray [.int .i64 3, .string ⟨n.text.toArray⟩, .int .i64 n.m, .int .i64 n.e, .bool n.b, .int .i64 n.err, .string n.ref.s, .int .i64 n.ref.row, .int .i64 n.ref.col, .bool n.ref.fr, .bool n.ref.fc, .bool n.ref.bad, .string n.far.s, .int .i64 n.far.row, .int .i64 n.far.col, .bool n.far.fr, .bool n.far.fc, .bool n.far.bad, .int .i64 n.rows, .slice a L c])) ⟨belx, heap_alloc_new _ _⟩ ?_
  rintro w1 ⟨hb1, q1⟩
  obtain ⟨f1, -, z1⟩ := lie_cell q1
  clear q1
  go_wp2
  go_ret; exact Ret.mk' rfl hb1
 by_cases h4 : n.kind = 4
 ·have hR : true = V := by rw [<- hV]; unfold constD; rw [if_pos (by simp [h4])]
  subst hR
  rw [h4]
  clear h4 hV hkids hs
  go_enter func97, ntmps97
  go_upto_region 1 with (fail)
  refine wp_abs2 (On1 30 w (List.toArray [.int .i64 4, .string ⟨n.text.toArray⟩, .int .i64 n.m, .int .i64 n.e, .bool n.b, .int .i64 n.err, .string n.ref.s, .int .i64 n.ref.row, .int .i64 n.ref.col, .bool n.ref.fr, .bool n.ref.fc, .bool n.ref.bad, .string n.far.s, .int .i64 n.far.row, .int .i64 n.far.col, .bool n.far.fr, .bool n.far.fc, .bool n.far.bad, .int .i64 n.rows, .slice a L c])) ⟨belx, heap_alloc_new _ _⟩ ?_
  rintro w1 ⟨hb1, q1⟩
  obtain ⟨f1, -, z1⟩ := lie_cell q1
  clear q1
  go_wp2
  go_ret; exact Ret.mk' rfl hb1
 have hD : constD n = (decide (n.kind = 10) && ((n.text == [45]) && match n.kids with | [k] => decide (k.kind = 1) | _ => false)) := by unfold constD; rw [if_neg (by simp [h1, h2, h3, h4])]; rfl
 rw [hD] at hV
 clear hD
 by_cases h10 : n.kind = 10
 ·rw [h10] at hV ⊢
  rw [decide_eq_true rfl, Bool.true_and] at hV
  clear h1 h2 h3 h4 h10
  obtain ⟨E, hE⟩ : ∃ E, (n.text == [45]) = E := ⟨_, rfl⟩
  rw [hE] at hV
  cases E
  ·have hR : false = V := hV
   subst hR
   clear hV hkids hs
   go_enter func97, ntmps97
   go_upto_region 1 with (fail)
   refine wp_abs2 (On1 30 w (List.toArray [.int .i64 10, .string ⟨n.text.toArray⟩, .int .i64 n.m, .int .i64 n.e, .bool n.b, .int .i64 n.err, .string n.ref.s, .int .i64 n.ref.row, .int .i64 n.ref.col, .bool n.ref.fr, .bool n.ref.fc, .bool n.ref.bad, .string n.far.s, .int .i64 n.far.row, .int .i64 n.far.col, .bool n.far.fr, .bool n.far.fc, .bool n.far.bad, .int .i64 n.rows, .slice a L c])) ⟨belx, heap_alloc_new _ _⟩ ?_
   rintro w1 ⟨hb1, q1⟩
   obtain ⟨f1, -, z1⟩ := lie_cell q1
   clear q1
   go_wp2
   go_ret; exact Ret.mk' rfl hb1
  ·rw [Bool.true_and] at hV
   by_cases hL1 : L = 1
   ·obtain ⟨k, hk⟩ : ∃ k, n.kids = [k] := by
     match h : n.kids with
     | [] => rw [h] at hL; simp at hL; omega
     | [k] => exact ⟨k, rfl⟩
     | _ :: _ :: _ => rw [h] at hL; simp at hL; omega
    rw [hk] at hV
    dsimp only at hV
    rcases hkids with h0 | ⟨b, o, rfl, hb, hr⟩
    ·rw [hk] at h0; cases h0
    obtain ⟨kc, hkr, hkn⟩ := hr 0 k (by rw [hk]; rfl)
    have hkk := hkr 0 _ hkn.kind
    rw [Nat.zero_mul, Nat.add_zero] at hkk
    have hz : (k.kind == 1) = decide (k.kind = 1) := by rw [Bool.eq_iff_iff, beq_iff_eq, decide_eq_true_iff]
    rw [<- hz] at hV
    generalize k.kind = KD at *
    subst hL1
    have hkw := fun W (h : Below w.heap.size w W) => (h.cell (p := ⟨b, o, none⟩) hb).trans hkk
    cases V
    all_goals (
     go_enter func97, ntmps97
     go_upto_region 1 with (fail)
     refine wp_abs2 (On1 30 w (List.toArray [.int .i64 10, .string ⟨n.text.toArray⟩, .int .i64 n.m, .int .i64 n.e, .bool n.b, .int .i64 n.err, .string n.ref.s, .int .i64 n.ref.row, .int .i64 n.ref.col, .bool n.ref.fr, .bool n.ref.fc, .bool n.ref.bad, .string n.far.s, .int .i64 n.far.row, .int .i64 n.far.col, .bool n.far.fr, .bool n.far.fc, .bool n.far.bad, .int .i64 n.rows, .slice (some ⟨b, o, none⟩) 1 c])) ⟨belx, heap_alloc_new _ _⟩ ?_
     rintro w1 ⟨hb1, q1⟩
     obtain ⟨f1, -, z1⟩ := lie_cell q1
     clear q1
     have hk1 := hkw w1 hb1
     clear hkw hkk hr hkr hkn hk hL hs hz
     go_wp2
     go_ret; exact Ret.mk' rfl hb1)
   ·have hR : false = V := by
     rw [<- hV]
     match h : n.kids with
     | [] => rfl
     | [k] => rw [h] at hL; simp at hL; omega
     | _ :: _ :: _ => rfl
    subst hR
    have e1 : ((L : Int) == 1) = false := beq_eq_false_iff_ne.2 (by omega)
    clear hV hkids hs hL1
    go_enter func97, ntmps97
    go_upto_region 1 with (fail)
    refine wp_abs2 (On1 30 w (List.toArray [.int .i64 10, .string ⟨n.text.toArray⟩, .int .i64 n.m, .int .i64 n.e, .bool n.b, .int .i64 n.err, .string n.ref.s, .int .i64 n.ref.row, .int .i64 n.ref.col, .bool n.ref.fr, .bool n.ref.fc, .bool n.ref.bad, .string n.far.s, .int .i64 n.far.row, .int .i64 n.far.col, .bool n.far.fr, .bool n.far.fc, .bool n.far.bad, .int .i64 n.rows, .slice a L c])) ⟨belx, heap_alloc_new _ _⟩ ?_
    rintro w1 ⟨hb1, q1⟩
    obtain ⟨f1, -, z1⟩ := lie_cell q1
    clear q1
    go_wp2
    go_ret; exact Ret.mk' rfl hb1
 ·rw [decide_eq_false h10] at hV
  have hR : false = V := hV
  subst hR
  have n1 : (n.kind == 1) = false := beq_eq_false_iff_ne.2 h1
  have n2 : (n.kind == 2) = false := beq_eq_false_iff_ne.2 h2
  have n3 : (n.kind == 3) = false := beq_eq_false_iff_ne.2 h3
  have n4 : (n.kind == 4) = false := beq_eq_false_iff_ne.2 h4
  have n10 : (n.kind == 10) = false := beq_eq_false_iff_ne.2 h10
  clear h1 h2 h3 h4 h10 hV hkids hs
  go_enter func97, ntmps97
  go_upto_region 1 with (fail)
  refine wp_abs2 (On1 30 w (List.toArray [.int .i64 n.kind, .string ⟨n.text.toArray⟩, .int .i64 n.m, .int .i64 n.e, .bool n.b, .int .i64 n.err, .string n.ref.s, .int .i64 n.ref.row, .int .i64 n.ref.col, .bool n.ref.fr, .bool n.ref.fc, .bool n.ref.bad, .string n.far.s, .int .i64 n.far.row, .int .i64 n.far.col, .bool n.far.fr, .bool n.far.fc, .bool n.far.bad, .int .i64 n.rows, .slice a L c])) ⟨belx, heap_alloc_new _ _⟩ ?_
  rintro w1 ⟨hb1, q1⟩
  obtain ⟨f1, -, z1⟩ := lie_cell q1
  clear q1
  go_wp2
  go_ret; exact Ret.mk' rfl hb1
theorem nconst_any (f : Nat) (n : NodeD) (cs : List Value) (w : World) (hn : NodeAt f w cs n) : Calls prog 96 #[.agg cs.toArray] w (Ret (.bool (!constD n)) w) := by
 have cC := fun W (h : Below w.heap.size w W) => const_any f n cs W (hn.below h)
 have hlen := hn.len
 generalize constD n = V at *
 go_enter func96, ntmps96
 go_upto_region 1 with (fail)
 refine wp_abs2 (On1 30 w cs.toArray) ⟨belx, heap_alloc_new _ _⟩ ?_
 rintro w1 ⟨hb1, q1⟩
 refine wp_region_lit ?_
 refine wpList_load_row rfl 30 (.tmp 1) rfl w.heap.size rfl 30 cs.toArray (0, 0) _ q1 underlying30 rfl (by rw [List.size_toArray, hlen]; exact cellsNode) ?_
 refine wpList_plain rfl (fun KK hKK => ?_); go_simp
 refine (cC w1 hb1).mono ?_; rintro e w2 ⟨rfl, hb2⟩
 refine hKK _ _ ?_; clear hKK KK
 iterate 2 refine st ?_
 refine wpList_nil ?_
 go_wp2
 go_ret; exact Ret.mk' rfl (after hb1 hb2)
theorem idxConst_any (f : Nat) (a : Option Addr) (c : Nat) (K : List NodeD) (w : World) (_hc : K.length <= c) (hK : K.length <= 1000000) (hI : KidsAt (NodeAt f w) w a K) :
  Calls prog 140 #[.slice a K.length c, .func (.func 96) #[] #[]] w (Ret (.int .i64 (idxW (fun x => !constD x) K 0)) w) := by
 obtain ⟨V, hV⟩ : ∃ V, idxW (fun x => !constD x) K 0 = V := ⟨_, rfl⟩
 rw [hV]
 obtain ⟨n, hn⟩ : ∃ n, K.length = n := ⟨_, rfl⟩
 have HC := Lib.hid hI
 rw [hn] at hK ⊢
 have HN := Lib.hid hn
 clear hI hn
 go_enter func140, ntmps140
 go_wp2
 go_loopw [8] (fun i w' => ∃ j : Nat, j <= n /\ i = .int .i64 j /\ idxW (fun x => !constD x) (K.drop j) j = V /\ Below w.heap.size w w') (fun i _ => n - (intOf i).toNat)
 case atStart => exact ⟨0, by omega, rfl, hV, Below.refl _ _⟩
 case round =>
  clear hV
  obtain ⟨j, hj, rfl, hI, hB⟩ := hrel
  have HI := Lib.hid hI; clear hI
  by_cases hlt : j < n
  ·have hl : j < K.length := by rw [HN.out]; exact hlt
   obtain ⟨x, hx⟩ : ∃ x, K[j]? = some x := ⟨_, List.getElem?_eq_getElem hl⟩
   rcases HC.out with h0 | ⟨b, o, rfl, hb, hr⟩
   ·rw [h0] at hl; simp at hl
   obtain ⟨cs, hrc, hnc⟩ := hr j x hx
   have hrw : wr.rangeAt b (o + j * 20) cs := fun jj v hv => (hB.cell (p := ⟨b, o + j * 20 + jj, none⟩) hb).trans (hrc jj v hv)
   have hlen := hnc.len
   have hnw : NodeAt f wr cs x := hnc.below hB
   have cF := nconst_any f x cs wr hnw
   have hN := HI.out
   rw [idxW_step _ K j x hx] at hN
   have hji : (j : Int) < (n : Int) := by omega
   clear hr hrc hnc hnw HC
   cases hp : (!constD x)
   ·rw [if_neg (by rw [hp]; exact Bool.false_ne_true)] at hN
    rw [hp] at cF
    have HN2 := Lib.hid hN
    clear hN hx hp HI
    go_upto_region 4 with (fail)
    refine wp_region_lit ?_
    iterate 4 refine st ?_
    refine wpList_load_mid rfl 30 (.tmp 14) rfl b (o + j * 20) rfl cs _ hrw underlying30 rfl (by rw [hlen]; exact cellsNode) ?_
    refine wpList_plain rfl (fun KK hKK => ?_); go_simp
    refine cF.mono ?_; rintro e w1 ⟨rfl, hb1⟩
    refine hKK _ _ ?_; clear hKK KK
    refine wpList_nil ?_
    clear hrw
    go_wp2
    go_roundw
    case rel => exact ⟨j + 1, by omega, by go_num, HN2.out, after hB hb1⟩
    case measure => simp [intOf]; omega
   ·rw [if_pos hp] at hN
    subst hN
    rw [hp] at cF
    clear hx hp HI
    go_upto_region 4 with (fail)
    refine wp_region_lit ?_
    iterate 4 refine st ?_
    refine wpList_load_mid rfl 30 (.tmp 14) rfl b (o + j * 20) rfl cs _ hrw underlying30 rfl (by rw [hlen]; exact cellsNode) ?_
    refine wpList_plain rfl (fun KK hKK => ?_); go_simp
    refine cF.mono ?_; rintro e w1 ⟨rfl, hb1⟩
    refine hKK _ _ ?_; clear hKK KK
    refine wpList_nil ?_
    clear hrw
    go_wp2
    go_ret; exact Ret.mk' rfl (after hB hb1)
  ·have hN := HI.out
   rw [List.drop_eq_nil_of_le (by rw [HN.out]; omega)] at hN
   have hN2 : (-1 : Int) = V := hN
   subst hN2
   clear hN HI
   go_wp2
   go_ret; exact Ret.mk' rfl hB
theorem contConst_any (f : Nat) (a : Option Addr) (c : Nat) (K : List NodeD) (w : World) (hc : K.length <= c) (hK : K.length <= 1000000) (hI : KidsAt (NodeAt f w) w a K) :
  Calls prog 95 #[.slice a K.length c, .func (.func 96) #[] #[]] w (Ret (.bool (K.any fun x => !constD x)) w) := by
 have cI := idxConst_any f a c K w hc hK hI
 rw [<- idxW_any _ K 0]
 generalize idxW (fun x => !constD x) K 0 = V at *
 go_enter func95, ntmps95
 go_wp2_with fail
 refine cI.mono ?_; rintro e w1 ⟨rfl, hb⟩
 go_wp2
 go_ret; exact Ret.mk' rfl hb
end Go.Proofs.YtlpgigdegnbkmaaGreatDoor
namespace Go
variable {P : Program} {ops : Array Oper} {Q : Exit -> Act -> World -> Prop} {rest : List Oper} {o : Oper} {a : Act} {w : World}
theorem wpList_run (v : Value) (w' : World) (hw : Region.wanted o (yielded ops a.tmps) = true) (h : (execOp a.eval o).run P w = .ok (.value v) w') (k : wpList P ops Q rest (a.put o.dst v) w') : wpList P ops Q (o :: rest) a w :=
 Proofs.YtlpgigdegnbkmaaGreatDoor.wpList_want hw fun K hK => by
  unfold Oper.wp
  rw [h]
  exact hK _ _ k
theorem wr (v : Value) (w' : World) (k : wpList P ops Q rest (a.put o.dst v) w') (hw : Region.wanted o (yielded ops a.tmps) = true := by kernel_rfl) (h : (execOp a.eval o).run P w = .ok (.value v) w' := by kernel_rfl) : wpList P ops Q (o :: rest) a w := wpList_run v w' hw h k
theorem wn {a' : Act} (v : Value) (w' : World) (k : wpList P ops Q rest a' w') (hw : Region.wanted o (yielded ops a.tmps) = true := by kernel_rfl) (h : (execOp a.eval o).run P w = .ok (.value v) w' := by kernel_rfl) (ha : a.put o.dst v = a' := by (simp only [Act.put, List.setIfInBounds_toArray, List.set_cons_zero, List.set_cons_succ]; exact rfl)) : wpList P ops Q (o :: rest) a w := wpList_run v w' hw h (ha ▸ k)
theorem wpList_enter (f : FuncId) (args : Array Value) (hw : Region.wanted o (yielded ops a.tmps) = true) (h : (execOp a.eval o).run P w = .ok (.enter f args) w) (R : Ending -> World -> Prop) (c : Calls P f args w R) (k : ∀ e w', R e w' -> ∃ v, e = .returned v /\ wpList P ops Q rest (a.put o.dst v) w') : wpList P ops Q (o :: rest) a w :=
 Proofs.YtlpgigdegnbkmaaGreatDoor.wpList_want hw fun K hK => by
  unfold Oper.wp
  rw [h]
  refine c.mono fun e w' hr => ?_
  obtain ⟨v, rfl, hk⟩ := k e w' hr
  exact hK _ _ hk
end Go
namespace Tab
def cntN : Nat -> NodeD -> Nat
 | 0, _ => 0
 | f + 1, n => 1 + (n.kids.map (cntN f)).sum
end Tab
namespace Go.Proofs.YtlpgigdegnbkmaaGreatDoor
open Go.RowKit Tab Tryz
theorem flat_at : ∀ (css : List (List Value)) (i j : Nat) (cs : List Value), (∀ x ∈ css, x.length = 20) -> css[i]? = some cs -> j < 20 -> css.flatten[i * 20 + j]? = cs[j]?
 | [], i, j, cs, _, h, _ => by simp at h
 | x :: css, 0, j, cs, hl, h, hj => by
  simp at h; subst h
  have := hl x (List.mem_cons_self ..)
  rw [List.flatten_cons, Nat.zero_mul, Nat.zero_add, List.getElem?_append_left (by omega)]
 | x :: css, i + 1, j, cs, hl, h, hj => by
  have h1 := hl x (List.mem_cons_self ..)
  rw [List.flatten_cons, List.getElem?_append_right (by omega), h1, show (i + 1) * 20 + j - 20 = i * 20 + j by omega]
  exact flat_at css i j cs (fun y hy => hl y (List.mem_cons_of_mem _ hy)) (by simpa using h) hj
theorem node_leaf {f : Nat} {W : World} {n : NodeD} (hk : n.kids = []) (hs : NodeSm n) : NodeAt (f + 1) W (nodeC n (.slice none 0 0)) n := ⟨none, 0, by rw [hk]; rfl, by rw [hk]; exact Nat.le_refl _, hs, .inl hk⟩
theorem kids_row {f : Nat} {W : World} {b : Nat} {T : TypeId} {fr : Nat × Nat} {L : List NodeD} (css : List (List Value)) (rest : List Value) (h : W.heap[b]? = some (.cells (css.flatten ++ rest).toArray T fr)) (hl : css.length = L.length) (hn : ∀ (i : Nat) (cs : List Value) (k : NodeD), css[i]? = some cs -> L[i]? = some k -> NodeAt f W cs k) : KidsAt (NodeAt f W) W (some ⟨b, 0, none⟩) L := by
 have hlen : ∀ x ∈ css, x.length = 20 := fun x hx => by
  obtain ⟨i, hi⟩ := List.mem_iff_getElem?.1 hx
  have hi2 := (List.getElem?_eq_some_iff.1 hi).1
  exact (hn i x _ hi (List.getElem?_eq_getElem (by omega))).len
 refine .inr ⟨b, 0, rfl, heap_in h, fun i k hi => ?_⟩
 have hi2 := (List.getElem?_eq_some_iff.1 hi).1
 have hcs : css[i]? = some css[i] := List.getElem?_eq_getElem (by omega)
 refine ⟨css[i], fun j v hv => ?_, hn i _ k hcs hi⟩
 have hl20 := hlen css[i] (List.mem_of_getElem? hcs)
 have hj : j < 20 := by have := (List.getElem?_eq_some_iff.1 hv).1; omega
 have hfl := flat_at css i j css[i] hlen hcs hj
 rw [hv] at hfl
 unfold World.cell?
 rw [h, Nat.zero_add]
 have hin := (List.getElem?_eq_some_iff.1 hfl).1
 simp only [List.getElem?_toArray]
 rw [List.getElem?_append_left hin, hfl]; rfl
theorem node_row {f : Nat} {W : World} {b c : Nat} {T : TypeId} {fr : Nat × Nat} {n : NodeD} (css : List (List Value)) (h : W.heap[b]? = some (.cells css.flatten.toArray T fr)) (hl : css.length = n.kids.length) (hc : n.kids.length <= c) (hs : NodeSm n) (hn : ∀ (i : Nat) (cs : List Value) (k : NodeD), css[i]? = some cs -> n.kids[i]? = some k -> NodeAt f W cs k) : NodeAt (f + 1) W (nodeC n (.slice (some ⟨b, 0, none⟩) n.kids.length c)) n :=
 ⟨_, c, rfl, hc, hs, kids_row css [] (by rw [List.append_nil]; exact h) hl hn⟩
theorem sm_of {n : NodeD} (hm : -9000000000000000000 <= n.m /\ n.m <= 9000000000000000000) (ht : n.text.length <= 1000) (hk : n.kids.length <= 1000) (hr : n.rows <= 9223372036854775807) (h1 : n.ref = RefD.zero) (h2 : n.far = RefD.zero) : NodeSm n := ⟨hm, ht, hk, hr, by rw [h1, h2]; exact ⟨by decide, by decide⟩⟩
theorem node_two {f : Nat} {W : World} {b c : Nat} {T : TypeId} {fr : Nat × Nat} {n x y : NodeD} {cx cy : List Value} (hk : n.kids = [x, y]) (h : W.heap[b]? = some (.cells (cx ++ cy).toArray T fr)) (hc : 2 <= c) (hs : NodeSm n) (hx : NodeAt f W cx x) (hy : NodeAt f W cy y) : NodeAt (f + 1) W (nodeC n (.slice (some ⟨b, 0, none⟩) 2 c)) n := by
 have hl : n.kids.length = 2 := by rw [hk]; rfl
 have := node_row (f := f) (n := n) (c := c) [cx, cy] (by simpa using h) (by rw [hl]; rfl) (by omega) hs (fun i cs k h1 h2 => by
  rw [hk] at h2
  rcases i with _ | _ | i
  ·simp at h1 h2; subst h1 h2; exact hx
  ·simp at h1 h2; subst h1 h2; exact hy
  ·simp at h1)
 rw [hl] at this
 exact this
theorem node_single {f : Nat} {W : World} {b c : Nat} {T : TypeId} {fr : Nat × Nat} {n x : NodeD} {cx : List Value} (hk : n.kids = [x]) (h : W.heap[b]? = some (.cells cx.toArray T fr)) (hc : 1 <= c) (hs : NodeSm n) (hx : NodeAt f W cx x) : NodeAt (f + 1) W (nodeC n (.slice (some ⟨b, 0, none⟩) 1 c)) n := by
 have hl : n.kids.length = 1 := by rw [hk]; rfl
 have := node_row (f := f) (n := n) (c := c) [cx] (by simpa using h) (by rw [hl]; rfl) (by omega) hs (fun i cs k h1 h2 => by
  rw [hk] at h2
  rcases i with _ | i
  ·simp at h1 h2; subst h1 h2; exact hx
  ·simp at h1)
 rw [hl] at this
 exact this
theorem infoNode : (prog.info? 30).map (fun i => (i.zero, i.size, i.bytes)) = some (some (.agg zeroN), 20, 168) := by kernel_rfl
theorem nodeC_each (n : NodeD) (a : Option Addr) (m c : Nat) : ∀ u ∈ nodeC n (.slice a m c), u.oneCell' = true := fun u hu => by
 have := nodeC_one n a m c
 rw [Array.all_eq_true_iff_forall_mem] at this
 exact this u (by simpa using hu)
abbrev smz {n : NodeD} (h : -9000000000000000000 <= n.m /\ n.m <= 9000000000000000000 := by decide) (ht : n.text.length <= 1000 := by decide) (hk : n.kids.length <= 1000 := by decide) (hr : n.rows <= 9223372036854775807 := by decide) (h1 : n.ref = RefD.zero := by rfl) (h2 : n.far = RefD.zero := by rfl) : NodeSm n := sm_of h ht hk hr h1 h2
end Go.Proofs.YtlpgigdegnbkmaaGreatDoor
