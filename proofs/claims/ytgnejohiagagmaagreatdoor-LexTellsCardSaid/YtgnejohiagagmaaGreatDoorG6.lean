/- The walks of the reader's text, far, sheet, column. -/
import Derived.Test.YtgnejohiagagmaaGreatDoorG5
namespace Tab
open Go
abbrev PieceD := Option (Int × Bs × Nat)
def mkD (k : Int) (s : Bs) (n : Nat) : PieceD := if n = 0 then none else some (k, s, n)
def textPD (l : Bs) : PieceD := if textB (quotedD l).1 then mkD 2 (quotedD l).1 (quotedD l).2 else none
def farD (l : Bs) (n : Nat) : PieceD :=
  if Lib.hasPrefix (l.drop n) [33] = true ∧ n ≠ 0 then
    (if isRefD (l.take (n + 1) ++ whileD cellR (Lib.trimPrefix (l.drop n) [33])) then mkD 5 (l.take (n + 1) ++ whileD cellR (Lib.trimPrefix (l.drop n) [33])) (l.take (n + 1) ++ whileD cellR (Lib.trimPrefix (l.drop n) [33])).length else none)
  else none
def sheetPD (l : Bs) : PieceD := farD l (quotedD l).2
def columnD (l t : Bs) : PieceD :=
  if (Lib.cut (l.drop (t.length + 1)) [93]).2.2 = true ∧ 1 ≤ (Lib.cut (l.drop (t.length + 1)) [93]).1.length ∧ (Lib.cut (l.drop (t.length + 1)) [93]).1.length ≤ 30 ∧ Lib.contains (Lib.cut (l.drop (t.length + 1)) [93]).1 [91] = false ∧ textB (Lib.cut (l.drop (t.length + 1)) [93]).1 = true then
    mkD 9 (t ++ [91] ++ (Lib.cut (l.drop (t.length + 1)) [93]).1 ++ [93]) (t ++ [91] ++ (Lib.cut (l.drop (t.length + 1)) [93]).1 ++ [93]).length
  else none
theorem quo_range (q : UInt8) : ∀ (l n : Bs) (c : Nat), quoF q l = some (n, c) → c ≤ l.length ∧ n.length ≤ l.length
  | [], n, c, h => by cases h
  | [a], n, c, h => by
    unfold quoF at h
    split at h
    · injection h with h; injection h with h1 h2; subst h1 h2; simp
    · cases h
  | a :: b :: l, n, c, h => by
    unfold quoF at h
    split at h
    · split at h
      · cases hq : quoF q l with
        | none => rw [hq] at h; cases h
        | some p =>
          rw [hq] at h
          have := quo_range q l p.1 p.2 hq
          injection h with h; injection h with h1 h2; subst h1 h2
          simp; omega
      · injection h with h; injection h with h1 h2; subst h1 h2; simp
    · cases hq : quoF q (b :: l) with
      | none => rw [hq] at h; cases h
      | some p =>
        rw [hq] at h
        have := quo_range q (b :: l) p.1 p.2 hq
        injection h with h; injection h with h1 h2; subst h1 h2
        simp at this ⊢; omega
theorem quoted_range (l : Bs) : (quotedD l).2 ≤ l.length ∧ (quotedD l).1.length ≤ l.length := by
  unfold quotedD
  cases l with
  | nil => simp
  | cons q r =>
    dsimp only
    cases hq : quoF q r with
    | none => simp
    | some p =>
      have := quo_range q r p.1 p.2 hq
      simp; omega
end Tab
namespace Go.Proofs.YtgnejohiagagmaaGreatDoor
open Go.RowKit Tab

/-- what a method of the reader does that reads a piece. -/
def Piece (b a : Nat) (o : PieceD) (w : World) (e : Ending) (w' : World) : Prop := match o with
  | none => ∃ k S p, e = .returned (.tuple #[tokV k S p, .bool false]) ∧ Below w.heap.size w w'
  | some x => e = .returned (.tuple #[tokV x.1 ⟨x.2.1.toArray⟩ a, .bool true]) ∧ Below w.heap.size (w.setCell ⟨b, 1, none⟩ (.int .i64 ((a + x.2.2 : Nat) : Int))) w'
theorem Blk.mv {w w' : World} {b i r : Nat} {C : Array Value} {v : Value} (h : Blk w r C) (hr : b ≠ r) (hb : Below w.heap.size (w.setCell ⟨b, i, none⟩ v) w') : Blk w' r C := by
  have hl := h.facts.2.2
  obtain ⟨T, h2⟩ := h.other (i := i) (v := v) hr
  exact ⟨T, (hb.block r hl).trans h2⟩
theorem Below.mv {w W w' : World} {b i : Nat} {v : Value} (h : Below w.heap.size w W) (hw : b < w.heap.size) (hb : Below W.heap.size (W.setCell ⟨b, i, none⟩ v) w') : Below w.heap.size (w.setCell ⟨b, i, none⟩ v) w' :=
  (updB h hw).trans (hb.mono h.size)
theorem tok_piece (b : Nat) (s : ByteArray) (a : Nat) (k : Int) (S : ByteArray) (n : Nat) (ha : a + n ≤ 4611686018427387904) (w : World) (hb : Blk w b (rdC s a)) :
    Calls Tryz.prog 113 #[.pointer (some ⟨b, 0, none⟩), .int .i64 k, .string S, .int .i64 (n : Int)] w (Piece b a (mkD k S.data.toList n) w) := by
  refine (tok_any b s a k S n ha w hb).mono fun e w' ⟨he, hw⟩ => ?_
  unfold mkD
  by_cases hn : n = 0
  · subst hn
    rw [if_pos rfl]
    rw [setCell_same hb rfl] at hw
    exact ⟨k, S, a, he, hw⟩
  · rw [if_neg hn]
    refine ⟨?_, hw⟩
    rw [he, ba_eta, decide_eq_true (by omega)]
theorem piece_none (w : World) (b a : Nat) : Calls Tryz.prog 114 #[] w (Piece b a none w) := (none_any w).mono fun _ _ ⟨he, hw⟩ => ⟨0, ⟨#[]⟩, 0, he, hw⟩

set_option maxRecDepth 100000 in
set_option maxHeartbeats 2000000 in
theorem textP_any (b : Nat) (s : ByteArray) (a : Nat) (ha : a < s.size) (hs : s.size ≤ 1000) (w : World) (hg : Good w) (hb : Blk w b (rdC s a)) : Calls Tryz.prog 70 #[.pointer (some ⟨b, 0, none⟩)] w (Piece b a (textPD (s.data.toList.drop a)) w) := by
  have hq := quoted_range (s.data.toList.drop a)
  have hql : (s.data.toList.drop a).length ≤ 1000 := by rw [List.length_drop, ba_size]; omega
  obtain ⟨N, c, hN⟩ : ∃ N c, quotedD (s.data.toList.drop a) = (N, c) := ⟨_, _, rfl⟩
  have cQ := fun W hb' => quoted_any b s a ha (by omega) W hb'
  unfold textPD
  rw [hN] at hq cQ ⊢
  dsimp only at hq cQ ⊢
  clear hN
  have cP := fun W (hB : Below w.heap.size w W) => lexPlain_any ⟨N.toArray⟩ W (hg.below hB) (by show N.length ≤ _; omega)
  rw [mk_list] at cP
  unfold strV at cQ
  have cT := fun W hb' => tok_piece b s a 2 ⟨N.toArray⟩ c (by omega) W hb'
  rw [mk_list] at cT
  generalize textB N = B at *
  generalize mkD 2 N c = O at *
  cases B
  · rw [if_neg Bool.false_ne_true]
    obtain ⟨f0, g0, z0⟩ := hb.facts
    have yb : b ≠ w.heap.size := by omega
    clear f0 g0
    go_enter Tryz.func70, Tryz.ntmps70
    go_wp2_with fail
    refine calls_keep (fun W => Keep w [(w.heap.size, #[.int .i64 0, .string ⟨#[]⟩, .int .i64 0]), (b, rdC s a)] W) (Keep.add (by apply Blk.eq; (repeat' (first | with_reducible assumption | with_reducible apply Blk.set | with_reducible apply Blk.other | (with_reducible refine Blk.new ?_; simp; done) | with_reducible apply Blk.alloc | omega)); rfl) ((Keep.add hb (Keep.nil (Below.refl _ _))).below (by repeat' (first | with_reducible assumption | with_reducible exact Below.refl _ _ | with_reducible refine allocB ?_ | with_reducible refine setB ?_ ?_ | with_reducible refine drewB ?_ | with_reducible refine after ?_ (by assumption) | (simp; omega) | omega)))) ?_
    clear hb
    rintro wa K
    refine (cQ wa K.tl.hd).mono ?_; rintro e w1 ⟨rfl, hb9⟩
    replace K := K.below hb9
    clear hb9
    go_wp2_with fail
    refine (cP w1 K.bel).mono ?_; rintro e w2 ⟨rfl, hb9⟩
    replace K := K.below hb9
    clear hb9
    go_wp2_with fail
    refine (piece_none w2 b a).mono ?_
    rintro e w9 ⟨k9, S9, p9, rfl, hb9⟩
    replace K := K.below hb9
    have hb0 := K.bel
    obtain ⟨fr, gr, zr⟩ := K.hd.facts
    unfold tokV
    go_wp2
    exact bodyPost_ret (v := .tuple #[.agg #[.int .i64 k9, .string S9, .int .i64 p9], .bool false]) (by simp [results, Tryz.results70, go_sem, *]) rfl ⟨k9, S9, p9, rfl, (by repeat' (first | with_reducible assumption | with_reducible exact Below.refl _ _ | with_reducible refine allocB ?_ | with_reducible refine setB ?_ ?_ | with_reducible refine drewB ?_ | with_reducible refine after ?_ (by assumption) | (simp; omega) | omega))⟩
  · rw [if_pos rfl]
    obtain ⟨f0, g0, z0⟩ := hb.facts
    have yb : b ≠ w.heap.size := by omega
    clear f0 g0
    go_enter Tryz.func70, Tryz.ntmps70
    go_wp2_with fail
    refine calls_keep (fun W => Keep w [(w.heap.size, #[.int .i64 0, .string ⟨#[]⟩, .int .i64 0]), (b, rdC s a)] W) (Keep.add (by apply Blk.eq; (repeat' (first | with_reducible assumption | with_reducible apply Blk.set | with_reducible apply Blk.other | (with_reducible refine Blk.new ?_; simp; done) | with_reducible apply Blk.alloc | omega)); rfl) ((Keep.add hb (Keep.nil (Below.refl _ _))).below (by repeat' (first | with_reducible assumption | with_reducible exact Below.refl _ _ | with_reducible refine allocB ?_ | with_reducible refine setB ?_ ?_ | with_reducible refine drewB ?_ | with_reducible refine after ?_ (by assumption) | (simp; omega) | omega)))) ?_
    clear hb
    rintro wa K
    refine (cQ wa K.tl.hd).mono ?_; rintro e w1 ⟨rfl, hb9⟩
    replace K := K.below hb9
    clear hb9
    go_wp2_with fail
    refine (cP w1 K.bel).mono ?_; rintro e w2 ⟨rfl, hb9⟩
    replace K := K.below hb9
    clear hb9
    go_wp2_with fail
    refine (cT w2 K.tl.hd).mono ?_
    cases O with
    | none =>
      rintro e w9 ⟨k9, S9, p9, rfl, hb9⟩
      replace K := K.below hb9
      have hb0 := K.bel
      obtain ⟨fr, gr, zr⟩ := K.hd.facts
      unfold tokV
      go_wp2
      exact bodyPost_ret (v := .tuple #[.agg #[.int .i64 k9, .string S9, .int .i64 p9], .bool false]) (by simp [results, Tryz.results70, go_sem, *]) rfl ⟨k9, S9, p9, rfl, (by repeat' (first | with_reducible assumption | with_reducible exact Below.refl _ _ | with_reducible refine allocB ?_ | with_reducible refine setB ?_ ?_ | with_reducible refine drewB ?_ | with_reducible refine after ?_ (by assumption) | (simp; omega) | omega))⟩
    | some x9 =>
      obtain ⟨k9, S9, n9⟩ := x9
      rintro e w9 ⟨rfl, hb9⟩
      have hM := Below.mv K.bel z0 hb9
      have hr := Blk.mv K.hd yb hb9
      obtain ⟨fr, gr, zr⟩ := hr.facts
      clear hb9 K
      unfold tokV
      go_wp2
      exact bodyPost_ret (v := .tuple #[.agg #[.int .i64 k9, .string ⟨S9.toArray⟩, .int .i64 (a : Int)], .bool true]) (by simp [results, Tryz.results70, go_sem, *]) rfl ⟨rfl, (by repeat' (first | exact hM | refine Below.setCell ?_ ?_ _ | exact Nat.le_refl _))⟩

theorem unD_len' (l : Bs) : (Lib.trimPrefix l [33]).length ≤ l.length := by unfold Lib.trimPrefix; split <;> simp
set_option maxRecDepth 100000 in
set_option maxHeartbeats 4000000 in
theorem far_any (n : Nat) (b : Nat) (s : ByteArray) (a : Nat) (ha : a < s.size) (hs : s.size ≤ 1000) (w : World) (hg : Good w) (hb : Blk w b (rdC s a)) (hn : a + n ≤ s.size) : Calls Tryz.prog 119 #[.pointer (some ⟨b, 0, none⟩), .int .i64 (n : Int)] w (Piece b a (farD (s.data.toList.drop a) n) w) := by
  have cR := fun W hb' => rest_any b s a (by omega) W hb'
  obtain ⟨t, ht⟩ : ∃ t, s.extract a s.size = t := ⟨_, rfl⟩
  have et : t.data.toList = s.data.toList.drop a := by rw [← ht]; exact drop_ext s a
  have hts : t.size ≤ 1000 ∧ 0 < t.size ∧ a + t.size = s.size := by rw [← ht, ByteArray.size_extract]; omega
  rw [ht] at cR
  rw [← et]
  clear et ht
  unfold farD
  by_cases h0 : n = 0
  · subst h0
    rw [if_neg (fun h => h.2 rfl)]
    have cC := fun W => Tryz.strings_CutPrefix t ⟨#[33]⟩ W
    dsimp only at cC
    generalize Lib.trimPrefix t.data.toList [33] = T1 at *
    generalize Lib.hasPrefix t.data.toList [33] = is at *
    cases is
    all_goals (
      obtain ⟨f0, g0, z0⟩ := hb.facts
      have yb : b ≠ w.heap.size := by omega
      clear f0 g0
      go_enter Tryz.func119, Tryz.ntmps119
      go_wp2_with fail
      refine calls_keep (fun W => Keep w [(w.heap.size, #[.int .i64 0, .string ⟨#[]⟩, .int .i64 0]), (b, rdC s a)] W) (Keep.add (by apply Blk.eq; (repeat' (first | with_reducible assumption | with_reducible apply Blk.set | with_reducible apply Blk.other | (with_reducible refine Blk.new ?_; simp; done) | with_reducible apply Blk.alloc | omega)); rfl) ((Keep.add hb (Keep.nil (Below.refl _ _))).below (by repeat' (first | with_reducible assumption | with_reducible exact Below.refl _ _ | with_reducible refine allocB ?_ | with_reducible refine setB ?_ ?_ | with_reducible refine drewB ?_ | with_reducible refine after ?_ (by assumption) | (simp; omega) | omega)))) ?_
      clear hb
      rintro wa K
      refine (cR wa K.tl.hd).mono ?_; rintro e w1 ⟨rfl, hb9⟩
      replace K := K.below hb9
      clear hb9
      go_wp2_with fail
      refine (cC w1).mono ?_; rintro e w2 ⟨rfl, rfl⟩
      go_wp2_with fail
      refine (piece_none w2 b a).mono ?_
      rintro e w9 ⟨k9, S9, p9, rfl, hb9⟩
      replace K := K.below hb9
      have hb0 := K.bel
      obtain ⟨fr, gr, zr⟩ := K.hd.facts
      unfold tokV
      go_wp2
      exact bodyPost_ret (v := .tuple #[.agg #[.int .i64 k9, .string S9, .int .i64 p9], .bool false]) (by simp [results, Tryz.results119, go_sem, *]) rfl ⟨k9, S9, p9, rfl, (by repeat' (first | with_reducible assumption | with_reducible exact Below.refl _ _ | with_reducible refine allocB ?_ | with_reducible refine setB ?_ ?_ | with_reducible refine drewB ?_ | with_reducible refine after ?_ (by assumption) | (simp; omega) | omega))⟩)
  · have e0 : ((n : Int) == 0) = false := beq_eq_false_iff_ne.2 (by omega)
    have hx : (t.extract n t.size).data.toList = t.data.toList.drop n := drop_ext t n
    have cC := fun W => Tryz.strings_CutPrefix (t.extract n t.size) ⟨#[33]⟩ W
    rw [hx] at cC
    have hpl : Lib.hasPrefix (t.data.toList.drop n) [33] = true → n < t.size := fun h => by
      rcases Nat.lt_or_ge n t.size with h1 | h1
      · exact h1
      · rw [List.drop_eq_nil_of_le (by rw [ba_size]; omega)] at h; cases h
    have hT1 : (Lib.trimPrefix (t.data.toList.drop n) [33]).length ≤ 1000 := by
      have := unD_len' (t.data.toList.drop n)
      rw [List.length_drop, ba_size] at this; omega
    clear hx
    dsimp only at cC
    generalize Lib.trimPrefix (t.data.toList.drop n) [33] = T1 at *
    generalize Lib.hasPrefix (t.data.toList.drop n) [33] = is at *
    cases is
    · rw [if_neg (fun h => Bool.false_ne_true h.1)]
      obtain ⟨f0, g0, z0⟩ := hb.facts
      have yb : b ≠ w.heap.size := by omega
      clear f0 g0
      go_enter Tryz.func119, Tryz.ntmps119
      go_wp2_with fail
      refine calls_keep (fun W => Keep w [(w.heap.size, #[.int .i64 0, .string ⟨#[]⟩, .int .i64 0]), (b, rdC s a)] W) (Keep.add (by apply Blk.eq; (repeat' (first | with_reducible assumption | with_reducible apply Blk.set | with_reducible apply Blk.other | (with_reducible refine Blk.new ?_; simp; done) | with_reducible apply Blk.alloc | omega)); rfl) ((Keep.add hb (Keep.nil (Below.refl _ _))).below (by repeat' (first | with_reducible assumption | with_reducible exact Below.refl _ _ | with_reducible refine allocB ?_ | with_reducible refine setB ?_ ?_ | with_reducible refine drewB ?_ | with_reducible refine after ?_ (by assumption) | (simp; omega) | omega)))) ?_
      clear hb
      rintro wa K
      refine (cR wa K.tl.hd).mono ?_; rintro e w1 ⟨rfl, hb9⟩
      replace K := K.below hb9
      clear hb9
      go_wp2_with fail
      refine (cC w1).mono ?_; rintro e w2 ⟨rfl, rfl⟩
      go_wp2_with fail
      refine (piece_none w2 b a).mono ?_
      rintro e w9 ⟨k9, S9, p9, rfl, hb9⟩
      replace K := K.below hb9
      have hb0 := K.bel
      obtain ⟨fr, gr, zr⟩ := K.hd.facts
      unfold tokV
      go_wp2
      exact bodyPost_ret (v := .tuple #[.agg #[.int .i64 k9, .string S9, .int .i64 p9], .bool false]) (by simp [results, Tryz.results119, go_sem, *]) rfl ⟨k9, S9, p9, rfl, (by repeat' (first | with_reducible assumption | with_reducible exact Below.refl _ _ | with_reducible refine allocB ?_ | with_reducible refine setB ?_ ?_ | with_reducible refine drewB ?_ | with_reducible refine after ?_ (by assumption) | (simp; omega) | omega))⟩
    · rw [if_pos ⟨rfl, h0⟩]
      have e0 : ((n : Int) == 0) = false := beq_eq_false_iff_ne.2 (by omega)
      have hnt := hpl rfl
      clear hpl
      have cW := while_cell ⟨T1.toArray⟩
      rw [mk_list] at cW
      unfold strV at cW
      have hwl : (whileD cellR T1).length ≤ 1000 := Nat.le_trans (tw_len _ _) hT1
      generalize whileD cellR T1 = T2 at *
      obtain ⟨U, hU⟩ : ∃ U, t.extract 0 (n + 1) ++ ⟨T2.toArray⟩ = U := ⟨_, rfl⟩
      have hUl : U.data.toList = t.data.toList.take (n + 1) ++ T2 := by rw [← hU, ba_append, ba_extract]; rfl
      have hUs : U.size = n + 1 + T2.length := by rw [← ba_size, hUl, List.length_append, List.length_take, ba_size]; omega
      rw [← hUl]
      have ew : IntKind.i64.wrap ((n : Int) + 1) = (n : Int) + 1 := IntWalk.i64_in _ (by omega)
      have en : ((n : Int) + 1).toNat = n + 1 := by omega
      have en1 : (0 : Int) ≤ (n : Int) + 1 := by omega
      have en2 : (n : Int) + 1 ≤ (t.size : Int) := by omega
      have en3 : min (n + 1) t.size = n + 1 := by omega
      have hnt1 : n + 1 ≤ t.size := by omega
      have a1 : ¬ 9223372036854775807 < n + 1 + T2.length := by omega
      have cI := fun W (hB : Below w.heap.size w W) => isRef_any U W (hg.below hB) (by omega)
      have cT := fun W hb' => tok_piece b s a 5 U U.size (by omega) W hb'
      rw [show U.data.toList.length = U.size from rfl]
      generalize isRefD U.data.toList = B at *
      generalize mkD 5 U.data.toList U.size = O at *
      clear hUl hUs hwl hT1
      cases B
      · rw [if_neg Bool.false_ne_true]
        obtain ⟨f0, g0, z0⟩ := hb.facts
        have yb : b ≠ w.heap.size := by omega
        clear f0 g0
        go_enter Tryz.func119, Tryz.ntmps119
        go_wp2_with fail
        refine calls_keep (fun W => Keep w [(w.heap.size, #[.int .i64 0, .string ⟨#[]⟩, .int .i64 0]), (b, rdC s a)] W) (Keep.add (by apply Blk.eq; (repeat' (first | with_reducible assumption | with_reducible apply Blk.set | with_reducible apply Blk.other | (with_reducible refine Blk.new ?_; simp; done) | with_reducible apply Blk.alloc | omega)); rfl) ((Keep.add hb (Keep.nil (Below.refl _ _))).below (by repeat' (first | with_reducible assumption | with_reducible exact Below.refl _ _ | with_reducible refine allocB ?_ | with_reducible refine setB ?_ ?_ | with_reducible refine drewB ?_ | with_reducible refine after ?_ (by assumption) | (simp; omega) | omega)))) ?_
        clear hb
        rintro wa K
        refine (cR wa K.tl.hd).mono ?_; rintro e w1 ⟨rfl, hb9⟩
        replace K := K.below hb9
        clear hb9
        go_wp2_with fail
        refine (cC w1).mono ?_; rintro e w2 ⟨rfl, rfl⟩
        go_upto_region 5 with fail
        have kc := gcell w2
        refine region_below (by kernel_rfl) (by kernel_rfl) ?_
        iterate 5 (quiet_step (fail))
        quiet_step (exact Ret.grown (fun W _ => cW W))
        repeat (quiet_step (fail))
        refine wpQuiet_nil ?_
        intro w3 hb9
        replace K := K.below hb9
        clear hb9 kc
        go_wp2_with fail
        refine (cI w3 K.bel).mono ?_; rintro e w4 ⟨rfl, hb9⟩
        replace K := K.below hb9
        clear hb9
        go_wp2_with fail
        refine (piece_none w4 b a).mono ?_
        rintro e w9 ⟨k9, S9, p9, rfl, hb9⟩
        replace K := K.below hb9
        have hb0 := K.bel
        obtain ⟨fr, gr, zr⟩ := K.hd.facts
        unfold tokV
        go_wp2
        exact bodyPost_ret (v := .tuple #[.agg #[.int .i64 k9, .string S9, .int .i64 p9], .bool false]) (by simp [results, Tryz.results119, go_sem, *]) rfl ⟨k9, S9, p9, rfl, (by repeat' (first | with_reducible assumption | with_reducible exact Below.refl _ _ | with_reducible refine allocB ?_ | with_reducible refine setB ?_ ?_ | with_reducible refine drewB ?_ | with_reducible refine after ?_ (by assumption) | (simp; omega) | omega))⟩
      · rw [if_pos rfl]
        obtain ⟨f0, g0, z0⟩ := hb.facts
        have yb : b ≠ w.heap.size := by omega
        clear f0 g0
        go_enter Tryz.func119, Tryz.ntmps119
        go_wp2_with fail
        refine calls_keep (fun W => Keep w [(w.heap.size, #[.int .i64 0, .string ⟨#[]⟩, .int .i64 0]), (b, rdC s a)] W) (Keep.add (by apply Blk.eq; (repeat' (first | with_reducible assumption | with_reducible apply Blk.set | with_reducible apply Blk.other | (with_reducible refine Blk.new ?_; simp; done) | with_reducible apply Blk.alloc | omega)); rfl) ((Keep.add hb (Keep.nil (Below.refl _ _))).below (by repeat' (first | with_reducible assumption | with_reducible exact Below.refl _ _ | with_reducible refine allocB ?_ | with_reducible refine setB ?_ ?_ | with_reducible refine drewB ?_ | with_reducible refine after ?_ (by assumption) | (simp; omega) | omega)))) ?_
        clear hb
        rintro wa K
        refine (cR wa K.tl.hd).mono ?_; rintro e w1 ⟨rfl, hb9⟩
        replace K := K.below hb9
        clear hb9
        go_wp2_with fail
        refine (cC w1).mono ?_; rintro e w2 ⟨rfl, rfl⟩
        go_upto_region 5 with fail
        have kc := gcell w2
        refine region_below (by kernel_rfl) (by kernel_rfl) ?_
        iterate 5 (quiet_step (fail))
        quiet_step (exact Ret.grown (fun W _ => cW W))
        repeat (quiet_step (fail))
        refine wpQuiet_nil ?_
        intro w3 hb9
        replace K := K.below hb9
        clear hb9 kc
        go_wp2_with fail
        refine (cI w3 K.bel).mono ?_; rintro e w4 ⟨rfl, hb9⟩
        replace K := K.below hb9
        clear hb9
        go_wp2_with fail
        refine (cT w4 K.tl.hd).mono ?_
        cases O with
        | none =>
          rintro e w9 ⟨k9, S9, p9, rfl, hb9⟩
          replace K := K.below hb9
          have hb0 := K.bel
          obtain ⟨fr, gr, zr⟩ := K.hd.facts
          unfold tokV
          go_wp2
          exact bodyPost_ret (v := .tuple #[.agg #[.int .i64 k9, .string S9, .int .i64 p9], .bool false]) (by simp [results, Tryz.results119, go_sem, *]) rfl ⟨k9, S9, p9, rfl, (by repeat' (first | with_reducible assumption | with_reducible exact Below.refl _ _ | with_reducible refine allocB ?_ | with_reducible refine setB ?_ ?_ | with_reducible refine drewB ?_ | with_reducible refine after ?_ (by assumption) | (simp; omega) | omega))⟩
        | some x9 =>
          obtain ⟨k9, S9, n9⟩ := x9
          rintro e w9 ⟨rfl, hb9⟩
          have hM := Below.mv K.bel z0 hb9
          have hr := Blk.mv K.hd yb hb9
          obtain ⟨fr, gr, zr⟩ := hr.facts
          clear hb9 K
          unfold tokV
          go_wp2
          exact bodyPost_ret (v := .tuple #[.agg #[.int .i64 k9, .string ⟨S9.toArray⟩, .int .i64 (a : Int)], .bool true]) (by simp [results, Tryz.results119, go_sem, *]) rfl ⟨rfl, (by repeat' (first | exact hM | refine Below.setCell ?_ ?_ _ | exact Nat.le_refl _))⟩


set_option maxRecDepth 100000 in
set_option maxHeartbeats 4000000 in
theorem sheetP_any (b : Nat) (s : ByteArray) (a : Nat) (ha : a < s.size) (hs : s.size ≤ 1000) (w : World) (hg : Good w) (hb : Blk w b (rdC s a)) : Calls Tryz.prog 72 #[.pointer (some ⟨b, 0, none⟩)] w (Piece b a (sheetPD (s.data.toList.drop a)) w) := by
  have hq := quoted_range (s.data.toList.drop a)
  have hql : (s.data.toList.drop a).length = s.size - a := by rw [List.length_drop, ba_size]
  obtain ⟨N, c, hN⟩ : ∃ N c, quotedD (s.data.toList.drop a) = (N, c) := ⟨_, _, rfl⟩
  have cQ := fun W hb' => quoted_any b s a ha (by omega) W hb'
  unfold sheetPD
  rw [hN] at hq cQ ⊢
  dsimp only at hq cQ ⊢
  clear hN
  unfold strV at cQ
  have cF := fun W (hB : Below w.heap.size w W) hb' => far_any c b s a ha hs W (hg.below hB) hb' (by omega)
  generalize farD (s.data.toList.drop a) c = O at *
  obtain ⟨f0, g0, z0⟩ := hb.facts
  have yb : b ≠ w.heap.size := by omega
  clear f0 g0
  go_enter Tryz.func72, Tryz.ntmps72
  go_wp2_with fail
  refine calls_keep (fun W => Keep w [(w.heap.size, #[.int .i64 0, .string ⟨#[]⟩, .int .i64 0]), (b, rdC s a)] W) (Keep.add (by apply Blk.eq; (repeat' (first | with_reducible assumption | with_reducible apply Blk.set | with_reducible apply Blk.other | (with_reducible refine Blk.new ?_; simp; done) | with_reducible apply Blk.alloc | omega)); rfl) ((Keep.add hb (Keep.nil (Below.refl _ _))).below (by repeat' (first | with_reducible assumption | with_reducible exact Below.refl _ _ | with_reducible refine allocB ?_ | with_reducible refine setB ?_ ?_ | with_reducible refine drewB ?_ | with_reducible refine after ?_ (by assumption) | (simp; omega) | omega)))) ?_
  clear hb
  rintro wa K
  refine (cQ wa K.tl.hd).mono ?_; rintro e w1 ⟨rfl, hb9⟩
  replace K := K.below hb9
  clear hb9
  go_wp2_with fail
  refine (cF w1 K.bel K.tl.hd).mono ?_
  cases O with
  | none =>
    rintro e w9 ⟨k9, S9, p9, rfl, hb9⟩
    replace K := K.below hb9
    have hb0 := K.bel
    obtain ⟨fr, gr, zr⟩ := K.hd.facts
    unfold tokV
    go_wp2
    exact bodyPost_ret (v := .tuple #[.agg #[.int .i64 k9, .string S9, .int .i64 p9], .bool false]) (by simp [results, Tryz.results72, go_sem, *]) rfl ⟨k9, S9, p9, rfl, (by repeat' (first | with_reducible assumption | with_reducible exact Below.refl _ _ | with_reducible refine allocB ?_ | with_reducible refine setB ?_ ?_ | with_reducible refine drewB ?_ | with_reducible refine after ?_ (by assumption) | (simp; omega) | omega))⟩
  | some x9 =>
    obtain ⟨k9, S9, n9⟩ := x9
    rintro e w9 ⟨rfl, hb9⟩
    have hM := Below.mv K.bel z0 hb9
    have hr := Blk.mv K.hd yb hb9
    obtain ⟨fr, gr, zr⟩ := hr.facts
    clear hb9 K
    unfold tokV
    go_wp2
    exact bodyPost_ret (v := .tuple #[.agg #[.int .i64 k9, .string ⟨S9.toArray⟩, .int .i64 (a : Int)], .bool true]) (by simp [results, Tryz.results72, go_sem, *]) rfl ⟨rfl, (by repeat' (first | exact hM | refine Below.setCell ?_ ?_ _ | exact Nat.le_refl _))⟩

theorem cut_len (l p : Bs) : (Lib.cut l p).1.length ≤ l.length := by
  unfold Lib.cut
  split
  · simp only [List.length_take]; omega
  · exact Nat.le_refl _
set_option maxRecDepth 100000 in
set_option maxHeartbeats 4000000 in
theorem column_any (tb : ByteArray) (b : Nat) (s : ByteArray) (a : Nat) (ha : a < s.size) (hs : s.size ≤ 1000) (w : World) (hg : Good w) (hb : Blk w b (rdC s a)) (hn : a + (tb.size + 1) ≤ s.size) : Calls Tryz.prog 120 #[.pointer (some ⟨b, 0, none⟩), .string tb] w (Piece b a (columnD (s.data.toList.drop a) tb.data.toList) w) := by
  have cR := fun W hb' => rest_any b s a (by omega) W hb'
  obtain ⟨t, ht⟩ : ∃ t, s.extract a s.size = t := ⟨_, rfl⟩
  have et : t.data.toList = s.data.toList.drop a := by rw [← ht]; exact drop_ext s a
  have hts : t.size ≤ 1000 ∧ 0 < t.size ∧ a + t.size = s.size := by rw [← ht, ByteArray.size_extract]; omega
  rw [ht] at cR
  rw [← et]
  clear et ht
  have hx : (t.extract (tb.size + 1) t.size).data.toList = t.data.toList.drop (tb.size + 1) := drop_ext t (tb.size + 1)
  have cC : ∀ W, Below w.heap.size w W → Calls Tryz.prog 42 #[.string (t.extract (tb.size + 1) t.size), .string ⟨#[93]⟩] W (Ret (.tuple #[.string ⟨(Lib.cut (t.data.toList.drop (tb.size + 1)) [93]).1.toArray⟩, .string ⟨(Lib.cut (t.data.toList.drop (tb.size + 1)) [93]).2.1.toArray⟩, .bool (Lib.cut (t.data.toList.drop (tb.size + 1)) [93]).2.2]) W) := fun W hB => by
    have := Tryz.strings_Cut_shaped (t.extract (tb.size + 1) t.size) ⟨#[93]⟩ W (hg.below hB).shaped (by rw [ByteArray.size_extract]; omega)
    rw [hx] at this
    refine this.mono fun e w' ⟨he, n, hn⟩ => ⟨he, ?_⟩
    obtain ⟨w3, e3, hb3⟩ := drewN_abs W n
    rw [hn, e3]; exact hb3
  unfold columnD
  rw [ba_size]
  have hcl := cut_len (t.data.toList.drop (tb.size + 1)) [93]
  rw [List.length_drop, ba_size] at hcl
  clear hx
  obtain ⟨N, R, is, hN⟩ : ∃ N R is, Lib.cut (t.data.toList.drop (tb.size + 1)) [93] = (N, R, is) := ⟨_, _, _, rfl⟩
  rw [hN] at cC hcl ⊢
  dsimp only at cC hcl ⊢
  clear hN
  have ew : IntKind.i64.wrap ((tb.size : Int) + 1) = (tb.size : Int) + 1 := IntWalk.i64_in _ (by omega)
  have en : ((tb.size : Int) + 1).toNat = tb.size + 1 := by omega
  have en1 : (0 : Int) ≤ (tb.size : Int) + 1 := by omega
  have en2 : (tb.size : Int) + 1 ≤ (t.size : Int) := by omega
  have cB : ∀ W, Below w.heap.size w W → Calls Tryz.prog 62 #[.string ⟨N.toArray⟩, .string ⟨#[91]⟩] W (Still (.bool (Lib.contains N [91])) W) := fun W hb => (Tryz.strings_Contains_shaped ⟨N.toArray⟩ ⟨#[91]⟩ W (hg.below hb).shaped (by show N.length < _; omega)).mono fun e w' h => ⟨h.1, h.2.symm⟩
  have cP := fun W (hB : Below w.heap.size w W) => lexPlain_any ⟨N.toArray⟩ W (hg.below hB) (by show N.length ≤ _; omega)
  rw [mk_list] at cP
  obtain ⟨U, hU⟩ : ∃ U, tb ++ ⟨#[91]⟩ ++ ⟨N.toArray⟩ ++ ⟨#[93]⟩ = U := ⟨_, rfl⟩
  have hUl : U.data.toList = tb.data.toList ++ [91] ++ N ++ [93] := by rw [← hU, ba_append, ba_append, ba_append]
  have hUs : U.size = tb.size + 1 + N.length + 1 := by rw [← ba_size, hUl]; simp; omega
  have a1 : ¬ 9223372036854775807 < tb.size + 1 := by omega
  have a2 : ¬ 9223372036854775807 < tb.size + 1 + N.length := by omega
  have a3 : ¬ 9223372036854775807 < tb.size + 1 + N.length + 1 := by omega
  rw [← hUl]
  have cT := fun W hb' => tok_piece b s a 9 U U.size (by omega) W hb'
  rw [show U.data.toList.length = U.size from rfl]
  generalize mkD 9 U.data.toList U.size = O at *
  generalize Lib.contains N [91] = C at *
  generalize textB N = B at *
  clear hUl hUs
  cases is
  · rw [if_neg (fun h => Bool.false_ne_true h.1)]
    obtain ⟨f0, g0, z0⟩ := hb.facts
    have yb : b ≠ w.heap.size := by omega
    clear f0 g0
    go_enter Tryz.func120, Tryz.ntmps120
    go_wp2_with fail
    refine calls_keep (fun W => Keep w [(w.heap.size, #[.int .i64 0, .string ⟨#[]⟩, .int .i64 0]), (b, rdC s a)] W) (Keep.add (by apply Blk.eq; (repeat' (first | with_reducible assumption | with_reducible apply Blk.set | with_reducible apply Blk.other | (with_reducible refine Blk.new ?_; simp; done) | with_reducible apply Blk.alloc | omega)); rfl) ((Keep.add hb (Keep.nil (Below.refl _ _))).below (by repeat' (first | with_reducible assumption | with_reducible exact Below.refl _ _ | with_reducible refine allocB ?_ | with_reducible refine setB ?_ ?_ | with_reducible refine drewB ?_ | with_reducible refine after ?_ (by assumption) | (simp; omega) | omega)))) ?_
    clear hb
    rintro wa K
    refine (cR wa K.tl.hd).mono ?_; rintro e w1 ⟨rfl, hb9⟩
    replace K := K.below hb9
    clear hb9
    go_wp2_with fail
    refine (cC w1 K.bel).mono ?_; rintro e w2 ⟨rfl, hb9⟩
    replace K := K.below hb9
    clear hb9
    go_wp2_with fail
    refine (piece_none w2 b a).mono ?_
    rintro e w9 ⟨k9, S9, p9, rfl, hb9⟩
    replace K := K.below hb9
    have hb0 := K.bel
    obtain ⟨fr, gr, zr⟩ := K.hd.facts
    unfold tokV
    go_wp2
    exact bodyPost_ret (v := .tuple #[.agg #[.int .i64 k9, .string S9, .int .i64 p9], .bool false]) (by simp [results, Tryz.results120, go_sem, *]) rfl ⟨k9, S9, p9, rfl, (by repeat' (first | with_reducible assumption | with_reducible exact Below.refl _ _ | with_reducible refine allocB ?_ | with_reducible refine setB ?_ ?_ | with_reducible refine drewB ?_ | with_reducible refine after ?_ (by assumption) | (simp; omega) | omega))⟩
  · by_cases h1 : 1 ≤ N.length
    · have e1 : decide ((N.length : Int) < 1) = false := decide_eq_false (by omega)
      by_cases h2 : N.length ≤ 30
      · have e2 : decide (30 < (N.length : Int)) = false := decide_eq_false (by omega)
        cases C
        · cases B
          · rw [if_neg (fun h => Bool.false_ne_true h.2.2.2.2)]
            obtain ⟨f0, g0, z0⟩ := hb.facts
            have yb : b ≠ w.heap.size := by omega
            clear f0 g0
            go_enter Tryz.func120, Tryz.ntmps120
            go_wp2_with fail
            refine calls_keep (fun W => Keep w [(w.heap.size, #[.int .i64 0, .string ⟨#[]⟩, .int .i64 0]), (b, rdC s a)] W) (Keep.add (by apply Blk.eq; (repeat' (first | with_reducible assumption | with_reducible apply Blk.set | with_reducible apply Blk.other | (with_reducible refine Blk.new ?_; simp; done) | with_reducible apply Blk.alloc | omega)); rfl) ((Keep.add hb (Keep.nil (Below.refl _ _))).below (by repeat' (first | with_reducible assumption | with_reducible exact Below.refl _ _ | with_reducible refine allocB ?_ | with_reducible refine setB ?_ ?_ | with_reducible refine drewB ?_ | with_reducible refine after ?_ (by assumption) | (simp; omega) | omega)))) ?_
            clear hb
            rintro wa K
            refine (cR wa K.tl.hd).mono ?_; rintro e w1 ⟨rfl, hb9⟩
            replace K := K.below hb9
            clear hb9
            go_wp2_with fail
            refine (cC w1 K.bel).mono ?_; rintro e w2 ⟨rfl, hb9⟩
            replace K := K.below hb9
            clear hb9
            go_wp2_with fail
            refine (cB w2 K.bel).mono ?_; rintro e w3 ⟨rfl, rfl⟩
            go_wp2_with fail
            refine (cP w2 K.bel).mono ?_; rintro e w4 ⟨rfl, hb9⟩
            replace K := K.below hb9
            clear hb9
            go_wp2_with fail
            refine (piece_none w4 b a).mono ?_
            rintro e w9 ⟨k9, S9, p9, rfl, hb9⟩
            replace K := K.below hb9
            have hb0 := K.bel
            obtain ⟨fr, gr, zr⟩ := K.hd.facts
            unfold tokV
            go_wp2
            exact bodyPost_ret (v := .tuple #[.agg #[.int .i64 k9, .string S9, .int .i64 p9], .bool false]) (by simp [results, Tryz.results120, go_sem, *]) rfl ⟨k9, S9, p9, rfl, (by repeat' (first | with_reducible assumption | with_reducible exact Below.refl _ _ | with_reducible refine allocB ?_ | with_reducible refine setB ?_ ?_ | with_reducible refine drewB ?_ | with_reducible refine after ?_ (by assumption) | (simp; omega) | omega))⟩
          · rw [if_pos ⟨rfl, h1, h2, rfl, rfl⟩]
            obtain ⟨f0, g0, z0⟩ := hb.facts
            have yb : b ≠ w.heap.size := by omega
            clear f0 g0
            go_enter Tryz.func120, Tryz.ntmps120
            go_wp2_with fail
            refine calls_keep (fun W => Keep w [(w.heap.size, #[.int .i64 0, .string ⟨#[]⟩, .int .i64 0]), (b, rdC s a)] W) (Keep.add (by apply Blk.eq; (repeat' (first | with_reducible assumption | with_reducible apply Blk.set | with_reducible apply Blk.other | (with_reducible refine Blk.new ?_; simp; done) | with_reducible apply Blk.alloc | omega)); rfl) ((Keep.add hb (Keep.nil (Below.refl _ _))).below (by repeat' (first | with_reducible assumption | with_reducible exact Below.refl _ _ | with_reducible refine allocB ?_ | with_reducible refine setB ?_ ?_ | with_reducible refine drewB ?_ | with_reducible refine after ?_ (by assumption) | (simp; omega) | omega)))) ?_
            clear hb
            rintro wa K
            refine (cR wa K.tl.hd).mono ?_; rintro e w1 ⟨rfl, hb9⟩
            replace K := K.below hb9
            clear hb9
            go_wp2_with fail
            refine (cC w1 K.bel).mono ?_; rintro e w2 ⟨rfl, hb9⟩
            replace K := K.below hb9
            clear hb9
            go_wp2_with fail
            refine (cB w2 K.bel).mono ?_; rintro e w3 ⟨rfl, rfl⟩
            go_wp2_with fail
            refine (cP w2 K.bel).mono ?_; rintro e w4 ⟨rfl, hb9⟩
            replace K := K.below hb9
            clear hb9
            go_wp2_with fail
            refine (cT w4 K.tl.hd).mono ?_
            cases O with
            | none =>
              rintro e w9 ⟨k9, S9, p9, rfl, hb9⟩
              replace K := K.below hb9
              have hb0 := K.bel
              obtain ⟨fr, gr, zr⟩ := K.hd.facts
              unfold tokV
              go_wp2
              exact bodyPost_ret (v := .tuple #[.agg #[.int .i64 k9, .string S9, .int .i64 p9], .bool false]) (by simp [results, Tryz.results120, go_sem, *]) rfl ⟨k9, S9, p9, rfl, (by repeat' (first | with_reducible assumption | with_reducible exact Below.refl _ _ | with_reducible refine allocB ?_ | with_reducible refine setB ?_ ?_ | with_reducible refine drewB ?_ | with_reducible refine after ?_ (by assumption) | (simp; omega) | omega))⟩
            | some x9 =>
              obtain ⟨k9, S9, n9⟩ := x9
              rintro e w9 ⟨rfl, hb9⟩
              have hM := Below.mv K.bel z0 hb9
              have hr := Blk.mv K.hd yb hb9
              obtain ⟨fr, gr, zr⟩ := hr.facts
              clear hb9 K
              unfold tokV
              go_wp2
              exact bodyPost_ret (v := .tuple #[.agg #[.int .i64 k9, .string ⟨S9.toArray⟩, .int .i64 (a : Int)], .bool true]) (by simp [results, Tryz.results120, go_sem, *]) rfl ⟨rfl, (by repeat' (first | exact hM | refine Below.setCell ?_ ?_ _ | exact Nat.le_refl _))⟩
        · rw [if_neg (fun h => Bool.false_ne_true h.2.2.2.1.symm)]
          obtain ⟨f0, g0, z0⟩ := hb.facts
          have yb : b ≠ w.heap.size := by omega
          clear f0 g0
          go_enter Tryz.func120, Tryz.ntmps120
          go_wp2_with fail
          refine calls_keep (fun W => Keep w [(w.heap.size, #[.int .i64 0, .string ⟨#[]⟩, .int .i64 0]), (b, rdC s a)] W) (Keep.add (by apply Blk.eq; (repeat' (first | with_reducible assumption | with_reducible apply Blk.set | with_reducible apply Blk.other | (with_reducible refine Blk.new ?_; simp; done) | with_reducible apply Blk.alloc | omega)); rfl) ((Keep.add hb (Keep.nil (Below.refl _ _))).below (by repeat' (first | with_reducible assumption | with_reducible exact Below.refl _ _ | with_reducible refine allocB ?_ | with_reducible refine setB ?_ ?_ | with_reducible refine drewB ?_ | with_reducible refine after ?_ (by assumption) | (simp; omega) | omega)))) ?_
          clear hb
          rintro wa K
          refine (cR wa K.tl.hd).mono ?_; rintro e w1 ⟨rfl, hb9⟩
          replace K := K.below hb9
          clear hb9
          go_wp2_with fail
          refine (cC w1 K.bel).mono ?_; rintro e w2 ⟨rfl, hb9⟩
          replace K := K.below hb9
          clear hb9
          go_wp2_with fail
          refine (cB w2 K.bel).mono ?_; rintro e w3 ⟨rfl, rfl⟩
          go_wp2_with fail
          refine (piece_none w2 b a).mono ?_
          rintro e w9 ⟨k9, S9, p9, rfl, hb9⟩
          replace K := K.below hb9
          have hb0 := K.bel
          obtain ⟨fr, gr, zr⟩ := K.hd.facts
          unfold tokV
          go_wp2
          exact bodyPost_ret (v := .tuple #[.agg #[.int .i64 k9, .string S9, .int .i64 p9], .bool false]) (by simp [results, Tryz.results120, go_sem, *]) rfl ⟨k9, S9, p9, rfl, (by repeat' (first | with_reducible assumption | with_reducible exact Below.refl _ _ | with_reducible refine allocB ?_ | with_reducible refine setB ?_ ?_ | with_reducible refine drewB ?_ | with_reducible refine after ?_ (by assumption) | (simp; omega) | omega))⟩
      · rw [if_neg (fun h => h2 h.2.2.1)]
        have e2 : decide (30 < (N.length : Int)) = true := decide_eq_true (by omega)
        obtain ⟨f0, g0, z0⟩ := hb.facts
        have yb : b ≠ w.heap.size := by omega
        clear f0 g0
        go_enter Tryz.func120, Tryz.ntmps120
        go_wp2_with fail
        refine calls_keep (fun W => Keep w [(w.heap.size, #[.int .i64 0, .string ⟨#[]⟩, .int .i64 0]), (b, rdC s a)] W) (Keep.add (by apply Blk.eq; (repeat' (first | with_reducible assumption | with_reducible apply Blk.set | with_reducible apply Blk.other | (with_reducible refine Blk.new ?_; simp; done) | with_reducible apply Blk.alloc | omega)); rfl) ((Keep.add hb (Keep.nil (Below.refl _ _))).below (by repeat' (first | with_reducible assumption | with_reducible exact Below.refl _ _ | with_reducible refine allocB ?_ | with_reducible refine setB ?_ ?_ | with_reducible refine drewB ?_ | with_reducible refine after ?_ (by assumption) | (simp; omega) | omega)))) ?_
        clear hb
        rintro wa K
        refine (cR wa K.tl.hd).mono ?_; rintro e w1 ⟨rfl, hb9⟩
        replace K := K.below hb9
        clear hb9
        go_wp2_with fail
        refine (cC w1 K.bel).mono ?_; rintro e w2 ⟨rfl, hb9⟩
        replace K := K.below hb9
        clear hb9
        go_wp2_with fail
        refine (piece_none w2 b a).mono ?_
        rintro e w9 ⟨k9, S9, p9, rfl, hb9⟩
        replace K := K.below hb9
        have hb0 := K.bel
        obtain ⟨fr, gr, zr⟩ := K.hd.facts
        unfold tokV
        go_wp2
        exact bodyPost_ret (v := .tuple #[.agg #[.int .i64 k9, .string S9, .int .i64 p9], .bool false]) (by simp [results, Tryz.results120, go_sem, *]) rfl ⟨k9, S9, p9, rfl, (by repeat' (first | with_reducible assumption | with_reducible exact Below.refl _ _ | with_reducible refine allocB ?_ | with_reducible refine setB ?_ ?_ | with_reducible refine drewB ?_ | with_reducible refine after ?_ (by assumption) | (simp; omega) | omega))⟩
    · rw [if_neg (fun h => h1 h.2.1)]
      have e1 : decide ((N.length : Int) < 1) = true := decide_eq_true (by omega)
      obtain ⟨f0, g0, z0⟩ := hb.facts
      have yb : b ≠ w.heap.size := by omega
      clear f0 g0
      go_enter Tryz.func120, Tryz.ntmps120
      go_wp2_with fail
      refine calls_keep (fun W => Keep w [(w.heap.size, #[.int .i64 0, .string ⟨#[]⟩, .int .i64 0]), (b, rdC s a)] W) (Keep.add (by apply Blk.eq; (repeat' (first | with_reducible assumption | with_reducible apply Blk.set | with_reducible apply Blk.other | (with_reducible refine Blk.new ?_; simp; done) | with_reducible apply Blk.alloc | omega)); rfl) ((Keep.add hb (Keep.nil (Below.refl _ _))).below (by repeat' (first | with_reducible assumption | with_reducible exact Below.refl _ _ | with_reducible refine allocB ?_ | with_reducible refine setB ?_ ?_ | with_reducible refine drewB ?_ | with_reducible refine after ?_ (by assumption) | (simp; omega) | omega)))) ?_
      clear hb
      rintro wa K
      refine (cR wa K.tl.hd).mono ?_; rintro e w1 ⟨rfl, hb9⟩
      replace K := K.below hb9
      clear hb9
      go_wp2_with fail
      refine (cC w1 K.bel).mono ?_; rintro e w2 ⟨rfl, hb9⟩
      replace K := K.below hb9
      clear hb9
      go_wp2_with fail
      refine (piece_none w2 b a).mono ?_
      rintro e w9 ⟨k9, S9, p9, rfl, hb9⟩
      replace K := K.below hb9
      have hb0 := K.bel
      obtain ⟨fr, gr, zr⟩ := K.hd.facts
      unfold tokV
      go_wp2
      exact bodyPost_ret (v := .tuple #[.agg #[.int .i64 k9, .string S9, .int .i64 p9], .bool false]) (by simp [results, Tryz.results120, go_sem, *]) rfl ⟨k9, S9, p9, rfl, (by repeat' (first | with_reducible assumption | with_reducible exact Below.refl _ _ | with_reducible refine allocB ?_ | with_reducible refine setB ?_ ?_ | with_reducible refine drewB ?_ | with_reducible refine after ?_ (by assumption) | (simp; omega) | omega))⟩

end Go.Proofs.YtgnejohiagagmaaGreatDoor
