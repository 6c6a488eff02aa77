/- The walks of the reader's word, number. The walk of the reader's number. -/
import Derived.Test.YtgnejohiagagmaaGreatDoorG6
namespace Tab
open Go
def wordPD (l : Bs) : PieceD :=
  let W := whileD wordR l
  let next := l.drop W.length
  if Lib.hasPrefix next [33] = true then farD l W.length
  else if (Lib.hasPrefix next [40] && callD W) = true then mkD 7 W W.length
  else if (Lib.hasPrefix next [91] && isNameD W) = true then columnD l W
  else if isRefD W = true then mkD 5 W W.length
  else if truthD W = true then mkD 3 (upperD W) W.length
  else if isNameD W = true then mkD 6 W W.length
  else none
def numD (l : Bs) : Bs :=
  let s := whileD digR l
  if Lib.hasPrefix (l.drop s.length) [46] = true then
    (if whileD digR (Lib.trimPrefix (l.drop s.length) [46]) = [] then s else s ++ (46 :: whileD digR (Lib.trimPrefix (l.drop s.length) [46])))
  else s
def numberPD (decE : Bs → Int) (l : Bs) : PieceD := if decE (numD l) = 0 then mkD 1 (numD l) (numD l).length else none
end Tab
namespace Go.Proofs.YtgnejohiagagmaaGreatDoor
open Go.RowKit Tab

/-- dec.Read tells whether a text is a number by a function of the text. -/
def DecIs (decE : Bs → Int) : Prop := ∀ (s : ByteArray) (W : World), Good W → s.size ≤ 2000 →
  Calls Tryz.prog 19 #[.string s] W (fun e w' => ∃ M E : Int, e = .returned (.tuple #[.agg #[.int .i64 M, .int .i64 E], .int .i64 (decE s.data.toList)]) ∧ Below W.heap.size W w')

set_option maxRecDepth 100000 in
set_option maxHeartbeats 8000000 in
theorem wordP_any (b : Nat) (s : ByteArray) (a : Nat) (ha : a < s.size) (hs : s.size ≤ 1000) (w : World) (hg : Good w) (hb : Blk w b (rdC s a)) : Calls Tryz.prog 73 #[.pointer (some ⟨b, 0, none⟩)] w (Piece b a (wordPD (s.data.toList.drop a)) w) := by
  have cR := fun W hb' => rest_any b s a (by omega) W hb'
  obtain ⟨t, ht⟩ : ∃ t, s.extract a s.size = t := ⟨_, rfl⟩
  have et : t.data.toList = s.data.toList.drop a := by rw [← ht]; exact drop_ext s a
  have hts : t.size ≤ 1000 ∧ 0 < t.size ∧ a + t.size = s.size := by rw [← ht, ByteArray.size_extract]; omega
  rw [ht] at cR
  unfold wordPD
  have cF0 := fun n => far_any n b s a ha hs
  have cL0 := fun tb => column_any tb b s a ha hs
  rw [← et] at cF0 cL0 ⊢
  clear et ht
  have cW := fun W => while_wordy t W
  unfold strV at cW
  have hwl : (whileD wordR t.data.toList).length ≤ t.size := by rw [← ba_size]; exact tw_len _ _
  dsimp only
  generalize whileD wordR t.data.toList = W0 at *
  obtain ⟨X, hX, hXs⟩ : ∃ X : ByteArray, X.data.toList = W0 ∧ X.size = W0.length := ⟨⟨W0.toArray⟩, rfl, rfl⟩
  have hX2 : (⟨W0.toArray⟩ : ByteArray) = X := by rw [← hX]
  rw [hX2] at cW
  rw [← hXs] at hwl ⊢
  have hx : (t.extract X.size t.size).data.toList = t.data.toList.drop X.size := drop_ext t X.size
  have cH := fun p W => Tryz.strings_HasPrefix (t.extract X.size t.size) p W
  rw [hx] at cH
  clear hx
  have cC := fun W (hB : Below w.heap.size w W) => callable_any X W (hg.below hB) (by omega)
  have cI := fun W (hB : Below w.heap.size w W) => isRef_any X W (hg.below hB) (by omega)
  have cT := fun W (hB : Below w.heap.size w W) => isTruth_any X W (hg.below hB) (by omega)
  have cN := fun W (hB : Below w.heap.size w W) => isName_any X W (hg.below hB) (by omega)
  have cU := fun W (hB : Below w.heap.size w W) => upper_any X W (hg.below hB) (by omega)
  have t7 := fun W hb' => tok_piece b s a 7 X X.size (by omega) W hb'
  have t5 := fun W hb' => tok_piece b s a 5 X X.size (by omega) W hb'
  have t6 := fun W hb' => tok_piece b s a 6 X X.size (by omega) W hb'
  have t3 := fun W hb' => tok_piece b s a 3 ⟨(upperD W0).toArray⟩ X.size (by omega) W hb'
  rw [mk_list] at t3
  have hp3 : Lib.hasPrefix (t.data.toList.drop X.size) [91] = true → X.size < t.size := fun h => by
    rcases Nat.lt_or_ge X.size t.size with h1 | h1
    · exact h1
    · rw [List.drop_eq_nil_of_le (by rw [ba_size]; omega)] at h; cases h
  have cF := fun W (hB : Below w.heap.size w W) hb' => cF0 X.size W (hg.below hB) hb' (by omega)
  have cL := fun (h : X.size < t.size) W (hB : Below w.heap.size w W) hb' => cL0 X W (hg.below hB) hb' (by omega)
  have h33 := cH ⟨#[33]⟩
  have h40 := cH ⟨#[40]⟩
  have h91 := cH ⟨#[91]⟩
  dsimp only at h33 h40 h91
  rw [hX] at cC cI cT cN cU t7 t5 t6 cL
  unfold strV at cU
  clear cF0 cL0 cH hX2 hX hXs
  generalize Lib.hasPrefix (t.data.toList.drop X.size) [33] = p1 at *
  generalize Lib.hasPrefix (t.data.toList.drop X.size) [40] = p2 at *
  generalize Lib.hasPrefix (t.data.toList.drop X.size) [91] = p3 at *
  generalize callD W0 = k1 at *
  generalize isNameD W0 = k2 at *
  generalize isRefD W0 = k3 at *
  generalize truthD W0 = k4 at *
  generalize farD t.data.toList X.size = o1 at *
  generalize columnD t.data.toList W0 = o2 at *
  generalize mkD 7 W0 X.size = o7 at *
  generalize mkD 5 W0 X.size = o5 at *
  generalize mkD 6 W0 X.size = o6 at *
  generalize mkD 3 (upperD W0) X.size = o3 at *
  generalize (⟨(upperD W0).toArray⟩ : ByteArray) = Y at *
  cases p1
  · cases p2
    · cases p3
      · cases k3
        · cases k4
          · cases k2
            · simp only [Bool.false_and, Bool.false_eq_true, if_false]
              obtain ⟨f0, g0, z0⟩ := hb.facts
              have yb : b ≠ w.heap.size := by omega
              clear f0 g0
              go_enter Tryz.func73, Tryz.ntmps73
              go_wp2_with fail
              refine calls_keep (fun W => Keep w [(w.heap.size, #[.int .i64 0, .string ⟨#[]⟩, .int .i64 0]), (b, rdC s a)] W) (Keep.add (by apply Blk.eq; (repeat' (first | with_reducible assumption | with_reducible apply Blk.set | with_reducible apply Blk.other | (with_reducible refine Blk.new ?_; simp; done) | with_reducible apply Blk.alloc | omega)); rfl) ((Keep.add hb (Keep.nil (Below.refl _ _))).below (by repeat' (first | with_reducible assumption | with_reducible exact Below.refl _ _ | with_reducible refine allocB ?_ | with_reducible refine setB ?_ ?_ | with_reducible refine drewB ?_ | with_reducible refine after ?_ (by assumption) | (simp; omega) | omega)))) ?_
              clear hb
              rintro wa K
              refine (cR wa K.tl.hd).mono ?_; rintro e w1 ⟨rfl, hb9⟩
              replace K := K.below hb9
              clear hb9
              go_wp2_with fail
              refine (cW w1).mono ?_; rintro e w2 ⟨rfl, hb9⟩
              replace K := K.below hb9
              clear hb9
              go_wp2_with fail
              refine (cR w2 K.tl.hd).mono ?_; rintro e w3 ⟨rfl, hb9⟩
              replace K := K.below hb9
              clear hb9
              go_wp2_with fail
              refine (h33 w3).mono ?_; rintro e w4 ⟨rfl, rfl⟩
              go_wp2_with fail
              refine (h40 w4).mono ?_; rintro e w5 ⟨rfl, rfl⟩
              go_wp2_with fail
              refine (h91 w5).mono ?_; rintro e w6 ⟨rfl, rfl⟩
              go_wp2_with fail
              refine (cI w6 K.bel).mono ?_; rintro e w7 ⟨rfl, hb9⟩
              replace K := K.below hb9
              clear hb9
              go_wp2_with fail
              refine (cT w7 K.bel).mono ?_; rintro e w8 ⟨rfl, hb9⟩
              replace K := K.below hb9
              clear hb9
              go_wp2_with fail
              refine (cN w8 K.bel).mono ?_; rintro e w9 ⟨rfl, hb9⟩
              replace K := K.below hb9
              clear hb9
              go_wp2_with fail
              refine (piece_none w9 b a).mono ?_
              rintro e w9 ⟨k9, S9, p9, rfl, hb9⟩
              replace K := K.below hb9
              have hb0 := K.bel
              obtain ⟨fr, gr, zr⟩ := K.hd.facts
              unfold tokV
              go_wp2
              exact bodyPost_ret (v := .tuple #[.agg #[.int .i64 k9, .string S9, .int .i64 p9], .bool false]) (by simp [results, Tryz.results73, go_sem, *]) rfl ⟨k9, S9, p9, rfl, (by repeat' (first | with_reducible assumption | with_reducible exact Below.refl _ _ | with_reducible refine allocB ?_ | with_reducible refine setB ?_ ?_ | with_reducible refine drewB ?_ | with_reducible refine after ?_ (by assumption) | (simp; omega) | omega))⟩
            · simp only [Bool.false_and, Bool.false_eq_true, if_true, if_false]
              obtain ⟨f0, g0, z0⟩ := hb.facts
              have yb : b ≠ w.heap.size := by omega
              clear f0 g0
              go_enter Tryz.func73, Tryz.ntmps73
              go_wp2_with fail
              refine calls_keep (fun W => Keep w [(w.heap.size, #[.int .i64 0, .string ⟨#[]⟩, .int .i64 0]), (b, rdC s a)] W) (Keep.add (by apply Blk.eq; (repeat' (first | with_reducible assumption | with_reducible apply Blk.set | with_reducible apply Blk.other | (with_reducible refine Blk.new ?_; simp; done) | with_reducible apply Blk.alloc | omega)); rfl) ((Keep.add hb (Keep.nil (Below.refl _ _))).below (by repeat' (first | with_reducible assumption | with_reducible exact Below.refl _ _ | with_reducible refine allocB ?_ | with_reducible refine setB ?_ ?_ | with_reducible refine drewB ?_ | with_reducible refine after ?_ (by assumption) | (simp; omega) | omega)))) ?_
              clear hb
              rintro wa K
              refine (cR wa K.tl.hd).mono ?_; rintro e w1 ⟨rfl, hb9⟩
              replace K := K.below hb9
              clear hb9
              go_wp2_with fail
              refine (cW w1).mono ?_; rintro e w2 ⟨rfl, hb9⟩
              replace K := K.below hb9
              clear hb9
              go_wp2_with fail
              refine (cR w2 K.tl.hd).mono ?_; rintro e w3 ⟨rfl, hb9⟩
              replace K := K.below hb9
              clear hb9
              go_wp2_with fail
              refine (h33 w3).mono ?_; rintro e w4 ⟨rfl, rfl⟩
              go_wp2_with fail
              refine (h40 w4).mono ?_; rintro e w5 ⟨rfl, rfl⟩
              go_wp2_with fail
              refine (h91 w5).mono ?_; rintro e w6 ⟨rfl, rfl⟩
              go_wp2_with fail
              refine (cI w6 K.bel).mono ?_; rintro e w7 ⟨rfl, hb9⟩
              replace K := K.below hb9
              clear hb9
              go_wp2_with fail
              refine (cT w7 K.bel).mono ?_; rintro e w8 ⟨rfl, hb9⟩
              replace K := K.below hb9
              clear hb9
              go_wp2_with fail
              refine (cN w8 K.bel).mono ?_; rintro e w9 ⟨rfl, hb9⟩
              replace K := K.below hb9
              clear hb9
              go_wp2_with fail
              refine (t6 w9 K.tl.hd).mono ?_
              cases o6 with
              | none =>
                rintro e w9 ⟨k9, S9, p9, rfl, hb9⟩
                replace K := K.below hb9
                have hb0 := K.bel
                obtain ⟨fr, gr, zr⟩ := K.hd.facts
                unfold tokV
                go_wp2
                exact bodyPost_ret (v := .tuple #[.agg #[.int .i64 k9, .string S9, .int .i64 p9], .bool false]) (by simp [results, Tryz.results73, go_sem, *]) rfl ⟨k9, S9, p9, rfl, (by repeat' (first | with_reducible assumption | with_reducible exact Below.refl _ _ | with_reducible refine allocB ?_ | with_reducible refine setB ?_ ?_ | with_reducible refine drewB ?_ | with_reducible refine after ?_ (by assumption) | (simp; omega) | omega))⟩
              | some x9 =>
                obtain ⟨k9, S9, n9⟩ := x9
                rintro e w9 ⟨rfl, hb9⟩
                have hM := Below.mv K.bel z0 hb9
                have hr := Blk.mv K.hd yb hb9
                obtain ⟨fr, gr, zr⟩ := hr.facts
                clear hb9 K
                unfold tokV
                go_wp2
                exact bodyPost_ret (v := .tuple #[.agg #[.int .i64 k9, .string ⟨S9.toArray⟩, .int .i64 (a : Int)], .bool true]) (by simp [results, Tryz.results73, go_sem, *]) rfl ⟨rfl, (by repeat' (first | exact hM | refine Below.setCell ?_ ?_ _ | exact Nat.le_refl _))⟩
          · simp only [Bool.false_and, Bool.false_eq_true, if_true, if_false]
            obtain ⟨f0, g0, z0⟩ := hb.facts
            have yb : b ≠ w.heap.size := by omega
            clear f0 g0
            go_enter Tryz.func73, Tryz.ntmps73
            go_wp2_with fail
            refine calls_keep (fun W => Keep w [(w.heap.size, #[.int .i64 0, .string ⟨#[]⟩, .int .i64 0]), (b, rdC s a)] W) (Keep.add (by apply Blk.eq; (repeat' (first | with_reducible assumption | with_reducible apply Blk.set | with_reducible apply Blk.other | (with_reducible refine Blk.new ?_; simp; done) | with_reducible apply Blk.alloc | omega)); rfl) ((Keep.add hb (Keep.nil (Below.refl _ _))).below (by repeat' (first | with_reducible assumption | with_reducible exact Below.refl _ _ | with_reducible refine allocB ?_ | with_reducible refine setB ?_ ?_ | with_reducible refine drewB ?_ | with_reducible refine after ?_ (by assumption) | (simp; omega) | omega)))) ?_
            clear hb
            rintro wa K
            refine (cR wa K.tl.hd).mono ?_; rintro e w1 ⟨rfl, hb9⟩
            replace K := K.below hb9
            clear hb9
            go_wp2_with fail
            refine (cW w1).mono ?_; rintro e w2 ⟨rfl, hb9⟩
            replace K := K.below hb9
            clear hb9
            go_wp2_with fail
            refine (cR w2 K.tl.hd).mono ?_; rintro e w3 ⟨rfl, hb9⟩
            replace K := K.below hb9
            clear hb9
            go_wp2_with fail
            refine (h33 w3).mono ?_; rintro e w4 ⟨rfl, rfl⟩
            go_wp2_with fail
            refine (h40 w4).mono ?_; rintro e w5 ⟨rfl, rfl⟩
            go_wp2_with fail
            refine (h91 w5).mono ?_; rintro e w6 ⟨rfl, rfl⟩
            go_wp2_with fail
            refine (cI w6 K.bel).mono ?_; rintro e w7 ⟨rfl, hb9⟩
            replace K := K.below hb9
            clear hb9
            go_wp2_with fail
            refine (cT w7 K.bel).mono ?_; rintro e w8 ⟨rfl, hb9⟩
            replace K := K.below hb9
            clear hb9
            go_wp2_with fail
            refine (cU w8 K.bel).mono ?_; rintro e w9 ⟨rfl, hb9⟩
            replace K := K.below hb9
            clear hb9
            go_wp2_with fail
            refine (t3 w9 K.tl.hd).mono ?_
            cases o3 with
            | none =>
              rintro e w9 ⟨k9, S9, p9, rfl, hb9⟩
              replace K := K.below hb9
              have hb0 := K.bel
              obtain ⟨fr, gr, zr⟩ := K.hd.facts
              unfold tokV
              go_wp2
              exact bodyPost_ret (v := .tuple #[.agg #[.int .i64 k9, .string S9, .int .i64 p9], .bool false]) (by simp [results, Tryz.results73, go_sem, *]) rfl ⟨k9, S9, p9, rfl, (by repeat' (first | with_reducible assumption | with_reducible exact Below.refl _ _ | with_reducible refine allocB ?_ | with_reducible refine setB ?_ ?_ | with_reducible refine drewB ?_ | with_reducible refine after ?_ (by assumption) | (simp; omega) | omega))⟩
            | some x9 =>
              obtain ⟨k9, S9, n9⟩ := x9
              rintro e w9 ⟨rfl, hb9⟩
              have hM := Below.mv K.bel z0 hb9
              have hr := Blk.mv K.hd yb hb9
              obtain ⟨fr, gr, zr⟩ := hr.facts
              clear hb9 K
              unfold tokV
              go_wp2
              exact bodyPost_ret (v := .tuple #[.agg #[.int .i64 k9, .string ⟨S9.toArray⟩, .int .i64 (a : Int)], .bool true]) (by simp [results, Tryz.results73, go_sem, *]) rfl ⟨rfl, (by repeat' (first | exact hM | refine Below.setCell ?_ ?_ _ | exact Nat.le_refl _))⟩
        · simp only [Bool.false_and, Bool.false_eq_true, if_true, if_false]
          obtain ⟨f0, g0, z0⟩ := hb.facts
          have yb : b ≠ w.heap.size := by omega
          clear f0 g0
          go_enter Tryz.func73, Tryz.ntmps73
          go_wp2_with fail
          refine calls_keep (fun W => Keep w [(w.heap.size, #[.int .i64 0, .string ⟨#[]⟩, .int .i64 0]), (b, rdC s a)] W) (Keep.add (by apply Blk.eq; (repeat' (first | with_reducible assumption | with_reducible apply Blk.set | with_reducible apply Blk.other | (with_reducible refine Blk.new ?_; simp; done) | with_reducible apply Blk.alloc | omega)); rfl) ((Keep.add hb (Keep.nil (Below.refl _ _))).below (by repeat' (first | with_reducible assumption | with_reducible exact Below.refl _ _ | with_reducible refine allocB ?_ | with_reducible refine setB ?_ ?_ | with_reducible refine drewB ?_ | with_reducible refine after ?_ (by assumption) | (simp; omega) | omega)))) ?_
          clear hb
          rintro wa K
          refine (cR wa K.tl.hd).mono ?_; rintro e w1 ⟨rfl, hb9⟩
          replace K := K.below hb9
          clear hb9
          go_wp2_with fail
          refine (cW w1).mono ?_; rintro e w2 ⟨rfl, hb9⟩
          replace K := K.below hb9
          clear hb9
          go_wp2_with fail
          refine (cR w2 K.tl.hd).mono ?_; rintro e w3 ⟨rfl, hb9⟩
          replace K := K.below hb9
          clear hb9
          go_wp2_with fail
          refine (h33 w3).mono ?_; rintro e w4 ⟨rfl, rfl⟩
          go_wp2_with fail
          refine (h40 w4).mono ?_; rintro e w5 ⟨rfl, rfl⟩
          go_wp2_with fail
          refine (h91 w5).mono ?_; rintro e w6 ⟨rfl, rfl⟩
          go_wp2_with fail
          refine (cI w6 K.bel).mono ?_; rintro e w7 ⟨rfl, hb9⟩
          replace K := K.below hb9
          clear hb9
          go_wp2_with fail
          refine (t5 w7 K.tl.hd).mono ?_
          cases o5 with
          | none =>
            rintro e w9 ⟨k9, S9, p9, rfl, hb9⟩
            replace K := K.below hb9
            have hb0 := K.bel
            obtain ⟨fr, gr, zr⟩ := K.hd.facts
            unfold tokV
            go_wp2
            exact bodyPost_ret (v := .tuple #[.agg #[.int .i64 k9, .string S9, .int .i64 p9], .bool false]) (by simp [results, Tryz.results73, go_sem, *]) rfl ⟨k9, S9, p9, rfl, (by repeat' (first | with_reducible assumption | with_reducible exact Below.refl _ _ | with_reducible refine allocB ?_ | with_reducible refine setB ?_ ?_ | with_reducible refine drewB ?_ | with_reducible refine after ?_ (by assumption) | (simp; omega) | omega))⟩
          | some x9 =>
            obtain ⟨k9, S9, n9⟩ := x9
            rintro e w9 ⟨rfl, hb9⟩
            have hM := Below.mv K.bel z0 hb9
            have hr := Blk.mv K.hd yb hb9
            obtain ⟨fr, gr, zr⟩ := hr.facts
            clear hb9 K
            unfold tokV
            go_wp2
            exact bodyPost_ret (v := .tuple #[.agg #[.int .i64 k9, .string ⟨S9.toArray⟩, .int .i64 (a : Int)], .bool true]) (by simp [results, Tryz.results73, go_sem, *]) rfl ⟨rfl, (by repeat' (first | exact hM | refine Below.setCell ?_ ?_ _ | exact Nat.le_refl _))⟩
      · cases k2
        · cases k3
          · cases k4
            · simp only [Bool.true_and, Bool.false_and, Bool.false_eq_true, if_false]
              obtain ⟨f0, g0, z0⟩ := hb.facts
              have yb : b ≠ w.heap.size := by omega
              clear f0 g0
              go_enter Tryz.func73, Tryz.ntmps73
              go_wp2_with fail
              refine calls_keep (fun W => Keep w [(w.heap.size, #[.int .i64 0, .string ⟨#[]⟩, .int .i64 0]), (b, rdC s a)] W) (Keep.add (by apply Blk.eq; (repeat' (first | with_reducible assumption | with_reducible apply Blk.set | with_reducible apply Blk.other | (with_reducible refine Blk.new ?_; simp; done) | with_reducible apply Blk.alloc | omega)); rfl) ((Keep.add hb (Keep.nil (Below.refl _ _))).below (by repeat' (first | with_reducible assumption | with_reducible exact Below.refl _ _ | with_reducible refine allocB ?_ | with_reducible refine setB ?_ ?_ | with_reducible refine drewB ?_ | with_reducible refine after ?_ (by assumption) | (simp; omega) | omega)))) ?_
              clear hb
              rintro wa K
              refine (cR wa K.tl.hd).mono ?_; rintro e w1 ⟨rfl, hb9⟩
              replace K := K.below hb9
              clear hb9
              go_wp2_with fail
              refine (cW w1).mono ?_; rintro e w2 ⟨rfl, hb9⟩
              replace K := K.below hb9
              clear hb9
              go_wp2_with fail
              refine (cR w2 K.tl.hd).mono ?_; rintro e w3 ⟨rfl, hb9⟩
              replace K := K.below hb9
              clear hb9
              go_wp2_with fail
              refine (h33 w3).mono ?_; rintro e w4 ⟨rfl, rfl⟩
              go_wp2_with fail
              refine (h40 w4).mono ?_; rintro e w5 ⟨rfl, rfl⟩
              go_wp2_with fail
              refine (h91 w5).mono ?_; rintro e w6 ⟨rfl, rfl⟩
              go_wp2_with fail
              refine (cN w6 K.bel).mono ?_; rintro e w7 ⟨rfl, hb9⟩
              replace K := K.below hb9
              clear hb9
              go_wp2_with fail
              refine (cI w7 K.bel).mono ?_; rintro e w8 ⟨rfl, hb9⟩
              replace K := K.below hb9
              clear hb9
              go_wp2_with fail
              refine (cT w8 K.bel).mono ?_; rintro e w9 ⟨rfl, hb9⟩
              replace K := K.below hb9
              clear hb9
              go_wp2_with fail
              refine (cN w9 K.bel).mono ?_; rintro e w10 ⟨rfl, hb9⟩
              replace K := K.below hb9
              clear hb9
              go_wp2_with fail
              refine (piece_none w10 b a).mono ?_
              rintro e w9 ⟨k9, S9, p9, rfl, hb9⟩
              replace K := K.below hb9
              have hb0 := K.bel
              obtain ⟨fr, gr, zr⟩ := K.hd.facts
              unfold tokV
              go_wp2
              exact bodyPost_ret (v := .tuple #[.agg #[.int .i64 k9, .string S9, .int .i64 p9], .bool false]) (by simp [results, Tryz.results73, go_sem, *]) rfl ⟨k9, S9, p9, rfl, (by repeat' (first | with_reducible assumption | with_reducible exact Below.refl _ _ | with_reducible refine allocB ?_ | with_reducible refine setB ?_ ?_ | with_reducible refine drewB ?_ | with_reducible refine after ?_ (by assumption) | (simp; omega) | omega))⟩
            · simp only [Bool.true_and, Bool.false_and, Bool.false_eq_true, if_true, if_false]
              obtain ⟨f0, g0, z0⟩ := hb.facts
              have yb : b ≠ w.heap.size := by omega
              clear f0 g0
              go_enter Tryz.func73, Tryz.ntmps73
              go_wp2_with fail
              refine calls_keep (fun W => Keep w [(w.heap.size, #[.int .i64 0, .string ⟨#[]⟩, .int .i64 0]), (b, rdC s a)] W) (Keep.add (by apply Blk.eq; (repeat' (first | with_reducible assumption | with_reducible apply Blk.set | with_reducible apply Blk.other | (with_reducible refine Blk.new ?_; simp; done) | with_reducible apply Blk.alloc | omega)); rfl) ((Keep.add hb (Keep.nil (Below.refl _ _))).below (by repeat' (first | with_reducible assumption | with_reducible exact Below.refl _ _ | with_reducible refine allocB ?_ | with_reducible refine setB ?_ ?_ | with_reducible refine drewB ?_ | with_reducible refine after ?_ (by assumption) | (simp; omega) | omega)))) ?_
              clear hb
              rintro wa K
              refine (cR wa K.tl.hd).mono ?_; rintro e w1 ⟨rfl, hb9⟩
              replace K := K.below hb9
              clear hb9
              go_wp2_with fail
              refine (cW w1).mono ?_; rintro e w2 ⟨rfl, hb9⟩
              replace K := K.below hb9
              clear hb9
              go_wp2_with fail
              refine (cR w2 K.tl.hd).mono ?_; rintro e w3 ⟨rfl, hb9⟩
              replace K := K.below hb9
              clear hb9
              go_wp2_with fail
              refine (h33 w3).mono ?_; rintro e w4 ⟨rfl, rfl⟩
              go_wp2_with fail
              refine (h40 w4).mono ?_; rintro e w5 ⟨rfl, rfl⟩
              go_wp2_with fail
              refine (h91 w5).mono ?_; rintro e w6 ⟨rfl, rfl⟩
              go_wp2_with fail
              refine (cN w6 K.bel).mono ?_; rintro e w7 ⟨rfl, hb9⟩
              replace K := K.below hb9
              clear hb9
              go_wp2_with fail
              refine (cI w7 K.bel).mono ?_; rintro e w8 ⟨rfl, hb9⟩
              replace K := K.below hb9
              clear hb9
              go_wp2_with fail
              refine (cT w8 K.bel).mono ?_; rintro e w9 ⟨rfl, hb9⟩
              replace K := K.below hb9
              clear hb9
              go_wp2_with fail
              refine (cU w9 K.bel).mono ?_; rintro e w10 ⟨rfl, hb9⟩
              replace K := K.below hb9
              clear hb9
              go_wp2_with fail
              refine (t3 w10 K.tl.hd).mono ?_
              cases o3 with
              | none =>
                rintro e w9 ⟨k9, S9, p9, rfl, hb9⟩
                replace K := K.below hb9
                have hb0 := K.bel
                obtain ⟨fr, gr, zr⟩ := K.hd.facts
                unfold tokV
                go_wp2
                exact bodyPost_ret (v := .tuple #[.agg #[.int .i64 k9, .string S9, .int .i64 p9], .bool false]) (by simp [results, Tryz.results73, go_sem, *]) rfl ⟨k9, S9, p9, rfl, (by repeat' (first | with_reducible assumption | with_reducible exact Below.refl _ _ | with_reducible refine allocB ?_ | with_reducible refine setB ?_ ?_ | with_reducible refine drewB ?_ | with_reducible refine after ?_ (by assumption) | (simp; omega) | omega))⟩
              | some x9 =>
                obtain ⟨k9, S9, n9⟩ := x9
                rintro e w9 ⟨rfl, hb9⟩
                have hM := Below.mv K.bel z0 hb9
                have hr := Blk.mv K.hd yb hb9
                obtain ⟨fr, gr, zr⟩ := hr.facts
                clear hb9 K
                unfold tokV
                go_wp2
                exact bodyPost_ret (v := .tuple #[.agg #[.int .i64 k9, .string ⟨S9.toArray⟩, .int .i64 (a : Int)], .bool true]) (by simp [results, Tryz.results73, go_sem, *]) rfl ⟨rfl, (by repeat' (first | exact hM | refine Below.setCell ?_ ?_ _ | exact Nat.le_refl _))⟩
          · simp only [Bool.true_and, Bool.false_and, Bool.false_eq_true, if_true, if_false]
            obtain ⟨f0, g0, z0⟩ := hb.facts
            have yb : b ≠ w.heap.size := by omega
            clear f0 g0
            go_enter Tryz.func73, Tryz.ntmps73
            go_wp2_with fail
            refine calls_keep (fun W => Keep w [(w.heap.size, #[.int .i64 0, .string ⟨#[]⟩, .int .i64 0]), (b, rdC s a)] W) (Keep.add (by apply Blk.eq; (repeat' (first | with_reducible assumption | with_reducible apply Blk.set | with_reducible apply Blk.other | (with_reducible refine Blk.new ?_; simp; done) | with_reducible apply Blk.alloc | omega)); rfl) ((Keep.add hb (Keep.nil (Below.refl _ _))).below (by repeat' (first | with_reducible assumption | with_reducible exact Below.refl _ _ | with_reducible refine allocB ?_ | with_reducible refine setB ?_ ?_ | with_reducible refine drewB ?_ | with_reducible refine after ?_ (by assumption) | (simp; omega) | omega)))) ?_
            clear hb
            rintro wa K
            refine (cR wa K.tl.hd).mono ?_; rintro e w1 ⟨rfl, hb9⟩
            replace K := K.below hb9
            clear hb9
            go_wp2_with fail
            refine (cW w1).mono ?_; rintro e w2 ⟨rfl, hb9⟩
            replace K := K.below hb9
            clear hb9
            go_wp2_with fail
            refine (cR w2 K.tl.hd).mono ?_; rintro e w3 ⟨rfl, hb9⟩
            replace K := K.below hb9
            clear hb9
            go_wp2_with fail
            refine (h33 w3).mono ?_; rintro e w4 ⟨rfl, rfl⟩
            go_wp2_with fail
            refine (h40 w4).mono ?_; rintro e w5 ⟨rfl, rfl⟩
            go_wp2_with fail
            refine (h91 w5).mono ?_; rintro e w6 ⟨rfl, rfl⟩
            go_wp2_with fail
            refine (cN w6 K.bel).mono ?_; rintro e w7 ⟨rfl, hb9⟩
            replace K := K.below hb9
            clear hb9
            go_wp2_with fail
            refine (cI w7 K.bel).mono ?_; rintro e w8 ⟨rfl, hb9⟩
            replace K := K.below hb9
            clear hb9
            go_wp2_with fail
            refine (t5 w8 K.tl.hd).mono ?_
            cases o5 with
            | none =>
              rintro e w9 ⟨k9, S9, p9, rfl, hb9⟩
              replace K := K.below hb9
              have hb0 := K.bel
              obtain ⟨fr, gr, zr⟩ := K.hd.facts
              unfold tokV
              go_wp2
              exact bodyPost_ret (v := .tuple #[.agg #[.int .i64 k9, .string S9, .int .i64 p9], .bool false]) (by simp [results, Tryz.results73, go_sem, *]) rfl ⟨k9, S9, p9, rfl, (by repeat' (first | with_reducible assumption | with_reducible exact Below.refl _ _ | with_reducible refine allocB ?_ | with_reducible refine setB ?_ ?_ | with_reducible refine drewB ?_ | with_reducible refine after ?_ (by assumption) | (simp; omega) | omega))⟩
            | some x9 =>
              obtain ⟨k9, S9, n9⟩ := x9
              rintro e w9 ⟨rfl, hb9⟩
              have hM := Below.mv K.bel z0 hb9
              have hr := Blk.mv K.hd yb hb9
              obtain ⟨fr, gr, zr⟩ := hr.facts
              clear hb9 K
              unfold tokV
              go_wp2
              exact bodyPost_ret (v := .tuple #[.agg #[.int .i64 k9, .string ⟨S9.toArray⟩, .int .i64 (a : Int)], .bool true]) (by simp [results, Tryz.results73, go_sem, *]) rfl ⟨rfl, (by repeat' (first | exact hM | refine Below.setCell ?_ ?_ _ | exact Nat.le_refl _))⟩
        · simp only [Bool.true_and, Bool.false_and, Bool.false_eq_true, if_true, if_false]
          have h9 := hp3 rfl
          obtain ⟨f0, g0, z0⟩ := hb.facts
          have yb : b ≠ w.heap.size := by omega
          clear f0 g0
          go_enter Tryz.func73, Tryz.ntmps73
          go_wp2_with fail
          refine calls_keep (fun W => Keep w [(w.heap.size, #[.int .i64 0, .string ⟨#[]⟩, .int .i64 0]), (b, rdC s a)] W) (Keep.add (by apply Blk.eq; (repeat' (first | with_reducible assumption | with_reducible apply Blk.set | with_reducible apply Blk.other | (with_reducible refine Blk.new ?_; simp; done) | with_reducible apply Blk.alloc | omega)); rfl) ((Keep.add hb (Keep.nil (Below.refl _ _))).below (by repeat' (first | with_reducible assumption | with_reducible exact Below.refl _ _ | with_reducible refine allocB ?_ | with_reducible refine setB ?_ ?_ | with_reducible refine drewB ?_ | with_reducible refine after ?_ (by assumption) | (simp; omega) | omega)))) ?_
          clear hb
          rintro wa K
          refine (cR wa K.tl.hd).mono ?_; rintro e w1 ⟨rfl, hb9⟩
          replace K := K.below hb9
          clear hb9
          go_wp2_with fail
          refine (cW w1).mono ?_; rintro e w2 ⟨rfl, hb9⟩
          replace K := K.below hb9
          clear hb9
          go_wp2_with fail
          refine (cR w2 K.tl.hd).mono ?_; rintro e w3 ⟨rfl, hb9⟩
          replace K := K.below hb9
          clear hb9
          go_wp2_with fail
          refine (h33 w3).mono ?_; rintro e w4 ⟨rfl, rfl⟩
          go_wp2_with fail
          refine (h40 w4).mono ?_; rintro e w5 ⟨rfl, rfl⟩
          go_wp2_with fail
          refine (h91 w5).mono ?_; rintro e w6 ⟨rfl, rfl⟩
          go_wp2_with fail
          refine (cN w6 K.bel).mono ?_; rintro e w7 ⟨rfl, hb9⟩
          replace K := K.below hb9
          clear hb9
          go_wp2_with fail
          refine (cL h9 w7 K.bel K.tl.hd).mono ?_
          cases o2 with
          | none =>
            rintro e w9 ⟨k9, S9, p9, rfl, hb9⟩
            replace K := K.below hb9
            have hb0 := K.bel
            obtain ⟨fr, gr, zr⟩ := K.hd.facts
            unfold tokV
            go_wp2
            exact bodyPost_ret (v := .tuple #[.agg #[.int .i64 k9, .string S9, .int .i64 p9], .bool false]) (by simp [results, Tryz.results73, go_sem, *]) rfl ⟨k9, S9, p9, rfl, (by repeat' (first | with_reducible assumption | with_reducible exact Below.refl _ _ | with_reducible refine allocB ?_ | with_reducible refine setB ?_ ?_ | with_reducible refine drewB ?_ | with_reducible refine after ?_ (by assumption) | (simp; omega) | omega))⟩
          | some x9 =>
            obtain ⟨k9, S9, n9⟩ := x9
            rintro e w9 ⟨rfl, hb9⟩
            have hM := Below.mv K.bel z0 hb9
            have hr := Blk.mv K.hd yb hb9
            obtain ⟨fr, gr, zr⟩ := hr.facts
            clear hb9 K
            unfold tokV
            go_wp2
            exact bodyPost_ret (v := .tuple #[.agg #[.int .i64 k9, .string ⟨S9.toArray⟩, .int .i64 (a : Int)], .bool true]) (by simp [results, Tryz.results73, go_sem, *]) rfl ⟨rfl, (by repeat' (first | exact hM | refine Below.setCell ?_ ?_ _ | exact Nat.le_refl _))⟩
    · cases k1
      · cases p3
        · cases k3
          · cases k4
            · cases k2
              · simp only [Bool.true_and, Bool.false_and, Bool.false_eq_true, if_false]
                obtain ⟨f0, g0, z0⟩ := hb.facts
                have yb : b ≠ w.heap.size := by omega
                clear f0 g0
                go_enter Tryz.func73, Tryz.ntmps73
                go_wp2_with fail
                refine calls_keep (fun W => Keep w [(w.heap.size, #[.int .i64 0, .string ⟨#[]⟩, .int .i64 0]), (b, rdC s a)] W) (Keep.add (by apply Blk.eq; (repeat' (first | with_reducible assumption | with_reducible apply Blk.set | with_reducible apply Blk.other | (with_reducible refine Blk.new ?_; simp; done) | with_reducible apply Blk.alloc | omega)); rfl) ((Keep.add hb (Keep.nil (Below.refl _ _))).below (by repeat' (first | with_reducible assumption | with_reducible exact Below.refl _ _ | with_reducible refine allocB ?_ | with_reducible refine setB ?_ ?_ | with_reducible refine drewB ?_ | with_reducible refine after ?_ (by assumption) | (simp; omega) | omega)))) ?_
                clear hb
                rintro wa K
                refine (cR wa K.tl.hd).mono ?_; rintro e w1 ⟨rfl, hb9⟩
                replace K := K.below hb9
                clear hb9
                go_wp2_with fail
                refine (cW w1).mono ?_; rintro e w2 ⟨rfl, hb9⟩
                replace K := K.below hb9
                clear hb9
                go_wp2_with fail
                refine (cR w2 K.tl.hd).mono ?_; rintro e w3 ⟨rfl, hb9⟩
                replace K := K.below hb9
                clear hb9
                go_wp2_with fail
                refine (h33 w3).mono ?_; rintro e w4 ⟨rfl, rfl⟩
                go_wp2_with fail
                refine (h40 w4).mono ?_; rintro e w5 ⟨rfl, rfl⟩
                go_wp2_with fail
                refine (cC w5 K.bel).mono ?_; rintro e w6 ⟨rfl, hb9⟩
                replace K := K.below hb9
                clear hb9
                go_wp2_with fail
                refine (h91 w6).mono ?_; rintro e w7 ⟨rfl, rfl⟩
                go_wp2_with fail
                refine (cI w7 K.bel).mono ?_; rintro e w8 ⟨rfl, hb9⟩
                replace K := K.below hb9
                clear hb9
                go_wp2_with fail
                refine (cT w8 K.bel).mono ?_; rintro e w9 ⟨rfl, hb9⟩
                replace K := K.below hb9
                clear hb9
                go_wp2_with fail
                refine (cN w9 K.bel).mono ?_; rintro e w10 ⟨rfl, hb9⟩
                replace K := K.below hb9
                clear hb9
                go_wp2_with fail
                refine (piece_none w10 b a).mono ?_
                rintro e w9 ⟨k9, S9, p9, rfl, hb9⟩
                replace K := K.below hb9
                have hb0 := K.bel
                obtain ⟨fr, gr, zr⟩ := K.hd.facts
                unfold tokV
                go_wp2
                exact bodyPost_ret (v := .tuple #[.agg #[.int .i64 k9, .string S9, .int .i64 p9], .bool false]) (by simp [results, Tryz.results73, go_sem, *]) rfl ⟨k9, S9, p9, rfl, (by repeat' (first | with_reducible assumption | with_reducible exact Below.refl _ _ | with_reducible refine allocB ?_ | with_reducible refine setB ?_ ?_ | with_reducible refine drewB ?_ | with_reducible refine after ?_ (by assumption) | (simp; omega) | omega))⟩
              · simp only [Bool.true_and, Bool.false_and, Bool.false_eq_true, if_true, if_false]
                obtain ⟨f0, g0, z0⟩ := hb.facts
                have yb : b ≠ w.heap.size := by omega
                clear f0 g0
                go_enter Tryz.func73, Tryz.ntmps73
                go_wp2_with fail
                refine calls_keep (fun W => Keep w [(w.heap.size, #[.int .i64 0, .string ⟨#[]⟩, .int .i64 0]), (b, rdC s a)] W) (Keep.add (by apply Blk.eq; (repeat' (first | with_reducible assumption | with_reducible apply Blk.set | with_reducible apply Blk.other | (with_reducible refine Blk.new ?_; simp; done) | with_reducible apply Blk.alloc | omega)); rfl) ((Keep.add hb (Keep.nil (Below.refl _ _))).below (by repeat' (first | with_reducible assumption | with_reducible exact Below.refl _ _ | with_reducible refine allocB ?_ | with_reducible refine setB ?_ ?_ | with_reducible refine drewB ?_ | with_reducible refine after ?_ (by assumption) | (simp; omega) | omega)))) ?_
                clear hb
                rintro wa K
                refine (cR wa K.tl.hd).mono ?_; rintro e w1 ⟨rfl, hb9⟩
                replace K := K.below hb9
                clear hb9
                go_wp2_with fail
                refine (cW w1).mono ?_; rintro e w2 ⟨rfl, hb9⟩
                replace K := K.below hb9
                clear hb9
                go_wp2_with fail
                refine (cR w2 K.tl.hd).mono ?_; rintro e w3 ⟨rfl, hb9⟩
                replace K := K.below hb9
                clear hb9
                go_wp2_with fail
                refine (h33 w3).mono ?_; rintro e w4 ⟨rfl, rfl⟩
                go_wp2_with fail
                refine (h40 w4).mono ?_; rintro e w5 ⟨rfl, rfl⟩
                go_wp2_with fail
                refine (cC w5 K.bel).mono ?_; rintro e w6 ⟨rfl, hb9⟩
                replace K := K.below hb9
                clear hb9
                go_wp2_with fail
                refine (h91 w6).mono ?_; rintro e w7 ⟨rfl, rfl⟩
                go_wp2_with fail
                refine (cI w7 K.bel).mono ?_; rintro e w8 ⟨rfl, hb9⟩
                replace K := K.below hb9
                clear hb9
                go_wp2_with fail
                refine (cT w8 K.bel).mono ?_; rintro e w9 ⟨rfl, hb9⟩
                replace K := K.below hb9
                clear hb9
                go_wp2_with fail
                refine (cN w9 K.bel).mono ?_; rintro e w10 ⟨rfl, hb9⟩
                replace K := K.below hb9
                clear hb9
                go_wp2_with fail
                refine (t6 w10 K.tl.hd).mono ?_
                cases o6 with
                | none =>
                  rintro e w9 ⟨k9, S9, p9, rfl, hb9⟩
                  replace K := K.below hb9
                  have hb0 := K.bel
                  obtain ⟨fr, gr, zr⟩ := K.hd.facts
                  unfold tokV
                  go_wp2
                  exact bodyPost_ret (v := .tuple #[.agg #[.int .i64 k9, .string S9, .int .i64 p9], .bool false]) (by simp [results, Tryz.results73, go_sem, *]) rfl ⟨k9, S9, p9, rfl, (by repeat' (first | with_reducible assumption | with_reducible exact Below.refl _ _ | with_reducible refine allocB ?_ | with_reducible refine setB ?_ ?_ | with_reducible refine drewB ?_ | with_reducible refine after ?_ (by assumption) | (simp; omega) | omega))⟩
                | some x9 =>
                  obtain ⟨k9, S9, n9⟩ := x9
                  rintro e w9 ⟨rfl, hb9⟩
                  have hM := Below.mv K.bel z0 hb9
                  have hr := Blk.mv K.hd yb hb9
                  obtain ⟨fr, gr, zr⟩ := hr.facts
                  clear hb9 K
                  unfold tokV
                  go_wp2
                  exact bodyPost_ret (v := .tuple #[.agg #[.int .i64 k9, .string ⟨S9.toArray⟩, .int .i64 (a : Int)], .bool true]) (by simp [results, Tryz.results73, go_sem, *]) rfl ⟨rfl, (by repeat' (first | exact hM | refine Below.setCell ?_ ?_ _ | exact Nat.le_refl _))⟩
            · simp only [Bool.true_and, Bool.false_and, Bool.false_eq_true, if_true, if_false]
              obtain ⟨f0, g0, z0⟩ := hb.facts
              have yb : b ≠ w.heap.size := by omega
              clear f0 g0
              go_enter Tryz.func73, Tryz.ntmps73
              go_wp2_with fail
              refine calls_keep (fun W => Keep w [(w.heap.size, #[.int .i64 0, .string ⟨#[]⟩, .int .i64 0]), (b, rdC s a)] W) (Keep.add (by apply Blk.eq; (repeat' (first | with_reducible assumption | with_reducible apply Blk.set | with_reducible apply Blk.other | (with_reducible refine Blk.new ?_; simp; done) | with_reducible apply Blk.alloc | omega)); rfl) ((Keep.add hb (Keep.nil (Below.refl _ _))).below (by repeat' (first | with_reducible assumption | with_reducible exact Below.refl _ _ | with_reducible refine allocB ?_ | with_reducible refine setB ?_ ?_ | with_reducible refine drewB ?_ | with_reducible refine after ?_ (by assumption) | (simp; omega) | omega)))) ?_
              clear hb
              rintro wa K
              refine (cR wa K.tl.hd).mono ?_; rintro e w1 ⟨rfl, hb9⟩
              replace K := K.below hb9
              clear hb9
              go_wp2_with fail
              refine (cW w1).mono ?_; rintro e w2 ⟨rfl, hb9⟩
              replace K := K.below hb9
              clear hb9
              go_wp2_with fail
              refine (cR w2 K.tl.hd).mono ?_; rintro e w3 ⟨rfl, hb9⟩
              replace K := K.below hb9
              clear hb9
              go_wp2_with fail
              refine (h33 w3).mono ?_; rintro e w4 ⟨rfl, rfl⟩
              go_wp2_with fail
              refine (h40 w4).mono ?_; rintro e w5 ⟨rfl, rfl⟩
              go_wp2_with fail
              refine (cC w5 K.bel).mono ?_; rintro e w6 ⟨rfl, hb9⟩
              replace K := K.below hb9
              clear hb9
              go_wp2_with fail
              refine (h91 w6).mono ?_; rintro e w7 ⟨rfl, rfl⟩
              go_wp2_with fail
              refine (cI w7 K.bel).mono ?_; rintro e w8 ⟨rfl, hb9⟩
              replace K := K.below hb9
              clear hb9
              go_wp2_with fail
              refine (cT w8 K.bel).mono ?_; rintro e w9 ⟨rfl, hb9⟩
              replace K := K.below hb9
              clear hb9
              go_wp2_with fail
              refine (cU w9 K.bel).mono ?_; rintro e w10 ⟨rfl, hb9⟩
              replace K := K.below hb9
              clear hb9
              go_wp2_with fail
              refine (t3 w10 K.tl.hd).mono ?_
              cases o3 with
              | none =>
                rintro e w9 ⟨k9, S9, p9, rfl, hb9⟩
                replace K := K.below hb9
                have hb0 := K.bel
                obtain ⟨fr, gr, zr⟩ := K.hd.facts
                unfold tokV
                go_wp2
                exact bodyPost_ret (v := .tuple #[.agg #[.int .i64 k9, .string S9, .int .i64 p9], .bool false]) (by simp [results, Tryz.results73, go_sem, *]) rfl ⟨k9, S9, p9, rfl, (by repeat' (first | with_reducible assumption | with_reducible exact Below.refl _ _ | with_reducible refine allocB ?_ | with_reducible refine setB ?_ ?_ | with_reducible refine drewB ?_ | with_reducible refine after ?_ (by assumption) | (simp; omega) | omega))⟩
              | some x9 =>
                obtain ⟨k9, S9, n9⟩ := x9
                rintro e w9 ⟨rfl, hb9⟩
                have hM := Below.mv K.bel z0 hb9
                have hr := Blk.mv K.hd yb hb9
                obtain ⟨fr, gr, zr⟩ := hr.facts
                clear hb9 K
                unfold tokV
                go_wp2
                exact bodyPost_ret (v := .tuple #[.agg #[.int .i64 k9, .string ⟨S9.toArray⟩, .int .i64 (a : Int)], .bool true]) (by simp [results, Tryz.results73, go_sem, *]) rfl ⟨rfl, (by repeat' (first | exact hM | refine Below.setCell ?_ ?_ _ | exact Nat.le_refl _))⟩
          · simp only [Bool.true_and, Bool.false_and, Bool.false_eq_true, if_true, if_false]
            obtain ⟨f0, g0, z0⟩ := hb.facts
            have yb : b ≠ w.heap.size := by omega
            clear f0 g0
            go_enter Tryz.func73, Tryz.ntmps73
            go_wp2_with fail
            refine calls_keep (fun W => Keep w [(w.heap.size, #[.int .i64 0, .string ⟨#[]⟩, .int .i64 0]), (b, rdC s a)] W) (Keep.add (by apply Blk.eq; (repeat' (first | with_reducible assumption | with_reducible apply Blk.set | with_reducible apply Blk.other | (with_reducible refine Blk.new ?_; simp; done) | with_reducible apply Blk.alloc | omega)); rfl) ((Keep.add hb (Keep.nil (Below.refl _ _))).below (by repeat' (first | with_reducible assumption | with_reducible exact Below.refl _ _ | with_reducible refine allocB ?_ | with_reducible refine setB ?_ ?_ | with_reducible refine drewB ?_ | with_reducible refine after ?_ (by assumption) | (simp; omega) | omega)))) ?_
            clear hb
            rintro wa K
            refine (cR wa K.tl.hd).mono ?_; rintro e w1 ⟨rfl, hb9⟩
            replace K := K.below hb9
            clear hb9
            go_wp2_with fail
            refine (cW w1).mono ?_; rintro e w2 ⟨rfl, hb9⟩
            replace K := K.below hb9
            clear hb9
            go_wp2_with fail
            refine (cR w2 K.tl.hd).mono ?_; rintro e w3 ⟨rfl, hb9⟩
            replace K := K.below hb9
            clear hb9
            go_wp2_with fail
            refine (h33 w3).mono ?_; rintro e w4 ⟨rfl, rfl⟩
            go_wp2_with fail
            refine (h40 w4).mono ?_; rintro e w5 ⟨rfl, rfl⟩
            go_wp2_with fail
            refine (cC w5 K.bel).mono ?_; rintro e w6 ⟨rfl, hb9⟩
            replace K := K.below hb9
            clear hb9
            go_wp2_with fail
            refine (h91 w6).mono ?_; rintro e w7 ⟨rfl, rfl⟩
            go_wp2_with fail
            refine (cI w7 K.bel).mono ?_; rintro e w8 ⟨rfl, hb9⟩
            replace K := K.below hb9
            clear hb9
            go_wp2_with fail
            refine (t5 w8 K.tl.hd).mono ?_
            cases o5 with
            | none =>
              rintro e w9 ⟨k9, S9, p9, rfl, hb9⟩
              replace K := K.below hb9
              have hb0 := K.bel
              obtain ⟨fr, gr, zr⟩ := K.hd.facts
              unfold tokV
              go_wp2
              exact bodyPost_ret (v := .tuple #[.agg #[.int .i64 k9, .string S9, .int .i64 p9], .bool false]) (by simp [results, Tryz.results73, go_sem, *]) rfl ⟨k9, S9, p9, rfl, (by repeat' (first | with_reducible assumption | with_reducible exact Below.refl _ _ | with_reducible refine allocB ?_ | with_reducible refine setB ?_ ?_ | with_reducible refine drewB ?_ | with_reducible refine after ?_ (by assumption) | (simp; omega) | omega))⟩
            | some x9 =>
              obtain ⟨k9, S9, n9⟩ := x9
              rintro e w9 ⟨rfl, hb9⟩
              have hM := Below.mv K.bel z0 hb9
              have hr := Blk.mv K.hd yb hb9
              obtain ⟨fr, gr, zr⟩ := hr.facts
              clear hb9 K
              unfold tokV
              go_wp2
              exact bodyPost_ret (v := .tuple #[.agg #[.int .i64 k9, .string ⟨S9.toArray⟩, .int .i64 (a : Int)], .bool true]) (by simp [results, Tryz.results73, go_sem, *]) rfl ⟨rfl, (by repeat' (first | exact hM | refine Below.setCell ?_ ?_ _ | exact Nat.le_refl _))⟩
        · cases k2
          · cases k3
            · cases k4
              · simp only [Bool.true_and, Bool.false_eq_true, if_false]
                obtain ⟨f0, g0, z0⟩ := hb.facts
                have yb : b ≠ w.heap.size := by omega
                clear f0 g0
                go_enter Tryz.func73, Tryz.ntmps73
                go_wp2_with fail
                refine calls_keep (fun W => Keep w [(w.heap.size, #[.int .i64 0, .string ⟨#[]⟩, .int .i64 0]), (b, rdC s a)] W) (Keep.add (by apply Blk.eq; (repeat' (first | with_reducible assumption | with_reducible apply Blk.set | with_reducible apply Blk.other | (with_reducible refine Blk.new ?_; simp; done) | with_reducible apply Blk.alloc | omega)); rfl) ((Keep.add hb (Keep.nil (Below.refl _ _))).below (by repeat' (first | with_reducible assumption | with_reducible exact Below.refl _ _ | with_reducible refine allocB ?_ | with_reducible refine setB ?_ ?_ | with_reducible refine drewB ?_ | with_reducible refine after ?_ (by assumption) | (simp; omega) | omega)))) ?_
                clear hb
                rintro wa K
                refine (cR wa K.tl.hd).mono ?_; rintro e w1 ⟨rfl, hb9⟩
                replace K := K.below hb9
                clear hb9
                go_wp2_with fail
                refine (cW w1).mono ?_; rintro e w2 ⟨rfl, hb9⟩
                replace K := K.below hb9
                clear hb9
                go_wp2_with fail
                refine (cR w2 K.tl.hd).mono ?_; rintro e w3 ⟨rfl, hb9⟩
                replace K := K.below hb9
                clear hb9
                go_wp2_with fail
                refine (h33 w3).mono ?_; rintro e w4 ⟨rfl, rfl⟩
                go_wp2_with fail
                refine (h40 w4).mono ?_; rintro e w5 ⟨rfl, rfl⟩
                go_wp2_with fail
                refine (cC w5 K.bel).mono ?_; rintro e w6 ⟨rfl, hb9⟩
                replace K := K.below hb9
                clear hb9
                go_wp2_with fail
                refine (h91 w6).mono ?_; rintro e w7 ⟨rfl, rfl⟩
                go_wp2_with fail
                refine (cN w7 K.bel).mono ?_; rintro e w8 ⟨rfl, hb9⟩
                replace K := K.below hb9
                clear hb9
                go_wp2_with fail
                refine (cI w8 K.bel).mono ?_; rintro e w9 ⟨rfl, hb9⟩
                replace K := K.below hb9
                clear hb9
                go_wp2_with fail
                refine (cT w9 K.bel).mono ?_; rintro e w10 ⟨rfl, hb9⟩
                replace K := K.below hb9
                clear hb9
                go_wp2_with fail
                refine (cN w10 K.bel).mono ?_; rintro e w11 ⟨rfl, hb9⟩
                replace K := K.below hb9
                clear hb9
                go_wp2_with fail
                refine (piece_none w11 b a).mono ?_
                rintro e w9 ⟨k9, S9, p9, rfl, hb9⟩
                replace K := K.below hb9
                have hb0 := K.bel
                obtain ⟨fr, gr, zr⟩ := K.hd.facts
                unfold tokV
                go_wp2
                exact bodyPost_ret (v := .tuple #[.agg #[.int .i64 k9, .string S9, .int .i64 p9], .bool false]) (by simp [results, Tryz.results73, go_sem, *]) rfl ⟨k9, S9, p9, rfl, (by repeat' (first | with_reducible assumption | with_reducible exact Below.refl _ _ | with_reducible refine allocB ?_ | with_reducible refine setB ?_ ?_ | with_reducible refine drewB ?_ | with_reducible refine after ?_ (by assumption) | (simp; omega) | omega))⟩
              · simp only [Bool.true_and, Bool.false_eq_true, if_true, if_false]
                obtain ⟨f0, g0, z0⟩ := hb.facts
                have yb : b ≠ w.heap.size := by omega
                clear f0 g0
                go_enter Tryz.func73, Tryz.ntmps73
                go_wp2_with fail
                refine calls_keep (fun W => Keep w [(w.heap.size, #[.int .i64 0, .string ⟨#[]⟩, .int .i64 0]), (b, rdC s a)] W) (Keep.add (by apply Blk.eq; (repeat' (first | with_reducible assumption | with_reducible apply Blk.set | with_reducible apply Blk.other | (with_reducible refine Blk.new ?_; simp; done) | with_reducible apply Blk.alloc | omega)); rfl) ((Keep.add hb (Keep.nil (Below.refl _ _))).below (by repeat' (first | with_reducible assumption | with_reducible exact Below.refl _ _ | with_reducible refine allocB ?_ | with_reducible refine setB ?_ ?_ | with_reducible refine drewB ?_ | with_reducible refine after ?_ (by assumption) | (simp; omega) | omega)))) ?_
                clear hb
                rintro wa K
                refine (cR wa K.tl.hd).mono ?_; rintro e w1 ⟨rfl, hb9⟩
                replace K := K.below hb9
                clear hb9
                go_wp2_with fail
                refine (cW w1).mono ?_; rintro e w2 ⟨rfl, hb9⟩
                replace K := K.below hb9
                clear hb9
                go_wp2_with fail
                refine (cR w2 K.tl.hd).mono ?_; rintro e w3 ⟨rfl, hb9⟩
                replace K := K.below hb9
                clear hb9
                go_wp2_with fail
                refine (h33 w3).mono ?_; rintro e w4 ⟨rfl, rfl⟩
                go_wp2_with fail
                refine (h40 w4).mono ?_; rintro e w5 ⟨rfl, rfl⟩
                go_wp2_with fail
                refine (cC w5 K.bel).mono ?_; rintro e w6 ⟨rfl, hb9⟩
                replace K := K.below hb9
                clear hb9
                go_wp2_with fail
                refine (h91 w6).mono ?_; rintro e w7 ⟨rfl, rfl⟩
                go_wp2_with fail
                refine (cN w7 K.bel).mono ?_; rintro e w8 ⟨rfl, hb9⟩
                replace K := K.below hb9
                clear hb9
                go_wp2_with fail
                refine (cI w8 K.bel).mono ?_; rintro e w9 ⟨rfl, hb9⟩
                replace K := K.below hb9
                clear hb9
                go_wp2_with fail
                refine (cT w9 K.bel).mono ?_; rintro e w10 ⟨rfl, hb9⟩
                replace K := K.below hb9
                clear hb9
                go_wp2_with fail
                refine (cU w10 K.bel).mono ?_; rintro e w11 ⟨rfl, hb9⟩
                replace K := K.below hb9
                clear hb9
                go_wp2_with fail
                refine (t3 w11 K.tl.hd).mono ?_
                cases o3 with
                | none =>
                  rintro e w9 ⟨k9, S9, p9, rfl, hb9⟩
                  replace K := K.below hb9
                  have hb0 := K.bel
                  obtain ⟨fr, gr, zr⟩ := K.hd.facts
                  unfold tokV
                  go_wp2
                  exact bodyPost_ret (v := .tuple #[.agg #[.int .i64 k9, .string S9, .int .i64 p9], .bool false]) (by simp [results, Tryz.results73, go_sem, *]) rfl ⟨k9, S9, p9, rfl, (by repeat' (first | with_reducible assumption | with_reducible exact Below.refl _ _ | with_reducible refine allocB ?_ | with_reducible refine setB ?_ ?_ | with_reducible refine drewB ?_ | with_reducible refine after ?_ (by assumption) | (simp; omega) | omega))⟩
                | some x9 =>
                  obtain ⟨k9, S9, n9⟩ := x9
                  rintro e w9 ⟨rfl, hb9⟩
                  have hM := Below.mv K.bel z0 hb9
                  have hr := Blk.mv K.hd yb hb9
                  obtain ⟨fr, gr, zr⟩ := hr.facts
                  clear hb9 K
                  unfold tokV
                  go_wp2
                  exact bodyPost_ret (v := .tuple #[.agg #[.int .i64 k9, .string ⟨S9.toArray⟩, .int .i64 (a : Int)], .bool true]) (by simp [results, Tryz.results73, go_sem, *]) rfl ⟨rfl, (by repeat' (first | exact hM | refine Below.setCell ?_ ?_ _ | exact Nat.le_refl _))⟩
            · simp only [Bool.true_and, Bool.false_eq_true, if_true, if_false]
              obtain ⟨f0, g0, z0⟩ := hb.facts
              have yb : b ≠ w.heap.size := by omega
              clear f0 g0
              go_enter Tryz.func73, Tryz.ntmps73
              go_wp2_with fail
              refine calls_keep (fun W => Keep w [(w.heap.size, #[.int .i64 0, .string ⟨#[]⟩, .int .i64 0]), (b, rdC s a)] W) (Keep.add (by apply Blk.eq; (repeat' (first | with_reducible assumption | with_reducible apply Blk.set | with_reducible apply Blk.other | (with_reducible refine Blk.new ?_; simp; done) | with_reducible apply Blk.alloc | omega)); rfl) ((Keep.add hb (Keep.nil (Below.refl _ _))).below (by repeat' (first | with_reducible assumption | with_reducible exact Below.refl _ _ | with_reducible refine allocB ?_ | with_reducible refine setB ?_ ?_ | with_reducible refine drewB ?_ | with_reducible refine after ?_ (by assumption) | (simp; omega) | omega)))) ?_
              clear hb
              rintro wa K
              refine (cR wa K.tl.hd).mono ?_; rintro e w1 ⟨rfl, hb9⟩
              replace K := K.below hb9
              clear hb9
              go_wp2_with fail
              refine (cW w1).mono ?_; rintro e w2 ⟨rfl, hb9⟩
              replace K := K.below hb9
              clear hb9
              go_wp2_with fail
              refine (cR w2 K.tl.hd).mono ?_; rintro e w3 ⟨rfl, hb9⟩
              replace K := K.below hb9
              clear hb9
              go_wp2_with fail
              refine (h33 w3).mono ?_; rintro e w4 ⟨rfl, rfl⟩
              go_wp2_with fail
              refine (h40 w4).mono ?_; rintro e w5 ⟨rfl, rfl⟩
              go_wp2_with fail
              refine (cC w5 K.bel).mono ?_; rintro e w6 ⟨rfl, hb9⟩
              replace K := K.below hb9
              clear hb9
              go_wp2_with fail
              refine (h91 w6).mono ?_; rintro e w7 ⟨rfl, rfl⟩
              go_wp2_with fail
              refine (cN w7 K.bel).mono ?_; rintro e w8 ⟨rfl, hb9⟩
              replace K := K.below hb9
              clear hb9
              go_wp2_with fail
              refine (cI w8 K.bel).mono ?_; rintro e w9 ⟨rfl, hb9⟩
              replace K := K.below hb9
              clear hb9
              go_wp2_with fail
              refine (t5 w9 K.tl.hd).mono ?_
              cases o5 with
              | none =>
                rintro e w9 ⟨k9, S9, p9, rfl, hb9⟩
                replace K := K.below hb9
                have hb0 := K.bel
                obtain ⟨fr, gr, zr⟩ := K.hd.facts
                unfold tokV
                go_wp2
                exact bodyPost_ret (v := .tuple #[.agg #[.int .i64 k9, .string S9, .int .i64 p9], .bool false]) (by simp [results, Tryz.results73, go_sem, *]) rfl ⟨k9, S9, p9, rfl, (by repeat' (first | with_reducible assumption | with_reducible exact Below.refl _ _ | with_reducible refine allocB ?_ | with_reducible refine setB ?_ ?_ | with_reducible refine drewB ?_ | with_reducible refine after ?_ (by assumption) | (simp; omega) | omega))⟩
              | some x9 =>
                obtain ⟨k9, S9, n9⟩ := x9
                rintro e w9 ⟨rfl, hb9⟩
                have hM := Below.mv K.bel z0 hb9
                have hr := Blk.mv K.hd yb hb9
                obtain ⟨fr, gr, zr⟩ := hr.facts
                clear hb9 K
                unfold tokV
                go_wp2
                exact bodyPost_ret (v := .tuple #[.agg #[.int .i64 k9, .string ⟨S9.toArray⟩, .int .i64 (a : Int)], .bool true]) (by simp [results, Tryz.results73, go_sem, *]) rfl ⟨rfl, (by repeat' (first | exact hM | refine Below.setCell ?_ ?_ _ | exact Nat.le_refl _))⟩
          · simp only [Bool.true_and, Bool.false_eq_true, if_true, if_false]
            have h9 := hp3 rfl
            obtain ⟨f0, g0, z0⟩ := hb.facts
            have yb : b ≠ w.heap.size := by omega
            clear f0 g0
            go_enter Tryz.func73, Tryz.ntmps73
            go_wp2_with fail
            refine calls_keep (fun W => Keep w [(w.heap.size, #[.int .i64 0, .string ⟨#[]⟩, .int .i64 0]), (b, rdC s a)] W) (Keep.add (by apply Blk.eq; (repeat' (first | with_reducible assumption | with_reducible apply Blk.set | with_reducible apply Blk.other | (with_reducible refine Blk.new ?_; simp; done) | with_reducible apply Blk.alloc | omega)); rfl) ((Keep.add hb (Keep.nil (Below.refl _ _))).below (by repeat' (first | with_reducible assumption | with_reducible exact Below.refl _ _ | with_reducible refine allocB ?_ | with_reducible refine setB ?_ ?_ | with_reducible refine drewB ?_ | with_reducible refine after ?_ (by assumption) | (simp; omega) | omega)))) ?_
            clear hb
            rintro wa K
            refine (cR wa K.tl.hd).mono ?_; rintro e w1 ⟨rfl, hb9⟩
            replace K := K.below hb9
            clear hb9
            go_wp2_with fail
            refine (cW w1).mono ?_; rintro e w2 ⟨rfl, hb9⟩
            replace K := K.below hb9
            clear hb9
            go_wp2_with fail
            refine (cR w2 K.tl.hd).mono ?_; rintro e w3 ⟨rfl, hb9⟩
            replace K := K.below hb9
            clear hb9
            go_wp2_with fail
            refine (h33 w3).mono ?_; rintro e w4 ⟨rfl, rfl⟩
            go_wp2_with fail
            refine (h40 w4).mono ?_; rintro e w5 ⟨rfl, rfl⟩
            go_wp2_with fail
            refine (cC w5 K.bel).mono ?_; rintro e w6 ⟨rfl, hb9⟩
            replace K := K.below hb9
            clear hb9
            go_wp2_with fail
            refine (h91 w6).mono ?_; rintro e w7 ⟨rfl, rfl⟩
            go_wp2_with fail
            refine (cN w7 K.bel).mono ?_; rintro e w8 ⟨rfl, hb9⟩
            replace K := K.below hb9
            clear hb9
            go_wp2_with fail
            refine (cL h9 w8 K.bel K.tl.hd).mono ?_
            cases o2 with
            | none =>
              rintro e w9 ⟨k9, S9, p9, rfl, hb9⟩
              replace K := K.below hb9
              have hb0 := K.bel
              obtain ⟨fr, gr, zr⟩ := K.hd.facts
              unfold tokV
              go_wp2
              exact bodyPost_ret (v := .tuple #[.agg #[.int .i64 k9, .string S9, .int .i64 p9], .bool false]) (by simp [results, Tryz.results73, go_sem, *]) rfl ⟨k9, S9, p9, rfl, (by repeat' (first | with_reducible assumption | with_reducible exact Below.refl _ _ | with_reducible refine allocB ?_ | with_reducible refine setB ?_ ?_ | with_reducible refine drewB ?_ | with_reducible refine after ?_ (by assumption) | (simp; omega) | omega))⟩
            | some x9 =>
              obtain ⟨k9, S9, n9⟩ := x9
              rintro e w9 ⟨rfl, hb9⟩
              have hM := Below.mv K.bel z0 hb9
              have hr := Blk.mv K.hd yb hb9
              obtain ⟨fr, gr, zr⟩ := hr.facts
              clear hb9 K
              unfold tokV
              go_wp2
              exact bodyPost_ret (v := .tuple #[.agg #[.int .i64 k9, .string ⟨S9.toArray⟩, .int .i64 (a : Int)], .bool true]) (by simp [results, Tryz.results73, go_sem, *]) rfl ⟨rfl, (by repeat' (first | exact hM | refine Below.setCell ?_ ?_ _ | exact Nat.le_refl _))⟩
      · simp only [Bool.true_and, Bool.false_eq_true, if_true, if_false]
        obtain ⟨f0, g0, z0⟩ := hb.facts
        have yb : b ≠ w.heap.size := by omega
        clear f0 g0
        go_enter Tryz.func73, Tryz.ntmps73
        go_wp2_with fail
        refine calls_keep (fun W => Keep w [(w.heap.size, #[.int .i64 0, .string ⟨#[]⟩, .int .i64 0]), (b, rdC s a)] W) (Keep.add (by apply Blk.eq; (repeat' (first | with_reducible assumption | with_reducible apply Blk.set | with_reducible apply Blk.other | (with_reducible refine Blk.new ?_; simp; done) | with_reducible apply Blk.alloc | omega)); rfl) ((Keep.add hb (Keep.nil (Below.refl _ _))).below (by repeat' (first | with_reducible assumption | with_reducible exact Below.refl _ _ | with_reducible refine allocB ?_ | with_reducible refine setB ?_ ?_ | with_reducible refine drewB ?_ | with_reducible refine after ?_ (by assumption) | (simp; omega) | omega)))) ?_
        clear hb
        rintro wa K
        refine (cR wa K.tl.hd).mono ?_; rintro e w1 ⟨rfl, hb9⟩
        replace K := K.below hb9
        clear hb9
        go_wp2_with fail
        refine (cW w1).mono ?_; rintro e w2 ⟨rfl, hb9⟩
        replace K := K.below hb9
        clear hb9
        go_wp2_with fail
        refine (cR w2 K.tl.hd).mono ?_; rintro e w3 ⟨rfl, hb9⟩
        replace K := K.below hb9
        clear hb9
        go_wp2_with fail
        refine (h33 w3).mono ?_; rintro e w4 ⟨rfl, rfl⟩
        go_wp2_with fail
        refine (h40 w4).mono ?_; rintro e w5 ⟨rfl, rfl⟩
        go_wp2_with fail
        refine (cC w5 K.bel).mono ?_; rintro e w6 ⟨rfl, hb9⟩
        replace K := K.below hb9
        clear hb9
        go_wp2_with fail
        refine (t7 w6 K.tl.hd).mono ?_
        cases o7 with
        | none =>
          rintro e w9 ⟨k9, S9, p9, rfl, hb9⟩
          replace K := K.below hb9
          have hb0 := K.bel
          obtain ⟨fr, gr, zr⟩ := K.hd.facts
          unfold tokV
          go_wp2
          exact bodyPost_ret (v := .tuple #[.agg #[.int .i64 k9, .string S9, .int .i64 p9], .bool false]) (by simp [results, Tryz.results73, go_sem, *]) rfl ⟨k9, S9, p9, rfl, (by repeat' (first | with_reducible assumption | with_reducible exact Below.refl _ _ | with_reducible refine allocB ?_ | with_reducible refine setB ?_ ?_ | with_reducible refine drewB ?_ | with_reducible refine after ?_ (by assumption) | (simp; omega) | omega))⟩
        | some x9 =>
          obtain ⟨k9, S9, n9⟩ := x9
          rintro e w9 ⟨rfl, hb9⟩
          have hM := Below.mv K.bel z0 hb9
          have hr := Blk.mv K.hd yb hb9
          obtain ⟨fr, gr, zr⟩ := hr.facts
          clear hb9 K
          unfold tokV
          go_wp2
          exact bodyPost_ret (v := .tuple #[.agg #[.int .i64 k9, .string ⟨S9.toArray⟩, .int .i64 (a : Int)], .bool true]) (by simp [results, Tryz.results73, go_sem, *]) rfl ⟨rfl, (by repeat' (first | exact hM | refine Below.setCell ?_ ?_ _ | exact Nat.le_refl _))⟩
  · simp only [if_true]
    obtain ⟨f0, g0, z0⟩ := hb.facts
    have yb : b ≠ w.heap.size := by omega
    clear f0 g0
    go_enter Tryz.func73, Tryz.ntmps73
    go_wp2_with fail
    refine calls_keep (fun W => Keep w [(w.heap.size, #[.int .i64 0, .string ⟨#[]⟩, .int .i64 0]), (b, rdC s a)] W) (Keep.add (by apply Blk.eq; (repeat' (first | with_reducible assumption | with_reducible apply Blk.set | with_reducible apply Blk.other | (with_reducible refine Blk.new ?_; simp; done) | with_reducible apply Blk.alloc | omega)); rfl) ((Keep.add hb (Keep.nil (Below.refl _ _))).below (by repeat' (first | with_reducible assumption | with_reducible exact Below.refl _ _ | with_reducible refine allocB ?_ | with_reducible refine setB ?_ ?_ | with_reducible refine drewB ?_ | with_reducible refine after ?_ (by assumption) | (simp; omega) | omega)))) ?_
    clear hb
    rintro wa K
    refine (cR wa K.tl.hd).mono ?_; rintro e w1 ⟨rfl, hb9⟩
    replace K := K.below hb9
    clear hb9
    go_wp2_with fail
    refine (cW w1).mono ?_; rintro e w2 ⟨rfl, hb9⟩
    replace K := K.below hb9
    clear hb9
    go_wp2_with fail
    refine (cR w2 K.tl.hd).mono ?_; rintro e w3 ⟨rfl, hb9⟩
    replace K := K.below hb9
    clear hb9
    go_wp2_with fail
    refine (h33 w3).mono ?_; rintro e w4 ⟨rfl, rfl⟩
    go_wp2_with fail
    refine (cF w4 K.bel K.tl.hd).mono ?_
    cases o1 with
    | none =>
      rintro e w9 ⟨k9, S9, p9, rfl, hb9⟩
      replace K := K.below hb9
      have hb0 := K.bel
      obtain ⟨fr, gr, zr⟩ := K.hd.facts
      unfold tokV
      go_wp2
      exact bodyPost_ret (v := .tuple #[.agg #[.int .i64 k9, .string S9, .int .i64 p9], .bool false]) (by simp [results, Tryz.results73, go_sem, *]) rfl ⟨k9, S9, p9, rfl, (by repeat' (first | with_reducible assumption | with_reducible exact Below.refl _ _ | with_reducible refine allocB ?_ | with_reducible refine setB ?_ ?_ | with_reducible refine drewB ?_ | with_reducible refine after ?_ (by assumption) | (simp; omega) | omega))⟩
    | some x9 =>
      obtain ⟨k9, S9, n9⟩ := x9
      rintro e w9 ⟨rfl, hb9⟩
      have hM := Below.mv K.bel z0 hb9
      have hr := Blk.mv K.hd yb hb9
      obtain ⟨fr, gr, zr⟩ := hr.facts
      clear hb9 K
      unfold tokV
      go_wp2
      exact bodyPost_ret (v := .tuple #[.agg #[.int .i64 k9, .string ⟨S9.toArray⟩, .int .i64 (a : Int)], .bool true]) (by simp [results, Tryz.results73, go_sem, *]) rfl ⟨rfl, (by repeat' (first | exact hM | refine Below.setCell ?_ ?_ _ | exact Nat.le_refl _))⟩

end Go.Proofs.YtgnejohiagagmaaGreatDoor

namespace Go.Proofs.YtgnejohiagagmaaGreatDoor
open Go.RowKit Tab

set_option maxRecDepth 100000 in
set_option maxHeartbeats 8000000 in
theorem numberP_any (decE : Bs → Int) (hD : DecIs decE) (b : Nat) (s : ByteArray) (a : Nat) (ha : a < s.size) (hs : s.size ≤ 1000) (w : World) (hg : Good w) (hb : Blk w b (rdC s a)) : Calls Tryz.prog 69 #[.pointer (some ⟨b, 0, none⟩)] w (Piece b a (numberPD decE (s.data.toList.drop a)) w) := by
  have cR := fun W hb' => rest_any b s a (by omega) W hb'
  obtain ⟨t, ht⟩ : ∃ t, s.extract a s.size = t := ⟨_, rfl⟩
  have et : t.data.toList = s.data.toList.drop a := by rw [← ht]; exact drop_ext s a
  have hts : t.size ≤ 1000 ∧ 0 < t.size ∧ a + t.size = s.size := by rw [← ht, ByteArray.size_extract]; omega
  rw [ht] at cR
  unfold numberPD
  rw [← et]
  clear et ht
  obtain ⟨Q, hQ⟩ : ∃ Q, numD t.data.toList = Q := ⟨_, rfl⟩
  rw [hQ]
  unfold numD at hQ
  dsimp only at hQ
  have cW := fun W => while_digit t W
  unfold strV at cW
  have hwl : (whileD digR t.data.toList).length ≤ t.size := by rw [← ba_size]; exact tw_len _ _
  generalize whileD digR t.data.toList = W0 at *
  obtain ⟨X, hX, hXs⟩ : ∃ X : ByteArray, X.data.toList = W0 ∧ X.size = W0.length := ⟨⟨W0.toArray⟩, rfl, rfl⟩
  have hX2 : (⟨W0.toArray⟩ : ByteArray) = X := by rw [← hX]
  rw [hX2] at cW
  rw [← hXs] at hwl hQ
  have hx : (t.extract X.size t.size).data.toList = t.data.toList.drop X.size := drop_ext t X.size
  have cC := fun W => Tryz.strings_CutPrefix (t.extract X.size t.size) ⟨#[46]⟩ W
  rw [hx] at cC
  have hT1 : (Lib.trimPrefix (t.data.toList.drop X.size) [46]).length ≤ t.size - X.size := by
    have : (t.data.toList.drop X.size).length = t.size - X.size := by rw [List.length_drop, ba_size]
    unfold Lib.trimPrefix
    split <;> simp only [List.length_drop] at * <;> omega
  clear hx
  dsimp only at cC
  generalize Lib.trimPrefix (t.data.toList.drop X.size) [46] = T1 at *
  generalize Lib.hasPrefix (t.data.toList.drop X.size) [46] = is at *
  have cV := fun W => while_digit ⟨T1.toArray⟩ W
  unfold strV at cV
  rw [mk_list] at cV
  have hvl : (whileD digR T1).length ≤ T1.length := tw_len _ _
  generalize whileD digR T1 = P0 at *
  cases is
  · rw [if_neg Bool.false_ne_true] at hQ
    subst hQ
    rw [← hX]
    have cD := fun W (hB : Below w.heap.size w W) => hD X W (hg.below hB) (by omega)
    have cT := fun W hb' => tok_piece b s a 1 X X.size (by omega) W hb'
    rw [show X.data.toList.length = X.size from rfl]
    generalize decE X.data.toList = D at *
    generalize mkD 1 X.data.toList X.size = O at *
    clear hX hX2 hXs
    by_cases h0 : D = 0
    · subst h0
      rw [if_pos rfl]
      obtain ⟨f0, g0, z0⟩ := hb.facts
      have yb : b ≠ w.heap.size := by omega
      clear f0 g0
      go_enter Tryz.func69, Tryz.ntmps69
      go_wp2_with fail
      refine calls_keep (fun W => Keep w [(w.heap.size, #[.int .i64 0, .string ⟨#[]⟩, .int .i64 0]), (b, rdC s a)] W) (Keep.add (by apply Blk.eq; (repeat' (first | with_reducible assumption | with_reducible apply Blk.set | with_reducible apply Blk.other | (with_reducible refine Blk.new ?_; simp; done) | with_reducible apply Blk.alloc | omega)); rfl) ((Keep.add hb (Keep.nil (Below.refl _ _))).below (by repeat' (first | with_reducible assumption | with_reducible exact Below.refl _ _ | with_reducible refine allocB ?_ | with_reducible refine setB ?_ ?_ | with_reducible refine drewB ?_ | with_reducible refine after ?_ (by assumption) | (simp; omega) | omega)))) ?_
      clear hb
      rintro wa K
      refine (cR wa K.tl.hd).mono ?_; rintro e w1 ⟨rfl, hb9⟩
      replace K := K.below hb9
      clear hb9
      go_wp2_with fail
      refine (cW w1).mono ?_; rintro e w2 ⟨rfl, hb9⟩
      replace K := K.below hb9
      clear hb9
      go_wp2_with fail
      refine (cR w2 K.tl.hd).mono ?_; rintro e w3 ⟨rfl, hb9⟩
      replace K := K.below hb9
      clear hb9
      go_wp2_with fail
      refine (cC w3).mono ?_; rintro e w4 ⟨rfl, rfl⟩
      go_wp2_with fail
      refine (cD _ K.bel).mono ?_; rintro e w6 ⟨M, E, rfl, hb9⟩
      replace K := K.below hb9
      clear hb9
      go_wp2_with fail
      refine calls_keep (fun W => Keep w [(w.heap.size, #[.int .i64 0, .string ⟨#[]⟩, .int .i64 0]), (b, rdC s a)] W) (K.below (by repeat' (first | with_reducible assumption | with_reducible exact Below.refl _ _ | with_reducible refine allocB ?_ | with_reducible refine setB ?_ ?_ | with_reducible refine drewB ?_ | with_reducible refine after ?_ (by assumption) | (simp; omega) | omega))) ?_
      clear K
      rintro wz K
      refine (cT wz K.tl.hd).mono ?_
      cases O with
      | none =>
        rintro e w9 ⟨k9, S9, p9, rfl, hb9⟩
        replace K := K.below hb9
        have hb0 := K.bel
        obtain ⟨fr, gr, zr⟩ := K.hd.facts
        unfold tokV
        go_wp2
        exact bodyPost_ret (v := .tuple #[.agg #[.int .i64 k9, .string S9, .int .i64 p9], .bool false]) (by simp [results, Tryz.results69, go_sem, *]) rfl ⟨k9, S9, p9, rfl, (by repeat' (first | with_reducible assumption | with_reducible exact Below.refl _ _ | with_reducible refine allocB ?_ | with_reducible refine setB ?_ ?_ | with_reducible refine drewB ?_ | with_reducible refine after ?_ (by assumption) | (simp; omega) | omega))⟩
      | some x9 =>
        obtain ⟨k9, S9, n9⟩ := x9
        rintro e w9 ⟨rfl, hb9⟩
        have hM := Below.mv K.bel z0 hb9
        have hr := Blk.mv K.hd yb hb9
        obtain ⟨fr, gr, zr⟩ := hr.facts
        clear hb9 K
        unfold tokV
        go_wp2
        exact bodyPost_ret (v := .tuple #[.agg #[.int .i64 k9, .string ⟨S9.toArray⟩, .int .i64 (a : Int)], .bool true]) (by simp [results, Tryz.results69, go_sem, *]) rfl ⟨rfl, (by repeat' (first | exact hM | refine Below.setCell ?_ ?_ _ | exact Nat.le_refl _))⟩
    · rw [if_neg h0]
      have e0 : (D != 0) = true := bne_iff_ne.2 h0
      obtain ⟨f0, g0, z0⟩ := hb.facts
      have yb : b ≠ w.heap.size := by omega
      clear f0 g0
      go_enter Tryz.func69, Tryz.ntmps69
      go_wp2_with fail
      refine calls_keep (fun W => Keep w [(w.heap.size, #[.int .i64 0, .string ⟨#[]⟩, .int .i64 0]), (b, rdC s a)] W) (Keep.add (by apply Blk.eq; (repeat' (first | with_reducible assumption | with_reducible apply Blk.set | with_reducible apply Blk.other | (with_reducible refine Blk.new ?_; simp; done) | with_reducible apply Blk.alloc | omega)); rfl) ((Keep.add hb (Keep.nil (Below.refl _ _))).below (by repeat' (first | with_reducible assumption | with_reducible exact Below.refl _ _ | with_reducible refine allocB ?_ | with_reducible refine setB ?_ ?_ | with_reducible refine drewB ?_ | with_reducible refine after ?_ (by assumption) | (simp; omega) | omega)))) ?_
      clear hb
      rintro wa K
      refine (cR wa K.tl.hd).mono ?_; rintro e w1 ⟨rfl, hb9⟩
      replace K := K.below hb9
      clear hb9
      go_wp2_with fail
      refine (cW w1).mono ?_; rintro e w2 ⟨rfl, hb9⟩
      replace K := K.below hb9
      clear hb9
      go_wp2_with fail
      refine (cR w2 K.tl.hd).mono ?_; rintro e w3 ⟨rfl, hb9⟩
      replace K := K.below hb9
      clear hb9
      go_wp2_with fail
      refine (cC w3).mono ?_; rintro e w4 ⟨rfl, rfl⟩
      go_wp2_with fail
      refine (cD _ K.bel).mono ?_; rintro e w6 ⟨M, E, rfl, hb9⟩
      replace K := K.below hb9
      clear hb9
      go_wp2_with fail
      refine calls_keep (fun W => Keep w [(w.heap.size, #[.int .i64 0, .string ⟨#[]⟩, .int .i64 0]), (b, rdC s a)] W) (K.below (by repeat' (first | with_reducible assumption | with_reducible exact Below.refl _ _ | with_reducible refine allocB ?_ | with_reducible refine setB ?_ ?_ | with_reducible refine drewB ?_ | with_reducible refine after ?_ (by assumption) | (simp; omega) | omega))) ?_
      clear K
      rintro wz K
      refine (piece_none wz b a).mono ?_
      rintro e w9 ⟨k9, S9, p9, rfl, hb9⟩
      replace K := K.below hb9
      have hb0 := K.bel
      obtain ⟨fr, gr, zr⟩ := K.hd.facts
      unfold tokV
      go_wp2
      exact bodyPost_ret (v := .tuple #[.agg #[.int .i64 k9, .string S9, .int .i64 p9], .bool false]) (by simp [results, Tryz.results69, go_sem, *]) rfl ⟨k9, S9, p9, rfl, (by repeat' (first | with_reducible assumption | with_reducible exact Below.refl _ _ | with_reducible refine allocB ?_ | with_reducible refine setB ?_ ?_ | with_reducible refine drewB ?_ | with_reducible refine after ?_ (by assumption) | (simp; omega) | omega))⟩
  · rw [if_pos rfl] at hQ
    by_cases hp : P0 = []
    · rw [if_pos hp] at hQ
      subst hQ
      subst hp
      rw [← hX]
      have cD := fun W (hB : Below w.heap.size w W) => hD X W (hg.below hB) (by omega)
      have cT := fun W hb' => tok_piece b s a 1 X X.size (by omega) W hb'
      rw [show X.data.toList.length = X.size from rfl]
      generalize decE X.data.toList = D at *
      generalize mkD 1 X.data.toList X.size = O at *
      clear hX hX2 hXs
      by_cases h0 : D = 0
      · subst h0
        rw [if_pos rfl]
        obtain ⟨f0, g0, z0⟩ := hb.facts
        have yb : b ≠ w.heap.size := by omega
        clear f0 g0
        go_enter Tryz.func69, Tryz.ntmps69
        go_wp2_with fail
        refine calls_keep (fun W => Keep w [(w.heap.size, #[.int .i64 0, .string ⟨#[]⟩, .int .i64 0]), (b, rdC s a)] W) (Keep.add (by apply Blk.eq; (repeat' (first | with_reducible assumption | with_reducible apply Blk.set | with_reducible apply Blk.other | (with_reducible refine Blk.new ?_; simp; done) | with_reducible apply Blk.alloc | omega)); rfl) ((Keep.add hb (Keep.nil (Below.refl _ _))).below (by repeat' (first | with_reducible assumption | with_reducible exact Below.refl _ _ | with_reducible refine allocB ?_ | with_reducible refine setB ?_ ?_ | with_reducible refine drewB ?_ | with_reducible refine after ?_ (by assumption) | (simp; omega) | omega)))) ?_
        clear hb
        rintro wa K
        refine (cR wa K.tl.hd).mono ?_; rintro e w1 ⟨rfl, hb9⟩
        replace K := K.below hb9
        clear hb9
        go_wp2_with fail
        refine (cW w1).mono ?_; rintro e w2 ⟨rfl, hb9⟩
        replace K := K.below hb9
        clear hb9
        go_wp2_with fail
        refine (cR w2 K.tl.hd).mono ?_; rintro e w3 ⟨rfl, hb9⟩
        replace K := K.below hb9
        clear hb9
        go_wp2_with fail
        refine (cC w3).mono ?_; rintro e w4 ⟨rfl, rfl⟩
        go_wp2_with fail
        refine (cV w4).mono ?_; rintro e w5 ⟨rfl, hb9⟩
        replace K := K.below hb9
        clear hb9
        go_wp2_with fail
        refine (cD _ K.bel).mono ?_; rintro e w6 ⟨M, E, rfl, hb9⟩
        replace K := K.below hb9
        clear hb9
        go_wp2_with fail
        refine calls_keep (fun W => Keep w [(w.heap.size, #[.int .i64 0, .string ⟨#[]⟩, .int .i64 0]), (b, rdC s a)] W) (K.below (by repeat' (first | with_reducible assumption | with_reducible exact Below.refl _ _ | with_reducible refine allocB ?_ | with_reducible refine setB ?_ ?_ | with_reducible refine drewB ?_ | with_reducible refine after ?_ (by assumption) | (simp; omega) | omega))) ?_
        clear K
        rintro wz K
        refine (cT wz K.tl.hd).mono ?_
        cases O with
        | none =>
          rintro e w9 ⟨k9, S9, p9, rfl, hb9⟩
          replace K := K.below hb9
          have hb0 := K.bel
          obtain ⟨fr, gr, zr⟩ := K.hd.facts
          unfold tokV
          go_wp2
          exact bodyPost_ret (v := .tuple #[.agg #[.int .i64 k9, .string S9, .int .i64 p9], .bool false]) (by simp [results, Tryz.results69, go_sem, *]) rfl ⟨k9, S9, p9, rfl, (by repeat' (first | with_reducible assumption | with_reducible exact Below.refl _ _ | with_reducible refine allocB ?_ | with_reducible refine setB ?_ ?_ | with_reducible refine drewB ?_ | with_reducible refine after ?_ (by assumption) | (simp; omega) | omega))⟩
        | some x9 =>
          obtain ⟨k9, S9, n9⟩ := x9
          rintro e w9 ⟨rfl, hb9⟩
          have hM := Below.mv K.bel z0 hb9
          have hr := Blk.mv K.hd yb hb9
          obtain ⟨fr, gr, zr⟩ := hr.facts
          clear hb9 K
          unfold tokV
          go_wp2
          exact bodyPost_ret (v := .tuple #[.agg #[.int .i64 k9, .string ⟨S9.toArray⟩, .int .i64 (a : Int)], .bool true]) (by simp [results, Tryz.results69, go_sem, *]) rfl ⟨rfl, (by repeat' (first | exact hM | refine Below.setCell ?_ ?_ _ | exact Nat.le_refl _))⟩
      · rw [if_neg h0]
        have e0 : (D != 0) = true := bne_iff_ne.2 h0
        obtain ⟨f0, g0, z0⟩ := hb.facts
        have yb : b ≠ w.heap.size := by omega
        clear f0 g0
        go_enter Tryz.func69, Tryz.ntmps69
        go_wp2_with fail
        refine calls_keep (fun W => Keep w [(w.heap.size, #[.int .i64 0, .string ⟨#[]⟩, .int .i64 0]), (b, rdC s a)] W) (Keep.add (by apply Blk.eq; (repeat' (first | with_reducible assumption | with_reducible apply Blk.set | with_reducible apply Blk.other | (with_reducible refine Blk.new ?_; simp; done) | with_reducible apply Blk.alloc | omega)); rfl) ((Keep.add hb (Keep.nil (Below.refl _ _))).below (by repeat' (first | with_reducible assumption | with_reducible exact Below.refl _ _ | with_reducible refine allocB ?_ | with_reducible refine setB ?_ ?_ | with_reducible refine drewB ?_ | with_reducible refine after ?_ (by assumption) | (simp; omega) | omega)))) ?_
        clear hb
        rintro wa K
        refine (cR wa K.tl.hd).mono ?_; rintro e w1 ⟨rfl, hb9⟩
        replace K := K.below hb9
        clear hb9
        go_wp2_with fail
        refine (cW w1).mono ?_; rintro e w2 ⟨rfl, hb9⟩
        replace K := K.below hb9
        clear hb9
        go_wp2_with fail
        refine (cR w2 K.tl.hd).mono ?_; rintro e w3 ⟨rfl, hb9⟩
        replace K := K.below hb9
        clear hb9
        go_wp2_with fail
        refine (cC w3).mono ?_; rintro e w4 ⟨rfl, rfl⟩
        go_wp2_with fail
        refine (cV w4).mono ?_; rintro e w5 ⟨rfl, hb9⟩
        replace K := K.below hb9
        clear hb9
        go_wp2_with fail
        refine (cD _ K.bel).mono ?_; rintro e w6 ⟨M, E, rfl, hb9⟩
        replace K := K.below hb9
        clear hb9
        go_wp2_with fail
        refine calls_keep (fun W => Keep w [(w.heap.size, #[.int .i64 0, .string ⟨#[]⟩, .int .i64 0]), (b, rdC s a)] W) (K.below (by repeat' (first | with_reducible assumption | with_reducible exact Below.refl _ _ | with_reducible refine allocB ?_ | with_reducible refine setB ?_ ?_ | with_reducible refine drewB ?_ | with_reducible refine after ?_ (by assumption) | (simp; omega) | omega))) ?_
        clear K
        rintro wz K
        refine (piece_none wz b a).mono ?_
        rintro e w9 ⟨k9, S9, p9, rfl, hb9⟩
        replace K := K.below hb9
        have hb0 := K.bel
        obtain ⟨fr, gr, zr⟩ := K.hd.facts
        unfold tokV
        go_wp2
        exact bodyPost_ret (v := .tuple #[.agg #[.int .i64 k9, .string S9, .int .i64 p9], .bool false]) (by simp [results, Tryz.results69, go_sem, *]) rfl ⟨k9, S9, p9, rfl, (by repeat' (first | with_reducible assumption | with_reducible exact Below.refl _ _ | with_reducible refine allocB ?_ | with_reducible refine setB ?_ ?_ | with_reducible refine drewB ?_ | with_reducible refine after ?_ (by assumption) | (simp; omega) | omega))⟩
    · rw [if_neg hp] at hQ
      obtain ⟨Z, hZ, hZs⟩ : ∃ Z : ByteArray, Z.data.toList = P0 ∧ Z.size = P0.length := ⟨⟨P0.toArray⟩, rfl, rfl⟩
      have hZ2 : (⟨P0.toArray⟩ : ByteArray) = Z := by rw [← hZ]
      have hZe : Z.toList.isEmpty = false := by rw [ByteArray.toList_eq, hZ]; cases P0 with
        | nil => exact absurd rfl hp
        | cons => rfl
      rw [hZ2] at cV
      obtain ⟨U, hU⟩ : ∃ U, X ++ (⟨#[46]⟩ ++ Z) = U := ⟨_, rfl⟩
      have hUl : U.data.toList = Q := by rw [← hU, ba_append, ba_append, hX, hZ, ← hQ]; rfl
      have hUs : U.size = X.size + (1 + Z.size) := by rw [← hU, ByteArray.size_append, ByteArray.size_append]; rfl
      have a1 : ¬ 9223372036854775807 < 1 + Z.size := by omega
      have a2 : ¬ 9223372036854775807 < X.size + (1 + Z.size) := by omega
      have hUb : U.size ≤ 2000 ∧ a + U.size ≤ 100000 := by omega
      rw [← hUl]
      have cD := fun W (hB : Below w.heap.size w W) => hD U W (hg.below hB) (by omega)
      have cT := fun W hb' => tok_piece b s a 1 U U.size (by omega) W hb'
      rw [show U.data.toList.length = U.size from rfl]
      generalize decE U.data.toList = D at *
      generalize mkD 1 U.data.toList U.size = O at *
      clear hX hX2 hXs hZ hZ2 hZs hUl hUs hQ hp
      by_cases h0 : D = 0
      · subst h0
        rw [if_pos rfl]
        obtain ⟨f0, g0, z0⟩ := hb.facts
        have yb : b ≠ w.heap.size := by omega
        clear f0 g0
        go_enter Tryz.func69, Tryz.ntmps69
        go_wp2_with fail
        refine calls_keep (fun W => Keep w [(w.heap.size, #[.int .i64 0, .string ⟨#[]⟩, .int .i64 0]), (b, rdC s a)] W) (Keep.add (by apply Blk.eq; (repeat' (first | with_reducible assumption | with_reducible apply Blk.set | with_reducible apply Blk.other | (with_reducible refine Blk.new ?_; simp; done) | with_reducible apply Blk.alloc | omega)); rfl) ((Keep.add hb (Keep.nil (Below.refl _ _))).below (by repeat' (first | with_reducible assumption | with_reducible exact Below.refl _ _ | with_reducible refine allocB ?_ | with_reducible refine setB ?_ ?_ | with_reducible refine drewB ?_ | with_reducible refine after ?_ (by assumption) | (simp; omega) | omega)))) ?_
        clear hb
        rintro wa K
        refine (cR wa K.tl.hd).mono ?_; rintro e w1 ⟨rfl, hb9⟩
        replace K := K.below hb9
        clear hb9
        go_wp2_with fail
        refine (cW w1).mono ?_; rintro e w2 ⟨rfl, hb9⟩
        replace K := K.below hb9
        clear hb9
        go_wp2_with fail
        refine (cR w2 K.tl.hd).mono ?_; rintro e w3 ⟨rfl, hb9⟩
        replace K := K.below hb9
        clear hb9
        go_wp2_with fail
        refine (cC w3).mono ?_; rintro e w4 ⟨rfl, rfl⟩
        go_wp2_with fail
        refine (cV w4).mono ?_; rintro e w5 ⟨rfl, hb9⟩
        replace K := K.below hb9
        clear hb9
        go_wp2_with fail
        refine (cD _ K.bel).mono ?_; rintro e w6 ⟨M, E, rfl, hb9⟩
        replace K := K.below hb9
        clear hb9
        go_wp2_with fail
        refine calls_keep (fun W => Keep w [(w.heap.size, #[.int .i64 0, .string ⟨#[]⟩, .int .i64 0]), (b, rdC s a)] W) (K.below (by repeat' (first | with_reducible assumption | with_reducible exact Below.refl _ _ | with_reducible refine allocB ?_ | with_reducible refine setB ?_ ?_ | with_reducible refine drewB ?_ | with_reducible refine after ?_ (by assumption) | (simp; omega) | omega))) ?_
        clear K
        rintro wz K
        refine (cT wz K.tl.hd).mono ?_
        cases O with
        | none =>
          rintro e w9 ⟨k9, S9, p9, rfl, hb9⟩
          replace K := K.below hb9
          have hb0 := K.bel
          obtain ⟨fr, gr, zr⟩ := K.hd.facts
          unfold tokV
          go_wp2
          exact bodyPost_ret (v := .tuple #[.agg #[.int .i64 k9, .string S9, .int .i64 p9], .bool false]) (by simp [results, Tryz.results69, go_sem, *]) rfl ⟨k9, S9, p9, rfl, (by repeat' (first | with_reducible assumption | with_reducible exact Below.refl _ _ | with_reducible refine allocB ?_ | with_reducible refine setB ?_ ?_ | with_reducible refine drewB ?_ | with_reducible refine after ?_ (by assumption) | (simp; omega) | omega))⟩
        | some x9 =>
          obtain ⟨k9, S9, n9⟩ := x9
          rintro e w9 ⟨rfl, hb9⟩
          have hM := Below.mv K.bel z0 hb9
          have hr := Blk.mv K.hd yb hb9
          obtain ⟨fr, gr, zr⟩ := hr.facts
          clear hb9 K
          unfold tokV
          go_wp2
          exact bodyPost_ret (v := .tuple #[.agg #[.int .i64 k9, .string ⟨S9.toArray⟩, .int .i64 (a : Int)], .bool true]) (by simp [results, Tryz.results69, go_sem, *]) rfl ⟨rfl, (by repeat' (first | exact hM | refine Below.setCell ?_ ?_ _ | exact Nat.le_refl _))⟩
      · rw [if_neg h0]
        have e0 : (D != 0) = true := bne_iff_ne.2 h0
        obtain ⟨f0, g0, z0⟩ := hb.facts
        have yb : b ≠ w.heap.size := by omega
        clear f0 g0
        go_enter Tryz.func69, Tryz.ntmps69
        go_wp2_with fail
        refine calls_keep (fun W => Keep w [(w.heap.size, #[.int .i64 0, .string ⟨#[]⟩, .int .i64 0]), (b, rdC s a)] W) (Keep.add (by apply Blk.eq; (repeat' (first | with_reducible assumption | with_reducible apply Blk.set | with_reducible apply Blk.other | (with_reducible refine Blk.new ?_; simp; done) | with_reducible apply Blk.alloc | omega)); rfl) ((Keep.add hb (Keep.nil (Below.refl _ _))).below (by repeat' (first | with_reducible assumption | with_reducible exact Below.refl _ _ | with_reducible refine allocB ?_ | with_reducible refine setB ?_ ?_ | with_reducible refine drewB ?_ | with_reducible refine after ?_ (by assumption) | (simp; omega) | omega)))) ?_
        clear hb
        rintro wa K
        refine (cR wa K.tl.hd).mono ?_; rintro e w1 ⟨rfl, hb9⟩
        replace K := K.below hb9
        clear hb9
        go_wp2_with fail
        refine (cW w1).mono ?_; rintro e w2 ⟨rfl, hb9⟩
        replace K := K.below hb9
        clear hb9
        go_wp2_with fail
        refine (cR w2 K.tl.hd).mono ?_; rintro e w3 ⟨rfl, hb9⟩
        replace K := K.below hb9
        clear hb9
        go_wp2_with fail
        refine (cC w3).mono ?_; rintro e w4 ⟨rfl, rfl⟩
        go_wp2_with fail
        refine (cV w4).mono ?_; rintro e w5 ⟨rfl, hb9⟩
        replace K := K.below hb9
        clear hb9
        go_wp2_with fail
        refine (cD _ K.bel).mono ?_; rintro e w6 ⟨M, E, rfl, hb9⟩
        replace K := K.below hb9
        clear hb9
        go_wp2_with fail
        refine calls_keep (fun W => Keep w [(w.heap.size, #[.int .i64 0, .string ⟨#[]⟩, .int .i64 0]), (b, rdC s a)] W) (K.below (by repeat' (first | with_reducible assumption | with_reducible exact Below.refl _ _ | with_reducible refine allocB ?_ | with_reducible refine setB ?_ ?_ | with_reducible refine drewB ?_ | with_reducible refine after ?_ (by assumption) | (simp; omega) | omega))) ?_
        clear K
        rintro wz K
        refine (piece_none wz b a).mono ?_
        rintro e w9 ⟨k9, S9, p9, rfl, hb9⟩
        replace K := K.below hb9
        have hb0 := K.bel
        obtain ⟨fr, gr, zr⟩ := K.hd.facts
        unfold tokV
        go_wp2
        exact bodyPost_ret (v := .tuple #[.agg #[.int .i64 k9, .string S9, .int .i64 p9], .bool false]) (by simp [results, Tryz.results69, go_sem, *]) rfl ⟨k9, S9, p9, rfl, (by repeat' (first | with_reducible assumption | with_reducible exact Below.refl _ _ | with_reducible refine allocB ?_ | with_reducible refine setB ?_ ?_ | with_reducible refine drewB ?_ | with_reducible refine after ?_ (by assumption) | (simp; omega) | omega))⟩

end Go.Proofs.YtgnejohiagagmaaGreatDoor
