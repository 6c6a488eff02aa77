/- The walks of lex.upper, plain, callable, isRef, isTruth, IsName. The walks of lex.callable, IsName. The walks of the reader's small methods: rest, tok, none, quoted's frame. The walk of the reader's quoted. -/
import Derived.Test.YtgnejohiagagmaaGreatDoorG2
import Derived.Test.YtgnejohiagagmaaGreatDoorG4
import Derived.Test.YtgnejohiagagmaaGreatDoorG1
import Derived.OwnWalk
import Derived.Laws.IdiomStrings
namespace Tab
open Go Go.Lib
def upperD (l : Bs) : Bs := mapD upI l
def callD (l : Bs) : Bool := decide (1 ≤ l.length) && (decide (l.length ≤ 30) && ((whileD wordR l == l) && (!contains l [36] && (!digR (l.getD 0 0).toNat && !((l.getD 0 0) == 46)))))
def isRefD (l : Bs) : Bool := (readD ⟨l.toArray⟩).2 == 0
def truthD (l : Bs) : Bool := upperD l == [84, 82, 85, 69] || upperD l == [70, 65, 76, 83, 69]
def isNameD (l : Bs) : Bool := callD l && (!isRefD l && !truthD l)
def lowR (x : Nat) : Bool := decide (x < 32) || x == 127
theorem low_idx (s : ByteArray) : ∀ (f pos : Nat), s.size - pos ≤ f → decide (0 ≤ idxFuncFrom lowR true s f pos) = !((s.data.toList.drop pos).all okByte) := by
  intro f
  induction f with
  | zero =>
    intro pos h
    rw [List.drop_eq_nil_of_le (by rw [← Lib.size_eq]; omega)]; rfl
  | succ f ih =>
    intro pos h
    by_cases hlt : pos < s.size
    · have hne : s.data.toList.drop pos ≠ [] := by
        intro h0
        have := congrArg List.length h0
        rw [List.length_drop, ← Lib.size_eq] at this
        simp at this; omega
      have hst := ok_step _ hne
      rw [Lib.decodeL_drop, List.drop_drop] at hst
      have hw := Lib.width_pos s pos
      unfold idxFuncFrom
      rw [if_pos hlt, hst]
      by_cases hb : ((Utf8.decode s pos).1 : Int) < 32 ∨ ((Utf8.decode s pos).1 : Int) = 127
      · rw [if_pos (by unfold lowR; rw [Bool.or_eq_true, decide_eq_true_iff, beq_iff_eq]; omega), show (decide ¬(((Utf8.decode s pos).1 : Int) < 32 ∨ ((Utf8.decode s pos).1 : Int) = 127)) = false from decide_eq_false (fun h => h hb)]
        simp
      · rw [if_neg (by unfold lowR; rw [Bool.or_eq_true, decide_eq_true_iff, beq_iff_eq]; omega), show (decide ¬(((Utf8.decode s pos).1 : Int) < 32 ∨ ((Utf8.decode s pos).1 : Int) = 127)) = true from decide_eq_true hb, Bool.true_and]
        exact ih _ (by omega)
    · rw [idxFuncFrom_end _ _ _ _ _ hlt, List.drop_eq_nil_of_le (by rw [← Lib.size_eq]; omega)]; rfl
theorem low_is (s : ByteArray) : decide (0 ≤ idxFunc lowR true s) = !(s.data.toList.all okByte) := by
  unfold idxFunc
  exact low_idx s s.size 0 (by omega)
end Tab
namespace Go.Proofs.YtgnejohiagagmaaGreatDoor
open Go.RowKit Tab

set_option maxHeartbeats 400000 in
theorem lexUp_any (x : Nat) (hx : x ≤ 1114111) (w : World) : Calls Tryz.prog 105 #[.int .i32 (x : Int)] w (Still (.int .i32 (upI x)) w) := by
  by_cases h : 97 ≤ (x : Int) ∧ (x : Int) ≤ 122
  · have H : Hid (upI x = (x : Int) - 97 + 65) := by
      show _ = _
      rw [upI, if_pos h]; omega
    obtain ⟨h1, h2⟩ := h
    go_enter Tryz.func105, Tryz.ntmps105
    go_wp2
    go_ret
    exact Still.mk' (congrArg (Value.int .i32) H.out.symm)
  · have H : Hid (upI x = (x : Int)) := by
      show _ = _
      rw [upI, if_neg h]
    have Hh := Lib.hid h; clear h
    go_enter Tryz.func105, Tryz.ntmps105
    go_wp2
    all_goals first
      | (go_ret; exact Still.mk' (congrArg (Value.int .i32) H.out.symm))
      | exact absurd ⟨by assumption, by assumption⟩ Hh.out
theorem enters_lexup : ∀ args w, (callFunc 105 args).run Tryz.prog w = .ok (.enter 105 args) w := enters_of Tryz.func105 (by kernel_rfl) rfl
theorem map_lexup (s : ByteArray) (w : World) (hg : Good w) (hs : s.size < 35184372088832) : Calls Tryz.prog 86 #[.func (.func 105) #[] #[], .string s] w (Ret (strV (upperD s.data.toList)) w) :=
  Tryz.strings_Map_grows 105 #[] enters_lexup upI s w hs
    (fun W x hx _ => (lexUp_any x hx W).mono fun _ _ h => h.ret)
    (fun x hx => by unfold upI; split <;> omega) hg.u8
set_option maxRecDepth 100000 in
theorem upper_any (s : ByteArray) (w : World) (hg : Good w) (hs : s.size ≤ 1000000) : Calls Tryz.prog 64 #[.string s] w (Ret (strV (upperD s.data.toList)) w) := by
  have cM := map_lexup s w hg (by omega)
  unfold strV at *
  generalize upperD s.data.toList = U at *
  go_enter Tryz.func64, Tryz.ntmps64
  go_wp2_with fail
  refine cM.mono ?_; rintro e w1 ⟨rfl, hb⟩
  go_wp2
  go_ret; exact Ret.mk' rfl hb

theorem lexLow_any (x : Nat) (w : World) : Calls Tryz.prog 158 #[.int .i32 (x : Int)] w (Still (.bool (lowR x)) w) := by
  unfold lowR
  by_cases h1 : x < 32
  · have e1 : decide ((x : Int) < 32) = true := decide_eq_true (by omega)
    rw [decide_eq_true h1, Bool.true_or]
    go_enter Tryz.func158, Tryz.ntmps158
    go_wp2
    go_ret; exact Still.mk' rfl
  · have e1 : decide ((x : Int) < 32) = false := decide_eq_false (by omega)
    rw [decide_eq_false h1, Bool.false_or]
    obtain ⟨B, hB⟩ : ∃ B, (x == 127) = B := ⟨_, rfl⟩
    have e2 : ((x : Int) == 127) = B := by rw [← hB, Bool.eq_iff_iff, beq_iff_eq, beq_iff_eq]; omega
    rw [hB]
    clear hB h1
    cases B
    all_goals (
      go_enter Tryz.func158, Tryz.ntmps158
      go_wp2
      go_ret; exact Still.mk' rfl)
theorem enters_low : ∀ args w, (callFunc 158 args).run Tryz.prog w = .ok (.enter 158 args) w := enters_of Tryz.func158 (by kernel_rfl) rfl
set_option maxRecDepth 100000 in
theorem lexPlain_any (s : ByteArray) (w : World) (hg : Good w) (hs : s.size ≤ 1000000) : Calls Tryz.prog 116 #[.string s] w (Ret (.bool (textB s.data.toList)) w) := by
  have cV : ∀ W, Below w.heap.size w W → Calls Tryz.prog 132 #[.string s] W (Ret (.bool (Lib.validD s.data.toList)) W) := fun W hb => Tryz.utf8_ValidString s W (by omega) (hg.below hb).u8
  have cC : ∀ W, Below w.heap.size w W → Calls Tryz.prog 157 #[.string s, .func (.func 158) #[] #[]] W (Ret (.bool (!(s.data.toList.all okByte))) W) := fun W hb => by
    rw [← low_is]
    exact Tryz.strings_ContainsFunc_grows 158 #[] enters_low lowR s W (fun W' x _ _ => (lexLow_any x W').mono fun _ _ h => h.ret)
  unfold textB
  generalize Lib.validD s.data.toList = V at *
  generalize s.data.toList.all okByte = O at *
  cases V
  · rw [Bool.and_false]
    go_enter Tryz.func116, Tryz.ntmps116
    go_wp2_with fail
    refine (cV _ (Below.refl _ _)).mono ?_; rintro e w1 ⟨rfl, hb⟩
    go_wp2
    go_ret; exact Ret.mk' rfl hb
  · rw [Bool.and_true]
    go_enter Tryz.func116, Tryz.ntmps116
    go_wp2_with fail
    refine (cV _ (Below.refl _ _)).mono ?_; rintro e w1 ⟨rfl, hb⟩
    cases O
    all_goals (
      go_wp2_with fail
      refine (cC _ hb).mono ?_; rintro e w2 ⟨rfl, hb2⟩
      go_wp2
      go_ret; exact Ret.mk' rfl (after hb hb2))

set_option maxRecDepth 100000 in
theorem isRef_any (s : ByteArray) (w : World) (hg : Good w) (hs : s.size ≤ 1000000) : Calls Tryz.prog 35 #[.string s] w (Ret (.bool (isRefD s.data.toList)) w) := by
  have cR := Read_any s w hg hs
  unfold isRefD
  rw [ba_eta]
  generalize readD s = r at *
  obtain ⟨⟨r0, r1, r2, r3, r4, r5⟩, e⟩ := r
  unfold refV at cR
  dsimp only at *
  go_enter Tryz.func35, Tryz.ntmps35
  go_wp2_with fail
  refine cR.mono ?_; rintro e' w1 ⟨rfl, hb⟩
  go_wp2
  go_ret; exact Ret.mk' rfl (by repeat' (first | with_reducible assumption | with_reducible exact Below.refl _ _ | with_reducible refine allocB ?_ | with_reducible refine setB ?_ ?_ | with_reducible refine drewB ?_ | with_reducible refine after ?_ (by assumption) | (simp; omega) | omega))

set_option maxRecDepth 100000 in
theorem isTruth_any (s : ByteArray) (w : World) (hg : Good w) (hs : s.size ≤ 1000000) : Calls Tryz.prog 36 #[.string s] w (Ret (.bool (truthD s.data.toList)) w) := by
  have cU := upper_any s w hg hs
  unfold truthD
  unfold strV at cU
  generalize upperD s.data.toList = U at *
  cases h1 : (U == [84, 82, 85, 69]) <;> cases h2 : (U == [70, 65, 76, 83, 69])
  all_goals (
    go_enter Tryz.func36, Tryz.ntmps36
    go_wp2_with fail
    refine cU.mono ?_; rintro e' w1 ⟨rfl, hb⟩
    go_wp2
    go_ret; exact Ret.mk' rfl hb)
end Go.Proofs.YtgnejohiagagmaaGreatDoor

namespace Go.Proofs.YtgnejohiagagmaaGreatDoor
open Go.RowKit Tab

theorem byte_bne (b c : UInt8) : ((b.toNat : Int) != (c.toNat : Int)) = !(b == c) := by
  by_cases e : b = c
  · subst e; simp
  · rw [beq_eq_false_iff_ne.2 e, Bool.not_false, bne_iff_ne]
    intro h; exact e (UInt8.toNat_inj.1 (by omega))
theorem byte_beq (b c : UInt8) : ((b.toNat : Int) == (c.toNat : Int)) = (b == c) := by
  by_cases e : b = c
  · subst e; simp
  · rw [beq_eq_false_iff_ne.2 e, beq_eq_false_iff_ne]
    intro h; exact e (UInt8.toNat_inj.1 (by omega))
theorem byte_w32 (b : UInt8) : wrap32 (b.toNat : Int) = (b.toNat : Int) := by
  have := b.toNat_lt
  unfold wrap32
  omega
theorem ba_beq (U s : ByteArray) (B : Bool) (h : (U.data.toList == s.data.toList) = B) : (U.toList == s.toList) = B := by
  rw [ByteArray.toList_eq, ByteArray.toList_eq]; exact h

set_option maxRecDepth 100000 in
set_option maxHeartbeats 2000000 in
theorem callable_any (s : ByteArray) (w : World) (hg : Good w) (hs : s.size ≤ 1000000) : Calls Tryz.prog 34 #[.string s] w (Ret (.bool (callD s.data.toList)) w) := by
  obtain ⟨V, hV⟩ : ∃ V, callD s.data.toList = V := ⟨_, rfl⟩
  rw [hV]
  unfold callD at hV
  rw [ba_size] at hV
  by_cases h1 : 1 ≤ s.size
  · rw [decide_eq_true h1, Bool.true_and] at hV
    have e1 : decide (1 ≤ (s.size : Int)) = true := decide_eq_true (by omega)
    by_cases h2 : s.size ≤ 30
    · rw [decide_eq_true h2, Bool.true_and] at hV
      have e2 : decide ((s.size : Int) ≤ 30) = true := decide_eq_true (by omega)
      have cW := while_wordy s w
      unfold strV at cW
      have hB := fun B => ba_beq ⟨(whileD wordR s.data.toList).toArray⟩ s B
      dsimp only at hB
      obtain ⟨U, hU⟩ : ∃ U : ByteArray, ⟨(whileD wordR s.data.toList).toArray⟩ = U := ⟨_, rfl⟩
      rw [hU] at hB cW
      clear hU
      cases hw : (whileD wordR s.data.toList == s.data.toList)
      · have hE := hB _ hw
        rw [hw, Bool.false_and] at hV
        subst hV
        clear hw hB
        go_enter Tryz.func34, Tryz.ntmps34
        go_wp2_with fail
        refine cW.mono ?_; rintro e w1 ⟨rfl, hb⟩
        go_wp2
        go_ret; exact Ret.mk' rfl hb
      · have hE := hB _ hw
        rw [hw, Bool.true_and] at hV
        clear hw hB
        have cC : ∀ W, Below w.heap.size w W → Calls Tryz.prog 62 #[.string s, .string ⟨#[36]⟩] W (Still (.bool (Lib.contains s.data.toList [36])) W) := fun W hb => (Tryz.strings_Contains_shaped s ⟨#[36]⟩ W (hg.below hb).shaped (by omega)).mono fun e w' h => ⟨h.1, h.2.symm⟩
        generalize Lib.contains s.data.toList [36] = C at *
        cases C
        · rw [Bool.not_false, Bool.true_and] at hV
          have h0 : s.data.toList.getD 0 0 = s[0] := by rw [List.getD_eq_getElem?_getD, List.getElem?_eq_getElem (by rw [ba_size]; omega)]; rfl
          rw [h0] at hV
          have cD := fun W => lexDigit_any s[0].toNat W
          have ew := byte_w32 s[0]
          have h3 : ((s[0].toNat : Int) != 46) = !(s[0] == 46) := byte_bne s[0] 46
          generalize digR s[0].toNat = D at *
          generalize (s[0] == 46) = P at *
          cases D
          · cases P
            all_goals (
              simp only [Bool.not_false, Bool.not_true, Bool.true_and, Bool.and_false] at hV h3
              subst hV
              go_enter Tryz.func34, Tryz.ntmps34
              go_wp2_with fail
              refine cW.mono ?_; rintro e w1 ⟨rfl, hb⟩
              go_wp2_with (first | (go_at_call 62; refine (cC _ hb).mono ?_; rintro e w2 ⟨rfl, rfl⟩) | (go_at_call 63; refine (cD _).mono ?_; rintro e w2 ⟨rfl, rfl⟩))
              go_ret; exact Ret.mk' rfl hb)
          · simp only [Bool.not_true, Bool.false_and] at hV
            subst hV
            clear h3
            go_enter Tryz.func34, Tryz.ntmps34
            go_wp2_with fail
            refine cW.mono ?_; rintro e w1 ⟨rfl, hb⟩
            go_wp2_with (first | (go_at_call 62; refine (cC _ hb).mono ?_; rintro e w2 ⟨rfl, rfl⟩) | (go_at_call 63; refine (cD _).mono ?_; rintro e w2 ⟨rfl, rfl⟩))
            go_ret; exact Ret.mk' rfl hb
        · rw [Bool.not_true, Bool.false_and] at hV
          subst hV
          go_enter Tryz.func34, Tryz.ntmps34
          go_wp2_with fail
          refine cW.mono ?_; rintro e w1 ⟨rfl, hb⟩
          go_wp2_with (go_at_call 62; refine (cC _ hb).mono ?_; rintro e w2 ⟨rfl, rfl⟩)
          go_ret; exact Ret.mk' rfl hb
    · rw [decide_eq_false h2, Bool.false_and] at hV
      subst hV
      have e2 : decide ((s.size : Int) ≤ 30) = false := decide_eq_false (by omega)
      go_enter Tryz.func34, Tryz.ntmps34
      go_wp2
      go_ret; exact Ret.mk' rfl (Below.refl _ _)
  · rw [decide_eq_false h1, Bool.false_and] at hV
    subst hV
    have e1 : decide (1 ≤ (s.size : Int)) = false := decide_eq_false (by omega)
    go_enter Tryz.func34, Tryz.ntmps34
    go_wp2
    go_ret; exact Ret.mk' rfl (Below.refl _ _)

set_option maxRecDepth 100000 in
theorem isName_any (s : ByteArray) (w : World) (hg : Good w) (hs : s.size ≤ 1000000) : Calls Tryz.prog 14 #[.string s] w (Ret (.bool (isNameD s.data.toList)) w) := by
  have c1 := callable_any s w hg hs
  have c2 := fun W (hb : Below w.heap.size w W) => isRef_any s W (hg.below hb) hs
  have c3 := fun W (hb : Below w.heap.size w W) => isTruth_any s W (hg.below hb) hs
  unfold isNameD
  generalize callD s.data.toList = A at *
  generalize isRefD s.data.toList = B at *
  generalize truthD s.data.toList = C at *
  cases A
  · go_enter Tryz.func14, Tryz.ntmps14
    go_wp2_with fail
    refine c1.mono ?_; rintro e w1 ⟨rfl, hb⟩
    go_wp2
    go_ret; exact Ret.mk' rfl hb
  · cases B
    · cases C
      all_goals (
        go_enter Tryz.func14, Tryz.ntmps14
        go_wp2_with fail
        refine c1.mono ?_; rintro e w1 ⟨rfl, hb⟩
        go_wp2_with fail
        refine (c2 _ hb).mono ?_; rintro e w2 ⟨rfl, hb2⟩
        replace hb := after hb hb2
        clear hb2
        go_wp2_with fail
        refine (c3 _ hb).mono ?_; rintro e w3 ⟨rfl, hb2⟩
        replace hb := after hb hb2
        go_wp2
        go_ret; exact Ret.mk' rfl hb)
    · go_enter Tryz.func14, Tryz.ntmps14
      go_wp2_with fail
      refine c1.mono ?_; rintro e w1 ⟨rfl, hb⟩
      go_wp2_with fail
      refine (c2 _ hb).mono ?_; rintro e w2 ⟨rfl, hb2⟩
      replace hb := after hb hb2
      go_wp2
      go_ret; exact Ret.mk' rfl hb
end Go.Proofs.YtgnejohiagagmaaGreatDoor

namespace Tab
structure TokD where
  kind : Int
  s : ByteArray
  at' : Nat
end Tab
namespace Go.Proofs.YtgnejohiagagmaaGreatDoor
open Go.RowKit Tab

def tokV (k : Int) (s : ByteArray) (a : Int) : Value := .agg #[.int .i64 k, .string s, .int .i64 a]
/-- the reader: the text, and the place. -/
def rdC (s : ByteArray) (a : Nat) : Array Value := #[.string s, .int .i64 (a : Int)]
theorem updB {w W : World} {b i : Nat} {v : Value} (h : Below w.heap.size w W) (_hb : b < w.heap.size) : Below w.heap.size (w.setCell ⟨b, i, none⟩ v) (W.setCell ⟨b, i, none⟩ v) where
  os := h.os
  tape := h.tape
  output := h.output
  size := by simpa [World.setCell] using h.size
  block := fun k hk => by
    have := h.block k hk
    simp only [World.setCell, Array.getElem?_modify]
    split
    · rename_i e; rw [this]
    · exact this
/-- a call that moves the reader on. -/
def Mv (b : Nat) (a : Int) (v : Value) (w : World) (e : Ending) (w' : World) : Prop := e = .returned v ∧ Below w.heap.size (w.setCell ⟨b, 1, none⟩ (.int .i64 a)) w'
theorem setCell_same {w : World} {b i : Nat} {C : Array Value} {v : Value} (h : Blk w b C) (hv : C[i]? = some v) : w.setCell ⟨b, i, none⟩ v = w := by
  obtain ⟨T, h⟩ := h
  unfold World.setCell
  have : (w.heap.modify b fun o => match o with | .cells c t f => .cells (c.setIfInBounds i v) t f | o => o) = w.heap := by
    apply Array.ext_getElem?
    intro k
    rw [Array.getElem?_modify]
    split
    · rename_i e
      subst e
      rw [h]
      have : C.setIfInBounds i v = C := by
        apply Array.ext_getElem?
        intro j
        by_cases e : i = j
        · subst e
          have hlt : i < C.size := (Array.getElem?_eq_some_iff.1 hv).1
          rw [Array.getElem?_setIfInBounds_self_of_lt hlt, hv]
        · rw [Array.getElem?_setIfInBounds_ne e]
      simp [this]
    · rfl
  exact congrArg (fun h => { w with heap := h }) this

set_option maxRecDepth 100000 in
theorem none_any (w : World) : Calls Tryz.prog 114 #[] w (Ret (.tuple #[tokV 0 ⟨#[]⟩ 0, .bool false]) w) := by
  go_enter Tryz.func114, Tryz.ntmps114
  go_wp2
  exact bodyPost_ret (v := .tuple #[.agg #[.int .i64 0, .string ⟨#[]⟩, .int .i64 0], .bool false]) (by simp [results, Tryz.results114, go_sem, *]) rfl ⟨rfl, (by repeat' (first | with_reducible assumption | with_reducible exact Below.refl _ _ | with_reducible refine allocB ?_ | with_reducible refine setB ?_ ?_ | with_reducible refine drewB ?_ | with_reducible refine after ?_ (by assumption) | (simp; omega) | omega))⟩

set_option maxRecDepth 100000 in
theorem rest_any (b : Nat) (s : ByteArray) (a : Nat) (ha : a ≤ s.size) (w : World) (hb : Blk w b (rdC s a)) : Calls Tryz.prog 112 #[.pointer (some ⟨b, 0, none⟩)] w (Ret (.string (s.extract a s.size)) w) := by
  obtain ⟨f, g, z⟩ := hb.facts
  unfold rdC at f
  have kc := gcell w
  go_enter Tryz.func112, Tryz.ntmps112
  go_upto_region 1 with fail
  refine region_below (by kernel_rfl) (by kernel_rfl) ?_
  repeat (quiet_step (fail))
  refine wpQuiet_nil ?_
  intro wq hbq
  go_wp2
  go_ret; exact Ret.mk' rfl hbq

set_option maxRecDepth 100000 in
theorem tok_any (b : Nat) (s : ByteArray) (a : Nat) (k : Int) (S : ByteArray) (n : Nat) (ha : a + n ≤ 4611686018427387904) (w : World) (hb : Blk w b (rdC s a)) :
    Calls Tryz.prog 113 #[.pointer (some ⟨b, 0, none⟩), .int .i64 k, .string S, .int .i64 (n : Int)] w (Mv b ((a + n : Nat) : Int) (.tuple #[tokV k S a, .bool (decide (0 < n))]) w) := by
  obtain ⟨f, g, z⟩ := hb.facts
  unfold rdC at f
  have ew : IntKind.i64.wrap ((a : Int) + (n : Int)) = ((a + n : Nat) : Int) := by rw [IntWalk.i64_in _ (by omega)]; omega
  have e0 : decide (0 < (n : Int)) = decide (0 < n) := by rw [Bool.eq_iff_iff, decide_eq_true_iff, decide_eq_true_iff]; omega
  have y1 : ¬ b = w.heap.size := by omega
  have y2 : ¬ b = w.heap.size + 1 := by omega
  have y3 : ¬ w.heap.size = b := by omega
  have y4 : ¬ w.heap.size + 1 = b := by omega
  go_enter Tryz.func113, Tryz.ntmps113
  go_wp2
  exact bodyPost_ret (v := .tuple #[.agg #[.int .i64 k, .string S, .int .i64 (a : Int)], .bool (decide (0 < n))]) (by simp [results, Tryz.results113, go_sem, *]) rfl ⟨rfl, ((Below.refl _ _).alloc (by simp [World.setCell]) _).alloc (by simp [World.setCell]) _⟩
end Go.Proofs.YtgnejohiagagmaaGreatDoor

namespace Tab
/-- what stands behind a sign q, up to the next one that is not doubled, and how many bytes that is. -/
def quoF (q : UInt8) : Bs → Option (Bs × Nat)
  | [] => none
  | [a] => if a = q then some ([], 1) else none
  | a :: b :: l => if a = q then (if b = q then (quoF q l).map (fun p => (q :: p.1, p.2 + 2)) else some ([], 1)) else (quoF q (b :: l)).map (fun p => (a :: p.1, p.2 + 1))
def quotedD (l : Bs) : Bs × Nat := match l with
  | [] => ([], 0)
  | q :: r => match quoF q r with
    | none => ([], 0)
    | some p => (p.1, p.2 + 1)
theorem quo_other (q a : UInt8) (r : Bs) (h : a ≠ q) : quoF q (a :: r) = (quoF q r).map (fun p => (a :: p.1, p.2 + 1)) := by
  cases r with
  | nil => unfold quoF; rw [if_neg h]; rfl
  | cons b l => rw [quoF, if_neg h]
theorem quo_two (q : UInt8) (l : Bs) : quoF q (q :: q :: l) = (quoF q l).map (fun p => (q :: p.1, p.2 + 2)) := by rw [quoF, if_pos rfl, if_pos rfl]
theorem quo_end (q : UInt8) (r : Bs) (h : ∀ b l, r = b :: l → b ≠ q) : quoF q (q :: r) = some ([], 1) := by
  cases r with
  | nil => unfold quoF; rw [if_pos rfl]
  | cons b l => rw [quoF, if_pos rfl, if_neg (h b l rfl)]
/-- .. with what has been collected, and how far. -/
def quoFrom (q : UInt8) (l : Bs) (xs : Bs) (k : Nat) : Bs × Nat := match quoF q l with
  | none => ([], 0)
  | some p => (xs ++ p.1, p.2 + k)
theorem from_other (q a : UInt8) (r xs : Bs) (k : Nat) (h : a ≠ q) : quoFrom q (a :: r) xs k = quoFrom q r (xs ++ [a]) (k + 1) := by
  unfold quoFrom
  rw [quo_other q a r h]
  cases quoF q r with
  | none => rfl
  | some p => simp; omega
theorem from_two (q : UInt8) (l xs : Bs) (k : Nat) : quoFrom q (q :: q :: l) xs k = quoFrom q l (xs ++ [q]) (k + 2) := by
  unfold quoFrom
  rw [quo_two q l]
  cases quoF q l with
  | none => rfl
  | some p => simp; omega
theorem from_end (q : UInt8) (r xs : Bs) (k : Nat) (h : ∀ b l, r = b :: l → b ≠ q) : quoFrom q (q :: r) xs k = (xs, k + 1) := by
  unfold quoFrom
  rw [quo_end q r h]
  simp; omega
theorem from_nil (q : UInt8) (xs : Bs) (k : Nat) : quoFrom q [] xs k = ([], 0) := rfl
end Tab
namespace Go.Proofs.YtgnejohiagagmaaGreatDoor
open Go.RowKit Tab

def bytesV (l : Bs) : List Value := l.map fun b => .int .u8 (b.toNat : Int)
theorem info8 : (Tryz.prog.info? 5).map (fun i => (i.zero, i.size, i.bytes)) = some (some (.int .u8 0), 1, 1) := by kernel_rfl

theorem own_string {w : World} {base : Nat} {v : Value} {xs : Bs} (h : w.ownsRow base 5 1 v xs.length (bytesV xs)) : (convert 31 9 v).run Tryz.prog w = .ok (.string ⟨xs.toArray⟩) w := by
  have h' := h
  rcases h.2 with ⟨rfl, h0⟩ | ⟨g, cap, cur, rfl, _⟩
  · have : xs = [] := List.length_eq_zero_iff.1 h0
    subst this
    rw [run_convert_bytes_string w 31 9 5 none 0 0 Tryz.underlying31 Tryz.underlying5 Tryz.underlying9]; rfl
  · refine run_convert_bytes_back (P := Tryz.prog) w 31 9 5 ⟨g, 0, none⟩ cap xs Tryz.underlying31 Tryz.underlying5 Tryz.underlying9 (fun j hj => ?_)
    have := h'.cellAt j (by omega)
    rw [Addr.add_lit, Nat.zero_add, this]
    unfold bytesV
    rw [List.getElem?_map, List.getElem?_eq_getElem hj]; rfl
theorem bytesV_snoc (xs : Bs) (b : UInt8) : bytesV (xs ++ [b]) = bytesV xs ++ [.int .u8 (b.toNat : Int)] := by unfold bytesV; simp

set_option maxRecDepth 100000 in
set_option maxHeartbeats 4000000 in
theorem quoted_any (b : Nat) (s : ByteArray) (a : Nat) (ha : a < s.size) (hs : s.size ≤ 1000000) (w : World) (hb : Blk w b (rdC s a)) :
    Calls Tryz.prog 115 #[.pointer (some ⟨b, 0, none⟩)] w (Ret (.tuple #[strV (quotedD (s.data.toList.drop a)).1, .int .i64 (quotedD (s.data.toList.drop a)).2]) w) := by
  obtain ⟨i8, hi, hz0, hz1, hz2⟩ := info_parts info8
  have cR := rest_any b s a (by omega) w hb
  obtain ⟨t, ht⟩ : ∃ t, s.extract a s.size = t := ⟨_, rfl⟩
  have et : t.data.toList = s.data.toList.drop a := by rw [← ht]; exact drop_ext s a
  have hts : t.size ≤ 1000000 ∧ 0 < t.size := by rw [← ht, ByteArray.size_extract]; omega
  rw [ht] at cR
  rw [← et]
  clear et ht hb ha hs
  obtain ⟨V, n, hV⟩ : ∃ V n, quotedD t.data.toList = (V, n) := ⟨_, _, rfl⟩
  rw [hV]
  have hd := drop_at t 0 (by omega)
  rw [List.drop_zero] at hd
  obtain ⟨q, hq⟩ : ∃ q, t[0] = q := ⟨_, rfl⟩
  have hF : quoFrom q (t.data.toList.drop 1) [] 1 = (V, n) := by
    rw [hd] at hV
    rw [← hV, hq]
    unfold quoFrom quotedD
    dsimp only
    cases quoF q (t.data.toList.drop (0 + 1)) <;> rfl
  clear hV hd
  have HF := Lib.hid hF; clear hF
  go_enter Tryz.func115, Tryz.ntmps115
  go_wp2_with fail
  refine cR.mono ?_; rintro e w1 ⟨rfl, hb1⟩
  clear cR
  go_wp2_with fail
  go_loopw [5, 6] (fun o i w' => ∃ (k : Nat) (xs : Bs), 1 ≤ k ∧ k ≤ t.size ∧ xs.length ≤ k ∧ i = .int .i64 k ∧ w'.ownsRow w.heap.size 5 1 o xs.length (bytesV xs) ∧ quoFrom q (t.data.toList.drop k) xs k = (V, n) ∧ Below w.heap.size w w') (fun _ i _ => t.size - (intOf i).toNat)
  case atStart => exact ⟨1, [], by omega, by omega, by simp, rfl, ⟨rfl, .inl ⟨rfl, rfl⟩⟩, HF.out, hb1⟩
  case round =>
    clear hb1 HF
    obtain ⟨k, xs, hk1, hk2, hxk, rfl, hown, hI, hb⟩ := hrel
    have HI := Lib.hid hI; clear hI
    by_cases hlt : k < t.size
    · have hd := drop_at t k hlt
      have ew : IntKind.i64.wrap ((k : Int) + 1) = (k : Int) + 1 := IntWalk.i64_in _ (by omega)
      have h0 : 0 < t.size := hts.2
      by_cases hq6 : t[k] = q
      · have e6 : ((t[k].toNat : Int) == (t[0].toNat : Int)) = true := by rw [byte_beq, hq6, hq]; simp
        by_cases hl2 : k + 1 < t.size
        · have hd2 := drop_at t (k + 1) hl2
          have e7 : ((k : Int) + 1 == (t.size : Int)) = false := beq_eq_false_iff_ne.2 (by omega)
          have en : ((k : Int) + 1).toNat = k + 1 := by omega
          have en1 : (0 : Int) ≤ (k : Int) + 1 := by omega
          have en2 : (k : Int) + 1 < (t.size : Int) := by omega
          by_cases hq7 : t[k + 1] = q
          · have e8 : ((t[k + 1].toNat : Int) != (t[0].toNat : Int)) = false := by rw [byte_bne, hq7, hq]; simp
            have hI := HI.out
            rw [hd, hd2, hq6, hq7, from_two] at hI
            have HI := Lib.hid hI
            have H7 := Lib.hid hq7
            clear hI hd hd2 hq6 hq7 hq
            go_upto_region 6 with fail
            refine region_below (by kernel_rfl) (by kernel_rfl) ?_
            repeat (quiet_step (fail))
            refine wpQuiet_nil ?_
            intro wq hbq
            replace hown := own_below hown hbq
            replace hb := after hb hbq
            clear hbq
            go_upto_region 7 with fail
            refine region_below (by kernel_rfl) (by kernel_rfl) ?_
            repeat (quiet_step (fail))
            refine wpQuiet_nil ?_
            intro wq2 hbq
            replace hown := own_below hown hbq
            replace hb := after hb hbq
            clear hbq
            go_wp2_with (at_builtin; refine held ?_)
            unfold Held
            refine wpList_append_own _ rfl _ _ 31 rfl w.heap.size 5 i8 (.int .u8 0) 1 1 Tryz.underlying31 hi hz0 hz1 hz2 rfl (by decide) _ _ _ rfl (hown.alloc _) ⟨wq2.heap.size, 0, none⟩ 1 1 [.int .u8 (t[k + 1].toNat : Int)] rfl rfl ?_ ?_ ?_ ?_ ?_ ?_
            · intro j u hj
              match j, hj with
              | 0, hj => injection hj with hj; subst hj; simp [go_sem]
            · intro u hu
              rw [List.mem_singleton] at hu; subst hu; rfl
            · unfold maxLen; omega
            · omega
            · have := hb.size; simp; omega
            intro v' w9 hown' hgrow _
            have hb9 : Below w.heap.size w w9 := (allocB hb).grown hgrow (by have := hb.size; simp; omega) (own_row hown)
            go_wp2
            go_roundw
            case rel => exact ⟨k + 2, xs ++ [t[k + 1]], by omega, by omega, by rw [List.length_append]; simp only [List.length_cons, List.length_nil]; omega, by go_num, by rw [List.length_append, bytesV_snoc]; exact hown', by rw [H7.out]; exact HI.out, hb9⟩
            case measure => simp [intOf]; omega
          · have e8 : ((t[k + 1].toNat : Int) != (t[0].toNat : Int)) = true := by rw [byte_bne, hq, beq_eq_false_iff_ne.2 hq7]; rfl
            have hI := HI.out
            rw [hd, hd2, hq6, from_end _ _ _ _ (fun b l h => by injection h with h1 _; rw [← h1]; exact hq7)] at hI
            injection hI with hI1 hI2
            have H1 := Lib.hid hI1
            have H2 := Lib.hid hI2
            clear hI1 hI2 hd hd2 hq6 hq7 hq HI
            go_upto_region 6 with fail
            refine region_below (by kernel_rfl) (by kernel_rfl) ?_
            repeat (quiet_step (fail))
            refine wpQuiet_nil ?_
            intro wq hbq
            replace hown := own_below hown hbq
            replace hb := after hb hbq
            clear hbq
            go_upto_region 7 with fail
            refine region_below (by kernel_rfl) (by kernel_rfl) ?_
            repeat (quiet_step (fail))
            refine wpQuiet_nil ?_
            intro wq2 hbq
            replace hown := own_below hown hbq
            replace hb := after hb hbq
            clear hbq
            have hcv := own_string hown
            go_wp2
            go_ret2
            exact Ret.mk2 (by rw [← H1.out]; rfl) (by rw [← H2.out]; rfl) hb
        · have e7 : ((k : Int) + 1 == (t.size : Int)) = true := beq_iff_eq.2 (by omega)
          have hI := HI.out
          rw [hd, hq6, from_end _ _ _ _ (fun b l h => by rw [List.drop_eq_nil_of_le (by rw [ba_size]; omega)] at h; cases h)] at hI
          injection hI with hI1 hI2
          have H1 := Lib.hid hI1
          have H2 := Lib.hid hI2
          clear hI1 hI2 hd hq6 hq HI
          go_upto_region 6 with fail
          refine region_below (by kernel_rfl) (by kernel_rfl) ?_
          repeat (quiet_step (fail))
          refine wpQuiet_nil ?_
          intro wq hbq
          replace hown := own_below hown hbq
          replace hb := after hb hbq
          clear hbq
          go_upto_region 7 with fail
          refine region_below (by kernel_rfl) (by kernel_rfl) ?_
          repeat (quiet_step (fail))
          refine wpQuiet_nil ?_
          intro wq2 hbq
          replace hown := own_below hown hbq
          replace hb := after hb hbq
          clear hbq
          have hcv := own_string hown
          go_wp2
          go_ret2
          exact Ret.mk2 (by rw [← H1.out]; rfl) (by rw [← H2.out]; rfl) hb
      · have e6 : ((t[k].toNat : Int) == (t[0].toNat : Int)) = false := by rw [byte_beq, hq, beq_eq_false_iff_ne]; exact hq6
        have hI := HI.out
        rw [hd, from_other _ _ _ _ _ hq6] at hI
        have HI := Lib.hid hI
        clear hI hd hq6 hq
        go_upto_region 6 with fail
        refine region_below (by kernel_rfl) (by kernel_rfl) ?_
        repeat (quiet_step (fail))
        refine wpQuiet_nil ?_
        intro wq hbq
        replace hown := own_below hown hbq
        replace hb := after hb hbq
        clear hbq
        go_wp2_with (at_builtin; refine held ?_)
        unfold Held
        refine wpList_append_own _ rfl _ _ 31 rfl w.heap.size 5 i8 (.int .u8 0) 1 1 Tryz.underlying31 hi hz0 hz1 hz2 rfl (by decide) _ _ _ rfl (hown.alloc _) ⟨wq.heap.size, 0, none⟩ 1 1 [.int .u8 (t[k].toNat : Int)] rfl rfl ?_ ?_ ?_ ?_ ?_ ?_
        · intro j u hj
          match j, hj with
          | 0, hj => injection hj with hj; subst hj; simp [go_sem]
        · intro u hu
          rw [List.mem_singleton] at hu; subst hu; rfl
        · unfold maxLen; omega
        · omega
        · have := hb.size; simp; omega
        intro v' w9 hown' hgrow _
        have hb9 : Below w.heap.size w w9 := (allocB hb).grown hgrow (by have := hb.size; simp; omega) (own_row hown)
        go_wp2
        go_roundw
        case rel => exact ⟨k + 1, xs ++ [t[k]], by omega, by omega, by rw [List.length_append]; simp only [List.length_cons, List.length_nil]; omega, by go_num, by rw [List.length_append, bytesV_snoc]; exact hown', HI.out, hb9⟩
        case measure => simp [intOf]; omega
    · have hI := HI.out
      rw [List.drop_eq_nil_of_le (by rw [ba_size]; omega), from_nil] at hI
      injection hI with hI1 hI2
      subst hI1 hI2
      clear HI
      go_wp2
      go_ret2
      exact Ret.mk2 rfl rfl hb
end Go.Proofs.YtgnejohiagagmaaGreatDoor
