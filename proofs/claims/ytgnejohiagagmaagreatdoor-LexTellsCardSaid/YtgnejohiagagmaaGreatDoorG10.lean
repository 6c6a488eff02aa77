/- The walk of lex.Tokens. The walks of lex.open, stands. Rows of pieces in memory. Rows of pieces whose places may be any numbers. -/
import Derived.Test.YtgnejohiagagmaaGreatDoorG8
import Derived.Test.YtgnejohiagagmaaGreatDoorG9
namespace Tab
open Go
abbrev TokT := Int × Bs × Nat
def toksF (decE : Bs → Int) (s : Bs) : Nat → Nat → List TokT → Except Nat (List TokT)
  | 0, _, acc => .ok acc
  | f + 1, a, acc => if a < s.length then (if s.getD a 0 = 32 then toksF decE s f (a + 1) acc else match nextPD decE (s.drop a) with
      | none => .error a
      | some x => toksF decE s f (a + x.2.2) (acc ++ [(x.1, x.2.1, a)])) else .ok acc
def tokensD (decE : Bs → Int) (s : Bs) : Except Nat (List TokT) := if 200 < s.length then .error 200 else toksF decE s s.length 0 []
theorem toks_blank (decE : Bs → Int) (s : Bs) (f a : Nat) (acc : List TokT) (h : a < s.length) (h2 : s.getD a 0 = 32) : toksF decE s (f + 1) a acc = toksF decE s f (a + 1) acc := by
  show (if _ then _ else _) = _
  rw [if_pos h, if_pos h2]
theorem toks_none (decE : Bs → Int) (s : Bs) (f a : Nat) (acc : List TokT) (h : a < s.length) (h2 : s.getD a 0 ≠ 32) (h3 : nextPD decE (s.drop a) = none) : toksF decE s (f + 1) a acc = .error a := by
  show (if _ then _ else _) = _
  rw [if_pos h, if_neg h2, h3]
theorem toks_some (decE : Bs → Int) (s : Bs) (f a : Nat) (acc : List TokT) (h : a < s.length) (h2 : s.getD a 0 ≠ 32) (k : Int) (S : Bs) (n : Nat) (h3 : nextPD decE (s.drop a) = some (k, S, n)) : toksF decE s (f + 1) a acc = toksF decE s f (a + n) (acc ++ [(k, S, a)]) := by
  show (if _ then _ else _) = _
  rw [if_pos h, if_neg h2, h3]
theorem toks_end (decE : Bs → Int) (s : Bs) (f a : Nat) (acc : List TokT) (h : ¬ a < s.length) : toksF decE s f a acc = .ok acc := by
  cases f with
  | zero => rfl
  | succ f => show (if _ then _ else _) = _; rw [if_neg h]
end Tab
namespace Go.Proofs.YtgnejohiagagmaaGreatDoor
open Go.RowKit Tab

def tokCells (x : TokT) : List Value := [.int .i64 x.1, .string ⟨x.2.1.toArray⟩, .int .i64 (x.2.2 : Int)]
def toksV (L : List TokT) : List Value := L.flatMap tokCells
theorem toksV_len (L : List TokT) : (toksV L).length = L.length * 3 := by
  induction L with
  | nil => rfl
  | cons x l ih =>
    show (tokCells x ++ toksV l).length = _
    rw [List.length_append, ih]; simp [tokCells]; omega
theorem toksV_snoc (L : List TokT) (x : TokT) : toksV (L ++ [x]) = toksV L ++ tokCells x := by unfold toksV; simp
theorem infoTok : (Tryz.prog.info? 25).map (fun i => (i.zero, i.size, i.bytes)) = some (some (.agg #[.int .i64 0, .string ⟨#[]⟩, .int .i64 0]), 3, 32) := by kernel_rfl
def cellInt (w : World) (b o : Nat) : Int := match w.cell? ⟨b, o, none⟩ with
  | some (.int _ j) => j
  | _ => 0
theorem cellInt_of {w : World} {b o : Nat} {C : Array Value} {k : IntKind} {j : Int} (h : Blk w b C) (hj : C[o]? = some (.int k j)) : cellInt w b o = j := by
  unfold cellInt
  rw [h.facts.1 o, hj]
theorem own_mv {w W : World} {base n size b i : Nat} {e : TypeId} {v u : Value} {xs : List Value} (h : w.ownsRow base e size v n xs) (hbb : b < base) (hb : Below w.heap.size (w.setCell ⟨b, i, none⟩ u) W) : W.ownsRow base e size v n xs := by
  have h2 := ownsRow_setCell_below h (a := ⟨b, i, none⟩) hbb u
  refine own_below h2 ?_
  have : (w.setCell ⟨b, i, none⟩ u).heap.size = w.heap.size := by simp [World.setCell]
  rw [this]; exact hb
theorem Blk.moved {w W : World} {b i : Nat} {C : Array Value} {u : Value} (h : Blk w b C) (hb : Below w.heap.size (w.setCell ⟨b, i, none⟩ u) W) : Blk W b (C.setIfInBounds i u) := by
  have hl := h.facts.2.2
  obtain ⟨T, h2⟩ := h.set (i := i) (v := u)
  exact ⟨T, (hb.block b hl).trans h2⟩
/-- what Tokens hands back. -/
def Toks (r : Except Nat (List TokT)) (w : World) (e : Ending) (w' : World) : Prop := match r with
  | .error n => e = .returned (.tuple #[.slice none 0 0, .int .i64 (n : Int), .int .i64 40]) ∧ Below w.heap.size w w'
  | .ok L => ∃ v, e = .returned (.tuple #[v, .int .i64 0, .int .i64 0]) ∧ w'.ownsRow w.heap.size 25 3 v L.length (toksV L) ∧ Below w.heap.size w w'

set_option maxRecDepth 100000 in
set_option maxHeartbeats 8000000 in
theorem Tokens_any (decE : Bs → Int) (hD : DecIs decE) (s : ByteArray) (w : World) (hg : Good w) (hwd : Words w) (hs : s.size ≤ 4611686018427387904) : Calls Tryz.prog 17 #[.string s] w (Toks (tokensD decE s.data.toList) w) := by
  obtain ⟨R, hR⟩ : ∃ R, tokensD decE s.data.toList = R := ⟨_, rfl⟩
  rw [hR]
  unfold tokensD at hR
  rw [ba_size] at hR
  by_cases h2 : 200 < s.size
  · rw [if_pos h2] at hR
    subst hR
    have e2 : decide (200 < (s.size : Int)) = true := decide_eq_true (by omega)
    go_enter Tryz.func17, Tryz.ntmps17
    go_wp2
    go_ret3
    exact ⟨rfl, Below.refl _ _⟩
  · rw [if_neg h2] at hR
    obtain ⟨iT, hi, hz0, hz1, hz2⟩ := info_parts infoTok
    have e2 : decide (200 < (s.size : Int)) = false := decide_eq_false (by omega)
    have HR := Lib.hid hR
    clear hR
    go_enter Tryz.func17, Tryz.ntmps17
    go_wp2_with fail
    go_loopw [5] (fun o w' => ∃ (a f : Nat) (acc : List TokT), a ≤ s.size ∧ s.size ≤ a + f ∧ acc.length ≤ a ∧ w'.ownsRow (w.heap.size + 1) 25 3 o acc.length (toksV acc) ∧ toksF decE s.data.toList f a acc = R ∧ Blk w' w.heap.size (rdC s a) ∧ Below w.heap.size w w') (fun _ w' => s.size - (cellInt w' w.heap.size 1).toNat)
    case atStart => exact ⟨0, s.size, [], by omega, by omega, by simp, ⟨rfl, .inl ⟨rfl, rfl⟩⟩, HR.out, (by apply Blk.eq; (repeat' (first | with_reducible assumption | with_reducible apply Blk.set | with_reducible apply Blk.other | (with_reducible refine Blk.new ?_; simp; done) | with_reducible apply Blk.alloc | omega)); rfl), (by repeat' (first | with_reducible assumption | with_reducible exact Below.refl _ _ | with_reducible refine allocB ?_ | with_reducible refine setB ?_ ?_ | with_reducible refine drewB ?_ | with_reducible refine after ?_ (by assumption) | (simp; omega) | omega))⟩
    case round =>
      clear HR
      obtain ⟨a, f, acc, ha, hf, hal, hown, hI, hb, hB⟩ := hrel
      have HI := Lib.hid hI; clear hI
      have hm := cellInt_of (o := 1) (k := .i64) (j := (a : Int)) hb rfl
      obtain ⟨f0, g0, z0⟩ := hb.facts
      have yb := hB.size
      unfold rdC at f0
      by_cases hlt : a < s.size
      · obtain ⟨f, rfl⟩ : ∃ f', f = f' + 1 := ⟨f - 1, by omega⟩
        have ew : IntKind.i64.wrap ((a : Int) + 1) = ((a + 1 : Nat) : Int) := by rw [IntWalk.i64_in _ (by omega)]; omega
        have hget : s.data.toList.getD a 0 = s[a] := by rw [List.getD_eq_getElem?_getD, List.getElem?_eq_getElem (by rw [ba_size]; exact hlt)]; rfl
        by_cases h32 : s[a] = 32
        · have e32 : ((s[a].toNat : Int) == 32) = true := by rw [h32]; rfl
          have hI := HI.out
          rw [toks_blank _ _ _ _ _ (by rw [ba_size]; exact hlt) (by rw [hget]; exact h32)] at hI
          have HI := Lib.hid hI
          clear hI h32 hget
          go_wp2
          have hb2 : Blk (wr.setCell ⟨w.heap.size, 1, none⟩ (.int .i64 ((a + 1 : Nat) : Int))) w.heap.size (rdC s (a + 1)) := Blk.eq hb.set rfl
          have hm2 := cellInt_of (o := 1) (k := .i64) (j := ((a + 1 : Nat) : Int)) hb2 rfl
          have hown2 := ownsRow_setCell_below hown (a := ⟨w.heap.size, 1, none⟩) (by simp) (.int .i64 ((a + 1 : Nat) : Int))
          go_roundw
          case rel => exact ⟨a + 1, f, acc, by omega, by omega, by omega, hown2, HI.out, hb2, setB hB (Nat.le_refl _)⟩
          case measure =>
            rw [hm]
            have hm3 : cellInt (wr.setCell ⟨w.heap.size, 1, none⟩ (.int .i64 ((a : Int) + 1))) w.heap.size 1 = (a : Int) + 1 := hm2
            simp only [hm3]
            omega
        · have e32 : ((s[a].toNat : Int) == 32) = false := by
            rw [beq_eq_false_iff_ne]; intro e; exact h32 (UInt8.toNat_inj.1 (by have h : s[a].toNat = 32 := by omega
                                                                                rw [h]; rfl))
          have hgn : s.data.toList.getD a 0 ≠ 32 := by rw [hget]; exact h32
          have cN := fun W (h : Below w.heap.size w W) hb' => nextP_any decE hD w.heap.size s a hlt (by omega) W (hg.below h) hb' (hwd.below h)
          have hr := next_range decE (s.data.toList.drop a)
          have hls : (s.data.toList.drop a).length = s.size - a := by rw [List.length_drop, ba_size]
          cases hp : nextPD decE (s.data.toList.drop a) with
          | none =>
            have hI := HI.out
            rw [toks_none _ _ _ _ _ (by rw [ba_size]; exact hlt) hgn hp] at hI
            subst hI
            rw [hp] at cN
            clear HI hp hr hgn hget h32
            go_wp2_with fail
            refine (cN wr hB hb).mono ?_; rintro e w9 ⟨k9, S9, p9, rfl, hb9⟩
            have hB9 := after hB hb9
            unfold tokV
            go_wp2
            go_ret3
            exact ⟨rfl, (by repeat' (first | with_reducible assumption | with_reducible exact Below.refl _ _ | with_reducible refine allocB ?_ | with_reducible refine setB ?_ ?_ | with_reducible refine drewB ?_ | with_reducible refine after ?_ (by assumption) | (simp; omega) | omega))⟩
          | some x =>
            obtain ⟨k9, S9, n9⟩ := x
            have hI := HI.out
            rw [toks_some _ _ _ _ _ (by rw [ba_size]; exact hlt) hgn k9 S9 n9 hp] at hI
            have hr9 := hr _ hp
            dsimp only at hr9
            rw [hls] at hr9
            rw [hp] at cN
            have HI := Lib.hid hI
            clear hI hp hr hgn hget h32 hls
            go_wp2_with fail
            refine (cN wr hB hb).mono ?_; rintro e w9 ⟨rfl, hb9⟩
            dsimp only at hb9
            have hown9 := own_mv hown (by omega) hb9
            have hbk : Blk w9 w.heap.size (rdC s (a + n9)) := Blk.eq (hb.moved hb9) rfl
            have hB9 : Below w.heap.size w w9 := (setB hB (Nat.le_refl _)).trans (hb9.mono (by exact hB.size))
            clear hb9 f0 g0 z0
            unfold tokV
            have hz9 := hB9.size
            go_wp2_with (at_builtin; refine held ?_)
            unfold Held
            refine wpList_append_own _ rfl _ _ 22 rfl (w.heap.size + 1) 25 iT (.agg #[.int .i64 0, .string ⟨#[]⟩, .int .i64 0]) 3 32 Tryz.underlying22 hi hz0 hz1 hz2 rfl (by decide) _ _ _ rfl ((hown9.alloc _).alloc _) ⟨w9.heap.size + 1, 0, none⟩ 1 1 (tokCells (k9, S9, a)) rfl rfl ?_ ?_ ?_ ?_ ?_ ?_
            · intro j u hj
              match j, hj with
              | 0, hj => injection hj with hj; subst hj; simp [go_sem]
              | 1, hj => injection hj with hj; subst hj; simp [go_sem]
              | 2, hj => injection hj with hj; subst hj; simp [go_sem]
            · intro u hu
              simp only [tokCells, List.mem_cons, List.not_mem_nil, or_false] at hu
              rcases hu with rfl | rfl | rfl <;> rfl
            · unfold maxLen; omega
            · omega
            · simp; omega
            intro v' w10 hown' hgrow _
            have hB10 : Below w.heap.size w w10 := (allocB (allocB hB9)).grown hgrow (by simp; omega) (fun k hk => Nat.le_trans (Nat.le_succ _) (own_row hown9 k hk))
            have hbk10 : Blk w10 w.heap.size (rdC s (a + n9)) := hbk.alloc.alloc.grown hgrow (fun h => by have := own_row hown9 _ h; omega)
            have hm2 := cellInt_of (o := 1) (k := .i64) (j := ((a + n9 : Nat) : Int)) hbk10 rfl
            go_wp2
            go_roundw
            case rel => exact ⟨a + n9, f, acc ++ [(k9, S9, a)], by omega, by omega, by rw [List.length_append]; simp only [List.length_cons, List.length_nil]; omega, by rw [List.length_append, toksV_snoc]; exact hown', HI.out, hbk10, hB10⟩
            case measure => rw [hm, hm2]; omega
      · have hI := HI.out
        rw [toks_end _ _ _ _ _ (by rw [ba_size]; exact hlt)] at hI
        subst hI
        clear HI
        go_wp2
        go_ret3
        exact ⟨_, rfl, own_mono hown (by omega), hB⟩
end Go.Proofs.YtgnejohiagagmaaGreatDoor

namespace Tab
def openD (k : Int) (l : Bs) : Bool := k == 8 && l == [40]
def dq (l : Bs) : Bs := l.flatMap fun b => if b = 34 then [34, 34] else [b]
theorem dq_cons (b : UInt8) (l : Bs) : dq (b :: l) = (if b = 34 then [34, 34] else [b]) ++ dq l := rfl
theorem dq_len (l : Bs) : (dq l).length ≤ 2 * l.length := by
  induction l with
  | nil => simp [dq]
  | cons b l ih => rw [dq_cons]; split <;> simp <;> omega
section
open Go.Lib
theorem preq (b : UInt8) (l : Bs) : ([34] : Bs).isPrefixOf (b :: l) = (34 == b) := by simp [List.isPrefixOf]
theorem repl_dq (s : Bs) : replaceAll s [34] [34, 34] = dq s := by
  induction s with
  | nil => exact repl_nil rfl (by simp)
  | cons b l ih =>
    by_cases hb : b = 34
    · subst hb
      rw [repl_at rfl (by simp) _ (by rw [preq]; rfl), dq_cons, if_pos rfl]
      show [34, 34] ++ replaceAll l _ _ = _
      rw [ih]
    · rw [repl_off rfl (by simp) b l (by rw [preq, beq_eq_false_iff_ne]; exact fun e => hb e.symm), ih, dq_cons, if_neg hb]; rfl
end
/-- a piece as it stands. -/
def standsD (k : Int) (l : Bs) : Bs := if k == 2 then [34] ++ dq l ++ [34] else l
end Tab
namespace Go.Proofs.YtgnejohiagagmaaGreatDoor
open Go.RowKit Tab

/-- a piece. -/
def tokI (k : Int) (l : Bs) (a : Int) : Value := .agg #[.int .i64 k, .string ⟨l.toArray⟩, .int .i64 a]

set_option maxRecDepth 100000 in
set_option maxHeartbeats 2000000 in
theorem open_any (k : Int) (l : Bs) (a : Int) (w : World) : Calls Tryz.prog 22 #[tokI k l a] w (Ret (.bool (openD k l)) w) := by
  unfold openD tokI
  obtain ⟨A, hA⟩ : ∃ A, (k == 8) = A := ⟨_, rfl⟩
  obtain ⟨B, hB⟩ : ∃ B, (l == [40]) = B := ⟨_, rfl⟩
  rw [hA, hB]
  cases A <;> cases B
  all_goals (
    go_enter Tryz.func22, Tryz.ntmps22
    go_wp2
    go_ret; exact Ret.mk' rfl (allocB (Below.refl _ _)))

set_option maxRecDepth 100000 in
set_option maxHeartbeats 2000000 in
theorem stands_any (k : Int) (l : Bs) (hl : l.length ≤ 1000000) (a : Int) (w : World) (hg : Good w) : Calls Tryz.prog 26 #[tokI k l a] w (Ret (strV (standsD k l)) w) := by
  unfold standsD tokI strV
  obtain ⟨A, hA⟩ : ∃ A, (k == 2) = A := ⟨_, rfl⟩
  rw [hA]
  cases A
  · go_enter Tryz.func26, Tryz.ntmps26
    go_wp2
    go_ret; exact Ret.mk' rfl (allocB (Below.refl _ _))
  · have hsz : (⟨l.toArray⟩ : ByteArray).size = l.length := by show l.toArray.size = _; simp
    have hcb : Lib.countB ⟨l.toArray⟩ ⟨#[34]⟩ ≤ (⟨l.toArray⟩ : ByteArray).size := Lib.countB_le ⟨#[34]⟩ (by decide) _ ⟨l.toArray⟩ (Nat.le_refl _)
    have cA : ∀ W, Below w.heap.size w W → Calls Tryz.prog 58 #[.string ⟨l.toArray⟩, .string ⟨#[34]⟩, .string ⟨#[34, 34]⟩] W (Ret (.string ⟨(Lib.replaceAll l [34] [34, 34]).toArray⟩) W) := fun W hb => Tryz.strings_ReplaceAll_shaped ⟨l.toArray⟩ ⟨#[34]⟩ ⟨#[34, 34]⟩ W (hg.below hb).shaped (by omega) (by decide) (by rw [show (ByteArray.mk #[34, 34]).size = 2 from rfl]; omega)
    have hW : Below w.heap.size w (w.alloc (Obj.cells #[.int .i64 k, .string ⟨l.toArray⟩, .int .i64 a] 25)) := allocB (Below.refl _ _)
    have HW := Lib.hid hW
    rw [repl_dq] at cA
    have hR : (dq l).length ≤ 2000000 := by have := dq_len l; omega
    clear hcb hsz hW
    generalize dq l = R at *
    go_enter Tryz.func26, Tryz.ntmps26
    go_wp2_with fail
    refine (cA _ HW.out).mono ?_; rintro e w1 ⟨rfl, hb1⟩
    have hb := after HW.out hb1
    clear hb1
    go_wp2
    go_ret; exact Ret.mk' (strV_eq (by rw [ba_append, ba_append]; rfl)) hb
end Go.Proofs.YtgnejohiagagmaaGreatDoor

namespace Go.Proofs.YtgnejohiagagmaaGreatDoor
open Go.RowKit Tab

/-- pieces' cells from a place on. -/
def TokCells (w : World) (b o : Nat) (L : List TokT) : Prop := ∀ (i : Nat) (x : TokT), L[i]? = some x →
  w.cell? ⟨b, o + i * 3, none⟩ = some (.int .i64 x.1) ∧ w.cell? ⟨b, o + i * 3 + 1, none⟩ = some (.string ⟨x.2.1.toArray⟩) ∧ w.cell? ⟨b, o + i * 3 + 2, none⟩ = some (.int .i64 (x.2.2 : Int))
/-- a slice of pieces: nil, or so many cells of a block. -/
def TokRow (w : World) (v : Value) (L : List TokT) : Prop :=
  (v = .slice none 0 0 ∧ L = []) ∨ ∃ b o cap, v = .slice (some ⟨b, o, none⟩) L.length cap ∧ L.length ≤ cap ∧ b < w.heap.size ∧ TokCells w b o L
theorem TokCells.below {B : Nat} {w W : World} {b o : Nat} {L : List TokT} (h : TokCells w b o L) (hb : Below B w W) (hB : b < B) : TokCells W b o L := fun i x hx => by
  rw [hb.cell (p := ⟨b, o + i * 3, none⟩) hB, hb.cell (p := ⟨b, o + i * 3 + 1, none⟩) hB, hb.cell (p := ⟨b, o + i * 3 + 2, none⟩) hB]
  exact h i x hx
theorem TokRow.below {w W : World} {v : Value} {L : List TokT} (h : TokRow w v L) (hb : Below w.heap.size w W) : TokRow W v L := by
  rcases h with h | ⟨b, o, cap, h1, h2, h3, h4⟩
  · exact .inl h
  · exact .inr ⟨b, o, cap, h1, h2, Nat.lt_of_lt_of_le h3 hb.size, h4.below hb h3⟩
theorem toksV_at : ∀ (L : List TokT) (i : Nat) (x : TokT), L[i]? = some x → (toksV L)[i * 3]? = some (.int .i64 x.1) ∧ (toksV L)[i * 3 + 1]? = some (.string ⟨x.2.1.toArray⟩) ∧ (toksV L)[i * 3 + 2]? = some (.int .i64 (x.2.2 : Int))
  | [], i, x, h => by simp at h
  | y :: l, 0, x, h => by
    simp at h; subst h
    exact ⟨rfl, rfl, rfl⟩
  | y :: l, i + 1, x, h => by
    have := toksV_at l i x (by simpa using h)
    rw [show (i + 1) * 3 = i * 3 + 3 by omega]
    exact this
theorem tokRow_of_own {w : World} {base : Nat} {v : Value} {L : List TokT} {e : TypeId} (h : w.ownsRow base e 3 v L.length (toksV L)) : TokRow w v L := by
  rcases h.2 with ⟨h1, h2⟩ | ⟨g, cap, cur, h1, h2, h3, h4, h5, h6, h7⟩
  · exact .inl ⟨h1, List.length_eq_zero_iff.1 h2⟩
  · refine .inr ⟨g, 0, cap, h1, h4, ?_, fun i x hx => ?_⟩
    · rcases Nat.lt_or_ge g w.heap.size with h | h
      · exact h
      · simp [Array.getElem?_eq_none h] at h3
    · have hi : i < L.length := (List.getElem?_eq_some_iff.1 hx).1
      obtain ⟨k0, k1, k2⟩ := toksV_at L i x hx
      have hc : ∀ j, j < L.length * 3 → w.cell? ⟨g, j, none⟩ = (toksV L)[j]? := fun j hj => by
        rw [Lib.cell_of_heap h3, ← h7, List.getElem?_take, if_pos hj, Array.getElem?_toList]
      rw [Nat.zero_add, hc _ (by omega), hc _ (by omega), hc _ (by omega)]
      exact ⟨k0, k1, k2⟩
end Go.Proofs.YtgnejohiagagmaaGreatDoor

namespace Go.Proofs.YtgnejohiagagmaaGreatDoor
open Go.RowKit Tab

/-- pieces' cells from a place on; what they say of their places is left open. -/
def TokCellsA (w : World) (b o : Nat) (L : List TokT) : Prop := ∀ (i : Nat) (x : TokT), L[i]? = some x →
  w.cell? ⟨b, o + i * 3, none⟩ = some (.int .i64 x.1) ∧ w.cell? ⟨b, o + i * 3 + 1, none⟩ = some (.string ⟨x.2.1.toArray⟩) ∧ ∃ a : Int, w.cell? ⟨b, o + i * 3 + 2, none⟩ = some (.int .i64 a)
def TokRowA (w : World) (v : Value) (L : List TokT) : Prop :=
  (v = .slice none 0 0 ∧ L = []) ∨ ∃ b o cap, v = .slice (some ⟨b, o, none⟩) L.length cap ∧ L.length ≤ cap ∧ b < w.heap.size ∧ TokCellsA w b o L
theorem TokCellsA.below {B : Nat} {w W : World} {b o : Nat} {L : List TokT} (h : TokCellsA w b o L) (hb : Below B w W) (hB : b < B) : TokCellsA W b o L := fun i x hx => by
  rw [hb.cell (p := ⟨b, o + i * 3, none⟩) hB, hb.cell (p := ⟨b, o + i * 3 + 1, none⟩) hB, hb.cell (p := ⟨b, o + i * 3 + 2, none⟩) hB]
  exact h i x hx
theorem TokRowA.below {w W : World} {v : Value} {L : List TokT} (h : TokRowA w v L) (hb : Below w.heap.size w W) : TokRowA W v L := by
  rcases h with h | ⟨b, o, cap, h1, h2, h3, h4⟩
  · exact .inl h
  · exact .inr ⟨b, o, cap, h1, h2, Nat.lt_of_lt_of_le h3 hb.size, h4.below hb h3⟩
theorem TokRow.any {w : World} {v : Value} {L : List TokT} (h : TokRow w v L) : TokRowA w v L := by
  rcases h with h | ⟨b, o, cap, h1, h2, h3, h4⟩
  · exact .inl h
  · exact .inr ⟨b, o, cap, h1, h2, h3, fun i x hx => ⟨(h4 i x hx).1, (h4 i x hx).2.1, _, (h4 i x hx).2.2⟩⟩
end Go.Proofs.YtgnejohiagagmaaGreatDoor
