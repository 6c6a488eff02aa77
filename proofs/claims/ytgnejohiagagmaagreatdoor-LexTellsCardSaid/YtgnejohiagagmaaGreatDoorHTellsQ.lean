/- Plain laws: the reference's way to read a text tells what the program's tells. No program in sight. -/
import Derived.Test.YtgnejohiagagmaaGreatDoorHTells9
import Derived.Test.YtgnejohiagagmaaGreatDoorG9
namespace Tab
open Go.Lib
/-- the first row from k on, of n, whose number is written so. -/
def findRow (g : Bs) : Nat → Nat → Option Nat
  | 0, _ => none
  | n + 1, k => if g == itoa ((k + 1 : Nat) : Int) then some k else findRow g n (k + 1)
def treadRest (n rest : Bs) : RefD × Int :=
  match colOf ((unD rest).takeWhile isLetterB) with
  | none => (RefD.zero, 20)
  | some c => match findRow (unD (restD rest)) 200 0 with
    | none => (RefD.zero, 20)
    | some r => (⟨⟨n.toArray⟩, r, c, hasPrefix (restD rest) [36], hasPrefix rest [36], false⟩, 0)
def treadD (l : Bs) : RefD × Int :=
  if l = [35, 82, 69, 70, 33] then (RefD.gone, 0)
  else if (tsheetD l).2 < 0 then (RefD.zero, 20) else treadRest (tsheetD l).1 (l.drop (tsheetD l).2.toNat)
theorem findRow_some (g : Bs) : ∀ n k r, findRow g n k = some r → g = itoa ((r + 1 : Nat) : Int) ∧ k ≤ r ∧ r < k + n
  | 0, k, r, h => by cases h
  | n + 1, k, r, h => by
    unfold findRow at h
    split at h
    · rename_i he
      injection h with h; subst h
      exact ⟨by simpa using he, by omega, by omega⟩
    · obtain ⟨h1, h2, h3⟩ := findRow_some g n (k + 1) r h
      exact ⟨h1, by omega, by omega⟩
theorem findRow_none (g : Bs) : ∀ n k, findRow g n k = none → ∀ r, k ≤ r → r < k + n → g ≠ itoa ((r + 1 : Nat) : Int)
  | 0, k, _, r, h1, h2 => by omega
  | n + 1, k, h, r, h1, h2 => by
    unfold findRow at h
    split at h
    · cases h
    · rename_i he
      by_cases e : r = k
      · subst e; simpa using he
      · exact findRow_none g n (k + 1) h r (by omega) (by omega)
theorem tw_full (P : UInt8 → Bool) (l : Bs) (h : l.all P = true) : l.takeWhile P = l ∧ l.dropWhile P = [] := by
  have := tw_pass P l [] h
  rw [List.append_nil] at this
  exact ⟨this.1.trans (by simp), this.2.trans rfl⟩
theorem tw_split (P : UInt8 → Bool) (l : Bs) (h : l.dropWhile P = []) : l.takeWhile P = l := by
  have := List.takeWhile_append_dropWhile (p := P) (l := l)
  rw [h, List.append_nil] at this; exact this
/-- the rest alike, where the name may be. -/
theorem rest_is (n rest : Bs) (hn : n.isEmpty || nameB n) : treadRest n rest = readRest n rest true := by
  unfold treadRest readRest
  generalize unD (restD rest) = g
  generalize hasPrefix (restD rest) [36] = fr
  generalize hasPrefix rest [36] = fc
  cases hc : colOf ((unD rest).takeWhile isLetterB) with
  | none => rw [readOf_col _ _ _ _ _ _ _ hc]
  | some c =>
    have hc52 : c < 52 := by
      unfold colOf at hc
      split at hc
      · cases hc
      · have : ∀ g n k c, findCol g n k = some c → c < k + n := by
          intro g n
          induction n with
          | zero => intro k c h; cases h
          | succ n ih =>
            intro k c h
            unfold findCol at h
            split at h
            · injection h with h; omega
            · have := ih _ _ h; omega
        have := this _ _ _ _ hc
        omega
    dsimp only
    cases hr : findRow g 200 0 with
    | some r =>
      obtain ⟨hg, _, hr2⟩ := findRow_some _ _ _ _ hr
      obtain ⟨k1, k2, k3⟩ := row_of ((r + 1 : Nat) : Int) (by omega) (by omega)
      have hw := tw_full isDigitB g (by rw [hg]; exact k2)
      rw [hw.1, hw.2, hg]
      rw [readOf_yes _ _ _ _ _ c _ hc k1]
      have e : (((r + 1 : Nat) : Int) - 1) = r := by omega
      rw [e, if_pos]
      rw [right_at _ _ _ _ _ (by exact hn)]
      exact decide_eq_true (by omega)
    | none =>
      have hno := findRow_none _ _ _ hr
      symm
      by_cases h4 : g.dropWhile isDigitB = []
      · have hg := tw_split _ _ h4
        rw [h4, hg]
        cases hv : rowOf g with
        | none => exact readOf_row _ _ _ _ _ _ _ hv
        | some v =>
          have hi : itoa v = g := by
            unfold rowOf at hv
            split at hv
            · split at hv
              · rename_i he; injection hv with hv; rw [← hv]; exact he
              · cases hv
            · cases hv
          rw [readOf_yes _ _ _ _ _ c v hc hv, if_neg]
          intro hR
          have hR2 := right_parts hR rfl
          obtain ⟨_, b1, b2, _⟩ := hR2
          dsimp only at b1 b2
          exact hno (v - 1).toNat (by omega) (by omega) (by rw [← hi]; congr 1; omega)
      · exact readOf_more _ _ _ _ _ _ _ h4
end Tab
/- Plain laws: a text is read alike, from the front or from its last sign of exclamation. No program in sight. -/
namespace Tab
open Go.Lib
/-- what is told of a text behind an apostrophe. -/
theorem unqF_some : ∀ (x : Bs) (n : Bs) (c : Nat), unqF x = some (n, c) → ∃ y, x = dbl n ++ 39 :: y ∧ c = (dbl n).length + 1 ∧ ∀ b z, y = b :: z → b ≠ 39
  | [], n, c, h => by cases h
  | [a], n, c, h => by
    unfold unqF at h
    split at h
    · rename_i ha; injection h with h; injection h with h1 h2; subst h1 h2 ha
      exact ⟨[], rfl, rfl, fun b z e => by cases e⟩
    · cases h
  | a :: b :: l, n, c, h => by
    unfold unqF at h
    split at h
    · rename_i ha
      split at h
      · rename_i hb
        cases hu : unqF l with
        | none => rw [hu] at h; cases h
        | some p =>
          rw [hu] at h
          injection h with h; injection h with h1 h2
          obtain ⟨y, e1, e2, e3⟩ := unqF_some l p.1 p.2 hu
          refine ⟨y, ?_, ?_, e3⟩
          · rw [← h1, ha, hb, e1]; rfl
          · rw [← h2, ← h1, e2]; show _ = (dbl (39 :: p.1)).length + 1; rw [dbl_cons, if_pos rfl]; simp
      · rename_i hb
        injection h with h; injection h with h1 h2; subst h1 h2 ha
        exact ⟨b :: l, rfl, rfl, fun b' z e => by injection e with e _; rw [← e]; exact hb⟩
    · rename_i ha
      cases hu : unqF (b :: l) with
      | none => rw [hu] at h; cases h
      | some p =>
        rw [hu] at h
        injection h with h; injection h with h1 h2
        obtain ⟨y, e1, e2, e3⟩ := unqF_some (b :: l) p.1 p.2 hu
        refine ⟨y, ?_, ?_, e3⟩
        · rw [← h1, e1]; show _ = dbl (a :: p.1) ++ _; rw [dbl_cons, if_neg ha]; rfl
        · rw [← h2, ← h1, e2]; show _ = (dbl (a :: p.1)).length + 1; rw [dbl_cons, if_neg ha]; simp
theorem unqF_at (n y : Bs) (hy : ∀ b z, y = b :: z → b ≠ 39) : unqF (dbl n ++ 39 :: y) = some (n, (dbl n).length + 1) := by
  induction n with
  | nil => exact unq_end y hy
  | cons b n ih =>
    rw [dbl_cons]
    by_cases hb : b = 39
    · subst hb
      rw [if_pos rfl]
      show unqF (39 :: 39 :: (dbl n ++ 39 :: y)) = _
      rw [unq_two, ih]; simp [shiftP]
    · rw [if_neg hb]
      show unqF (b :: (dbl n ++ 39 :: y)) = _
      rw [unq_other _ _ hb, ih]; simp [shiftP]
theorem head39 (x : Bs) : plainB (39 :: x) = false := by
  unfold plainB plainFrom
  rw [show (isLetterB 39 || (39 : UInt8) == 95 || (isDigitB 39 && !true)) = false from by decide]; rfl
theorem has33 (n : Bs) (h : (33 : UInt8) ∈ n) : plainB n = false := by
  have : ∀ (n : Bs) (f : Bool), (33 : UInt8) ∈ n → plainFrom f n = false := by
    intro n
    induction n with
    | nil => intro f h; cases h
    | cons b n ih =>
      intro f h
      unfold plainFrom
      rcases List.mem_cons.1 h with h | h
      · subst h; rw [show (isLetterB 33 || (33 : UInt8) == 95 || (isDigitB 33 && !f)) = false from by cases f <;> decide]; rfl
      · rw [ih _ h, Bool.and_false]
  unfold plainB; rw [this n true h]; rfl
theorem apos_in (x : Bs) (h : (39 : UInt8) ∈ x) : contains x [39] = true := by
  have : ∀ x : Bs, (39 : UInt8) ∈ x → 0 ≤ index x [39] := by
    intro x
    induction x with
    | nil => intro h; cases h
    | cons b x ih =>
      intro h
      unfold index
      split
      · omega
      · rename_i hp
        rw [pre1, beq_iff_eq] at hp
        rcases List.mem_cons.1 h with h | h
        · exact absurd h hp
        · have := ih h
          rw [if_neg (by rw [beq_iff_eq]; omega)]; omega
  unfold contains; exact decide_eq_true (this x h)
theorem part_quoted (x r : Bs) : (∃ n, x = dbl n ++ [39] ∧ n ≠ [] ∧ partD (39 :: x) r = (n, r, nameB n)) ∨ ((¬ ∃ n, x = dbl n ++ [39] ∧ n ≠ []) ∧ (partD (39 :: x) r).2.2 = false) := by
  by_cases hx : ∃ n, x = dbl n ++ [39] ∧ n ≠ []
  · obtain ⟨n, hx, hn⟩ := hx
    left
    refine ⟨n, hx, hn, ?_⟩
    rw [hx]; exact partD_quoted n r hn
  · right
    refine ⟨hx, ?_⟩
    unfold partD
    rw [if_neg (by rw [head39]; exact Bool.false_ne_true)]
    split
    · rfl
    · rename_i h
      simp only [not_or, Decidable.not_not] at h
      obtain ⟨h1, _, h3⟩ := h
      have hx' : ∃ x', x = x' ++ [39] := by
        rcases List.eq_nil_or_concat x with e | ⟨x', b, e⟩
        · rw [e] at h1; simp at h1
        · rw [e] at h3
          rw [List.concat_eq_append, ← List.cons_append, List.getLast?_append] at h3
          simp at h3
          exact ⟨x', by rw [e, h3]; simp⟩
      obtain ⟨x', rfl⟩ := hx'
      have e : ((39 :: (x' ++ [39])).take ((39 :: (x' ++ [39])).length - 1)).drop 1 = x' := by simp
      rw [e]
      dsimp only
      by_cases hm : (39 : UInt8) ∈ non x'
      · rw [apos_in _ hm]; rfl
      · exfalso
        refine hx ⟨und x', by rw [dbl_und x' hm], fun e => ?_⟩
        have := dbl_und x' hm
        rw [e] at this
        rw [← this] at h1
        simp [dbl] at h1
/-- a sign of exclamation is left in the rest. -/
theorem rest33 (n rest : Bs) (is : Bool) (h : (33 : UInt8) ∈ rest) : readRest n rest is = (RefD.zero, 20) := by
  unfold readRest
  refine readOf_more _ _ _ _ _ _ _ ?_
  have k1 : (33 : UInt8) ∈ unD rest := by
    unfold unD trimPrefix
    split
    · rename_i hp
      cases rest with
      | nil => cases h
      | cons b l =>
        have hb : b = 36 := by
          unfold hasPrefix at hp
          simp [List.isPrefixOf] at hp
          exact hp.symm
        subst hb
        simpa using h
    · exact h
  have drop_in : ∀ (P : UInt8 → Bool), P 33 = false → ∀ l : Bs, (33 : UInt8) ∈ l → (33 : UInt8) ∈ l.dropWhile P := by
    intro P hP l
    induction l with
    | nil => intro h; cases h
    | cons b l ih =>
      intro h
      rw [List.dropWhile_cons]
      split
      · rename_i hb
        rcases List.mem_cons.1 h with h | h
        · subst h; rw [hP] at hb; cases hb
        · exact ih h
      · exact h
  have k2 : (33 : UInt8) ∈ restD rest := drop_in _ (by decide) _ k1
  have k3 : (33 : UInt8) ∈ unD (restD rest) := by
    generalize restD rest = m at *
    unfold unD trimPrefix
    split
    · rename_i hp
      cases m with
      | nil => cases k2
      | cons b l =>
        have hb : b = 36 := by
          unfold hasPrefix at hp
          simp [List.isPrefixOf] at hp
          exact hp.symm
        subst hb
        simpa using k2
    · exact k2
  intro e
  have := drop_in isDigitB (by decide) _ k3
  rw [e] at this; cases this
theorem rest39 (n r : Bs) (is : Bool) : readRest n (39 :: r) is = (RefD.zero, 20) := by
  unfold readRest
  refine readOf_col _ _ _ _ _ _ _ ?_
  have : unD (39 :: r) = 39 :: r := by
    unfold unD trimPrefix
    rw [if_neg]
    intro h; unfold hasPrefix at h; simp [List.isPrefixOf] at h
  rw [this, List.takeWhile_cons, if_neg (by decide)]
  decide
theorem last33 (l : Bs) (h : (33 : UInt8) ∈ l) : ∃ n r, l = n ++ 33 :: r ∧ (33 : UInt8) ∉ r := by
  induction l with
  | nil => cases h
  | cons b l ih =>
    by_cases hl : (33 : UInt8) ∈ l
    · obtain ⟨n, r, e, hr⟩ := ih hl
      exact ⟨b :: n, r, by rw [e]; rfl, hr⟩
    · rcases List.mem_cons.1 h with h | h
      · exact ⟨[], l, by rw [← h]; rfl, hl⟩
      · exact absurd h hl
theorem last33_one (n r n' r' : Bs) (h : (33 : UInt8) ∉ r) (h' : (33 : UInt8) ∉ r') (e : n ++ 33 :: r = n' ++ 33 :: r') : n = n' ∧ r = r' := by
  induction n generalizing n' with
  | nil =>
    cases n' with
    | nil => injection e with _ e; exact ⟨rfl, e⟩
    | cons b n' =>
      injection e with e1 e2
      rw [e2] at h; exact absurd (by simp) h
  | cons b n ih =>
    cases n' with
    | nil =>
      injection e with e1 e2
      rw [← e2] at h'; exact absurd (by simp) h'
    | cons b' n' =>
      injection e with e1 e2
      obtain ⟨h1, h2⟩ := ih n' e2
      exact ⟨by rw [e1, h1], h2⟩
end Tab
/- Plain laws: what the reference reads is what the program reads. No program in sight. -/
namespace Tab
open Go.Lib
theorem rest_false (n r : Bs) : readRest n r false = (RefD.zero, 20) := by unfold readRest; exact readOf_is _ _ _ _ _ _
theorem part_head (x r : Bs) (h : x.head? ≠ some 39) : partD x r = if plainB x then (x, r, nameB x) else ([], [], false) := by
  unfold partD
  split
  · rfl
  · rw [if_pos (.inr (.inl h))]
theorem tread_err {l : Bs} (h : (tsheetD l).2 < 0) : (if (tsheetD l).2 < 0 then ((RefD.zero, 20) : RefD × Int) else treadRest (tsheetD l).1 (l.drop (tsheetD l).2.toNat)) = (RefD.zero, 20) := if_pos h
theorem tread_ok {l n : Bs} {q : Nat} (h : tsheetD l = (n, (q : Int))) : (if (tsheetD l).2 < 0 then ((RefD.zero, 20) : RefD × Int) else treadRest (tsheetD l).1 (l.drop (tsheetD l).2.toNat)) = treadRest n (l.drop q) := by
  rw [h]; dsimp only; rw [if_neg (by omega), Int.toNat_natCast]
theorem unqD_cons (t : Bs) : unqD (39 :: t) = (match unqF t with
    | none => ([], -1)
    | some p => (p.1, (p.2 : Int) + 1)) := by
  conv => lhs; unfold unqD
  dsimp only
  rw [if_pos rfl]
  cases unqF t <;> rfl
theorem unqD_not (l : Bs) (h : l.head? ≠ some 39) : unqD l = ([], -1) := by
  cases l with
  | nil => rfl
  | cons a t =>
    show (if a = 39 then _ else _) = _
    rw [if_neg (fun e => h (by rw [e]; rfl))]
/-- nothing stands between apostrophes: up to the first sign of exclamation. -/
theorem tsheet_neg (l : Bs) (h : (unqD l).2 < 0) : tsheetD l = if (l.takeWhile (· != 33)).length = l.length then ([], 0)
    else if plainB (l.takeWhile (· != 33)) then finD l (l.takeWhile (· != 33)) (l.takeWhile (· != 33)).length else ([], -1) := by unfold tsheetD; rw [if_pos h]
theorem tw33_none (l : Bs) (h : (33 : UInt8) ∉ l) : l.takeWhile (· != 33) = l := by
  refine (tw_full _ l ?_).1
  rw [List.all_eq_true]; intro b hb
  rw [bne_iff_ne]; intro e; exact h (e ▸ hb)
theorem tw33_some (p r : Bs) (h : (33 : UInt8) ∉ p) : (p ++ 33 :: r).takeWhile (· != 33) = p := by
  have := tw_pass (· != (33 : UInt8)) p (33 :: r) (by rw [List.all_eq_true]; intro b hb; rw [bne_iff_ne]; intro e; exact h (e ▸ hb))
  rw [this.1]; simp
theorem first33 (l : Bs) (h : (33 : UInt8) ∈ l) : ∃ p r, l = p ++ 33 :: r ∧ (33 : UInt8) ∉ p := by
  induction l with
  | nil => cases h
  | cons b l ih =>
    by_cases hb : b = 33
    · exact ⟨[], l, by rw [hb]; rfl, by simp⟩
    · rcases List.mem_cons.1 h with h | h
      · exact absurd h.symm hb
      · obtain ⟨p, r, e, hp⟩ := ih h
        refine ⟨b :: p, r, by rw [e]; rfl, ?_⟩
        intro hm
        rcases List.mem_cons.1 hm with hm | hm
        · exact hb hm.symm
        · exact hp hm
theorem fin_at (p r n : Bs) (hn : nameB n = true) : finD (p ++ 33 :: r) n p.length = (n, (p.length : Int) + 1) := by
  unfold finD; rw [if_pos ⟨hn, by simp⟩]
theorem fin_name (l n : Bs) (k : Nat) (hn : nameB n = false) : finD l n k = ([], -1) := by
  unfold finD; rw [if_neg (by rw [hn]; simp)]
theorem fin_off (l n : Bs) (k : Nat) (h : l[k]? ≠ some 33) : finD l n k = ([], -1) := by
  unfold finD; rw [if_neg (fun e => h e.2)]
/-- a text that begins otherwise than with an apostrophe. -/
theorem read_bare (l : Bs) (h : l.head? ≠ some 39) (x r : Bs) (hl : l = x ++ 33 :: r) (hr : (33 : UInt8) ∉ r) :
    (if (tsheetD l).2 < 0 then ((RefD.zero, 20) : RefD × Int) else treadRest (tsheetD l).1 (l.drop (tsheetD l).2.toNat)) = readRest (partD x r).1 (partD x r).2.1 (partD x r).2.2 := by
  obtain ⟨p, r1, e, hp⟩ := first33 l (by rw [hl]; simp)
  have hu := unqD_not l h
  have hts := tsheet_neg l (by rw [hu]; decide)
  have etw : l.takeWhile (· != 33) = p := by rw [e]; exact tw33_some p r1 hp
  rw [etw, if_neg (by rw [e]; simp)] at hts
  have hx : x.head? ≠ some 39 := by
    intro hh; apply h; rw [hl]
    cases x with
    | nil => cases hh
    | cons b x => exact hh
  rw [part_head x r hx]
  by_cases h1 : (33 : UInt8) ∈ r1
  · -- the first is not the last
    have hx33 : (33 : UInt8) ∈ x := by
      by_cases hm : (33 : UInt8) ∈ x
      · exact hm
      · have := tw33_some x r hm
        rw [← hl, etw] at this
        subst this
        rw [hl] at e
        have := List.append_cancel_left e
        injection this with _ this
        rw [this] at hr; exact absurd h1 hr
    rw [has33 x hx33, if_neg Bool.false_ne_true, rest_false]
    by_cases hpl : plainB p = true
    · rw [if_pos hpl] at hts
      cases hn : nameB p
      · rw [fin_name _ _ _ hn] at hts; exact tread_err (by rw [hts]; decide)
      · have hf : tsheetD l = (p, ((p.length + 1 : Nat) : Int)) := by rw [hts]; (conv => lhs; rw [e, fin_at p r1 p hn]); rfl
        rw [tread_ok hf, rest_is p _ (by rw [hn, Bool.or_true]), rest33]
        rw [e, show p ++ 33 :: r1 = (p ++ [33]) ++ r1 by simp, List.drop_left' (by simp)]; exact h1
    · rw [if_neg hpl] at hts; exact tread_err (by rw [hts]; decide)
  · obtain ⟨rfl, rfl⟩ := last33_one p r1 x r h1 hr (by rw [← e, hl])
    by_cases hpl : plainB p = true
    · rw [if_pos hpl] at hts
      rw [if_pos hpl]
      dsimp only
      cases hn : nameB p
      · rw [fin_name _ _ _ hn] at hts; rw [rest_false]; exact tread_err (by rw [hts]; decide)
      · have hf : tsheetD l = (p, ((p.length + 1 : Nat) : Int)) := by rw [hts]; (conv => lhs; rw [e, fin_at p r1 p hn]); rfl
        rw [tread_ok hf, rest_is p _ (by rw [hn, Bool.or_true])]
        rw [e, show p ++ 33 :: r1 = (p ++ [33]) ++ r1 by simp, List.drop_left' (by simp)]
    · rw [if_neg hpl] at hts; rw [if_neg hpl, rest_false]; exact tread_err (by rw [hts]; decide)
end Tab
/- Plain laws: what the reference reads of any text is what the program reads. No program in sight. -/
namespace Tab
open Go.Lib
/-- a text without a sign of exclamation. -/
theorem read_none (l : Bs) (h : (33 : UInt8) ∉ l) :
    (if (tsheetD l).2 < 0 then ((RefD.zero, 20) : RefD × Int) else treadRest (tsheetD l).1 (l.drop (tsheetD l).2.toNat)) = readRest [] l true := by
  by_cases hu : (unqD l).2 < 0
  · have hts := tsheet_neg l hu
    rw [tw33_none l h, if_pos rfl] at hts
    have hf : tsheetD l = ([], ((0 : Nat) : Int)) := hts
    rw [tread_ok hf, rest_is [] _ (by simp), List.drop_zero]
  · have hh : l.head? = some 39 := by
      by_cases e : l.head? = some 39
      · exact e
      · rw [unqD_not l e] at hu; exact absurd (by decide) hu
    have ht : tsheetD l = ([], -1) := by
      unfold tsheetD
      rw [if_neg hu]
      refine fin_off _ _ _ ?_
      intro e
      exact h (List.mem_of_getElem? e)
    rw [tread_err (by rw [ht]; decide)]
    cases l with
    | nil => cases hh
    | cons b t =>
      injection hh with hh
      subst hh
      rw [rest39]
/-- a text that begins with an apostrophe. -/
theorem read_apos (t x1 r : Bs) (hl : t = x1 ++ 33 :: r) (hr : (33 : UInt8) ∉ r) :
    (if (tsheetD (39 :: t)).2 < 0 then ((RefD.zero, 20) : RefD × Int) else treadRest (tsheetD (39 :: t)).1 ((39 :: t).drop (tsheetD (39 :: t)).2.toNat)) = readRest (partD (39 :: x1) r).1 (partD (39 :: x1) r).2.1 (partD (39 :: x1) r).2.2 := by
  have hu := unqD_cons t
  rcases part_quoted x1 r with ⟨n, hx, hn, hp⟩ | ⟨hno, hp⟩
  · have ht : t = dbl n ++ 39 :: (33 :: r) := by rw [hl, hx]; simp
    have hq := unqF_at n (33 :: r) (fun b z e => by injection e with e _; rw [← e]; decide)
    rw [← ht] at hq
    rw [hq] at hu
    dsimp only at hu
    have hts : tsheetD (39 :: t) = finD (39 :: t) n ((dbl n).length + 2) := by
      unfold tsheetD
      rw [hu]
      dsimp only
      rw [if_neg (by omega)]
      congr 1
    rw [hp]
    dsimp only
    cases hnm : nameB n
    · rw [fin_name _ _ _ hnm] at hts
      rw [rest_false]; exact tread_err (by rw [hts]; decide)
    · have e1 : 39 :: t = (39 :: dbl n ++ [39]) ++ 33 :: r := by rw [ht]; simp
      have e2 : (39 :: dbl n ++ [39] : Bs).length = (dbl n).length + 2 := by simp
      have hf : tsheetD (39 :: t) = (n, (((dbl n).length + 3 : Nat) : Int)) := by
        rw [hts, e1, ← e2, fin_at _ _ _ hnm, e2]; rfl
      rw [tread_ok hf, rest_is n _ (by rw [hnm, Bool.or_true])]
      congr 1
      rw [ht, show (39 :: (dbl n ++ 39 :: 33 :: r) : Bs) = (39 :: dbl n ++ [39, 33]) ++ r by simp]
      exact List.drop_left' (by simp)
  · rw [hp, rest_false]
    cases hq : unqF t with
    | none =>
      rw [hq] at hu
      dsimp only at hu
      have hts := tsheet_neg (39 :: t) (by rw [hu]; decide)
      obtain ⟨p, r1, e, hp1⟩ := first33 t (by rw [hl]; simp)
      have etw : (39 :: t).takeWhile (· != 33) = 39 :: p := by
        rw [e, show (39 :: (p ++ 33 :: r1) : Bs) = (39 :: p) ++ 33 :: r1 from rfl]
        exact tw33_some (39 :: p) r1 (by simp [hp1])
      rw [etw, if_neg (by rw [e]; simp), head39, if_neg Bool.false_ne_true] at hts
      exact tread_err (by rw [hts]; decide)
    | some q =>
      obtain ⟨n, c⟩ := q
      obtain ⟨y, ht, hc, hy⟩ := unqF_some t n c hq
      rw [hq] at hu
      dsimp only at hu
      have hts : tsheetD (39 :: t) = finD (39 :: t) n ((dbl n).length + 2) := by
        unfold tsheetD
        rw [hu]
        dsimp only
        rw [if_neg (by omega)]
        congr 1
        omega
      have e1 : 39 :: t = (39 :: dbl n ++ [39]) ++ y := by rw [ht]; simp
      have e2 : (39 :: dbl n ++ [39] : Bs).length = (dbl n).length + 2 := by simp
      have eget : (39 :: t)[(dbl n).length + 2]? = y.head? := by
        rw [e1, ← e2, List.getElem?_append_right (Nat.le_refl _), Nat.sub_self, List.head?_eq_getElem?]
      by_cases h33 : y.head? = some 33
      · obtain ⟨z, rfl⟩ : ∃ z, y = 33 :: z := by
          cases y with
          | nil => cases h33
          | cons b z => injection h33 with h33; exact ⟨z, by rw [h33]⟩
        cases hnm : nameB n
        · rw [fin_name _ _ _ hnm] at hts; exact tread_err (by rw [hts]; decide)
        · have hf : tsheetD (39 :: t) = (n, (((dbl n).length + 3 : Nat) : Int)) := by
            rw [hts, e1, ← e2, fin_at _ _ _ hnm, e2]; rfl
          by_cases hz : (33 : UInt8) ∈ z
          · rw [tread_ok hf, rest_is n _ (by rw [hnm, Bool.or_true]), rest33]
            rw [ht, show (39 :: (dbl n ++ 39 :: 33 :: z) : Bs) = (39 :: dbl n ++ [39, 33]) ++ z by simp, List.drop_left' (by simp)]
            exact hz
          · exfalso
            have e3 : (dbl n ++ [39]) ++ 33 :: z = x1 ++ 33 :: r := by rw [← hl, ht]; simp
            obtain ⟨h1, _⟩ := last33_one _ _ _ _ hz hr e3
            exact hno ⟨n, h1.symm, name_ne hnm⟩
      · rw [fin_off _ _ _ (by rw [eget]; exact h33)] at hts
        exact tread_err (by rw [hts]; decide)
theorem tread_is (s : ByteArray) : treadD s.data.toList = readD s := by
  unfold treadD readD
  split
  · rfl
  · have es : s = ⟨s.data.toList.toArray⟩ := (ba_eta s).symm
    by_cases h33 : (33 : UInt8) ∈ s.data.toList
    · obtain ⟨x, r, e, hr⟩ := last33 _ h33
      have hs : sheetD s = partD x r := by rw [es, e]; exact sheetD_some x r hr
      rw [hs]
      by_cases hh : s.data.toList.head? = some 39
      · cases x with
        | nil => rw [e] at hh; injection hh with hh; exact absurd hh (by decide)
        | cons b x1 =>
          rw [e] at hh
          injection hh with hh
          subst hh
          rw [e]
          exact read_apos (x1 ++ 33 :: r) x1 r rfl hr
      · exact read_bare _ hh x r e hr
    · have hs : sheetD s = ([], s.data.toList, true) := by
        conv => lhs; rw [es]
        exact sheetD_none _ h33
      rw [hs]
      exact read_none _ h33
end Tab
