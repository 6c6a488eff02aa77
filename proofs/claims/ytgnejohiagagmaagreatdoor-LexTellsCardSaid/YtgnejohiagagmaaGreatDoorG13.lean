/- The walk of lex.Print. The walk of tabularef04.Same. -/
import Derived.Test.YtgnejohiagagmaaGreatDoorG11
import Derived.Test.YtgnejohiagagmaaGreatDoorG10
import Derived.Test.YtgnejohiagagmaaGreatDoorG12
import Derived.BigQuiet
namespace Tab
def openHd : List TokT → Bool
  | [] => false
  | y :: _ => openD y.1 y.2.1
def gapD : Option TokT → TokT → Bs
  | none, _ => []
  | some p, x => if apartD p.1 p.2.1 x.1 x.2.1 then [32] else []
def printF (decE : Bs → Int) : List TokT → Option TokT → Bs → Option Bs
  | [], _, acc => some acc
  | x :: L, p, acc => if (!rightD decE x.1 x.2.1 || (x.1 == 7 && !openHd L)) = true then none
    else if 200 < (acc ++ gapD p x ++ standsD x.1 x.2.1).length then none
    else printF decE L (some x) (acc ++ gapD p x ++ standsD x.1 x.2.1)
def printE : Option Bs → Bs × Int
  | none => ([], 40)
  | some s => (s, 0)
/-- pieces as a text, and an error's number. -/
def printD (decE : Bs → Int) (L : List TokT) : Bs × Int := printE (printF decE L none [])
theorem print_bad (decE : Bs → Int) (x : TokT) (L : List TokT) (p : Option TokT) (acc : Bs) (h : (!rightD decE x.1 x.2.1 || (x.1 == 7 && !openHd L)) = true) : printF decE (x :: L) p acc = none := by
  show (if _ then _ else _) = _
  rw [if_pos h]
theorem print_long (decE : Bs → Int) (x : TokT) (L : List TokT) (p : Option TokT) (acc : Bs) (h2 : 200 < (acc ++ gapD p x ++ standsD x.1 x.2.1).length) : printF decE (x :: L) p acc = none := by
  show (if _ then _ else _) = _
  rw [if_pos h2]
  split <;> rfl
theorem print_good (decE : Bs → Int) (x : TokT) (L : List TokT) (p : Option TokT) (acc : Bs) (h : (!rightD decE x.1 x.2.1 || (x.1 == 7 && !openHd L)) = false) : printF decE (x :: L) p acc = if 200 < (acc ++ gapD p x ++ standsD x.1 x.2.1).length then none else printF decE L (some x) (acc ++ gapD p x ++ standsD x.1 x.2.1) := by
  show (if _ then _ else _) = _
  rw [h, if_neg Bool.false_ne_true]
theorem drop_at_some {α : Type} (L : List α) (j : Nat) (X : α) (h : L[j]? = some X) : L.drop j = X :: L.drop (j + 1) := by
  obtain ⟨hj, e⟩ := List.getElem?_eq_some_iff.1 h
  rw [List.drop_eq_getElem_cons hj, e]
end Tab
namespace Go.Proofs.YtgnejohiagagmaaGreatDoor
open Go.RowKit Tab

theorem strCells_eq (l : Bs) : Lib.strCells ⟨l.toArray⟩ = Lib.byteCells l := rfl
theorem byteCells_app (a b : Bs) : Lib.byteCells (a ++ b) = Lib.byteCells a ++ Lib.byteCells b := List.map_append
theorem byteCells_len (a : Bs) : (Lib.byteCells a).length = a.length := List.length_map _
def lastT (L : List TokT) (j : Nat) : Option TokT := if j = 0 then none else L[j - 1]?
theorem lastT_succ (L : List TokT) (j : Nat) (X : TokT) (h : L[j]? = some X) : lastT L (j + 1) = some X := by
  unfold lastT; rw [if_neg (by omega)]; exact h

set_option maxRecDepth 100000 in
set_option maxHeartbeats 16000000 in
theorem print_anyA (decE : Bs → Int) (hD : DecIs decE) (L : List TokT) (hn : L.length ≤ 1000000) (hl : ∀ x ∈ L, x.2.1.length ≤ 1000) (v : Value) (w : World) (hg : Good w) (hwd : Words w) (hL : TokRowA w v L) : Calls Tryz.prog 11 #[v] w (Ret (.tuple #[strV (printD decE L).1, .int .i64 (printD decE L).2]) w) := by
  obtain ⟨ao, c1, rfl, h1⟩ : ∃ ao c, v = .slice ao L.length c ∧ (L = [] ∨ ∃ b o, ao = some ⟨b, o, none⟩ ∧ L.length ≤ c ∧ b < w.heap.size ∧ TokCellsA w b o L) := by
    rcases hL with ⟨rfl, rfl⟩ | ⟨b, o, c, rfl, h⟩
    · exact ⟨none, 0, rfl, .inl rfl⟩
    · exact ⟨_, c, rfl, .inr ⟨b, o, rfl, h⟩⟩
  clear hL
  unfold printD
  obtain ⟨R, hR⟩ : ∃ R, printF decE L none [] = R := ⟨_, rfl⟩
  rw [hR]
  have HR := Lib.hid hR
  clear hR
  have cR := fun k l hl a W (hb : Below w.heap.size w W) => lexRight_any decE hD k l hl a W (hg.below hb) (hwd.below hb)
  have cO := fun k l a W => open_any k l a W
  have cA := fun ka la aa kb lb ab h1 W => apart_any ka la aa kb lb ab h1 W
  have cS := fun k l hl a W (hb : Below w.heap.size w W) => stands_any k l hl a W (hg.below hb)
  unfold tokI strV at *
  go_enter Tryz.func11, Tryz.ntmps11
  go_wp2_with fail
  have hbld : IsBld w.heap.size w.heap.size (Lib.byteCells []) (w.alloc (.cells #[.pointer none, .slice none 0 0] 51)) := Lib.fresh_isBuilder _ _ w
  go_loopw [9] (fun i w' => ∃ (j : Nat) (acc : Bs), i = .int .i64 (j : Int) ∧ j ≤ L.length ∧ acc.length ≤ 200 ∧ printF decE (L.drop j) (lastT L j) acc = R ∧ IsBld w.heap.size w.heap.size (Lib.byteCells acc) w' ∧ Below w.heap.size w w') (fun i _ => L.length - (intOf i).toNat)
  case atStart => exact ⟨0, [], rfl, by omega, by simp, HR.out, hbld, (by repeat' (first | with_reducible assumption | with_reducible exact Below.refl _ _ | with_reducible refine allocB ?_ | with_reducible refine setB ?_ ?_ | with_reducible refine drewB ?_ | with_reducible refine after ?_ (by assumption) | (simp; omega) | omega))⟩
  case round =>
    clear HR hbld
    obtain ⟨j, acc, rfl, hj, hacc, hI, hB, hW⟩ := hrel
    have HI := Lib.hid hI
    clear hI
    by_cases hlt : j < L.length
    · rcases h1 with h1 | ⟨b, o, rfl, hc1, hb1, t1⟩
      · rw [h1] at hlt; simp at hlt
      obtain ⟨X, hX⟩ : ∃ X, L[j]? = some X := ⟨_, List.getElem?_eq_getElem hlt⟩
      have kx := t1.below hW hb1 j X hX
      have hlX := hl X (List.mem_of_getElem? hX)
      have hI := HI.out
      rw [drop_at_some L j X hX] at hI
      obtain ⟨p1, p2, p3⟩ := X
      obtain ⟨kx0, kx1, a3, kx2⟩ := kx
      dsimp only at kx0 kx1 kx2 hlX
      have ew : IntKind.i64.wrap ((j : Int) + 1) = ((j + 1 : Nat) : Int) := by rw [IntWalk.i64_in _ (by omega)]; omega
      have hzr := hW.size
      have hzb := Nat.lt_of_lt_of_le hb1 hzr
      have cR1 := fun W hb => cR p1 p2 (by omega) a3 W hb
      clear cR HI
      cases hA : rightD decE p1 p2
      · rw [print_bad decE _ _ _ _ (by dsimp only; rw [hA]; rfl)] at hI
        subst hI
        rw [hA] at cR1
        go_wp2_with fail
        refine (cR1 _ (by repeat' (first | with_reducible assumption | with_reducible exact Below.refl _ _ | with_reducible refine allocB ?_ | with_reducible refine setB ?_ ?_ | with_reducible refine drewB ?_ | with_reducible refine after ?_ (by assumption) | (simp; omega) | omega))).mono ?_; rintro e w1 ⟨rfl, hb1'⟩
        have hW1 := after (w := w) (by repeat' (first | with_reducible assumption | with_reducible exact Below.refl _ _ | with_reducible refine allocB ?_ | with_reducible refine setB ?_ ?_ | with_reducible refine drewB ?_ | with_reducible refine after ?_ (by assumption) | (simp; omega) | omega)) hb1'
        clear hb1'
        go_wp2
        go_ret2
        exact ⟨rfl, hW1⟩
      · rw [hA] at cR1
        cases hB7 : (p1 == 7)
        · rw [print_good decE _ _ _ _ (by dsimp only; rw [hA, hB7]; rfl)] at hI
          have HI := Lib.hid hI
          clear hI
          go_wp2_with fail
          refine (cR1 _ (by repeat' (first | with_reducible assumption | with_reducible exact Below.refl _ _ | with_reducible refine allocB ?_ | with_reducible refine setB ?_ ?_ | with_reducible refine drewB ?_ | with_reducible refine after ?_ (by assumption) | (simp; omega) | omega))).mono ?_; rintro e WW ⟨rfl, hb1'⟩
          have hx : WW.heap[wr.heap.size]? = some (.cells #[.int .i64 p1, .string ⟨p2.toArray⟩, (.int .i64 a3)] 25 (0, 0)) := (hb1'.block wr.heap.size (by simp)).trans (heap_alloc_new wr _)
          have hBl := hB.below (w := wr) (after (allocB (Below.refl _ _)) hb1')
          have hW1 := after (w := w) (by repeat' (first | with_reducible assumption | with_reducible exact Below.refl _ _ | with_reducible refine allocB ?_ | with_reducible refine setB ?_ ?_ | with_reducible refine drewB ?_ | with_reducible refine after ?_ (by assumption) | (simp; omega) | omega)) hb1'
          have hxn : wr.heap.size ≠ w.heap.size := by have := hB.lt; omega
          have hxl := heap_lt hx
          have hx0 := Lib.cell_of_heap hx 0
          have hx1 := Lib.cell_of_heap hx 1
          have hx2 := Lib.cell_of_heap hx 2
          simp only [List.getElem?_toArray, List.getElem?_cons_zero, List.getElem?_cons_succ] at hx0 hx1 hx2
          clear hb1' hB hW kx0 kx1 kx2 hzb hxl hx0 hx1 hx2
          have hxl := heap_lt hx
          have hx0 := Lib.cell_of_heap hx 0
          have hx1 := Lib.cell_of_heap hx 1
          have hx2 := Lib.cell_of_heap hx 2
          simp only [List.getElem?_toArray, List.getElem?_cons_zero, List.getElem?_cons_succ] at hx0 hx1 hx2
          by_cases j0 : j = 0
          · have hlp : lastT L j = none := by unfold lastT; rw [if_pos j0]
            rw [hlp] at HI
            have e0 : decide (0 < j) = false := decide_eq_false (by omega)
            clear j0 hlp
            have kc := gcell WW
            go_wp2_with fail
            refine region_below (by kernel_rfl) (by kernel_rfl) ?_
            repeat (go_big_quiet_step (fail))
            refine wpQuiet_nil ?_
            intro w3 hb3
            replace hBl := hBl.below hb3
            replace hW1 := after hW1 hb3
            replace hx := (hb3.block _ (heap_lt hx)).trans hx
            clear hb3 kc hxl hx0 hx1 hx2
            replace hBl : IsBld w.heap.size w.heap.size (Lib.byteCells (acc ++ [])) w3 := by rw [List.append_nil]; exact hBl

            have hxl := heap_lt hx
            have hx0 := Lib.cell_of_heap hx 0
            have hx1 := Lib.cell_of_heap hx 1
            have hx2 := Lib.cell_of_heap hx 2
            simp only [List.getElem?_toArray, List.getElem?_cons_zero, List.getElem?_cons_succ] at hx0 hx1 hx2
            go_wp2_with fail
            refine (cS p1 p2 (by omega) _ _ hW1).mono ?_; rintro e w5 ⟨rfl, hb5⟩
            replace hBl := hBl.below hb5
            replace hW1 := after hW1 hb5
            clear hb5 hx hx0 hx1 hx2 hxl
            obtain ⟨S, hS⟩ : ∃ S, standsD p1 p2 = S := ⟨_, rfl⟩
            have hsl : S.length ≤ 2002 := by rw [← hS]; have := stands_len p1 p2; omega
            have hI := HI.out
            replace hI : (if 200 < (acc ++ [] ++ standsD p1 p2).length then none else printF decE (L.drop (j + 1)) (some (p1, p2, p3)) (acc ++ [] ++ standsD p1 p2)) = R := hI
            rw [hS] at hI ⊢
            clear hS
            have hsz : (⟨S.toArray⟩ : ByteArray).size = S.length := by show S.toArray.size = _; simp
            go_wp2_with fail
            refine (bldStr_any w.heap.size w.heap.size _ ⟨S.toArray⟩ _ hBl (by rw [byteCells_len, hsz, List.length_append]; simp only [List.length_nil]; omega) hW1.size).mono ?_
            rintro e w6 ⟨rfl, hB6, hb6, -⟩
            replace hBl : IsBld w.heap.size w.heap.size (Lib.byteCells (acc ++ [] ++ S)) w6 := by rw [byteCells_app]; exact .inr hB6
            replace hW1 := hW1.trans hb6
            clear hB6 hb6 hsz
            obtain ⟨N, hN⟩ : ∃ N, acc ++ [] ++ S = N := ⟨_, rfl⟩
            rw [hN] at hBl hI
            clear hN
            have cL := Tryz.Builder_Len w.heap.size w.heap.size (Lib.byteCells N) w6 hBl
            rw [byteCells_len] at cL
            go_wp2_with fail
            refine cL.mono ?_; rintro e w7 ⟨rfl, rfl⟩
            by_cases h200 : 200 < N.length
            · rw [if_pos h200] at hI
              subst hI
              have e200 : decide (200 < (N.length : Int)) = true := decide_eq_true (by omega)
              clear HI
              go_wp2
              go_ret2
              exact ⟨rfl, hW1⟩
            · rw [if_neg h200] at hI
              have e200 : decide (200 < (N.length : Int)) = false := decide_eq_false (by omega)
              have HI2 := Lib.hid hI
              clear hI HI
              go_wp2
              go_roundw
              case rel => exact ⟨j + 1, N, rfl, hlt, by omega, by rw [lastT_succ L j _ hX]; exact HI2.out, hBl, hW1⟩
              case measure => simp [intOf]; omega
          · obtain ⟨P, hP⟩ : ∃ P, L[j - 1]? = some P := ⟨_, List.getElem?_eq_getElem (by omega)⟩
            have e0 : decide (0 < j) = true := decide_eq_true (by omega)
            have kp := t1.below hW1 hb1 (j - 1) P hP
            have hzb := Nat.lt_of_lt_of_le hb1 hW1.size
            have hlp : lastT L j = some P := by unfold lastT; rw [if_neg j0, hP]
            rw [hlp] at HI
            obtain ⟨q1, q2, q3⟩ := P
            obtain ⟨kp0, kp1, b3, kp2⟩ := kp
            have ej : IntKind.i64.wrap ((j : Int) - 1) = ((j - 1 : Nat) : Int) := by rw [IntWalk.i64_in _ (by omega)]; omega
            have hI := HI.out
            replace hI : (if 200 < (acc ++ (if apartD q1 q2 p1 p2 then [32] else []) ++ standsD p1 p2).length then none else printF decE (L.drop (j + 1)) (some (p1, p2, p3)) (acc ++ (if apartD q1 q2 p1 p2 then [32] else []) ++ standsD p1 p2)) = R := hI
            have cA1 := fun W => cA q1 q2 b3 p1 p2 a3 (fun h => right_sign decE p2 (by rw [← h]; exact hA)) W
            obtain ⟨G, hG⟩ : ∃ G, apartD q1 q2 p1 p2 = G := ⟨_, rfl⟩
            rw [hG] at hI cA1
            have HI := Lib.hid hI
            clear hI hG hlp hP
            have kc := gcell WW
            cases G
            · go_wp2_with fail
              refine region_below (by kernel_rfl) (by kernel_rfl) ?_
              repeat (go_big_quiet_step (exact Ret.grown (fun W _ => cA1 W)))
              refine wpQuiet_nil ?_
              intro w3 hb3
              replace hBl := hBl.below hb3
              replace hW1 := after hW1 hb3
              replace hx := (hb3.block _ (heap_lt hx)).trans hx
              clear hb3 kc kp0 kp1 kp2 hx0 hx1 hx2 hxl
              replace hBl : IsBld w.heap.size w.heap.size (Lib.byteCells (acc ++ [])) w3 := by rw [List.append_nil]; exact hBl

              have hxl := heap_lt hx
              have hx0 := Lib.cell_of_heap hx 0
              have hx1 := Lib.cell_of_heap hx 1
              have hx2 := Lib.cell_of_heap hx 2
              simp only [List.getElem?_toArray, List.getElem?_cons_zero, List.getElem?_cons_succ] at hx0 hx1 hx2
              go_wp2_with fail
              refine (cS p1 p2 (by omega) _ _ hW1).mono ?_; rintro e w5 ⟨rfl, hb5⟩
              replace hBl := hBl.below hb5
              replace hW1 := after hW1 hb5
              clear hb5 hx hx0 hx1 hx2 hxl
              obtain ⟨S, hS⟩ : ∃ S, standsD p1 p2 = S := ⟨_, rfl⟩
              have hsl : S.length ≤ 2002 := by rw [← hS]; have := stands_len p1 p2; omega
              have hI := HI.out
              replace hI : (if 200 < (acc ++ [] ++ standsD p1 p2).length then none else printF decE (L.drop (j + 1)) (some (p1, p2, p3)) (acc ++ [] ++ standsD p1 p2)) = R := hI
              rw [hS] at hI ⊢
              clear hS
              have hsz : (⟨S.toArray⟩ : ByteArray).size = S.length := by show S.toArray.size = _; simp
              go_wp2_with fail
              refine (bldStr_any w.heap.size w.heap.size _ ⟨S.toArray⟩ _ hBl (by rw [byteCells_len, hsz, List.length_append]; simp only [List.length_nil]; omega) hW1.size).mono ?_
              rintro e w6 ⟨rfl, hB6, hb6, -⟩
              replace hBl : IsBld w.heap.size w.heap.size (Lib.byteCells (acc ++ [] ++ S)) w6 := by rw [byteCells_app]; exact .inr hB6
              replace hW1 := hW1.trans hb6
              clear hB6 hb6 hsz
              obtain ⟨N, hN⟩ : ∃ N, acc ++ [] ++ S = N := ⟨_, rfl⟩
              rw [hN] at hBl hI
              clear hN
              have cL := Tryz.Builder_Len w.heap.size w.heap.size (Lib.byteCells N) w6 hBl
              rw [byteCells_len] at cL
              go_wp2_with fail
              refine cL.mono ?_; rintro e w7 ⟨rfl, rfl⟩
              by_cases h200 : 200 < N.length
              · rw [if_pos h200] at hI
                subst hI
                have e200 : decide (200 < (N.length : Int)) = true := decide_eq_true (by omega)
                clear HI
                go_wp2
                go_ret2
                exact ⟨rfl, hW1⟩
              · rw [if_neg h200] at hI
                have e200 : decide (200 < (N.length : Int)) = false := decide_eq_false (by omega)
                have HI2 := Lib.hid hI
                clear hI HI
                go_wp2
                go_roundw
                case rel => exact ⟨j + 1, N, rfl, hlt, by omega, by rw [lastT_succ L j _ hX]; exact HI2.out, hBl, hW1⟩
                case measure => simp [intOf]; omega
            · go_wp2_with fail
              refine region_below (by kernel_rfl) (by kernel_rfl) ?_
              repeat (go_big_quiet_step (exact Ret.grown (fun W _ => cA1 W)))
              refine wpQuiet_nil ?_
              intro w3 hb3
              replace hBl := hBl.below hb3
              replace hW1 := after hW1 hb3
              replace hx := (hb3.block _ (heap_lt hx)).trans hx
              clear hb3 kc kp0 kp1 kp2 hx0 hx1 hx2 hxl
              go_wp2_with fail
              refine (bldByte_any w.heap.size w.heap.size _ 32 _ hBl (by rw [byteCells_len]; omega) hW1.size).mono ?_
              rintro e w4 ⟨rfl, hB4, hb4, hk4⟩
              replace hBl : IsBld w.heap.size w.heap.size (Lib.byteCells (acc ++ [32])) w4 := by rw [byteCells_app]; exact .inr hB4
              replace hW1 := hW1.trans hb4
              replace hx := hk4 _ _ _ _ hx (by decide) hxn
              clear hB4 hb4 hk4

              have hxl := heap_lt hx
              have hx0 := Lib.cell_of_heap hx 0
              have hx1 := Lib.cell_of_heap hx 1
              have hx2 := Lib.cell_of_heap hx 2
              simp only [List.getElem?_toArray, List.getElem?_cons_zero, List.getElem?_cons_succ] at hx0 hx1 hx2
              go_wp2_with fail
              refine (cS p1 p2 (by omega) _ _ hW1).mono ?_; rintro e w5 ⟨rfl, hb5⟩
              replace hBl := hBl.below hb5
              replace hW1 := after hW1 hb5
              clear hb5 hx hx0 hx1 hx2 hxl
              obtain ⟨S, hS⟩ : ∃ S, standsD p1 p2 = S := ⟨_, rfl⟩
              have hsl : S.length ≤ 2002 := by rw [← hS]; have := stands_len p1 p2; omega
              have hI := HI.out
              replace hI : (if 200 < (acc ++ [32] ++ standsD p1 p2).length then none else printF decE (L.drop (j + 1)) (some (p1, p2, p3)) (acc ++ [32] ++ standsD p1 p2)) = R := hI
              rw [hS] at hI ⊢
              clear hS
              have hsz : (⟨S.toArray⟩ : ByteArray).size = S.length := by show S.toArray.size = _; simp
              go_wp2_with fail
              refine (bldStr_any w.heap.size w.heap.size _ ⟨S.toArray⟩ _ hBl (by rw [byteCells_len, hsz, List.length_append]; simp only [List.length_cons, List.length_nil]; omega) hW1.size).mono ?_
              rintro e w6 ⟨rfl, hB6, hb6, -⟩
              replace hBl : IsBld w.heap.size w.heap.size (Lib.byteCells (acc ++ [32] ++ S)) w6 := by rw [byteCells_app]; exact .inr hB6
              replace hW1 := hW1.trans hb6
              clear hB6 hb6 hsz
              obtain ⟨N, hN⟩ : ∃ N, acc ++ [32] ++ S = N := ⟨_, rfl⟩
              rw [hN] at hBl hI
              clear hN
              have cL := Tryz.Builder_Len w.heap.size w.heap.size (Lib.byteCells N) w6 hBl
              rw [byteCells_len] at cL
              go_wp2_with fail
              refine cL.mono ?_; rintro e w7 ⟨rfl, rfl⟩
              by_cases h200 : 200 < N.length
              · rw [if_pos h200] at hI
                subst hI
                have e200 : decide (200 < (N.length : Int)) = true := decide_eq_true (by omega)
                clear HI
                go_wp2
                go_ret2
                exact ⟨rfl, hW1⟩
              · rw [if_neg h200] at hI
                have e200 : decide (200 < (N.length : Int)) = false := decide_eq_false (by omega)
                have HI2 := Lib.hid hI
                clear hI HI
                go_wp2
                go_roundw
                case rel => exact ⟨j + 1, N, rfl, hlt, by omega, by rw [lastT_succ L j _ hX]; exact HI2.out, hBl, hW1⟩
                case measure => simp [intOf]; omega
        · by_cases hla : j + 1 < L.length
          · obtain ⟨Y, hY⟩ : ∃ Y, L[j + 1]? = some Y := ⟨_, List.getElem?_eq_getElem hla⟩
            have hd : openHd (L.drop (j + 1)) = openD Y.1 Y.2.1 := by rw [drop_at_some L (j + 1) Y hY]; rfl
            have el1 : (((j + 1 : Nat) : Int) == (L.length : Int)) = false := beq_eq_false_iff_ne.2 (by omega)
            have el2 : ((j : Int) + 1 == (L.length : Int)) = false := beq_eq_false_iff_ne.2 (by omega)
            cases hO : openD Y.1 Y.2.1
            · rw [print_bad decE _ _ _ _ (by dsimp only; rw [hA, hB7, hd, hO]; rfl)] at hI
              subst hI
              go_wp2_with fail
              refine (cR1 _ (by repeat' (first | with_reducible assumption | with_reducible exact Below.refl _ _ | with_reducible refine allocB ?_ | with_reducible refine setB ?_ ?_ | with_reducible refine drewB ?_ | with_reducible refine after ?_ (by assumption) | (simp; omega) | omega))).mono ?_; rintro e w1 ⟨rfl, hb1'⟩
              have hx : w1.heap[wr.heap.size]? = some (.cells #[.int .i64 p1, .string ⟨p2.toArray⟩, (.int .i64 a3)] 25 (0, 0)) := (hb1'.block wr.heap.size (by simp)).trans (heap_alloc_new wr _)
              have hBl := hB.below (w := wr) (after (allocB (Below.refl _ _)) hb1')
              have hW1 := after (w := w) (by repeat' (first | with_reducible assumption | with_reducible exact Below.refl _ _ | with_reducible refine allocB ?_ | with_reducible refine setB ?_ ?_ | with_reducible refine drewB ?_ | with_reducible refine after ?_ (by assumption) | (simp; omega) | omega)) hb1'
              have hxn : wr.heap.size ≠ w.heap.size := by have := hB.lt; omega
              have hxl := heap_lt hx
              have hx0 := Lib.cell_of_heap hx 0
              have hx1 := Lib.cell_of_heap hx 1
              have hx2 := Lib.cell_of_heap hx 2
              simp only [List.getElem?_toArray, List.getElem?_cons_zero, List.getElem?_cons_succ] at hx0 hx1 hx2
              have ky := t1.below hW1 hb1 (j + 1) Y hY
              obtain ⟨y1, y2, y3⟩ := Y
              obtain ⟨ky0, ky1, c3, ky2⟩ := ky
              dsimp only at ky0 ky1 ky2 hO
              have cO1 := fun W => cO y1 y2 c3 W
              rw [hO] at cO1
              clear hb1' kx0 kx1 kx2 hBl hx hY hd
              go_wp2_with fail
              refine (cO1 _).mono ?_; rintro e w2 ⟨rfl, hb2⟩
              have hW2 := after hW1 hb2
              clear hb2
              go_wp2
              go_ret2
              exact ⟨rfl, hW2⟩
            · rw [print_good decE _ _ _ _ (by dsimp only; rw [hA, hB7, hd, hO]; rfl)] at hI
              have HI := Lib.hid hI
              clear hI
              go_wp2_with fail
              refine (cR1 _ (by repeat' (first | with_reducible assumption | with_reducible exact Below.refl _ _ | with_reducible refine allocB ?_ | with_reducible refine setB ?_ ?_ | with_reducible refine drewB ?_ | with_reducible refine after ?_ (by assumption) | (simp; omega) | omega))).mono ?_; rintro e w1 ⟨rfl, hb1'⟩
              have hx : w1.heap[wr.heap.size]? = some (.cells #[.int .i64 p1, .string ⟨p2.toArray⟩, (.int .i64 a3)] 25 (0, 0)) := (hb1'.block wr.heap.size (by simp)).trans (heap_alloc_new wr _)
              have hBl := hB.below (w := wr) (after (allocB (Below.refl _ _)) hb1')
              have hW1 := after (w := w) (by repeat' (first | with_reducible assumption | with_reducible exact Below.refl _ _ | with_reducible refine allocB ?_ | with_reducible refine setB ?_ ?_ | with_reducible refine drewB ?_ | with_reducible refine after ?_ (by assumption) | (simp; omega) | omega)) hb1'
              have hxn : wr.heap.size ≠ w.heap.size := by have := hB.lt; omega
              have hxl := heap_lt hx
              have hx0 := Lib.cell_of_heap hx 0
              have hx1 := Lib.cell_of_heap hx 1
              have hx2 := Lib.cell_of_heap hx 2
              simp only [List.getElem?_toArray, List.getElem?_cons_zero, List.getElem?_cons_succ] at hx0 hx1 hx2
              have ky := t1.below hW1 hb1 (j + 1) Y hY
              obtain ⟨y1, y2, y3⟩ := Y
              obtain ⟨ky0, ky1, c3, ky2⟩ := ky
              dsimp only at ky0 ky1 ky2 hO
              have cO1 := fun W => cO y1 y2 c3 W
              rw [hO] at cO1
              clear hb1' kx0 kx1 kx2 hY hd
              go_wp2_with fail
              refine (cO1 _).mono ?_; rintro e WW ⟨rfl, hb2⟩
              replace hBl := hBl.below hb2
              replace hW1 := after hW1 hb2
              replace hx := (hb2.block _ (heap_lt hx)).trans hx
              clear hb2 hB hW hzb ky0 ky1 ky2 hxl hx0 hx1 hx2
              clear hO
              have hxl := heap_lt hx
              have hx0 := Lib.cell_of_heap hx 0
              have hx1 := Lib.cell_of_heap hx 1
              have hx2 := Lib.cell_of_heap hx 2
              simp only [List.getElem?_toArray, List.getElem?_cons_zero, List.getElem?_cons_succ] at hx0 hx1 hx2
              by_cases j0 : j = 0
              · have hlp : lastT L j = none := by unfold lastT; rw [if_pos j0]
                rw [hlp] at HI
                have e0 : decide (0 < j) = false := decide_eq_false (by omega)
                clear j0 hlp
                have kc := gcell WW
                go_wp2_with fail
                refine region_below (by kernel_rfl) (by kernel_rfl) ?_
                repeat (go_big_quiet_step (fail))
                refine wpQuiet_nil ?_
                intro w3 hb3
                replace hBl := hBl.below hb3
                replace hW1 := after hW1 hb3
                replace hx := (hb3.block _ (heap_lt hx)).trans hx
                clear hb3 kc hxl hx0 hx1 hx2
                replace hBl : IsBld w.heap.size w.heap.size (Lib.byteCells (acc ++ [])) w3 := by rw [List.append_nil]; exact hBl

                have hxl := heap_lt hx
                have hx0 := Lib.cell_of_heap hx 0
                have hx1 := Lib.cell_of_heap hx 1
                have hx2 := Lib.cell_of_heap hx 2
                simp only [List.getElem?_toArray, List.getElem?_cons_zero, List.getElem?_cons_succ] at hx0 hx1 hx2
                go_wp2_with fail
                refine (cS p1 p2 (by omega) _ _ hW1).mono ?_; rintro e w5 ⟨rfl, hb5⟩
                replace hBl := hBl.below hb5
                replace hW1 := after hW1 hb5
                clear hb5 hx hx0 hx1 hx2 hxl
                obtain ⟨S, hS⟩ : ∃ S, standsD p1 p2 = S := ⟨_, rfl⟩
                have hsl : S.length ≤ 2002 := by rw [← hS]; have := stands_len p1 p2; omega
                have hI := HI.out
                replace hI : (if 200 < (acc ++ [] ++ standsD p1 p2).length then none else printF decE (L.drop (j + 1)) (some (p1, p2, p3)) (acc ++ [] ++ standsD p1 p2)) = R := hI
                rw [hS] at hI ⊢
                clear hS
                have hsz : (⟨S.toArray⟩ : ByteArray).size = S.length := by show S.toArray.size = _; simp
                go_wp2_with fail
                refine (bldStr_any w.heap.size w.heap.size _ ⟨S.toArray⟩ _ hBl (by rw [byteCells_len, hsz, List.length_append]; simp only [List.length_nil]; omega) hW1.size).mono ?_
                rintro e w6 ⟨rfl, hB6, hb6, -⟩
                replace hBl : IsBld w.heap.size w.heap.size (Lib.byteCells (acc ++ [] ++ S)) w6 := by rw [byteCells_app]; exact .inr hB6
                replace hW1 := hW1.trans hb6
                clear hB6 hb6 hsz
                obtain ⟨N, hN⟩ : ∃ N, acc ++ [] ++ S = N := ⟨_, rfl⟩
                rw [hN] at hBl hI
                clear hN
                have cL := Tryz.Builder_Len w.heap.size w.heap.size (Lib.byteCells N) w6 hBl
                rw [byteCells_len] at cL
                go_wp2_with fail
                refine cL.mono ?_; rintro e w7 ⟨rfl, rfl⟩
                by_cases h200 : 200 < N.length
                · rw [if_pos h200] at hI
                  subst hI
                  have e200 : decide (200 < (N.length : Int)) = true := decide_eq_true (by omega)
                  clear HI
                  go_wp2
                  go_ret2
                  exact ⟨rfl, hW1⟩
                · rw [if_neg h200] at hI
                  have e200 : decide (200 < (N.length : Int)) = false := decide_eq_false (by omega)
                  have HI2 := Lib.hid hI
                  clear hI HI
                  go_wp2
                  go_roundw
                  case rel => exact ⟨j + 1, N, rfl, hlt, by omega, by rw [lastT_succ L j _ hX]; exact HI2.out, hBl, hW1⟩
                  case measure => simp [intOf]; omega
              · obtain ⟨P, hP⟩ : ∃ P, L[j - 1]? = some P := ⟨_, List.getElem?_eq_getElem (by omega)⟩
                have e0 : decide (0 < j) = true := decide_eq_true (by omega)
                have kp := t1.below hW1 hb1 (j - 1) P hP
                have hzb := Nat.lt_of_lt_of_le hb1 hW1.size
                have hlp : lastT L j = some P := by unfold lastT; rw [if_neg j0, hP]
                rw [hlp] at HI
                obtain ⟨q1, q2, q3⟩ := P
                obtain ⟨kp0, kp1, b3, kp2⟩ := kp
                have ej : IntKind.i64.wrap ((j : Int) - 1) = ((j - 1 : Nat) : Int) := by rw [IntWalk.i64_in _ (by omega)]; omega
                have hI := HI.out
                replace hI : (if 200 < (acc ++ (if apartD q1 q2 p1 p2 then [32] else []) ++ standsD p1 p2).length then none else printF decE (L.drop (j + 1)) (some (p1, p2, p3)) (acc ++ (if apartD q1 q2 p1 p2 then [32] else []) ++ standsD p1 p2)) = R := hI
                have cA1 := fun W => cA q1 q2 b3 p1 p2 a3 (fun h => right_sign decE p2 (by rw [← h]; exact hA)) W
                obtain ⟨G, hG⟩ : ∃ G, apartD q1 q2 p1 p2 = G := ⟨_, rfl⟩
                rw [hG] at hI cA1
                have HI := Lib.hid hI
                clear hI hG hlp hP
                have kc := gcell WW
                cases G
                · go_wp2_with fail
                  refine region_below (by kernel_rfl) (by kernel_rfl) ?_
                  repeat (go_big_quiet_step (exact Ret.grown (fun W _ => cA1 W)))
                  refine wpQuiet_nil ?_
                  intro w3 hb3
                  replace hBl := hBl.below hb3
                  replace hW1 := after hW1 hb3
                  replace hx := (hb3.block _ (heap_lt hx)).trans hx
                  clear hb3 kc kp0 kp1 kp2 hx0 hx1 hx2 hxl
                  replace hBl : IsBld w.heap.size w.heap.size (Lib.byteCells (acc ++ [])) w3 := by rw [List.append_nil]; exact hBl

                  have hxl := heap_lt hx
                  have hx0 := Lib.cell_of_heap hx 0
                  have hx1 := Lib.cell_of_heap hx 1
                  have hx2 := Lib.cell_of_heap hx 2
                  simp only [List.getElem?_toArray, List.getElem?_cons_zero, List.getElem?_cons_succ] at hx0 hx1 hx2
                  go_wp2_with fail
                  refine (cS p1 p2 (by omega) _ _ hW1).mono ?_; rintro e w5 ⟨rfl, hb5⟩
                  replace hBl := hBl.below hb5
                  replace hW1 := after hW1 hb5
                  clear hb5 hx hx0 hx1 hx2 hxl
                  obtain ⟨S, hS⟩ : ∃ S, standsD p1 p2 = S := ⟨_, rfl⟩
                  have hsl : S.length ≤ 2002 := by rw [← hS]; have := stands_len p1 p2; omega
                  have hI := HI.out
                  replace hI : (if 200 < (acc ++ [] ++ standsD p1 p2).length then none else printF decE (L.drop (j + 1)) (some (p1, p2, p3)) (acc ++ [] ++ standsD p1 p2)) = R := hI
                  rw [hS] at hI ⊢
                  clear hS
                  have hsz : (⟨S.toArray⟩ : ByteArray).size = S.length := by show S.toArray.size = _; simp
                  go_wp2_with fail
                  refine (bldStr_any w.heap.size w.heap.size _ ⟨S.toArray⟩ _ hBl (by rw [byteCells_len, hsz, List.length_append]; simp only [List.length_nil]; omega) hW1.size).mono ?_
                  rintro e w6 ⟨rfl, hB6, hb6, -⟩
                  replace hBl : IsBld w.heap.size w.heap.size (Lib.byteCells (acc ++ [] ++ S)) w6 := by rw [byteCells_app]; exact .inr hB6
                  replace hW1 := hW1.trans hb6
                  clear hB6 hb6 hsz
                  obtain ⟨N, hN⟩ : ∃ N, acc ++ [] ++ S = N := ⟨_, rfl⟩
                  rw [hN] at hBl hI
                  clear hN
                  have cL := Tryz.Builder_Len w.heap.size w.heap.size (Lib.byteCells N) w6 hBl
                  rw [byteCells_len] at cL
                  go_wp2_with fail
                  refine cL.mono ?_; rintro e w7 ⟨rfl, rfl⟩
                  by_cases h200 : 200 < N.length
                  · rw [if_pos h200] at hI
                    subst hI
                    have e200 : decide (200 < (N.length : Int)) = true := decide_eq_true (by omega)
                    clear HI
                    go_wp2
                    go_ret2
                    exact ⟨rfl, hW1⟩
                  · rw [if_neg h200] at hI
                    have e200 : decide (200 < (N.length : Int)) = false := decide_eq_false (by omega)
                    have HI2 := Lib.hid hI
                    clear hI HI
                    go_wp2
                    go_roundw
                    case rel => exact ⟨j + 1, N, rfl, hlt, by omega, by rw [lastT_succ L j _ hX]; exact HI2.out, hBl, hW1⟩
                    case measure => simp [intOf]; omega
                · go_wp2_with fail
                  refine region_below (by kernel_rfl) (by kernel_rfl) ?_
                  repeat (go_big_quiet_step (exact Ret.grown (fun W _ => cA1 W)))
                  refine wpQuiet_nil ?_
                  intro w3 hb3
                  replace hBl := hBl.below hb3
                  replace hW1 := after hW1 hb3
                  replace hx := (hb3.block _ (heap_lt hx)).trans hx
                  clear hb3 kc kp0 kp1 kp2 hx0 hx1 hx2 hxl
                  go_wp2_with fail
                  refine (bldByte_any w.heap.size w.heap.size _ 32 _ hBl (by rw [byteCells_len]; omega) hW1.size).mono ?_
                  rintro e w4 ⟨rfl, hB4, hb4, hk4⟩
                  replace hBl : IsBld w.heap.size w.heap.size (Lib.byteCells (acc ++ [32])) w4 := by rw [byteCells_app]; exact .inr hB4
                  replace hW1 := hW1.trans hb4
                  replace hx := hk4 _ _ _ _ hx (by decide) hxn
                  clear hB4 hb4 hk4

                  have hxl := heap_lt hx
                  have hx0 := Lib.cell_of_heap hx 0
                  have hx1 := Lib.cell_of_heap hx 1
                  have hx2 := Lib.cell_of_heap hx 2
                  simp only [List.getElem?_toArray, List.getElem?_cons_zero, List.getElem?_cons_succ] at hx0 hx1 hx2
                  go_wp2_with fail
                  refine (cS p1 p2 (by omega) _ _ hW1).mono ?_; rintro e w5 ⟨rfl, hb5⟩
                  replace hBl := hBl.below hb5
                  replace hW1 := after hW1 hb5
                  clear hb5 hx hx0 hx1 hx2 hxl
                  obtain ⟨S, hS⟩ : ∃ S, standsD p1 p2 = S := ⟨_, rfl⟩
                  have hsl : S.length ≤ 2002 := by rw [← hS]; have := stands_len p1 p2; omega
                  have hI := HI.out
                  replace hI : (if 200 < (acc ++ [32] ++ standsD p1 p2).length then none else printF decE (L.drop (j + 1)) (some (p1, p2, p3)) (acc ++ [32] ++ standsD p1 p2)) = R := hI
                  rw [hS] at hI ⊢
                  clear hS
                  have hsz : (⟨S.toArray⟩ : ByteArray).size = S.length := by show S.toArray.size = _; simp
                  go_wp2_with fail
                  refine (bldStr_any w.heap.size w.heap.size _ ⟨S.toArray⟩ _ hBl (by rw [byteCells_len, hsz, List.length_append]; simp only [List.length_cons, List.length_nil]; omega) hW1.size).mono ?_
                  rintro e w6 ⟨rfl, hB6, hb6, -⟩
                  replace hBl : IsBld w.heap.size w.heap.size (Lib.byteCells (acc ++ [32] ++ S)) w6 := by rw [byteCells_app]; exact .inr hB6
                  replace hW1 := hW1.trans hb6
                  clear hB6 hb6 hsz
                  obtain ⟨N, hN⟩ : ∃ N, acc ++ [32] ++ S = N := ⟨_, rfl⟩
                  rw [hN] at hBl hI
                  clear hN
                  have cL := Tryz.Builder_Len w.heap.size w.heap.size (Lib.byteCells N) w6 hBl
                  rw [byteCells_len] at cL
                  go_wp2_with fail
                  refine cL.mono ?_; rintro e w7 ⟨rfl, rfl⟩
                  by_cases h200 : 200 < N.length
                  · rw [if_pos h200] at hI
                    subst hI
                    have e200 : decide (200 < (N.length : Int)) = true := decide_eq_true (by omega)
                    clear HI
                    go_wp2
                    go_ret2
                    exact ⟨rfl, hW1⟩
                  · rw [if_neg h200] at hI
                    have e200 : decide (200 < (N.length : Int)) = false := decide_eq_false (by omega)
                    have HI2 := Lib.hid hI
                    clear hI HI
                    go_wp2
                    go_roundw
                    case rel => exact ⟨j + 1, N, rfl, hlt, by omega, by rw [lastT_succ L j _ hX]; exact HI2.out, hBl, hW1⟩
                    case measure => simp [intOf]; omega
          · have hd : L.drop (j + 1) = [] := List.drop_eq_nil_of_le (by omega)
            rw [print_bad decE _ _ _ _ (by dsimp only; rw [hA, hB7, hd]; rfl)] at hI
            subst hI
            have el1 : (((j + 1 : Nat) : Int) == (L.length : Int)) = true := beq_iff_eq.2 (by omega)
            have el2 : ((j : Int) + 1 == (L.length : Int)) = true := beq_iff_eq.2 (by omega)
            go_wp2_with fail
            refine (cR1 _ (by repeat' (first | with_reducible assumption | with_reducible exact Below.refl _ _ | with_reducible refine allocB ?_ | with_reducible refine setB ?_ ?_ | with_reducible refine drewB ?_ | with_reducible refine after ?_ (by assumption) | (simp; omega) | omega))).mono ?_; rintro e w1 ⟨rfl, hb1'⟩
            have hx : w1.heap[wr.heap.size]? = some (.cells #[.int .i64 p1, .string ⟨p2.toArray⟩, (.int .i64 a3)] 25 (0, 0)) := (hb1'.block wr.heap.size (by simp)).trans (heap_alloc_new wr _)
            have hBl := hB.below (w := wr) (after (allocB (Below.refl _ _)) hb1')
            have hW1 := after (w := w) (by repeat' (first | with_reducible assumption | with_reducible exact Below.refl _ _ | with_reducible refine allocB ?_ | with_reducible refine setB ?_ ?_ | with_reducible refine drewB ?_ | with_reducible refine after ?_ (by assumption) | (simp; omega) | omega)) hb1'
            have hxn : wr.heap.size ≠ w.heap.size := by have := hB.lt; omega
            have hxl := heap_lt hx
            have hx0 := Lib.cell_of_heap hx 0
            have hx1 := Lib.cell_of_heap hx 1
            have hx2 := Lib.cell_of_heap hx 2
            simp only [List.getElem?_toArray, List.getElem?_cons_zero, List.getElem?_cons_succ] at hx0 hx1 hx2
            clear hb1' kx0 kx1 kx2
            go_wp2
            go_ret2
            exact ⟨rfl, hW1⟩
    · have hI := HI.out
      have : j = L.length := by omega
      subst this
      rw [List.drop_length] at hI
      replace hI : some acc = R := hI
      subst hI
      have cG := Tryz.Builder_String_any w.heap.size w.heap.size acc wr hB hW.size
      go_wp2_with fail
      refine cG.mono ?_; rintro e w9 ⟨rfl, hb9⟩
      have hW9 := hW.trans hb9
      go_wp2
      go_ret2
      exact ⟨rfl, hW9⟩

theorem print_any (decE : Bs → Int) (hD : DecIs decE) (L : List TokT) (hn : L.length ≤ 1000000) (hl : ∀ x ∈ L, x.2.1.length ≤ 1000) (v : Value) (w : World) (hg : Good w) (hwd : Words w) (hL : TokRow w v L) : Calls Tryz.prog 11 #[v] w (Ret (.tuple #[strV (printD decE L).1, .int .i64 (printD decE L).2]) w) := print_anyA decE hD L hn hl v w hg hwd hL.any
end Go.Proofs.YtgnejohiagagmaaGreatDoor

namespace Tab
def sameT : List TokT → List TokT → Bool
  | [], [] => true
  | x :: A, y :: B => (x.1 == y.1 && x.2.1 == y.2.1) && sameT A B
  | _, _ => false
theorem sameT_len : ∀ (A B : List TokT), A.length ≠ B.length → sameT A B = false
  | [], [], h => absurd rfl h
  | [], _ :: _, _ => rfl
  | _ :: _, [], _ => rfl
  | x :: A, y :: B, h => by
    unfold sameT
    rw [sameT_len A B (by simpa using h), Bool.and_false]
theorem sameT_step (A B : List TokT) (j : Nat) (h : j < A.length) (k : j < B.length) : sameT (A.drop j) (B.drop j) = ((A[j].1 == B[j].1 && A[j].2.1 == B[j].2.1) && sameT (A.drop (j + 1)) (B.drop (j + 1))) := by
  rw [List.drop_eq_getElem_cons h, List.drop_eq_getElem_cons k]; rfl
end Tab
namespace Go.Proofs.YtgnejohiagagmaaGreatDoor
open Go.RowKit Tab

set_option maxRecDepth 100000 in
set_option maxHeartbeats 8000000 in
theorem same_any (L M : List TokT) (hn : L.length ≤ 1000000) (hm : M.length ≤ 1000000) (v u : Value) (w : World) (hL : TokRow w v L) (hM : TokRow w u M) : Calls Tryz.prog 18 #[v, u] w (Ret (.bool (sameT L M)) w) := by
  obtain ⟨ao, c1, rfl, h1⟩ : ∃ ao c, v = .slice ao L.length c ∧ (L = [] ∨ ∃ b o, ao = some ⟨b, o, none⟩ ∧ L.length ≤ c ∧ b < w.heap.size ∧ TokCells w b o L) := by
    rcases hL with ⟨rfl, rfl⟩ | ⟨b, o, c, rfl, h⟩
    · exact ⟨none, 0, rfl, .inl rfl⟩
    · exact ⟨_, c, rfl, .inr ⟨b, o, rfl, h⟩⟩
  obtain ⟨au, c2, rfl, h2⟩ : ∃ ao c, u = .slice ao M.length c ∧ (M = [] ∨ ∃ b o, ao = some ⟨b, o, none⟩ ∧ M.length ≤ c ∧ b < w.heap.size ∧ TokCells w b o M) := by
    rcases hM with ⟨rfl, rfl⟩ | ⟨b, o, c, rfl, h⟩
    · exact ⟨none, 0, rfl, .inl rfl⟩
    · exact ⟨_, c, rfl, .inr ⟨b, o, rfl, h⟩⟩
  clear hL hM
  by_cases hlen : L.length = M.length
  · obtain ⟨R, hR⟩ : ∃ R, sameT L M = R := ⟨_, rfl⟩
    rw [hR]
    have e1 : ((L.length : Int) != (M.length : Int)) = false := by rw [hlen]; simp
    have HL := Lib.hid hlen
    have HR := Lib.hid hR
    clear hlen hR
    go_enter Tryz.func18, Tryz.ntmps18
    go_wp2_with fail
    go_loopw [5] (fun i w' => ∃ j : Nat, i = .int .i64 (j : Int) ∧ j ≤ L.length ∧ sameT (L.drop j) (M.drop j) = R ∧ Below w.heap.size w w') (fun i _ => L.length - (intOf i).toNat)
    case atStart => exact ⟨0, rfl, by omega, HR.out, Below.refl _ _⟩
    case round =>
      clear HR
      obtain ⟨j, rfl, hj, hI, hB⟩ := hrel
      have HI := Lib.hid hI
      clear hI
      by_cases hlt : j < L.length
      · have hltM : j < M.length := by have := HL.out; omega
        rcases h1 with h1 | ⟨b, o, rfl, hc1, hb1, t1⟩
        · rw [h1] at hlt; simp at hlt
        rcases h2 with h2 | ⟨b', o', rfl, hc2, hb2, t2⟩
        · rw [h2] at hltM; simp at hltM
        have k1 := t1.below hB hb1 j _ (List.getElem?_eq_getElem hlt)
        have k2 := t2.below hB hb2 j _ (List.getElem?_eq_getElem hltM)
        have hI := HI.out
        rw [sameT_step L M j hlt hltM] at hI
        have HI := Lib.hid hI
        clear hI
        obtain ⟨X, hX⟩ : ∃ x, L[j] = x := ⟨_, rfl⟩
        obtain ⟨Y, hY⟩ : ∃ x, M[j] = x := ⟨_, rfl⟩
        rw [hX] at k1 HI
        rw [hY] at k2 HI
        clear hX hY t1 t2
        obtain ⟨p1, p2, p3⟩ := X
        obtain ⟨q1, q2, q3⟩ := Y
        dsimp only at k1 k2 HI
        obtain ⟨k11, k12, -⟩ := k1
        obtain ⟨k21, k22, -⟩ := k2
        have ew : IntKind.i64.wrap ((j : Int) + 1) = ((j + 1 : Nat) : Int) := by rw [IntWalk.i64_in _ (by omega)]; omega
        have hz1 := Nat.lt_of_lt_of_le hb1 hB.size
        have hz2 := Nat.lt_of_lt_of_le hb2 hB.size
        obtain ⟨A, hA⟩ : ∃ A, (p1 == q1) = A := ⟨_, rfl⟩
        obtain ⟨B, hB2⟩ : ∃ B, (p2 == q2) = B := ⟨_, rfl⟩
        rw [hA, hB2] at HI
        cases A
        · have n1 : (p1 != q1) = true := by unfold bne; rw [hA]; rfl
          have hI := HI.out
          rw [Bool.false_and, Bool.false_and] at hI
          subst hI
          go_wp2_with fail
          have kc := gcell wr
          refine region_below (by kernel_rfl) (by kernel_rfl) ?_
          repeat (go_big_quiet_step (fail))
          refine wpQuiet_nil ?_
          intro w2 hb2
          have hB3 := after hB hb2
          go_wp2
          go_ret
          exact ⟨rfl, hB3⟩
        · have n1 : (p1 != q1) = false := by unfold bne; rw [hA]; rfl
          cases B
          · have n2 : (p2 != q2) = true := by unfold bne; rw [hB2]; rfl
            have hI := HI.out
            rw [Bool.true_and, Bool.false_and] at hI
            subst hI
            go_wp2_with fail
            have kc := gcell wr
            refine region_below (by kernel_rfl) (by kernel_rfl) ?_
            repeat (go_big_quiet_step (fail))
            refine wpQuiet_nil ?_
            intro w2 hb2
            have hB3 := after hB hb2
            go_wp2
            go_ret
            exact ⟨rfl, hB3⟩
          · have n2 : (p2 != q2) = false := by unfold bne; rw [hB2]; rfl
            have hI := HI.out
            rw [Bool.true_and, Bool.true_and] at hI
            have HI := Lib.hid hI
            clear hI
            go_wp2_with fail
            have kc := gcell wr
            refine region_below (by kernel_rfl) (by kernel_rfl) ?_
            repeat (go_big_quiet_step (fail))
            refine wpQuiet_nil ?_
            intro w2 hb2
            have hB3 := after hB hb2
            go_wp2
            go_roundw
            case rel => exact ⟨j + 1, rfl, hlt, HI.out, hB3⟩
            case measure => simp [intOf]; omega
      · have hI := HI.out
        have : j = L.length := by omega
        subst this
        rw [List.drop_length, HL.out, List.drop_length] at hI
        subst hI
        go_wp2
        go_ret
        exact ⟨rfl, hB⟩
  · rw [sameT_len L M hlen]
    have e1 : ((L.length : Int) != (M.length : Int)) = true := by rw [bne_iff_ne]; omega
    go_enter Tryz.func18, Tryz.ntmps18
    go_wp2
    go_ret
    exact ⟨rfl, Below.refl _ _⟩
end Go.Proofs.YtgnejohiagagmaaGreatDoor
