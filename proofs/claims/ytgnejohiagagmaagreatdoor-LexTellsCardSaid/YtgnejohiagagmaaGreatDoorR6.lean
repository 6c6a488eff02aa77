/- The walk of tabulalaw04.read. How pieces that come in are opened. The walk of tabulalaw04.LexTells. -/
import Derived.Test.YtgnejohiagagmaaGreatDoorR4
import Derived.Test.YtgnejohiagagmaaGreatDoorG13
import Derived.Test.YtgnejohiagagmaaGreatDoorG14
import Derived.Test.YtgnejohiagagmaaGreatDoorG16
import Derived.Deep.Slices
import Derived.ChangeSame
import Derived.Test.YtgnejohiagagmaaGreatDoorR5
import Derived.Test.YtgnejohiagagmaaGreatDoorR1
import Derived.Test.YtgnejohiagagmaaGreatDoorG15
namespace Tab
theorem sameT_self : ∀ L : List TokT, sameT L L = true
  | [] => rfl
  | x :: L => by
    unfold sameT
    rw [sameT_self L]; simp
theorem toksF_len (decE : Bs → Int) (s : Bs) : ∀ (f a : Nat) (acc L : List TokT), acc.length + f ≤ 200 → toksF decE s f a acc = .ok L → L.length ≤ 200
  | 0, a, acc, L, h, hL => by
    injection hL with hL
    rw [← hL]; omega
  | f + 1, a, acc, L, h, hL => by
    unfold toksF at hL
    split at hL
    · split at hL
      · exact toksF_len decE s f _ acc L (by omega) hL
      · split at hL
        · cases hL
        · exact toksF_len decE s f _ _ L (by rw [List.length_append]; simp only [List.length_cons, List.length_nil]; omega) hL
    · injection hL with hL
      rw [← hL]; omega
theorem tokens_len {decE : Bs → Int} {s : Bs} {L : List TokT} (h : tokensD decE s = .ok L) : L.length ≤ 200 := by
  unfold tokensD at h
  split at h
  · cases h
  · exact toksF_len decE s s.length 0 [] L (by simp; omega) h
end Tab
namespace Go.Proofs.YtgnejohiagagmaaGreatDoor
open Go.RowKit Tab

set_option maxRecDepth 100000 in
set_option maxHeartbeats 8000000 in
theorem read_any (s : ByteArray) (hs : s.size ≤ 4611686018427387904) (w : World) (hg : Good w) (hwd : Words w) : Calls Tryz.prog 13 #[.string s] w (Ret (.bool true) w) := by
  have cT := Tokens_any decED decIs s w hg hwd hs
  have cR := fun W => refTokens_any s W hs
  have hlen := @tokens_len decED s.data.toList
  cases hT : tokensD decED s.data.toList with
  | error n =>
    rw [hT] at cT cR
    have cS := fun W => same_any [] [] (by simp) (by simp) (.slice none 0 0) (.slice none 0 0) W (.inl ⟨rfl, rfl⟩) (.inl ⟨rfl, rfl⟩)
    rw [show sameT [] [] = true from rfl] at cS
    clear hT hlen
    go_enter Tryz.func13, Tryz.ntmps13
    go_wp2_with fail
    refine cT.mono ?_; rintro e w1 ⟨rfl, hW⟩
    go_wp2_with fail
    refine (cR _).mono ?_; rintro e w2 ⟨rfl, hb⟩
    replace hW := after hW hb
    clear hb cT cR
    go_wp2_with fail
    refine (cS _).mono ?_; rintro e w3 ⟨rfl, hb⟩
    replace hW := after hW hb
    clear hb cS
    go_wp2_with fail
    go_loop [9] (fun i => i = .int .i64 0) (fun _ => 0)
    case atStart => rfl
    case round =>
      subst hrel
      go_wp2
      go_ret; exact Ret.mk' rfl hW
  | ok L =>
    have hl := hlen hT
    rw [hT] at cT cR
    clear hT hlen
    go_enter Tryz.func13, Tryz.ntmps13
    go_wp2_with fail
    refine cT.mono ?_; rintro e w1 ⟨v1, rfl, hown, hW⟩
    have R1 := tokRow_of_own hown
    clear hown cT
    go_wp2_with fail
    refine (cR _).mono ?_; rintro e w2 ⟨v2, rfl, hown, hb⟩
    have R2 := tokRow_of_own hown
    replace R1 := R1.below hb
    replace hW := after hW hb
    clear hown cR hb
    have cS := same_any L L (by omega) (by omega) v1 v2 w2 R1 R2
    rw [sameT_self] at cS
    go_wp2_with fail
    refine cS.mono ?_; rintro e w3 ⟨rfl, hb⟩
    replace R1 := R1.below hb
    replace R2 := R2.below hb
    replace hW := after hW hb
    clear hb cS
    obtain ⟨ao, c1, rfl, h1⟩ : ∃ ao c, v1 = .slice ao L.length c ∧ (L = [] ∨ ∃ b o, ao = some ⟨b, o, none⟩ ∧ L.length ≤ c ∧ b < w3.heap.size ∧ TokCells w3 b o L) := by
      rcases R1 with ⟨rfl, rfl⟩ | ⟨b, o, c, rfl, h⟩
      · exact ⟨none, 0, rfl, .inl rfl⟩
      · exact ⟨_, c, rfl, .inr ⟨b, o, rfl, h⟩⟩
    obtain ⟨au, c2, rfl, h2⟩ : ∃ ao c, v2 = .slice ao L.length c ∧ (L = [] ∨ ∃ b o, ao = some ⟨b, o, none⟩ ∧ L.length ≤ c ∧ b < w3.heap.size ∧ TokCells w3 b o L) := by
      rcases R2 with ⟨rfl, rfl⟩ | ⟨b, o, c, rfl, h⟩
      · exact ⟨none, 0, rfl, .inl rfl⟩
      · exact ⟨_, c, rfl, .inr ⟨b, o, rfl, h⟩⟩
    clear R1 R2
    go_wp2_with fail
    go_loopw [9] (fun i w' => ∃ j : Nat, i = .int .i64 (j : Int) ∧ j ≤ L.length ∧ Below w3.heap.size w3 w') (fun i _ => L.length - (intOf i).toNat)
    case atStart => exact ⟨0, rfl, by omega, Below.refl _ _⟩
    case round =>
      obtain ⟨j, rfl, hj, hB⟩ := hrel
      by_cases hlt : j < L.length
      · rcases h1 with h1 | ⟨b, o, rfl, hc1, hb1, t1⟩
        · rw [h1] at hlt; simp at hlt
        rcases h2 with h2 | ⟨b', o', rfl, hc2, hb2, t2⟩
        · rw [h2] at hlt; simp at hlt
        have k1 := t1.below hB hb1 j _ (List.getElem?_eq_getElem hlt)
        have k2 := t2.below hB hb2 j _ (List.getElem?_eq_getElem hlt)
        obtain ⟨X, hX⟩ : ∃ x, L[j] = x := ⟨_, rfl⟩
        rw [hX] at k1 k2
        clear hX t1 t2
        obtain ⟨p1, p2, p3⟩ := X
        dsimp only at k1 k2
        obtain ⟨-, -, k13⟩ := k1
        obtain ⟨-, -, k23⟩ := k2
        have ew : IntKind.i64.wrap ((j : Int) + 1) = ((j + 1 : Nat) : Int) := by rw [IntWalk.i64_in _ (by omega)]; omega
        have hz1 := Nat.lt_of_lt_of_le hb1 hB.size
        have hz2 := Nat.lt_of_lt_of_le hb2 hB.size
        have hji : (j : Int) < (L.length : Int) := by omega
        go_wp2_with fail
        have kc := gcell wr
        refine region_below (by kernel_rfl) (by kernel_rfl) ?_
        repeat (go_big_quiet_step (fail))
        refine wpQuiet_nil ?_
        intro w4 hb4
        have hB3 := after hB hb4
        clear kc hb4
        go_wp2
        go_roundw
        case rel => exact ⟨j + 1, rfl, hlt, hB3⟩
        case measure => simp [intOf]; omega
      · have hjL : j = L.length := by omega
        subst hjL
        have hB3 := after hW hB
        go_wp2
        go_ret; exact Ret.mk' rfl hB3
end Go.Proofs.YtgnejohiagagmaaGreatDoor

namespace Go.Proofs.YtgnejohiagagmaaGreatDoor
open Go.ChangeShapes Go.WideShapes Go.RowKit Go.ChangeMaps Go.Deep

abbrev TokI := Int × ByteArray × Int
def cellsI (L : List TokI) : List Value := L.flatMap fun x => [.int .i64 x.1, .string x.2.1, .int .i64 x.2.2]
/-- pieces that come in: of any places. -/
def TokRowI (w : World) (v : Value) (L : List TokI) : Prop :=
  (v = .slice none 0 0 ∧ L = []) ∨ ∃ (a : Addr) (cap : Nat), v = .slice (some a) L.length cap ∧ L.length ≤ cap ∧ ∀ (i : Nat) (x : TokI), L[i]? = some x →
    w.cell? (a.add (i * 3)) = some (.int .i64 x.1) ∧ w.cell? (a.add (i * 3 + 1)) = some (.string x.2.1) ∧ w.cell? (a.add (i * 3 + 2)) = some (.int .i64 x.2.2)
set_option maxRecDepth 100000 in
theorem cellsTok : Tryz.prog.cellsOf 25 = 3 := by kernel_rfl
theorem pick_lt {α : Type} {n : Nat} {P : Nat → α → Prop} (d : α) (h : ∀ i, i < n → ∃ q, P i q) : ∃ f : Nat → α, ∀ i, i < n → P i (f i) := by
  classical
  refine ⟨fun i => if hi : i < n then (h i hi).choose else d, fun i hi => ?_⟩
  dsimp only
  rw [dif_pos hi]
  exact (h i hi).choose_spec

set_option maxRecDepth 100000 in
theorem open_toks {H : Type} {enc : TypeId × Value → H} {W : World} {v : Value} {r : Reach} {b0 : Nat} {d : DataW H} {p : List MemPlace} (hv : Value.okWide Tryz.prog W r b0 22 v) (h : DataW.Trod enc Tryz.prog W 0 (fun _ => true) true 22 v d p) :
    ∃ L : List TokI, TokRowI W v L ∧ (∀ x ∈ L, x.2.1.size ≤ 9223372036854775807) ∧ L.length ≤ 9223372036854775807 := by
  obtain ⟨a0, len0, cap0, rfl⟩ := okWide_slice Tryz.underlying22 hv
  obtain ⟨fuel, hf⟩ := h
  have hmx : maxLen ≤ 9223372036854775807 := by unfold maxLen; decide
  rcases open_slice Tryz.underlying22 hf with ⟨h1, _⟩ | ⟨a, len, cap, m, n, D, Pl, h1, _, hl, hm, hmm, _, hx⟩
  · have e : Value.slice a0 len0 cap0 = .slice none 0 0 := by simpa [Value.cells] using h1
    rw [e]
    exact ⟨[], .inl ⟨rfl, rfl⟩, by simp, by simp⟩
  · have e : Value.slice a0 len0 cap0 = .slice (some a) len cap := by simpa [Value.cells] using h1
    rw [e]
    have hlm : len ≤ m := by rw [hmm]; split <;> omega
    have each : ∀ i, i < len → ∃ q : TokI, W.cell? (a.add (i * 3)) = some (.int .i64 q.1) ∧ W.cell? (a.add (i * 3 + 1)) = some (.string q.2.1) ∧ W.cell? (a.add (i * 3 + 2)) = some (.int .i64 q.2.2) ∧ q.2.1.size ≤ maxLen := by
      intro i hi
      obtain ⟨cs', g1, g2⟩ := hx i (by omega)
      rw [cellsTok] at g1
      obtain ⟨_, hlen, hcell⟩ := World.cells?_some g1
      obtain ⟨xs, k, hk, hxy, _, hxl, hfl⟩ := DataW.trod_struct Tryz.underlying25 g2
      match cs', hlen with
      | [v0, v1, v2], _ =>
        have hxl3 : xs.length = 3 := hxl
        have c0 : Tryz.prog.cellsOf 3 = 1 := by kernel_rfl
        have c1 : Tryz.prog.cellsOf 9 = 1 := by kernel_rfl
        have g0 : DataW.trod enc Tryz.prog W 0 (fun _ => true) true k 3 (List.take (Tryz.prog.cellsOf 3) [v0, v1, v2]) = xs[0]? := hfl 0 _ rfl
        have g3 : DataW.trod enc Tryz.prog W 0 (fun _ => true) true k 9 (List.take (Tryz.prog.cellsOf 9) [v1, v2]) = xs[1]? := hfl 1 _ rfl
        have g4 : DataW.trod enc Tryz.prog W 0 (fun _ => true) true k 3 (List.take (Tryz.prog.cellsOf 3) [v2]) = xs[2]? := hfl 2 _ rfl
        rw [c0, List.take_succ_cons, List.take_zero, List.getElem?_eq_getElem (by omega)] at g0 g4
        rw [c1, List.take_succ_cons, List.take_zero, List.getElem?_eq_getElem (by omega)] at g3
        obtain ⟨i0, e0, _⟩ := field_int Tryz.underlying3 g0
        obtain ⟨s1, e1, w1⟩ := field_string Tryz.underlying9 g3
        obtain ⟨i2, e2, _⟩ := field_int Tryz.underlying3 g4
        subst e0 e1 e2
        have k0 := hcell 0 (by omega)
        have k1 := hcell 1 (by omega)
        have k2 := hcell 2 (by omega)
        rw [add_add] at k0 k1 k2
        exact ⟨(i0, s1, i2), by simpa using k0, by simpa using k1, by simpa using k2, w1⟩
    obtain ⟨q, hq⟩ := pick_lt (0, ⟨#[]⟩, 0) each
    have hat : ∀ i x, ((List.range len).map q)[i]? = some x → i < len ∧ x = q i := fun i x hx => by
      obtain ⟨hi, e⟩ := List.getElem?_eq_some_iff.1 hx
      rw [List.length_map, List.length_range] at hi
      rw [List.getElem_map, List.getElem_range] at e
      exact ⟨hi, e.symm⟩
    refine ⟨(List.range len).map q, .inr ⟨a, cap, by simp, by simpa using hl, fun i x hx => ?_⟩, fun x hx => ?_, by simp; omega⟩
    · obtain ⟨hi, rfl⟩ := hat i x hx
      have := hq i hi
      exact ⟨this.1, this.2.1, this.2.2.1⟩
    · obtain ⟨i, hi, rfl⟩ := List.mem_map.1 hx
      have := (hq i (List.mem_range.1 hi)).2.2.2
      omega
end Go.Proofs.YtgnejohiagagmaaGreatDoor

namespace Go.Proofs.YtgnejohiagagmaaGreatDoor
open Go.RowKit Tab

def cutS (x : ByteArray) : ByteArray := x.extract 0 (min x.size 40)
def fewT (L : List TokI) : List TokT := L.map fun x => (x.1, (cutS x.2.1).data.toList, 0)
/-- the row that the statement cuts: so many of its texts are cut. -/
def FewC (C : Array Value) (L : List TokI) (j : Nat) : Prop := ∀ (i : Nat) (x : TokI), L[i]? = some x →
  C[i * 3]? = some (.int .i64 x.1) ∧ C[i * 3 + 1]? = some (.string (if i < j then cutS x.2.1 else x.2.1)) ∧ C[i * 3 + 2]? = some (.int .i64 x.2.2)
theorem FewC.step {C : Array Value} {L : List TokI} {j : Nat} {x : TokI} (h : FewC C L j) (hx : L[j]? = some x) (hC : j * 3 + 1 < C.size) : FewC (C.setIfInBounds (j * 3 + 1) (.string (cutS x.2.1))) L (j + 1) := by
  intro i y hy
  obtain ⟨h0, h1, h2⟩ := h i y hy
  refine ⟨?_, ?_, ?_⟩
  · rw [Array.getElem?_setIfInBounds_ne (by omega)]; exact h0
  · by_cases e : i = j
    · subst e
      rw [hx] at hy
      injection hy with hy
      subst hy
      rw [Array.getElem?_setIfInBounds_self, if_pos hC, if_pos (by omega)]
    · rw [Array.getElem?_setIfInBounds_ne (by omega), h1]
      by_cases hi : i < j
      · rw [if_pos hi, if_pos (by omega)]
      · rw [if_neg hi, if_neg (by omega)]
  · rw [Array.getElem?_setIfInBounds_ne (by omega)]; exact h2
theorem few_row {w : World} {g cap : Nat} {C : Array Value} {L : List TokI} (h : FewC C L L.length) (hb : Blk w g C) (hc : L.length ≤ cap) : TokRowA w (.slice (some ⟨g, 0, none⟩) L.length cap) (fewT L) := by
  have hl : (fewT L).length = L.length := by unfold fewT; simp
  refine .inr ⟨g, 0, cap, by rw [hl], by rw [hl]; exact hc, hb.facts.2.2, fun i x hx => ?_⟩
  unfold fewT at hx
  rw [List.getElem?_map] at hx
  cases hy : L[i]? with
  | none => rw [hy] at hx; cases hx
  | some y =>
    rw [hy] at hx
    injection hx with hx
    subst hx
    obtain ⟨h0, h1, h2⟩ := h i y hy
    have hi : i < L.length := (List.getElem?_eq_some_iff.1 hy).1
    rw [if_pos hi] at h1
    rw [Nat.zero_add, hb.facts.1, hb.facts.1, hb.facts.1]
    exact ⟨h0, by rw [h1, ba_eta], _, h2⟩
theorem few_short (L : List TokI) : ∀ x ∈ fewT L, x.2.1.length ≤ 1000 := by
  intro x hx
  unfold fewT at hx
  obtain ⟨y, _, rfl⟩ := List.mem_map.1 hx
  show (cutS y.2.1).data.toList.length ≤ 1000
  rw [ba_size]
  unfold cutS
  rw [ByteArray.size_extract]
  omega
theorem cellsI_len (L : List TokI) : (cellsI L).length = L.length * 3 := by
  induction L with
  | nil => rfl
  | cons x l ih =>
    show (_ ++ cellsI l).length = _
    rw [List.length_append, ih]; simp; omega
theorem cellsI_one (L : List TokI) : ∀ u ∈ cellsI L, u.oneCell' = true := by
  intro u hu
  unfold cellsI at hu
  obtain ⟨x, _, hx⟩ := List.mem_flatMap.1 hu
  simp only [List.mem_cons, List.not_mem_nil, or_false] at hx
  rcases hx with rfl | rfl | rfl <;> rfl
theorem cellsI_at : ∀ (L : List TokI) (i : Nat) (x : TokI), L[i]? = some x → (cellsI L)[i * 3]? = some (.int .i64 x.1) ∧ (cellsI L)[i * 3 + 1]? = some (.string x.2.1) ∧ (cellsI L)[i * 3 + 2]? = some (.int .i64 x.2.2)
  | [], i, x, h => by simp at h
  | y :: l, 0, x, h => by
    simp at h; subst h
    exact ⟨rfl, rfl, rfl⟩
  | y :: l, i + 1, x, h => by
    have := cellsI_at l i x (by simpa using h)
    rw [show (i + 1) * 3 = i * 3 + 3 by omega]
    exact this
theorem cellsI_cell {w : World} {a : Addr} : ∀ (L : List TokI) (o : Nat), (∀ (i : Nat) (x : TokI), L[i]? = some x → w.cell? (a.add (o + i * 3)) = some (.int .i64 x.1) ∧ w.cell? (a.add (o + i * 3 + 1)) = some (.string x.2.1) ∧ w.cell? (a.add (o + i * 3 + 2)) = some (.int .i64 x.2.2)) →
    ∀ (j : Nat) (u : Value), (cellsI L)[j]? = some u → w.cell? (a.add (o + j)) = some u
  | [], o, _, j, u, h => by simp [cellsI] at h
  | x :: L, o, h, j, u, hj => by
    have h0 := h 0 x rfl
    rw [Nat.zero_mul, Nat.add_zero] at h0
    match j, hj with
    | 0, hj => cases hj; exact h0.1
    | 1, hj => cases hj; exact h0.2.1
    | 2, hj => cases hj; exact h0.2.2
    | j + 3, hj =>
      have ht := cellsI_cell L (o + 3) (fun i y hy => by
        have := h (i + 1) y (by simpa using hy)
        rw [show o + (i + 1) * 3 = o + 3 + i * 3 by omega] at this
        exact this) j u hj
      rw [show o + (j + 3) = o + 3 + j by omega]
      exact ht
theorem few_start {w : World} {base : Nat} {v : Value} {K : List TokI} {e : TypeId} (h : w.ownsRow base e 3 v K.length (cellsI K)) : ∃ ao cap, v = .slice ao K.length cap ∧ ((K.length = 0 ∧ ao = none ∧ cap = 0) ∨ ∃ g C, ao = some ⟨g, 0, none⟩ ∧ K.length ≤ cap ∧ C.size = cap * 3 ∧ base ≤ g ∧ Blk w g C ∧ FewC C K 0) := by
  rcases h.2 with ⟨rfl, h0⟩ | ⟨g, cap, cur, rfl, h2, h3, h4, h5, h6, h7⟩
  · exact ⟨none, 0, by rw [h0], .inl ⟨h0, rfl, rfl⟩⟩
  · refine ⟨_, cap, rfl, .inr ⟨g, cur, rfl, h4, h6, h2, ⟨_, h3⟩, fun i x hx => ?_⟩⟩
    have hi : i < K.length := (List.getElem?_eq_some_iff.1 hx).1
    obtain ⟨k0, k1, k2⟩ := cellsI_at K i x hx
    have hc : ∀ j, j < K.length * 3 → cur[j]? = (cellsI K)[j]? := fun j hj => by
      rw [← h7, List.getElem?_take, if_pos hj, Array.getElem?_toList]
    rw [hc _ (by omega), hc _ (by omega), hc _ (by omega), if_neg (by omega)]
    exact ⟨k0, k1, k2⟩

set_option maxRecDepth 100000 in
set_option maxHeartbeats 16000000 in
theorem tells_walk (v : Value) (L : List TokI) (s t : ByteArray) (ma mb n : Nat) (ha : ma ≤ 210) (ha' : ma ≤ s.size) (hma : min (s.size : Int) 210 = (ma : Int)) (hb : mb ≤ 60) (hb' : mb ≤ t.size) (hmb : min (t.size : Int) 60 = (mb : Int)) (hn : n ≤ 40) (hn' : n ≤ L.length) (hmn : min (L.length : Int) 40 = (n : Int)) (w : World) (hg : Good w) (hwd : Words w) (hL : TokRowI w v L) : Calls Tryz.prog 3 #[.string s, v, .string t] w (Ret (.bool true) w) := by
  have cE := examples_any w hg hwd
  obtain ⟨A, hA⟩ : ∃ A, s.extract 0 ma = A := ⟨_, rfl⟩
  obtain ⟨B, hB⟩ : ∃ B, t.extract 0 mb = B := ⟨_, rfl⟩
  have hAs : A.size = ma := by rw [← hA, ByteArray.size_extract]; omega
  have hBs : B.size = mb := by rw [← hB, ByteArray.size_extract]; omega
  have r1 := fun W (hW : Below w.heap.size w W) => read_any A (by omega) W (hg.below hW) (hwd.below hW)
  obtain ⟨P1, hP1⟩ : ∃ P, A.extract 0 (ma / 2) = P := ⟨_, rfl⟩
  obtain ⟨P2, hP2⟩ : ∃ P, A.extract (ma / 2) ma = P := ⟨_, rfl⟩
  have z1 : P1.size ≤ 210 := by rw [← hP1, ByteArray.size_extract]; omega
  have z2 : P2.size ≤ 210 := by rw [← hP2, ByteArray.size_extract]; omega
  obtain ⟨BA, hBA⟩ : ∃ P, B ++ A = P := ⟨_, rfl⟩
  obtain ⟨PB, hPB⟩ : ∃ P, P1 ++ B = P := ⟨_, rfl⟩
  obtain ⟨PC, hPC⟩ : ∃ P, PB ++ P2 = P := ⟨_, rfl⟩
  have s1 : BA.size ≤ 1000 := by rw [← hBA, ByteArray.size_append]; omega
  have s2 : PB.size ≤ 1000 := by rw [← hPB, ByteArray.size_append]; omega
  have s3 : PC.size ≤ 2000 := by rw [← hPC, ByteArray.size_append]; omega
  have r2 := fun W (hW : Below w.heap.size w W) => read_any BA (by omega) W (hg.below hW) (hwd.below hW)
  have r3 := fun W (hW : Below w.heap.size w W) => read_any PC (by omega) W (hg.below hW) (hwd.below hW)
  have y5 : ¬ 9223372036854775807 < PB.size + P2.size := by omega
  have y1 : ¬ 9223372036854775807 < B.size + A.size := by omega
  have y2 : ¬ 9223372036854775807 < P1.size + B.size := by omega
  have y3 : ¬ 9223372036854775807 < P1.size + B.size + P2.size := by omega
  have n1 := fun W (hW : Below w.heap.size w W) => isName_any B W (hg.below hW) (by omega)
  have n2 := fun W => refIsName_any B (by omega) W
  obtain ⟨N, hN⟩ : ∃ N, isNameD B.data.toList = N := ⟨_, rfl⟩
  rw [hN] at n1 n2
  clear hN
  obtain ⟨K, hK⟩ : ∃ K, L.take n = K := ⟨_, rfl⟩
  have hKl : K.length = n := by rw [← hK, List.length_take]; omega
  have hfl : (fewT K).length ≤ 1000000 := by unfold fewT; rw [List.length_map]; omega
  have hfs := few_short K
  have pX := fun v W (hW : Below w.heap.size w W) hr => print_anyA decED decIs (fewT K) hfl hfs v W (hg.below hW) (hwd.below hW) hr
  have pY := fun v W hr => refPrint_any (fewT K) hfl hfs v W hr
  obtain ⟨X, e, hP⟩ : ∃ X e, printD decED (fewT K) = (X, e) := ⟨_, _, rfl⟩
  rw [hP] at pX pY
  dsimp only at pX pY
  unfold strV at pX pY
  have hAi : ((ma : Nat) : Int) ≤ (s.size : Int) := by omega
  clear hP hfl hfs
  have hbel := Below.refl w.heap.size w
  rcases hL with ⟨rfl, rfl⟩ | ⟨a, cap, rfl, hcap, hcell⟩
  · have hn0 : n = 0 := by have := hn'; simp at this; exact this
    obtain rfl : K = [] := List.eq_nil_of_length_eq_zero (by omega)
    go_enter Tryz.func3, Tryz.ntmps3
    go_wp2_with fail
    refine cE.mono ?_; rintro e1 w1 ⟨rfl, hW⟩
    clear cE
    subst hn0
    obtain ⟨iT, hi, hz0, hz1, hz2⟩ := info_parts infoTok
    go_wp2_with (at_builtin; refine held ?_)
    unfold Held
    refine wpList_want (by rfl) ?_
    intro KK hKK
    refine wp_append_none _ _ 22 rfl w.heap.size 25 iT 3 Tryz.underlying22 hi (.slice none 0 0) 0 [] rfl ⟨rfl, .inl ⟨rfl, rfl⟩⟩ rfl ?_
    refine hKK _ _ ?_
    clear hKK
    go_wp2_with fail
    go_loopw [11] (fun i w' => i = .int .i64 0 ∧ Below w.heap.size w w') (fun _ _ => 0)
    case atStart => exact ⟨rfl, hW⟩
    case round =>
      clear hW
      obtain ⟨rfl, hW⟩ := hrel
      have hr : TokRowA wr (.slice none 0 0) (fewT []) := .inl ⟨rfl, rfl⟩
      go_wp2_with fail
      refine (pX _ _ hW hr).mono ?_; rintro e2 w2 ⟨rfl, hb2⟩
      replace hr := hr.below hb2
      replace hW := after hW hb2
      clear hb2 pX
      go_wp2_with fail
      refine (pY _ _ hr).mono ?_; rintro e3 w3 ⟨rfl, hb3⟩
      replace hW := after hW hb3
      clear hb3 pY hr
      cases N
      all_goals (
        go_upto_region 13 with fail
        have kc := gcell w3
        refine region_below (by kernel_rfl) (by kernel_rfl) ?_
        iterate 3 (go_big_quiet_step (fail))
        go_big_quiet_step (exact Ret.grown (fun W hW' => r1 W (after hW hW')))
        iterate 5 (go_big_quiet_step (fail))
        go_big_quiet_step (exact Ret.grown (fun W hW' => r2 W (after hW hW')))
        iterate 15 (go_big_quiet_step (fail))
        go_big_quiet_step (exact Ret.grown (fun W hW' => r3 W (after hW hW')))
        iterate 3 (go_big_quiet_step (fail))
        go_big_quiet_step (exact Ret.grown (fun W hW' => n1 W (after hW hW')))
        iterate 1 (go_big_quiet_step (fail))
        go_big_quiet_step (exact Ret.grown (fun W _ => n2 W))
        iterate 13 (go_big_quiet_step (fail))
        refine wpQuiet_nil ?_
        intro w9 hb9
        have hW9 := after hW hb9
        clear kc hb9
        go_wp2
        go_ret
        exact Ret.mk' rfl hW9)
  · obtain ⟨iT, hi, hz0, hz1, hz2⟩ := info_parts infoTok
    have hcell2 : ∀ (j : Nat) (u : Value), (cellsI K)[j]? = some u → w.cell? (a.add j) = some u := fun j u hj => by
      have := cellsI_cell K 0 (w := w) (a := a) (fun i x hx => by
        rw [Nat.zero_add]
        refine hcell i x ?_
        rw [← hK, List.getElem?_take] at hx
        split at hx
        · exact hx
        · cases hx) j u hj
      rwa [Nat.zero_add] at this
    have hnc : n ≤ cap := by omega
    clear hcell hK
    go_enter Tryz.func3, Tryz.ntmps3
    go_wp2_with fail
    refine cE.mono ?_; rintro e1 w1 ⟨rfl, hW⟩
    clear cE
    have hcell3 : ∀ (j : Nat) (u : Value), (cellsI K)[j]? = some u → w1.cell? (a.add j) = some u := fun j u hj => by
      have h1 := hcell2 j u hj
      rw [← h1]
      exact World.cell?_of_block (w := w) (hW.block _ (World.block_lt_of_cell? w _ h1))
    clear hcell2
    go_wp2_with (at_builtin; refine held ?_)
    unfold Held
    refine wpList_want (by rfl) ?_
    intro KK hKK
    refine wp_append_own w1 _ _ 22 rfl w.heap.size 25 iT (.agg #[.int .i64 0, .string ⟨#[]⟩, .int .i64 0]) 3 32 Tryz.underlying22 hi hz0 hz1 hz2 rfl (by decide) (.slice none 0 0) 0 [] rfl ⟨rfl, .inl ⟨rfl, rfl⟩⟩ a n cap (cellsI K) rfl (by rw [cellsI_len, hKl]) hcell3 (cellsI_one K) (by unfold maxLen; omega) (by omega) hW.size ?_
    intro v5 w5 own5 hg5 _
    rw [Nat.zero_add, List.nil_append, ← hKl] at own5
    have hW5 : Below w.heap.size w w5 := hW.grown hg5 hW.size (fun k hk => by cases hk)
    have hfew := few_start own5
    refine hKK _ _ ?_
    clear hKK hg5 own5 hcell3 hW
    replace hW := hW5
    clear hW5
    obtain ⟨ao, cp, rfl, hrow⟩ := hfew
    rw [hKl]
    rw [hKl] at hrow
    go_wp2_with fail
    go_loopw [11] (fun i w' => ∃ j : Nat, i = .int .i64 (j : Int) ∧ j ≤ n ∧ Below w.heap.size w w' ∧ ((n = 0 ∧ ao = none ∧ cp = 0) ∨ ∃ g C, ao = some ⟨g, 0, none⟩ ∧ n ≤ cp ∧ C.size = cp * 3 ∧ w.heap.size ≤ g ∧ Blk w' g C ∧ FewC C K j)) (fun i _ => n - (intOf i).toNat)
    case atStart => exact ⟨0, rfl, by omega, hW, hrow⟩
    case round =>
      clear hW hrow
      obtain ⟨j, rfl, hj, hW, hrow⟩ := hrel
      by_cases hlt : j < n
      · rcases hrow with ⟨h0, _, _⟩ | ⟨g, C, rfl, hcp, hCs, hgl, hBk, hF⟩
        · omega
        obtain ⟨x, hx⟩ : ∃ x, K[j]? = some x := ⟨_, List.getElem?_eq_getElem (by omega)⟩
        obtain ⟨-, f1, -⟩ := hF j x hx
        rw [if_neg (by omega)] at f1
        obtain ⟨fg, gg, zg⟩ := hBk.facts
        have kx : wr.cell? ⟨g, j * 3 + 1, none⟩ = some (.string x.2.1) := (fg _).trans f1
        have HF2 := Lib.hid (hF.step hx (by omega))
        obtain ⟨S, hS⟩ : ∃ S, x.2.1 = S := ⟨_, rfl⟩
        rw [hS] at kx HF2
        obtain ⟨m, hm⟩ : ∃ m, min S.size 40 = m := ⟨_, rfl⟩
        have hcut : S.extract 0 m = cutS S := by rw [← hm]; rfl
        have hmi : min (S.size : Int) 40 = (m : Int) := by omega
        have hmS : m ≤ S.size := by omega
        have ew : IntKind.i64.wrap ((j : Int) + 1) = ((j + 1 : Nat) : Int) := by rw [IntWalk.i64_in _ (by omega)]; omega
        have hji : (j : Int) < (n : Int) := by omega
        have hB2 : Blk (wr.drew.setCell ⟨g, j * 3 + 1, none⟩ (.string (S.extract 0 m))) g (C.setIfInBounds (j * 3 + 1) (.string (S.extract 0 m))) := (hBk.below (drewB (Below.refl _ _))).set
        have hW2 : Below w.heap.size w (wr.drew.setCell ⟨g, j * 3 + 1, none⟩ (.string (S.extract 0 m))) := (drewB hW).setCell hgl _
        rw [← hcut] at HF2
        have HB2 := Lib.hid hB2
        have HW2 := Lib.hid hW2
        have HCS := Lib.hid hCs
        clear fg f1 hF hBk hW hS hm hx hcut hB2 hW2 hCs
        go_upto_region 10 with fail
        go_region
        all_goals (
          go_wp2
          go_roundw
          case rel => exact ⟨j + 1, rfl, hlt, HW2.out, .inr ⟨g, _, rfl, hcp, by simp [HCS.out], hgl, HB2.out, HF2.out⟩⟩
          case measure => simp [intOf]; omega)
      · have hjn : j = n := by omega
        have hr : TokRowA wr (.slice ao n cp) (fewT K) := by
          rcases hrow with ⟨h0, rfl, rfl⟩ | ⟨g, C, rfl, hcp, hCs, hgl, hBk, hF⟩
          · have hK0 : K = [] := List.eq_nil_of_length_eq_zero (by omega)
            exact .inl ⟨by rw [h0], by rw [hK0]; rfl⟩
          · rw [hjn, ← hKl] at hF
            have := few_row hF hBk (by rw [hKl]; exact hcp)
            rw [hKl] at this
            exact this
        clear hrow
        go_wp2_with fail
        refine (pX _ _ hW hr).mono ?_; rintro e2 w2 ⟨rfl, hb2⟩
        replace hr := hr.below hb2
        replace hW := after hW hb2
        clear hb2 pX
        go_wp2_with fail
        refine (pY _ _ hr).mono ?_; rintro e3 w3 ⟨rfl, hb3⟩
        replace hW := after hW hb3
        clear hb3 pY hr
        cases N
        all_goals (
          go_upto_region 13 with fail
          have kc := gcell w3
          refine region_below (by kernel_rfl) (by kernel_rfl) ?_
          iterate 3 (go_big_quiet_step (fail))
          go_big_quiet_step (exact Ret.grown (fun W hW' => r1 W (after hW hW')))
          iterate 5 (go_big_quiet_step (fail))
          go_big_quiet_step (exact Ret.grown (fun W hW' => r2 W (after hW hW')))
          iterate 15 (go_big_quiet_step (fail))
          go_big_quiet_step (exact Ret.grown (fun W hW' => r3 W (after hW hW')))
          iterate 3 (go_big_quiet_step (fail))
          go_big_quiet_step (exact Ret.grown (fun W hW' => n1 W (after hW hW')))
          iterate 1 (go_big_quiet_step (fail))
          go_big_quiet_step (exact Ret.grown (fun W _ => n2 W))
          iterate 13 (go_big_quiet_step (fail))
          refine wpQuiet_nil ?_
          intro w9 hb9
          have hW9 := after hW hb9
          clear kc hb9
          go_wp2
          go_ret
          exact Ret.mk' rfl hW9)

theorem law_LexTells (v : Value) (L : List TokI) (s t : ByteArray) (w : World) (hg : Good w) (hwd : Words w) (hL : TokRowI w v L) : Calls Tryz.prog 3 #[.string s, v, .string t] w (Ret (.bool true) w) :=
  tells_walk v L s t (min s.size 210) (min t.size 60) (min L.length 40) (by omega) (by omega) (by omega) (by omega) (by omega) (by omega) (by omega) (by omega) (by omega) w hg hwd hL
end Go.Proofs.YtgnejohiagagmaaGreatDoor
