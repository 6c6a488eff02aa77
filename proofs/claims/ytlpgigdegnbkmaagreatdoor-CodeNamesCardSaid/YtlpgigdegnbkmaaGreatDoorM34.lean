import Derived.Test.YtlpgigdegnbkmaaGreatDoorM33
set_option maxRecDepth 100000
set_option maxHeartbeats 8000000
namespace Tab
def Bnd (K : Int) (l : List FndD) : Prop := ∀ f ∈ l, (-K <= f.v /\ f.v <= K) /\ (-K <= f.n /\ f.n <= K)
theorem Bnd.mono {K L : Int} {l : List FndD} (h : Bnd K l) (hk : K <= L) : Bnd L l := fun f hf => by have := h f hf; omega
theorem bnd_at {K : Int} {c : ChkD} {i : Nat} {v n : Int} (h : Bnd K c.l) (hv : -K <= v /\ v <= K) (hn : -K <= n /\ n <= K) : Bnd K (atC c i v n).l := fun f hf => by
 rcases List.mem_or_eq_of_mem_set (show f ∈ c.l.set i ⟨v, n, true⟩ from hf) with h1 | h1
 ·exact h f h1
 ·subst h1; exact ⟨hv, hn⟩
theorem heads_le : ∀ (s : Nat) (B : List (List InsD)) (Q : List Bs), B.length = Q.length -> headsC s B Q = true -> ∀ l ∈ B, l.length <= 400
 | _, [], _, _, _, l, hl => by cases hl
 | _, _ :: _, [], h, _, _, _ => by simp at h
 | s, x :: B, q :: Q, hl, h, l, hm => by
  unfold headsC at h
  split at h
  ·rename_i hc
   simp only [Bool.and_eq_true, Bool.not_eq_true', decide_eq_false_iff_not] at hc
   rcases List.mem_cons.1 hm with rfl | hm
   ·omega
   ·exact heads_le _ B Q (by simpa using hl) h l hm
  ·cases h
theorem win_of {n lo hi : Int} (h : winD n lo hi = true) : lo <= n /\ n <= hi := by
 unfold winD at h
 simpa using h
theorem ok_of {x : InsD} {b blocks behind : Int} (h : fieldsC x b blocks behind = true) : okI x b blocks behind = true := by
 unfold fieldsC at h
 rw [Bool.and_eq_true] at h
 exact h.1
end Tab
namespace Go.Proofs.YtlpgigdegnbkmaaGreatDoor
open Go.RowKit Tab Tryz
theorem stepOk_of {x : InsD} {b blocks : Int} {i n : Nat} (_hi : i < n) (h : fieldsC x b blocks ((n : Int) - i - 1) = true) : StepOk x i (n + 1) := by
 have ho := ok_of h
 refine ⟨fun h1 => ?_, fun h1 => ?_, fun h1 => ⟨?_, fun h2 => ?_⟩⟩
 ·rcases h1 with h1 | h1
  ·unfold okI at ho; simp only [h1] at ho
   have := win_of (show winD x.a 0 ((n : Int) - i - 1) = true from ho)
   omega
  ·unfold okI at ho; simp only [h1] at ho
   have h2 : (winD x.a 0 ((n : Int) - i - 1) && winD x.b 0 ((n : Int) - i - 1)) = true := ho
   rw [Bool.and_eq_true] at h2
   have := win_of h2.1
   omega
 ·unfold okI at ho; simp only [h1] at ho
  have h2 : (winD x.a 0 ((n : Int) - i - 1) && winD x.b 0 ((n : Int) - i - 1)) = true := ho
  rw [Bool.and_eq_true] at h2
  have := win_of h2.2
  omega
 ·rcases h1 with h1 | h1 | h1 | h1
  ·unfold okI at ho; simp only [h1] at ho
   have h2 : (namedB x.s && winD x.a 0 400) = true := ho
   rw [Bool.and_eq_true] at h2
   have := win_of h2.2
   omega
  ·unfold okI at ho; simp only [h1] at ho
   have h2 : (winD x.a 1 400 && winD x.b 1 400) = true := ho
   rw [Bool.and_eq_true] at h2
   have := win_of h2.1
   omega
  ·unfold okI at ho; simp only [h1] at ho
   have := win_of (show winD x.a 0 400 = true from ho)
   omega
  ·unfold okI at ho; simp only [h1] at ho
   have := win_of (show winD x.a 0 400 = true from ho)
   omega
 ·unfold okI at ho; simp only [h2] at ho
  have h3 : (winD x.a 1 400 && winD x.b 1 400) = true := ho
  rw [Bool.and_eq_true] at h3
  have := win_of h3.2
  omega
theorem bnd_step {K : Int} {c : ChkD} {i n : Nat} {x : InsD} {f : FndD} (_hK : 0 <= K) (h : Bnd K c.l) (hf : c.l[i]? = some f) (hs : StepOk x i n) : Bnd (K + 200000) (stepC c i x).l := by
 have hfd : c.l.getD i FndD.zero = f := by rw [List.getD_eq_getElem?_getD, hf]; rfl
 obtain ⟨hv, hn⟩ := h f (List.mem_of_getElem? hf)
 have h2 := h.mono (L := K + 200000) (by omega)
 have hA : ∀ p, Bnd (K + 200000) (andC c p).l := fun p => h2
 unfold stepC
 rw [hfd]
 unfold stepF
 split
 ·exact bnd_at h2 (by omega) (by omega)
 split
 ·exact bnd_at (bnd_at (bnd_at h2 (by omega) (by omega)) (by omega) (by omega)) (by omega) (by omega)
 split
 ·exact bnd_at h2 (by omega) (by omega)
 split
 ·rename_i h19
  have := (hs.few (by simp [h19])).1
  exact bnd_at h2 (by omega) (by omega)
 split
 ·exact bnd_at h2 (by omega) (by omega)
 split
 ·exact bnd_at h2 (by omega) (by omega)
 split
 ·exact bnd_at h2 (by omega) (by omega)
 split
 ·rename_i h11
  have := (hs.few (by simp [h11])).1
  exact bnd_at h2 (by omega) (by omega)
 split
 ·rename_i h12
  have h3 := (hs.few (by simp [h12])).1
  have h4 := (hs.few (by simp [h12])).2 h12
  have h5 : 0 <= x.a * x.b := Int.mul_nonneg h3.1 h4.1
  have h6 := Int.mul_le_mul h3.2 h4.2 h4.1 (by omega : (0 : Int) <= 400)
  exact bnd_at h2 (by omega) (by omega)
 split
 ·rename_i h16
  have := (hs.few (by simp [h16])).1
  exact bnd_at h2 (by omega) (by omega)
 ·exact bnd_at h2 (by omega) (by omega)
theorem stepC_len (c : ChkD) (i : Nat) (x : InsD) : (stepC c i x).l.length = c.l.length := by
 unfold stepC stepF
 repeat' split
 all_goals simp [atC, andC]
theorem infoFnd : (prog.info? 75).map (fun i => (i.zero, i.size, i.bytes)) = some (some (.agg #[.int .i64 0, .int .i64 0, .bool false]), 3, 24) := by kernel_rfl
theorem zeros_at : ∀ (n j : Nat), j < n * 3 -> (fndL (List.replicate n FndD.zero))[j]? = some ((#[Value.int .i64 0, .int .i64 0, .bool false] : Array Value)[j % 3]!)
 | 0, j, h => by omega
 | n + 1, j, h => by
  rw [List.replicate_succ]
  show (fndC FndD.zero ++ fndL (List.replicate n FndD.zero))[j]? = _
  by_cases h3 : j < 3
  ·have : j = 0 \/ j = 1 \/ j = 2 := by omega
   rcases this with rfl | rfl | rfl <;> rfl
  ·rw [List.getElem?_append_right (by simp [fndC]; omega), show (fndC FndD.zero).length = 3 from rfl, zeros_at n (j - 3) (by omega), show (j - 3) % 3 = j % 3 by omega]
theorem makeFnd (n : Nat) (hn : n <= 100000) (W : World) : (Instr.makeSlice 71 (.int .i64 (n : Int)) (.int .i64 (n : Int))).run prog W = .ok (.slice (some ⟨W.heap.size, 0, none⟩) n n) (W.alloc (.cells (fndL (List.replicate n FndD.zero)).toArray 75)) := by
 obtain ⟨i, hi, hz, hs, hb⟩ := info_parts infoFnd
 have := run_make W 71 75 i (.agg #[.int .i64 0, .int .i64 0, .bool false]) underlying71 hi hz .i64 .i64 (n : Int) (n : Int) (by omega) (by omega) (by rw [hb]; omega) (by omega)
 rw [this, hs]
 have e : madeCells (Value.agg #[.int .i64 0, .int .i64 0, .bool false]).cells ((n : Int).toNat * 3) = (fndL (List.replicate n FndD.zero)).toArray := by
  apply Array.ext_getElem?
  intro j
  have e2 : (fndL (List.replicate n FndD.zero)).toArray[j]? = (fndL (List.replicate n FndD.zero))[j]? := by simp
  rw [e2]
  by_cases hj : j < n * 3
  ·rw [zeros_at n j hj]
   simp [madeCells, Value.cells, hj]
  ·rw [List.getElem?_eq_none (show (fndL (List.replicate n FndD.zero)).length <= j by rw [fndL_len]; simp; omega)]
   exact Array.getElem?_eq_none (by rw [size_madeCells]; simp; omega)
 rw [e]
 simp
theorem codeRight_any (ga : Option Addr) (gc : Nat) (ha : Option Addr) (hc : Nat) (c : CodeD) (w : World) (hg : Good w) (hI : CodeIn w ga gc ha hc c) (hS : CodeSm c) : Calls prog 12 #[codeV ga gc ha hc c] w (Ret (.bool (rightC c)) w) := by
 obtain ⟨N, hN⟩ : ∃ N, c.blocks.length = N := ⟨_, rfl⟩
 obtain ⟨M, hM⟩ : ∃ M, c.params.length = M := ⟨_, rfl⟩
 have hcap := hI.cap
 have hpcap := hI.pars.cap
 unfold codeV rightC
 rw [hN, hM]
 by_cases h1 : N < 1
 ·rw [if_pos (.inl h1)]
  have e1 : decide ((N : Int) < 1) = true := decide_eq_true (by omega)
  go_enter func12, ntmps12
  go_wp2
  go_ret; exact Ret.mk' rfl belx
 by_cases h2 : 20 < N
 ·rw [if_pos (.inr (.inl h2))]
  have e1 : decide ((N : Int) < 1) = false := decide_eq_false (by omega)
  have e2 : decide ((20 : Int) < (N : Int)) = true := decide_eq_true (by omega)
  go_enter func12, ntmps12
  go_wp2
  go_ret; exact Ret.mk' rfl belx
 have e1 : decide ((N : Int) < 1) = false := decide_eq_false (by omega)
 have e2 : decide ((20 : Int) < (N : Int)) = false := decide_eq_false (by omega)
 by_cases h3 : M ≠ N
 ·rw [if_pos (.inr (.inr (.inl h3)))]
  have e3 : ((M : Int) != (N : Int)) = true := by rw [bne_iff_ne]; omega
  go_enter func12, ntmps12
  go_wp2
  go_ret; exact Ret.mk' rfl belx
 obtain rfl : M = N := by omega
 clear h3
 obtain ⟨hb, ho, rfl, hhb, hc0⟩ := hI.pars.cell (i := 0) (by omega)
 have hd0 : c.params.getD 0 [] = c.params[0] := by rw [List.getD_eq_getElem?_getD, List.getElem?_eq_getElem (by omega)]; rfl
 rw [Nat.add_zero] at hc0
 have hM0 : (0 : Int) < (M : Int) := by omega
 by_cases h4 : c.params.getD 0 [] ≠ []
 ·rw [if_pos (.inr (.inr (.inr h4)))]
  rw [hd0] at h4
  have hie : List.isEmpty c.params[0] = false := by cases h : c.params[0] with | nil => exact absurd h h4 | cons _ _ => rfl
  generalize c.params[0] = P0 at *
  clear hd0 h4
  go_enter func12, ntmps12
  go_wp2
  go_ret; exact Ret.mk' rfl belx
 rw [if_neg (by rintro (h | h | h | h) <;> first | exact h1 h | exact h2 h | exact h rfl | exact h4 h)]
 have h4 : c.params[0] = [] := by rw [<- hd0]; exact Decidable.byContradiction h4
 rw [h4] at hc0
 have e3 : ((M : Int) != (M : Int)) = false := by simp
 obtain ⟨gb, go, rfl, hgb, hrows⟩ := hI.rows.resolve_left (fun h => by rw [h] at hN; simp at hN; omega)
 clear hd0 h4
 have hheads := heads_le 0 c.blocks c.params (by rw [hN, hM])
 obtain ⟨V1, hV1⟩ : ∃ V1, headsC 0 c.blocks c.params = V1 := ⟨_, rfl⟩
 obtain ⟨V2, hV2⟩ : ∃ V2, blocksC (M : Int) 0 c.blocks = V2 := ⟨_, rfl⟩
 rw [hV1] at hheads ⊢
 rw [hV2]
 obtain ⟨RV, hRV⟩ : ∃ RV, (if V1 = true then V2 else false) = RV := ⟨_, rfl⟩
 rw [hRV]
 have HV := Lib.hid (And.intro hV1 (And.intro hV2 (And.intro hheads hRV)))
 have HI := Lib.hid (And.intro hI (And.intro hrows hS))
 have HNM := Lib.hid (And.intro hN hM)
 clear hV1 hV2 hheads hRV hI hrows hS hN hM
 have hgh := Lib.hid hg
 go_enter func12, ntmps12
 go_upto_region 1 with (fail)
 refine wp_abs2 (On1 35 w #[.slice (some ⟨gb, go, none⟩) M gc, .slice (some ⟨hb, ho, none⟩) M hc]) ⟨belx, heap_alloc_new _ _⟩ ?_
 rintro w1 ⟨hb1, q1⟩
 have hcell0 := (hb1.cell (p := ⟨hb, ho, none⟩) hhb).trans hc0
 obtain ⟨f1, -, z1⟩ := lie_cell q1
 have HQ1 := Lib.hid q1
 clear q1 hc0
 go_wp2_with fail
 go_loopw [4, 38] (fun s i w' => ∃ (j sum : Nat), s = .int .i64 (sum : Int) /\ i = .int .i64 (j : Int) /\ j <= M /\ sum <= 400 /\ headsC sum (c.blocks.drop j) (c.params.drop j) = V1 /\ Below w.heap.size w w' /\ w'.heap[w.heap.size]? = some (.cells #[.slice (some ⟨gb, go, none⟩) M gc, .slice (some ⟨hb, ho, none⟩) M hc] 35 (0, 0))) (fun _ i _ => M - (intOf i).toNat)
 case atStart => exact ⟨0, 0, rfl, rfl, by omega, by omega, HV.out.1, hb1, HQ1.out⟩
 case round =>
  clear f1 hcell0 HQ1
  obtain ⟨j, sum, rfl, rfl, hj, hsum, hH, hB, q2⟩ := hrel
  have HH := Lib.hid hH
  clear hH
  obtain ⟨f2, -, z2⟩ := lie_cell q2
  have hM0' : (0 : Int) <= (M : Int) := by omega
  by_cases hlt : j < M
  ·obtain ⟨hI, hrows, hS⟩ := HI.out
   obtain ⟨l, hl⟩ : ∃ l, c.blocks[j]? = some l := ⟨_, List.getElem?_eq_getElem (by rw [HNM.out.1]; exact hlt)⟩
   obtain ⟨q, hq⟩ : ∃ q, c.params[j]? = some q := ⟨_, List.getElem?_eq_getElem (by rw [HNM.out.2]; exact hlt)⟩
   obtain ⟨v, hv, la, lc, rfl, hlc, -⟩ := hrows j l hl
   have hvw := (hB.cell (p := ⟨gb, go + j, none⟩) hgb).trans hv
   obtain ⟨hb', ho', he, _, hqc⟩ := hI.pars.cell (i := j) (by rw [HNM.out.2]; exact hlt)
   injection he with he; injection he with e1 e2
   subst e1 e2
   have hjl : j < c.params.length := by rw [HNM.out.2]; exact hlt
   have hqj : c.params[j] = q := (List.getElem?_eq_some_iff.1 hq).2
   rw [hqj] at hqc
   have hqw := (hB.cell (p := ⟨hb, ho + j, none⟩) hhb).trans hqc
   have hql : q.length <= 900000 := hS.names q (List.mem_of_getElem? hq)
   have hll : l.length <= 1000000 := (hS.each l (List.mem_of_getElem? hl)).1
   have cL := fun W (h : Below w.heap.size w W) => listed_any q 400 W (hgh.out.below h) (by omega)
   have hH := HH.out
   obtain ⟨h7, h8⟩ := List.getElem?_eq_some_iff.1 hl
   obtain ⟨h9, h10⟩ := List.getElem?_eq_some_iff.1 hq
   rw [List.drop_eq_getElem_cons h7, List.drop_eq_getElem_cons h9, h8, h10] at hH
   unfold headsC at hH
   obtain ⟨L, hL⟩ : ∃ L, l.length = L := ⟨_, rfl⟩
   rw [hL] at hH hvw hll
   have ewS : IntKind.i64.wrap ((sum : Int) + (L : Int)) = ((sum + L : Nat) : Int) := by rw [IntWalk.i64_in _ (by omega)]; omega
   have ewJ : IntKind.i64.wrap ((j : Int) + 1) = ((j + 1 : Nat) : Int) := by rw [IntWalk.i64_in _ (by omega)]; omega
   have hji : (j : Int) < (M : Int) := by omega
   clear hI hrows hS hv hq hl hqc hqj h7 h8 h9 h10 hL hlc hql HH hjl
   cases hA : listedB q 400
   ·rw [hA] at hH cL
    have hV := HV.out
    have hH : false = V1 := hH
    rw [<- hH] at hV
    have hR : false = RV := hV.2.2.2
    subst hR
    clear hV hA hH
    go_wp2_with fail
    refine (cL _ hB).mono ?_; rintro e w3 ⟨rfl, hb3⟩
    go_wp2
    go_ret; exact Ret.mk' rfl (after hB hb3)
   ·rw [hA] at hH cL
    by_cases hsu : 400 < sum + L
    ·rw [decide_eq_true hsu] at hH
     have hV := HV.out
     have hH : false = V1 := hH
     rw [<- hH] at hV
     have hR : false = RV := hV.2.2.2
     subst hR
     have es : decide ((400 : Int) < ((sum + L : Nat) : Int)) = true := decide_eq_true (by omega)
     clear hV hA hH
     go_wp2_with fail
     refine (cL _ hB).mono ?_; rintro e w3 ⟨rfl, hb3⟩
     go_wp2
     go_ret; exact Ret.mk' rfl (after hB hb3)
    ·rw [decide_eq_false hsu] at hH
     have hH2 : headsC (sum + L) (c.blocks.drop (j + 1)) (c.params.drop (j + 1)) = V1 := hH
     have HH2 := Lib.hid hH2
     have es : decide ((400 : Int) < ((sum + L : Nat) : Int)) = false := decide_eq_false (by omega)
     clear hA hH hH2
     go_wp2_with fail
     refine (cL _ hB).mono ?_; rintro e w3 ⟨rfl, hb3⟩
     have q3 := (hb3.block _ z2).trans q2
     go_wp2
     go_roundw
     case rel => exact ⟨j + 1, sum + L, rfl, rfl, by omega, by omega, HH2.out, after hB hb3, q3⟩
     case measure => simp [intOf]; omega
  ·have hMj : M = j := by omega
   subst hMj
   have hH := HH.out
   rw [List.drop_eq_nil_of_le (by rw [HNM.out.1]; exact Nat.le_refl _), show ∀ s Q, headsC s [] Q = true from fun s Q => by cases Q <;> rfl] at hH
   subst hH
   obtain ⟨-, hV2, hheads, hRV⟩ := HV.out
   replace hheads := hheads rfl
   rw [if_pos rfl] at hRV
   rw [hRV] at hV2
   clear HH HV hRV
   obtain ⟨hI, hrows, hS⟩ := HI.out
   have HV := Lib.hid hV2
   have HQ2 := Lib.hid q2
   clear hV2 q2
   go_wp2_with fail
   have hIh := Lib.hid (And.intro hI (And.intro hrows (And.intro hS hheads)))
   clear hI hrows hS hheads HI
   go_loopw [62] (fun i w' => ∃ k : Nat, i = .int .i64 (k : Int) /\ k <= M /\ blocksC (M : Int) k (c.blocks.drop k) = RV /\ Below w.heap.size w w' /\ w'.heap[w.heap.size]? = some (.cells #[.slice (some ⟨gb, go, none⟩) M gc, .slice (some ⟨hb, ho, none⟩) M hc] 35 (0, 0))) (fun i _ => M - (intOf i).toNat)
   case atStart => exact ⟨0, rfl, by omega, HV.out, hB, HQ2.out⟩
   case round =>
    clear f2 HQ2 hB z2
    obtain ⟨k, rfl, hk, hH, hB, q2⟩ := hrel
    have HH := Lib.hid hH
    clear hH
    obtain ⟨f2, -, z2⟩ := lie_cell q2
    by_cases hlt : k < M
    ·obtain ⟨hI, hrows, hS, hheads⟩ := hIh.out
     obtain ⟨l, hl⟩ : ∃ l, c.blocks[k]? = some l := ⟨_, List.getElem?_eq_getElem (by rw [HNM.out.1]; exact hlt)⟩
     obtain ⟨v, hv, la, lc, rfl, hlc, hrow⟩ := hrows k l hl
     have hvw := (hB.cell (p := ⟨gb, go + k, none⟩) hgb).trans hv
     have hl4 : l.length <= 400 := hheads l (List.mem_of_getElem? hl)
     have hsm := (hS.each l (List.mem_of_getElem? hl)).2
     obtain ⟨h7, h8⟩ := List.getElem?_eq_some_iff.1 hl
     have hH := HH.out
     rw [List.drop_eq_getElem_cons h7, h8, blocksC] at hH
     obtain ⟨L, hL⟩ : ∃ L, l.length = L := ⟨_, rfl⟩
     have HL := Lib.hid (And.intro hH (And.intro hL (And.intro hrow hsm)))
     rw [hL] at hvw hl4 hlc
     have ewL : IntKind.i64.wrap ((L : Int) + 1) = ((L + 1 : Nat) : Int) := by rw [IntWalk.i64_in _ (by omega)]; omega
     have ewK : IntKind.i64.wrap ((k : Int) + 1) = ((k + 1 : Nat) : Int) := by rw [IntWalk.i64_in _ (by omega)]; omega
     have hki : (k : Int) < (M : Int) := by omega
     clear hI hrows hS hheads hl hv hrow hsm h7 h8 hH hL HH
     go_upto_region 15 with (fail)
     have hmk := fun W => makeFnd (L + 1) (by omega) W
     generalize hL1 : L + 1 = L1 at *
     refine wp_region_lit ?_
     iterate 6 refine st ?_
     have hb2 := after hB (allocB (allocB (Below.refl _ wr)) (o := .cells #[.slice (some ⟨wr.heap.size, 0, none⟩) L1 L1, .bool true] 73) (w := wr) (W := wr.alloc (.cells (fndL (List.replicate L1 FndD.zero)).toArray 75)))
     refine wpList_abs (fun W => Below w.heap.size w W /\ W.heap[w.heap.size]? = some (.cells #[.slice (some ⟨gb, go, none⟩) M gc, .slice (some ⟨hb, ho, none⟩) M hc] 35 (0, 0)) /\ W.heap[wr.heap.size + 1]? = some (.cells #[.slice (some ⟨wr.heap.size, 0, none⟩) L1 L1, .bool true] 73 (0, 0)) /\ W.heap[wr.heap.size]? = some (.cells (fndL (List.replicate L1 FndD.zero)).toArray 75 (0, 0))) ⟨hb2, (allocB (allocB (Below.refl _ wr)) |>.block _ z2).trans q2, heap_alloc2_new _ _ _, heap_alloc2_old _ _ _⟩ ?_
     clear hb2 hmk
     rintro w3 ⟨hb3, q3, p3, g3⟩
     obtain ⟨P, hP⟩ : ∃ P, wr.heap.size + 1 = P := ⟨_, rfl⟩
     obtain ⟨G, hG⟩ : ∃ G, wr.heap.size = G := ⟨_, rfl⟩
     have hwG : w.heap.size < G := by omega
     have hwP : w.heap.size < P := by omega
     rw [hP, hG] at p3
     rw [hG] at g3
     rw [hP, hG]
     clear f2
     iterate 1 refine st ?_
     refine wpList_nil ?_
     obtain ⟨fp3, dp3, zp3⟩ := lie_cell p3
     obtain ⟨fg3, dg3, zg3⟩ := lie_cell g3
     have hc2 : w3.cell? ⟨G, 2, none⟩ = some (.bool false) := by rw [fg3 2, <- hL1]; rfl
     have hr2 : w3.frozen? ⟨G, 2, none⟩ = false := dg3 2
     have hL1p : (0 : Int) < (L1 : Int) := by omega
     clear fg3 dg3
     go_upto_region 17 with (fail)
     refine wp_abs2 (fun W => Below w.heap.size w W /\ W.heap[w.heap.size]? = some (.cells #[.slice (some ⟨gb, go, none⟩) M gc, .slice (some ⟨hb, ho, none⟩) M hc] 35 (0, 0)) /\ ChkAt W P G (bareK L)) ⟨setB hb3 (by omega), (heap_set_other (by omega)).trans q3, ⟨by
      rw [show (bareK L).l.length = L1 by simp [bareK]; omega]
      exact (heap_set_other (by omega)).trans p3, by
      rw [heap_set_same g3, List.setIfInBounds_toArray, <- hL1, List.replicate_succ]; rfl⟩⟩ ?_
     rintro w4 ⟨hb4, q4, k4⟩
     clear fp3 dp3 hc2 hr2 q3 p3 g3 hb3
     have hbk : (bareK L).l.length = L1 := by simp [bareK]; omega
     have hok : (bareK L).ok = true := rfl
     have hbn : Bnd (200000 * ((0 : Nat) : Int)) (bareK L).l := fun f hf => by
      rcases List.mem_cons.1 (show f ∈ ⟨0, 0, true⟩ :: List.replicate L FndD.zero from hf) with rfl | h
      ·simp
      ·rw [(List.mem_replicate.1 h).2]; simp [FndD.zero]
     have hR : (endC L (runC (k : Int) (M : Int) (l.drop 0) 0 (bareK L)) && blocksC (M : Int) (k + 1) (c.blocks.drop (k + 1))) = RV := by
      have h := HL.out.1
      unfold blockC at h
      rw [HL.out.2.1] at h
      exact h
     have HR := Lib.hid (And.intro hbk (And.intro hok (And.intro hbn hR)))
     have HK := Lib.hid (And.intro q4 k4)
     clear hbk hok hbn hR q4 k4
     go_wp2_with fail
     go_loopw [81] (fun i w' => ∃ (m : Nat) (ck : ChkD), i = .int .i64 (m : Int) /\ m <= L /\ ck.l.length = L1 /\ ck.ok = true /\ Bnd (200000 * (m : Int)) ck.l /\ (endC L (runC (k : Int) (M : Int) (l.drop m) m ck) && blocksC (M : Int) (k + 1) (c.blocks.drop (k + 1))) = RV /\ ChkAt w' P G ck /\ Below w.heap.size w w' /\ w'.heap[w.heap.size]? = some (.cells #[.slice (some ⟨gb, go, none⟩) M gc, .slice (some ⟨hb, ho, none⟩) M hc] 35 (0, 0))) (fun i _ => L - (intOf i).toNat)
     case atStart => exact ⟨0, bareK L, rfl, by omega, HR.out.1, HR.out.2.1, HR.out.2.2.1, HR.out.2.2.2, HK.out.2, hb4, HK.out.1⟩
     case round =>
      clear HR HK hb4
      obtain ⟨m, ck, rfl, hm, hckl, hcko, hbn, hR, hck, hB5, q5⟩ := hrel
      by_cases hml : m < L
      ·obtain ⟨-, hLl, hrow, hsm⟩ := HL.out
       obtain ⟨x, hx⟩ : ∃ x, l[m]? = some x := ⟨_, List.getElem?_eq_getElem (by omega)⟩
       obtain ⟨xb, xo, rfl, hxb, hxr⟩ := hrow.resolve_left (fun h => by rw [h] at hLl; simp at hLl; omega)
       have hxc := hxr m x hx
       have hxw : wr.rangeAt xb (xo + m * 18) (insC x) := fun jj u hu => (hB5.cell (p := ⟨xb, xo + m * 18 + jj, none⟩) hxb).trans (hxc jj u hu)
       have hxs := hsm x (List.mem_of_getElem? hx)
       have hmi : (m : Int) < (L : Int) := by omega
       have ewM : IntKind.i64.wrap ((m : Int) + 1) = ((m + 1 : Nat) : Int) := by rw [IntWalk.i64_in _ (by omega)]; omega
       obtain ⟨h7, h8⟩ := List.getElem?_eq_some_iff.1 hx
       rw [List.drop_eq_getElem_cons h7, h8, runC] at hR
       have hrl : (l.drop (m + 1)).length = L - m - 1 := by rw [List.length_drop, hLl]; omega
       rw [hrl, show ((L - m - 1 : Nat) : Int) = (L : Int) - m - 1 by omega] at hR
       have HRR := Lib.hid hR
       have HXX := Lib.hid (And.intro hx (And.intro hxs (And.intro hLl hrl)))
       have HCK := Lib.hid (And.intro hck (And.intro hckl (And.intro hcko (And.intro hbn q5))))
       clear hrow hsm hx hxs h7 h8 hR hrl hLl hck hckl hcko hbn q5 hxr hxc
       go_upto_region 19 with (fail)
       refine wp_region_lit ?_
       iterate 2 refine st ?_
       refine wpList_load_mid rfl 43 (.tmp 84) rfl xb (xo + m * 18) rfl (insC x) _ hxw underlying43 rfl cellsIns ?_
       iterate 2 refine st ?_
       refine wpList_store_mid rfl 43 (.tmp 11) (.tmp 85) rfl wr.heap.size 0 (insC x).toArray rfl rfl (whole_there (heap_alloc_new _ _) rfl) cellsIns (all_oneCell_toArray (insC_one x)) ?_
       refine wpList_abs (On1 43 wr (insC x).toArray) ⟨below_cells _ _ _ _ _ ((Below.refl _ _).alloc (Nat.le_refl _) _), box_whole (heap_alloc_new _ _) rfl⟩ ?_
       rintro w6 ⟨hb6, x6⟩
       refine wpList_nil ?_
       have hB6 := after hB5 hb6
       have hck6 := HCK.out.1.below hb6
       have q6 := (hb6.block _ (heap_in HCK.out.2.2.2.2)).trans HCK.out.2.2.2.2
       obtain ⟨E, hE⟩ : ∃ E, wr.heap.size = E := ⟨_, rfl⟩
       rw [hE] at x6 ⊢
       have ewD1 : IntKind.i64.wrap ((L : Int) - (m : Int)) = (L : Int) - m := by rw [IntWalk.i64_in _ (by omega)]
       have ewD2 : IntKind.i64.wrap ((L : Int) - (m : Int) - 1) = (L : Int) - m - 1 := by rw [IntWalk.i64_in _ (by omega)]
       have hxs := HXX.out.2.1
       have cF := fun W (h : Below w.heap.size w W) => fields_any x (k : Int) (M : Int) ((L : Int) - m - 1) ⟨hxs.dec, hxs.text, by omega, by omega, hxs.refs⟩ W (hgh.out.below h)
       obtain ⟨FV, hFV⟩ : ∃ FV, fieldsC x (k : Int) (M : Int) ((L : Int) - m - 1) = FV := ⟨_, rfl⟩
       rw [hFV] at cF
       have HF := Lib.hid hFV
       have HCK6 := Lib.hid (And.intro hck6 q6)
       clear hxs hFV hck6 q6 hxw hb6 hB5
       go_upto_region 20 with (fail)
       refine wp_region_lit ?_
       refine wpList_load_row rfl 43 (.tmp 11) rfl E rfl 43 (insC x).toArray (0, 0) _ x6 underlying43 rfl (by exact cellsIns) ?_
       iterate 7 refine st ?_
       refine wpList_plain rfl (fun KK hKK => ?_); go_simp
       refine (cF w6 hB6).mono ?_; rintro e w7 ⟨rfl, hb7⟩
       refine hKK _ _ ?_; clear hKK KK
       iterate 1 refine st ?_
       refine wpList_nil ?_
       have hB7 := after hB6 hb7
       have x7 := kq hb7 x6
       have hck7 := HCK6.out.1.below hb7
       have q7 := (hb7.block _ (heap_in HCK6.out.2)).trans HCK6.out.2
       clear cF hb7 x6 HCK6 hB6
       cases FV
       ·have hR := HRR.out
        rw [HF.out, if_neg Bool.false_ne_true] at hR
        have hR : false = RV := hR
        subst hR
        clear hck7 q7 x7
        go_wp2
        go_ret; exact Ret.mk' rfl hB7
       ·have hR := HRR.out
        rw [HF.out, if_pos rfl] at hR
        obtain ⟨f, hf⟩ : ∃ f, ck.l[m]? = some f := ⟨_, List.getElem?_eq_getElem (by rw [HCK.out.2.1]; omega)⟩
        have hbf := HCK.out.2.2.2.1 f (List.mem_of_getElem? hf)
        have hso : StepOk x m ck.l.length := by
         rw [HCK.out.2.1, <- hL1]
         exact stepOk_of hml HF.out
        have cS := step_any P G ck m x f w7 hck7 hf (by rw [HCK.out.2.1]; omega) (by rw [HCK.out.2.1]; omega) (by omega) (by omega) hso
        have hbs := bnd_step (by omega) HCK.out.2.2.2.1 hf hso
        have hsl := (stepC_len ck m x).trans HCK.out.2.1
        obtain ⟨ck2, hck2⟩ : ∃ ck2, stepC ck m x = ck2 := ⟨_, rfl⟩
        rw [hck2] at hR cS hbs hsl
        have HRS := Lib.hid (And.intro hR (And.intro hbs hsl))
        have HQ7 := Lib.hid q7
        clear hR hbs hsl hf hbf hso hck7 hck2 q7
        go_upto_region 22 with (fail)
        refine wp_region_lit ?_
        iterate 2 refine st ?_
        refine wpList_load_row rfl 43 (.tmp 11) rfl E rfl 43 (insC x).toArray (0, 0) _ x7 underlying43 rfl (by exact cellsIns) ?_
        refine wpList_plain rfl (fun KK hKK => ?_); go_simp
        refine cS.mono ?_; rintro e w8 ⟨rfl, hck8, hK8⟩
        refine hKK _ _ ?_; clear hKK KK
        refine wpList_nil ?_
        have hB8 := KeptK.mem hB7 hK8 (Nat.le_refl _) (by omega) (by omega)
        have q8 := (hK8.2.2 _ (heap_in HQ7.out) (by omega) (by omega)).trans HQ7.out
        obtain ⟨fk8, -, zk8⟩ := lie_cell hck8.box
        have HCK8 := Lib.hid (And.intro hck8 q8)
        clear hck8 q8 hK8 cS x7 hB7
        obtain ⟨ok8, hok8⟩ : ∃ ok8, ck2.ok = ok8 := ⟨_, rfl⟩
        rw [hok8] at fk8
        cases ok8
        ·have hR := HRS.out.1
         rw [hok8, if_neg Bool.false_ne_true] at hR
         have hR : false = RV := hR
         subst hR
         clear hok8
         go_wp2
         go_ret; exact Ret.mk' rfl hB8
        ·have hR := HRS.out.1
         rw [hok8, if_pos rfl] at hR
         have HR8 := Lib.hid (And.intro hR hok8)
         clear hR hok8
         go_wp2
         go_roundw
         case rel => exact ⟨m + 1, ck2, rfl, by omega, HRS.out.2.2, HR8.out.2, by have h := HRS.out.2.1; rw [show (200000 * ((m + 1 : Nat) : Int)) = 200000 * (m : Int) + 200000 by omega]; exact h, HR8.out.1, HCK8.out.1, hB8, HCK8.out.2⟩
         case measure => simp [intOf]; omega
      ·have hLm : L = m := by omega
       subst hLm
       rw [List.drop_eq_nil_of_le (by rw [HL.out.2.1]; exact Nat.le_refl _), runC] at hR
       obtain ⟨f, hf⟩ : ∃ f, ck.l[L]? = some f := ⟨_, List.getElem?_eq_getElem (by rw [hckl]; omega)⟩
       have hfd : ck.l.getD L FndD.zero = f := by rw [List.getD_eq_getElem?_getD, hf]; rfl
       unfold endC at hR
       dsimp only at hR
       rw [hfd] at hR
       obtain ⟨D, hD⟩ : ∃ D, sameF f ⟨1, 0, true⟩ = D := ⟨_, rfl⟩
       rw [hD] at hR
       have hEq : ∀ W, (Op.equalIn 10000 75 (.agg #[.int .i64 f.v, .int .i64 f.n, .bool f.k]) (.agg #[.int .i64 1, .int .i64 0, .bool true])).run prog W = .ok D W := fun W => by
        have := fndEq_run 9998 f ⟨1, 0, true⟩ W
        rw [hD] at this; exact this
       have hrg : wr.rangeAt G (L * 3) (fndC f) := by
        obtain ⟨fg, -, -⟩ := lie_cell hck.row
        refine range_of fg ?_
        have := fndL_at ck.l L f hf
        simpa [fndC] using this
       have rgv : wr.cell? ⟨G, L * 3, none⟩ = some (.int .i64 f.v) := hrg 0 _ rfl
       have rgn : wr.cell? ⟨G, L * 3 + 1, none⟩ = some (.int .i64 f.n) := hrg 1 _ rfl
       have rgk : wr.cell? ⟨G, L * 3 + 2, none⟩ = some (.bool f.k) := hrg 2 _ rfl
       have hbx := hck.box
       rw [hckl] at hbx
       obtain ⟨fk, -, zk⟩ := lie_cell hbx
       have hLi : (L : Int) < (L1 : Int) := by omega
       have HR := Lib.hid (And.intro hR q5)
       clear hR hrg hf hfd hD hck hckl hcko hbn hbx q5 HL
       go_upto_region 26 with (fail)
       refine wp_region_lit ?_
       iterate 9 refine st ?_
       refine wpList_plain rfl (fun KK hKK => ?_)
       refine wp_neq_struct rfl rfl rfl guardFnd (hEq _) ?_
       refine hKK _ _ ?_; clear hKK KK
       refine wpList_nil ?_
       clear hEq rgv rgn rgk fk
       cases D
       ·have hR : false = RV := HR.out.1
        subst hR
        go_wp2
        go_ret; exact Ret.mk' rfl hB5
       ·have HR2 := Lib.hid (show blocksC (M : Int) (k + 1) (c.blocks.drop (k + 1)) = RV from HR.out.1)
        go_wp2
        go_roundw
        case rel => exact ⟨k + 1, rfl, by omega, HR2.out, hB5, HR.out.2⟩
        case measure => simp [intOf]; omega
    ·have hMk : M = k := by omega
     subst hMk
     have hH := HH.out
     rw [List.drop_eq_nil_of_le (by rw [HNM.out.1]; exact Nat.le_refl _), blocksC] at hH
     subst hH
     go_wp2
     go_ret; exact Ret.mk' rfl hB
end Go.Proofs.YtlpgigdegnbkmaaGreatDoor
