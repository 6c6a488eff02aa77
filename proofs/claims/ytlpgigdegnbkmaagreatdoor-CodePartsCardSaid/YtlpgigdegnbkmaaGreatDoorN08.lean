import Derived.Test.YtlpgigdegnbkmaaGreatDoorM38
import Derived.Test.YtlpgigdegnbkmaaGreatDoorM46
set_option maxRecDepth 100000
set_option maxHeartbeats 8000000
namespace Tab
def sameP : List Bs -> List Bs -> Bool
 | [], [] => true
 | x :: l, y :: m => (x == y) && sameP l m
 | _, _ => false
theorem sameP_is : ∀ l m : List Bs, sameP l m = (l == m)
 | [], [] => rfl
 | [], y :: m => rfl
 | x :: l, [] => rfl
 | x :: l, y :: m => by rw [sameP, sameP_is l m]; rfl
theorem sameP_step {l m : List Bs} {j : Nat} {x y : Bs} (hx : l[j]? = some x) (hy : m[j]? = some y) : sameP (l.drop j) (m.drop j) = ((x == y) && sameP (l.drop (j + 1)) (m.drop (j + 1))) := by
 obtain ⟨h1, h2⟩ := List.getElem?_eq_some_iff.1 hx
 obtain ⟨h3, h4⟩ := List.getElem?_eq_some_iff.1 hy
 rw [List.drop_eq_getElem_cons h1, List.drop_eq_getElem_cons h3, h2, h4, sameP]
end Tab
namespace Go.Proofs.YtlpgigdegnbkmaaGreatDoor
open Go.RowKit Tab Tryz
theorem refSame_any (c d : CodeD) (ga ga' ha ha' : Option Addr) (gc gc' hc hc' : Nat) (w : World) (hI : CodeIn w ga gc ha hc c) (hJ : CodeIn w ga' gc' ha' hc' d) (hS : CodeSm c) (hT : CodeSm d) : Calls prog 28 #[codeV ga gc ha hc c, codeV ga' gc' ha' hc' d] w (Ret (.bool (sameC c d)) w) := by
 have hcap := hI.cap
 have hcap' := hJ.cap
 have hpcap := hI.pars.cap
 have hpcap' := hJ.pars.cap
 have hl := hS.blocks
 have hm := hT.blocks
 have hp := hS.params
 have hp' := hT.params
 obtain ⟨L, hL⟩ : ∃ L, c.blocks.length = L := ⟨_, rfl⟩
 obtain ⟨M, hM⟩ : ∃ M, d.blocks.length = M := ⟨_, rfl⟩
 obtain ⟨U, hU⟩ : ∃ U, c.params.length = U := ⟨_, rfl⟩
 obtain ⟨R, hR⟩ : ∃ R, d.params.length = R := ⟨_, rfl⟩
 obtain ⟨V, hV⟩ : ∃ V, sameC c d = V := ⟨_, rfl⟩
 have hV2 := hV
 unfold sameC at hV2
 rw [<- sameP_is] at hV2
 unfold codeV
 rw [hL] at hl hcap ⊢
 rw [hM] at hm hcap' ⊢
 rw [hU] at hp hpcap ⊢
 rw [hR] at hp' hpcap' ⊢
 rw [hV]
 by_cases hne : L ≠ M
 ·have e1 : ((L : Int) != (M : Int)) = true := by rw [bne_iff_ne]; omega
  have hV0 : V = false := by rw [<- hV2, sameB_len (by omega)]; rfl
  subst hV0
  clear hV hV2 hI hJ hS hT
  go_enter func28, ntmps28
  go_wp2
  go_ret; exact Ret.mk' rfl belx
 obtain rfl : L = M := by omega
 have e1 : ((L : Int) != (L : Int)) = false := by simp
 by_cases hne2 : U ≠ R
 ·have e2 : ((U : Int) != (R : Int)) = true := by rw [bne_iff_ne]; omega
  have hV0 : V = false := by
   rw [<- hV]; unfold sameC
   have : (c.params == d.params) = false := beq_eq_false_iff_ne.2 fun h => by rw [h] at hU; omega
   rw [this, Bool.and_false]
  subst hV0
  clear hV hV2 hI hJ hS hT
  go_enter func28, ntmps28
  go_wp2
  go_ret; exact Ret.mk' rfl belx
 obtain rfl : U = R := by omega
 have e2 : ((U : Int) != (U : Int)) = false := by simp
 have HI := Lib.hid (And.intro hI (And.intro hJ (And.intro hL (And.intro hM (And.intro hS hT)))))
 have HP := Lib.hid (And.intro hU hR)
 have HV := Lib.hid hV2
 clear hI hJ hL hM hV hV2 hne hne2 hS hT hU hR
 go_enter func28, ntmps28
 go_upto_region 1 with (fail)
 refine wp_abs2 (fun W => Below w.heap.size w W /\ W.heap[w.heap.size]? = some (.cells #[.slice ga L gc, .slice ha U hc] 35 (0, 0)) /\ W.heap[w.heap.size + 1]? = some (.cells #[.slice ga' L gc', .slice ha' U hc'] 35 (0, 0))) ⟨belx, heap_alloc2_old _ _ _, heap_alloc2_new _ _ _⟩ ?_
 rintro w1 ⟨hb1, q1, r1⟩
 obtain ⟨f1, -, z1⟩ := lie_cell q1
 obtain ⟨g1, -, y1⟩ := lie_cell r1
 have HQ1 := Lib.hid (And.intro q1 r1)
 clear q1 r1
 go_wp2_with fail
 go_loopw [5] (fun i w' => ∃ j : Nat, i = .int .i64 (j : Int) /\ j <= L /\ (sameB (c.blocks.drop j) (d.blocks.drop j) && sameP c.params d.params) = V /\ Below w.heap.size w w' /\ w'.heap[w.heap.size]? = some (.cells #[.slice ga L gc, .slice ha U hc] 35 (0, 0)) /\ w'.heap[w.heap.size + 1]? = some (.cells #[.slice ga' L gc', .slice ha' U hc'] 35 (0, 0))) (fun i _ => L - (intOf i).toNat)
 case atStart => exact ⟨0, rfl, by omega, HV.out, hb1, HQ1.out.1, HQ1.out.2⟩
 case round =>
  clear f1 g1 z1 y1 HQ1 hb1
  obtain ⟨j, rfl, hj, hH, hB, q2, r2⟩ := hrel
  have HH := Lib.hid hH
  clear hH
  obtain ⟨f2, -, z2⟩ := lie_cell q2
  obtain ⟨g2, -, y2⟩ := lie_cell r2
  have HQ2 := Lib.hid (And.intro q2 r2)
  clear q2 r2
  by_cases hlt : j < L
  ·obtain ⟨hI, hJ, hL, hM, hS, hT⟩ := HI.out
   obtain ⟨vb, vo, rfl, hvb, hvx⟩ := hI.rows.resolve_left (fun h => by rw [h] at hL; simp at hL; omega)
   obtain ⟨ub, uo, rfl, hub, huy⟩ := hJ.rows.resolve_left (fun h => by rw [h] at hM; simp at hM; omega)
   obtain ⟨x, hx⟩ : ∃ x, c.blocks[j]? = some x := ⟨_, List.getElem?_eq_getElem (by omega)⟩
   obtain ⟨y, hy⟩ : ∃ y, d.blocks[j]? = some y := ⟨_, List.getElem?_eq_getElem (by omega)⟩
   obtain ⟨vv, hvv, hvr⟩ := hvx j x hx
   obtain ⟨uu, huu, hur⟩ := huy j y hy
   have hvw := (hB.cell (p := ⟨vb, vo + j, none⟩) hvb).trans hvv
   have huw := (hB.cell (p := ⟨ub, uo + j, none⟩) hub).trans huu
   have hvb' : vb < wr.heap.size := Nat.lt_of_lt_of_le hvb hB.size
   have hub' : ub < wr.heap.size := Nat.lt_of_lt_of_le hub hB.size
   have hH := HH.out
   rw [sameB_step hx hy] at hH
   have hlt' : (j : Int) < (L : Int) := by omega
   have ewJ : IntKind.i64.wrap ((j : Int) + 1) = ((j + 1 : Nat) : Int) := by rw [IntWalk.i64_in _ (by omega)]; omega
   have cE := fun W (hW : Below wr.heap.size wr W) => refBlock_any x y vv uu W (hvr.below (after hB hW)) (hur.below (after hB hW)) (hS.each x (List.mem_of_getElem? hx)).1 (hT.each y (List.mem_of_getElem? hy)).1
   obtain ⟨E, hE⟩ : ∃ E, sameL x y = E := ⟨_, rfl⟩
   rw [hE] at cE hH
   have HH2 := Lib.hid hH
   clear hvx huy hL hM hx hy hH hE HH hS hT hvv huu hvr hur hI hJ
   go_upto_region 6 with (fail)
   have kcc := gcell wr
   refine region_below (by kernel_rfl) (by kernel_rfl) ?_
   iterate 12 (quiet_step (exact Ret.grown cE))
   refine wpQuiet_nil ?_
   intro w3 hb3
   have q3 := (hb3.block _ z2).trans HQ2.out.1
   have r3 := (hb3.block _ y2).trans HQ2.out.2
   clear cE kcc hvw huw f2 g2
   cases E
   ·have hV : false = V := HH2.out
    subst hV
    go_wp2
    go_ret; exact Ret.mk' rfl (after hB hb3)
   ·have HQ3 := Lib.hid (And.intro q3 r3)
    clear q3 r3
    go_wp2
    go_roundw
    case rel => exact ⟨j + 1, rfl, by omega, HH2.out, after hB hb3, HQ3.out.1, HQ3.out.2⟩
    case measure => simp [intOf]; omega
  ·have hLj : L = j := by omega
   subst hLj
   have hH := HH.out
   rw [List.drop_eq_nil_of_le (by rw [HI.out.2.2.1]; exact Nat.le_refl _), List.drop_eq_nil_of_le (by rw [HI.out.2.2.2.1]; exact Nat.le_refl _)] at hH
   have HV2 := Lib.hid (show sameP c.params d.params = V from hH)
   clear hH HH
   go_wp2_with fail
   go_loopw [6] (fun i w' => ∃ j : Nat, i = .int .i64 (j : Int) /\ j <= U /\ sameP (c.params.drop j) (d.params.drop j) = V /\ Below w.heap.size w w' /\ w'.heap[w.heap.size]? = some (.cells #[.slice ga L gc, .slice ha U hc] 35 (0, 0)) /\ w'.heap[w.heap.size + 1]? = some (.cells #[.slice ga' L gc', .slice ha' U hc'] 35 (0, 0))) (fun i _ => U - (intOf i).toNat)
   case atStart => exact ⟨0, rfl, by omega, HV2.out, hB, HQ2.out.1, HQ2.out.2⟩
   case round =>
    clear f2 g2 z2 y2 HQ2 hB
    obtain ⟨k, rfl, hk, hH, hB, q2, r2⟩ := hrel
    have HH := Lib.hid hH
    clear hH
    obtain ⟨f2, -, z2⟩ := lie_cell q2
    obtain ⟨g2, -, y2⟩ := lie_cell r2
    have HQ2 := Lib.hid (And.intro q2 r2)
    clear q2 r2
    by_cases hlt : k < U
    ·obtain ⟨hI, hJ, -⟩ := HI.out
     obtain ⟨vb, vo, rfl, hvb, hvv⟩ := hI.pars.cell (i := k) (by rw [HP.out.1]; exact hlt)
     obtain ⟨ub, uo, rfl, hub, huu⟩ := hJ.pars.cell (i := k) (by rw [HP.out.2]; exact hlt)
     obtain ⟨x, hx⟩ : ∃ x, c.params[k]? = some x := ⟨_, List.getElem?_eq_getElem (by rw [HP.out.1]; exact hlt)⟩
     obtain ⟨y, hy⟩ : ∃ y, d.params[k]? = some y := ⟨_, List.getElem?_eq_getElem (by rw [HP.out.2]; exact hlt)⟩
     rw [(List.getElem?_eq_some_iff.1 hx).2] at hvv
     rw [(List.getElem?_eq_some_iff.1 hy).2] at huu
     have hvw := (hB.cell (p := ⟨vb, vo + k, none⟩) hvb).trans hvv
     have huw := (hB.cell (p := ⟨ub, uo + k, none⟩) hub).trans huu
     have hvb' : vb < wr.heap.size := Nat.lt_of_lt_of_le hvb hB.size
     have hub' : ub < wr.heap.size := Nat.lt_of_lt_of_le hub hB.size
     have hH := HH.out
     rw [sameP_step hx hy] at hH
     have hlt' : (k : Int) < (U : Int) := by omega
     have ewJ : IntKind.i64.wrap ((k : Int) + 1) = ((k + 1 : Nat) : Int) := by rw [IntWalk.i64_in _ (by omega)]; omega
     obtain ⟨E, hE⟩ : ∃ E, (x == y) = E := ⟨_, rfl⟩
     rw [hE] at hH
     have HH2 := Lib.hid hH
     clear hx hy hH HH hvv huu hI hJ
     go_upto_region 11 with (fail)
     have kcc := gcell wr
     refine region_below (by kernel_rfl) (by kernel_rfl) ?_
     iterate 11 (quiet_step (fail))
     refine wpQuiet_nil ?_
     intro w3 hb3
     have q3 := (hb3.block _ z2).trans HQ2.out.1
     have r3 := (hb3.block _ y2).trans HQ2.out.2
     clear kcc hvw huw f2 g2
     cases E
     ·have hV : false = V := HH2.out
      subst hV
      go_wp2
      go_ret; exact Ret.mk' rfl (after hB hb3)
     ·have HQ3 := Lib.hid (And.intro q3 r3)
      clear q3 r3
      go_wp2
      go_roundw
      case rel => exact ⟨k + 1, rfl, by omega, HH2.out, after hB hb3, HQ3.out.1, HQ3.out.2⟩
      case measure => simp [intOf]; omega
    ·have hUk : U = k := by omega
     subst hUk
     have hH := HH.out
     rw [List.drop_eq_nil_of_le (by rw [HP.out.1]; exact Nat.le_refl _), List.drop_eq_nil_of_le (by rw [HP.out.2]; exact Nat.le_refl _)] at hH
     have hV : true = V := hH
     subst hV
     go_wp2
     go_ret; exact Ret.mk' rfl hB
theorem ref6Same_any (c d : CodeD) (ga ga' ha ha' : Option Addr) (gc gc' hc hc' : Nat) (w : World) (hI : CodeIn w ga gc ha hc c) (hJ : CodeIn w ga' gc' ha' hc' d) (hS : CodeSm c) (hT : CodeSm d) : Calls prog 16 #[codeV ga gc ha hc c, codeV ga' gc' ha' hc' d] w (Ret (.bool (sameC c d)) w) := by
 have cS := fun W (h : Below w.heap.size w W) => refSame_any c d ga ga' ha ha' gc gc' hc hc' W (hI.below h) (hJ.below h) hS hT
 unfold codeV at *
 generalize sameC c d = V at *
 go_enter func16, ntmps16
 go_wp2_with fail
 refine (cS _ belx).mono ?_; rintro e w2 ⟨rfl, hb2⟩
 go_wp2
 go_ret; exact Ret.mk' rfl belx
end Go.Proofs.YtlpgigdegnbkmaaGreatDoor
namespace Tab
theorem comp_deep {a : NodeD} (h : Deep 23 a) : codeOf a = comp 23 bareC 0 [] [] a := comp_fuel 23 24 (by decide) a h bareC 0 [] []
theorem flat_code {a : NodeD} {x : List InsD} (hd : Deep 23 a) (hb : (codeOf a).blocks = [x]) : Flat 23 [] [] a x := by
 have e : comp 23 bareC 0 [] [] a = ⟨[x], (codeOf a).params⟩ := by
  rw [<- comp_deep hd]
  generalize codeOf a = c at *
  cases c
  dsimp only at hb ⊢
  rw [hb]
 exact flat_of e
theorem block_ne {b N : Int} {l : List InsD} (h : blockC b N l = true) : l ≠ [] := by
 rintro rfl
 unfold blockC runC endC bareK at h
 simp [sameF] at h
theorem right_ne {c : CodeD} (h : rightC c = true) : ∀ l ∈ c.blocks, l ≠ [] := by
 have go : ∀ (N : Int) (B : List (List InsD)) (b : Nat), blocksC N b B = true -> ∀ l ∈ B, l ≠ [] := by
  intro N B
  induction B with
  | nil => intro b _ l hl; cases hl
  | cons m B ih =>
   intro b hb l hl
   rw [blocksC, Bool.and_eq_true] at hb
   rcases List.mem_cons.1 hl with rfl | hl
   ·exact block_ne hb.1
   ·exact ih _ hb.2 l hl
 unfold rightC at h
 split at h
 ·cases h
 ·split at h
  ·exact go _ _ _ h
  ·cases h
/-- a tree that is made into one block. -/
def OneD (a : NodeD) (x : List InsD) : Prop := ∃ c, compileD a = some c /\ c.blocks = [x]
theorem OneD.flat {a : NodeD} {x : List InsD} (h : OneD a x) (hd : Deep 23 a) : Flat 23 [] [] a x := by
 obtain ⟨c, hc, hb⟩ := h
 unfold compileD at hc
 split at hc
 ·split at hc
  ·injection hc with hc; subst hc; exact flat_code hd hb
  ·cases hc
 ·cases hc
theorem OneD.ne {a : NodeD} {x : List InsD} (h : OneD a x) : x ≠ [] := by
 obtain ⟨c, hc, hb⟩ := h
 unfold compileD at hc
 split at hc
 ·split at hc
  ·rename_i hr
   injection hc with hc; subst hc; exact right_ne hr x (by rw [hb]; exact List.mem_cons_self ..)
  ·cases hc
 ·cases hc
theorem some_code {n : NodeD} {c : CodeD} (h : compileD n = some c) : c = codeOf n := by
 unfold compileD at h
 split at h
 ·split at h
  ·injection h with h; exact h.symm
  ·cases h
 ·cases h
theorem sum_is {a b n : NodeD} {x y : List InsD} {c : CodeD} (hx : Flat 23 [] [] a x) (hy : Flat 23 [] [] b y) (hk : n.kind = 9) (ht : n.text = [43]) (hn : n.kids = [a, b]) (hc : compileD n = some c) : c = ⟨[x ++ y ++ [{ op := 8, s := [43] }]], [[]]⟩ := by
 rw [some_code hc, <- ht]; exact parts_op 23 a b n x y hx hy hk hn
theorem call_is {a b n : NodeD} {x y : List InsD} {c : CodeD} (hx : Flat 23 [] [] a x) (hy : Flat 23 [] [] b y) (hk : n.kind = 12) (ht : n.text = [77, 65, 88]) (hn : n.kids = [a, b]) (hc : compileD n = some c) : c = ⟨[x ++ y ++ [{ op := 11, s := [77, 65, 88], a := 2 }]], [[]]⟩ := by
 have hu : upperD n.text = [77, 65, 88] := by rw [ht]; decide +kernel
 rw [some_code hc, <- hu]; exact parts_call 23 a b n x y hx hy hk hn (by rw [hu]; decide)
theorem if_is {a b d n : NodeD} {x y z : List InsD} {c : CodeD} (hx : Flat 23 [] [] a x) (hy : Flat 23 [] [] b y) (hz : Flat 23 [] [] d z) (hk : n.kind = 12) (ht : n.text = [73, 70]) (hn : n.kids = [a, b, d]) (hc : compileD n = some c) : c = ⟨[ifRow x y z], [[]]⟩ := by
 rw [some_code hc]; exact parts_if 23 a b d n x y z hx hy hz hk hn (by rw [ht]; decide +kernel)
end Tab
namespace Go.Proofs.YtlpgigdegnbkmaaGreatDoor
open Go.RowKit Tab Tryz
/-- a row of instructions in a block that was not there before. -/
def OwnI (w : World) (G : Nat) (v : Value) (l : List InsD) : Prop := w.ownsRow G 43 18 v l.length (insL l)
theorem OwnI.row {w : World} {G : Nat} {v : Value} {l : List InsD} (h : OwnI w G v l) : InsRow w v l := insRow_of h
theorem OwnI.alloc {w : World} {G : Nat} {v : Value} {l : List InsD} (h : OwnI w G v l) (o : Obj) : OwnI (w.alloc o) G v l := World.ownsRow.alloc h o
theorem insL_app (l m : List InsD) : insL (l ++ m) = insL l ++ insL m := by unfold insL; exact List.flatMap_append
theorem insL_one (l : List InsD) : ∀ u ∈ insL l, u.oneCell' = true := fun u hu => by
 unfold insL at hu
 obtain ⟨x, _, hx⟩ := List.mem_flatMap.1 hu
 exact insC_one x u hx
theorem own_empty {w : World} {G g : Nat} (hG : G <= g) (h : w.heap[g]? = some (.cells #[] 43 (0, 0))) : OwnI w G (.slice (some ⟨g, 0, none⟩) 0 0) [] :=
 ⟨rfl, .inr ⟨g, 0, #[], rfl, hG, h, Nat.le_refl _, Nat.zero_le _, rfl, rfl⟩⟩
theorem row_cell {w : World} {b o : Nat} {l : List InsD} (h : ∀ (i : Nat) (x : InsD), l[i]? = some x -> w.rangeAt b (o + i * 18) (insC x)) : ∀ (j : Nat) (u : Value), (insL l)[j]? = some u -> w.cell? (Addr.add ⟨b, o, none⟩ j) = some u := fun j u hj => by
 have hlt := (List.getElem?_eq_some_iff.1 hj).1
 rw [insL_len] at hlt
 have hi : j / 18 < l.length := by omega
 have hx : l[j / 18]? = some l[j / 18] := List.getElem?_eq_getElem hi
 have hr := insL_range l (j / 18) _ hx
 have hm : j % 18 < 18 := Nat.mod_lt _ (by decide)
 have e : (insC l[j / 18])[j % 18]? = some u := by
  rw [<- hr, List.getElem?_take_of_lt hm, List.getElem?_drop, show j / 18 * 18 + j % 18 = j by omega]; exact hj
 have := h (j / 18) _ hx (j % 18) u e
 rw [Addr.add_mid, show o + j = o + j / 18 * 18 + j % 18 by omega]
 exact this
theorem lit_row {w : World} {b : Nat} {x : InsD} (h : w.heap[b]? = some (.cells (insC x).toArray 43 (0, 0))) : InsRow w (.slice (some ⟨b, 0, none⟩) 1 1) [x] :=
 ⟨_, 1, rfl, Nat.le_refl 1, .inr ⟨b, 0, rfl, heap_in h, fun i y hy => by
  match i, hy with
  | 0, hy => injection hy with hy; subst hy; simpa using range_of (o := 0) (lie_cell h).1 (cs := insC x) (by simp)⟩⟩
theorem oper_app {o : Oper} {a : Act} {w : World} {K : Act -> World -> Prop} {Q : Exit -> Act -> World -> Prop} (s t : Operand) (ho : o.op = .call { callee := .builtin .append, args := #[s, t], argTypes := #[41, 41] }) (w0 : World) (v : Value) (l : List InsD) (hs : a.eval s = v) (hown : OwnI w w0.heap.size v l) (hb : Below w0.heap.size w0 w) (m : List InsD) (u : Value) (hu : a.eval t = u) (hrow : InsRow w u m) (hne : m ≠ []) (hl : l.length + m.length <= 10000000)
  (h : ∀ v' w', OwnI w' w0.heap.size v' (l ++ m) -> Below w0.heap.size w0 w' -> w.grownBy w' v.ownBlock -> K (a.put o.dst v') w') : Oper.wp prog o a w K Q := by
 obtain ⟨i, hi, hz, hsz, hby⟩ := info_parts infoIns
 obtain ⟨ua, uc, rfl, huc, hrow⟩ := hrow
 obtain ⟨b, off, rfl, hbl, hr⟩ := hrow.resolve_left hne
 obtain ⟨v', w', hrun, h2, h3, h4, h5⟩ := run_append_own_at (P := prog) w w0.heap.size 41 o.type 43 i _ 18 136 underlying41 hi hz hsz hby rfl (by decide) v l.length (insL l) hown ⟨b, off, none⟩ m.length uc (insL m) (insL_len m) (row_cell hr) (insL_one m) (by unfold maxLen; omega) (by omega) hb.size
 unfold Oper.wp execOp
 simp only [ho, resolve, invoke, builtin, Sem.run_bind, Sem.run_pure, Result.andThen_ok, List.map_toArray, List.map_cons, List.map_nil, hs, hu, hrun]
 refine h v' w' ?_ (hb.grown h3 hb.size fun k hk => (own_type hown hk).1) h3
 unfold OwnI
 rw [List.length_append, insL_app]; exact h2
theorem wpList_app {ops : Array Oper} {rest : List Oper} {o : Oper} {a : Act} {w : World} {Q : Exit -> Act -> World -> Prop} (s t : Operand) (w0 : World) (v : Value) (l : List InsD) (hown : OwnI w w0.heap.size v l) (hb : Below w0.heap.size w0 w) (m : List InsD) (u : Value) (hrow : InsRow w u m) (hne : m ≠ []) (hl : l.length + m.length <= 10000000)
  (h : ∀ v' w', OwnI w' w0.heap.size v' (l ++ m) -> Below w0.heap.size w0 w' -> wpList prog ops Q rest (a.put o.dst v') w') (hs : a.eval s = v := by rfl) (hu : a.eval t = u := by rfl) (ho : o.op = .call { callee := .builtin .append, args := #[s, t], argTypes := #[41, 41] } := by rfl) (hg : o.guard = none := by rfl) : wpList prog ops Q (o :: rest) a w :=
 wpList_plain hg fun _K hK => oper_app s t ho w0 v l hs hown hb m u hu hrow hne hl fun v' w' h1 h2 _ => hK _ _ (h v' w' h1 h2)
theorem oper_run {P : Program} {o : Oper} {a : Act} {w : World} {K : Act -> World -> Prop} {Q : Exit -> Act -> World -> Prop} (v : Value) (w' : World) (k : K (a.put o.dst v) w') (h : (execOp a.eval o).run P w = .ok (.value v) w' := by kernel_rfl) : Oper.wp P o a w K Q := by
 unfold Oper.wp; rw [h]; exact k
theorem oper_enter {P : Program} {o : Oper} {a : Act} {w : World} {K : Act -> World -> Prop} {Q : Exit -> Act -> World -> Prop} (f : FuncId) (args : Array Value) (R : Ending -> World -> Prop) (c : Calls P f args w R) (k : ∀ e w', R e w' -> ∃ v, e = .returned v /\ K (a.put o.dst v) w') (h : (execOp a.eval o).run P w = .ok (.enter f args) w := by kernel_rfl) : Oper.wp P o a w K Q := by
 unfold Oper.wp
 rw [h]
 refine c.mono fun e w' hr => ?_
 obtain ⟨v, rfl, hk⟩ := k e w' hr
 exact hk
/-- what plain hands back: nothing, or the row of a tree of one block. -/
def PlainRet (w : World) (n : NodeD) (e : Ending) (W : World) : Prop := Below w.heap.size w W /\ (e = .returned (.tuple #[.slice none 0 0, .bool false]) \/ ∃ x v, OneD n x /\ e = .returned (.tuple #[v, .bool true]) /\ InsRow W v x /\ x.length <= 1000000 /\ ∀ i ∈ x, InsSm i)
theorem codePlain_any (n : NodeD) (cs : List Value) (w : World) (hg : Good w) (hn : NodeAt 24 w cs n) (hcnt : cntN 24 n <= 1000000) : Calls prog 13 #[.agg cs.toArray] w (PlainRet w n) := by
 obtain ⟨na, nc, rfl, hn'⟩ := id hn
 clear hn'
 have hgh := Lib.hid hg
 have Hn := Lib.hid hn
 unfold nodeC at hn
 go_enter func13, ntmps13
 go_upto_region 1 with (fail)
 refine wp_abs2 (On1 30 w (nodeC n (.slice na n.kids.length nc)).toArray) ⟨belx, heap_alloc_new _ _⟩ ?_
 rintro w1 ⟨hb, q⟩
 refine wp_region_lit ?_
 refine wpList_load_row rfl 30 (.tmp 1) rfl w.heap.size rfl 30 (nodeC n (.slice na n.kids.length nc)).toArray (0, 0) _ q underlying30 rfl cellsNode ?_
 refine wpList_enter 10 #[.agg (nodeC n (.slice na n.kids.length nc)).toArray] (by kernel_rfl) (by kernel_rfl) _ (compile_any n _ w1 (hgh.out.below hb) (Hn.out.below hb) hcnt) ?_
 rintro e w2 ⟨hx, hr⟩
 replace hb := after hb hx
 clear hx q hn Hn hg
 rcases hr with ⟨hno, rfl⟩ | ⟨c, ga, gc, ha, hc, hcd, rfl, hI, hS⟩
 ·refine ⟨_, rfl, ?_⟩
  have hE : errOf n = 50 \/ errOf n = 60 := by
   unfold compileD at hno
   unfold errOf
   split at hno
   ·rename_i r1
    split at hno
    ·cases hno
    ·rename_i r2; rw [if_pos r1, if_neg r2]; exact .inr rfl
   ·rename_i r1; rw [if_neg r1]; exact .inl rfl
  unfold noCode
  rcases hE with hE | hE
  all_goals (
   rw [hE]
   clear hno hE
   iterate 3 refine st ?_
   refine wn (.pointer (some ⟨w2.heap.size, 0, none⟩)) (w2.alloc (.cells #[.slice none 0 0, .slice none 0 0] 35)) ?_
   refine wpList_store_mid rfl 35 (.tmp 4) (.tmp 9) rfl w2.heap.size 0 ([.slice none 0 0, .slice none 0 0]).toArray rfl rfl (whole_there (heap_alloc_new _ _) rfl) cellsCode (oneCode _ _ rfl rfl) ?_
   refine wpList_abs (fun  W => Below w2.heap.size w2 W /\ W.heap[w2.heap.size]? = some (.cells ([.slice none 0 0, .slice none 0 0]).toArray 35 (0, 0))) ⟨below_cells2 (Nat.le_refl _) _ _ _ (allocB (Below.refl _ _)), box_whole (heap_alloc_new _ _) rfl⟩ ?_
   rintro w3 ⟨hx, -⟩
   replace hb := after hb hx
   iterate 1 refine st ?_
   refine wpList_nil ?_
   go_wp2
   go_ret2; exact ⟨hb, .inl rfl⟩)
 ·refine ⟨_, rfl, ?_⟩
  unfold codeV
  obtain ⟨N, hN⟩ : ∃ N, c.blocks.length = N := ⟨_, rfl⟩
  obtain ⟨M, hM⟩ : ∃ M, c.params.length = M := ⟨_, rfl⟩
  have hNl : N <= 1000000 := hN ▸ hS.blocks
  have hNg : N <= gc := hN ▸ hI.cap
  rw [hN, hM]
  iterate 3 refine st ?_
  refine wn (.pointer (some ⟨w2.heap.size, 0, none⟩)) (w2.alloc (.cells #[.slice none 0 0, .slice none 0 0] 35)) ?_
  refine wpList_store_mid rfl 35 (.tmp 4) (.tmp 9) rfl w2.heap.size 0 ([.slice ga N gc, .slice ha M hc]).toArray rfl rfl (whole_there (heap_alloc_new _ _) rfl) cellsCode (oneCode _ _ rfl rfl) ?_
  refine wpList_abs (fun  W => Below w2.heap.size w2 W /\ W.heap[w2.heap.size]? = some (.cells ([.slice ga N gc, .slice ha M hc]).toArray 35 (0, 0))) ⟨below_cells2 (Nat.le_refl _) _ _ _ (allocB (Below.refl _ _)), box_whole (heap_alloc_new _ _) rfl⟩ ?_
  rintro w3 ⟨hx, q⟩
  replace hb := after hb hx
  replace hI := hI.below hx
  obtain ⟨P, hP⟩ : ∃ z, w2.heap.size = z := ⟨_, rfl⟩
  rw [hP] at q ⊢
  clear hx hP
  iterate 1 refine st ?_
  refine wpList_nil ?_
  have cb : w3.cell? ⟨P, 0, none⟩ = some (.slice ga N gc) := (lie_cell q).1 0
  have zq := heap_in q
  have HI := Lib.hid (And.intro hI (And.intro hS (And.intro hN hcd)))
  have HB := Lib.hid hb
  clear hI hS hcd hN hM hb q
  by_cases h1 : N = 1
  ·subst h1
   obtain ⟨hI, hS, hN, hcd⟩ := HI.out
   obtain ⟨x, hx⟩ : ∃ x, c.blocks = [x] := by
    match c.blocks, hN with
    | [x], _ => exact ⟨x, rfl⟩
   obtain ⟨rb, ro, rfl, hrb, hrows⟩ := hI.rows.resolve_left (fun h => by rw [h] at hx; cases hx)
   obtain ⟨v, hv, hrow⟩ := hrows 0 x (by rw [hx]; rfl)
   have hxm : x ∈ c.blocks := by rw [hx]; exact List.mem_cons_self ..
   have Fin := Lib.hid (show PlainRet w n (.returned (.tuple #[v, .bool true])) w3 from ⟨HB.out, .inr ⟨x, v, ⟨c, hcd, hx⟩, rfl, hrow, (hS.each x hxm).1, (hS.each x hxm).2⟩⟩)
   obtain ⟨la, lc, rfl, -, -⟩ := id hrow
   have hv0 : w3.cell? ⟨rb, ro, none⟩ = some (.slice la x.length lc) := hv
   have hrb3 : rb < w3.heap.size := hrb
   clear hI hS hN hcd hrows hrow hxm HI HB hv
   go_wp2
   go_ret2; exact Fin.out
  ·have e1 : ((N : Int) != 1) = true := by simp; omega
   clear HI
   go_wp2
   go_ret2; exact ⟨HB.out, .inl rfl⟩
/-- a row of one name that is none. -/
theorem names_one {w : World} {b : Nat} (h : w.heap[b]? = some (.cells (List.toArray [.string ⟨#[]⟩]) 9 (0, 0))) : NamesAt w (some ⟨b, 0, none⟩) 1 [[]] :=
 ⟨Nat.le_refl 1, .inr ⟨b, 0, _, (0, 0), rfl, h, fun i x hx => by
  match i, hx with
  | 0, hx => injection hx with hx; subst hx; rfl⟩⟩
theorem one_in {w : World} {b b' : Nat} {l : List InsD} {v : Value} (h : w.heap[b]? = some (.cells (List.toArray [v]) 41 (0, 0))) (h' : w.heap[b']? = some (.cells (List.toArray [.string ⟨#[]⟩]) 9 (0, 0))) (hv : InsRow w v l) : CodeIn w (some ⟨b, 0, none⟩) 1 (some ⟨b', 0, none⟩) 1 ⟨[l], [[]]⟩ :=
 ⟨Nat.le_refl 1, .inr ⟨b, 0, rfl, heap_in h, fun i m hm => by
  match i, hm with
  | 0, hm => injection hm with hm; subst hm; exact ⟨v, (lie_cell h).1 0, hv⟩⟩, names_one h'⟩
theorem one_sm {l : List InsD} (hl : l.length <= 1000000) (hs : ∀ i ∈ l, InsSm i) : CodeSm ⟨[l], [[]]⟩ :=
 ⟨by show 1 <= 1000000; decide, fun m hm => by rw [List.mem_singleton.1 hm]; exact ⟨hl, hs⟩, by show 1 <= 1000000; decide, fun p hp => by rw [List.mem_singleton.1 hp]; exact Nat.zero_le _⟩
theorem is_any (c : CodeD) (ga ha : Option Addr) (gc hc : Nat) (l : List InsD) (v : Value) (w : World) (hI : CodeIn w ga gc ha hc c) (hS : CodeSm c) (hv : InsRow w v l) (hl : l.length <= 1000000) (hs : ∀ i ∈ l, InsSm i) : Calls prog 14 #[codeV ga gc ha hc c, v] w (Ret (.bool (sameC c ⟨[l], [[]]⟩)) w) := by
 obtain ⟨N, hN⟩ : ∃ N, c.blocks.length = N := ⟨_, rfl⟩
 obtain ⟨M, hM⟩ : ∃ M, c.params.length = M := ⟨_, rfl⟩
 have hO := one_sm hl hs
 have cS := fun W (h : Below w.heap.size w W) (b b' : Nat) (hJ : CodeIn W (some ⟨b, 0, none⟩) 1 (some ⟨b', 0, none⟩) 1 ⟨[l], [[]]⟩) => ref6Same_any c ⟨[l], [[]]⟩ ga (some ⟨b, 0, none⟩) ha (some ⟨b', 0, none⟩) gc 1 hc 1 W (hI.below h) hJ hS hO
 unfold codeV at *
 rw [hN, hM] at *
 clear hI hS hN hM hO hl hs
 obtain ⟨la, lc, rfl, -, -⟩ := id hv
 obtain ⟨Ln, hLn⟩ : ∃ n, l.length = n := ⟨_, rfl⟩
 rw [hLn] at hv ⊢
 generalize sameC c ⟨[l], [[]]⟩ = V at *
 go_enter func14, ntmps14
 go_upto_region 1 with (fail)
 refine wp_abs2 (fun  W => Below w.heap.size w W /\ W.heap[w.heap.size]? = some (.cells ([.slice ga N gc, .slice ha M hc]).toArray 35 (0, 0))) ⟨belx, heap_alloc_new _ _⟩ ?_
 rintro w1 ⟨hb, q⟩
 replace hv := hv.below hb
 refine wp_region_lit ?_
 refine wpList_load_row rfl 35 (.tmp 2) rfl w.heap.size rfl 35 ([.slice ga N gc, .slice ha M hc]).toArray (0, 0) _ q underlying35 rfl cellsCode ?_
 refine wn (.slice la Ln lc) w1 ?_
 refine wn (.slice (some ⟨w1.heap.size, 0, none⟩) 1 1) (w1.alloc (.cells (List.toArray [.slice la Ln lc]) 41)) ?_
 refine wpList_abs (fun  W => Below w1.heap.size w1 W /\ W.heap[w1.heap.size]? = some (.cells (List.toArray [.slice la Ln lc]) 41 (0, 0))) ⟨allocB (Below.refl _ _), heap_alloc_new _ _⟩ ?_
 rintro w2 ⟨hx, r⟩
 replace hb := after hb hx
 replace hv := hv.below hx
 clear hx q
 refine wn (.slice (some ⟨w2.heap.size, 0, none⟩) 1 1) (w2.alloc (.cells (List.toArray [.string ⟨#[]⟩]) 9)) ?_
 refine wpList_abs (fun  W => Below w2.heap.size w2 W /\ W.heap[w2.heap.size]? = some (.cells (List.toArray [.string ⟨#[]⟩]) 9 (0, 0))) ⟨allocB (Below.refl _ _), heap_alloc_new _ _⟩ ?_
 rintro w3 ⟨hx, s⟩
 replace hb := after hb hx
 replace hv := hv.below hx
 replace r := kq hx r
 clear hx
 refine wn (.agg #[.slice (some ⟨w1.heap.size, 0, none⟩) 1 1, .slice (some ⟨w2.heap.size, 0, none⟩) 1 1]) w3 ?_
 refine wpList_enter 16 #[.agg #[.slice ga N gc, .slice ha M hc], .agg #[.slice (some ⟨w1.heap.size, 0, none⟩) 1 1, .slice (some ⟨w2.heap.size, 0, none⟩) 1 1]] (by kernel_rfl) (by kernel_rfl) _ (cS w3 hb _ _ (one_in r s hv)) ?_
 rintro e w4 ⟨rfl, hx⟩
 refine ⟨_, rfl, ?_⟩
 replace hb := after hb hx
 refine wn (.bool V) w4 ?_
 refine wpList_nil ?_
 clear hx r s hv cS
 go_wp2
 go_ret; exact Ret.mk' rfl hb
end Go.Proofs.YtlpgigdegnbkmaaGreatDoor
