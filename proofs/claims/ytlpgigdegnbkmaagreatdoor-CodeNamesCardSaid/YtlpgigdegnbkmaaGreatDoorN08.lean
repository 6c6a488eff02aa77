import Derived.Test.YtlpgigdegnbkmaaGreatDoorM38
import Derived.Test.YtlpgigdegnbkmaaGreatDoorM20
set_option maxRecDepth 100000
set_option maxHeartbeats 8000000
namespace Tab
def sameP : List Bs -> List Bs -> Bool
 | [], [] => true
 | x :: l, y :: m => (x == y) && sameP l m
 | _, _ => false
theorem sameP_is : ∀ l m : List Bs, sameP l m = (l == m)
 | [], [] => rfl
 | [], y :: m => rfl
 | x :: l, [] => rfl
 | x :: l, y :: m => by rw [sameP, sameP_is l m]; rfl
theorem sameP_step {l m : List Bs} {j : Nat} {x y : Bs} (hx : l[j]? = some x) (hy : m[j]? = some y) : sameP (l.drop j) (m.drop j) = ((x == y) && sameP (l.drop (j + 1)) (m.drop (j + 1))) := by
 obtain ⟨h1, h2⟩ := List.getElem?_eq_some_iff.1 hx
 obtain ⟨h3, h4⟩ := List.getElem?_eq_some_iff.1 hy
 rw [List.drop_eq_getElem_cons h1, List.drop_eq_getElem_cons h3, h2, h4, sameP]
end Tab
namespace Go.Proofs.YtlpgigdegnbkmaaGreatDoor
open Go.RowKit Tab Tryz
theorem refSame_any (c d : CodeD) (ga ga' ha ha' : Option Addr) (gc gc' hc hc' : Nat) (w : World) (hI : CodeIn w ga gc ha hc c) (hJ : CodeIn w ga' gc' ha' hc' d) (hS : CodeSm c) (hT : CodeSm d) : Calls prog 28 #[codeV ga gc ha hc c, codeV ga' gc' ha' hc' d] w (Ret (.bool (sameC c d)) w) := by
 have hcap := hI.cap
 have hcap' := hJ.cap
 have hpcap := hI.pars.cap
 have hpcap' := hJ.pars.cap
 have hl := hS.blocks
 have hm := hT.blocks
 have hp := hS.params
 have hp' := hT.params
 obtain ⟨L, hL⟩ : ∃ L, c.blocks.length = L := ⟨_, rfl⟩
 obtain ⟨M, hM⟩ : ∃ M, d.blocks.length = M := ⟨_, rfl⟩
 obtain ⟨U, hU⟩ : ∃ U, c.params.length = U := ⟨_, rfl⟩
 obtain ⟨R, hR⟩ : ∃ R, d.params.length = R := ⟨_, rfl⟩
 obtain ⟨V, hV⟩ : ∃ V, sameC c d = V := ⟨_, rfl⟩
 have hV2 := hV
 unfold sameC at hV2
 rw [<- sameP_is] at hV2
 unfold codeV
 rw [hL] at hl hcap ⊢
 rw [hM] at hm hcap' ⊢
 rw [hU] at hp hpcap ⊢
 rw [hR] at hp' hpcap' ⊢
 rw [hV]
 by_cases hne : L ≠ M
 ·have e1 : ((L : Int) != (M : Int)) = true := by rw [bne_iff_ne]; omega
  have hV0 : V = false := by rw [<- hV2, sameB_len (by omega)]; rfl
  subst hV0
  clear hV hV2 hI hJ hS hT
  go_enter func28, ntmps28
  go_wp2
  go_ret; exact Ret.mk' rfl belx
 obtain rfl : L = M := by omega
 have e1 : ((L : Int) != (L : Int)) = false := by simp
 by_cases hne2 : U ≠ R
 ·have e2 : ((U : Int) != (R : Int)) = true := by rw [bne_iff_ne]; omega
  have hV0 : V = false := by
   rw [<- hV]; unfold sameC
   have : (c.params == d.params) = false := beq_eq_false_iff_ne.2 fun h => by rw [h] at hU; omega
   rw [this, Bool.and_false]
  subst hV0
  clear hV hV2 hI hJ hS hT
  go_enter func28, ntmps28
  go_wp2
  go_ret; exact Ret.mk' rfl belx
 obtain rfl : U = R := by omega
 have e2 : ((U : Int) != (U : Int)) = false := by simp
 have HI := Lib.hid (And.intro hI (And.intro hJ (And.intro hL (And.intro hM (And.intro hS hT)))))
 have HP := Lib.hid (And.intro hU hR)
 have HV := Lib.hid hV2
 clear hI hJ hL hM hV hV2 hne hne2 hS hT hU hR
 go_enter func28, ntmps28
 go_upto_region 1 with (fail)
 refine wp_abs2 (fun W => Below w.heap.size w W /\ W.heap[w.heap.size]? = some (.cells #[.slice ga L gc, .slice ha U hc] 35 (0, 0)) /\ W.heap[w.heap.size + 1]? = some (.cells #[.slice ga' L gc', .slice ha' U hc'] 35 (0, 0))) ⟨belx, heap_alloc2_old _ _ _, heap_alloc2_new _ _ _⟩ ?_
 rintro w1 ⟨hb1, q1, r1⟩
 obtain ⟨f1, -, z1⟩ := lie_cell q1
 obtain ⟨g1, -, y1⟩ := lie_cell r1
 have HQ1 := Lib.hid (And.intro q1 r1)
 clear q1 r1
 go_wp2_with fail
 go_loopw [5] (fun i w' => ∃ j : Nat, i = .int .i64 (j : Int) /\ j <= L /\ (sameB (c.blocks.drop j) (d.blocks.drop j) && sameP c.params d.params) = V /\ Below w.heap.size w w' /\ w'.heap[w.heap.size]? = some (.cells #[.slice ga L gc, .slice ha U hc] 35 (0, 0)) /\ w'.heap[w.heap.size + 1]? = some (.cells #[.slice ga' L gc', .slice ha' U hc'] 35 (0, 0))) (fun i _ => L - (intOf i).toNat)
 case atStart => exact ⟨0, rfl, by omega, HV.out, hb1, HQ1.out.1, HQ1.out.2⟩
 case round =>
  clear f1 g1 z1 y1 HQ1 hb1
  obtain ⟨j, rfl, hj, hH, hB, q2, r2⟩ := hrel
  have HH := Lib.hid hH
  clear hH
  obtain ⟨f2, -, z2⟩ := lie_cell q2
  obtain ⟨g2, -, y2⟩ := lie_cell r2
  have HQ2 := Lib.hid (And.intro q2 r2)
  clear q2 r2
  by_cases hlt : j < L
  ·obtain ⟨hI, hJ, hL, hM, hS, hT⟩ := HI.out
   obtain ⟨vb, vo, rfl, hvb, hvx⟩ := hI.rows.resolve_left (fun h => by rw [h] at hL; simp at hL; omega)
   obtain ⟨ub, uo, rfl, hub, huy⟩ := hJ.rows.resolve_left (fun h => by rw [h] at hM; simp at hM; omega)
   obtain ⟨x, hx⟩ : ∃ x, c.blocks[j]? = some x := ⟨_, List.getElem?_eq_getElem (by omega)⟩
   obtain ⟨y, hy⟩ : ∃ y, d.blocks[j]? = some y := ⟨_, List.getElem?_eq_getElem (by omega)⟩
   obtain ⟨vv, hvv, hvr⟩ := hvx j x hx
   obtain ⟨uu, huu, hur⟩ := huy j y hy
   have hvw := (hB.cell (p := ⟨vb, vo + j, none⟩) hvb).trans hvv
   have huw := (hB.cell (p := ⟨ub, uo + j, none⟩) hub).trans huu
   have hvb' : vb < wr.heap.size := Nat.lt_of_lt_of_le hvb hB.size
   have hub' : ub < wr.heap.size := Nat.lt_of_lt_of_le hub hB.size
   have hH := HH.out
   rw [sameB_step hx hy] at hH
   have hlt' : (j : Int) < (L : Int) := by omega
   have ewJ : IntKind.i64.wrap ((j : Int) + 1) = ((j + 1 : Nat) : Int) := by rw [IntWalk.i64_in _ (by omega)]; omega
   have cE := fun W (hW : Below wr.heap.size wr W) => refBlock_any x y vv uu W (hvr.below (after hB hW)) (hur.below (after hB hW)) (hS.each x (List.mem_of_getElem? hx)).1 (hT.each y (List.mem_of_getElem? hy)).1
   obtain ⟨E, hE⟩ : ∃ E, sameL x y = E := ⟨_, rfl⟩
   rw [hE] at cE hH
   have HH2 := Lib.hid hH
   clear hvx huy hL hM hx hy hH hE HH hS hT hvv huu hvr hur hI hJ
   go_upto_region 6 with (fail)
   have kcc := gcell wr
   refine region_below (by kernel_rfl) (by kernel_rfl) ?_
   iterate 12 (quiet_step (exact Ret.grown cE))
   refine wpQuiet_nil ?_
   intro w3 hb3
   have q3 := (hb3.block _ z2).trans HQ2.out.1
   have r3 := (hb3.block _ y2).trans HQ2.out.2
   clear cE kcc hvw huw f2 g2
   cases E
   ·have hV : false = V := HH2.out
    subst hV
    go_wp2
    go_ret; exact Ret.mk' rfl (after hB hb3)
   ·have HQ3 := Lib.hid (And.intro q3 r3)
    clear q3 r3
    go_wp2
    go_roundw
    case rel => exact ⟨j + 1, rfl, by omega, HH2.out, after hB hb3, HQ3.out.1, HQ3.out.2⟩
    case measure => simp [intOf]; omega
  ·have hLj : L = j := by omega
   subst hLj
   have hH := HH.out
   rw [List.drop_eq_nil_of_le (by rw [HI.out.2.2.1]; exact Nat.le_refl _), List.drop_eq_nil_of_le (by rw [HI.out.2.2.2.1]; exact Nat.le_refl _)] at hH
   have HV2 := Lib.hid (show sameP c.params d.params = V from hH)
   clear hH HH
   go_wp2_with fail
   go_loopw [6] (fun i w' => ∃ j : Nat, i = .int .i64 (j : Int) /\ j <= U /\ sameP (c.params.drop j) (d.params.drop j) = V /\ Below w.heap.size w w' /\ w'.heap[w.heap.size]? = some (.cells #[.slice ga L gc, .slice ha U hc] 35 (0, 0)) /\ w'.heap[w.heap.size + 1]? = some (.cells #[.slice ga' L gc', .slice ha' U hc'] 35 (0, 0))) (fun i _ => U - (intOf i).toNat)
   case atStart => exact ⟨0, rfl, by omega, HV2.out, hB, HQ2.out.1, HQ2.out.2⟩
   case round =>
    clear f2 g2 z2 y2 HQ2 hB
    obtain ⟨k, rfl, hk, hH, hB, q2, r2⟩ := hrel
    have HH := Lib.hid hH
    clear hH
    obtain ⟨f2, -, z2⟩ := lie_cell q2
    obtain ⟨g2, -, y2⟩ := lie_cell r2
    have HQ2 := Lib.hid (And.intro q2 r2)
    clear q2 r2
    by_cases hlt : k < U
    ·obtain ⟨hI, hJ, -⟩ := HI.out
     obtain ⟨vb, vo, rfl, hvb, hvv⟩ := hI.pars.cell (i := k) (by rw [HP.out.1]; exact hlt)
     obtain ⟨ub, uo, rfl, hub, huu⟩ := hJ.pars.cell (i := k) (by rw [HP.out.2]; exact hlt)
     obtain ⟨x, hx⟩ : ∃ x, c.params[k]? = some x := ⟨_, List.getElem?_eq_getElem (by rw [HP.out.1]; exact hlt)⟩
     obtain ⟨y, hy⟩ : ∃ y, d.params[k]? = some y := ⟨_, List.getElem?_eq_getElem (by rw [HP.out.2]; exact hlt)⟩
     rw [(List.getElem?_eq_some_iff.1 hx).2] at hvv
     rw [(List.getElem?_eq_some_iff.1 hy).2] at huu
     have hvw := (hB.cell (p := ⟨vb, vo + k, none⟩) hvb).trans hvv
     have huw := (hB.cell (p := ⟨ub, uo + k, none⟩) hub).trans huu
     have hvb' : vb < wr.heap.size := Nat.lt_of_lt_of_le hvb hB.size
     have hub' : ub < wr.heap.size := Nat.lt_of_lt_of_le hub hB.size
     have hH := HH.out
     rw [sameP_step hx hy] at hH
     have hlt' : (k : Int) < (U : Int) := by omega
     have ewJ : IntKind.i64.wrap ((k : Int) + 1) = ((k + 1 : Nat) : Int) := by rw [IntWalk.i64_in _ (by omega)]; omega
     obtain ⟨E, hE⟩ : ∃ E, (x == y) = E := ⟨_, rfl⟩
     rw [hE] at hH
     have HH2 := Lib.hid hH
     clear hx hy hH HH hvv huu hI hJ
     go_upto_region 11 with (fail)
     have kcc := gcell wr
     refine region_below (by kernel_rfl) (by kernel_rfl) ?_
     iterate 11 (quiet_step (fail))
     refine wpQuiet_nil ?_
     intro w3 hb3
     have q3 := (hb3.block _ z2).trans HQ2.out.1
     have r3 := (hb3.block _ y2).trans HQ2.out.2
     clear kcc hvw huw f2 g2
     cases E
     ·have hV : false = V := HH2.out
      subst hV
      go_wp2
      go_ret; exact Ret.mk' rfl (after hB hb3)
     ·have HQ3 := Lib.hid (And.intro q3 r3)
      clear q3 r3
      go_wp2
      go_roundw
      case rel => exact ⟨k + 1, rfl, by omega, HH2.out, after hB hb3, HQ3.out.1, HQ3.out.2⟩
      case measure => simp [intOf]; omega
    ·have hUk : U = k := by omega
     subst hUk
     have hH := HH.out
     rw [List.drop_eq_nil_of_le (by rw [HP.out.1]; exact Nat.le_refl _), List.drop_eq_nil_of_le (by rw [HP.out.2]; exact Nat.le_refl _)] at hH
     have hV : true = V := hH
     subst hV
     go_wp2
     go_ret; exact Ret.mk' rfl hB
theorem ref6Same_any (c d : CodeD) (ga ga' ha ha' : Option Addr) (gc gc' hc hc' : Nat) (w : World) (hI : CodeIn w ga gc ha hc c) (hJ : CodeIn w ga' gc' ha' hc' d) (hS : CodeSm c) (hT : CodeSm d) : Calls prog 16 #[codeV ga gc ha hc c, codeV ga' gc' ha' hc' d] w (Ret (.bool (sameC c d)) w) := by
 have cS := fun W (h : Below w.heap.size w W) => refSame_any c d ga ga' ha ha' gc gc' hc hc' W (hI.below h) (hJ.below h) hS hT
 unfold codeV at *
 generalize sameC c d = V at *
 go_enter func16, ntmps16
 go_wp2_with fail
 refine (cS _ belx).mono ?_; rintro e w2 ⟨rfl, hb2⟩
 go_wp2
 go_ret; exact Ret.mk' rfl belx
def OwnI (w : World) (G : Nat) (v : Value) (l : List InsD) : Prop := w.ownsRow G 43 18 v l.length (insL l)
theorem OwnI.row {w : World} {G : Nat} {v : Value} {l : List InsD} (h : OwnI w G v l) : InsRow w v l := insRow_of h
theorem OwnI.alloc {w : World} {G : Nat} {v : Value} {l : List InsD} (h : OwnI w G v l) (o : Obj) : OwnI (w.alloc o) G v l := World.ownsRow.alloc h o
theorem insL_app (l m : List InsD) : insL (l ++ m) = insL l ++ insL m := by unfold insL; exact List.flatMap_append
theorem insL_one (l : List InsD) : ∀ u ∈ insL l, u.oneCell' = true := fun u hu => by
 unfold insL at hu
 obtain ⟨x, _, hx⟩ := List.mem_flatMap.1 hu
 exact insC_one x u hx
theorem row_cell {w : World} {b o : Nat} {l : List InsD} (h : ∀ (i : Nat) (x : InsD), l[i]? = some x -> w.rangeAt b (o + i * 18) (insC x)) : ∀ (j : Nat) (u : Value), (insL l)[j]? = some u -> w.cell? (Addr.add ⟨b, o, none⟩ j) = some u := fun j u hj => by
 have hlt := (List.getElem?_eq_some_iff.1 hj).1
 rw [insL_len] at hlt
 have hi : j / 18 < l.length := by omega
 have hx : l[j / 18]? = some l[j / 18] := List.getElem?_eq_getElem hi
 have hr := insL_range l (j / 18) _ hx
 have hm : j % 18 < 18 := Nat.mod_lt _ (by decide)
 have e : (insC l[j / 18])[j % 18]? = some u := by
  rw [<- hr, List.getElem?_take_of_lt hm, List.getElem?_drop, show j / 18 * 18 + j % 18 = j by omega]; exact hj
 have := h (j / 18) _ hx (j % 18) u e
 rw [Addr.add_mid, show o + j = o + j / 18 * 18 + j % 18 by omega]
 exact this
theorem lit_row {w : World} {b : Nat} {x : InsD} (h : w.heap[b]? = some (.cells (insC x).toArray 43 (0, 0))) : InsRow w (.slice (some ⟨b, 0, none⟩) 1 1) [x] :=
 ⟨_, 1, rfl, Nat.le_refl 1, .inr ⟨b, 0, rfl, heap_in h, fun i y hy => by
  match i, hy with
  | 0, hy => injection hy with hy; subst hy; simpa using range_of (o := 0) (lie_cell h).1 (cs := insC x) (by simp)⟩⟩
theorem oper_app {o : Oper} {a : Act} {w : World} {K : Act -> World -> Prop} {Q : Exit -> Act -> World -> Prop} (s t : Operand) (ho : o.op = .call { callee := .builtin .append, args := #[s, t], argTypes := #[41, 41] }) (w0 : World) (v : Value) (l : List InsD) (hs : a.eval s = v) (hown : OwnI w w0.heap.size v l) (hb : Below w0.heap.size w0 w) (m : List InsD) (u : Value) (hu : a.eval t = u) (hrow : InsRow w u m) (hne : m ≠ []) (hl : l.length + m.length <= 10000000)
  (h : ∀ v' w', OwnI w' w0.heap.size v' (l ++ m) -> Below w0.heap.size w0 w' -> w.grownBy w' v.ownBlock -> K (a.put o.dst v') w') : Oper.wp prog o a w K Q := by
 obtain ⟨i, hi, hz, hsz, hby⟩ := info_parts infoIns
 obtain ⟨ua, uc, rfl, huc, hrow⟩ := hrow
 obtain ⟨b, off, rfl, hbl, hr⟩ := hrow.resolve_left hne
 obtain ⟨v', w', hrun, h2, h3, h4, h5⟩ := run_append_own_at (P := prog) w w0.heap.size 41 o.type 43 i _ 18 136 underlying41 hi hz hsz hby rfl (by decide) v l.length (insL l) hown ⟨b, off, none⟩ m.length uc (insL m) (insL_len m) (row_cell hr) (insL_one m) (by unfold maxLen; omega) (by omega) hb.size
 unfold Oper.wp execOp
 simp only [ho, resolve, invoke, builtin, Sem.run_bind, Sem.run_pure, Result.andThen_ok, List.map_toArray, List.map_cons, List.map_nil, hs, hu, hrun]
 refine h v' w' ?_ (hb.grown h3 hb.size fun k hk => (own_type hown hk).1) h3
 unfold OwnI
 rw [List.length_append, insL_app]; exact h2
theorem wpList_app {ops : Array Oper} {rest : List Oper} {o : Oper} {a : Act} {w : World} {Q : Exit -> Act -> World -> Prop} (s t : Operand) (w0 : World) (v : Value) (l : List InsD) (hown : OwnI w w0.heap.size v l) (hb : Below w0.heap.size w0 w) (m : List InsD) (u : Value) (hrow : InsRow w u m) (hne : m ≠ []) (hl : l.length + m.length <= 10000000)
  (h : ∀ v' w', OwnI w' w0.heap.size v' (l ++ m) -> Below w0.heap.size w0 w' -> wpList prog ops Q rest (a.put o.dst v') w') (hs : a.eval s = v := by rfl) (hu : a.eval t = u := by rfl) (ho : o.op = .call { callee := .builtin .append, args := #[s, t], argTypes := #[41, 41] } := by rfl) (hg : o.guard = none := by rfl) : wpList prog ops Q (o :: rest) a w :=
 wpList_plain hg fun _K hK => oper_app s t ho w0 v l hs hown hb m u hu hrow hne hl fun v' w' h1 h2 _ => hK _ _ (h v' w' h1 h2)
theorem oper_enter {P : Program} {o : Oper} {a : Act} {w : World} {K : Act -> World -> Prop} {Q : Exit -> Act -> World -> Prop} (f : FuncId) (args : Array Value) (R : Ending -> World -> Prop) (c : Calls P f args w R) (k : ∀ e w', R e w' -> ∃ v, e = .returned v /\ K (a.put o.dst v) w') (h : (execOp a.eval o).run P w = .ok (.enter f args) w := by kernel_rfl) : Oper.wp P o a w K Q := by
 unfold Oper.wp
 rw [h]
 refine c.mono fun e w' hr => ?_
 obtain ⟨v, rfl, hk⟩ := k e w' hr
 exact hk
end Go.Proofs.YtlpgigdegnbkmaaGreatDoor
