import Derived.Test.YtlpgigdegnbkmaaGreatDoorM19
set_option maxRecDepth 100000
set_option maxHeartbeats 8000000
namespace Tab
open Go
def sameL : List InsD -> List InsD -> Bool
 | [], [] => true
 | x :: l, y :: m => sameI x y && sameL l m
 | _, _ => false
def sameB : List (List InsD) -> List (List InsD) -> Bool
 | [], [] => true
 | x :: l, y :: m => sameL x y && sameB l m
 | _, _ => false
def sameC (c d : CodeD) : Bool := sameB c.blocks d.blocks && (c.params == d.params)
theorem sameL_iff : ∀ l m : List InsD, sameL l m = true <-> l = m
 | [], [] => by simp [sameL]
 | [], y :: m => by simp [sameL]
 | x :: l, [] => by simp [sameL]
 | x :: l, y :: m => by rw [sameL, Bool.and_eq_true, sameI_iff, sameL_iff l m, List.cons.injEq]
theorem sameB_iff : ∀ l m : List (List InsD), sameB l m = true <-> l = m
 | [], [] => by simp [sameB]
 | [], y :: m => by simp [sameB]
 | x :: l, [] => by simp [sameB]
 | x :: l, y :: m => by rw [sameB, Bool.and_eq_true, sameL_iff, sameB_iff l m, List.cons.injEq]
theorem sameC_iff (c d : CodeD) : sameC c d = true <-> c = d := by
 unfold sameC
 rw [Bool.and_eq_true, sameB_iff, beq_iff_eq]
 cases c; cases d; simp
theorem sameL_len {l m : List InsD} (h : l.length ≠ m.length) : sameL l m = false := by
 cases e : sameL l m with
 | false => rfl
 | true => rw [sameL_iff] at e; exact absurd (congrArg List.length e) h
theorem sameB_len {l m : List (List InsD)} (h : l.length ≠ m.length) : sameB l m = false := by
 cases e : sameB l m with
 | false => rfl
 | true => rw [sameB_iff] at e; exact absurd (congrArg List.length e) h
theorem sameL_step {l m : List InsD} {j : Nat} {x y : InsD} (hx : l[j]? = some x) (hy : m[j]? = some y) : sameL (l.drop j) (m.drop j) = (sameI x y && sameL (l.drop (j + 1)) (m.drop (j + 1))) := by
 obtain ⟨h1, h2⟩ := List.getElem?_eq_some_iff.1 hx
 obtain ⟨h3, h4⟩ := List.getElem?_eq_some_iff.1 hy
 rw [List.drop_eq_getElem_cons h1, List.drop_eq_getElem_cons h3, h2, h4, sameL]
theorem sameB_step {l m : List (List InsD)} {j : Nat} {x y : List InsD} (hx : l[j]? = some x) (hy : m[j]? = some y) : sameB (l.drop j) (m.drop j) = (sameL x y && sameB (l.drop (j + 1)) (m.drop (j + 1))) := by
 obtain ⟨h1, h2⟩ := List.getElem?_eq_some_iff.1 hx
 obtain ⟨h3, h4⟩ := List.getElem?_eq_some_iff.1 hy
 rw [List.drop_eq_getElem_cons h1, List.drop_eq_getElem_cons h3, h2, h4, sameB]
end Tab
namespace Go.Proofs.YtlpgigdegnbkmaaGreatDoor
open Go.RowKit Tab Tryz
theorem quiet_load_mid {P : Program} {C : World -> Prop} {K : Act -> Prop} {o : Oper} {a : Act} (ty : TypeId) (x : Operand) (ho : o.op = .load ty x) (b off : Nat) (hx : a.eval x = .pointer (some ⟨b, off, none⟩)) (cs : List Value) (d : TypeDesc) (hc : ∀ W, C W -> W.rangeAt b off cs)
  (hu : P.underlying ty = some d) (hd : d.isRow = true) (hi : (P.info? ty).map (·.size) = some cs.length) (h : K (a.put o.dst (.agg cs.toArray))) : o.quiet P a C K :=
 ⟨.agg cs.toArray, fun W hW => by
  unfold Oper.quietAt execOp
  simp only [ho, hx, Instr.loadAt, Instr.sureAddr, Sem.run_bind, Sem.run_pure, Result.andThen_ok, run_loadVar_mid W b off ty cs d (hc W hW) hu hd hi]
  exact ⟨rfl, rfl⟩, h⟩
theorem quiet_neq_struct {P : Program} {C : World -> Prop} {K : Act -> Prop} {o : Oper} {a : Act} {T T' : TypeId} {x y : Operand} {xs ys : Array Value} {r : Bool} (ho : o.op = .binOp .neq T x y T') (hx : a.eval x = .agg xs) (hy : a.eval y = .agg ys)
  (hm : P.eqGuardType P.depth T = false) (hr : ∀ W, (Op.equalIn 10000 T (.agg xs) (.agg ys)).run P W = .ok r W) (h : K (a.put o.dst (.bool (!r)))) : o.quiet P a C K :=
 ⟨.bool (!r), fun W _ => by
  unfold Oper.quietAt execOp
  simp only [ho, hx, hy, Sem.run_bind, run_eqGuard_agg _ _ _ _ _ _ _ hm, run_neq_struct, hr W, Result.andThen_ok]
  exact ⟨rfl, rfl⟩, h⟩
theorem ins_range {w W : World} {b o i : Nat} {x : InsD} (hB : Below w.heap.size w W) (hb : b < w.heap.size) (h : w.rangeAt b (o + i * 18) (insC x)) : W.rangeAt b (o + i * 18) (insC x) := fun j u hu => (hB.cell (p := ⟨b, o + i * 18 + j, none⟩) hb).trans (h j u hu)
theorem insEq_any (x y : InsD) (W : World) : (Op.equalIn 10000 43 (.agg (insC x).toArray) (.agg (insC y).toArray)).run prog W = .ok (sameI x y) W := insEq_run 9997 x y W
theorem equalIns_any (l m : List InsD) (v u : Value) (w : World) (hv : InsRow w v l) (hu : InsRow w u m) (hl : l.length <= 1000000) (hm : m.length <= 1000000) : Calls prog 35 #[v, u] w (Ret (.bool (sameL l m)) w) := by
 obtain ⟨va, vc, rfl, hvc, hvr⟩ := hv
 obtain ⟨ua, uc, rfl, huc, hur⟩ := hu
 obtain ⟨L, hL⟩ : ∃ L, l.length = L := ⟨_, rfl⟩
 obtain ⟨M, hM⟩ : ∃ M, m.length = M := ⟨_, rfl⟩
 obtain ⟨V, hV⟩ : ∃ V, sameL l m = V := ⟨_, rfl⟩
 rw [hL] at hl hvc ⊢
 rw [hM] at hm huc ⊢
 rw [hV]
 by_cases hne : L ≠ M
 ·have e1 : ((L : Int) != (M : Int)) = true := by rw [bne_iff_ne]; omega
  have hV0 : V = false := by rw [<- hV]; exact sameL_len (by omega)
  subst hV0
  clear hV hvr hur
  go_enter func35, ntmps35
  go_wp2
  go_ret; exact Ret.mk' rfl belx
 obtain rfl : L = M := by omega
 have e1 : ((L : Int) != (L : Int)) = false := by simp
 have HI := Lib.hid (And.intro hvr (And.intro hur (And.intro hL (And.intro hM hV))))
 clear hvr hur hL hM hV hne
 go_enter func35, ntmps35
 go_wp2_with fail
 go_loopw [13] (fun i w' => ∃ j : Nat, i = .int .i64 (j : Int) /\ j <= L /\ sameL (l.drop j) (m.drop j) = V /\ Below w.heap.size w w') (fun i _ => L - (intOf i).toNat)
 case atStart => exact ⟨0, rfl, by omega, HI.out.2.2.2.2, belx⟩
 case round =>
  obtain ⟨j, rfl, hj, hH, hB⟩ := hrel
  have HH := Lib.hid hH
  clear hH
  by_cases hlt : j < L
  ·obtain ⟨hvr, hur, hL, hM, -⟩ := HI.out
   rcases hvr with h0 | ⟨vb, vo, rfl, hvb, hvx⟩
   ·rw [h0] at hL; simp at hL; omega
   rcases hur with h0 | ⟨ub, uo, rfl, hub, huy⟩
   ·rw [h0] at hM; simp at hM; omega
   obtain ⟨x, hx⟩ : ∃ x, l[j]? = some x := ⟨_, List.getElem?_eq_getElem (by omega)⟩
   obtain ⟨y, hy⟩ : ∃ y, m[j]? = some y := ⟨_, List.getElem?_eq_getElem (by omega)⟩
   have hxr := hvx j x hx
   have hyr := huy j y hy
   have hH := HH.out
   rw [sameL_step hx hy] at hH
   have hlt' : (j : Int) < (L : Int) := by omega
   have ewJ : IntKind.i64.wrap ((j : Int) + 1) = ((j + 1 : Nat) : Int) := by rw [IntWalk.i64_in _ (by omega)]; omega
   have hEq := fun W => insEq_any x y W
   obtain ⟨E, hE⟩ : ∃ E, sameI x y = E := ⟨_, rfl⟩
   rw [hE] at hEq hH
   have HH2 := Lib.hid hH
   clear hvx huy hL hM hx hy hH hE HH
   go_upto_region 6 with (fail)
   refine region_below (by kernel_rfl) (by kernel_rfl) ?_
   iterate 3 (quiet_step (fail))
   refine BigFrame.wpQuiet_want rfl (fun KK hKK => quiet_load_mid 43 (.tmp 18) rfl vb (vo + j * 18) rfl (insC x) _ (fun W ⟨p, hp⟩ => by rw [hp]; exact ins_range (after hB (below_regrown _ _ _)) hvb hxr) underlying43 rfl cellsIns ?_)
   refine hKK _ ?_; clear hKK KK
   iterate 3 (quiet_step (fail))
   refine BigFrame.wpQuiet_want rfl (fun KK hKK => quiet_load_mid 43 (.tmp 22) rfl ub (uo + j * 18) rfl (insC y) _ (fun W ⟨p, hp⟩ => by rw [hp]; exact ins_range (after hB (below_regrown _ _ _)) hub hyr) underlying43 rfl cellsIns ?_)
   refine hKK _ ?_; clear hKK KK
   refine BigFrame.wpQuiet_want rfl (fun KK hKK => quiet_neq_struct rfl rfl rfl guardIns hEq ?_)
   refine hKK _ ?_; clear hKK KK
   refine wpQuiet_nil ?_
   intro w2 hb2
   clear hEq hxr hyr
   cases E
   ·have hV : false = V := HH2.out
    subst hV
    go_wp2
    go_ret; exact Ret.mk' rfl (after hB hb2)
   ·go_wp2
    go_roundw
    case rel => exact ⟨j + 1, rfl, by omega, HH2.out, after hB hb2⟩
    case measure => simp [intOf]; omega
  ·have hLj : L = j := by omega
   subst hLj
   have hH := HH.out
   rw [List.drop_eq_nil_of_le (by rw [HI.out.2.2.1]; exact Nat.le_refl _), List.drop_eq_nil_of_le (by rw [HI.out.2.2.2.1]; exact Nat.le_refl _)] at hH
   have hV : true = V := hH
   subst hV
   go_wp2
   go_ret; exact Ret.mk' rfl hB
theorem refBlock_any (l m : List InsD) (v u : Value) (w : World) (hv : InsRow w v l) (hu : InsRow w u m) (hl : l.length <= 1000000) (hm : m.length <= 1000000) : Calls prog 65 #[v, u] w (Ret (.bool (sameL l m)) w) := by
 obtain ⟨va, vc, rfl, hvc, hvr⟩ := hv
 obtain ⟨ua, uc, rfl, huc, hur⟩ := hu
 obtain ⟨L, hL⟩ : ∃ L, l.length = L := ⟨_, rfl⟩
 obtain ⟨M, hM⟩ : ∃ M, m.length = M := ⟨_, rfl⟩
 obtain ⟨V, hV⟩ : ∃ V, sameL l m = V := ⟨_, rfl⟩
 rw [hL] at hl hvc ⊢
 rw [hM] at hm huc ⊢
 rw [hV]
 by_cases hne : L ≠ M
 ·have e1 : ((L : Int) != (M : Int)) = true := by rw [bne_iff_ne]; omega
  have hV0 : V = false := by rw [<- hV]; exact sameL_len (by omega)
  subst hV0
  clear hV hvr hur
  go_enter func65, ntmps65
  go_wp2
  go_ret; exact Ret.mk' rfl belx
 obtain rfl : L = M := by omega
 have e1 : ((L : Int) != (L : Int)) = false := by simp
 have HI := Lib.hid (And.intro hvr (And.intro hur (And.intro hL (And.intro hM hV))))
 clear hvr hur hL hM hV hne
 go_enter func65, ntmps65
 go_wp2_with fail
 go_loopw [5] (fun i w' => ∃ j : Nat, i = .int .i64 (j : Int) /\ j <= L /\ sameL (l.drop j) (m.drop j) = V /\ Below w.heap.size w w') (fun i _ => L - (intOf i).toNat)
 case atStart => exact ⟨0, rfl, by omega, HI.out.2.2.2.2, belx⟩
 case round =>
  obtain ⟨j, rfl, hj, hH, hB⟩ := hrel
  have HH := Lib.hid hH
  clear hH
  by_cases hlt : j < L
  ·obtain ⟨hvr, hur, hL, hM, -⟩ := HI.out
   rcases hvr with h0 | ⟨vb, vo, rfl, hvb, hvx⟩
   ·rw [h0] at hL; simp at hL; omega
   rcases hur with h0 | ⟨ub, uo, rfl, hub, huy⟩
   ·rw [h0] at hM; simp at hM; omega
   obtain ⟨x, hx⟩ : ∃ x, l[j]? = some x := ⟨_, List.getElem?_eq_getElem (by omega)⟩
   obtain ⟨y, hy⟩ : ∃ y, m[j]? = some y := ⟨_, List.getElem?_eq_getElem (by omega)⟩
   have hxr := hvx j x hx
   have hyr := huy j y hy
   have hH := HH.out
   rw [sameL_step hx hy] at hH
   have hlt' : (j : Int) < (L : Int) := by omega
   have ewJ : IntKind.i64.wrap ((j : Int) + 1) = ((j + 1 : Nat) : Int) := by rw [IntWalk.i64_in _ (by omega)]; omega
   have hEq := fun W => insEq_any x y W
   obtain ⟨E, hE⟩ : ∃ E, sameI x y = E := ⟨_, rfl⟩
   rw [hE] at hEq hH
   have HH2 := Lib.hid hH
   clear hvx huy hL hM hx hy hH hE HH
   go_upto_region 6 with (fail)
   refine region_below (by kernel_rfl) (by kernel_rfl) ?_
   iterate 3 (quiet_step (fail))
   refine BigFrame.wpQuiet_want rfl (fun KK hKK => quiet_load_mid 43 (.tmp 19) rfl vb (vo + j * 18) rfl (insC x) _ (fun W ⟨p, hp⟩ => by rw [hp]; exact ins_range (after hB (below_regrown _ _ _)) hvb hxr) underlying43 rfl cellsIns ?_)
   refine hKK _ ?_; clear hKK KK
   iterate 3 (quiet_step (fail))
   refine BigFrame.wpQuiet_want rfl (fun KK hKK => quiet_load_mid 43 (.tmp 23) rfl ub (uo + j * 18) rfl (insC y) _ (fun W ⟨p, hp⟩ => by rw [hp]; exact ins_range (after hB (below_regrown _ _ _)) hub hyr) underlying43 rfl cellsIns ?_)
   refine hKK _ ?_; clear hKK KK
   refine BigFrame.wpQuiet_want rfl (fun KK hKK => quiet_neq_struct rfl rfl rfl guardIns hEq ?_)
   refine hKK _ ?_; clear hKK KK
   refine wpQuiet_nil ?_
   intro w2 hb2
   clear hEq hxr hyr
   cases E
   ·have hV : false = V := HH2.out
    subst hV
    go_wp2
    go_ret; exact Ret.mk' rfl (after hB hb2)
   ·go_wp2
    go_roundw
    case rel => exact ⟨j + 1, rfl, by omega, HH2.out, after hB hb2⟩
    case measure => simp [intOf]; omega
  ·have hLj : L = j := by omega
   subst hLj
   have hH := HH.out
   rw [List.drop_eq_nil_of_le (by rw [HI.out.2.2.1]; exact Nat.le_refl _), List.drop_eq_nil_of_le (by rw [HI.out.2.2.2.1]; exact Nat.le_refl _)] at hH
   have hV : true = V := hH
   subst hV
   go_wp2
   go_ret; exact Ret.mk' rfl hB
theorem eqNames_any (a a' : Option Addr) (c c' : Nat) (K L : List Bs) (w : World) (hK : NamesAt w a c K) (hL : NamesAt w a' c' L) (kl : K.length <= 1000000) (ll : L.length <= 1000000) : Calls prog 36 #[.slice a K.length c, .slice a' L.length c'] w (Ret (.bool (K == L)) w) := by
 by_cases hne : K.length ≠ L.length
 ·have e : (K == L) = false := beq_eq_false_iff_ne.2 fun h => hne (congrArg List.length h)
  rw [e]
  exact (Tryz.slices_Equal_string_lens a a' K.length c L.length c' w hne).mono fun e W ⟨h1, h2⟩ => ⟨h1, h2 ▸ Below.refl _ _⟩
 ·have hne : K.length = L.length := Decidable.byContradiction hne
  rcases hK.lies with rfl | ⟨b, o, C, fr, rfl, h1, h2⟩
  ·have e : L = [] := List.length_eq_zero_iff.1 hne.symm
   subst e
   exact (Tryz.slices_Equal_string_empty a a' c 0 c' w (by decide)).mono fun e W ⟨h1, h2⟩ => ⟨h1, h2 ▸ Below.refl _ _⟩
  ·rcases hL.lies with rfl | ⟨b', o', C', fr', rfl, h1', h2'⟩
   ·have e : K = [] := List.length_eq_zero_iff.1 hne
    subst e
    exact (Tryz.slices_Equal_string_empty _ a' c 0 c' w (by decide)).mono fun e W ⟨h1, h2⟩ => ⟨h1, h2 ▸ Below.refl _ _⟩
   ·have at1 : ∀ (b o : Nat) (C : Array Value) (fr : Nat × Nat) (K : List Bs), w.heap[b]? = some (.cells C 9 fr) -> (∀ (i : Nat) (x : Bs), K[i]? = some x -> C[o + i]? = some (.string ⟨x.toArray⟩)) -> ∀ j, j < (K.map fun x : Bs => (⟨x.toArray⟩ : ByteArray)).length -> w.cell? ⟨b, o + j, none⟩ = some (.string ((K.map fun x : Bs => (⟨x.toArray⟩ : ByteArray)).getD j ByteArray.empty)) := by
     intro b o C fr K g1 g2 j hj
     rw [List.length_map] at hj
     have hx := List.getElem?_eq_getElem hj
     unfold World.cell?; rw [g1]
     have := g2 j _ hx
     rw [List.getD_eq_getElem?_getD, List.getElem?_map, hx]; exact this
    have := Tryz.slices_Equal_string b o K.length c b' o' L.length c' (K.map fun x : Bs => (⟨x.toArray⟩ : ByteArray)) (L.map fun x : Bs => (⟨x.toArray⟩ : ByteArray)) w (by simp) (by simp) (by omega) (by omega) (at1 b o C fr K h1 h2) (at1 b' o' C' fr' L h1' h2')
    refine this.mono fun e W ⟨g1, q, g2⟩ => ⟨?_, ?_⟩
    ·rw [g1, List.take_of_length_le (by simp), List.take_of_length_le (by simp)]
     congr 2
     rw [Bool.eq_iff_iff, decide_eq_true_iff, beq_iff_eq]
     constructor
     ·intro h
      have := congrArg (List.map fun x : ByteArray => x.data.toList) h
      rw [List.map_map, List.map_map] at this
      simpa [Function.comp_def] using this
     ·rintro rfl; rfl
    ·obtain ⟨w3, e3, hb3⟩ := drewN_abs w q
     rw [g2, e3]; exact hb3
theorem equalFunc_any (c d : CodeD) (ga ga' ha ha' : Option Addr) (gc gc' hc hc' : Nat) (w : World) (hI : CodeIn w ga gc ha hc c) (hJ : CodeIn w ga' gc' ha' hc' d) (hS : CodeSm c) (hT : CodeSm d) : Calls prog 34 #[.slice ga c.blocks.length gc, .slice ga' d.blocks.length gc', .func (.func 35) #[] #[]] w (Ret (.bool (sameB c.blocks d.blocks)) w) := by
 have hcap := hI.cap
 have hcap' := hJ.cap
 have hl := hS.blocks
 have hm := hT.blocks
 obtain ⟨L, hL⟩ : ∃ L, c.blocks.length = L := ⟨_, rfl⟩
 obtain ⟨M, hM⟩ : ∃ M, d.blocks.length = M := ⟨_, rfl⟩
 obtain ⟨V, hV⟩ : ∃ V, sameB c.blocks d.blocks = V := ⟨_, rfl⟩
 rw [hL] at hl hcap ⊢
 rw [hM] at hm hcap' ⊢
 rw [hV]
 by_cases hne : L ≠ M
 ·have e1 : ((L : Int) != (M : Int)) = true := by rw [bne_iff_ne]; omega
  have hV0 : V = false := by rw [<- hV]; exact sameB_len (by omega)
  subst hV0
  clear hV hI hJ hS hT
  go_enter func34, ntmps34
  go_wp2
  go_ret; exact Ret.mk' rfl belx
 obtain rfl : L = M := by omega
 have e1 : ((L : Int) != (L : Int)) = false := by simp
 have HI := Lib.hid (And.intro hI (And.intro hJ (And.intro hL (And.intro hM (And.intro hV (And.intro hS hT))))))
 clear hI hJ hL hM hV hne hS hT
 go_enter func34, ntmps34
 go_wp2_with fail
 go_loopw [17] (fun i w' => ∃ j : Nat, i = .int .i64 (j : Int) /\ j <= L /\ sameB (c.blocks.drop j) (d.blocks.drop j) = V /\ Below w.heap.size w w') (fun i _ => L - (intOf i).toNat)
 case atStart => exact ⟨0, rfl, by omega, HI.out.2.2.2.2.1, belx⟩
 case round =>
  obtain ⟨j, rfl, hj, hH, hB⟩ := hrel
  have HH := Lib.hid hH
  clear hH
  by_cases hlt : j < L
  ·obtain ⟨hI, hJ, hL, hM, -, hS, hT⟩ := HI.out
   obtain ⟨vb, vo, rfl, hvb, hvx⟩ := hI.rows.resolve_left (fun h => by rw [h] at hL; simp at hL; omega)
   obtain ⟨ub, uo, rfl, hub, huy⟩ := hJ.rows.resolve_left (fun h => by rw [h] at hM; simp at hM; omega)
   obtain ⟨x, hx⟩ : ∃ x, c.blocks[j]? = some x := ⟨_, List.getElem?_eq_getElem (by omega)⟩
   obtain ⟨y, hy⟩ : ∃ y, d.blocks[j]? = some y := ⟨_, List.getElem?_eq_getElem (by omega)⟩
   obtain ⟨vv, hvv, hvr⟩ := hvx j x hx
   obtain ⟨uu, huu, hur⟩ := huy j y hy
   have hvw := (hB.cell (p := ⟨vb, vo + j, none⟩) hvb).trans hvv
   have huw := (hB.cell (p := ⟨ub, uo + j, none⟩) hub).trans huu
   have hH := HH.out
   rw [sameB_step hx hy] at hH
   have hlt' : (j : Int) < (L : Int) := by omega
   have ewJ : IntKind.i64.wrap ((j : Int) + 1) = ((j + 1 : Nat) : Int) := by rw [IntWalk.i64_in _ (by omega)]; omega
   have cE := equalIns_any x y vv uu wr (hvr.below hB) (hur.below hB) (hS.each x (List.mem_of_getElem? hx)).1 (hT.each y (List.mem_of_getElem? hy)).1
   obtain ⟨E, hE⟩ : ∃ E, sameL x y = E := ⟨_, rfl⟩
   rw [hE] at cE hH
   have HH2 := Lib.hid hH
   clear hvx huy hL hM hx hy hH hE HH hS hT hvv huu hvr hur hI hJ
   go_wp2_with fail
   refine cE.mono ?_; rintro e w2 ⟨rfl, hb2⟩
   clear cE
   cases E
   ·have hV : false = V := HH2.out
    subst hV
    go_wp2
    go_ret; exact Ret.mk' rfl (after hB hb2)
   ·go_wp2
    go_roundw
    case rel => exact ⟨j + 1, rfl, by omega, HH2.out, after hB hb2⟩
    case measure => simp [intOf]; omega
  ·have hLj : L = j := by omega
   subst hLj
   have hH := HH.out
   rw [List.drop_eq_nil_of_le (by rw [HI.out.2.2.1]; exact Nat.le_refl _), List.drop_eq_nil_of_le (by rw [HI.out.2.2.2.1]; exact Nat.le_refl _)] at hH
   have hV : true = V := hH
   subst hV
   go_wp2
   go_ret; exact Ret.mk' rfl hB
theorem codeSame_any (c d : CodeD) (ga ga' ha ha' : Option Addr) (gc gc' hc hc' : Nat) (w : World) (hI : CodeIn w ga gc ha hc c) (hJ : CodeIn w ga' gc' ha' hc' d) (hS : CodeSm c) (hT : CodeSm d) : Calls prog 19 #[codeV ga gc ha hc c, codeV ga' gc' ha' hc' d] w (Ret (.bool (sameC c d)) w) := by
 have cF := fun W (h : Below w.heap.size w W) => equalFunc_any c d ga ga' ha ha' gc gc' hc hc' W (hI.below h) (hJ.below h) hS hT
 have cN := fun W (h : Below w.heap.size w W) => eqNames_any ha ha' hc hc' c.params d.params W (hI.pars.below h) (hJ.pars.below h) hS.params hT.params
 unfold sameC
 generalize sameB c.blocks d.blocks = A at *
 generalize (c.params == d.params) = B at *
 unfold codeV
 clear hI hJ hS hT
 cases A
 ·clear cN
  go_enter func19, ntmps19
  go_wp2_with fail
  refine (cF _ belx).mono ?_; rintro e w2 ⟨rfl, hb2⟩
  go_wp2
  go_ret; exact Ret.mk' rfl belx
 ·go_enter func19, ntmps19
  go_upto_region 1 with (fail)
  refine wp_abs2 (fun W => Below w.heap.size w W /\ W.heap[w.heap.size]? = some (.cells #[.slice ga c.blocks.length gc, .slice ha c.params.length hc] 35 (0, 0)) /\ W.heap[w.heap.size + 1]? = some (.cells #[.slice ga' d.blocks.length gc', .slice ha' d.params.length hc'] 35 (0, 0))) ⟨belx, heap_alloc2_old _ _ _, heap_alloc2_new _ _ _⟩ ?_
  rintro w1 ⟨hb1, q1, r1⟩
  obtain ⟨f1, -, z1⟩ := lie_cell q1
  obtain ⟨g1, -, y1⟩ := lie_cell r1
  go_wp2_with fail
  refine (cF w1 hb1).mono ?_; rintro e w2 ⟨rfl, hb2⟩
  have q2 := (hb2.block _ z1).trans q1
  have r2 := (hb2.block _ y1).trans r1
  have hb02 := after hb1 hb2
  clear f1 g1 q1 r1 cF
  obtain ⟨f2, -, z2⟩ := lie_cell q2
  obtain ⟨g2, -, y2⟩ := lie_cell r2
  go_wp2_with fail
  refine (cN w2 hb02).mono ?_; rintro e w3 ⟨rfl, hb3⟩
  go_wp2
  go_ret; exact Ret.mk' (by simp) (after hb02 hb3)
end Go.Proofs.YtlpgigdegnbkmaaGreatDoor
