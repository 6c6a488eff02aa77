import Derived.Test.YtlpgigdegnbkmaaGreatDoorN05
set_option maxRecDepth 100000
set_option maxHeartbeats 8000000
namespace Tab
theorem sum_take (g : NodeD -> Nat) : ∀ (L : List NodeD) (m : Nat), ((L.take m).map g).sum <= (L.map g).sum
 | [], m => by simp
 | _ :: _, 0 => Nat.zero_le _
 | k :: L, m + 1 => by
  rw [List.take_succ_cons, List.map_cons, List.map_cons, List.sum_cons, List.sum_cons]
  have := sum_take g L m; omega
def overT (k : Int) (s : Bs) (L : List NodeD) : NodeD := .mk k s 0 0 false 0 RefD.zero RefD.zero 0 L
def numT' (M E : Int) : NodeD := .mk 1 [] M E false 0 RefD.zero RefD.zero 0 []
theorem over_nice {k : Int} {s : Bs} {L : List NodeD} {S : Nat} (m : Nat) (hS : ∀ g, (L.map (cntN g)).sum <= S) (hN : ∀ k ∈ L, ∃ d, Nice d k) (ht : k = 7 \/ k = 12 \/ k = 14 \/ k = 16 -> s ∈ namesT) : Nice (S + 1) (overT k s (L.take m)) :=
 nice_of ht (fun g => Nat.le_trans (sum_take (cntN g) L m) (hS g)) fun x hx => hN x (List.mem_of_mem_take hx)
end Tab
namespace Go.Proofs.YtlpgigdegnbkmaaGreatDoor
open Go.RowKit Tab Tryz
theorem snoc_kidsQ {Q : Nat -> Prop} {B f : Nat} {w : World} {v : Value} {css : List (List Value)} {L : List NodeD} {cs : List Value} {n : NodeD} (h1 : w.ownsRow B 30 20 v (L.length + 1) (css.flatten ++ cs)) (hl : css.length = L.length) (hQ : ∀ b, B <= b -> Q b) (hn : ∀ (i : Nat) (cs : List Value) (k : NodeD), css[i]? = some cs -> L[i]? = some k -> NodeQ Q f w cs k) (hx : NodeQ Q f w cs n) : ∃ a c, v = .slice a (L.length + 1) c /\ L.length + 1 <= c /\ KidsQ Q f w a (L ++ [n]) := by
 have h := own_kidsQ (L := L ++ [n]) (css := css ++ [cs]) (Q := Q) (f := f) (B := B) (w := w) (v := v) (by simpa using h1) (by simp [hl]) hQ (fun i c k h1 h2 => by
  rcases Nat.lt_or_ge i css.length with h | h
  ·rw [List.getElem?_append_left h] at h1
   rw [List.getElem?_append_left (by omega)] at h2
   exact hn i c k h1 h2
  ·rw [List.getElem?_append_right h] at h1
   rw [List.getElem?_append_right (by omega)] at h2
   have e1 := List.mem_singleton.1 (List.mem_of_getElem? h1)
   have e2 := List.mem_singleton.1 (List.mem_of_getElem? h2)
   subst e1 e2
   exact hx)
 simpa using h
theorem over_q {Q : Nat -> Prop} {f c : Nat} {w : World} {a : Option Addr} {L : List NodeD} (k : Int) (s : Bs) (m : Nat) (hK : KidsQ Q f w a L) (hm : m <= L.length) (hc : m <= c) (hl : L.length <= 1000) (hs : s.length <= 1000) : NodeQ Q (f + 1) w (nodeC (overT k s (L.take m)) (.slice a m c)) (overT k s (L.take m)) := by
 have h : (L.take m).length = m := by rw [List.length_take]; omega
 have := node_q (n := overT k s (L.take m)) (c := c) (f := f) (w := w) (a := a) (Q := Q) ⟨(by decide : (-9000000000000000000 : Int) <= 0 /\ (0 : Int) <= 9000000000000000000), hs, (by show (L.take m).length <= 1000; omega), (by decide : (0 : Int) <= 9223372036854775807), zero_sz, zero_sz⟩ (hK.take m) (by show (L.take m).length <= c; omega)
 rwa [show (overT k s (L.take m)).kids.length = m from h] at this
theorem step_run {P : Program} {w : World} {ops : Array Oper} {o : Oper} {a : Act} {K : Act -> World -> Prop} {Q : Exit -> Act -> World -> Prop} {E : Prop} (hg : o.guard = none) (v : Value) (w' : World) (h : (execOp a.eval o).run P w = .ok (.value v) w') (k : K (a.put o.dst v) w') : if Region.wanted o (yielded ops a.tmps) = true then Oper.wp P o a w K Q else E := by
 rw [if_pos (by simp [Region.wanted, hg])]
 unfold Oper.wp
 rw [h]
 exact k
theorem run_wp {P : Program} {w : World} {o : Oper} {a : Act} {K : Act -> World -> Prop} {Q : Exit -> Act -> World -> Prop} (v : Value) (w' : World) (h : (execOp a.eval o).run P w = .ok (.value v) w') (k : K (a.put o.dst v) w') : o.wp P a w K Q := by
 unfold Oper.wp
 rw [h]
 exact k
theorem NodeQ.kept_cells {Q : Nat -> Prop} {f B : Nat} {W : World} {ds : List Value} {n : NodeD} (h : NodeQ (fun b => Q b /\ b ≠ B) f W ds n) (cs : List Value) : NodeQ Q f (W.setCells B 0 cs) ds n :=
 (h.kept (below_cells2 (Nat.zero_le _) cs 0 W (Below.refl 0 W)).size (fun _ _ hq => cells_other hq.2 cs 0 W)).mono fun _ _ hq => hq.1
theorem KidsQ.mono {Q S : Nat -> Prop} {f : Nat} {w : World} {a : Option Addr} {L : List NodeD} (h : KidsQ Q f w a L) (hq : ∀ b, b < w.heap.size -> Q b -> S b) : KidsQ S f w a L :=
 ⟨fun p hp => ⟨hq _ (h.1 p hp).2 (h.1 p hp).1, (h.1 p hp).2⟩, kidsAt_imp h.2 fun _ _ h => h.mono hq⟩
def tabF (B b : Nat) (C : Array Value) (T : TypeId) (m : Nat) (n : Int) (k : Nat) (V : Bs) (s6 s7 s8 : Value) : Nat -> Value -> World -> Prop
 | 0, v, W => ∃ g, v = .slice (some ⟨g, 0, none⟩) m m /\ B <= g /\ W.heap[g]? = some (.cells C T (0, 0))
 | 1, v, _ => v = .pointer (some ⟨b, 2, none⟩)
 | 2, v, _ => v = .int .i64 n
 | 3, v, _ => v = .int .i64 (k : Int)
 | 4, v, W => ∃ g, v = .pointer (some ⟨g, k, none⟩) /\ W.heap[g]? = some (.cells C T (0, 0))
 | 5, v, _ => v = .string ⟨V.toArray⟩
 | 6, v, _ => v = s6
 | 7, v, _ => v = s7
 | 8, v, _ => v = s8
 | _, _, _ => True
theorem tabF_mono (B b : Nat) (C : Array Value) (T : TypeId) (m : Nat) (n : Int) (k : Nat) (V : Bs) (s6 s7 s8 : Value) : ∀ i v w w', tabF B b C T m n k V s6 s7 s8 i v w -> Below w.heap.size w w' -> tabF B b C T m n k V s6 s7 s8 i v w' := fun i v w w' h hb => by
 match i, h with
 | 0, ⟨g, h1, h2, h3⟩ => exact ⟨g, h1, h2, kq hb h3⟩
 | 1, h => exact h
 | 2, h => exact h
 | 3, h => exact h
 | 4, ⟨g, h1, h3⟩ => exact ⟨g, h1, kq hb h3⟩
 | 5, h => exact h
 | 6, h => exact h
 | 7, h => exact h
 | 8, h => exact h
 | _ + 9, _ => exact trivial
theorem treeOver_any (x : RawD) (hx : RawOk x) (Q : Nat -> Prop) (f S : Nat) (L : List NodeD) (a : Option Addr) (c : Nat) (w : World) (hL : KidsQ Q f w a L) (hQ : ∀ b, w.heap.size <= b -> Q b) (h1 : 1 <= L.length) (h13 : L.length <= 13) (hc : L.length <= c) (hS : ∀ g, (L.map (cntN g)).sum <= S) (hN : ∀ k ∈ L, ∃ d, Nice d k) : Calls prog 40 #[.agg (rawC x).toArray, .slice a L.length c] w (fun e W => ∃ n cs, e = .returned (.agg cs.toArray) /\ NodeQ Q (f + 1) W cs n /\ Nice (S + 2) n /\ Below w.heap.size w W) := by
 replace hL : KidsQ (fun b => Q b /\ b ≠ w.heap.size + 1) f w a L := hL.mono fun b hb hq => ⟨hq, by omega⟩
 replace hQ : ∀ b, w.heap.size + 2 <= b -> Q b /\ b ≠ w.heap.size + 1 := fun b h => ⟨hQ b (by omega), by omega⟩
 obtain ⟨ad, css, rfl, hab, hcl, hfl, hcells, hone, hcss⟩ := hL.cells (by intro e; rw [e] at h1; simp at h1)
 have hadl := (hL.1 ad rfl).2
 have cM := fun W => treeNum_any x.n W hx.n
 have cP := fun W => pick5_any x.kind 10 W hx.kind (by omega) (by omega)
 have cI := fun (m : Int) W h1 h2 => pick5_any x.n m W hx.n h1 h2
 have hP : pickI x.kind 10 = 0 \/ pickI x.kind 10 = 1 \/ pickI x.kind 10 = 2 \/ pickI x.kind 10 = 3 \/ pickI x.kind 10 = 4 \/ pickI x.kind 10 = 5 \/ 6 <= pickI x.kind 10 := by
  have := pickI_range x.kind 10 (by omega); omega
 generalize pickI x.kind 10 = K at *
 have hf : f ≠ 0 := fun e => by
  subst e
  exact hcss 0 _ _ (List.getElem?_eq_getElem (by omega)) (List.getElem?_eq_getElem (by omega))
 obtain ⟨iN, hi, hz0, hzs, hzb⟩ := info_parts infoNode
 have HI := Lib.hid (And.intro hi (And.intro hz0 (And.intro hzs hzb)))
 clear hi hz0 hzs hzb hx
 go_enter func40, ntmps40
 go_upto_region 1 with (fail)
 refine wp_abs2 (fun W => Below w.heap.size w W /\ W.heap[w.heap.size]? = some (.cells (rawC x).toArray 97 (0, 0)) /\ W.heap[w.heap.size + 1]? = some (.cells zeroN 30 (0, 0))) ⟨belx, heap_alloc2_old _ _ _, heap_alloc2_new _ _ _⟩ ?_
 rintro w1 ⟨hb, q, r⟩
 go_cut [5] from 14 (fun v W => ∃ (M E : Int) (a2 : Option Addr) (c2 : Nat), v = .slice a2 (L.length + 1) c2 /\ L.length + 1 <= c2 /\ KidsQ (fun b => Q b /\ b ≠ w.heap.size + 1) f W a2 (L ++ [numT' M E]) /\ Below w.heap.size w W /\ W.heap[w.heap.size]? = some (.cells (rawC x).toArray 97 (0, 0)) /\ W.heap[w.heap.size + 1]? = some (.cells zeroN 30 (0, 0)))
 case first =>
  refine wp_region_held_drew (S := fun w' => w'.cell? ⟨w.heap.size, 2, none⟩ = some (.int .i64 x.n)) (by kernel_rfl) ((lie_cell q).1 2) (fun hHeld => ?_)
  replace hb : Below w.heap.size w w1.drew := drewB hb
  replace q : w1.drew.heap[w.heap.size]? = some (.cells (rawC x).toArray 97 (0, 0)) := q
  replace r : w1.drew.heap[w.heap.size + 1]? = some (.cells zeroN 30 (0, 0)) := r
  generalize w1.drew = wd at *
  refine tk 0 hHeld ?_
  refine tk 2 hHeld ?_
  refine tk 3 hHeld ?_
  refine ar 1 fun K1 hK1 => ?_
  refine step_append_own rfl (.const (.slice none 0 0)) (.tmp 6) 28 rfl (w.heap.size + 2) 30 iN (.agg zeroN) 20 168 underlying28 HI.out.1 HI.out.2.1 HI.out.2.2.1 HI.out.2.2.2 rfl (by decide) (.slice none 0 0) 0 [] rfl ⟨rfl, .inl ⟨rfl, rfl⟩⟩ ad L.length c css.flatten rfl hfl (fun j u hj => (hb.cell (p := ad.add j) (by rw [hab]; exact hadl)).trans (hcells j u hj)) hone (by unfold maxLen; omega) (by omega) (heap_in r) ?_
  intro v1 wa own hg _
  simp only [Nat.zero_add, List.nil_append] at own
  have hx : Below wd.heap.size wd wa := (Below.refl _ _).grown hg (Nat.le_refl _) (fun k hk => by cases hk)
  replace q := kq hx q
  replace r := kq hx r
  replace hb := after hb hx
  clear hx
  clear hg
  refine hK1.out _ _ ((lie_cell q).1 2) (fun hHeld => ?_)
  clear hK1 K1
  refine ar 4 fun K1 hK1 => ?_
  go_simp
  refine (cM _).mono ?_; rintro e wn ⟨M, E, rfl, hx, hM⟩
  dsimp only
  replace q := kq hx q
  replace r := kq hx r
  replace own := own_below own hx
  replace hb := after hb hx
  clear hx
  refine hK1.out _ _ ((lie_cell q).1 2) (fun hHeld => ?_)
  clear hK1 K1
  refine wpAnyH_take (i := 5) (oi := _) (v := .agg (nodeC (numT' M E) (.slice none 0 0)).toArray) rfl (by kernel_rfl) (by kernel_rfl) (by kernel_rfl) (fun _ _ _ h => h) (Or.inl ⟨by rfl, fun w' _ => by kernel_rfl⟩) hHeld ?_
  simp only [List.getElem_toArray, List.getElem_cons_succ, List.getElem_cons_zero, Act.put, List.setIfInBounds_toArray, List.set_cons_zero, List.set_cons_succ]
  refine ar 6 fun K1 hK1 => ?_
  refine step_run rfl (.slice (some ⟨wn.heap.size, 0, none⟩) 1 1) (wn.alloc (.cells (nodeC (numT' M E) (.slice none 0 0)).toArray 30)) (by kernel_rfl) ?_
  simp only [Act.put, List.setIfInBounds_toArray]
  obtain ⟨ws, hws, hx, qs⟩ : ∃ ws, wn.alloc (.cells (nodeC (numT' M E) (.slice none 0 0)).toArray 30) = ws /\ Below wn.heap.size wn ws /\ ws.heap[wn.heap.size]? = some (.cells (nodeC (numT' M E) (.slice none 0 0)).toArray 30 (0, 0)) := ⟨_, rfl, allocB (Below.refl _ _), heap_alloc_new _ _⟩
  rw [hws]
  clear hws
  replace q := kq hx q
  replace r := kq hx r
  replace own := own_below own hx
  replace hb := after hb hx
  clear hx
  refine hK1.out _ _ ((lie_cell q).1 2) (fun hHeld => ?_)
  clear hK1 K1
  generalize wn.heap.size = bs at *
  refine ar 7 fun K1 hK1 => ?_
  refine step_append_own rfl (.tmp 7) (.tmp 12) 28 rfl (w.heap.size + 2) 30 iN (.agg zeroN) 20 168 underlying28 HI.out.1 HI.out.2.1 HI.out.2.2.1 HI.out.2.2.2 rfl (by decide) v1 L.length css.flatten rfl own ⟨bs, 0, none⟩ 1 1 (nodeC (numT' M E) (.slice none 0 0)) rfl rfl (fun j u hj => by rw [Addr.add_mid, Nat.zero_add, (lie_cell qs).1 j]; simpa using hj) (nodeC_each _ _ _ _) (by unfold maxLen; omega) (by omega) (heap_in r) ?_
  intro v2 we own2 hg _
  have hbe : Below w.heap.size w we := hb.grown hg hb.size (fun k hk => by have := (own_type own hk).1; omega)
  have qe := (hg.block _ (heap_in q) (fun e => by have := (own_type own e.symm).1; omega)).trans q
  have re := (hg.block _ (heap_in r) (fun e => by have := (own_type own e.symm).1; omega)).trans r
  obtain ⟨a2, c2, rfl, hc2, hk2⟩ := snoc_kidsQ own2 hcl hQ (fun i cs k h1 h2 => (hcss i cs k h1 h2).below hbe) (n := numT' M E) (by
   obtain ⟨f', rfl⟩ : ∃ f', f = f' + 1 := ⟨f - 1, by omega⟩
   exact node_leafQ rfl (leaf_smT (by decide) (by omega) zero_sz zero_sz))
  clear hg own own2 qs hb q r
  refine hK1.out _ _ ((lie_cell qe).1 2) (fun hHeld => ?_)
  clear hK1 K1
  refine tk 8 hHeld ?_
  refine wpAnyH_done (by kernel_rfl) ?_ _
  go_wp2
  go_meet
  exact ⟨M, E, a2, c2, rfl, hc2, hk2, hbe, qe, re⟩
 case rest =>
  obtain ⟨M, E, a2, c2, rfl, hc2, hk2, hb, q, r⟩ := hcut
  replace hL := hL.below hb
  have hQ2 : ∀ g, ((L ++ [numT' M E]).map (cntN g)).sum <= S + 1 := fun g => by
   rw [List.map_append, List.sum_append]
   have h1 := hS g
   have h2 : ([numT' M E].map (cntN g)).sum <= 1 := by
    cases g with
    | zero => exact Nat.zero_le _
    | succ g => exact Nat.le_refl _
   omega
  have hN2 : ∀ k ∈ L ++ [numT' M E], ∃ d, Nice d k := fun k hk => by
   rcases List.mem_append.1 hk with h | h
   ·exact hN k h
   ·rw [List.mem_singleton.1 h]; exact ⟨1, leaf_nice (by decide)⟩
  have hl2 : (L ++ [numT' M E]).length = L.length + 1 := by simp
  clear cM hcss hcells hone hfl hcl hQ HI
  obtain ⟨ft, -, z⟩ := lie_cell q
  have c0 : wc.cell? ⟨w.heap.size, 0, none⟩ = some (.int .i64 x.kind) := ft 0
  have c2' : wc.cell? ⟨w.heap.size, 2, none⟩ = some (.int .i64 x.n) := ft 2
  have hraw := ft
  clear ft
  have hc1 : (1 : Int) <= (c : Int) := by omega
  have hc22 : (2 : Int) <= (c2 : Int) := by omega
  go_wp2_with fail
  refine (cP _).mono ?_; rintro e w7 ⟨rfl, rfl⟩
  clear cP c0
  rcases hP with rfl | rfl | rfl | rfl | rfl | rfl | hK
  ·
   obtain ⟨k, hk, hk'⟩ := pick_nat x.n 2 (by decide)
   rw [show ((2 : Nat) : Int) = 2 from rfl] at hk
   have hkI : (k : Int) < 2 := by omega
   have cQ := fun W => cI 2 W (by omega) (by omega)
   rw [hk] at cQ
   obtain ⟨V, hV, hVl, hVT⟩ : ∃ V : Bs, ([[45], [43]] : List Bs)[k]? = some V /\ V.length <= 10 /\ True := ⟨([[45], [43]] : List Bs)[k]'hk', List.getElem?_eq_getElem hk', (by decide : ∀ x ∈ ([[45], [43]] : List Bs), x.length <= 10) _ (List.getElem_mem _), trivial⟩
   replace hV := str_at2 hV
   go_upto_region 4 with (fail)
   refine wp_region_typed 9 (.store 30 (.tmp 4) (.tmp 27)) none (tabF (w.heap.size + 2) w.heap.size (([[45], [43]] : List Bs).map fun x => Value.string ⟨x.toArray⟩).toArray 9 2 x.n k V (.slice (some ad) L.length c) (.slice (some ad) 1 c) (.agg (nodeC (overT 10 V (L.take 1)) (.slice (some ad) 1 c)).toArray)) (fun W => Below wc.heap.size wc W) (by kernel_rfl) rfl (by kernel_rfl) (by kernel_rfl) (by kernel_rfl) (tabF_mono _ _ _ _ _ _ _ _ _ _ _) (fun W W' h hb => after h hb) (drewB (Below.refl _ _)) ?_ ?_
   ·simp only [Typ, List.take_succ_cons, List.take_zero]
    refine ⟨?_, ?_, ?_, ?_, ?_, ?_, ?_, ?_, ?_, trivial⟩ <;> intro u W hs hd K hK <;> simp only [putAll, Act.put, List.setIfInBounds_toArray, List.set_cons_zero, List.set_cons_succ] at hK ⊢
    ·exact run_wp (.slice (some ⟨W.heap.size, 0, none⟩) 2 2) (W.alloc (.cells (([[45], [43]] : List Bs).map fun x => Value.string ⟨x.toArray⟩).toArray 9)) (by kernel_rfl) (hK.out _ _ _ rfl ⟨_, rfl, heap_in (kq hs r), heap_alloc_new _ _⟩ (allocB (Below.refl _ _)))
    ·exact run_wp (.pointer (some ⟨w.heap.size, 2, none⟩)) W (by kernel_rfl) (hK.out _ _ _ rfl rfl (Below.refl _ _))
    ·have h1 : u 1 = _ := hd ⟨1, .data⟩ (by simp) rfl
     have cc : W.cell? ⟨w.heap.size, 2, none⟩ = some (.int .i64 x.n) := (lie_cell (kq hs q)).1 2
     rw [h1] at hK ⊢
     go_simp
     exact hK.out _ _ _ rfl rfl (Below.refl _ _)
    ·have h2 : u 2 = _ := hd ⟨2, .data⟩ (by simp) rfl
     rw [h2] at hK ⊢
     go_simp
     refine (cQ _).mono ?_; rintro e W' ⟨rfl, rfl⟩
     exact hK.out _ _ _ rfl rfl (Below.refl _ _)
    ·obtain ⟨b, h0, hb0, hbk⟩ := hd ⟨0, .data⟩ (by simp) rfl
     have h3 : u 3 = _ := hd ⟨3, .data⟩ (by simp) rfl
     rw [h0, h3] at hK ⊢
     go_simp
     exact hK.out _ _ _ rfl ⟨b, rfl, hbk⟩ (Below.refl _ _)
    ·obtain ⟨b, h4, hbk⟩ := hd ⟨4, .data⟩ (by simp) rfl
     have hcc := ((lie_cell hbk).1 k).trans hV
     rw [h4] at hK ⊢
     go_simp
     exact hK.out _ _ _ rfl rfl (Below.refl _ _)
    ·exact run_wp (.slice (some ad) L.length c) W (by kernel_rfl) (hK.out _ _ _ rfl rfl (Below.refl _ _))
    ·have h6 : u 6 = _ := hd ⟨6, .data⟩ (by simp) rfl
     rw [h6] at hK ⊢
     go_simp
     exact hK.out _ _ _ rfl rfl (Below.refl _ _)
    ·have h5 : u 5 = _ := hd ⟨5, .data⟩ (by simp) rfl
     have h7 : u 7 = _ := hd ⟨7, .data⟩ (by simp) rfl
     rw [h5, h7] at hK ⊢
     exact run_wp (.agg (nodeC (overT 10 V (L.take 1)) (.slice (some ad) 1 c)).toArray) W (by kernel_rfl) (hK.out _ _ _ rfl rfl (Below.refl _ _))
   ·intro u W hs hd o ho hod K hK
    replace r := kq hs r
    replace hb := after hb hs
    have h8 : u 8 = _ := hd 8 (by decide)
    simp only [putAll, List.take_succ_cons, List.take_zero, Act.put, List.setIfInBounds_toArray, List.set_cons_zero, List.set_cons_succ] at hK ⊢
    rw [h8]
    refine wp_store_mid 30 (.tmp 4) (.tmp 27) ho (w.heap.size + 1) 0 (nodeC (overT 10 V (L.take 1)) (.slice (some ad) 1 c)).toArray rfl rfl (whole_there r rfl) cellsNode (nodeC_one _ _ _ _) ?_
    rw [hod]
    refine hK.out _ _ ?_
    clear hK hd h8 ho hod
    have HT := Lib.hid (And.intro (below_cells2 (Nat.le_succ _) (nodeC (overT 10 V (L.take 1)) (.slice (some ad) 1 c)) 0 _ hb) (And.intro (box_whole (cs := nodeC (overT 10 V (L.take 1)) (.slice (some ad) 1 c)) r rfl) ((over_q (c := c) 10 V 1 (hL.below hs) (by omega) (by omega) (by omega) (by omega)).kept_cells (nodeC (overT 10 V (L.take 1)) (.slice (some ad) 1 c)))))
    generalize W.setCells (w.heap.size + 1) 0 (nodeC (overT 10 V (L.take 1)) (.slice (some ad) 1 c)) = WE at *
    go_wp2
    exact bodyPost_ret (results_cell_row rfl _ _ (w.heap.size + 1) 30 (nodeC (overT 10 V (L.take 1)) (.slice (some ad) 1 c)).toArray (0, 0) _ rfl HT.out.2.1 underlying30 rfl cellsNode) rfl ⟨_, _, rfl, HT.out.2.2, ((over_nice 1 hS hN ((fun h => absurd h (by decide)))).mono (by omega)), HT.out.1⟩
  ·
   go_upto_region 6 with (fail)
   refine wp_region_lit ?_
   iterate 2 refine st ?_
   refine wr (.agg (nodeC (overT 11 [37] (L.take 1)) (.slice (some ad) 1 c)).toArray) wc ?_
   refine wpList_store_mid rfl 30 (.tmp 4) (.tmp 32) rfl (w.heap.size + 1) 0 (nodeC (overT 11 [37] (L.take 1)) (.slice (some ad) 1 c)).toArray rfl rfl (whole_there r rfl) cellsNode (nodeC_one _ _ _ _) ?_
   refine wpList_abs (fun W => Below w.heap.size w W /\ W.heap[w.heap.size + 1]? = some (.cells (nodeC (overT 11 [37] (L.take 1)) (.slice (some ad) 1 c)).toArray 30 (0, 0)) /\ NodeQ Q (f + 1) W (nodeC (overT 11 [37] (L.take 1)) (.slice (some ad) 1 c)) (overT 11 [37] (L.take 1))) ⟨below_cells2 (Nat.le_succ _) _ _ _ hb, box_whole r rfl, (over_q (c := c) 11 [37] 1 (hL) (by omega) (by omega) (by omega) (by decide)).kept_cells _⟩ ?_
   rintro wE ⟨hbE, rE, nE⟩
   refine wpList_nil ?_
   have HT := Lib.hid (And.intro hbE (And.intro rE nE))
   clear hb r hbE rE nE
   go_wp2
   exact bodyPost_ret (results_cell_row rfl _ _ (w.heap.size + 1) 30 (nodeC (overT 11 [37] (L.take 1)) (.slice (some ad) 1 c)).toArray (0, 0) _ rfl HT.out.2.1 underlying30 rfl cellsNode) rfl ⟨_, _, rfl, HT.out.2.2, ((over_nice 1 hS hN ((fun h => absurd h (by decide)))).mono (by omega)), HT.out.1⟩
  ·
   go_upto_region 8 with (fail)
   refine wp_region_lit ?_
   obtain ⟨k, hk, hk'⟩ := pick_nat x.n 6 (by decide)
   rw [show ((6 : Nat) : Int) = 6 from rfl] at hk
   have hkI : (k : Int) < 6 := by omega
   have cQ := fun W => cI 6 W (by omega) (by omega)
   rw [hk] at cQ
   obtain ⟨V, hV, hVl, hVT⟩ : ∃ V : Bs, ([[83, 85, 77], [73, 70], [70], [77, 65, 88], [76, 79, 71, 49, 48], [65, 49]] : List Bs)[k]? = some V /\ V.length <= 10 /\ V ∈ namesT := ⟨([[83, 85, 77], [73, 70], [70], [77, 65, 88], [76, 79, 71, 49, 48], [65, 49]] : List Bs)[k]'hk', List.getElem?_eq_getElem hk', (by decide : ∀ x ∈ ([[83, 85, 77], [73, 70], [70], [77, 65, 88], [76, 79, 71, 49, 48], [65, 49]] : List Bs), x.length <= 10) _ (List.getElem_mem _), (by decide : ∀ x ∈ ([[83, 85, 77], [73, 70], [70], [77, 65, 88], [76, 79, 71, 49, 48], [65, 49]] : List Bs), x ∈ namesT) _ (List.getElem_mem _)⟩
   replace hV := str_at2 hV
   refine mrw 6 9 ((([[83, 85, 77], [73, 70], [70], [77, 65, 88], [76, 79, 71, 49, 48], [65, 49]] : List Bs).map fun x => Value.string ⟨x.toArray⟩).toArray) ?_
   rintro w8 ⟨hx, qt⟩
   replace c2' := (hx.cell (p := ⟨w.heap.size, 2, none⟩) z).trans c2'
   replace z := Nat.lt_of_lt_of_le z hx.size
   replace r := kq hx r
   replace hb := after hb hx
   replace hL := hL.below hx
   obtain ⟨ft, -, zt⟩ := lie_cell qt
   have hc8 := (ft k).trans hV
   clear ft qt hx
   iterate 2 refine st ?_
   refine wpList_enter 38 #[.int .i64 x.n, .int .i64 6] (by kernel_rfl) (by kernel_rfl) _ (cQ w8) ?_
   rintro e W ⟨rfl, rfl⟩
   refine ⟨_, rfl, ?_⟩
   iterate 3 refine st ?_
   refine wr (.agg (nodeC (overT 12 V (L.take L.length)) (.slice (some ad) L.length c)).toArray) w8 ?_
   refine wpList_store_mid rfl 30 (.tmp 4) (.tmp 42) rfl (w.heap.size + 1) 0 (nodeC (overT 12 V (L.take L.length)) (.slice (some ad) L.length c)).toArray rfl rfl (whole_there r rfl) cellsNode (nodeC_one _ _ _ _) ?_
   refine wpList_abs (fun W => Below w.heap.size w W /\ W.heap[w.heap.size + 1]? = some (.cells (nodeC (overT 12 V (L.take L.length)) (.slice (some ad) L.length c)).toArray 30 (0, 0)) /\ NodeQ Q (f + 1) W (nodeC (overT 12 V (L.take L.length)) (.slice (some ad) L.length c)) (overT 12 V (L.take L.length))) ⟨below_cells2 (Nat.le_succ _) _ _ _ hb, box_whole r rfl, (over_q (c := c) 12 V L.length (hL) (by omega) (by omega) (by omega) (by omega)).kept_cells _⟩ ?_
   rintro wE ⟨hbE, rE, nE⟩
   refine wpList_nil ?_
   have HT := Lib.hid (And.intro hbE (And.intro rE nE))
   clear hb r hbE rE nE
   go_wp2
   exact bodyPost_ret (results_cell_row rfl _ _ (w.heap.size + 1) 30 (nodeC (overT 12 V (L.take L.length)) (.slice (some ad) L.length c)).toArray (0, 0) _ rfl HT.out.2.1 underlying30 rfl cellsNode) rfl ⟨_, _, rfl, HT.out.2.2, ((over_nice L.length hS hN ((fun _ => hVT))).mono (by omega)), HT.out.1⟩
  ·
   obtain ⟨k, hk, hk'⟩ := pick_nat x.n 3 (by decide)
   rw [show ((3 : Nat) : Int) = 3 from rfl] at hk
   have hkI : (k : Int) < 3 := by omega
   have cQ := fun W => cI 3 W (by omega) (by omega)
   rw [hk] at cQ
   obtain ⟨V, hV, hVl, hVT⟩ : ∃ V : Bs, ([[], [120], [121, 44, 102]] : List Bs)[k]? = some V /\ V.length <= 10 /\ V ∈ namesT := ⟨([[], [120], [121, 44, 102]] : List Bs)[k]'hk', List.getElem?_eq_getElem hk', (by decide : ∀ x ∈ ([[], [120], [121, 44, 102]] : List Bs), x.length <= 10) _ (List.getElem_mem _), (by decide : ∀ x ∈ ([[], [120], [121, 44, 102]] : List Bs), x ∈ namesT) _ (List.getElem_mem _)⟩
   replace hV := str_at2 hV
   go_upto_region 10 with (fail)
   refine wp_region_typed 9 (.store 30 (.tmp 4) (.tmp 53)) none (tabF (w.heap.size + 2) w.heap.size (([[], [120], [121, 44, 102]] : List Bs).map fun x => Value.string ⟨x.toArray⟩).toArray 9 3 x.n k V (.slice (some ad) L.length c) (.slice (some ad) 1 c) (.agg (nodeC (overT 14 V (L.take 1)) (.slice (some ad) 1 c)).toArray)) (fun W => Below wc.heap.size wc W) (by kernel_rfl) rfl (by kernel_rfl) (by kernel_rfl) (by kernel_rfl) (tabF_mono _ _ _ _ _ _ _ _ _ _ _) (fun W W' h hb => after h hb) (drewB (Below.refl _ _)) ?_ ?_
   ·simp only [Typ, List.take_succ_cons, List.take_zero]
    refine ⟨?_, ?_, ?_, ?_, ?_, ?_, ?_, ?_, ?_, trivial⟩ <;> intro u W hs hd K hK <;> simp only [putAll, Act.put, List.setIfInBounds_toArray, List.set_cons_zero, List.set_cons_succ] at hK ⊢
    ·exact run_wp (.slice (some ⟨W.heap.size, 0, none⟩) 3 3) (W.alloc (.cells (([[], [120], [121, 44, 102]] : List Bs).map fun x => Value.string ⟨x.toArray⟩).toArray 9)) (by kernel_rfl) (hK.out _ _ _ rfl ⟨_, rfl, heap_in (kq hs r), heap_alloc_new _ _⟩ (allocB (Below.refl _ _)))
    ·exact run_wp (.pointer (some ⟨w.heap.size, 2, none⟩)) W (by kernel_rfl) (hK.out _ _ _ rfl rfl (Below.refl _ _))
    ·have h1 : u 1 = _ := hd ⟨1, .data⟩ (by simp) rfl
     have cc : W.cell? ⟨w.heap.size, 2, none⟩ = some (.int .i64 x.n) := (lie_cell (kq hs q)).1 2
     rw [h1] at hK ⊢
     go_simp
     exact hK.out _ _ _ rfl rfl (Below.refl _ _)
    ·have h2 : u 2 = _ := hd ⟨2, .data⟩ (by simp) rfl
     rw [h2] at hK ⊢
     go_simp
     refine (cQ _).mono ?_; rintro e W' ⟨rfl, rfl⟩
     exact hK.out _ _ _ rfl rfl (Below.refl _ _)
    ·obtain ⟨b, h0, hb0, hbk⟩ := hd ⟨0, .data⟩ (by simp) rfl
     have h3 : u 3 = _ := hd ⟨3, .data⟩ (by simp) rfl
     rw [h0, h3] at hK ⊢
     go_simp
     exact hK.out _ _ _ rfl ⟨b, rfl, hbk⟩ (Below.refl _ _)
    ·obtain ⟨b, h4, hbk⟩ := hd ⟨4, .data⟩ (by simp) rfl
     have hcc := ((lie_cell hbk).1 k).trans hV
     rw [h4] at hK ⊢
     go_simp
     exact hK.out _ _ _ rfl rfl (Below.refl _ _)
    ·exact run_wp (.slice (some ad) L.length c) W (by kernel_rfl) (hK.out _ _ _ rfl rfl (Below.refl _ _))
    ·have h6 : u 6 = _ := hd ⟨6, .data⟩ (by simp) rfl
     rw [h6] at hK ⊢
     go_simp
     exact hK.out _ _ _ rfl rfl (Below.refl _ _)
    ·have h5 : u 5 = _ := hd ⟨5, .data⟩ (by simp) rfl
     have h7 : u 7 = _ := hd ⟨7, .data⟩ (by simp) rfl
     rw [h5, h7] at hK ⊢
     exact run_wp (.agg (nodeC (overT 14 V (L.take 1)) (.slice (some ad) 1 c)).toArray) W (by kernel_rfl) (hK.out _ _ _ rfl rfl (Below.refl _ _))
   ·intro u W hs hd o ho hod K hK
    replace r := kq hs r
    replace hb := after hb hs
    have h8 : u 8 = _ := hd 8 (by decide)
    simp only [putAll, List.take_succ_cons, List.take_zero, Act.put, List.setIfInBounds_toArray, List.set_cons_zero, List.set_cons_succ] at hK ⊢
    rw [h8]
    refine wp_store_mid 30 (.tmp 4) (.tmp 53) ho (w.heap.size + 1) 0 (nodeC (overT 14 V (L.take 1)) (.slice (some ad) 1 c)).toArray rfl rfl (whole_there r rfl) cellsNode (nodeC_one _ _ _ _) ?_
    rw [hod]
    refine hK.out _ _ ?_
    clear hK hd h8 ho hod
    have HT := Lib.hid (And.intro (below_cells2 (Nat.le_succ _) (nodeC (overT 14 V (L.take 1)) (.slice (some ad) 1 c)) 0 _ hb) (And.intro (box_whole (cs := nodeC (overT 14 V (L.take 1)) (.slice (some ad) 1 c)) r rfl) ((over_q (c := c) 14 V 1 (hL.below hs) (by omega) (by omega) (by omega) (by omega)).kept_cells (nodeC (overT 14 V (L.take 1)) (.slice (some ad) 1 c)))))
    generalize W.setCells (w.heap.size + 1) 0 (nodeC (overT 14 V (L.take 1)) (.slice (some ad) 1 c)) = WE at *
    go_wp2
    exact bodyPost_ret (results_cell_row rfl _ _ (w.heap.size + 1) 30 (nodeC (overT 14 V (L.take 1)) (.slice (some ad) 1 c)).toArray (0, 0) _ rfl HT.out.2.1 underlying30 rfl cellsNode) rfl ⟨_, _, rfl, HT.out.2.2, ((over_nice 1 hS hN (fun _ => hVT)).mono (by omega)), HT.out.1⟩
  ·
   go_upto_region 12 with (fail)
   refine wp_region_lit ?_
   iterate 1 refine st ?_
   refine wr (.agg (nodeC (overT 15 [] (L.take L.length)) (.slice (some ad) L.length c)).toArray) wc ?_
   refine wpList_store_mid rfl 30 (.tmp 4) (.tmp 57) rfl (w.heap.size + 1) 0 (nodeC (overT 15 [] (L.take L.length)) (.slice (some ad) L.length c)).toArray rfl rfl (whole_there r rfl) cellsNode (nodeC_one _ _ _ _) ?_
   refine wpList_abs (fun W => Below w.heap.size w W /\ W.heap[w.heap.size + 1]? = some (.cells (nodeC (overT 15 [] (L.take L.length)) (.slice (some ad) L.length c)).toArray 30 (0, 0)) /\ NodeQ Q (f + 1) W (nodeC (overT 15 [] (L.take L.length)) (.slice (some ad) L.length c)) (overT 15 [] (L.take L.length))) ⟨below_cells2 (Nat.le_succ _) _ _ _ hb, box_whole r rfl, (over_q (c := c) 15 [] L.length (hL) (by omega) (by omega) (by omega) (by decide)).kept_cells _⟩ ?_
   rintro wE ⟨hbE, rE, nE⟩
   refine wpList_nil ?_
   have HT := Lib.hid (And.intro hbE (And.intro rE nE))
   clear hb r hbE rE nE
   go_wp2
   exact bodyPost_ret (results_cell_row rfl _ _ (w.heap.size + 1) 30 (nodeC (overT 15 [] (L.take L.length)) (.slice (some ad) L.length c)).toArray (0, 0) _ rfl HT.out.2.1 underlying30 rfl cellsNode) rfl ⟨_, _, rfl, HT.out.2.2, ((over_nice L.length hS hN ((fun h => absurd h (by decide)))).mono (by omega)), HT.out.1⟩
  ·
   go_upto_region 14 with (fail)
   refine wp_region_lit ?_
   iterate 2 refine st ?_
   refine wr (.agg (nodeC (overT 16 [120] ((L ++ [numT' M E]).take 2)) (.slice a2 2 c2)).toArray) wc ?_
   refine wpList_store_mid rfl 30 (.tmp 4) (.tmp 62) rfl (w.heap.size + 1) 0 (nodeC (overT 16 [120] ((L ++ [numT' M E]).take 2)) (.slice a2 2 c2)).toArray rfl rfl (whole_there r rfl) cellsNode (nodeC_one _ _ _ _) ?_
   refine wpList_abs (fun W => Below w.heap.size w W /\ W.heap[w.heap.size + 1]? = some (.cells (nodeC (overT 16 [120] ((L ++ [numT' M E]).take 2)) (.slice a2 2 c2)).toArray 30 (0, 0)) /\ NodeQ Q (f + 1) W (nodeC (overT 16 [120] ((L ++ [numT' M E]).take 2)) (.slice a2 2 c2)) (overT 16 [120] ((L ++ [numT' M E]).take 2))) ⟨below_cells2 (Nat.le_succ _) _ _ _ hb, box_whole r rfl, (over_q (c := c2) 16 [120] 2 (hk2) (by rw [hl2]; omega) (by omega) (by rw [hl2]; omega) (by decide)).kept_cells _⟩ ?_
   rintro wE ⟨hbE, rE, nE⟩
   refine wpList_nil ?_
   have HT := Lib.hid (And.intro hbE (And.intro rE nE))
   clear hb r hbE rE nE
   go_wp2
   exact bodyPost_ret (results_cell_row rfl _ _ (w.heap.size + 1) 30 (nodeC (overT 16 [120] ((L ++ [numT' M E]).take 2)) (.slice a2 2 c2)).toArray (0, 0) _ rfl HT.out.2.1 underlying30 rfl cellsNode) rfl ⟨_, _, rfl, HT.out.2.2, (over_nice 2 hQ2 hN2 (fun _ => by decide)), HT.out.1⟩
  ·
   have e0 : (K == 0) = false := by rw [beq_eq_false_iff_ne]; omega
   have e1 : (K == 1) = false := by rw [beq_eq_false_iff_ne]; omega
   have e2 : (K == 2) = false := by rw [beq_eq_false_iff_ne]; omega
   have e3 : (K == 3) = false := by rw [beq_eq_false_iff_ne]; omega
   have e4 : (K == 4) = false := by rw [beq_eq_false_iff_ne]; omega
   have e5 : (K == 5) = false := by rw [beq_eq_false_iff_ne]; omega
   obtain ⟨k, hk, hk'⟩ := pick_nat x.n 12 (by decide)
   rw [show ((12 : Nat) : Int) = 12 from rfl] at hk
   have hkI : (k : Int) < 12 := by omega
   have cQ := fun W => cI 12 W (by omega) (by omega)
   rw [hk] at cQ
   obtain ⟨V, hV, hVl, hVT⟩ : ∃ V : Bs, ([[61], [60, 62], [60], [60, 61], [62], [62, 61], [38], [43], [45], [42], [47], [94]] : List Bs)[k]? = some V /\ V.length <= 10 /\ True := ⟨([[61], [60, 62], [60], [60, 61], [62], [62, 61], [38], [43], [45], [42], [47], [94]] : List Bs)[k]'hk', List.getElem?_eq_getElem hk', (by decide : ∀ x ∈ ([[61], [60, 62], [60], [60, 61], [62], [62, 61], [38], [43], [45], [42], [47], [94]] : List Bs), x.length <= 10) _ (List.getElem_mem _), trivial⟩
   replace hV := str_at2 hV
   go_upto_region 15 with (fail)
   refine wp_region_typed 9 (.store 30 (.tmp 4) (.tmp 71)) none (tabF (w.heap.size + 2) w.heap.size (([[61], [60, 62], [60], [60, 61], [62], [62, 61], [38], [43], [45], [42], [47], [94]] : List Bs).map fun x => Value.string ⟨x.toArray⟩).toArray 9 12 x.n k V (.slice a2 (L.length + 1) c2) (.slice a2 2 c2) (.agg (nodeC (overT 9 V ((L ++ [numT' M E]).take 2)) (.slice a2 2 c2)).toArray)) (fun W => Below wc.heap.size wc W) (by kernel_rfl) rfl (by kernel_rfl) (by kernel_rfl) (by kernel_rfl) (tabF_mono _ _ _ _ _ _ _ _ _ _ _) (fun W W' h hb => after h hb) (drewB (Below.refl _ _)) ?_ ?_
   ·simp only [Typ, List.take_succ_cons, List.take_zero]
    refine ⟨?_, ?_, ?_, ?_, ?_, ?_, ?_, ?_, ?_, trivial⟩ <;> intro u W hs hd K hK <;> simp only [putAll, Act.put, List.setIfInBounds_toArray, List.set_cons_zero, List.set_cons_succ] at hK ⊢
    ·exact run_wp (.slice (some ⟨W.heap.size, 0, none⟩) 12 12) (W.alloc (.cells (([[61], [60, 62], [60], [60, 61], [62], [62, 61], [38], [43], [45], [42], [47], [94]] : List Bs).map fun x => Value.string ⟨x.toArray⟩).toArray 9)) (by kernel_rfl) (hK.out _ _ _ rfl ⟨_, rfl, heap_in (kq hs r), heap_alloc_new _ _⟩ (allocB (Below.refl _ _)))
    ·exact run_wp (.pointer (some ⟨w.heap.size, 2, none⟩)) W (by kernel_rfl) (hK.out _ _ _ rfl rfl (Below.refl _ _))
    ·have h1 : u 1 = _ := hd ⟨1, .data⟩ (by simp) rfl
     have cc : W.cell? ⟨w.heap.size, 2, none⟩ = some (.int .i64 x.n) := (lie_cell (kq hs q)).1 2
     rw [h1] at hK ⊢
     go_simp
     exact hK.out _ _ _ rfl rfl (Below.refl _ _)
    ·have h2 : u 2 = _ := hd ⟨2, .data⟩ (by simp) rfl
     rw [h2] at hK ⊢
     go_simp
     refine (cQ _).mono ?_; rintro e W' ⟨rfl, rfl⟩
     exact hK.out _ _ _ rfl rfl (Below.refl _ _)
    ·obtain ⟨b, h0, hb0, hbk⟩ := hd ⟨0, .data⟩ (by simp) rfl
     have h3 : u 3 = _ := hd ⟨3, .data⟩ (by simp) rfl
     rw [h0, h3] at hK ⊢
     go_simp
     exact hK.out _ _ _ rfl ⟨b, rfl, hbk⟩ (Below.refl _ _)
    ·obtain ⟨b, h4, hbk⟩ := hd ⟨4, .data⟩ (by simp) rfl
     have hcc := ((lie_cell hbk).1 k).trans hV
     rw [h4] at hK ⊢
     go_simp
     exact hK.out _ _ _ rfl rfl (Below.refl _ _)
    ·exact run_wp (.slice a2 (L.length + 1) c2) W (by kernel_rfl) (hK.out _ _ _ rfl rfl (Below.refl _ _))
    ·have h6 : u 6 = _ := hd ⟨6, .data⟩ (by simp) rfl
     rw [h6] at hK ⊢
     go_simp
     exact hK.out _ _ _ rfl rfl (Below.refl _ _)
    ·have h5 : u 5 = _ := hd ⟨5, .data⟩ (by simp) rfl
     have h7 : u 7 = _ := hd ⟨7, .data⟩ (by simp) rfl
     rw [h5, h7] at hK ⊢
     exact run_wp (.agg (nodeC (overT 9 V ((L ++ [numT' M E]).take 2)) (.slice a2 2 c2)).toArray) W (by kernel_rfl) (hK.out _ _ _ rfl rfl (Below.refl _ _))
   ·intro u W hs hd o ho hod K hK
    replace r := kq hs r
    replace hb := after hb hs
    have h8 : u 8 = _ := hd 8 (by decide)
    simp only [putAll, List.take_succ_cons, List.take_zero, Act.put, List.setIfInBounds_toArray, List.set_cons_zero, List.set_cons_succ] at hK ⊢
    rw [h8]
    refine wp_store_mid 30 (.tmp 4) (.tmp 71) ho (w.heap.size + 1) 0 (nodeC (overT 9 V ((L ++ [numT' M E]).take 2)) (.slice a2 2 c2)).toArray rfl rfl (whole_there r rfl) cellsNode (nodeC_one _ _ _ _) ?_
    rw [hod]
    refine hK.out _ _ ?_
    clear hK hd h8 ho hod
    have HT := Lib.hid (And.intro (below_cells2 (Nat.le_succ _) (nodeC (overT 9 V ((L ++ [numT' M E]).take 2)) (.slice a2 2 c2)) 0 _ hb) (And.intro (box_whole (cs := nodeC (overT 9 V ((L ++ [numT' M E]).take 2)) (.slice a2 2 c2)) r rfl) ((over_q (c := c2) 9 V 2 (hk2.below hs) (by rw [hl2]; omega) (by omega) (by rw [hl2]; omega) (by omega)).kept_cells (nodeC (overT 9 V ((L ++ [numT' M E]).take 2)) (.slice a2 2 c2)))))
    generalize W.setCells (w.heap.size + 1) 0 (nodeC (overT 9 V ((L ++ [numT' M E]).take 2)) (.slice a2 2 c2)) = WE at *
    go_wp2
    exact bodyPost_ret (results_cell_row rfl _ _ (w.heap.size + 1) 30 (nodeC (overT 9 V ((L ++ [numT' M E]).take 2)) (.slice a2 2 c2)).toArray (0, 0) _ rfl HT.out.2.1 underlying30 rfl cellsNode) rfl ⟨_, _, rfl, HT.out.2.2, (over_nice 2 hQ2 hN2 ((fun h => absurd h (by decide)))), HT.out.1⟩
end Go.Proofs.YtlpgigdegnbkmaaGreatDoor
