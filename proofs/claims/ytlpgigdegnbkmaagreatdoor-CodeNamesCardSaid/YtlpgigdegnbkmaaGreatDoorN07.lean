import Derived.Test.YtlpgigdegnbkmaaGreatDoorN06
set_option maxRecDepth 100000
set_option maxHeartbeats 8000000
namespace Tab
def arrT (r : Int) (L : List NodeD) : NodeD := .mk 13 [] 0 0 false 0 RefD.zero RefD.zero r L
theorem arr_nice {r : Int} {L : List NodeD} (hl : L.length <= 6) (hN : ∀ k ∈ L, Nice 2 k) : Nice 13 (arrT r L) :=
 nice_of (c := 12) (fun h => absurd (show (13 : Int) = 7 \/ (13 : Int) = 12 \/ (13 : Int) = 14 \/ (13 : Int) = 16 from h) (by decide)) (fun g => Nat.le_trans (sum_le (cntN g) 2 L fun k hk => (hN k hk g).1) (by omega)) fun k hk => ⟨2, hN k hk⟩
theorem ahead_nice {n : NodeD} (h : Nice 1 n) : Nice 2 (overT 10 [45] [n]) :=
 nice_of (c := 1) (fun h => absurd (show (10 : Int) = 7 \/ (10 : Int) = 12 \/ (10 : Int) = 14 \/ (10 : Int) = 16 from h) (by decide)) (fun g => by show ([n].map (cntN g)).sum <= 1; simpa using (h g).1) fun k hk => by rw [List.mem_singleton.1 hk]; exact ⟨1, h⟩
end Tab
namespace Go.Proofs.YtlpgigdegnbkmaaGreatDoor
open Go.RowKit Tab Tryz
theorem one_kidsQ {Q : Nat -> Prop} {f h : Nat} {W : World} {n : NodeD} {cs : List Value} (hr : W.heap[h]? = some (.cells cs.toArray 30 (0, 0))) (hn : NodeQ Q f W cs n) (hQ : ∀ b, h <= b -> Q b) : KidsQ Q f W (some ⟨h, 0, none⟩) [n] := by
 have hl := hn.len
 obtain ⟨a, c, e, _, hk⟩ := own_kidsQ (Q := Q) (f := f) (w := W) (B := h) (v := .slice (some ⟨h, 0, none⟩) 1 1) (css := [cs]) (L := [n]) ⟨by simp [hl], .inr ⟨h, 1, cs.toArray, rfl, Nat.le_refl _, hr, Nat.le_refl _, by unfold maxLen; decide, by simp [hl], by simp [hl, List.take_of_length_le]⟩⟩ rfl hQ (fun i c k h1 h2 => by
  have e1 := List.mem_singleton.1 (List.mem_of_getElem? h1)
  have e2 := List.mem_singleton.1 (List.mem_of_getElem? h2)
  subst e1 e2
  exact hn)
 injection e with e1 _ _
 rw [e1]; exact hk
theorem Rows.set {B f b i : Nat} {w : World} {v u : Value} {css : List (List Value)} {L : List NodeD} (h : Rows B f w v css L) (hb : b < B) : Rows B f (w.setCell ⟨b, i, none⟩ u) v css L :=
 ⟨own_kept h.1 fun k hk => heap_set_other (by have := (own_type h.1 hk).1; omega), h.2.1, fun i cs k h1 h2 => (h.2.2 i cs k h1 h2).kept (by simp) fun b _ hq => heap_set_other (by have := hq.1; omega)⟩
theorem w64r (n : Int) : Int64 (IntKind.i64.wrap n) := by
 unfold Int64
 rw [IntKind.wrap_i64]
 constructor <;> omega
theorem run_enter {P : Program} {w : World} {o : Oper} {a : Act} {K : Act -> World -> Prop} {Q : Exit -> Act -> World -> Prop} (f : FuncId) (args : Array Value) (h : (execOp a.eval o).run P w = .ok (.enter f args) w) (R : Ending -> World -> Prop) (c : Calls P f args w R) (k : ∀ e w', R e w' -> ∃ v, e = .returned v /\ K (a.put o.dst v) w') : o.wp P a w K Q := by
 unfold Oper.wp
 rw [h]
 refine c.mono fun e w' hr => ?_
 obtain ⟨v, rfl, hk⟩ := k e w' hr
 exact hk
def asc : List (Nat × (Value -> World -> Prop)) -> Nat -> Value -> World -> Prop
 | [], _, _, _ => True
 | P :: L, i, v, w => if i = P.1 then P.2 v w else asc L i v w
def Stay (P : Value -> World -> Prop) : Prop := ∀ v w w', P v w -> Below w.heap.size w w' -> P v w'
theorem asc_mono : ∀ {L : List (Nat × (Value -> World -> Prop))}, (∀ P ∈ L, Stay P.2) -> ∀ i v w w', asc L i v w -> Below w.heap.size w w' -> asc L i v w'
 | [], _, _, _, _, _, _, _ => trivial
 | P :: _, h, i, v, w, w', hv, hb => by
  unfold asc at hv ⊢
  split at hv
  ·rename_i e; rw [if_pos e]; exact h P (List.mem_cons_self ..) v w w' hv hb
  ·rename_i e; rw [if_neg e]; exact asc_mono (fun P hP => h P (List.mem_cons_of_mem _ hP)) i v w w' hv hb
theorem stay_is (x : Value) : Stay fun v _ => v = x := fun _ _ _ h _ => h
theorem stay_at (R : Value -> Nat -> Prop) (C : Array Value) (T : TypeId) : Stay fun v W => ∃ g, R v g /\ W.heap[g]? = some (.cells C T (0, 0)) := fun _ _ _ ⟨g, h1, h2⟩ hb => ⟨g, h1, kq hb h2⟩
def arrF (B b j : Nat) (x : RawD) (D6 E5 : Int) (p m : Nat) (KD S15 : Int) (Y : Value) : List (Nat × (Value -> World -> Prop)) := [
 (0, fun v W => ∃ g, v = .slice (some ⟨g, 0, none⟩) 4 4 /\ W.heap[g]? = some (.cells (List.toArray (([0, 1, 2, 7] : List Int).map (Value.int .i64))) 3 (0, 0))),
 (1, fun v _ => v = .pointer (some ⟨b, 2, none⟩)),
 (2, fun v _ => v = .int .i64 x.n),
 (3, fun v _ => v = .int .i64 D6),
 (4, fun v _ => v = .int .i64 (j : Int)),
 (5, fun v _ => v = .int .i64 E5),
 (6, fun v _ => v = .int .i64 (p : Int)),
 (7, fun v W => ∃ g, v = .pointer (some ⟨g, p, none⟩) /\ W.heap[g]? = some (.cells (List.toArray (([0, 1, 2, 7] : List Int).map (Value.int .i64))) 3 (0, 0))),
 (8, fun v _ => v = .int .i64 KD),
 (9, fun v _ => v = .pointer (some ⟨b, 1, none⟩)),
 (10, fun v _ => v = .string x.s),
 (11, fun v _ => v = .pointer (some ⟨b, 2, none⟩)),
 (12, fun v _ => v = .int .i64 x.n),
 (13, fun v _ => v = .int .i64 (m : Int)),
 (14, fun v _ => v = .int .i64 (j : Int)),
 (15, fun v _ => v = .int .i64 S15),
 (16, fun v _ => v = Y),
 (17, fun v _ => ∃ n : NodeD, v = .agg (nodeC n (.slice none 0 0)).toArray /\ n.kids = [] /\ NodeSm n /\ Nice 1 n),
 (18, fun v W => ∃ g, (v = .pointer (some ⟨g, 0, none⟩) /\ B <= g) /\ W.heap[g]? = some (.cells zeroN 30 (0, 0)))]
theorem arrF_mono (B b j : Nat) (x : RawD) (D6 E5 : Int) (p m : Nat) (KD S15 : Int) (Y : Value) : ∀ P ∈ arrF B b j x D6 E5 p m KD S15 Y, Stay P.2 := by
 intro P hP
 simp only [arrF, List.mem_cons, List.not_mem_nil, or_false] at hP
 rcases hP with rfl | rfl | rfl | rfl | rfl | rfl | rfl | rfl | rfl | rfl | rfl | rfl | rfl | rfl | rfl | rfl | rfl | rfl | rfl
 all_goals first | exact stay_is _ | exact stay_at _ _ _ | exact fun _ _ _ h _ => h
theorem treeArray_any (x : RawD) (w : World) (hx : RawOk x) : Calls prog 41 #[.agg (rawC x).toArray] w (fun e W => ∃ n cs, e = .returned (.agg cs.toArray) /\ NodeQ (fun b => w.heap.size <= b) 3 W cs n /\ Nice 13 n /\ Below w.heap.size w W) := by
 have cP := fun (n m : Int) W (h : Int64 n) h1 h2 => pick5_any n m W h h1 h2
 have hn := hx.n
 have hxs := hx.s
 obtain ⟨k, hk, hk2⟩ := pick_nat x.n 2 (by decide)
 rw [show ((2 : Nat) : Int) = 2 from rfl] at hk
 have cR := fun W => cP x.n 2 W hn (by omega) (by omega)
 rw [hk] at cR
 obtain ⟨D3, hD3⟩ : ∃ D, IntKind.i64.wrap (x.n.tdiv 2) = D := ⟨_, rfl⟩
 have hD3r : Int64 D3 := hD3 ▸ w64r _
 obtain ⟨p, hp, hp3⟩ := pick_nat D3 3 (by decide)
 rw [show ((3 : Nat) : Int) = 3 from rfl] at hp
 have cC := fun W => cP D3 3 W hD3r (by omega) (by omega)
 rw [hp] at cC
 obtain ⟨m, hm, hmk⟩ := pick_nat x.n 1000 (by decide)
 rw [show ((1000 : Nat) : Int) = 1000 from rfl] at hm
 have cT := fun W => cP x.n 1000 W hn (by omega) (by omega)
 rw [hm] at cT
 obtain ⟨RP, hRP⟩ : ∃ RP : Nat, (k + 1) * (p + 1) = RP := ⟨_, rfl⟩
 have hRP6 : RP <= 6 := by
  rw [<- hRP]
  exact Nat.le_trans (Nat.mul_le_mul (show k + 1 <= 2 by omega) (show p + 1 <= 3 by omega)) (by decide)
 obtain ⟨R, hR, ew1⟩ : ∃ R : Int, R = (k : Int) + 1 /\ IntKind.i64.wrap (1 + (k : Int)) = R := ⟨_, rfl, by rw [IntWalk.i64_in _ (by omega)]; omega⟩
 have hRb : R <= 9223372036854775807 := by omega
 have ew2 : IntKind.i64.wrap (1 + (p : Int)) = ((p + 1 : Nat) : Int) := by rw [IntWalk.i64_in _ (by omega)]; omega
 have ew3 : IntKind.i64.wrap (R * ((p : Int) + 1)) = (RP : Int) := by
  rw [hR]
  have e : ((k : Int) + 1) * ((p : Int) + 1) = (RP : Int) := by rw [<- hRP]; exact (Int.natCast_mul (k + 1) (p + 1)).symm
  rw [e, IntWalk.i64_in _ (by omega)]
 obtain ⟨D6, hD6⟩ : ∃ D, IntKind.i64.wrap (x.n.tdiv 6) = D := ⟨_, rfl⟩
 obtain ⟨iN, hi, hz0, hzs, hzb⟩ := info_parts infoNode
 have HI := Lib.hid (And.intro hi (And.intro hz0 (And.intro hzs hzb)))
 clear hi hz0 hzs hzb hk hp hm hRP hR
 go_enter func41, ntmps41
 go_upto_region 1 with (fail)
 refine wp_abs2 (fun W => Below w.heap.size w W /\ W.heap[w.heap.size]? = some (.cells (rawC x).toArray 97 (0, 0)) /\ W.heap[w.heap.size + 1]? = some (.cells zeroN 30 (0, 0))) ⟨belx, heap_alloc2_old _ _ _, heap_alloc2_new _ _ _⟩ ?_
 rintro w1 ⟨hb, q, r⟩
 have c2 : w1.cell? ⟨w.heap.size, 2, none⟩ = some (.int .i64 x.n) := (lie_cell q).1 2
 refine wp_region_lit ?_
 iterate 2 refine st ?_
 refine wpList_enter 38 #[.int .i64 x.n, .int .i64 2] (by kernel_rfl) (by kernel_rfl) _ (cR w1) ?_
 rintro e w2 ⟨rfl, rfl⟩
 refine ⟨_, rfl, ?_⟩
 iterate 1 refine st ?_
 obtain ⟨b3, hb3⟩ : ∃ b, w1.heap.size = b := ⟨_, rfl⟩
 have zb3 : w.heap.size + 2 <= b3 := by rw [<- hb3]; exact heap_in r
 refine Go.wr (.agg (nodeC (arrT R []) (.slice none 0 0)).toArray) w1 ?_
 refine mbx 30 (.tmp 3) (.tmp 10) zeroN ((nodeC (arrT R []) (.slice none 0 0)).toArray) cellsNode (nodeC_one _ _ _ _) ?_
 rintro w3 ⟨hx3, s⟩
 replace q := kq hx3 q
 replace r := kq hx3 r
 replace hb := after hb hx3
 rw [hb3] at s ⊢
 have hz3 : b3 + 1 <= w3.heap.size := heap_in s
 clear hb3 hx3 c2 cR
 refine wpList_nil ?_
 go_wp2_with fail
 go_loopw [4] (fun i w' => ∃ (j : Nat) (v : Value) (css : List (List Value)) (L : List NodeD), i = .int .i64 (j : Int) /\ j <= RP /\ L.length = j /\ Rows (b3 + 1) 2 w' v css L /\ (∀ k ∈ L, Nice 2 k) /\ w'.heap[b3]? = some (.cells (nodeC (arrT R []) v).toArray 30 (0, 0)) /\ w'.heap[w.heap.size]? = some (.cells (rawC x).toArray 97 (0, 0)) /\ w'.heap[w.heap.size + 1]? = some (.cells zeroN 30 (0, 0)) /\ Below w.heap.size w w') (fun i _ => RP - (intOf i).toNat)
 case atStart => exact ⟨0, _, [], [], rfl, Nat.zero_le _, rfl, Rows.nil _ _ _, fun k hk => (List.not_mem_nil hk).elim, s, q, r, hb⟩
 case round =>
  clear s q r hb hz3
  obtain ⟨j, v, css, L, rfl, hj, hL, hrows, hNL, s, q, r, hB⟩ := hrel
  have hL6 : L.length <= 6 := by omega
  have HL := Lib.hid hL
  clear hL
  have z3 := heap_in s
  have ewJ : IntKind.i64.wrap ((j : Int) + 1) = ((j + 1 : Nat) : Int) := by rw [IntWalk.i64_in _ (by omega)]; omega
  go_upto_region 3 with (fail)
  go_cut [20] from 11 to 20 (fun b wx => b = .bool (decide (j < RP)) /\ Below wr.heap.size wr wx)
  case first =>
   refine wp_region_held_drew (S := fun w' => w'.cell? ⟨b3, 18, none⟩ = some (.int .i64 R) /\ w'.cell? ⟨w.heap.size, 2, none⟩ = some (.int .i64 x.n)) (by kernel_rfl) ⟨(lie_cell s).1 18, (lie_cell q).1 2⟩ (fun hHeld => ?_)
   refine tk 0 hHeld ?_
   refine tk 1 hHeld ?_
   refine tk 2 hHeld ?_
   refine tk 3 hHeld ?_
   refine tk 4 hHeld ?_
   refine wpAnyH_take (i := 5) (oi := _) (v := .int .i64 (IntKind.i64.wrap (x.n.tdiv 2))) rfl (by kernel_rfl) (by kernel_rfl) (by kernel_rfl) (fun _ _ _ h => h) (Or.inl ⟨by rfl, fun w' _ => by kernel_rfl⟩) hHeld ?_
   simp only [List.getElem_toArray, List.getElem_cons_succ, List.getElem_cons_zero, Act.put, List.setIfInBounds_toArray, List.set_cons_zero, List.set_cons_succ]
   rw [hD3]
   refine ar 6 fun K1 hK1 => ?_
   go_simp
   refine (cC _).mono ?_; rintro e w4 ⟨rfl, rfl⟩
   dsimp only
   refine hK1.out _ _ hHeld (fun hHeld => ?_)
   clear hK1 K1
   refine tk 7 hHeld ?_
   refine tk 8 hHeld ?_
   refine tk 9 hHeld ?_
   refine wpAnyH_done (by kernel_rfl) ?_ _
   go_wp2
   go_meet
   exact ⟨rfl, drewB (Below.refl _ _)⟩
  case rest =>
   obtain ⟨rfl, hx4⟩ := hcut
   obtain ⟨w4, hw4⟩ : ∃ z, z = wc := ⟨_, rfl⟩
   subst hw4
   replace hrows := hrows.below hx4
   replace s := kq hx4 s
   replace q := kq hx4 q
   replace r := kq hx4 r
   replace hB := after hB hx4
   replace z3 := heap_in s
   clear hx4
   by_cases hlt : j < RP
   ·
    have hlt' : decide (j < RP) = true := decide_eq_true hlt
    rw [hlt']
    obtain ⟨E5, hE5⟩ : ∃ E, IntKind.i64.wrap (D6 + (j : Int)) = E := ⟨_, rfl⟩
    have hE5r : Int64 E5 := hE5 ▸ w64r _
    obtain ⟨p4, hp4, hp44⟩ := pick_nat E5 4 (by decide)
    rw [show ((4 : Nat) : Int) = 4 from rfl] at hp4
    have cK := fun W => cP E5 4 W hE5r (by omega) (by omega)
    rw [hp4] at cK
    have hpI : (p4 : Int) < 4 := by omega
    have hV := int_at [0, 1, 2, 7] p4 hp44
    obtain ⟨KD, hKD⟩ : ∃ KD : Int, ([0, 1, 2, 7] : List Int)[p4]'hp44 = KD := ⟨_, rfl⟩
    have hKr : Int64 KD := by
     have : ∀ z ∈ ([0, 1, 2, 7] : List Int), -9223372036854775808 <= z /\ z <= 9223372036854775807 := by decide
     rw [<- hKD]; exact this _ (List.getElem_mem _)
    rw [hKD] at hV
    obtain ⟨S15, hS15⟩ : ∃ z : Int, IntKind.i64.wrap ((m : Int) + (j : Int)) = z := ⟨_, rfl⟩
    have hSr : Int64 S15 := hS15 ▸ w64r _
    obtain ⟨y, hy⟩ : ∃ y : RawD, y = ⟨KD, x.s, S15, RefD.zero, RefD.zero, 0⟩ := ⟨_, rfl⟩
    have hyo : RawOk y := by
     rw [hy]
     exact ⟨hKr, hxs, hSr, ⟨(by decide : (-9223372036854775808 : Int) <= 0 /\ (0 : Int) <= 9223372036854775807), (by decide : (-9223372036854775808 : Int) <= 0 /\ (0 : Int) <= 9223372036854775807), zero_sz⟩, ⟨(by decide : (-9223372036854775808 : Int) <= 0 /\ (0 : Int) <= 9223372036854775807), (by decide : (-9223372036854775808 : Int) <= 0 /\ (0 : Int) <= 9223372036854775807), zero_sz⟩, (by decide : (-9223372036854775808 : Int) <= 0 /\ (0 : Int) <= 9223372036854775807)⟩
    have cL := fun W => treeLeaf_any y W hyo
    clear hKD hKr hSr hE5r
    go_upto_region 5 with (fail)
    go_cut [5] from 23 to 40 (fun u wx => ∃ (g : Nat) (n : NodeD), u = .pointer (some ⟨g, 0, none⟩) /\ b3 + 1 <= g /\ w4.heap.size <= g /\ wx.heap[g]? = some (.cells (nodeC n (.slice none 0 0)).toArray 30 (0, 0)) /\ n.kids = [] /\ NodeSm n /\ Nice 1 n /\ Below w4.heap.size w4 wx)
    case first =>
     refine wp_region_typed 19 (.store 30 (.tmp 5) (.tmp 40)) none (asc (arrF w4.heap.size w.heap.size j x D6 E5 p4 m KD S15 (.agg (rawC y).toArray))) (fun W => Below w4.heap.size w4 W) (by kernel_rfl) rfl (by kernel_rfl) (by kernel_rfl) (by kernel_rfl) (asc_mono (arrF_mono _ _ _ _ _ _ _ _ _ _ _)) (fun W W' h hb => after h hb) (drewB (Below.refl _ _)) ?_ ?_
     ·simp only [Typ, List.take_succ_cons, List.take_zero]
      refine ⟨?_, ?_, ?_, ?_, ?_, ?_, ?_, ?_, ?_, ?_, ?_, ?_, ?_, ?_, ?_, ?_, ?_, ?_, ?_, trivial⟩ <;> intro u W hs hd K hK <;> simp only [putAll, Act.put, List.setIfInBounds_toArray, List.set_cons_zero, List.set_cons_succ] at hK ⊢
      ·exact run_wp (.slice (some ⟨W.heap.size, 0, none⟩) 4 4) (W.alloc (.cells (List.toArray (([0, 1, 2, 7] : List Int).map (Value.int .i64))) 3)) (by kernel_rfl) (hK.out _ _ _ rfl ⟨_, rfl, heap_alloc_new _ _⟩ (allocB (Below.refl _ _)))
      ·exact run_wp (.pointer (some ⟨w.heap.size, 2, none⟩)) W (by kernel_rfl) (hK.out _ _ _ rfl rfl (Below.refl _ _))
      ·have cc : W.cell? ⟨w.heap.size, 2, none⟩ = some (.int .i64 x.n) := (lie_cell (kq hs q)).1 2
       have h1 : u 1 = _ := hd ⟨1, .data⟩ (by simp) rfl
       rw [h1] at hK ⊢
       go_simp
       exact hK.out _ _ _ rfl rfl (Below.refl _ _)
      ·have h2 : u 2 = _ := hd ⟨2, .data⟩ (by simp) rfl
       rw [h2] at hK ⊢
       exact run_wp (.int .i64 D6) W (by rw [<- hD6]; kernel_rfl) (hK.out _ _ _ rfl rfl (Below.refl _ _))
      ·exact run_wp (.int .i64 (j : Int)) W (by kernel_rfl) (hK.out _ _ _ rfl rfl (Below.refl _ _))
      ·have h3 : u 3 = _ := hd ⟨3, .data⟩ (by simp) rfl
       have h4 : u 4 = _ := hd ⟨4, .data⟩ (by simp) rfl
       rw [h3, h4] at hK ⊢
       exact run_wp (.int .i64 E5) W (by rw [<- hE5]; kernel_rfl) (hK.out _ _ _ rfl rfl (Below.refl _ _))
      ·have h5 : u 5 = _ := hd ⟨5, .data⟩ (by simp) rfl
       rw [h5] at hK ⊢
       go_simp
       refine (cK _).mono ?_; rintro e W' ⟨rfl, rfl⟩
       exact hK.out _ _ _ rfl rfl (Below.refl _ _)
      ·obtain ⟨g, h0, hg⟩ := hd ⟨0, .data⟩ (by simp) rfl
       have h6 : u 6 = _ := hd ⟨6, .data⟩ (by simp) rfl
       rw [h0, h6] at hK ⊢
       go_simp
       exact hK.out _ _ _ rfl ⟨g, rfl, hg⟩ (Below.refl _ _)
      ·obtain ⟨g, h7, hg⟩ := hd ⟨7, .data⟩ (by simp) rfl
       have hcc : W.cell? ⟨g, p4, none⟩ = some (.int .i64 KD) := ((lie_cell hg).1 p4).trans hV
       rw [h7] at hK ⊢
       go_simp
       exact hK.out _ _ _ rfl rfl (Below.refl _ _)
      ·exact run_wp (.pointer (some ⟨w.heap.size, 1, none⟩)) W (by kernel_rfl) (hK.out _ _ _ rfl rfl (Below.refl _ _))
      ·have cc : W.cell? ⟨w.heap.size, 1, none⟩ = some (.string x.s) := (lie_cell (kq hs q)).1 1
       have h9 : u 9 = _ := hd ⟨9, .data⟩ (by simp) rfl
       rw [h9] at hK ⊢
       go_simp
       exact hK.out _ _ _ rfl rfl (Below.refl _ _)
      ·exact run_wp (.pointer (some ⟨w.heap.size, 2, none⟩)) W (by kernel_rfl) (hK.out _ _ _ rfl rfl (Below.refl _ _))
      ·have cc : W.cell? ⟨w.heap.size, 2, none⟩ = some (.int .i64 x.n) := (lie_cell (kq hs q)).1 2
       have h11 : u 11 = _ := hd ⟨11, .data⟩ (by simp) rfl
       rw [h11] at hK ⊢
       go_simp
       exact hK.out _ _ _ rfl rfl (Below.refl _ _)
      ·have h12 : u 12 = _ := hd ⟨12, .data⟩ (by simp) rfl
       rw [h12] at hK ⊢
       go_simp
       refine (cT _).mono ?_; rintro e W' ⟨rfl, rfl⟩
       exact hK.out _ _ _ rfl rfl (Below.refl _ _)
      ·exact run_wp (.int .i64 (j : Int)) W (by kernel_rfl) (hK.out _ _ _ rfl rfl (Below.refl _ _))
      ·have h13 : u 13 = _ := hd ⟨13, .data⟩ (by simp) rfl
       have h14 : u 14 = _ := hd ⟨14, .data⟩ (by simp) rfl
       rw [h13, h14] at hK ⊢
       exact run_wp (.int .i64 S15) W (by rw [<- hS15]; kernel_rfl) (hK.out _ _ _ rfl rfl (Below.refl _ _))
      ·have h8 : u 8 = _ := hd ⟨8, .data⟩ (by simp) rfl
       have h10 : u 10 = _ := hd ⟨10, .data⟩ (by simp) rfl
       have h15 : u 15 = _ := hd ⟨15, .data⟩ (by simp) rfl
       rw [h8, h10, h15] at hK ⊢
       exact run_wp (.agg (rawC y).toArray) W (by rw [hy]; kernel_rfl) (hK.out _ _ _ rfl rfl (Below.refl _ _))
      ·have h16 : u 16 = _ := hd ⟨16, .data⟩ (by simp) rfl
       rw [h16] at hK ⊢
       refine run_enter 42 #[.agg (rawC y).toArray] (by kernel_rfl) _ (cL _) ?_
       rintro e W' ⟨n, h1, h2, h3, rfl, hx⟩
       exact ⟨_, rfl, hK.out _ _ _ rfl ⟨n, rfl, h1, h2, h3⟩ hx⟩
      ·exact run_wp (.pointer (some ⟨W.heap.size, 0, none⟩)) (W.alloc (.cells zeroN 30)) (by kernel_rfl) (hK.out _ _ _ rfl ⟨_, ⟨rfl, hs.size⟩, heap_alloc_new _ _⟩ (allocB (Below.refl _ _)))
     ·intro u W hs hd o ho hod K hK
      obtain ⟨n, h17, n1, n2, n3⟩ := hd 17 (by decide)
      obtain ⟨g, ⟨h18, hg⟩, hgz⟩ := hd 18 (by decide)
      simp only [putAll, List.take_succ_cons, List.take_zero, Act.put, List.setIfInBounds_toArray, List.set_cons_zero, List.set_cons_succ] at hK ⊢
      rw [h17, h18]
      refine wp_store_mid 30 (.tmp 5) (.tmp 40) ho g 0 (nodeC n (.slice none 0 0)).toArray rfl rfl (whole_there hgz rfl) cellsNode (nodeC_one _ _ _ _) ?_
      rw [hod]
      refine hK.out _ _ ?_
      clear hK hd ho hod
      have h1 := below_cells2 hg (nodeC n (.slice none 0 0)) 0 _ hs
      have h2 := box_whole (cs := nodeC n (.slice none 0 0)) hgz rfl
      go_wp2
      go_meet
      exact ⟨g, n, rfl, by omega, hg, h2, n1, n2, n3, h1⟩
    case rest =>
     obtain ⟨g, n, rfl, hgb, hgc, gq, n1, n2, n3, hx⟩ := hcut
     obtain ⟨w5, hw5⟩ : ∃ z, z = wc := ⟨_, rfl⟩
     subst hw5
     have hvb := fun b (h : w4.heap.size <= b) => heap_beyond hrows.1 h
     have z4 : b3 + 1 <= w4.heap.size := z3
     have cg : w5.cell? ⟨g, 0, none⟩ = some (.int .i64 n.kind) := (lie_cell gq).1 0
     go_upto_region 6 with (fail)
     go_cut [48] from 41 to 48 (fun b wx => (∃ B, b = .bool B) /\ wx = w5)
     case first =>
      obtain ⟨B1, hB1⟩ : ∃ B, (n.kind == 1) = B := ⟨_, rfl⟩
      clear hrows s q r hB cP cC cT cL cK
      cases B1
      all_goals (
       go_wp2
       go_meet
       exact ⟨⟨_, rfl⟩, rfl⟩)
     case rest =>
      obtain ⟨⟨B, rfl⟩, rfl⟩ := hcut
      clear cg
      go_upto_if 48 with (fail)
      go_cut [] from 49 to 51 (fun wx => ∃ (n' : NodeD) (a' : Option Addr) (m' c' : Nat), wx.heap[g]? = some (.cells (nodeC n' (.slice a' m' c')).toArray 30 (0, 0)) /\ NodeQ (fun b => b3 + 1 <= b /\ v.ownBlock ≠ some b) 2 wx (nodeC n' (.slice a' m' c')) n' /\ Nice 2 n' /\ Below w4.heap.size w4 wx)
      case first =>
       cases B
       ·go_wp2
        go_meet
        exact ⟨n, none, 0, 0, gq, node_leafQ n1 n2, n3.mono (by decide), hx⟩
       ·go_upto_region 7 with (fail)
        refine wp_region_lit ?_
        refine ldr (.tmp 5) gq underlying30 cellsNode ?_
        refine mrw 1 30 ((nodeC n (.slice none 0 0)).toArray) ?_
        rintro w6 ⟨hx6, hq6⟩
        have hgl := heap_in gq
        replace gq := (hx6.block _ hgl).trans gq
        have hsz := hx.size
        replace hx := after hx hx6
        obtain ⟨h, hh⟩ : ∃ h, wc.heap.size = h := ⟨_, rfl⟩
        rw [hh] at hq6 hgl hsz ⊢
        clear hh hx6
        have hk1 := one_kidsQ (Q := fun b => (b3 + 1 <= b /\ v.ownBlock ≠ some b) /\ b ≠ g) (f := 1) hq6 (node_leafQ n1 n2) (fun b hb => ⟨⟨by omega, hvb b (by omega)⟩, by omega⟩)
        have hn6 := over_q (c := 1) 10 [45] 1 hk1 (Nat.le_refl _) (Nat.le_refl _) (by show 1 <= 1000; decide) (by decide)
        refine Go.wr (.agg (nodeC (overT 10 [45] [n]) (.slice (some ⟨h, 0, none⟩) 1 1)).toArray) w6 ?_
        refine wpList_store_mid rfl 30 (.tmp 5) (.tmp 51) rfl g 0 (nodeC (overT 10 [45] [n]) (.slice (some ⟨h, 0, none⟩) 1 1)).toArray rfl rfl (whole_there gq rfl) cellsNode (nodeC_one _ _ _ _) ?_
        refine wpList_abs (fun W => W.heap[g]? = some (.cells (nodeC (overT 10 [45] [n]) (.slice (some ⟨h, 0, none⟩) 1 1)).toArray 30 (0, 0)) /\ NodeQ (fun b => b3 + 1 <= b /\ v.ownBlock ≠ some b) 2 W (nodeC (overT 10 [45] [n]) (.slice (some ⟨h, 0, none⟩) 1 1)) (overT 10 [45] [n]) /\ Below w4.heap.size w4 W) ⟨box_whole gq rfl, hn6.kept_cells _, below_cells2 hgc _ _ _ hx⟩ ?_
        rintro wE ⟨gE, nE, hE⟩
        refine wpList_nil ?_
        go_wp2
        go_meet
        exact ⟨_, _, _, _, gE, nE, ahead_nice n3, hE⟩
      case rest =>
       obtain ⟨n', a', m', c', gq', hn', hN', hx'⟩ := hcut
       obtain ⟨w7, hw7⟩ : ∃ z, z = wc := ⟨_, rfl⟩
       subst hw7
       clear gq n1 n2 n3 hx
       replace hrows := hrows.below hx'
       replace s := (hx'.block _ (heap_in s)).trans s
       replace q := (hx'.block _ (heap_in q)).trans q
       replace r := (hx'.block _ (heap_in r)).trans r
       replace hB := after hB hx'
       have c19 : w7.cell? ⟨b3, 19, none⟩ = some v := (lie_cell s).1 19
       have z7 := heap_in s
       clear hx' hvb
       go_upto_region 8 with (fail)
       refine wp_region_lit ?_
       iterate 2 refine st ?_
       refine wpList_load_row rfl 30 (.tmp 5) rfl g rfl 30 (nodeC n' (.slice a' m' c')).toArray (0, 0) _ gq' underlying30 rfl cellsNode ?_
       refine mrw 1 30 ((nodeC n' (.slice a' m' c')).toArray) ?_
       rintro w8 ⟨hx8, k8⟩
       replace hrows := hrows.below hx8
       replace hn' := hn'.below hx8
       replace s := kq hx8 s
       replace q := kq hx8 q
       replace r := kq hx8 r
       replace hB := after hB hx8
       have z8 := heap_in s
       have hsz8 := hB.size
       generalize w7.heap.size = h8 at *
       refine wpList_append_own_at _ rfl (.tmp 53) (.tmp 55) 28 rfl (b3 + 1) 30 iN (.agg zeroN) 20 168 underlying28 HI.out.1 HI.out.2.1 HI.out.2.2.1 HI.out.2.2.2 rfl (by decide) v L.length css.flatten rfl hrows.1 ⟨h8, 0, none⟩ 1 1 (nodeC n' (.slice a' m' c')) rfl rfl (fun j u hj => by rw [Addr.add_mid, Nat.zero_add, (lie_cell k8).1 j]; simpa using hj) (nodeC_each _ _ _ _) (by unfold maxLen; omega) (by omega) z8 ?_
       intro v' w9 own9 hg9 _ hl9
       have hB9 : Below w.heap.size w w9 := hB.grown hg9 hsz8 (fun k hk => by have := (own_type hrows.1 hk).1; omega)
       have hne : v.ownBlock ≠ some b3 := fun e => by have := (own_type hrows.1 e).1; omega
       have keep9 : ∀ b, b < b3 + 1 -> w9.heap[b]? = w8.heap[b]? := fun b hb => hg9.block b (by omega) (fun e => by have := (own_type hrows.1 e.symm).1; omega)
       replace s := (keep9 b3 (by omega)).trans s
       replace q := (keep9 _ (by omega)).trans q
       replace r := (keep9 _ (by omega)).trans r
       replace hrows := hrows.snoc hn' own9 hg9.size (fun b h1 h2 => hg9.block b h1 (fun e => h2 e.symm)) (hl9.imp id fun e b hb => by rw [e] at hb; injection hb with hb; omega)
       obtain ⟨g4, c4, rfl⟩ := own_shape own9
       obtain ⟨f9, d9, z9⟩ := lie_cell s
       have c19b : w9.cell? ⟨b3, 19, none⟩ = some v := f9 19
       clear own9 hg9 hl9 hB hn' k8 c19 f9 keep9
       iterate 2 refine st ?_
       refine wpList_abs (fun W => Rows (b3 + 1) 2 W (.slice g4 (L.length + 1) c4) (css ++ [nodeC n' (.slice a' m' c')]) (L ++ [n']) /\ W.heap[b3]? = some (.cells (nodeC (arrT R []) (.slice g4 (L.length + 1) c4)).toArray 30 (0, 0)) /\ W.heap[w.heap.size]? = some (.cells (rawC x).toArray 97 (0, 0)) /\ W.heap[w.heap.size + 1]? = some (.cells zeroN 30 (0, 0)) /\ Below w.heap.size w W) ⟨hrows.set (by omega), heap_set_same s, (heap_set_other (by omega)).trans q, (heap_set_other (by omega)).trans r, setB hB9 (by omega)⟩ ?_
       rintro wE ⟨rE, sE, qE, r2E, hE⟩
       refine wpList_nil ?_
       have HE := Lib.hid (And.intro rE (And.intro sE (And.intro qE (And.intro r2E hE))))
       clear rE sE qE r2E hE hrows s q r hB9 c19b d9
       go_wp2
       go_roundw
       case rel => exact ⟨j + 1, _, _, L ++ [n'], rfl, by omega, by simp [HL.out], HE.out.1, fun k hk => by
        rcases List.mem_append.1 hk with h | h
        ·exact hNL k h
        ·rw [List.mem_singleton.1 h]; exact hN', HE.out.2.1, HE.out.2.2.1, HE.out.2.2.2.1, HE.out.2.2.2.2⟩
       case measure => simp [intOf]; omega
   ·have hlt' : decide (j < RP) = false := decide_eq_false hlt
    rw [hlt']
    obtain ⟨a0, c0, rfl, hc0, hk0⟩ := hrows.kids
    have hq0 := node_q (n := arrT R L) (c := c0) ⟨(by decide : (-9000000000000000000 : Int) <= 0 /\ (0 : Int) <= 9000000000000000000), (by decide : ([] : Bs).length <= 1000), (by show L.length <= 1000; omega), hRb, zero_sz, zero_sz⟩ hk0 hc0
    go_upto_region 9 with (fail)
    refine wp_region_lit ?_
    refine ldr (.tmp 3) s underlying30 cellsNode ?_
    refine wpList_store_mid rfl 30 (.tmp 2) (.tmp 58) rfl (w.heap.size + 1) 0 (nodeC (arrT R L) (.slice a0 L.length c0)).toArray rfl rfl (whole_there r rfl) cellsNode (nodeC_one _ _ _ _) ?_
    refine wpList_abs (fun W => Below w.heap.size w W /\ W.heap[w.heap.size + 1]? = some (.cells (nodeC (arrT R L) (.slice a0 L.length c0)).toArray 30 (0, 0)) /\ NodeQ (fun b => w.heap.size <= b) 3 W (nodeC (arrT R L) (.slice a0 L.length c0)) (arrT R L)) ⟨below_cells2 (Nat.le_succ _) _ _ _ hB, box_whole r rfl, NodeQ.kept_cells (hq0.mono fun b _ h => ⟨by omega, by omega⟩) _⟩ ?_
    rintro wE ⟨hbE, rE, nE⟩
    refine wpList_nil ?_
    have HT := Lib.hid (And.intro hbE (And.intro rE nE))
    clear hB r s q hbE rE nE hrows hk0 hq0
    go_wp2
    exact bodyPost_ret (results_cell_row rfl _ _ (w.heap.size + 1) 30 (nodeC (arrT R L) (.slice a0 L.length c0)).toArray (0, 0) _ rfl HT.out.2.1 underlying30 rfl cellsNode) rfl ⟨_, _, rfl, HT.out.2.2, arr_nice hL6 hNL, HT.out.1⟩
def RawRow (w : World) (a : Option Addr) (X : List RawD) : Prop := X = [] \/ ∃ b o, a = some ⟨b, o, none⟩ /\ b < w.heap.size /\ ∀ (i : Nat) (x : RawD), X[i]? = some x -> w.rangeAt b (o + i * 16) (rawC x)
theorem RawRow.below {w W : World} {a : Option Addr} {X : List RawD} (h : RawRow w a X) (hb : Below w.heap.size w W) : RawRow W a X := h.imp id fun ⟨b, o, e1, e2, e3⟩ => ⟨b, o, e1, Nat.lt_of_lt_of_le e2 hb.size, fun i x hi j v hj => (hb.cell (p := ⟨b, o + i * 16 + j, none⟩) e2).trans (e3 i x hi j v hj)⟩
theorem NodeQ.shape {Q : Nat -> Prop} {f : Nat} {w : World} {cs : List Value} {n : NodeD} (h : NodeQ Q f w cs n) : ∃ a m c, cs = nodeC n (.slice a m c) := by
 cases f with
 | zero => exact h.elim
 | succ f => obtain ⟨a, c, e, _⟩ := h; exact ⟨_, _, _, e⟩
theorem under_any (X : List RawD) (a : Option Addr) (cap : Nat) (hXo : ∀ x ∈ X, RawOk x) (hXl : X.length <= 9223372036854775807) : ∀ (d k : Nat), k < X.length -> k < 14 -> 14 - k <= d -> ∀ w : World, RawRow w a X -> Calls prog 22 #[.slice a X.length cap, .int .i64 (k : Int)] w (fun e W => ∃ n cs, e = .returned (.agg cs.toArray) /\ NodeQ (fun b => w.heap.size <= b) (17 - k) W cs n /\ Nice (15 * 2 ^ (13 - k)) n /\ Below w.heap.size w W) := by
 intro d
 induction d with
 | zero => intro k _ h1 h2; omega
 | succ d ih =>
 intro k hk hk14 hd w hrow
 obtain ⟨b, o, rfl, hbw, hX⟩ : ∃ b o, a = some ⟨b, o, none⟩ /\ b < w.heap.size /\ ∀ (i : Nat) (x : RawD), X[i]? = some x -> w.rangeAt b (o + i * 16) (rawC x) := by
  rcases hrow with rfl | h
  ·simp at hk
  ·exact h
 have cU := fun i h1 h2 h3 W hW => ih i h1 h2 h3 W (hrow.below hW)
 clear ih
 obtain ⟨x0, hx0⟩ : ∃ x, X[k]? = some x := ⟨_, List.getElem?_eq_getElem hk⟩
 have hx0o := hXo x0 (List.mem_of_getElem? hx0)
 have hat : (k : Int) < (X.length : Int) := by omega
 have ewK : IntKind.i64.wrap ((k : Int) + 1) = ((k + 1 : Nat) : Int) := by rw [IntWalk.i64_in _ (by omega)]; omega
 obtain ⟨iN, hi, hz0, hzs, hzb⟩ := info_parts infoNode
 have HI := Lib.hid (And.intro hi (And.intro hz0 (And.intro hzs hzb)))
 clear hi hz0 hzs hzb
 go_enter func22, ntmps22
 go_upto_region 1 with (fail)
 refine wp_abs2 (On1 30 w zeroN) ⟨belx, heap_alloc_new _ _⟩ ?_
 rintro w1 ⟨hb, r⟩
 go_wp2_with fail
 go_loopw [5, 6] (fun v i w' => ∃ (j : Nat) (css : List (List Value)) (L : List NodeD), i = .int .i64 (j : Int) /\ k < j /\ (j <= 14 /\ j <= X.length) /\ L.length + k < j /\ Rows (w.heap.size + 1) (16 - k) w' v css L /\ (∀ n ∈ L, ∃ d, Nice d n) /\ (∀ g, (L.map (cntN g)).sum + 15 * 2 ^ (14 - j) <= 15 * 2 ^ (13 - k)) /\ w'.heap[w.heap.size]? = some (.cells zeroN 30 (0, 0)) /\ Below w.heap.size w w') (fun _ i _ => 14 - (intOf i).toNat)
 case atStart => exact ⟨k + 1, [], [], rfl, by omega, by omega, by simp, Rows.nil _ _ _, fun n hn => (List.not_mem_nil hn).elim, fun g => by show 0 + _ <= _; rw [Nat.zero_add, show 14 - (k + 1) = 13 - k by omega]; exact Nat.le_refl _, r, hb⟩
 case round =>
  clear r hb
  obtain ⟨j, css, L, rfl, hkj, hj, hLl, hrows, hN, hsum, r, hB⟩ := hrel
  obtain ⟨va, vc, rfl, hvc, hk0⟩ := hrows.kids
  have ewJ : IntKind.i64.wrap ((j : Int) + 1) = ((j + 1 : Nat) : Int) := by rw [IntWalk.i64_in _ (by omega)]; omega
  go_upto_region 3 with (fail)
  go_cut [16] from 9 to 16 (fun bv wx => bv = .bool (decide (j < X.length /\ j < 14)) /\ wx = wr)
  case first =>
   clear hrows hN hsum r hB hX hrow cU
   by_cases h1 : j < X.length
   ·have e1 : decide ((j : Int) < (X.length : Int)) = true := decide_eq_true (by omega)
    by_cases h2 : j < 14
    ·have e2 : decide ((j : Int) < 14) = true := decide_eq_true (by omega)
     go_wp2
     go_meet
     exact ⟨congrArg Value.bool (decide_eq_true (And.intro h1 h2)).symm, rfl⟩
    ·have e2 : decide ((j : Int) < 14) = false := decide_eq_false (by omega)
     go_wp2
     go_meet
     exact ⟨congrArg Value.bool (decide_eq_false (fun h => h2 h.2)).symm, rfl⟩
   ·have e1 : decide ((j : Int) < (X.length : Int)) = false := decide_eq_false (by omega)
    go_wp2
    go_meet
    exact ⟨congrArg Value.bool (decide_eq_false (fun h => h1 h.1)).symm, rfl⟩
  case rest =>
  obtain ⟨rfl, hcut2⟩ := hcut
  subst hcut2
  by_cases hj1 : j < X.length /\ j < 14
  ·rw [decide_eq_true hj1]
   obtain ⟨hjX, hj14⟩ := hj1
   have hp2 : 2 ^ (14 - j) = 2 * 2 ^ (13 - j) := by rw [show 14 - j = (13 - j) + 1 by omega, Nat.pow_succ, Nat.mul_comm]
   obtain ⟨x, hx⟩ : ∃ x, X[j]? = some x := ⟨_, List.getElem?_eq_getElem hjX⟩
   have hxo := hXo x (List.mem_of_getElem? hx)
   have cW : wc.cell? ⟨b, o + j * 16 + 15, none⟩ = some (.int .i64 x.within) := (hB.cell (p := ⟨b, o + j * 16 + 15, none⟩) hbw).trans (hX j x hx 15 _ rfl)
   have hjI : (j : Int) < (X.length : Int) := by omega
   have hj14I : (j : Int) < 14 := by omega
   have cP := fun W => pick5_any x.within (j : Int) W hxo.within (by omega) (by omega)
   go_upto_region 5 with (fail)
   go_wp2_with fail
   refine (cP _).mono ?_; rintro e w2 ⟨rfl, rfl⟩
   clear cP cW
   generalize pickI x.within (j : Int) = PK
   go_upto_if 27 with (fail)
   have hB1 : ∃ B, (PK == (k : Int)) = B := ⟨_, rfl⟩
   obtain ⟨B1, hB1⟩ := hB1
   cases B1
   ·go_wp2
    go_roundw
    case rel => exact ⟨j + 1, css, L, rfl, by omega, by omega, by omega, hrows, hN, fun g => by
     have := hsum g
     rw [hp2] at this
     rw [show 14 - (j + 1) = 13 - j by omega]; omega, r, hB⟩
    case measure => simp [intOf]; omega
   ·go_upto_region 6 with (fail)
    refine wp_region_lit ?_
    iterate 3 refine st ?_
    refine wpList_enter 22 #[.slice (some ⟨b, o, none⟩) X.length cap, .int .i64 (j : Int)] (by kernel_rfl) (by kernel_rfl) _ (cU j hjX hj14 (by omega) _ hB) ?_
    rintro e w3 ⟨n, cs, rfl, hq, hnice, hx3⟩
    refine ⟨_, rfl, ?_⟩
    have hvb := fun bb (h : wc.heap.size <= bb) => heap_beyond hrows.1 h
    have hrl := heap_in r
    obtain ⟨a', m', c', rfl⟩ := hq.shape
    replace hq : NodeQ (fun b => w.heap.size + 1 <= b /\ (Value.slice va L.length vc).ownBlock ≠ some b) (16 - k) w3 (nodeC n (.slice a' m' c')) n := (hq.deep (by omega)).mono fun bb _ h => ⟨by omega, hvb bb h⟩
    replace hrows := hrows.below hx3
    replace r := kq hx3 r
    replace hB := after hB hx3
    refine mrw 1 30 ((nodeC n (.slice a' m' c')).toArray) ?_
    rintro w8 ⟨hx8, k8⟩
    replace hrows := hrows.below hx8
    replace hq := hq.below hx8
    replace r := kq hx8 r
    replace hB := after hB hx8
    have hsz8 := hB.size
    clear hvb hrl hx3 hx8
    generalize w3.heap.size = h8 at *
    refine wpList_append_own_at _ rfl (.tmp 28) (.tmp 32) 28 rfl (w.heap.size + 1) 30 iN (.agg zeroN) 20 168 underlying28 HI.out.1 HI.out.2.1 HI.out.2.2.1 HI.out.2.2.2 rfl (by decide) (.slice va L.length vc) L.length css.flatten rfl hrows.1 ⟨h8, 0, none⟩ 1 1 (nodeC n (.slice a' m' c')) rfl rfl (fun j u hj => by rw [Addr.add_mid, Nat.zero_add, (lie_cell k8).1 j]; simpa using hj) (nodeC_each _ _ _ _) (by unfold maxLen; omega) (by omega) (heap_in r) ?_
    intro v' w9 own9 hg9 _ hl9
    have hB9 : Below w.heap.size w w9 := hB.grown hg9 hsz8 (fun k hk => by have := (own_type hrows.1 hk).1; omega)
    have r9 := (hg9.block w.heap.size (heap_in r) (fun e => by have := (own_type hrows.1 e.symm).1; omega)).trans r
    have rows9 := hrows.snoc hq own9 hg9.size (fun b h1 h2 => hg9.block b h1 (fun e => h2 e.symm)) (hl9.imp id fun e b hb => by rw [e] at hb; injection hb with hb; omega)
    clear own9 hg9 hl9 hB hq k8 r hrows hk0
    iterate 1 refine st ?_
    refine wpList_nil ?_
    have HE := Lib.hid (And.intro rows9 (And.intro r9 hB9))
    clear rows9 r9 hB9
    go_wp2
    go_roundw
    case rel => exact ⟨j + 1, css ++ [nodeC n (.slice a' m' c')], L ++ [n], rfl, by omega, by omega, by simp; omega, HE.out.1, fun y hy => by
     rcases List.mem_append.1 hy with h | h
     ·exact hN y h
     ·rw [List.mem_singleton.1 h]; exact ⟨_, hnice⟩, fun g => by
     have h1 := hsum g
     have h2 := (hnice g).1
     rw [hp2] at h1
     rw [List.map_append, List.sum_append, show 14 - (j + 1) = 13 - j by omega]
     simp only [List.map_cons, List.map_nil, List.sum_cons, List.sum_nil]
     omega, HE.out.2.1, HE.out.2.2⟩
    case measure => simp [intOf]; omega
  ·rw [decide_eq_false hj1]
   have hp1 : 1 <= 2 ^ (13 - k) := Nat.one_le_two_pow
   have hS : ∀ g, (L.map (cntN g)).sum <= 15 * 2 ^ (13 - k) - 15 := fun g => by
    have h1 := hsum g
    have h2 : 1 <= 2 ^ (14 - j) := Nat.one_le_two_pow
    omega
   have hrl := heap_in r
   have hX0 : wc.rangeAt b (o + k * 16) (rawC x0) := fun j v hj => (hB.cell (p := ⟨b, o + k * 16 + j, none⟩) hbw).trans (hX k x0 hx0 j v hj)
   clear hX cU hrow hsum
   by_cases hL0 : 0 < L.length
   ·
    have e0 : decide ((0 : Int) < (L.length : Int)) = true := decide_eq_true (by omega)
    go_upto_region 8 with (fail)
    refine wp_region_lit ?_
    iterate 3 refine st ?_
    refine wpList_load_mid rfl 97 (.tmp 39) rfl b (o + k * 16) rfl (rawC x0) _ hX0 underlying97 rfl cellsRaw ?_
    iterate 1 refine st ?_
    refine wpList_enter 40 #[.agg (rawC x0).toArray, .slice va L.length vc] (by kernel_rfl) (by kernel_rfl) _ (treeOver_any x0 hx0o (fun b => w.heap.size <= b /\ b ≠ w.heap.size) (16 - k) (15 * 2 ^ (13 - k) - 15) L va vc wc (hk0.mono fun bb _ h => ⟨by omega, by omega⟩) (fun bb h => ⟨by omega, by omega⟩) hL0 (by omega) hvc hS hN) ?_
    rintro e w5 ⟨n, cs, rfl, hq, hnice, hx5⟩
    refine ⟨_, rfl, ?_⟩
    obtain ⟨a', m', c', rfl⟩ := hq.shape
    replace r := kq hx5 r
    replace hB := after hB hx5
    refine wpList_store_mid rfl 30 (.tmp 4) (.tmp 42) rfl w.heap.size 0 (nodeC n (.slice a' m' c')).toArray rfl rfl (whole_there r rfl) cellsNode (nodeC_one _ _ _ _) ?_
    refine wpList_abs (fun W => Below w.heap.size w W /\ W.heap[w.heap.size]? = some (.cells (nodeC n (.slice a' m' c')).toArray 30 (0, 0)) /\ NodeQ (fun b => w.heap.size <= b) (17 - k) W (nodeC n (.slice a' m' c')) n) ⟨below_cells2 (Nat.le_refl _) _ _ _ hB, box_whole r rfl, NodeQ.kept_cells (hq.deep (by omega)) _⟩ ?_
    rintro wE ⟨hbE, rE, nE⟩
    refine wpList_nil ?_
    have HT := Lib.hid (And.intro hbE (And.intro rE nE))
    clear hB r hbE rE nE
    go_wp2
    exact bodyPost_ret (results_cell_row rfl _ _ w.heap.size 30 (nodeC n (.slice a' m' c')).toArray (0, 0) _ rfl HT.out.2.1 underlying30 rfl cellsNode) rfl ⟨_, _, rfl, HT.out.2.2, hnice.mono (by omega), HT.out.1⟩
   ·
    have e0 : decide ((0 : Int) < (L.length : Int)) = false := decide_eq_false (by omega)
    have cK : wc.cell? ⟨b, o + k * 16, none⟩ = some (.int .i64 x0.kind) := hX0 0 _ rfl
    have cP := fun W => pick5_any x0.kind 17 W hx0o.kind (by omega) (by omega)
    generalize pickI x0.kind 17 = K17 at *
    go_upto_region 9 with (fail)
    go_wp2_with fail
    refine (cP _).mono ?_; rintro e w5 ⟨rfl, rfl⟩
    by_cases h16 : K17 = 16
    ·
     have e16 : (K17 == 16) = true := beq_iff_eq.2 h16
     go_upto_region 10 with (fail)
     refine wp_region_lit ?_
     iterate 3 refine st ?_
     refine wpList_load_mid rfl 97 (.tmp 52) rfl b (o + k * 16) rfl (rawC x0) _ hX0 underlying97 rfl cellsRaw ?_
     refine wpList_enter 41 #[.agg (rawC x0).toArray] (by kernel_rfl) (by kernel_rfl) _ (treeArray_any x0 wc hx0o) ?_
     rintro e w6 ⟨n, cs, rfl, hq, hnice, hx5⟩
     refine ⟨_, rfl, ?_⟩
     obtain ⟨a', m', c', rfl⟩ := hq.shape
     replace r := kq hx5 r
     replace hB := after hB hx5
     refine wpList_store_mid rfl 30 (.tmp 4) (.tmp 54) rfl w.heap.size 0 (nodeC n (.slice a' m' c')).toArray rfl rfl (whole_there r rfl) cellsNode (nodeC_one _ _ _ _) ?_
     refine wpList_abs (fun W => Below w.heap.size w W /\ W.heap[w.heap.size]? = some (.cells (nodeC n (.slice a' m' c')).toArray 30 (0, 0)) /\ NodeQ (fun b => w.heap.size <= b) (17 - k) W (nodeC n (.slice a' m' c')) n) ⟨below_cells2 (Nat.le_refl _) _ _ _ hB, box_whole r rfl, NodeQ.kept_cells ((hq.deep (by omega)).mono fun bb _ h => ⟨by omega, by omega⟩) _⟩ ?_
     rintro wE ⟨hbE, rE, nE⟩
     refine wpList_nil ?_
     have HT := Lib.hid (And.intro hbE (And.intro rE nE))
     clear hB r hbE rE nE
     go_wp2
     exact bodyPost_ret (results_cell_row rfl _ _ w.heap.size 30 (nodeC n (.slice a' m' c')).toArray (0, 0) _ rfl HT.out.2.1 underlying30 rfl cellsNode) rfl ⟨_, _, rfl, HT.out.2.2, hnice.mono (by omega), HT.out.1⟩
    ·
     have e16 : (K17 == 16) = false := beq_eq_false_iff_ne.2 h16
     go_wp2_with fail
     refine (cP _).mono ?_; rintro e w5 ⟨rfl, rfl⟩
     by_cases h15 : K17 = 15
     ·
      have e15 : (K17 == 15) = true := beq_iff_eq.2 h15
      go_upto_region 12 with (fail)
      refine wp_region_lit ?_
      refine Go.wr (.agg (nodeC (overT 12 [78, 79, 87] []) (.slice none 0 0)).toArray) wc ?_
      refine wpList_store_mid rfl 30 (.tmp 4) (.tmp 62) rfl w.heap.size 0 (nodeC (overT 12 [78, 79, 87] []) (.slice none 0 0)).toArray rfl rfl (whole_there r rfl) cellsNode (nodeC_one _ _ _ _) ?_
      refine wpList_abs (fun W => Below w.heap.size w W /\ W.heap[w.heap.size]? = some (.cells (nodeC (overT 12 [78, 79, 87] []) (.slice none 0 0)).toArray 30 (0, 0)) /\ NodeQ (fun b => w.heap.size <= b) (17 - k) W (nodeC (overT 12 [78, 79, 87] []) (.slice none 0 0)) (overT 12 [78, 79, 87] [])) ⟨below_cells2 (Nat.le_refl _) _ _ _ hB, box_whole r rfl, NodeQ.kept_cells ((node_leafQ (f := 3) rfl (leaf_smT (by decide) (by decide) zero_sz zero_sz)).deep (by omega)) _⟩ ?_
      rintro wE ⟨hbE, rE, nE⟩
      refine wpList_nil ?_
      have HT := Lib.hid (And.intro hbE (And.intro rE nE))
      clear hB r hbE rE nE
      go_wp2
      exact bodyPost_ret (results_cell_row rfl _ _ w.heap.size 30 (nodeC (overT 12 [78, 79, 87] []) (.slice none 0 0)).toArray (0, 0) _ rfl HT.out.2.1 underlying30 rfl cellsNode) rfl ⟨_, _, rfl, HT.out.2.2, (nice_leaf (n := overT 12 [78, 79, 87] []) (fun _ => (by decide : ([78, 79, 87] : Bs) ∈ namesT)) rfl).mono (by omega), HT.out.1⟩
     ·
      have e15 : (K17 == 15) = false := beq_eq_false_iff_ne.2 h15
      go_upto_region 13 with (fail)
      refine wp_region_lit ?_
      iterate 3 refine st ?_
      refine wpList_load_mid rfl 97 (.tmp 65) rfl b (o + k * 16) rfl (rawC x0) _ hX0 underlying97 rfl cellsRaw ?_
      refine wpList_enter 42 #[.agg (rawC x0).toArray] (by kernel_rfl) (by kernel_rfl) _ (treeLeaf_any x0 wc hx0o) ?_
      rintro e w6 ⟨n, hn0, hsm, hnice, rfl, hx5⟩
      refine ⟨_, rfl, ?_⟩
      replace r := kq hx5 r
      replace hB := after hB hx5
      refine wpList_store_mid rfl 30 (.tmp 4) (.tmp 67) rfl w.heap.size 0 (nodeC n (.slice none 0 0)).toArray rfl rfl (whole_there r rfl) cellsNode (nodeC_one _ _ _ _) ?_
      refine wpList_abs (fun W => Below w.heap.size w W /\ W.heap[w.heap.size]? = some (.cells (nodeC n (.slice none 0 0)).toArray 30 (0, 0)) /\ NodeQ (fun b => w.heap.size <= b) (17 - k) W (nodeC n (.slice none 0 0)) n) ⟨below_cells2 (Nat.le_refl _) _ _ _ hB, box_whole r rfl, NodeQ.kept_cells ((node_leafQ (f := 3) hn0 hsm).deep (by omega)) _⟩ ?_
      rintro wE ⟨hbE, rE, nE⟩
      refine wpList_nil ?_
      have HT := Lib.hid (And.intro hbE (And.intro rE nE))
      clear hB r hbE rE nE
      go_wp2
      exact bodyPost_ret (results_cell_row rfl _ _ w.heap.size 30 (nodeC n (.slice none 0 0)).toArray (0, 0) _ rfl HT.out.2.1 underlying30 rfl cellsNode) rfl ⟨_, _, rfl, HT.out.2.2, hnice.mono (by omega), HT.out.1⟩
theorem treeOf_any (X : List RawD) (a : Option Addr) (cap : Nat) (w : World) (hXo : ∀ x ∈ X, RawOk x) (hXl : X.length <= 9223372036854775807) (hrow : RawRow w a X) : Calls prog 9 #[.slice a X.length cap] w (NodeRet 17 122880 w) := by
 by_cases h0 : 0 < X.length
 ·have e0 : ((X.length : Int) == 0) = false := beq_eq_false_iff_ne.2 (by omega)
  have cU := fun W (h : Below w.heap.size w W) => under_any X a cap hXo hXl 14 0 h0 (by decide) (by decide) W (hrow.below h)
  go_enter func9, ntmps9
  go_upto_region 3 with (fail)
  refine wp_abs2 (On1 30 w zeroN) ⟨belx, heap_alloc_new _ _⟩ ?_
  rintro w1 ⟨hB, r⟩
  have hrl := heap_in r
  refine wp_region_lit ?_
  iterate 1 refine st ?_
  refine wpList_enter 22 #[.slice a X.length cap, .int .i64 0] (by kernel_rfl) (by kernel_rfl) _ (cU w1 hB) ?_
  rintro e w6 ⟨n, cs, rfl, hq, hnice, hx5⟩
  refine ⟨_, rfl, ?_⟩
  obtain ⟨a', m', c', rfl⟩ := hq.shape
  replace r := kq hx5 r
  replace hB := after hB hx5
  refine wpList_store_mid rfl 30 (.tmp 2) (.tmp 9) rfl w.heap.size 0 (nodeC n (.slice a' m' c')).toArray rfl rfl (whole_there r rfl) cellsNode (nodeC_one _ _ _ _) ?_
  refine wpList_abs (fun W => Below w.heap.size w W /\ W.heap[w.heap.size]? = some (.cells (nodeC n (.slice a' m' c')).toArray 30 (0, 0)) /\ NodeQ (fun b => w.heap.size <= b) 17 W (nodeC n (.slice a' m' c')) n) ⟨below_cells2 (Nat.le_refl _) _ _ _ hB, box_whole r rfl, NodeQ.kept_cells (hq.mono fun bb _ h => ⟨by omega, by omega⟩) _⟩ ?_
  rintro wE ⟨hbE, rE, nE⟩
  refine wpList_nil ?_
  have HT := Lib.hid (And.intro hbE (And.intro rE nE))
  clear hB r hbE rE nE
  go_wp2
  exact bodyPost_ret (results_cell_row rfl _ _ w.heap.size 30 (nodeC n (.slice a' m' c')).toArray (0, 0) _ rfl HT.out.2.1 underlying30 rfl cellsNode) rfl ⟨_, _, rfl, HT.out.2.2, hnice.mono (by decide), HT.out.1⟩
 ·have hX : X.length = 0 := by omega
  rw [hX]
  go_enter func9, ntmps9
  go_upto_region 2 with (fail)
  refine wp_abs2 (On1 30 w zeroN) ⟨belx, heap_alloc_new _ _⟩ ?_
  rintro w1 ⟨hB, r⟩
  refine wp_region_lit ?_
  refine wpList_enter 21 #[.int .i64 0] (by kernel_rfl) (by kernel_rfl) _ (treeNum_any 0 w1 (by unfold Int64; decide)) ?_
  rintro e w6 ⟨M, E, rfl, hx5, hM⟩
  refine ⟨_, rfl, ?_⟩
  replace r := kq hx5 r
  replace hB := after hB hx5
  refine Go.wr (.agg (nodeC (numT' M E) (.slice none 0 0)).toArray) w6 ?_
  refine wpList_store_mid rfl 30 (.tmp 2) (.tmp 7) rfl w.heap.size 0 (nodeC (numT' M E) (.slice none 0 0)).toArray rfl rfl (whole_there r rfl) cellsNode (nodeC_one _ _ _ _) ?_
  refine wpList_abs (On1 30 w (nodeC (numT' M E) (.slice none 0 0)).toArray) ⟨below_cells2 (Nat.le_refl _) _ _ _ hB, box_whole r rfl⟩ ?_
  rintro wE ⟨hbE, rE⟩
  refine wpList_nil ?_
  have HT := Lib.hid (And.intro hbE rE)
  clear hB r hbE rE
  go_wp2
  exact bodyPost_ret (results_cell_row rfl _ _ w.heap.size 30 (nodeC (numT' M E) (.slice none 0 0)).toArray (0, 0) _ rfl HT.out.2 underlying30 rfl cellsNode) rfl ⟨numT' M E, _, rfl, node_leafQ rfl (leaf_smT (by decide) (by omega) zero_sz zero_sz), (leaf_nice (by decide)).mono (by decide), HT.out.1⟩
end Go.Proofs.YtlpgigdegnbkmaaGreatDoor
