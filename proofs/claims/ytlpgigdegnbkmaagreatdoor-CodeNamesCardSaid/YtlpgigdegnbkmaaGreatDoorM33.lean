import Derived.Test.YtlpgigdegnbkmaaGreatDoorM32
set_option maxRecDepth 100000
set_option maxHeartbeats 8000000
namespace Go.Proofs.YtlpgigdegnbkmaaGreatDoor
open Go.RowKit Tab Tryz
structure StepOk (x : InsD) (i len : Nat) : Prop where
 go : x.op = 14 \/ x.op = 13 -> 0 <= x.a /\ (i : Int) + 1 + x.a < (len : Int)
 un : x.op = 13 -> 0 <= x.b /\ (i : Int) + 1 + x.b < (len : Int)
 few : x.op = 11 \/ x.op = 12 \/ x.op = 16 \/ x.op = 19 -> (0 <= x.a /\ x.a <= 400) /\ (x.op = 12 -> 0 <= x.b /\ x.b <= 400)
def StepD (p g : Nat) (c : ChkD) (w : World) (e : Ending) (W : World) : Prop := e = .returned (.tuple #[]) /\ ChkAt W p g c /\ KeptK p g w W
theorem step_any (p g : Nat) (c : ChkD) (i : Nat) (x : InsD) (f : FndD) (w : World) (hc : ChkAt w p g c) (hf : c.l[i]? = some f) (hi : i + 1 < c.l.length) (hl : c.l.length <= 1000000) (hv : -100000000 <= f.v /\ f.v <= 100000000) (hn : -100000000 <= f.n /\ f.n <= 100000000) (hs : StepOk x i c.l.length) :
  Calls prog 27 #[.pointer (some ⟨p, 0, none⟩), .int .i64 (i : Int), insV x] w (StepD p g (stepC c i x) w) := by
 have hfd : c.l.getD i FndD.zero = f := by rw [List.getD_eq_getElem?_getD, hf]; rfl
 have hV : stepC c i x = stepF (andC c f.k) i x f := by unfold stepC; rw [hfd]
 rw [hV]
 obtain ⟨C1, hC1⟩ : ∃ C1, andC c f.k = C1 := ⟨_, rfl⟩
 rw [hC1]
 have HC1 := Lib.hid hC1
 obtain ⟨R, hR⟩ : ∃ R, stepF C1 i x f = R := ⟨_, rfl⟩
 rw [hR]
 have HR := Lib.hid hR
 clear hC1 hR
 have hw : ∀ z : Int, -1000000000 <= z /\ z <= 1000000000 -> IntKind.i64.wrap z = z := fun z hz => by rw [IntWalk.i64_in _ (by omega)]
 have hne := hc.ne
 have hp := heap_in hc.box
 have hgl := heap_in hc.row
 have hcell : ∀ W : World, W.heap[g]? = w.heap[g]? -> W.rangeAt g (i * 3) (fndC f) := fun W h => by
  obtain ⟨f1, -, -⟩ := lie_cell (h.trans hc.row)
  refine range_of f1 ?_
  have := fndL_at c.l i f hf
  simpa [fndC] using this
 have HC := Lib.hid hc
 have hil : i < c.l.length := by omega
 obtain ⟨N, hN⟩ : ∃ N, c.l.length = N := ⟨_, rfl⟩
 have hiN : (i : Int) < (N : Int) := by omega
 have HS := Lib.hid hs
 have HN0 := Lib.hid (fun (j : Int) (h : x.op ≠ j) => (beq_eq_false_iff_ne.2 h : (x.op == j) = false))
 unfold insV
 clear hf hfd hV hc hs
 go_enter func27, ntmps27
 go_upto_region 1 with (fail)
 refine wp_abs2 (On1 43 w (insC x).toArray) ⟨belx, heap_alloc_new _ _⟩ ?_
 rintro w1 ⟨hb1, q1⟩
 have e1 : w1.heap[p]? = w.heap[p]? := hb1.block _ hp
 have e2 : w1.heap[g]? = w.heap[g]? := hb1.block _ hgl
 have p1 := e1.trans HC.out.box
 have g1 := e2.trans HC.out.row
 have rg1 := hcell w1 e2
 have zg1 := heap_in g1
 rw [hN] at p1
 obtain ⟨fp1, -, zp1⟩ := lie_cell p1
 obtain ⟨fq1, -, zq1⟩ := lie_cell q1
 have rgk : w1.cell? ⟨g, i * 3 + 2, none⟩ = some (.bool f.k) := rg1 2 _ rfl
 have rgv : w1.cell? ⟨g, i * 3, none⟩ = some (.int .i64 f.v) := rg1 0 _ rfl
 have rgn : w1.cell? ⟨g, i * 3 + 1, none⟩ = some (.int .i64 f.n) := rg1 1 _ rfl
 have kcc := gcell w1
 refine region_below (by kernel_rfl) (by kernel_rfl) ?_
 iterate 18 (go_big_quiet_step (fail))
 refine wpQuiet_nil ?_
 intro w2 hb2
 have p2 := (hb2.block _ zp1).trans p1
 have g2 := (hb2.block _ zg1).trans g1
 have q2 := (hb2.block _ zq1).trans q1
 have hb02 := after hb1 hb2
 have rk2 := (hb2.cell (p := ⟨g, i * 3 + 2, none⟩) zg1).trans rgk
 clear fp1 fq1 rgk rgv rgn rg1 kcc p1 g1 q1 e1 e2 hb1 hb2 hcell
 obtain ⟨fp2, dp2, zp2⟩ := lie_cell p2
 obtain ⟨fq2, -, zq2⟩ := lie_cell q2
 go_upto_region 2 with (fail)
 go_cut [6, 7] from 24 (fun sa sb wx => sa = .int .i64 f.v /\ sb = .int .i64 f.n /\ KeptK p g w wx /\ wx.heap[p]? = some (.cells #[.slice (some ⟨g, 0, none⟩) N N, .bool (c.ok && f.k)] 73 (0, 0)) /\ wx.heap[g]? = some (.cells (fndL c.l).toArray 75 (0, 0)) /\ wx.heap[w.heap.size]? = some (.cells (insC x).toArray 43 (0, 0)))
 case first =>
  have hne' : g ≠ p := fun e => hne e.symm
  have hnp' : w.heap.size ≠ p := by omega
  have fin : ∀ o : Bool, KeptK p g w (w2.setCell ⟨p, 1, none⟩ (.bool o)) /\ (w2.setCell ⟨p, 1, none⟩ (.bool o)).heap[p]? = some (.cells #[.slice (some ⟨g, 0, none⟩) N N, .bool o] 73 (0, 0)) /\ (w2.setCell ⟨p, 1, none⟩ (.bool o)).heap[g]? = some (.cells (fndL c.l).toArray 75 (0, 0)) /\ (w2.setCell ⟨p, 1, none⟩ (.bool o)).heap[w.heap.size]? = some (.cells (insC x).toArray 43 (0, 0)) := fun o => ⟨(KeptK.below hb02).trans ⟨⟨rfl, rfl, rfl⟩, setB_size, fun k _ h1 _ => heap_set_other h1⟩, heap_set_same p2, (heap_set_other hne').trans g2, (heap_set_other hnp').trans q2⟩
  have Fin := Lib.hid fin
  clear fin hb02 p2 g2 q2 HC hv hn hw
  generalize hok : c.ok = OK at fp2 ⊢
  generalize hfk : f.k = FK at rk2 ⊢
  cases OK
  ·go_wp2
   go_meet
   rw [hok]
   exact ⟨rfl, rfl, Fin.out false⟩
  ·cases FK
   all_goals (
    go_wp2
    go_meet
    rw [hok, hfk]
    first
     | exact ⟨rfl, rfl, Fin.out true⟩
     | exact ⟨rfl, rfl, Fin.out false⟩)
 case rest =>
  obtain ⟨rfl, rfl, hK3, p3, g3, q3⟩ := hcut
  unfold insC at q3
  clear fp2 dp2 fq2 rk2 p2 g2 q2 hb02
  have hCl : C1.l = c.l := by rw [<- HC1.out]; rfl
  have hCo : C1.ok = (c.ok && f.k) := by rw [<- HC1.out]; rfl
  have k3 : ChkAt wc p g C1 := ⟨by rw [p3, hCl, hCo, hN], by rw [g3, hCl]⟩
  have hNC : C1.l.length = N := by rw [hCl, hN]
  clear p3 g3
  obtain ⟨fq3, -, zq3⟩ := lie_cell q3
  have hE : x.op = 14 \/ x.op = 13 \/ x.op = 17 \/ x.op = 19 \/ x.op = 8 \/ x.op = 9 \/ x.op = 10 \/ x.op = 11 \/ x.op = 12 \/ x.op = 16 \/ (x.op ≠ 14 /\ x.op ≠ 13 /\ x.op ≠ 17 /\ x.op ≠ 19 /\ x.op ≠ 8 /\ x.op ≠ 9 /\ x.op ≠ 10 /\ x.op ≠ 11 /\ x.op ≠ 12 /\ x.op ≠ 16) := by omega
  rcases hE with e | e | e | e | e | e | e | e | e | e | e
  ·skip
   have hF : R = atC C1 (goI i x.a) f.v f.n := by rw [<- HR.out]; unfold stepF; simp only [e]; rfl
   clear HR
   subst hF
   have ha := HS.out.go (.inl e)
   rw [hN] at ha
   have n14 : (x.op == 14) = true := beq_iff_eq.2 e
   have n13 := HN0.out 13 (by omega)
   have n17 := HN0.out 17 (by omega)
   have n19 := HN0.out 19 (by omega)
   have n8 := HN0.out 8 (by omega)
   have n9 := HN0.out 9 (by omega)
   have n10 := HN0.out 10 (by omega)
   have n11 := HN0.out 11 (by omega)
   have n12 := HN0.out 12 (by omega)
   have n16 := HN0.out 16 (by omega)
   clear e HN0
   have hz1 : IntKind.i64.wrap ((i : Int) + 1) = (i : Int) + 1 := hw _ (by omega)
   have hz2 : IntKind.i64.wrap ((i : Int) + 1 + x.a) = ((goI i x.a : Nat) : Int) := by rw [hw _ (by omega)]; unfold goI; omega
   have cA := at_any p g C1 (goI i x.a) f.v f.n wc k3 (by unfold goI; omega) (by omega)
   generalize goI i x.a = G at *
   go_wp2_with fail
   refine cA.mono ?_; rintro e w5 ⟨rfl, k5, hK5⟩
   go_wp2
   go_end0
   exact ⟨rfl, k5, hK3.trans hK5⟩
  ·skip
   have hF : R = atC (atC (atC C1 (goI i x.a) (f.v - 1) f.n) (goI i x.b) f.v f.n) (i + 1) (f.v - 1) f.n := by rw [<- HR.out]; unfold stepF; simp only [e]; rfl
   clear HR
   subst hF
   have ha := HS.out.go (.inr e)
   have hb := HS.out.un e
   rw [hN] at ha hb
   have n14 := HN0.out 14 (by omega)
   have n13 : (x.op == 13) = true := beq_iff_eq.2 e
   have n17 := HN0.out 17 (by omega)
   have n19 := HN0.out 19 (by omega)
   have n8 := HN0.out 8 (by omega)
   have n9 := HN0.out 9 (by omega)
   have n10 := HN0.out 10 (by omega)
   have n11 := HN0.out 11 (by omega)
   have n12 := HN0.out 12 (by omega)
   have n16 := HN0.out 16 (by omega)
   clear e HN0
   have hz0 : IntKind.i64.wrap ((i : Int) + 1) = (i : Int) + 1 := hw _ (by omega)
   have hz2 : IntKind.i64.wrap ((i : Int) + 1 + x.a) = ((goI i x.a : Nat) : Int) := by rw [hw _ (by omega)]; unfold goI; omega
   have hz3 : IntKind.i64.wrap ((i : Int) + 1 + x.b) = ((goI i x.b : Nat) : Int) := by rw [hw _ (by omega)]; unfold goI; omega
   have hz4 : IntKind.i64.wrap (f.v - 1) = f.v - 1 := hw _ (by omega)
   have hz5 : (i : Int) + 1 = ((i + 1 : Nat) : Int) := by omega
   have cA := at_any p g C1 (goI i x.a) (f.v - 1) f.n wc k3 (by unfold goI; omega) (by omega)
   have cB := fun W h => at_any p g (atC C1 (goI i x.a) (f.v - 1) f.n) (goI i x.b) f.v f.n W h (by rw [atC_len]; unfold goI; omega) (by rw [atC_len]; omega)
   have cC := fun W h => at_any p g (atC (atC C1 (goI i x.a) (f.v - 1) f.n) (goI i x.b) f.v f.n) (i + 1) (f.v - 1) f.n W h (by rw [atC_len, atC_len]; omega) (by rw [atC_len, atC_len]; omega)
   generalize goI i x.a = G at *
   generalize goI i x.b = H at *
   have hnp : w.heap.size ≠ p := by omega
   have hng : w.heap.size ≠ g := by omega
   have HZ5 := Lib.hid hz5
   clear hz5
   go_wp2_with fail
   refine cA.mono ?_; rintro e w5 ⟨rfl, k5, hK5⟩
   have q5 := (hK5.2.2 _ (heap_in q3) hnp hng).trans q3
   clear fq3
   obtain ⟨fq5, -, zq5⟩ := lie_cell q5
   go_wp2_with fail
   refine (cB _ k5).mono ?_; rintro e w6 ⟨rfl, k6, hK6⟩
   clear fq5
   go_upto_region 32 with (fail)
   have hz1 : IntKind.i64.wrap ((i : Int) + 1) = ((i + 1 : Nat) : Int) := by rw [hz0, HZ5.out]
   clear hz0
   go_wp2_with fail
   refine (cC _ k6).mono ?_; rintro e w7 ⟨rfl, k7, hK7⟩
   go_wp2
   go_end0
   exact ⟨rfl, k7, ((hK3.trans hK5).trans hK6).trans hK7⟩
  ·skip
   have hF : R = atC C1 (i + 1) (f.v - 1) (f.n + 1) := by rw [<- HR.out]; unfold stepF; simp only [e]; rfl
   clear HR
   subst hF
   have n14 := HN0.out 14 (by omega)
   have n13 := HN0.out 13 (by omega)
   have n17 : (x.op == 17) = true := beq_iff_eq.2 e
   have n19 := HN0.out 19 (by omega)
   have n8 := HN0.out 8 (by omega)
   have n9 := HN0.out 9 (by omega)
   have n10 := HN0.out 10 (by omega)
   have n11 := HN0.out 11 (by omega)
   have n12 := HN0.out 12 (by omega)
   have n16 := HN0.out 16 (by omega)
   clear e HN0
   have hz1 : IntKind.i64.wrap ((i : Int) + 1) = ((i + 1 : Nat) : Int) := by rw [hw _ (by omega)]; omega
   have hz2 : IntKind.i64.wrap (f.v - 1) = f.v - 1 := hw _ (by omega)
   have hz3 : IntKind.i64.wrap (f.n + 1) = f.n + 1 := hw _ (by omega)
   have hz4 : IntKind.i64.wrap (f.v + 1) = f.v + 1 := hw _ (by omega)
   have cA := at_any p g C1 (i + 1) (f.v - 1) (f.n + 1) wc k3 (by omega) (by omega)
   go_wp2_with fail
   refine cA.mono ?_; rintro e w5 ⟨rfl, k5, hK5⟩
   go_wp2
   go_end0
   exact ⟨rfl, k5, hK3.trans hK5⟩
  ·skip
   have hF : R = atC C1 (i + 1) f.v (f.n - x.a) := by rw [<- HR.out]; unfold stepF; simp only [e]; rfl
   clear HR
   subst hF
   have ha := (HS.out.few (by simp [e])).1
   have n14 := HN0.out 14 (by omega)
   have n13 := HN0.out 13 (by omega)
   have n17 := HN0.out 17 (by omega)
   have n19 : (x.op == 19) = true := beq_iff_eq.2 e
   have n8 := HN0.out 8 (by omega)
   have n9 := HN0.out 9 (by omega)
   have n10 := HN0.out 10 (by omega)
   have n11 := HN0.out 11 (by omega)
   have n12 := HN0.out 12 (by omega)
   have n16 := HN0.out 16 (by omega)
   clear e HN0
   have hz1 : IntKind.i64.wrap ((i : Int) + 1) = ((i + 1 : Nat) : Int) := by rw [hw _ (by omega)]; omega
   have hz2 : IntKind.i64.wrap (f.v - 1) = f.v - 1 := hw _ (by omega)
   have hz3 : IntKind.i64.wrap (f.n + 1) = f.n + 1 := hw _ (by omega)
   have hz4 : IntKind.i64.wrap (f.v + 1) = f.v + 1 := hw _ (by omega)
   have hz5 : IntKind.i64.wrap (f.n - x.a) = f.n - x.a := hw _ (by omega)
   have cA := at_any p g C1 (i + 1) (f.v) (f.n - x.a) wc k3 (by omega) (by omega)
   go_wp2_with fail
   refine cA.mono ?_; rintro e w5 ⟨rfl, k5, hK5⟩
   go_wp2
   go_end0
   exact ⟨rfl, k5, hK3.trans hK5⟩
  ·skip
   obtain ⟨D, hD⟩ : ∃ D, decide (1 <= f.v - 1) = D := ⟨_, rfl⟩
   have hF : R = atC (andC C1 D) (i + 1) (f.v - 1) f.n := by rw [<- HR.out, <- hD]; unfold stepF; simp only [e]; rfl
   clear HR
   subst hF
   have n14 := HN0.out 14 (by omega)
   have n13 := HN0.out 13 (by omega)
   have n17 := HN0.out 17 (by omega)
   have n19 := HN0.out 19 (by omega)
   have n8 : (x.op == 8) = true := beq_iff_eq.2 e
   have n9 := HN0.out 9 (by omega)
   have n10 := HN0.out 10 (by omega)
   have n11 := HN0.out 11 (by omega)
   have n12 := HN0.out 12 (by omega)
   have n16 := HN0.out 16 (by omega)
   clear e HN0
   have hz1 : IntKind.i64.wrap ((i : Int) + 1) = ((i + 1 : Nat) : Int) := by rw [hw _ (by omega)]; omega
   have hz2 : IntKind.i64.wrap (f.v - 1) = f.v - 1 := hw _ (by omega)
   have p3 := k3.box
   obtain ⟨fp3, dp3, zp3⟩ := lie_cell p3
   rw [hNC] at fp3
   have hne' : g ≠ p := fun e => hne e.symm
   have kk : ∀ o, o = (C1.ok && D) -> ChkAt (wc.setCell ⟨p, 1, none⟩ (.bool o)) p g (andC C1 D) := fun o ho => ⟨by rw [heap_set_same p3, ho]; rfl, (heap_set_other hne').trans k3.row⟩
   have hKK : ∀ o, KeptK p g w (wc.setCell ⟨p, 1, none⟩ (.bool o)) := fun o => hK3.trans ⟨⟨rfl, rfl, rfl⟩, setB_size, fun k _ h1 _ => heap_set_other h1⟩
   have cA := fun o ho => at_any p g (andC C1 D) (i + 1) (f.v - 1) f.n (wc.setCell ⟨p, 1, none⟩ (.bool o)) (kk o ho) (by show i + 1 < C1.l.length; omega) (by show C1.l.length <= 1000000; omega)
   have HKK := Lib.hid hKK
   clear hKK kk hK3 k3 p3 hw hv hn 
   generalize C1.ok = O1 at *
   clear hCo hCl hNC hil hN hi hl hne hne' hp hgl zp3  
   cases O1
   ·
    go_wp2_with fail
    refine (cA false rfl).mono ?_; rintro e w5 ⟨rfl, k5, hK5⟩
    go_wp2
    go_end0
    exact ⟨rfl, k5, (HKK.out false).trans hK5⟩
   ·cases D
    ·
     go_wp2_with fail
     refine (cA false rfl).mono ?_; rintro e w5 ⟨rfl, k5, hK5⟩
     go_wp2
     go_end0
     exact ⟨rfl, k5, (HKK.out false).trans hK5⟩
    ·
     go_wp2_with fail
     refine (cA true rfl).mono ?_; rintro e w5 ⟨rfl, k5, hK5⟩
     go_wp2
     go_end0
     exact ⟨rfl, k5, (HKK.out true).trans hK5⟩
  ·skip
   obtain ⟨D, hD⟩ : ∃ D, decide (1 <= f.v) = D := ⟨_, rfl⟩
   have hF : R = atC (andC C1 D) (i + 1) f.v f.n := by rw [<- HR.out, <- hD]; unfold stepF; simp only [e]; rfl
   clear HR
   subst hF
   have n14 := HN0.out 14 (by omega)
   have n13 := HN0.out 13 (by omega)
   have n17 := HN0.out 17 (by omega)
   have n19 := HN0.out 19 (by omega)
   have n8 := HN0.out 8 (by omega)
   have n9 : (x.op == 9) = true := beq_iff_eq.2 e
   have n10 := HN0.out 10 (by omega)
   have n11 := HN0.out 11 (by omega)
   have n12 := HN0.out 12 (by omega)
   have n16 := HN0.out 16 (by omega)
   clear e HN0
   have hz1 : IntKind.i64.wrap ((i : Int) + 1) = ((i + 1 : Nat) : Int) := by rw [hw _ (by omega)]; omega
   have p3 := k3.box
   obtain ⟨fp3, dp3, zp3⟩ := lie_cell p3
   rw [hNC] at fp3
   have hne' : g ≠ p := fun e => hne e.symm
   have kk : ∀ o, o = (C1.ok && D) -> ChkAt (wc.setCell ⟨p, 1, none⟩ (.bool o)) p g (andC C1 D) := fun o ho => ⟨by rw [heap_set_same p3, ho]; rfl, (heap_set_other hne').trans k3.row⟩
   have hKK : ∀ o, KeptK p g w (wc.setCell ⟨p, 1, none⟩ (.bool o)) := fun o => hK3.trans ⟨⟨rfl, rfl, rfl⟩, setB_size, fun k _ h1 _ => heap_set_other h1⟩
   have cA := fun o ho => at_any p g (andC C1 D) (i + 1) (f.v) f.n (wc.setCell ⟨p, 1, none⟩ (.bool o)) (kk o ho) (by show i + 1 < C1.l.length; omega) (by show C1.l.length <= 1000000; omega)
   have HKK := Lib.hid hKK
   clear hKK kk hK3 k3 p3 hw hv hn 
   generalize C1.ok = O1 at *
   clear hCo hCl hNC hil hN hi hl hne hne' hp hgl zp3  
   cases O1
   ·
    go_wp2_with fail
    refine (cA false rfl).mono ?_; rintro e w5 ⟨rfl, k5, hK5⟩
    go_wp2
    go_end0
    exact ⟨rfl, k5, (HKK.out false).trans hK5⟩
   ·cases D
    ·
     go_wp2_with fail
     refine (cA false rfl).mono ?_; rintro e w5 ⟨rfl, k5, hK5⟩
     go_wp2
     go_end0
     exact ⟨rfl, k5, (HKK.out false).trans hK5⟩
    ·
     go_wp2_with fail
     refine (cA true rfl).mono ?_; rintro e w5 ⟨rfl, k5, hK5⟩
     go_wp2
     go_end0
     exact ⟨rfl, k5, (HKK.out true).trans hK5⟩
  ·skip
   obtain ⟨D, hD⟩ : ∃ D, decide (1 <= f.v) = D := ⟨_, rfl⟩
   have hF : R = atC (andC C1 D) (i + 1) f.v f.n := by rw [<- HR.out, <- hD]; unfold stepF; simp only [e]; rfl
   clear HR
   subst hF
   have n14 := HN0.out 14 (by omega)
   have n13 := HN0.out 13 (by omega)
   have n17 := HN0.out 17 (by omega)
   have n19 := HN0.out 19 (by omega)
   have n8 := HN0.out 8 (by omega)
   have n9 := HN0.out 9 (by omega)
   have n10 : (x.op == 10) = true := beq_iff_eq.2 e
   have n11 := HN0.out 11 (by omega)
   have n12 := HN0.out 12 (by omega)
   have n16 := HN0.out 16 (by omega)
   clear e HN0
   have hz1 : IntKind.i64.wrap ((i : Int) + 1) = ((i + 1 : Nat) : Int) := by rw [hw _ (by omega)]; omega
   have p3 := k3.box
   obtain ⟨fp3, dp3, zp3⟩ := lie_cell p3
   rw [hNC] at fp3
   have hne' : g ≠ p := fun e => hne e.symm
   have kk : ∀ o, o = (C1.ok && D) -> ChkAt (wc.setCell ⟨p, 1, none⟩ (.bool o)) p g (andC C1 D) := fun o ho => ⟨by rw [heap_set_same p3, ho]; rfl, (heap_set_other hne').trans k3.row⟩
   have hKK : ∀ o, KeptK p g w (wc.setCell ⟨p, 1, none⟩ (.bool o)) := fun o => hK3.trans ⟨⟨rfl, rfl, rfl⟩, setB_size, fun k _ h1 _ => heap_set_other h1⟩
   have cA := fun o ho => at_any p g (andC C1 D) (i + 1) (f.v) f.n (wc.setCell ⟨p, 1, none⟩ (.bool o)) (kk o ho) (by show i + 1 < C1.l.length; omega) (by show C1.l.length <= 1000000; omega)
   have HKK := Lib.hid hKK
   clear hKK kk hK3 k3 p3 hw hv hn 
   generalize C1.ok = O1 at *
   clear hCo hCl hNC hil hN hi hl hne hne' hp hgl zp3  
   cases O1
   ·
    go_wp2_with fail
    refine (cA false rfl).mono ?_; rintro e w5 ⟨rfl, k5, hK5⟩
    go_wp2
    go_end0
    exact ⟨rfl, k5, (HKK.out false).trans hK5⟩
   ·cases D
    ·
     go_wp2_with fail
     refine (cA false rfl).mono ?_; rintro e w5 ⟨rfl, k5, hK5⟩
     go_wp2
     go_end0
     exact ⟨rfl, k5, (HKK.out false).trans hK5⟩
    ·
     go_wp2_with fail
     refine (cA true rfl).mono ?_; rintro e w5 ⟨rfl, k5, hK5⟩
     go_wp2
     go_end0
     exact ⟨rfl, k5, (HKK.out true).trans hK5⟩
  ·skip
   obtain ⟨D, hD⟩ : ∃ D, decide (0 <= f.v - x.a) = D := ⟨_, rfl⟩
   have hF : R = atC (andC C1 D) (i + 1) (f.v - x.a + 1) f.n := by rw [<- HR.out, <- hD]; unfold stepF; simp only [e]; rfl
   clear HR
   subst hF
   have ha := (HS.out.few (by simp [e])).1
   have n14 := HN0.out 14 (by omega)
   have n13 := HN0.out 13 (by omega)
   have n17 := HN0.out 17 (by omega)
   have n19 := HN0.out 19 (by omega)
   have n8 := HN0.out 8 (by omega)
   have n9 := HN0.out 9 (by omega)
   have n10 := HN0.out 10 (by omega)
   have n11 : (x.op == 11) = true := beq_iff_eq.2 e
   have n12 := HN0.out 12 (by omega)
   have n16 := HN0.out 16 (by omega)
   clear e HN0
   have hD2 : decide (x.a <= f.v) = D := (decide_eq_decide.2 (by omega)).trans hD
   have hz1 : IntKind.i64.wrap ((i : Int) + 1) = ((i + 1 : Nat) : Int) := by rw [hw _ (by omega)]; omega
   have hz2 : IntKind.i64.wrap (f.v - x.a) = f.v - x.a := hw _ (by omega)
   have hz3 : IntKind.i64.wrap (f.v - x.a + 1) = f.v - x.a + 1 := hw _ (by omega)
   have p3 := k3.box
   obtain ⟨fp3, dp3, zp3⟩ := lie_cell p3
   rw [hNC] at fp3
   have hne' : g ≠ p := fun e => hne e.symm
   have kk : ∀ o, o = (C1.ok && D) -> ChkAt (wc.setCell ⟨p, 1, none⟩ (.bool o)) p g (andC C1 D) := fun o ho => ⟨by rw [heap_set_same p3, ho]; rfl, (heap_set_other hne').trans k3.row⟩
   have hKK : ∀ o, KeptK p g w (wc.setCell ⟨p, 1, none⟩ (.bool o)) := fun o => hK3.trans ⟨⟨rfl, rfl, rfl⟩, setB_size, fun k _ h1 _ => heap_set_other h1⟩
   have cA := fun o ho => at_any p g (andC C1 D) (i + 1) (f.v - x.a + 1) f.n (wc.setCell ⟨p, 1, none⟩ (.bool o)) (kk o ho) (by show i + 1 < C1.l.length; omega) (by show C1.l.length <= 1000000; omega)
   have HKK := Lib.hid hKK
   clear hKK kk hK3 k3 p3 hw hv hn 
   generalize C1.ok = O1 at *
   clear hCo hCl hNC hil hN hi hl hne hne' hp hgl zp3 ha 
   cases O1
   ·
    go_wp2_with fail
    refine (cA false rfl).mono ?_; rintro e w5 ⟨rfl, k5, hK5⟩
    go_wp2
    go_end0
    exact ⟨rfl, k5, (HKK.out false).trans hK5⟩
   ·cases D
    ·
     go_wp2_with fail
     refine (cA false rfl).mono ?_; rintro e w5 ⟨rfl, k5, hK5⟩
     go_wp2
     go_end0
     exact ⟨rfl, k5, (HKK.out false).trans hK5⟩
    ·
     go_wp2_with fail
     refine (cA true rfl).mono ?_; rintro e w5 ⟨rfl, k5, hK5⟩
     go_wp2
     go_end0
     exact ⟨rfl, k5, (HKK.out true).trans hK5⟩
  ·skip
   obtain ⟨D, hD⟩ : ∃ D, decide (0 <= f.v - x.a * x.b) = D := ⟨_, rfl⟩
   have hF : R = atC (andC C1 D) (i + 1) (f.v - x.a * x.b + 1) f.n := by rw [<- HR.out, <- hD]; unfold stepF; simp only [e]; rfl
   clear HR
   subst hF
   have ha := HS.out.few (by simp [e])
   have hb := ha.2 e
   replace ha := ha.1
   have HM := Lib.hid (show 0 <= x.a * x.b /\ x.a * x.b <= 160000 from ⟨Int.mul_nonneg ha.1 hb.1, by have := Int.mul_le_mul ha.2 hb.2 hb.1 (by omega : (0 : Int) <= 400); omega⟩)
   have n14 := HN0.out 14 (by omega)
   have n13 := HN0.out 13 (by omega)
   have n17 := HN0.out 17 (by omega)
   have n19 := HN0.out 19 (by omega)
   have n8 := HN0.out 8 (by omega)
   have n9 := HN0.out 9 (by omega)
   have n10 := HN0.out 10 (by omega)
   have n11 := HN0.out 11 (by omega)
   have n12 : (x.op == 12) = true := beq_iff_eq.2 e
   have n16 := HN0.out 16 (by omega)
   clear e HN0
   have hD2 : decide (x.a * x.b <= f.v) = D := (decide_eq_decide.2 (by omega)).trans hD
   have hz1 : IntKind.i64.wrap ((i : Int) + 1) = ((i + 1 : Nat) : Int) := by rw [hw _ (by omega)]; omega
   have hm : 0 <= x.a * x.b /\ x.a * x.b <= 160000 := HM.out
   have hz2 : IntKind.i64.wrap (x.a * x.b) = x.a * x.b := hw _ (by omega)
   have hz3 : IntKind.i64.wrap (f.v - x.a * x.b) = f.v - x.a * x.b := hw _ (by omega)
   have hz4 : IntKind.i64.wrap (f.v - x.a * x.b + 1) = f.v - x.a * x.b + 1 := hw _ (by omega)
   have p3 := k3.box
   obtain ⟨fp3, dp3, zp3⟩ := lie_cell p3
   rw [hNC] at fp3
   have hne' : g ≠ p := fun e => hne e.symm
   have kk : ∀ o, o = (C1.ok && D) -> ChkAt (wc.setCell ⟨p, 1, none⟩ (.bool o)) p g (andC C1 D) := fun o ho => ⟨by rw [heap_set_same p3, ho]; rfl, (heap_set_other hne').trans k3.row⟩
   have hKK : ∀ o, KeptK p g w (wc.setCell ⟨p, 1, none⟩ (.bool o)) := fun o => hK3.trans ⟨⟨rfl, rfl, rfl⟩, setB_size, fun k _ h1 _ => heap_set_other h1⟩
   have cA := fun o ho => at_any p g (andC C1 D) (i + 1) (f.v - x.a * x.b + 1) f.n (wc.setCell ⟨p, 1, none⟩ (.bool o)) (kk o ho) (by show i + 1 < C1.l.length; omega) (by show C1.l.length <= 1000000; omega)
   have HKK := Lib.hid hKK
   clear hKK kk hK3 k3 p3 hw hv hn hm
   generalize C1.ok = O1 at *
   clear hCo hCl hNC hil hN hi hl hne hne' hp hgl zp3 ha hb
   cases O1
   ·
    go_wp2_with fail
    refine (cA false rfl).mono ?_; rintro e w5 ⟨rfl, k5, hK5⟩
    go_wp2
    go_end0
    exact ⟨rfl, k5, (HKK.out false).trans hK5⟩
   ·cases D
    ·
     go_wp2_with fail
     refine (cA false rfl).mono ?_; rintro e w5 ⟨rfl, k5, hK5⟩
     go_wp2
     go_end0
     exact ⟨rfl, k5, (HKK.out false).trans hK5⟩
    ·
     go_wp2_with fail
     refine (cA true rfl).mono ?_; rintro e w5 ⟨rfl, k5, hK5⟩
     go_wp2
     go_end0
     exact ⟨rfl, k5, (HKK.out true).trans hK5⟩
  ·skip
   obtain ⟨D, hD⟩ : ∃ D, decide (1 <= f.v - x.a) = D := ⟨_, rfl⟩
   have hF : R = atC (andC C1 D) (i + 1) (f.v - x.a) f.n := by rw [<- HR.out, <- hD]; unfold stepF; simp only [e]; rfl
   clear HR
   subst hF
   have ha := (HS.out.few (by simp [e])).1
   have n14 := HN0.out 14 (by omega)
   have n13 := HN0.out 13 (by omega)
   have n17 := HN0.out 17 (by omega)
   have n19 := HN0.out 19 (by omega)
   have n8 := HN0.out 8 (by omega)
   have n9 := HN0.out 9 (by omega)
   have n10 := HN0.out 10 (by omega)
   have n11 := HN0.out 11 (by omega)
   have n12 := HN0.out 12 (by omega)
   have n16 : (x.op == 16) = true := beq_iff_eq.2 e
   clear e HN0
   have hz1 : IntKind.i64.wrap ((i : Int) + 1) = ((i + 1 : Nat) : Int) := by rw [hw _ (by omega)]; omega
   have hz2 : IntKind.i64.wrap (f.v - x.a) = f.v - x.a := hw _ (by omega)
   have p3 := k3.box
   obtain ⟨fp3, dp3, zp3⟩ := lie_cell p3
   rw [hNC] at fp3
   have hne' : g ≠ p := fun e => hne e.symm
   have kk : ∀ o, o = (C1.ok && D) -> ChkAt (wc.setCell ⟨p, 1, none⟩ (.bool o)) p g (andC C1 D) := fun o ho => ⟨by rw [heap_set_same p3, ho]; rfl, (heap_set_other hne').trans k3.row⟩
   have hKK : ∀ o, KeptK p g w (wc.setCell ⟨p, 1, none⟩ (.bool o)) := fun o => hK3.trans ⟨⟨rfl, rfl, rfl⟩, setB_size, fun k _ h1 _ => heap_set_other h1⟩
   have cA := fun o ho => at_any p g (andC C1 D) (i + 1) (f.v - x.a) f.n (wc.setCell ⟨p, 1, none⟩ (.bool o)) (kk o ho) (by show i + 1 < C1.l.length; omega) (by show C1.l.length <= 1000000; omega)
   have HKK := Lib.hid hKK
   clear hKK kk hK3 k3 p3 hw hv hn 
   generalize C1.ok = O1 at *
   clear hCo hCl hNC hil hN hi hl hne hne' hp hgl zp3 ha 
   cases O1
   ·
    go_wp2_with fail
    refine (cA false rfl).mono ?_; rintro e w5 ⟨rfl, k5, hK5⟩
    go_wp2
    go_end0
    exact ⟨rfl, k5, (HKK.out false).trans hK5⟩
   ·cases D
    ·
     go_wp2_with fail
     refine (cA false rfl).mono ?_; rintro e w5 ⟨rfl, k5, hK5⟩
     go_wp2
     go_end0
     exact ⟨rfl, k5, (HKK.out false).trans hK5⟩
    ·
     go_wp2_with fail
     refine (cA true rfl).mono ?_; rintro e w5 ⟨rfl, k5, hK5⟩
     go_wp2
     go_end0
     exact ⟨rfl, k5, (HKK.out true).trans hK5⟩
  ·skip
   obtain ⟨k1, k2, k3', k4, k5, k6, k7, k8, k9, k10⟩ := e
   have hF : R = atC C1 (i + 1) (f.v + 1) f.n := by rw [<- HR.out]; unfold stepF; rw [if_neg k1, if_neg k2, if_neg k3', if_neg k4, if_neg k5, if_neg k6, if_neg k7, if_neg k8, if_neg k9, if_neg k10]
   clear HR
   subst hF
   have n14 := HN0.out 14 (by omega)
   have n13 := HN0.out 13 (by omega)
   have n17 := HN0.out 17 (by omega)
   have n19 := HN0.out 19 (by omega)
   have n8 := HN0.out 8 (by omega)
   have n9 := HN0.out 9 (by omega)
   have n10 := HN0.out 10 (by omega)
   have n11 := HN0.out 11 (by omega)
   have n12 := HN0.out 12 (by omega)
   have n16 := HN0.out 16 (by omega)
   clear k1 k2 k3' k4 k5 k6 k7 k8 k9 k10 HN0
   have hz1 : IntKind.i64.wrap ((i : Int) + 1) = ((i + 1 : Nat) : Int) := by rw [hw _ (by omega)]; omega
   have hz2 : IntKind.i64.wrap (f.v - 1) = f.v - 1 := hw _ (by omega)
   have hz3 : IntKind.i64.wrap (f.n + 1) = f.n + 1 := hw _ (by omega)
   have hz4 : IntKind.i64.wrap (f.v + 1) = f.v + 1 := hw _ (by omega)
   have cA := at_any p g C1 (i + 1) (f.v + 1) (f.n) wc k3 (by omega) (by omega)
   go_wp2_with fail
   refine cA.mono ?_; rintro e w5 ⟨rfl, k5, hK5⟩
   go_wp2
   go_end0
   exact ⟨rfl, k5, hK3.trans hK5⟩
end Go.Proofs.YtlpgigdegnbkmaaGreatDoor
