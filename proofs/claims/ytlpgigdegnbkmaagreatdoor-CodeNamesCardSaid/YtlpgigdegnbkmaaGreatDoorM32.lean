import Derived.Test.YtlpgigdegnbkmaaGreatDoorM29
import Derived.Test.YtlpgigdegnbkmaaGreatDoorM30
import Derived.Test.YtlpgigdegnbkmaaGreatDoorM31
set_option maxRecDepth 100000
set_option maxHeartbeats 4000000
namespace Go.Proofs.YtlpgigdegnbkmaaGreatDoor
open Go.RowKit Tab Tryz
theorem fields_any (x : InsD) (b blocks behind : Int) (h : FOk x b blocks behind) (w : World) (hg : Good w) : Calls prog 26 #[insV x, .int .i64 b, .int .i64 blocks, .int .i64 behind] w (Ret (.bool (fieldsC x b blocks behind)) w) := by
 by_cases ha : x.op = 1 \/ x.op = 2 \/ x.op = 3 \/ x.op = 4 \/ x.op = 5 \/ x.op = 6 \/ x.op = 7
 ·exact fields_a x b blocks behind h w hg ha
 by_cases hb : x.op = 8 \/ x.op = 9 \/ x.op = 10 \/ x.op = 11 \/ x.op = 12 \/ x.op = 13
 ·exact fields_b x b blocks behind h w hg hb
 exact fields_c x b blocks behind h w hg (by omega)
def fndC (f : FndD) : List Value := [.int .i64 f.v, .int .i64 f.n, .bool f.k]
def fndL (l : List FndD) : List Value := l.flatMap fndC
theorem fndL_len (l : List FndD) : (fndL l).length = l.length * 3 := by
 induction l with
 | nil => rfl
 | cons x l ih =>
  show (fndC x ++ fndL l).length = _
  rw [List.length_append, ih]; simp [fndC]; omega
theorem fndL_at : ∀ (l : List FndD) (i : Nat) (f : FndD), l[i]? = some f -> ((fndL l).drop (i * 3)).take 3 = fndC f
 | [], i, f, h => by simp at h
 | x :: l, 0, f, h => by
  simp at h; subst h
  rfl
 | x :: l, i + 1, f, h => by
  have := fndL_at l i f (by simpa using h)
  show ((fndC x ++ fndL l).drop ((i + 1) * 3)).take 3 = _
  rw [List.drop_append, List.drop_of_length_le (by simp [fndC] <;> omega), List.nil_append, show (i + 1) * 3 - (fndC x).length = i * 3 by simp [fndC] <;> omega]
  exact this
theorem fndL_set : ∀ (l : List FndD) (i : Nat) (f : FndD), i < l.length -> (fndL l).take (i * 3) ++ fndC f ++ (fndL l).drop (i * 3 + 3) = fndL (l.set i f)
 | [], i, f, h => by simp at h
 | x :: l, 0, f, h => rfl
 | x :: l, i + 1, f, h => by
  have := fndL_set l i f (by simpa using h)
  show (fndC x ++ fndL l).take ((i + 1) * 3) ++ fndC f ++ (fndC x ++ fndL l).drop ((i + 1) * 3 + 3) = fndC x ++ fndL (l.set i f)
  rw [List.take_append, List.take_of_length_le (by simp [fndC] <;> omega), List.drop_append, List.drop_of_length_le (by simp [fndC] <;> omega), <- this]
  rw [show (i + 1) * 3 - (fndC x).length = i * 3 by simp [fndC] <;> omega, show (i + 1) * 3 + 3 - (fndC x).length = i * 3 + 3 by simp [fndC] <;> omega]
  simp
structure ChkAt (w : World) (p g : Nat) (c : ChkD) : Prop where
 box : w.heap[p]? = some (.cells #[.slice (some ⟨g, 0, none⟩) c.l.length c.l.length, .bool c.ok] 73 (0, 0))
 row : w.heap[g]? = some (.cells (fndL c.l).toArray 75 (0, 0))
def KeptK (p g : Nat) (w W : World) : Prop := (W.os = w.os /\ W.tape = w.tape /\ W.output = w.output) /\ w.heap.size <= W.heap.size /\ ∀ k, k < w.heap.size -> k ≠ p -> k ≠ g -> W.heap[k]? = w.heap[k]?
theorem KeptK.refl (p g : Nat) (w : World) : KeptK p g w w := ⟨⟨rfl, rfl, rfl⟩, Nat.le_refl _, fun _ _ _ _ => rfl⟩
theorem KeptK.trans {p g : Nat} {w W U : World} (a : KeptK p g w W) (b : KeptK p g W U) : KeptK p g w U := ⟨⟨b.1.1.trans a.1.1, b.1.2.1.trans a.1.2.1, b.1.2.2.trans a.1.2.2⟩, Nat.le_trans a.2.1 b.2.1, fun k h1 h2 h3 => (b.2.2 k (Nat.lt_of_lt_of_le h1 a.2.1) h2 h3).trans (a.2.2 k h1 h2 h3)⟩
theorem KeptK.below {p g : Nat} {w W : World} (h : Below w.heap.size w W) : KeptK p g w W := ⟨⟨h.os, h.tape, h.output⟩, h.size, fun k hk _ _ => h.block k hk⟩
theorem KeptK.mem {p g B : Nat} {w V W : World} (h : Below B w V) (k : KeptK p g V W) (hB : B <= w.heap.size) (hp : B <= p) (hg : B <= g) : Below B w W := ⟨k.1.1.trans h.os, k.1.2.1.trans h.tape, k.1.2.2.trans h.output, Nat.le_trans h.size k.2.1, fun j hj => (k.2.2 j (Nat.lt_of_lt_of_le hj (Nat.le_trans hB h.size)) (by omega) (by omega)).trans (h.block j hj)⟩
theorem ChkAt.ne {w : World} {p g : Nat} {c : ChkD} (h : ChkAt w p g c) : p ≠ g := fun e => by
 have h1 := h.box
 rw [e, h.row] at h1
 injection h1 with h1; injection h1 with _ h1 _; exact absurd h1 (by decide)
theorem ChkAt.below {w W : World} {p g : Nat} {c : ChkD} (h : ChkAt w p g c) (hb : Below w.heap.size w W) : ChkAt W p g c := ⟨(hb.block _ (heap_in h.box)).trans h.box, (hb.block _ (heap_in h.row)).trans h.row⟩
theorem fndEq_run (d : Nat) (x y : FndD) (w : World) : (Op.equalIn (d + 2) 75 (.agg #[.int .i64 x.v, .int .i64 x.n, .bool x.k]) (.agg #[.int .i64 y.v, .int .i64 y.n, .bool y.k])).run prog w = .ok (sameF x y) w := by
 unfold sameF
 generalize hA : (x.v == y.v) = A
 generalize hB : (x.n == y.n) = B
 generalize hC : (x.k == y.k) = C
 go_simp
 cases A
 ·rfl
 cases B
 ·rfl
 cases C <;> rfl
theorem guardFnd : prog.eqGuardType prog.depth 75 = false := by kernel_rfl
theorem cellsFnd : (prog.info? 75).map (·.size) = some 3 := by kernel_rfl
theorem oneFnd (f : FndD) : (fndC f).toArray.all (·.oneCell') = true := all_oneCell_toArray (by
 intro u hu
 simp only [fndC, List.mem_cons, List.not_mem_nil, or_false] at hu
 rcases hu with rfl | rfl | rfl <;> rfl)
theorem cells_size (b : Nat) : ∀ (vs : List Value) (o : Nat) (W : World), W.heap.size <= (W.setCells b o vs).heap.size
 | [], _, _ => Nat.le_refl _
 | v :: r, o, W => Nat.le_trans (by simp [World.setCell]) (cells_size b r (o + 1) _)
theorem cells_os (b : Nat) : ∀ (vs : List Value) (o : Nat) (W : World), (W.setCells b o vs).os = W.os /\ (W.setCells b o vs).tape = W.tape /\ (W.setCells b o vs).output = W.output
 | [], _, _ => ⟨rfl, rfl, rfl⟩
 | _v :: r, o, _W => cells_os b r (o + 1) _
theorem setB_size {W : World} {a : Addr} {v : Value} : W.heap.size <= (W.setCell a v).heap.size := by simp [World.setCell]
theorem atC_len (c : ChkD) (i : Nat) (v n : Int) : (atC c i v n).l.length = c.l.length := by simp [atC]
theorem at_any (p g : Nat) (c : ChkD) (i : Nat) (v n : Int) (w : World) (hc : ChkAt w p g c) (hi : i < c.l.length) (_hl : c.l.length <= 1000000) :
  Calls prog 64 #[.pointer (some ⟨p, 0, none⟩), .int .i64 (i : Int), .int .i64 v, .int .i64 n] w (fun e W => e = .returned (.tuple #[]) /\ ChkAt W p g (atC c i v n) /\ KeptK p g w W) := by
 obtain ⟨f, hf⟩ : ∃ f, c.l[i]? = some f := ⟨_, List.getElem?_eq_getElem hi⟩
 have hfd : c.l.getD i FndD.zero = f := by rw [List.getD_eq_getElem?_getD, hf]; rfl
 have hne := hc.ne
 have hp := heap_in hc.box
 have hgl := heap_in hc.row
 have hfl := fndL_len c.l
 have hr3 : (fndL c.l).length = c.l.length * 3 := hfl
 obtain ⟨L, hL⟩ : ∃ L, c.l.length = L := ⟨_, rfl⟩
 have hcell : ∀ W : World, W.heap[g]? = w.heap[g]? -> W.rangeAt g (i * 3) (fndC f) := fun W h => by
  obtain ⟨f1, -, -⟩ := lie_cell (h.trans hc.row)
  refine range_of f1 ?_
  have := fndL_at c.l i f hf
  simpa [fndC] using this
 have HC := Lib.hid hc
 obtain ⟨BA, hBA⟩ : ∃ BA, badAt f v n = BA := ⟨_, rfl⟩
 have hat : atC c i v n = ⟨c.l.set i ⟨v, n, true⟩, if BA then false else c.ok⟩ := by unfold atC; rw [hfd, hBA]
 rw [hat]
 have HX := Lib.hid (And.intro hf (And.intro hfd (And.intro hat hfl)))
 clear hf hfd hat hfl
 obtain ⟨fb, -, -⟩ := lie_cell hc.box
 have hLi : (i : Int) < (L : Int) := by omega
 rw [hL] at fb
 go_enter func64, ntmps64
 go_upto_region 1 with (fail)
 refine wp_abs2 (On1 75 w #[.int .i64 v, .int .i64 n, .bool true]) ⟨belx, heap_alloc_new _ _⟩ ?_
 rintro w1 ⟨hb1, q1⟩
 have e1 : w1.heap[p]? = w.heap[p]? := hb1.block _ hp
 have e2 : w1.heap[g]? = w.heap[g]? := hb1.block _ hgl
 have p1 := e1.trans HC.out.box
 have g1 := e2.trans HC.out.row
 obtain ⟨fp1, -, zp1⟩ := lie_cell p1
 rw [hL] at fp1
 obtain ⟨fq1, -, zq1⟩ := lie_cell q1
 have rg1 := hcell w1 e2
 have rgk : w1.cell? ⟨g, i * 3 + 2, none⟩ = some (.bool f.k) := rg1 2 _ rfl
 have rgv : w1.cell? ⟨g, i * 3, none⟩ = some (.int .i64 f.v) := rg1 0 _ rfl
 have rgn : w1.cell? ⟨g, i * 3 + 1, none⟩ = some (.int .i64 f.n) := rg1 1 _ rfl
 clear rg1
 have zg1 := heap_in g1
 clear fb
 have HW1 := Lib.hid (And.intro p1 (And.intro g1 q1))
 clear p1 g1 q1 e1 e2
 go_cut [38] from 12 (fun s wx => s = .bool BA /\ Below w1.heap.size w1 wx)
 case first =>
  unfold badAt at hBA
  generalize hA : decide (v < 0) = A at hBA
  generalize hN : decide (n < 0) = N at hBA
  generalize hk : f.k = k at hBA rgk
  have kcc := gcell w1
  cases A
  ·cases N
   ·cases k
    ·subst hBA
     refine region_below (by kernel_rfl) (by kernel_rfl) ?_
     repeat (go_big_quiet_step (fail))
     refine wpQuiet_nil ?_
     intro w2 hb2
     go_wp2
     go_meet
     exact ⟨rfl, hb2⟩
    ·unfold sameF at hBA
     rw [hk] at hBA
     generalize hD1 : (f.v == v) = D1 at hBA
     generalize hD2 : (f.n == n) = D2 at hBA
     cases D1
     ·subst hBA
      refine region_below (by kernel_rfl) (by kernel_rfl) ?_
      repeat (go_big_quiet_step (fail))
      refine wpQuiet_nil ?_
      intro w2 hb2
      go_wp2
      go_meet
      exact ⟨rfl, hb2⟩
     ·cases D2
      ·subst hBA
       refine region_below (by kernel_rfl) (by kernel_rfl) ?_
       repeat (go_big_quiet_step (fail))
       refine wpQuiet_nil ?_
       intro w2 hb2
       go_wp2
       go_meet
       exact ⟨rfl, hb2⟩
      ·subst hBA
       refine region_below (by kernel_rfl) (by kernel_rfl) ?_
       repeat (go_big_quiet_step (fail))
       refine wpQuiet_nil ?_
       intro w2 hb2
       go_wp2
       go_meet
       exact ⟨rfl, hb2⟩
   ·subst hBA
    refine region_below (by kernel_rfl) (by kernel_rfl) ?_
    repeat (go_big_quiet_step (fail))
    refine wpQuiet_nil ?_
    intro w2 hb2
    go_wp2
    go_meet
    exact ⟨rfl, hb2⟩
  ·subst hBA
   refine region_below (by kernel_rfl) (by kernel_rfl) ?_
   repeat (go_big_quiet_step (fail))
   refine wpQuiet_nil ?_
   intro w2 hb2
   go_wp2
   go_meet
   exact ⟨rfl, hb2⟩
 case rest =>
  obtain ⟨rfl, hb2⟩ := hcut
  obtain ⟨p1, g1, q1⟩ := HW1.out
  have hb02 := after hb1 hb2
  have p2 := (hb2.block _ zp1).trans p1
  have g2 := (hb2.block _ zg1).trans g1
  have q2 := (hb2.block _ zq1).trans q1
  clear fp1 fq1 rgk rgv rgn p1 g1 q1 HW1
  obtain ⟨fp2, dp2, zp2⟩ := lie_cell p2
  rw [hL] at fp2
  have hne' : g ≠ p := fun e => hne e.symm
  have hnp' : w.heap.size ≠ p := by omega
  cases BA
  ·go_upto_region 3 with (fail)
   refine wp_abs2 (fun W => W.heap[p]? = some (.cells #[.slice (some ⟨g, 0, none⟩) c.l.length c.l.length, .bool c.ok] 73 (0, 0)) /\ W.heap[g]? = some (.cells (fndL c.l).toArray 75 (0, 0)) /\ W.heap[w.heap.size]? = some (.cells #[.int .i64 v, .int .i64 n, .bool true] 75 (0, 0)) /\ KeptK p g w W) ⟨p2, g2, q2, KeptK.below hb02⟩ ?_
   rintro w3 ⟨p3, g3, q3, hK3⟩
   clear fp2
   obtain ⟨fp3, -, zp3⟩ := lie_cell p3
   rw [hL] at fp3
   obtain ⟨fq3, -, zq3⟩ := lie_cell q3
   have kcc := gcell w3
   refine region_below_tail 6 (by kernel_rfl) (by kernel_rfl) ?_
   simp only [List.take_succ_cons, List.take_zero, List.drop_succ_cons, List.drop_zero]
   iterate 6 (quiet_step (fail))
   refine wpQuiet_nil ?_
   intro w4 hb4
   have p4 := (hb4.block _ zp3).trans p3
   have g4 := kq hb4 g3
   clear fp3 fq3 kcc
   refine wpList_plain rfl (fun KK hKK => ?_)
   go_simp
   refine hKK _ _ ?_; clear hKK KK
   refine wpList_store_mid rfl 75 (.tmp 48) (.tmp 47) rfl g (i * 3) (fndC ⟨v, n, true⟩).toArray rfl rfl (part_there g4 (by simp only [List.size_toArray, hr3, fndC, List.length_cons, List.length_nil]; omega)) cellsFnd (oneFnd _) ?_
   refine wpList_nil ?_
   have g5 : (w4.setCells g (i * 3) (fndC ⟨v, n, true⟩)).heap[g]? = some (.cells (fndL (c.l.set i ⟨v, n, true⟩)).toArray 75 (0, 0)) := by
    rw [setCells_heap _ (i * 3) _ _ g4 (by simp only [List.size_toArray, hr3, fndC, List.length_cons, List.length_nil]; omega), <- fndL_set c.l i ⟨v, n, true⟩ hi]
    rfl
   have p5 : (w4.setCells g (i * 3) (fndC ⟨v, n, true⟩)).heap[p]? = some (.cells #[.slice (some ⟨g, 0, none⟩) c.l.length c.l.length, .bool c.ok] 73 (0, 0)) := (cells_other hne _ _ _).trans p4
   have hK5 : KeptK p g w (w4.setCells g (i * 3) (fndC ⟨v, n, true⟩)) := (hK3.trans (KeptK.below hb4)).trans ⟨cells_os _ _ _ _, cells_size _ _ _ _, fun k _ _ h2 => cells_other h2 _ _ _⟩
   have hfin : ChkAt (w4.setCells g (i * 3) (fndC ⟨v, n, true⟩)) p g ⟨c.l.set i ⟨v, n, true⟩, c.ok⟩ := ⟨by rw [p5]; simp, g5⟩
   go_wp2
   go_end0
   exact ⟨rfl, hfin, hK5⟩
  ·go_upto_region 3 with (fail)
   refine wp_abs2 (fun W => W.heap[p]? = some (.cells #[.slice (some ⟨g, 0, none⟩) c.l.length c.l.length, .bool false] 73 (0, 0)) /\ W.heap[g]? = some (.cells (fndL c.l).toArray 75 (0, 0)) /\ W.heap[w.heap.size]? = some (.cells #[.int .i64 v, .int .i64 n, .bool true] 75 (0, 0)) /\ KeptK p g w W) ⟨heap_set_same p2, (heap_set_other hne').trans g2, (heap_set_other hnp').trans q2, (KeptK.below hb02).trans ⟨⟨rfl, rfl, rfl⟩, setB_size, fun k _ h1 _ => heap_set_other h1⟩⟩ ?_
   rintro w3 ⟨p3, g3, q3, hK3⟩
   clear fp2
   obtain ⟨fp3, -, zp3⟩ := lie_cell p3
   rw [hL] at fp3
   obtain ⟨fq3, -, zq3⟩ := lie_cell q3
   have kcc := gcell w3
   refine region_below_tail 6 (by kernel_rfl) (by kernel_rfl) ?_
   simp only [List.take_succ_cons, List.take_zero, List.drop_succ_cons, List.drop_zero]
   iterate 6 (quiet_step (fail))
   refine wpQuiet_nil ?_
   intro w4 hb4
   have p4 := (hb4.block _ zp3).trans p3
   have g4 := kq hb4 g3
   clear fp3 fq3 kcc
   refine wpList_plain rfl (fun KK hKK => ?_)
   go_simp
   refine hKK _ _ ?_; clear hKK KK
   refine wpList_store_mid rfl 75 (.tmp 48) (.tmp 47) rfl g (i * 3) (fndC ⟨v, n, true⟩).toArray rfl rfl (part_there g4 (by simp only [List.size_toArray, hr3, fndC, List.length_cons, List.length_nil]; omega)) cellsFnd (oneFnd _) ?_
   refine wpList_nil ?_
   have g5 : (w4.setCells g (i * 3) (fndC ⟨v, n, true⟩)).heap[g]? = some (.cells (fndL (c.l.set i ⟨v, n, true⟩)).toArray 75 (0, 0)) := by
    rw [setCells_heap _ (i * 3) _ _ g4 (by simp only [List.size_toArray, hr3, fndC, List.length_cons, List.length_nil]; omega), <- fndL_set c.l i ⟨v, n, true⟩ hi]
    rfl
   have p5 : (w4.setCells g (i * 3) (fndC ⟨v, n, true⟩)).heap[p]? = some (.cells #[.slice (some ⟨g, 0, none⟩) c.l.length c.l.length, .bool false] 73 (0, 0)) := (cells_other hne _ _ _).trans p4
   have hK5 : KeptK p g w (w4.setCells g (i * 3) (fndC ⟨v, n, true⟩)) := (hK3.trans (KeptK.below hb4)).trans ⟨cells_os _ _ _ _, cells_size _ _ _ _, fun k _ _ h2 => cells_other h2 _ _ _⟩
   have hfin : ChkAt (w4.setCells g (i * 3) (fndC ⟨v, n, true⟩)) p g ⟨c.l.set i ⟨v, n, true⟩, false⟩ := ⟨by rw [p5]; simp, g5⟩
   go_wp2
   go_end0
   exact ⟨rfl, hfin, hK5⟩
end Go.Proofs.YtlpgigdegnbkmaaGreatDoor
