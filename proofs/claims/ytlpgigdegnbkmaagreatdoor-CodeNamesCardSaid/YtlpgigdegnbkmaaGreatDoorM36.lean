import Derived.Lib.SlTrimSet
import Derived.Lib.Slices
import Derived.Lib.Walk
import Derived.Lib.Builder
import Derived.Lib.AppendStr
import Derived.Lib.UnsafeStr
import Derived.Laws.Externs
import Derived.Test.YtlpgigdegnbkmaaGreatDoorM19
set_option maxRecDepth 100000
set_option maxHeartbeats 8000000
namespace Tab
theorem dropWhile_nil {α : Type} (p : α -> Bool) : ∀ l : List α, l.dropWhile p = [] <-> ∀ x ∈ l, p x = true
 | [] => by simp
 | a :: l => by
  have := dropWhile_nil p l
  by_cases h : p a = true
  ·rw [List.dropWhile_cons, if_pos h]; simp [h, this]
  ·rw [List.dropWhile_cons, if_neg h]; simp [h]
end Tab
namespace Go.Proofs.YtlpgigdegnbkmaaGreatDoor
open Go.RowKit Tab Tryz
def layA (p : Int × Int) : Array Value := numA (decide (p.1 < 0)) (ofF 15 p.1.natAbs (48 + p.2).toNat fun _ => 0) false
theorem decLay_any (p : Int × Int) (h1 : -1000000000000000 < p.1) (h2 : p.1 < 1000000000000000) (h3 : -9 <= p.2) (h4 : p.2 <= 9) (w : World) :
  Calls prog 112 #[decV p] w (Ret (.agg (layA p)) w) := by
 obtain ⟨M, E⟩ := p
 dsimp only at h1 h2 h3 h4
 unfold decV layA
 dsimp only
 obtain ⟨k, hk⟩ : ∃ k, (48 + E).toNat = k := ⟨_, rfl⟩
 obtain ⟨n, hn⟩ : ∃ n, M.natAbs = n := ⟨_, rfl⟩
 rw [hk, hn]
 have hE : E = (k : Int) - 48 := by omega
 have cA := fun W => decAbs_any M (by omega) W
 have cO := fun W => decOf_any (decide (M < 0)) n k (by omega) (by omega) W
 rw [hn] at cA
 rw [<- hE] at cO
 obtain ⟨be, hbe⟩ : ∃ be, decide (M < 0) = be := ⟨_, rfl⟩
 rw [hbe]
 rw [hbe] at cO
 clear hn hE hk h1 h2 h3 h4
 have cA2 : ∀ W, Calls prog 104 #[.int .i64 M] W (Ret (.int .u64 (n : Int)) W) := fun W => (cA W).mono fun _ _ h => h.ret
 clear cA
 generalize hX : numA be (ofF 15 n k fun x => 0) false = X at *
 have hXs : X.size = 98 := by rw [<- hX]; exact numA_size _ _ _
 have hs0 : Tryz.zeroCells159.size = 98 := by kernel_rfl
 have hst : ∀ W, Blk W (w.heap.size + 1) Tryz.zeroCells159 -> (storeCells ⟨w.heap.size + 1, 0, none⟩ X.toList).run prog W = .ok () (W.setRow (w.heap.size + 1) X) := fun W hb => by
  have := store_blk (P := prog) W (w.heap.size + 1) _ hb X.toList (by rw [hs0]; simpa using hXs) (by rw [<- hX]; exact numL_one _ _ _)
  simpa using this
 have HST := Lib.hid hst
 clear hst hs0 hX
 go_enter func112, ntmps112
 go_upto_region 1 with (fail)
 refine wp_abs2 (fun w1 => Below w.heap.size w w1 /\ Blk w1 w.heap.size #[.int .i64 M, .int .i64 E] /\ Blk w1 (w.heap.size + 1) Tryz.zeroCells159) ⟨(by repeat' (first | exact Below.refl _ _ | refine allocB ?_)), (Blk.new rfl).alloc, Blk.new (by simp)⟩ ?_
 rintro w1 ⟨hb1, k1, k2⟩
 obtain ⟨f1, g1, z1⟩ := k1.facts
 have z2 := k2.facts.2.2
 have c0 := f1 0
 have c1 := f1 1
 clear f1
 simp only [List.getElem?_toArray, List.getElem?_cons_zero, List.getElem?_cons_succ] at c0 c1
 have kc := gcell w1
 refine region_below_tail 9 (by kernel_rfl) (by kernel_rfl) ?_
 simp only [List.take_succ_cons, List.take_zero, List.drop_succ_cons, List.drop_zero]
 repeat (quiet_step (first | exact Ret.grown (fun W _ => cA2 W) | exact Ret.grown (fun W _ => cO W)))
 refine wpQuiet_nil ?_
 clear kc c0 c1 g1
 intro w2 hb2
 have k3 := k2.below hb2
 have HST2 := Lib.hid (HST.out w2 k3)
 have hb3 : Below w.heap.size w (w2.setRow (w.heap.size + 1) X) := setRowB (after hb1 hb2) (Nat.le_succ _)
 obtain ⟨T, hT⟩ := k3.setRow (D := X)
 have HT := Lib.hid hT
 have HB3 := Lib.hid hb3
 clear hT hb3 k3 hb2 k1 k2 hb1 z1 z2 HST
 go_wp2_with (simp only [HST2.out])
 exact bodyPost_ret (results_cell_row rfl _ _ (w.heap.size + 1) T X (0, 0) _ rfl HT.out underlying159 rfl (by rw [hXs]; exact infoNum)) rfl ⟨rfl, HB3.out⟩
theorem sizeBld : (prog.info? 82).map (·.size) = some 2 := by kernel_rfl
theorem liesBld : liesAt prog prog.depth 82 (2 / prog.cellsOf 82) 0 82 1 = true := by kernel_rfl
theorem infoU8 : (prog.info? 5).map (fun i => (i.zero, i.size, i.bytes)) = some (some (.int .u8 0), 1, 1) := by kernel_rfl
theorem bldCheck_used (b : Nat) (w : World) (h0 : w.cell? ⟨b, 0, none⟩ = some (.pointer (some ⟨b, 0, none⟩))) :
  Calls prog 66 #[.pointer (some ⟨b, 0, none⟩)] w fun e w' => e = .returned (.tuple #[]) /\ w' = w := by
 obtain ⟨j, hj, _⟩ := Option.map_eq_some_iff.1 sizeBld
 go_enter func66, ntmps66
 go_wp2
 rw [Lib.run_neq_ptr_same w _ underlying79 hj]
 go_wp2
 go_end0
 exact ⟨rfl, rfl⟩
theorem bldCheck_fresh (b : Nat) (w : World) (h0 : w.cell? ⟨b, 0, none⟩ = some (.pointer none)) (hsh : w.shape? b = some (82, 2)) (hfz : w.frozen? ⟨b, 0, none⟩ = false) :
  Calls prog 66 #[.pointer (some ⟨b, 0, none⟩)] w fun e w' => e = .returned (.tuple #[]) /\ w' = w.setCell ⟨b, 0, none⟩ (.pointer (some ⟨b, 0, none⟩)) := by
 obtain ⟨j, hj, hjs⟩ := Option.map_eq_some_iff.1 sizeBld
 go_enter func66, ntmps66
 go_wp2
 rw [Lib.run_to_unsafe w ⟨b, 0, none⟩ underlying79 underlying152 hj (by rw [hjs]; decide) hsh (Nat.zero_lt_succ 1)]
 simp only [Result.andThen]
 rw [Oper.upon_value]
 go_wp2
 rw [run_callFunc_extern func110 (by kernel_rfl) (by kernel_rfl) (by kernel_rfl) (e := Extern.AbiNoEscape.same) (by kernel_rfl)]
 rw [Lib.run_noEscape]
 simp only [Result.andThen]
 rw [Oper.upon_value]
 go_wp2
 rw [Lib.run_from_unsafe w ⟨b, 0, none⟩ underlying152 underlying79 hj hsh liesBld]
 simp only [Result.andThen]
 rw [Oper.upon_value]
 go_wp2
 go_end0
 exact ⟨rfl, rfl⟩
abbrev IsBld (B b : Nat) (bs : List Value) (w : World) : Prop := Lib.IsBuilder 82 5 B b bs w
abbrev BldAt (B b : Nat) (bs : List Value) (w : World) : Prop := Lib.BuilderAt 82 5 B b (.pointer (some ⟨b, 0, none⟩)) bs w
def KeptT (b : Nat) (w w' : World) : Prop := ∀ (k : Nat) (C : Array Value) (T : TypeId) (fr : Nat × Nat), w.heap[k]? = some (.cells C T fr) -> T ≠ 5 -> k ≠ b -> w'.heap[k]? = some (.cells C T fr)
theorem KeptT.refl (b : Nat) (w : World) : KeptT b w w := fun _ _ _ _ h _ _ => h
theorem KeptT.trans {b : Nat} {w w' w'' : World} (h : KeptT b w w') (k : KeptT b w' w'') : KeptT b w w'' := fun i C T fr h1 h2 h3 => k i C T fr (h i C T fr h1 h2 h3) h2 h3
theorem KeptT.set {b i : Nat} {w w' : World} {u : Value} (h : KeptT b w w') : KeptT b w (w'.setCell ⟨b, i, none⟩ u) := fun k C T fr h1 h2 h3 => by
 rw [Below.heap_setCell _ _ _ _ (fun e => h3 (by simpa using e))]; exact h k C T fr h1 h2 h3
theorem heap_lt {w : World} {k : Nat} {o : Obj} (h : w.heap[k]? = some o) : k < w.heap.size := by
 rcases Nat.lt_or_ge k w.heap.size with h' | h'
 ·exact h'
 ·simp [Array.getElem?_eq_none h'] at h
theorem KeptT.alloc {b : Nat} {w w' : World} {o : Obj} (h : KeptT b w w') : KeptT b w (w'.alloc o) := fun k C T fr h1 h2 h3 => by
 have := h k C T fr h1 h2 h3
 rw [Lib.alloc_old _ _ _ (heap_lt this)]; exact this
theorem KeptT.grown {b B : Nat} {w w' w'' : World} {v : Value} {n : Nat} {xs : List Value} (h : KeptT b w w') (hown : w'.ownsRow B 5 1 v n xs) (hg : w'.grownBy w'' v.ownBlock) : KeptT b w w'' := fun k C T fr h1 h2 h3 => by
 have := h k C T fr h1 h2 h3
 rw [hg.block k (heap_lt this) (fun e => Lib.ownBlock_ne hown this h2 e.symm)]; exact this
theorem bldCheck_any (B b : Nat) (bs : List Value) (w : World) (h : IsBld B b bs w) :
  Calls prog 66 #[.pointer (some ⟨b, 0, none⟩)] w fun e w' => e = .returned (.tuple #[]) /\ (BldAt B b bs w' /\ Below B w w' /\ KeptT b w w') := by
 rcases h with h | h
 ·refine (bldCheck_fresh b w h.cell0 h.shape h.frozen0).mono ?_
  rintro e w' ⟨rfl, rfl⟩
  exact ⟨rfl, h.used _, (Below.refl B w).setCell (p := ⟨b, 0, none⟩) h.1 _, (KeptT.refl b w).set⟩
 ·refine (bldCheck_used b w h.cell0).mono ?_
  rintro e w' ⟨rfl, rfl⟩
  exact ⟨rfl, h, Below.refl B _, KeptT.refl b _⟩
theorem bldByte_any (B b : Nat) (bs : List Value) (c : Int) (w : World) (h : IsBld B b bs w) (hlen : bs.length + 1 <= 140737488355328) (hBw : B <= w.heap.size) :
  Calls prog 113 #[.pointer (some ⟨b, 0, none⟩), .int .u8 c] w fun e w' => e = .returned .nilIface /\ (BldAt B b (bs ++ [.int .u8 c]) w' /\ Below B w w' /\ KeptT b w w') := by
 obtain ⟨i0, hi, hz0, hz1, hz2⟩ := info_parts infoU8
 go_enter func113, ntmps113
 go_wp2_with fail
 refine (bldCheck_any B b bs _ h).mono ?_
 rintro e w1 ⟨rfl, h1, hb1, hk1⟩
 obtain ⟨hB, v, hbk, hown, hne⟩ := h1
 have c0 : w1.cell? ⟨b, 0, none⟩ = some (.pointer (some ⟨b, 0, none⟩)) := by rw [Lib.cell_of_heap hbk]; rfl
 have c1 : w1.cell? ⟨b, 1, none⟩ = some v := by rw [Lib.cell_of_heap hbk]; rfl
 go_wp2_with (at_builtin; refine wpList_append_own _ rfl _ _ 80 rfl B 5 i0 (.int .u8 0) 1 1 underlying80 hi hz0 hz1 hz2 rfl (by decide) _ _ _ rfl (hown.alloc _) ⟨w1.heap.size, 0, none⟩ 1 1 [.int .u8 c] rfl rfl ?c1 ?c2 ?c3 ?c4 ?c5 ?_)
 case c1 =>
  intro j u hj
  match j, hj with
  | 0, hj => simp at hj; subst hj; simp [Addr.add]
 case c2 => intro u hu; simp at hu; subst hu; rfl
 case c3 => unfold maxLen; omega
 case c4 => omega
 case c5 => have := hb1.size; simp; omega
 intro v' w2 hown' hgrow _
 have hlt : b < w1.heap.size := by
  rcases Nat.lt_or_ge b w1.heap.size with h' | h'
  ·exact h'
  ·simp [Array.getElem?_eq_none h'] at hbk
 have hb2 : w2.heap[b]? = some (.cells #[.pointer (some ⟨b, 0, none⟩), v] 82 (0, 0)) := by
  rw [hgrow.block b (by simp; omega) (fun e => hne e.symm), Lib.alloc_old w1 _ b hlt]
  exact hbk
 have d0 : w2.cell? ⟨b, 0, none⟩ = some (.pointer (some ⟨b, 0, none⟩)) := by rw [Lib.cell_of_heap hb2]; rfl
 have d1 : w2.cell? ⟨b, 1, none⟩ = some v := by rw [Lib.cell_of_heap hb2]; rfl
 have f1 : w2.frozen? ⟨b, 1, none⟩ = false := Lib.frozen_of_heap hb2 1
 obtain ⟨g, cap, rfl⟩ : ∃ g cap, v' = .slice (some ⟨g, 0, none⟩) (bs.length + 1) cap := by
  rcases hown'.2 with ⟨_, h0⟩ | ⟨g, cap, cur, hv, _⟩
  ·omega
  ·exact ⟨g, cap, hv⟩
 go_wp2
 go_ret
 refine ⟨rfl, ?_, ?_, ?_⟩
 ·exact Lib.BuilderAt.put (T := 82) (e := 5) hB hb2 (bs' := bs ++ [.int .u8 c]) (by simpa using hown') (by decide)
 ·exact ((hb1.alloc (by have := hb1.size; omega) _).grown hgrow (by have := hb1.size; simp; omega) (fun k hk => (hown.lt k hk).1)).setCell (p := ⟨b, 1, none⟩) hB _
 ·exact (hk1.alloc.grown (hown.alloc _) hgrow).set
theorem bldStr_any (B b : Nat) (bs : List Value) (s : ByteArray) (w : World) (h : IsBld B b bs w) (hlen : bs.length + s.size <= 140737488355328) (hBw : B <= w.heap.size) :
  Calls prog 30 #[.pointer (some ⟨b, 0, none⟩), .string s] w fun e w' => e = .returned (.tuple #[.int .i64 s.size, .nilIface]) /\ (BldAt B b (bs ++ Lib.strCells s) w' /\ Below B w w' /\ KeptT b w w') := by
 obtain ⟨i0, hi, hz0, hz1, hz2⟩ := info_parts infoU8
 go_enter func30, ntmps30
 go_wp2_with fail
 refine (bldCheck_any B b bs _ h).mono ?_
 rintro e w1 ⟨rfl, h1, hb1, hk1⟩
 obtain ⟨hB, v, hbk, hown, hne⟩ := h1
 have c0 : w1.cell? ⟨b, 0, none⟩ = some (.pointer (some ⟨b, 0, none⟩)) := by rw [Lib.cell_of_heap hbk]; rfl
 have c1 : w1.cell? ⟨b, 1, none⟩ = some v := by rw [Lib.cell_of_heap hbk]; rfl
 go_wp2_with (at_builtin; refine Lib.wpList_append_own_string _ rfl _ _ 80 9 rfl B 5 i0 underlying80 underlying9 hi hz0 hz1 hz2 _ _ _ rfl hown s rfl ?c3 ?c4 ?c5 ?_)
 case c3 => unfold maxLen; omega
 case c4 => omega
 case c5 => have := hb1.size; omega
 intro v' w2 hown' hgrow _
 have hlt : b < w1.heap.size := by
  rcases Nat.lt_or_ge b w1.heap.size with h' | h'
  ·exact h'
  ·simp [Array.getElem?_eq_none h'] at hbk
 have hb2 : w2.heap[b]? = some (.cells #[.pointer (some ⟨b, 0, none⟩), v] 82 (0, 0)) := by
  rw [hgrow.block b hlt (fun e => hne e.symm)]
  exact hbk
 have d0 : w2.cell? ⟨b, 0, none⟩ = some (.pointer (some ⟨b, 0, none⟩)) := by rw [Lib.cell_of_heap hb2]; rfl
 have d1 : w2.cell? ⟨b, 1, none⟩ = some v := by rw [Lib.cell_of_heap hb2]; rfl
 have f1 : w2.frozen? ⟨b, 1, none⟩ = false := Lib.frozen_of_heap hb2 1
 obtain ⟨ao, n', cap, rfl⟩ : ∃ ao n' cap, v' = .slice ao n' cap := by
  rcases hown'.2 with ⟨hv, _⟩ | ⟨g, cap, cur, hv, _⟩
  ·exact ⟨_, _, _, hv⟩
  ·exact ⟨_, _, _, hv⟩
 go_wp2
 go_ret2
 refine ⟨rfl, ?_, ?_, ?_⟩
 ·exact Lib.BuilderAt.put (T := 82) (e := 5) hB hb2 (bs' := bs ++ Lib.strCells s) (by simpa [Lib.strCells_length] using hown') (by decide)
 ·exact (hb1.grown hgrow (by have := hb1.size; omega) (fun k hk => (hown.lt k hk).1)).setCell (p := ⟨b, 1, none⟩) hB _
 ·exact (hk1.grown hown hgrow).set
theorem IsBld.lt {B b : Nat} {bs : List Value} {w : World} (h : IsBld B b bs w) : b < w.heap.size := h.elim (·.lt) (·.lt)
theorem IsBld.below {B b : Nat} {bs : List Value} {w W : World} (h : IsBld B b bs w) (hb : Below w.heap.size w W) : IsBld B b bs W := by
 have key : ∀ p, Lib.BuilderAt 82 5 B b p bs w -> Lib.BuilderAt 82 5 B b p bs W := fun p h => by
  have hlt := h.lt
  obtain ⟨hB, v, hbk, hown, hne⟩ := h
  exact ⟨hB, v, (hb.block b hlt).trans hbk, own_below hown hb, hne⟩
 exact h.imp (key _) (key _)
end Go.Proofs.YtlpgigdegnbkmaaGreatDoor
namespace Tab
theorem low_step (D : Nat -> Int) (k : Nat) : lowF48 D (k + 1) = if D k ≠ 0 then min (lowF48 D k) k else lowF48 D k := rfl
theorem low_le (D : Nat -> Int) : ∀ k, lowF48 D k <= 48
 | 0 => Nat.le_refl _
 | k + 1 => by
  have := low_le D k
  rw [low_step]
  split <;> omega
theorem topF_le (D : Nat -> Int) : ∀ n : Nat, topF D n < n /\ -1 <= topF D n
 | 0 => by simp [topF]
 | n + 1 => by
  have := topF_le D n
  unfold topF
  split <;> omega
theorem span_step (D : Nat -> Int) (low k : Nat) : spanD D low (k + 1) = if low <= k then (if k = 47 then [46] else []) ++ (48 + D k).toNat.toUInt8 :: spanD D low k else [] := rfl
theorem span_none (D : Nat -> Int) (low n : Nat) (h : n <= low) : spanD D low n = [] := by
 cases n with
 | zero => rfl
 | succ k => rw [span_step, if_neg (by omega)]
end Tab
namespace Go.Proofs.YtlpgigdegnbkmaaGreatDoor
open Go.RowKit Tab Tryz
theorem cellsNum : (prog.info? 159).map (·.size) = some 98 := by kernel_rfl
theorem num_cell {w : World} {P : Nat} {be mo : Bool} {D : Nat -> Int} {T : TypeId} (h : w.heap[P]? = some (.cells (numA be D mo) T (0, 0))) (k : Nat) (hk : k < 96) : w.cell? ⟨P, 1 + k, none⟩ = some (.int .i8 (D k)) := by
 obtain ⟨f, -, -⟩ := lie_cell h
 rw [f (1 + k), (numA_num be D mo).digit k hk]
theorem byteCells_one (acc : Bs) (c : UInt8) : Lib.byteCells (acc ++ [c]) = Lib.byteCells acc ++ [.int .u8 (c.toNat : Int)] := by simp [Lib.byteCells]
theorem decText_any (m e : Int) (hm : -9000000000000000000 <= m /\ m <= 9000000000000000000) (w : World) : Calls prog 70 #[.agg #[.int .i64 m, .int .i64 e]] w (Ret (.tuple #[strV (decTextD m e), .int .i64 (if decOkD m e then 0 else 10)]) w) := by
 have cR := fun W => decRight_any m e hm W
 unfold decTextD strV
 obtain ⟨OK, hOK⟩ : ∃ OK, decOkD m e = OK := ⟨_, rfl⟩
 rw [hOK] at cR ⊢
 cases OK
 ·clear hOK hm
  rw [if_neg Bool.false_ne_true, if_neg Bool.false_ne_true]
  go_enter func70, ntmps70
  go_wp2_with fail
  refine (cR _).mono ?_; rintro e w2 ⟨rfl, hb2⟩
  go_wp2
  go_ret2; exact Ret.mk2 rfl rfl belx
 rw [if_pos rfl, if_pos rfl]
 have hbd : m.natAbs <= 999999999999999 /\ -9 <= e /\ e <= 9 := by
  have h := hOK
  unfold decOkD at h
  simp only [Bool.and_eq_true, Bool.not_eq_true', Bool.or_eq_false_iff, decide_eq_false_iff_not] at h
  omega
 have hrng := (layC_val m e hOK).1
 have cL : ∀ W, Calls prog 112 #[.agg #[.int .i64 m, .int .i64 e]] W (Ret (.agg (numA (decide (m < 0)) (layC m e) false)) W) := fun W => decLay_any (m, e) (by dsimp only; omega) (by dsimp only; omega) hbd.2.1 hbd.2.2 W
 have hbm : (if m < 0 then [45] else ([] : Bs)) = if decide (m < 0) = true then [45] else [] := by
  by_cases h : m < 0
  ·rw [if_pos h, if_pos (decide_eq_true h)]
  ·rw [if_neg h, if_neg (by rw [decide_eq_false h]; exact Bool.false_ne_true)]
 rw [hbm]
 clear hbm hOK hm hbd
 generalize decide (m < 0) = be at *
 generalize layC m e = D at *
 have htop := topF_le D 96
 have hlow := low_le D 48
 obtain ⟨low, hlowD⟩ : ∃ low, lowF48 D 48 = low := ⟨_, rfl⟩
 rw [hlowD] at hlow ⊢
 obtain ⟨N, hN⟩ : ∃ N : Nat, max (topF D 96) 48 = (N : Int) := ⟨(max (topF D 96) 48).toNat, by omega⟩
 have hN96 : N < 96 := by omega
 obtain ⟨T, hT⟩ : ∃ T, (if be = true then [45] else []) ++ spanD D low ((max (topF D 96) 48).toNat + 1) = T := ⟨_, rfl⟩
 rw [hT]
 rw [hN, Int.toNat_natCast] at hT
 have HT := Lib.hid (And.intro hT (And.intro hN hlowD))
 have HR := Lib.hid hrng
 clear hT hN hlowD htop hrng
 go_enter func70, ntmps70
 go_upto_region 1 with (fail)
 refine wp_abs2 (On1 25 w #[.int .i64 m, .int .i64 e]) ⟨belx, heap_alloc_new _ _⟩ ?_
 rintro w1 ⟨hb1, q1⟩
 obtain ⟨f1, -, z1⟩ := lie_cell q1
 go_wp2_with fail
 refine (cR _).mono ?_; rintro e' w2 ⟨rfl, hb2⟩
 have q2 := (hb2.block _ z1).trans q1
 have hb02 := after hb1 hb2
 clear f1 q1 cR hb1 hb2
 go_upto_region 3 with (fail)
 refine wp_region_lit ?_
 refine ldr (.tmp 1) q2 underlying25 cellsDec ?_
 refine wpList_plain rfl (fun KK hKK => ?_); go_simp
 refine (cL w2).mono ?_; rintro e' w3 ⟨rfl, hb3⟩
 refine hKK _ _ ?_; clear hKK KK
 have hb03 := after hb02 hb3
 clear hb02 hb3 q2 cL
 refine st ?_
 have hsz := numA_size be D false
 refine wpList_store_mid rfl 159 (.tmp 4) (.tmp 13) rfl w3.heap.size 0 (numA be D false) rfl rfl (whole_there (heap_alloc_new _ _) (by rw [hsz]; rfl)) (by rw [hsz]; exact cellsNum) (all_oneCell_toArray (numL_one be D false)) ?_
 refine wpList_abs (fun W => Below w.heap.size w W /\ w3.heap.size < W.heap.size /\ W.heap[w3.heap.size]? = some (.cells (numA be D false) 159 (0, 0))) ⟨below_cells2 hb03.size _ _ _ (allocB hb03), ?_, ?_⟩ ?_
 ·exact Nat.lt_of_lt_of_le (Nat.lt_succ_self _) (box_size w3 _ _ _)
 ·rw [box_whole (heap_alloc_new w3 _) (by rw [Array.length_toList, hsz]; rfl)]
 rintro w4 ⟨hb4, z4, q4⟩
 have hP := hb03.size
 clear hb03 hsz
 refine wpList_nil ?_
 obtain ⟨P, hPe⟩ : ∃ P, w3.heap.size = P := ⟨_, rfl⟩
 rw [hPe] at z4 q4 hP ⊢
 have HQ4 := Lib.hid q4
 clear q4
 go_wp2_with fail
 go_loopw [5, 14] (fun lo k w' => ∃ j : Nat, k = .int .i64 (j : Int) /\ lo = .int .i64 ((lowF48 D j : Nat) : Int) /\ j <= 48 /\ Below w.heap.size w w' /\ P < w'.heap.size /\ w'.heap[P]? = some (.cells (numA be D false) 159 (0, 0))) (fun _ k _ => 48 - (intOf k).toNat)
 case atStart => exact ⟨0, rfl, rfl, by omega, hb4, z4, HQ4.out⟩
 case round =>
  clear HQ4 hb4 z4
  obtain ⟨j, rfl, rfl, hj, hB, hz, q⟩ := hrel
  by_cases hlt : j < 48
  ·have hc := num_cell q j (by omega)
   have HQ := Lib.hid q
   have hlj := low_le D j
   have hls := low_step D j
   have ewJ : IntKind.i64.wrap ((j : Int) + 1) = ((j + 1 : Nat) : Int) := by rw [IntWalk.i64_in _ (by omega)]; omega
   have hlt' : (j : Int) < 48 := by omega
   have hj96 : (j : Int) < 96 := by omega
   by_cases hd : D j = 0
   ·rw [hd] at hc
    rw [if_neg (by rw [hd]; simp)] at hls
    rw [<- hls] at hlj ⊢
    clear q hls hd
    go_wp2
    go_roundw
    case rel => exact ⟨j + 1, rfl, rfl, by omega, hB, hz, HQ.out⟩
    case measure => simp [intOf]; omega
   ·rw [if_pos hd] at hls
    have ed : (D j != 0) = true := by rw [bne_iff_ne]; exact hd
    have ewM : min ((lowF48 D j : Nat) : Int) (j : Int) = ((lowF48 D (j + 1) : Nat) : Int) := by rw [hls]; omega
    clear q hls hd
    go_wp2
    go_roundw
    case rel => exact ⟨j + 1, rfl, rfl, by omega, hB, hz, HQ.out⟩
    case measure => simp [intOf]; omega
  ·have hj48 : j = 48 := by omega
   subst hj48
   have HQ := Lib.hid q
   have hbc : wr.cell? ⟨P, 0, none⟩ = some (.bool be) := by
    obtain ⟨f, -, -⟩ := lie_cell q
    rw [f 0, (numA_num be D false).below]
   clear q
   rw [HT.out.2.2]
   go_upto_region 12 with (fail)
   have hbld : IsBld wr.heap.size wr.heap.size (Lib.byteCells []) (wr.alloc (.cells #[.pointer none, .slice none 0 0] 82)) := Lib.fresh_isBuilder _ _ wr
   refine wp_abs2 (fun W => Below wr.heap.size wr W /\ IsBld wr.heap.size wr.heap.size (Lib.byteCells []) W) ⟨allocB (Below.refl _ _), hbld⟩ ?_
   clear hbld
   rintro w5 ⟨hb5, hI5⟩
   have hbc5 := (hb5.cell (p := ⟨P, 0, none⟩) hz).trans hbc
   have hz5 := Nat.lt_of_lt_of_le hz hb5.size
   clear hbc
   have HI5 := Lib.hid hI5
   clear hI5
   go_upto_if 27 with (fail)
   go_cut [7] from 26 to 28 (fun v wx => v = .pointer (some ⟨wr.heap.size, 0, none⟩) /\ IsBld wr.heap.size wr.heap.size (Lib.byteCells (if be = true then [45] else [])) wx /\ Below wr.heap.size wr wx)
   case first =>
    cases be
    ·go_wp2
     go_meet
     exact ⟨rfl, HI5.out, hb5⟩
    ·go_wp2_with fail
     refine (bldByte_any wr.heap.size wr.heap.size _ 45 w5 HI5.out (by simp [Lib.byteCells]) hb5.size).mono ?_
     rintro e' w6 ⟨rfl, hB6, hb6, -⟩
     go_wp2
     go_meet
     exact ⟨rfl, by simp only [if_true]; exact .inr hB6, hb5.trans hb6⟩
   case rest =>
    obtain ⟨rfl, hI6, hb6⟩ := hcut
    clear hbc5 hb5 HI5 hz5
    have q6 := (hb6.block P hz).trans HQ.out
    have cT := top_any P (numA be D false) be D false (numA_num be D false) wc ⟨_, q6⟩
    have HI6 := Lib.hid (And.intro hI6 q6)
    have ewX := HT.out.2.1
    clear hI6 q6
    go_wp2_with fail
    refine cT.mono ?_; rintro e' w7 ⟨rfl, rfl⟩
    have hal : (if be = true then [45] else ([] : Bs)).length <= 1 := by split <;> simp
    generalize wr = w0 at *
    go_wp2_with fail
    go_loopw [8] (fun k w' => ∃ (n : Nat) (acc : Bs), k = .int .i64 ((n : Int) - 1) /\ n <= 96 /\ acc.length + 2 * n <= 300 /\ acc ++ spanD D low n = T /\ IsBld w0.heap.size w0.heap.size (Lib.byteCells acc) w' /\ Below w0.heap.size w0 w') (fun k _ => (intOf k + 1).toNat)
    case atStart => exact ⟨N + 1, _, by rw [show ((N + 1 : Nat) : Int) - 1 = (N : Int) by omega], by omega, by omega, HT.out.1, HI6.out.1, hb6⟩
    case round =>
     clear HI6 hb6 cT ewX hal
     obtain ⟨n, acc, rfl, hn, hac, hI, hBl, hB8⟩ := hrel
     have HI := Lib.hid hI
     have HB := Lib.hid hBl
     clear hI hBl
     by_cases hlt : low < n
     ·obtain ⟨k, rfl⟩ : ∃ k, n = k + 1 := ⟨n - 1, by omega⟩
      have hkk : ((k + 1 : Nat) : Int) - 1 = (k : Int) := by omega
      rw [hkk]
      have hle : decide ((low : Int) <= (k : Int)) = true := decide_eq_true (by omega)
      have q8 := (hB8.block P hz).trans HQ.out
      have hc8 := num_cell q8 k (by omega)
      have hr := HR.out k (by omega)
      have hI := HI.out
      rw [span_step, if_pos (by omega)] at hI
      obtain ⟨ch, hch⟩ : ∃ ch, (48 + D k).toNat.toUInt8 = ch := ⟨_, rfl⟩
      have hcn : (ch.toNat : Int) = 48 + D k := by
       rw [<- hch]
       have : (48 + D k).toNat.toUInt8.toNat = (48 + D k).toNat := by
        simp [Nat.toUInt8, UInt8.toNat_ofNat']; omega
       rw [this]; omega
      rw [hch] at hI
      have HI2 := Lib.hid hI
      have hzr8 := Nat.lt_of_lt_of_le hz hB8.size
      clear q8 hI HI hch
      have hkle : (low : Int) <= (k : Int) := by omega
      have hal : (acc ++ (if k = 47 then [46] else ([] : Bs))).length <= acc.length + 1 := by rw [List.length_append]; split <;> simp
      obtain ⟨ac2, hac2⟩ : ∃ ac2, acc ++ (if k = 47 then [46] else ([] : Bs)) = ac2 := ⟨_, rfl⟩
      rw [hac2] at hal
      go_upto_if 37 with (fail)
      go_cut [8] from 31 to 38 (fun v wx => v = .int .i64 (k : Int) /\ IsBld w0.heap.size w0.heap.size (Lib.byteCells ac2) wx /\ Below w0.heap.size w0 wx)
      case first =>
       by_cases hk : k = 47
       ·have ek : ((k : Int) == 47) = true := beq_iff_eq.2 (by omega)
        rw [if_pos hk] at hac2
        subst hac2
        simp only [ek]
        clear ek
        go_wp2_with fail
        refine (bldByte_any w0.heap.size w0.heap.size _ 46 _ HB.out (by simp [Lib.byteCells]; omega) hB8.size).mono ?_
        rintro e' w6 ⟨rfl, hB6, hb6, -⟩
        go_wp2
        go_meet
        exact ⟨by rw [hk]; rfl, by rw [byteCells_one]; exact .inr hB6, hB8.trans hb6⟩
       ·have ek : ((k : Int) == 47) = false := beq_eq_false_iff_ne.2 (by omega)
        rw [if_neg hk, List.append_nil] at hac2
        subst hac2
        simp only [ek]
        clear ek hk
        go_wp2
        go_meet
        exact ⟨rfl, HB.out, hB8⟩
      case rest =>
       obtain ⟨rfl, hI9, hb9⟩ := hcut
       have q9 := (hb9.block P hz).trans HQ.out
       have hc9 := num_cell q9 k (by omega)
       have hzr9 := Nat.lt_of_lt_of_le hz hb9.size
       have hI := HI2.out
       rw [<- List.append_assoc] at hI
       rw [hac2] at hI
       have HI3 := Lib.hid hI
       have HB3 := Lib.hid hI9
       have ew1 : IntKind.u8.wrap (D k) = D k := by rw [IntKind.wrap_u8]; omega
       have ew2 : IntKind.u8.wrap (48 + D k) = (ch.toNat : Int) := by rw [IntKind.wrap_u8, hcn]; omega
       have ewK : IntKind.i64.wrap ((k : Int) - 1) = (k : Int) - 1 := by rw [IntWalk.i64_in _ (by omega)]
       have hk96 : (k : Int) < 96 := by omega
       clear hI hI9 HI2 HB hac2 hc8 hB8 q9
       go_wp2_with fail
       refine (bldByte_any w0.heap.size w0.heap.size _ (48 + D k) wc HB3.out (by simp [Lib.byteCells]; omega) hb9.size).mono ?_
       rintro e' w6 ⟨rfl, hB6, hb6, -⟩
       have hI6 : IsBld w0.heap.size w0.heap.size (Lib.byteCells (ac2 ++ [ch])) w6 := by rw [byteCells_one, hcn]; exact .inr hB6
       have hT6 : (ac2 ++ [ch]) ++ spanD D low k = T := by rw [List.append_assoc]; exact HI3.out
       have HE := Lib.hid (And.intro hI6 hT6)
       clear hI6 hT6 hB6 HI3 HB3 hc9
       go_wp2
       go_roundw
       case rel => exact ⟨k, ac2 ++ [ch], rfl, by omega, by rw [List.length_append]; simp; omega, HE.out.2, HE.out.1, hb9.trans hb6⟩
       case measure => simp [intOf]
     ·have hle : ¬ (low : Int) <= (n : Int) - 1 := by omega
      have hI := HI.out
      rw [span_none D low n (by omega), List.append_nil] at hI
      subst hI
      have cG := Tryz.Builder_String_any w0.heap.size w0.heap.size acc wr HB.out hB8.size
      have hbe : Below w.heap.size w w0 := hB
      clear HI HB
      go_wp2_with fail
      refine cG.mono ?_; rintro e' w6 ⟨rfl, hb6⟩
      go_wp2
      go_ret2; exact Ret.mk2 rfl rfl (hbe.trans ((hB8.trans hb6).mono hbe.size))
def wordsV : List Value := (List.range 19).map fun k : Nat => .string ⟨(wordI ((k : Int) + 1)).toArray⟩
theorem wordsV_one : ∀ u ∈ wordsV, u.oneCell' = true := by
 intro u hu
 simp only [wordsV, List.mem_map] at hu
 obtain ⟨k, _, rfl⟩ := hu
 rfl
theorem cellsWords : (prog.info? 155).map (·.size) = some 19 := by kernel_rfl
theorem word_any (k : Nat) (hk : k < 19) (w : World) : Calls prog 68 #[.int .i64 ((k : Int) + 1)] w (Ret (.string ⟨(wordI ((k : Int) + 1)).toArray⟩) w) := by
 have ewK : IntKind.i64.wrap ((k : Int) + 1 - 1) = (k : Int) := by rw [IntWalk.i64_in _ (by omega)]; omega
 have hk' : (k : Int) < 19 := by omega
 obtain ⟨V, hV⟩ : ∃ V, wordI ((k : Int) + 1) = V := ⟨_, rfl⟩
 have hat : wordsV.toArray[k]? = some (.string ⟨V.toArray⟩) := by
  rw [<- hV]; simp [wordsV, hk]
 rw [hV]
 clear hV
 go_enter func68, ntmps68
 go_upto_region 1 with (fail)
 refine wp_region_lit ?_
 iterate 2 refine st ?_
 refine wpList_store_mid rfl 155 (.tmp 3) (.tmp 4) rfl w.heap.size 0 wordsV.toArray rfl rfl (whole_there (heap_alloc_new _ _) rfl) cellsWords (all_oneCell_toArray wordsV_one) ?_
 refine wpList_abs (On1 155 w wordsV.toArray) ⟨below_cells2 (Nat.le_refl _) _ _ _ (allocB (Below.refl _ _)), box_whole (heap_alloc_new w _) rfl⟩ ?_
 rintro w1 ⟨hb1, q1⟩
 refine wpList_nil ?_
 obtain ⟨f1, -, z1⟩ := lie_cell q1
 have hc := (f1 k).trans hat
 clear f1 q1
 go_wp2
 go_ret; exact Ret.mk' rfl hb1
structure PartsAt (w : World) (B b : Nat) (xs : List Bs) : Prop where
 lep : B <= b
 lies : ∃ v, w.heap[b]? = some (.cells #[v] 33 (0, 0)) /\ w.ownsRow B 9 1 v xs.length (strL xs)
theorem PartsAt.below {w W : World} {B b : Nat} {xs : List Bs} (h : PartsAt w B b xs) (hb : Below w.heap.size w W) : PartsAt W B b xs := by
 obtain ⟨hB, v, h1, h2⟩ := h
 exact ⟨hB, v, (hb.block b (heap_in h1)).trans h1, own_below h2 hb⟩
theorem linePut_any (B b : Nat) (xs : List Bs) (s : Bs) (er : Int) (w : World) (h : PartsAt w B b xs) (hBw : B <= w.heap.size) (hn : xs.length <= 1000) : Calls prog 69 #[.string ⟨s.toArray⟩, .int .i64 er, .pointer (some ⟨b, 0, none⟩)] w fun e W => e = .returned (.tuple #[]) /\ PartsAt W B b (xs ++ [s]) /\ Below B w W := by
 obtain ⟨hB, v, hbk, hown⟩ := h
 obtain ⟨iS, hi, hz0, hz1, hz2⟩ := info_parts infoStr
 obtain ⟨f1, d1, z1⟩ := lie_cell hbk
 have c0 : w.cell? ⟨b, 0, none⟩ = some v := f1 0
 have hHO := Lib.hid hown
 clear f1
 go_enter func69, ntmps69
 go_wp2_with (at_builtin; refine wpList_append_own _ rfl _ _ 33 rfl B 9 iS (.string ⟨#[]⟩) 1 16 underlying33 hi hz0 hz1 hz2 rfl (by decide) _ _ _ rfl (hHO.out.alloc _) ⟨w.heap.size, 0, none⟩ 1 1 [.string ⟨s.toArray⟩] rfl rfl ?c1 ?c2 ?c3 ?c4 ?c5 ?_)
 case c1 =>
  intro j u hj
  match j, hj with
  | 0, hj => simp at hj; subst hj; simp [Addr.add]
 case c2 => intro u hu; simp at hu; subst hu; rfl
 case c3 => unfold maxLen; omega
 case c4 => omega
 case c5 => simp; omega
 intro v' w2 hown' hgrow _
 have hlt : b < w.heap.size := heap_in hbk
 have hne : v.ownBlock ≠ some b := fun e => by
  obtain ⟨_, cur, h2⟩ := own_type hown e
  rw [hbk] at h2
  injection h2 with h2; injection h2 with _ h2 _; exact absurd h2 (by decide)
 have hb2 : w2.heap[b]? = some (.cells #[v] 33 (0, 0)) := by
  rw [hgrow.block b (by simp; omega) (fun e => hne e.symm), Lib.alloc_old w _ b hlt]
  exact hbk
 obtain ⟨f2, d2, z2⟩ := lie_cell hb2
 have hb02 : Below B w w2 := ((Below.refl B w).alloc hBw _).grown hgrow (by simp; omega) (fun k hk => (hown.lt k hk).1)
 have HW := Lib.hid (And.intro hown' hb02)
 obtain ⟨g, cap, rfl⟩ : ∃ g cap, v' = .slice (some ⟨g, 0, none⟩) (xs.length + 1) cap := by
  rcases hown'.2 with ⟨_, h0⟩ | ⟨g, cap, cur, hv, _⟩
  ·omega
  ·exact ⟨g, cap, hv⟩
 have hHB := Lib.hid hb2
 clear hown' hgrow hown hHO hb02 hb2 c0 hbk
 go_wp2
 go_end0
 obtain ⟨hown', hb02⟩ := HW.out
 refine ⟨rfl, ⟨hB, _, heap_set_same hHB.out, ?_⟩, hb02.setCell (p := ⟨b, 0, none⟩) hB _⟩
 have e1 : strL (xs ++ [s]) = strL xs ++ [.string ⟨s.toArray⟩] := by simp [strL]
 rw [List.length_append, e1]
 refine own_kept hown' fun k hk => heap_set_other fun e => ?_
 subst e
 obtain ⟨_, cur, h2⟩ := own_type hown' hk
 rw [hHB.out] at h2
 injection h2 with h2; injection h2 with _ h2 _; exact absurd h2 (by decide)
end Go.Proofs.YtlpgigdegnbkmaaGreatDoor
