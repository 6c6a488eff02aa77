import Derived.Test.YtlpgigdegnbkmaaGreatDoorM17
import Derived.Test.YtlpgigdegnbkmaaGreatDoorM18
import Derived.Deep.RegionHeldLaw
set_option maxRecDepth 100000
set_option maxHeartbeats 8000000
namespace Go.Proofs.YtlpgigdegnbkmaaGreatDoor
open Go.RowKit Tab Tryz
theorem wp_eql_struct {P : Program} {op : Oper} {a : Act} {w : World} {K : Act -> World -> Prop} {Q : Exit -> Act -> World -> Prop} {T T' : TypeId} {x y : Operand} {xs ys : Array Value} {r : Bool} (ho : op.op = .binOp .eql T x y T') (hx : a.eval x = .agg xs) (hy : a.eval y = .agg ys)
  (hm : P.eqGuardType P.depth T = false) (hr : (Op.equalIn 10000 T (.agg xs) (.agg ys)).run P w = .ok r w) (h : K (a.put op.dst (.bool r)) w) : op.wp P a w K Q := by
 unfold Oper.wp execOp
 simp only [ho, hx, hy, Sem.run_bind, run_eqGuard_agg _ _ _ _ _ _ _ hm, run_eql_struct, hr, Result.andThen_ok]
 exact h
theorem wp_neq_struct {P : Program} {op : Oper} {a : Act} {w : World} {K : Act -> World -> Prop} {Q : Exit -> Act -> World -> Prop} {T T' : TypeId} {x y : Operand} {xs ys : Array Value} {r : Bool} (ho : op.op = .binOp .neq T x y T') (hx : a.eval x = .agg xs) (hy : a.eval y = .agg ys)
  (hm : P.eqGuardType P.depth T = false) (hr : (Op.equalIn 10000 T (.agg xs) (.agg ys)).run P w = .ok r w) (h : K (a.put op.dst (.bool (!r))) w) : op.wp P a w K Q := by
 unfold Oper.wp execOp
 simp only [ho, hx, hy, Sem.run_bind, run_eqGuard_agg _ _ _ _ _ _ _ hm, run_neq_struct, hr, Result.andThen_ok]
 exact h
theorem below_cells2 {n b : Nat} {w : World} (hb : n <= b) : ∀ (vs : List Value) (o : Nat) (W : World), Below n w W -> Below n w (W.setCells b o vs)
 | [], _, _, h => h
 | v :: r, o, _, h => below_cells2 hb r (o + 1) _ (h.setCell hb v)
theorem cells_other {b k : Nat} (h : k ≠ b) : ∀ (vs : List Value) (o : Nat) (W : World), (W.setCells b o vs).heap[k]? = W.heap[k]?
 | [], _, _ => rfl
 | _v :: r, o, _W => (cells_other h r (o + 1) _).trans (heap_set_other h)
theorem part_there {w : World} {b o n : Nat} {C : Array Value} {T : TypeId} (h : w.heap[b]? = some (.cells C T (0, 0))) (hs : o + n <= C.size) : w.there b o n := fun j hj => by
 obtain ⟨f, g, _⟩ := lie_cell h
 rw [f (o + j), g (o + j)]
 exact ⟨by simp; omega, rfl⟩
theorem cellsDec : (prog.info? 25).map (·.size) = some 2 := by kernel_rfl
theorem cellsRef : (prog.info? 27).map (·.size) = some 6 := by kernel_rfl
theorem oneDec (m e : Int) : (List.toArray [Value.int .i64 m, .int .i64 e]).all (·.oneCell') = true := all_oneCell_toArray (by
 intro u hu
 simp only [List.mem_cons, List.not_mem_nil, or_false] at hu
 rcases hu with rfl | rfl <;> rfl)
theorem oneRef (r : RefD) : (List.toArray [Value.string r.s, .int .i64 r.row, .int .i64 r.col, .bool r.fr, .bool r.fc, .bool r.bad]).all (·.oneCell') = true := all_oneCell_toArray (by
 intro u hu
 simp only [List.mem_cons, List.not_mem_nil, or_false] at hu
 rcases hu with rfl | rfl | rfl | rfl | rfl | rfl <;> rfl)
theorem namedS (s : Bs) (W : World) (h : s.length <= 900000) : Calls prog 55 #[.string ⟨s.toArray⟩] W (Ret (.bool (namedB s)) W) := named_any ⟨s.toArray⟩ W (Nat.le_trans (show s.length <= 900000 from h) (by decide))
theorem range_of {w : World} {b o : Nat} {C : Array Value} {cs : List Value} (hS : ∀ i, w.cell? ⟨b, i, none⟩ = C[i]?) (h : (C.toList.drop o).take cs.length = cs) : w.rangeAt b o cs := fun j v hj => by
 rw [hS (o + j)]
 rw [<- h, List.getElem?_take] at hj
 split at hj
 ·rw [List.getElem?_drop] at hj; simpa using hj
 ·cases hj
theorem cut_lens (l p : Bs) : (Lib.cut l p).1.length <= l.length /\ (Lib.cut l p).2.1.length <= l.length := by
 unfold Lib.cut
 split
 ·simp only [List.length_take, List.length_drop]; omega
 ·simp
def opsZ : List ByteArray := [⟨#[61]⟩, ⟨#[60, 62]⟩, ⟨#[60]⟩, ⟨#[60, 61]⟩, ⟨#[62]⟩, ⟨#[62, 61]⟩, ⟨#[38]⟩, ⟨#[43]⟩, ⟨#[45]⟩, ⟨#[42]⟩, ⟨#[47]⟩, ⟨#[94]⟩]
theorem opsZ_is (s : Bs) : Lib.containsS (opsZ.take 12) ⟨s.toArray⟩ = opsB.contains s := by
 rw [Bool.eq_iff_iff, Lib.containsS_iff, show opsZ.take 12 = opsB.map (fun l => (⟨l.toArray⟩ : ByteArray)) from rfl, List.mem_map, List.contains_iff_mem]
 constructor
 ·rintro ⟨l, h1, h2⟩
  have : l = s := by
   have := congrArg (fun x : ByteArray => x.data.toList) h2
   simpa using this
  rw [<- this]; exact h1
 ·intro h; exact ⟨s, h, rfl⟩
def opsV : List Value := [.string ⟨#[61]⟩, .string ⟨#[60, 62]⟩, .string ⟨#[60]⟩, .string ⟨#[60, 61]⟩, .string ⟨#[62]⟩, .string ⟨#[62, 61]⟩, .string ⟨#[38]⟩, .string ⟨#[43]⟩, .string ⟨#[45]⟩, .string ⟨#[42]⟩, .string ⟨#[47]⟩, .string ⟨#[94]⟩]
theorem opsV_at (j : Nat) (h : j < opsZ.length) : (opsV.toArray)[0 + j]? = some (.string (opsZ.getD j ByteArray.empty)) := by
 have h : j < 12 := h
 have : j = 0 \/ j = 1 \/ j = 2 \/ j = 3 \/ j = 4 \/ j = 5 \/ j = 6 \/ j = 7 \/ j = 8 \/ j = 9 \/ j = 10 \/ j = 11 := by omega
 rcases this with rfl | rfl | rfl | rfl | rfl | rfl | rfl | rfl | rfl | rfl | rfl | rfl <;> rfl
theorem hasOp_any (s : Bs) (b c : Nat) (W : World) (T : TypeId) (h : W.heap[b]? = some (.cells opsV.toArray T (0, 0))) : Calls prog 62 #[.slice (some ⟨b, 0, none⟩) 12 c, .string ⟨s.toArray⟩] W (Still (.bool (opsB.contains s)) W) := by
 have := Tryz.slices_Contains_string b 0 12 c opsZ ⟨s.toArray⟩ W (by decide) (by decide) (fun j hj => by rw [(lie_cell h).1]; exact opsV_at j hj)
 rw [opsZ_is] at this
 exact this.mono fun e w' ⟨h1, h2⟩ => ⟨h1, h2.symm⟩
structure FOk (x : InsD) (b blocks behind : Int) : Prop where
 dec : -9000000000000000000 <= x.m /\ x.m <= 9000000000000000000
 text : x.s.length <= 900000
 block : 0 <= b /\ b <= 1000000
 blocks : 0 <= blocks /\ blocks <= 1000000
 refs : x.ref.s.size <= 9223372036854775807 /\ x.far.s.size <= 9223372036854775807
theorem guardIns : prog.eqGuardType prog.depth 43 = false := by kernel_rfl
theorem win_any (n lo hi : Int) (w : World) : Calls prog 56 #[.int .i64 n, .int .i64 lo, .int .i64 hi] w (Still (.bool (winD n lo hi)) w) := by
 unfold winD
 generalize h1 : decide (lo <= n) = A
 generalize h2 : decide (n <= hi) = B
 cases A <;> cases B
 all_goals (
  go_enter func56, ntmps56
  go_wp2
  go_ret; exact Still.mk' rfl)
theorem fodd_any (x : Nat) (w : World) : Calls prog 58 #[.int .i32 (x : Int)] w (Still (.bool (lowR x)) w) := by
 unfold lowR
 obtain ⟨B, hB⟩ : ∃ B, (x == 127) = B := ⟨_, rfl⟩
 have e2 : ((x : Int) == 127) = B := by rw [<- hB, Bool.eq_iff_iff, beq_iff_eq, beq_iff_eq]; omega
 rw [hB]
 clear hB
 obtain ⟨A, hA⟩ : ∃ A, decide (x < 32) = A := ⟨_, rfl⟩
 have e1 : decide ((x : Int) < 32) = A := by
  rw [<- hA]
  by_cases h : x < 32
  ·rw [decide_eq_true h]; exact decide_eq_true (by omega)
  ·rw [decide_eq_false h]; exact decide_eq_false (by omega)
 rw [hA]
 clear hA
 cases A <;> cases B
 all_goals (
  go_enter func58, ntmps58
  go_wp2
  go_ret; exact Still.mk' rfl)
theorem enters_fodd : ∀ args w, (callFunc 58 args).run prog w = .ok (.enter 58 args) w := enters_of func58 (by kernel_rfl) rfl
theorem hasLow_any (s : Bs) (w : World) : Calls prog 60 #[.string ⟨s.toArray⟩, .func (.func 58) #[] #[]] w (Ret (.bool (!(s.all okByte))) w) := by
 have h := low_is ⟨s.toArray⟩
 rw [show (⟨s.toArray⟩ : ByteArray).data.toList = s from rfl] at h
 rw [<- h]
 exact Tryz.strings_ContainsFunc_grows 58 #[] enters_fodd lowR ⟨s.toArray⟩ w (fun W' x _ _ => (fodd_any x W').mono fun _ _ h => h.ret)
theorem cut_any (s : Bs) (c : UInt8) (w : World) (hg : Good w) (hs : s.length <= 1000000) : Calls prog 63 #[.string ⟨s.toArray⟩, .string ⟨#[c]⟩] w (Ret (.tuple #[.string ⟨(Lib.cut s [c]).1.toArray⟩, .string ⟨(Lib.cut s [c]).2.1.toArray⟩, .bool (Lib.cut s [c]).2.2]) w) := by
 refine (Tryz.strings_Cut_shaped ⟨s.toArray⟩ ⟨#[c]⟩ w hg.shaped (Nat.lt_of_le_of_lt (show s.length <= 1000000 from hs) (by decide))).mono fun e w' ⟨he, n, hn⟩ => ⟨he, ?_⟩
 obtain ⟨w3, e3, hb3⟩ := drewN_abs w n
 rw [hn, e3]; exact hb3
theorem tk {P : Program} {md : Region.Mode} {ops : Array Oper} {Q : Exit -> Act -> World -> Prop} {S : World -> Prop} {fuel : Nat} {l l' : Array Bool} {a a' : Act} {w : World} {o : Oper} {v : Value} (i : Nat) (hS : S w) (h : wpAnyH P md ops Q S fuel l' a' w)
  (hi : ops[i]? = some o := by rfl) (hs : Region.noSelect ops = true := by kernel_rfl) (hf : Region.free md ops l i = true := by kernel_rfl) (hr : (Region.ready md ops l).contains i = true := by kernel_rfl)
  (hQ : ∀ c a w, Q (.panic c) (a.put o.dst v) w -> Q (.panic c) a w := by exact fun _ _ _ h => h)
  (hy : YieldsIf P ops S o v a := by (first | (refine Or.inl ⟨by rfl, ?_⟩; intro w' hSw; go_simp; first | done | with_reducible rfl) | exact Or.inr ⟨by rfl, rfl⟩))
  (ha : a.put o.dst v = a' := by (simp only [List.getElem_toArray, List.getElem_cons_succ, List.getElem_cons_zero, Act.put, List.setIfInBounds_toArray, List.set_cons_zero, List.set_cons_succ]; exact rfl))
  (hl : l.setIfInBounds i true = l' := by exact rfl) : wpAnyH P md ops Q S (fuel + 1) l a w :=
 wpAnyH_take hi hs hf hr hQ hy hS (by rw [ha, hl]; exact h)
theorem sp {P : Program} {ops : Array Oper} {rest : List Oper} {o : Oper} {a : Act} {w : World} {Q : Exit -> Act -> World -> Prop} (h : ∀ K : Act -> World -> Prop, (∀ a w, wpList P ops Q rest a w -> K a w) -> o.wp P a w K Q) (hg : o.guard = none := by rfl) : wpList P ops Q (o :: rest) a w := wpList_plain hg h
theorem sw {P : Program} {ops : Array Oper} {rest : List Oper} {o : Oper} {a : Act} {w : World} {Q : Exit -> Act -> World -> Prop} (h : ∀ K : Act -> World -> Prop, (∀ a w, wpList P ops Q rest a w -> K a w) -> o.wp P a w K Q) (hw : Region.wanted o (yielded ops a.tmps) = true := by rfl) : wpList P ops Q (o :: rest) a w := wpList_want hw h
abbrev Two (T : Nat) (w : World) (B : Nat) (N C : List Value) : World -> Prop := fun W => Below w.heap.size w W /\ W.heap[w.heap.size]? = some (.cells N.toArray T (0, 0)) /\ W.heap[B]? = some (.cells C.toArray T (0, 0))
section
variable {P : Program} {md : Region.Mode} {ops : Array Oper} {Q : Exit -> Act -> World -> Prop} {S : World -> Prop} {fuel : Nat} {l : Array Bool} {T : Nat} {w W W' : World} {B : Nat} {N C C' : List Value}
theorem Two.more (t : Two T w B N C W) (h : Below W.heap.size W W') : Two T w B N C W' := ⟨after t.1 h, (h.block _ (heap_in t.2.1)).trans t.2.1, (h.block _ (heap_in t.2.2)).trans t.2.2⟩
theorem Two.set {o : Nat} {v : Value} (t : Two T w B N C W) (hs : w.heap.size <= B) (hn : ¬ w.heap.size = B) (hC : C.toArray.setIfInBounds o v = C'.toArray := by rfl) : Two T w B N C' (W.setCell ⟨B, o, none⟩ v) := ⟨setB t.1 hs, (heap_set_other hn).trans t.2.1, by rw [heap_set_same t.2.2, hC]⟩
theorem Two.sets {o : Nat} {vs : List Value} (t : Two T w B N C W) (hs : w.heap.size <= B) (hn : ¬ w.heap.size = B) (hl : o + vs.length <= C.toArray.size := by exact Nat.le_of_ble_eq_true rfl) (hC : C.take o ++ vs ++ C.drop (o + vs.length) = C' := by rfl) : Two T w B N C' (W.setCells B o vs) := ⟨below_cells2 hs _ _ _ t.1, (cells_other hn _ _ _).trans t.2.1, by rw [setCells_heap _ o _ _ t.2.2 hl]; exact congrArg (fun x => some (Obj.cells (List.toArray x) T (0, 0))) hC⟩
theorem hk2 {K1 : Act -> World -> Prop} {R : World -> Prop} {a : Act} (hK : Shut (∀ a w', S w' -> (S w' -> wpAnyH P md ops Q S fuel l a w') -> K1 a w')) (t : R W) (h : ∀ W2, R W2 -> S W2 -> wpAnyH P md ops Q S fuel l a W2) (hS : ∀ W, R W -> S W := by exact fun _ t => (lie_cell t.2.1).1) : K1 a W := hK.out a W (hS W t) fun s => h W t s
theorem two_in {id : Nat} {a : Act} (t : Two T w B N C W) (h : ∀ W2, Two T w B N C W2 -> (∀ i, W2.cell? ⟨w.heap.size, i, none⟩ = (List.toArray N)[i]?) -> wpAnyH P .any ops Q (fun w' => ∀ i, w'.cell? ⟨w.heap.size, i, none⟩ = (List.toArray N)[i]?) ops.size (Array.replicate ops.size false) a W2) (hm : P.follows .mixedOrders = true := by kernel_rfl) : (Code.region id ops true).wp P Q a W := wp_region_held_drew (S := fun w' => ∀ i, w'.cell? ⟨w.heap.size, i, none⟩ = (List.toArray N)[i]?) hm (lie_cell (w := W.drew) t.2.1).1 (fun hS => h W.drew ⟨drewB t.1, t.2.1, t.2.2⟩ hS)
end
def valA (s : Bs) : List Value := [.int .i64 2, .int .i64 0, .int .i64 0, .string ⟨s.toArray⟩, .bool false, .int .i64 0, .int .i64 0, .int .i64 0, .slice none 0 0, .int .i64 0, .slice none 0 0, .slice none 0 0]
theorem valA_one (s : Bs) : ∀ u ∈ valA s, u.oneCell' = true := by
 intro u hu
 simp only [valA, List.mem_cons, List.not_mem_nil, or_false] at hu
 rcases hu with rfl | rfl | rfl | rfl | rfl | rfl | rfl | rfl | rfl | rfl | rfl | rfl <;> rfl
theorem cellsVal : (prog.info? 179).map (·.size) = some 12 := by kernel_rfl
theorem vodd_any (x : Nat) (w : World) : Calls prog 214 #[.int .i32 (x : Int)] w (Still (.bool (lowR x)) w) := by
 unfold lowR
 obtain ⟨B, hB⟩ : ∃ B, (x == 127) = B := ⟨_, rfl⟩
 have e2 : ((x : Int) == 127) = B := by rw [<- hB, Bool.eq_iff_iff, beq_iff_eq, beq_iff_eq]; omega
 rw [hB]
 clear hB
 obtain ⟨A, hA⟩ : ∃ A, decide (x < 32) = A := ⟨_, rfl⟩
 have e1 : decide ((x : Int) < 32) = A := by
  rw [<- hA]
  by_cases h : x < 32
  ·rw [decide_eq_true h]; exact decide_eq_true (by omega)
  ·rw [decide_eq_false h]; exact decide_eq_false (by omega)
 rw [hA]
 clear hA
 cases A <;> cases B
 all_goals (
  go_enter func214, ntmps214
  go_wp2
  go_ret; exact Still.mk' rfl)
theorem enters_vodd : ∀ args w, (callFunc 214 args).run prog w = .ok (.enter 214 args) w := enters_of func214 (by kernel_rfl) rfl
theorem vLow_any (s : Bs) (w : World) : Calls prog 60 #[.string ⟨s.toArray⟩, .func (.func 214) #[] #[]] w (Ret (.bool (!(s.all okByte))) w) := by
 have h := low_is ⟨s.toArray⟩
 rw [show (⟨s.toArray⟩ : ByteArray).data.toList = s from rfl] at h
 rw [<- h]
 exact Tryz.strings_ContainsFunc_grows 214 #[] enters_vodd lowR ⟨s.toArray⟩ w (fun W' x _ _ => (vodd_any x W').mono fun _ _ h => h.ret)
theorem vtext_any (s : Bs) (w : World) (hg : Good w) (hs : s.length <= 900000) : Calls prog 193 #[.string ⟨s.toArray⟩] w (Ret (.bool (decide (s.length <= 200) && textB s)) w) := by
 have cV := fun W (hW : Below w.heap.size w W) => Tryz.utf8_ValidString ⟨s.toArray⟩ W (Nat.le_trans (show s.length <= 900000 from hs) (by decide)) (hg.below hW).u8
 have cO := fun W (hW : Below w.heap.size w W) => vLow_any s W
 rw [show (⟨s.toArray⟩ : ByteArray).data.toList = s from rfl] at cV
 unfold textB
 rw [show (s.all okByte && Lib.validD s) = (Lib.validD s && s.all okByte) from Bool.and_comm _ _]
 obtain ⟨n, hn⟩ : ∃ n, s.length = n := ⟨_, rfl⟩
 rw [hn]
 generalize Lib.validD s = V at *
 generalize s.all okByte = O at *
 by_cases hl : n <= 200
 ·have el : decide ((n : Int) <= 200) = true := decide_eq_true (by omega)
  rw [decide_eq_true hl]
  cases V
  ·go_enter func193, ntmps193
   go_wp2_with fail
   refine (cV _ (Below.refl _ _)).mono ?_; rintro e w1 ⟨rfl, hb1⟩
   go_wp2
   go_ret; exact Ret.mk' rfl hb1
  ·cases O
   all_goals (
    go_enter func193, ntmps193
    go_wp2_with fail
    refine (cV _ (Below.refl _ _)).mono ?_; rintro e w1 ⟨rfl, hb1⟩
    go_wp2_with fail
    refine (cO _ hb1).mono ?_; rintro e w2 ⟨rfl, hb2⟩
    go_wp2
    go_ret; exact Ret.mk' rfl (after hb1 hb2))
 ·have el : decide ((n : Int) <= 200) = false := decide_eq_false (by omega)
  rw [decide_eq_false hl]
  go_enter func193, ntmps193
  go_wp2
  go_ret; exact Ret.mk' rfl (Below.refl _ _)
theorem vsaid_any (s : Bs) (w : World) : Calls prog 192 #[.string ⟨s.toArray⟩] w (Ret (.agg (valA s).toArray) w) := by
 go_enter func192, ntmps192
 go_upto_region 1 with (fail)
 refine wp_region_lit ?_
 iterate 2 refine st ?_
 refine wpList_store_mid rfl 179 (.tmp 2) (.tmp 4) rfl w.heap.size 0 (valA s).toArray rfl rfl (whole_there (heap_alloc_new _ _) rfl) cellsVal (all_oneCell_toArray (valA_one s)) ?_
 refine wpList_abs (On1 179 w (valA s).toArray) ⟨below_cells _ _ _ _ _ ((Below.refl _ _).alloc (Nat.le_refl _) _), box_whole (heap_alloc_new _ _) rfl⟩ ?_
 rintro w1 ⟨hb1, q1⟩
 refine wpList_nil ?_
 have HT := Lib.hid q1
 clear q1
 go_wp2
 exact bodyPost_ret (results_cell_row rfl _ _ w.heap.size 179 (valA s).toArray (0, 0) _ rfl HT.out underlying179 rfl (by exact cellsVal)) rfl ⟨rfl, hb1⟩
theorem eqVals_nil (F : Value) (w : World) : Calls prog 196 #[.slice none 0 0, .slice none 0 0, F] w (Still (.bool true) w) := by
 go_enter func196, ntmps196
 go_wp2
 go_loop [17] (fun i => i = .int .i64 0) (fun _ => 0)
 case atStart => rfl
 case round =>
  obtain rfl := hrel
  go_wp2
  go_ret; exact Still.mk' rfl
theorem eqBlocks_nil (F : Value) (w : World) : Calls prog 34 #[.slice none 0 0, .slice none 0 0, F] w (Still (.bool true) w) := by
 go_enter func34, ntmps34
 go_wp2
 go_loop [17] (fun i => i = .int .i64 0) (fun _ => 0)
 case atStart => rfl
 case round =>
  obtain rfl := hrel
  go_wp2
  go_ret; exact Still.mk' rfl
theorem eqNames_nil (w : World) : Calls prog 36 #[.slice none 0 0, .slice none 0 0] w (Still (.bool true) w) := (Tryz.slices_Equal_string_empty none none 0 0 0 w (by decide)).mono fun _ _ h => ⟨h.1, h.2.symm⟩
theorem vsame_any (s : Bs) (w : World) : Calls prog 168 #[.agg (valA s).toArray, .agg (valA s).toArray] w (Ret (.bool true) w) := by
 have c1 := eqVals_nil (.func (.func 168) #[] #[])
 have c2 := eqBlocks_nil (.func (.func 35) #[] #[])
 have c3 := eqNames_nil
 have hs : ((⟨s.toArray⟩ : ByteArray).toList == (⟨s.toArray⟩ : ByteArray).toList) = true := by simp
 go_enter func168, ntmps168
 go_upto_region 1 with (fail)
 refine wp_abs2 (fun W => Below w.heap.size w W /\ W.heap[w.heap.size]? = some (.cells (valA s).toArray 179 (0, 0)) /\ W.heap[w.heap.size + 1]? = some (.cells (valA s).toArray 179 (0, 0))) ⟨belx, heap_alloc2_old _ _ _, heap_alloc2_new _ _ _⟩ ?_
 rintro w1 ⟨hb1, q1, r1⟩
 obtain ⟨f1, -, z1⟩ := lie_cell q1
 obtain ⟨g1, -, y1⟩ := lie_cell r1
 unfold valA at f1 g1
 clear q1 r1
 go_wp2_with fail
 refine (c1 w1).mono ?_; rintro e w2 ⟨rfl, rfl⟩
 go_wp2_with fail
 refine (c2 w1).mono ?_; rintro e w2 ⟨rfl, rfl⟩
 go_wp2_with fail
 refine (c3 w1).mono ?_; rintro e w2 ⟨rfl, rfl⟩
 go_wp2
 go_ret; exact Ret.mk' rfl hb1
theorem vplain_any (s : Bs) (w : World) (hg : Good w) (hs : s.length <= 900000) : Calls prog 167 #[.agg (valA s).toArray] w (Ret (.bool (decide (s.length <= 200) && textB s)) w) := by
 have cT := fun W (hW : Below w.heap.size w W) => vtext_any s W (hg.below hW) hs
 obtain ⟨V, hV⟩ : ∃ V, (decide (s.length <= 200) && textB s) = V := ⟨_, rfl⟩
 rw [hV] at cT ⊢
 clear hV
 go_enter func167, ntmps167
 go_upto_region 2 with (fail)
 refine wp_abs2 (fun W => Below w.heap.size w W /\ W.heap[w.heap.size]? = some (.cells (valA s).toArray 179 (0, 0)) /\ ∃ C : Array Value, C.size = 12 /\ W.heap[w.heap.size + 1]? = some (.cells C 179 (0, 0))) ⟨belx, heap_alloc2_old _ _ _, _, rfl, heap_alloc2_new _ _ _⟩ ?_
 rintro w1 ⟨hb1, q1, C, hC, r1⟩
 obtain ⟨f1, -, z1⟩ := lie_cell q1
 have y1 := heap_in r1
 unfold valA at f1
 go_upto_region 9 with (fail)
 have kcc := gcell w1
 refine region_below_tail 6 (by kernel_rfl) (by kernel_rfl) ?_
 simp only [List.take_succ_cons, List.take_zero, List.drop_succ_cons, List.drop_zero]
 iterate 6 (quiet_step (first | exact Ret.grown (fun W hW => vsaid_any s W) | exact Ret.grown (fun W hW => cT W (after hb1 hW))))
 refine wpQuiet_nil ?_
 intro w2 hb2
 have q2 := (hb2.block _ z1).trans q1
 have r2 := (hb2.block _ y1).trans r1
 have hb02 := after hb1 hb2
 clear f1 kcc q1 r1
 refine wpList_store_mid rfl 179 (.tmp 3) (.tmp 21) rfl (w.heap.size + 1) 0 (valA s).toArray rfl rfl (whole_there r2 (by rw [hC]; rfl)) cellsVal (all_oneCell_toArray (valA_one s)) ?_
 refine wpList_abs (fun W => Below w.heap.size w W /\ W.heap[w.heap.size]? = some (.cells (valA s).toArray 179 (0, 0)) /\ W.heap[w.heap.size + 1]? = some (.cells (valA s).toArray 179 (0, 0))) ⟨below_cells2 (by omega) _ _ _ hb02, (cells_other (by omega) _ _ _).trans q2, box_whole r2 (by rw [hC]; rfl)⟩ ?_
 rintro w3 ⟨hb3, q3, r3⟩
 iterate 1 refine st ?_
 refine wpList_nil ?_
 cases V
 ·go_wp2
  go_ret; exact Ret.mk' rfl hb3
 ·go_upto_region 14 with (fail)
  refine wp_region_lit ?_
  iterate 2 refine st ?_
  refine wpList_want (by rfl) (fun KK hKK => ?_)
  refine wp_load_row 179 (.tmp 1) rfl w.heap.size rfl 179 (valA s).toArray (0, 0) _ q3 underlying179 rfl (by exact cellsVal) ?_
  refine hKK _ _ ?_; clear hKK KK
  refine wpList_want (by rfl) (fun KK hKK => ?_)
  refine wp_load_row 179 (.tmp 3) rfl (w.heap.size + 1) rfl 179 (valA s).toArray (0, 0) _ r3 underlying179 rfl (by exact cellsVal) ?_
  refine hKK _ _ ?_; clear hKK KK
  refine wpList_want (by rfl) (fun KK hKK => ?_)
  go_simp
  refine (vsame_any s w3).mono ?_; rintro e w4 ⟨rfl, hb4⟩
  refine hKK _ _ ?_; clear hKK KK
  iterate 2 refine st ?_
  refine wpList_nil ?_
  go_wp2
  go_ret; exact Ret.mk' rfl (after hb3 hb4)
theorem vright_any (s : Bs) (w : World) (hg : Good w) (hs : s.length <= 900000) : Calls prog 134 #[.agg (valA s).toArray] w (Ret (.bool (decide (s.length <= 200) && textB s)) w) := by
 have cP := fun W (hW : Below w.heap.size w W) => vplain_any s W (hg.below hW) hs
 generalize (decide (s.length <= 200) && textB s) = V at *
 go_enter func134, ntmps134
 go_upto_region 1 with (fail)
 refine wp_abs2 (On1 179 w (valA s).toArray) ⟨belx, heap_alloc_new _ _⟩ ?_
 rintro w1 ⟨hb1, q1⟩
 obtain ⟨f1, -, z1⟩ := lie_cell q1
 unfold valA at f1
 go_upto_region 13 with (fail)
 refine wp_region_lit ?_
 refine wpList_load_row rfl 179 (.tmp 1) rfl w.heap.size rfl 179 (valA s).toArray (0, 0) _ q1 underlying179 rfl (by exact cellsVal) ?_
 refine wpList_plain rfl (fun KK hKK => ?_); go_simp
 refine (cP w1 hb1).mono ?_; rintro e w2 ⟨rfl, hb2⟩
 refine hKK _ _ ?_; clear hKK KK
 iterate 1 refine st ?_
 refine wpList_nil ?_
 clear f1
 go_wp2
 go_ret; exact Ret.mk' rfl (after hb1 hb2)
theorem ttext_any (s : Bs) (most : Nat) (w : World) (hg : Good w) (hs : s.length <= 900000) : Calls prog 89 #[.string ⟨s.toArray⟩, .int .i64 (most : Int)] w (Ret (.bool (textOkD s most)) w) := by
 have cR := vright_any s w hg hs
 unfold textOkD
 generalize hV : (decide (s.length <= 200) && textB s) = V at *
 obtain ⟨n, hn⟩ : ∃ n, s.length = n := ⟨_, rfl⟩
 rw [hn]
 clear hV
 unfold valA at cR
 by_cases hm : n <= most
 ·have e1 : decide ((n : Int) <= (most : Int)) = true := decide_eq_true (by omega)
  rw [decide_eq_true hm]
  go_enter func89, ntmps89
  go_wp2_with fail
  refine cR.mono ?_; rintro e w1 ⟨rfl, hb1⟩
  go_wp2
  go_ret; exact Ret.mk' rfl hb1
 ·have e1 : decide ((n : Int) <= (most : Int)) = false := decide_eq_false (by omega)
  rw [decide_eq_false hm]
  go_enter func89, ntmps89
  go_wp2
  go_ret; exact Ret.mk' rfl (Below.refl _ _)
theorem operator_any (s : Bs) (w : World) : Calls prog 92 #[.string ⟨s.toArray⟩] w (Still (.int .i64 (operD s)) w) := by
 by_cases h0 : s = [61]
 ·subst h0
  go_enter func92, ntmps92
  go_wp2
  go_ret; exact Still.mk' rfl
 by_cases h1 : s = [60, 62]
 ·subst h1
  go_enter func92, ntmps92
  go_wp2
  go_ret; exact Still.mk' rfl
 by_cases h2 : s = [60]
 ·subst h2
  go_enter func92, ntmps92
  go_wp2
  go_ret; exact Still.mk' rfl
 by_cases h3 : s = [60, 61]
 ·subst h3
  go_enter func92, ntmps92
  go_wp2
  go_ret; exact Still.mk' rfl
 by_cases h4 : s = [62]
 ·subst h4
  go_enter func92, ntmps92
  go_wp2
  go_ret; exact Still.mk' rfl
 by_cases h5 : s = [62, 61]
 ·subst h5
  go_enter func92, ntmps92
  go_wp2
  go_ret; exact Still.mk' rfl
 by_cases h6 : s = [38]
 ·subst h6
  go_enter func92, ntmps92
  go_wp2
  go_ret; exact Still.mk' rfl
 by_cases h7 : s = [43]
 ·subst h7
  go_enter func92, ntmps92
  go_wp2
  go_ret; exact Still.mk' rfl
 by_cases h8 : s = [45]
 ·subst h8
  go_enter func92, ntmps92
  go_wp2
  go_ret; exact Still.mk' rfl
 by_cases h9 : s = [42]
 ·subst h9
  go_enter func92, ntmps92
  go_wp2
  go_ret; exact Still.mk' rfl
 by_cases h10 : s = [47]
 ·subst h10
  go_enter func92, ntmps92
  go_wp2
  go_ret; exact Still.mk' rfl
 by_cases h11 : s = [94]
 ·subst h11
  go_enter func92, ntmps92
  go_wp2
  go_ret; exact Still.mk' rfl
 have e0 : (s == [61]) = false := beq_eq_false_iff_ne.2 h0
 have e1 : (s == [60, 62]) = false := beq_eq_false_iff_ne.2 h1
 have e2 : (s == [60]) = false := beq_eq_false_iff_ne.2 h2
 have e3 : (s == [60, 61]) = false := beq_eq_false_iff_ne.2 h3
 have e4 : (s == [62]) = false := beq_eq_false_iff_ne.2 h4
 have e5 : (s == [62, 61]) = false := beq_eq_false_iff_ne.2 h5
 have e6 : (s == [38]) = false := beq_eq_false_iff_ne.2 h6
 have e7 : (s == [43]) = false := beq_eq_false_iff_ne.2 h7
 have e8 : (s == [45]) = false := beq_eq_false_iff_ne.2 h8
 have e9 : (s == [42]) = false := beq_eq_false_iff_ne.2 h9
 have e10 : (s == [47]) = false := beq_eq_false_iff_ne.2 h10
 have e11 : (s == [94]) = false := beq_eq_false_iff_ne.2 h11
 have hV : operD s = 0 := by
  unfold operD
  rw [if_neg h0, if_neg h1, if_neg h2, if_neg h3, if_neg h4, if_neg h5, if_neg h6, if_neg h7, if_neg h8, if_neg h9, if_neg h10, if_neg h11]
 rw [hV]
 clear hV h0 h1 h2 h3 h4 h5 h6 h7 h8 h9 h10 h11
 go_enter func92, ntmps92
 go_wp2
 go_ret; exact Still.mk' rfl
theorem split_byte : ∀ s : Bs, (splitD s).length = Lib.countByte s 44 + 1
 | [] => rfl
 | b :: l => by
  have ih : (splitD l).length = List.count 44 l + 1 := split_byte l
  show (splitD (b :: l)).length = List.count 44 (b :: l) + 1
  unfold splitD
  by_cases h : b = 44
  ·subst h; simp [ih]
  ·rw [if_neg h]
   have h2 : (b == 44) = false := beq_eq_false_iff_ne.2 h
   split
   ·rename_i e; exact absurd e (splitD_ne l)
   ·rename_i x r e
    rw [e] at ih
    simp [h, h2] at *; omega
theorem count_byte (s : Bs) : (Lib.count s [44] : Int) = (Lib.countByte s 44 : Nat) := by
 have h1 : Lib.count s [44] + 1 = (splitD s).length := split_count ⟨s.toArray⟩
 have h2 := split_byte s
 omega
theorem kids_any (n : NodeD) (a : Option Addr) (c : Nat) (w : World) (hs : n.text.length <= 900000) (hk : n.kids.length <= 1000000) (hr : n.kind = 13 -> 1 <= n.rows /\ n.rows <= 9223372036854775807) : Calls prog 51 #[.agg (nodeC n (.slice a n.kids.length c)).toArray] w (Ret (.bool (kidsD n)) w) := by
 obtain ⟨L, hL⟩ : ∃ L, n.kids.length = L := ⟨_, rfl⟩
 unfold kidsD nodeC
 rw [hL] at hk ⊢
 clear hL
 have hb : ∀ z : Nat, ((L : Int) == (z : Int)) = decide (L = z) := fun z => by
  rw [Bool.eq_iff_iff, beq_iff_eq, decide_eq_true_iff]; omega
 by_cases h9 : n.kind = 9
 ·clear hr
  rw [h9]
  clear h9
  rw [if_pos rfl]
  have hz : ((L : Int) == 2) = decide (L = 2) := hb 2
  clear hb
  go_enter func51, ntmps51
  go_upto_region 1 with (fail)
  refine wp_abs2 (On1 30 w (List.toArray [.int .i64 9, .string ⟨n.text.toArray⟩, .int .i64 n.m, .int .i64 n.e, .bool n.b, .int .i64 n.err, .string n.ref.s, .int .i64 n.ref.row, .int .i64 n.ref.col, .bool n.ref.fr, .bool n.ref.fc, .bool n.ref.bad, .string n.far.s, .int .i64 n.far.row, .int .i64 n.far.col, .bool n.far.fr, .bool n.far.fc, .bool n.far.bad, .int .i64 n.rows, .slice a L c])) ⟨belx, heap_alloc_new _ _⟩ ?_
  rintro w1 ⟨hb1, q1⟩
  obtain ⟨f1, -, z1⟩ := lie_cell q1
  clear q1
  go_wp2
  go_ret; exact Ret.mk' (by first | rfl | exact congrArg Value.bool hz) hb1
 by_cases h10 : n.kind = 10
 ·clear hr
  rw [h10]
  clear h10
  rw [if_neg (by decide), if_pos (by decide)]
  have hz : ((L : Int) == 1) = decide (L = 1) := hb 1
  clear hb
  go_enter func51, ntmps51
  go_upto_region 1 with (fail)
  refine wp_abs2 (On1 30 w (List.toArray [.int .i64 10, .string ⟨n.text.toArray⟩, .int .i64 n.m, .int .i64 n.e, .bool n.b, .int .i64 n.err, .string n.ref.s, .int .i64 n.ref.row, .int .i64 n.ref.col, .bool n.ref.fr, .bool n.ref.fc, .bool n.ref.bad, .string n.far.s, .int .i64 n.far.row, .int .i64 n.far.col, .bool n.far.fr, .bool n.far.fc, .bool n.far.bad, .int .i64 n.rows, .slice a L c])) ⟨belx, heap_alloc_new _ _⟩ ?_
  rintro w1 ⟨hb1, q1⟩
  obtain ⟨f1, -, z1⟩ := lie_cell q1
  clear q1
  go_wp2
  go_ret; exact Ret.mk' (by first | rfl | exact congrArg Value.bool hz) hb1
 by_cases h11 : n.kind = 11
 ·clear hr
  rw [h11]
  clear h11
  rw [if_neg (by decide), if_pos (by decide)]
  have hz : ((L : Int) == 1) = decide (L = 1) := hb 1
  clear hb
  go_enter func51, ntmps51
  go_upto_region 1 with (fail)
  refine wp_abs2 (On1 30 w (List.toArray [.int .i64 11, .string ⟨n.text.toArray⟩, .int .i64 n.m, .int .i64 n.e, .bool n.b, .int .i64 n.err, .string n.ref.s, .int .i64 n.ref.row, .int .i64 n.ref.col, .bool n.ref.fr, .bool n.ref.fc, .bool n.ref.bad, .string n.far.s, .int .i64 n.far.row, .int .i64 n.far.col, .bool n.far.fr, .bool n.far.fc, .bool n.far.bad, .int .i64 n.rows, .slice a L c])) ⟨belx, heap_alloc_new _ _⟩ ?_
  rintro w1 ⟨hb1, q1⟩
  obtain ⟨f1, -, z1⟩ := lie_cell q1
  clear q1
  go_wp2
  go_ret; exact Ret.mk' (by first | rfl | exact congrArg Value.bool hz) hb1
 by_cases h14 : n.kind = 14
 ·clear hr
  rw [h14]
  clear h14
  rw [if_neg (by decide), if_pos (by decide)]
  have hz : ((L : Int) == 1) = decide (L = 1) := hb 1
  clear hb
  go_enter func51, ntmps51
  go_upto_region 1 with (fail)
  refine wp_abs2 (On1 30 w (List.toArray [.int .i64 14, .string ⟨n.text.toArray⟩, .int .i64 n.m, .int .i64 n.e, .bool n.b, .int .i64 n.err, .string n.ref.s, .int .i64 n.ref.row, .int .i64 n.ref.col, .bool n.ref.fr, .bool n.ref.fc, .bool n.ref.bad, .string n.far.s, .int .i64 n.far.row, .int .i64 n.far.col, .bool n.far.fr, .bool n.far.fc, .bool n.far.bad, .int .i64 n.rows, .slice a L c])) ⟨belx, heap_alloc_new _ _⟩ ?_
  rintro w1 ⟨hb1, q1⟩
  obtain ⟨f1, -, z1⟩ := lie_cell q1
  clear q1
  go_wp2
  go_ret; exact Ret.mk' (by first | rfl | exact congrArg Value.bool hz) hb1
 by_cases h12 : n.kind = 12
 ·clear hr
  rw [h12]
  clear h12
  rw [if_neg (by decide), if_neg (by decide), if_pos rfl]
  clear hb
  go_enter func51, ntmps51
  go_upto_region 1 with (fail)
  refine wp_abs2 (On1 30 w (List.toArray [.int .i64 12, .string ⟨n.text.toArray⟩, .int .i64 n.m, .int .i64 n.e, .bool n.b, .int .i64 n.err, .string n.ref.s, .int .i64 n.ref.row, .int .i64 n.ref.col, .bool n.ref.fr, .bool n.ref.fc, .bool n.ref.bad, .string n.far.s, .int .i64 n.far.row, .int .i64 n.far.col, .bool n.far.fr, .bool n.far.fc, .bool n.far.bad, .int .i64 n.rows, .slice a L c])) ⟨belx, heap_alloc_new _ _⟩ ?_
  rintro w1 ⟨hb1, q1⟩
  obtain ⟨f1, -, z1⟩ := lie_cell q1
  clear q1
  go_wp2
  go_ret; exact Ret.mk' (by first | rfl | exact rfl) hb1
 by_cases h15 : n.kind = 15
 ·clear hr
  rw [h15]
  clear h15
  rw [if_neg (by decide), if_neg (by decide), if_neg (by decide), if_pos rfl]
  have hz : decide ((1 : Int) <= (L : Int)) = decide (1 <= L) := decide_eq_decide.2 (by omega)
  clear hb
  go_enter func51, ntmps51
  go_upto_region 1 with (fail)
  refine wp_abs2 (On1 30 w (List.toArray [.int .i64 15, .string ⟨n.text.toArray⟩, .int .i64 n.m, .int .i64 n.e, .bool n.b, .int .i64 n.err, .string n.ref.s, .int .i64 n.ref.row, .int .i64 n.ref.col, .bool n.ref.fr, .bool n.ref.fc, .bool n.ref.bad, .string n.far.s, .int .i64 n.far.row, .int .i64 n.far.col, .bool n.far.fr, .bool n.far.fc, .bool n.far.bad, .int .i64 n.rows, .slice a L c])) ⟨belx, heap_alloc_new _ _⟩ ?_
  rintro w1 ⟨hb1, q1⟩
  obtain ⟨f1, -, z1⟩ := lie_cell q1
  clear q1
  go_wp2
  go_ret; exact Ret.mk' (by first | rfl | exact congrArg Value.bool hz) hb1
 by_cases h13 : n.kind = 13
 ·replace hr := hr h13
  rw [h13]
  clear h13
  rw [if_neg (by decide), if_neg (by decide), if_neg (by decide), if_neg (by decide), if_pos rfl]
  clear hb
  by_cases hL : 0 < L
  ·rw [decide_eq_true hL]
   have e1 : decide ((0 : Int) < (L : Int)) = true := decide_eq_true (by omega)
   have e2 : (n.rows == 0) = false := beq_eq_false_iff_ne.2 (by omega)
   have e3 : ¬ n.rows = 0 := by omega
   have e4 : (L : Int).tmod n.rows = (L : Int) % n.rows := Int.tmod_eq_emod_of_nonneg (by omega)
   have e5 : ((L : Int) % n.rows == 0) = decide ((L : Int) % n.rows = 0) := by rw [Bool.eq_iff_iff, beq_iff_eq, decide_eq_true_iff]
   have hz : ((L : Int) % n.rows == 0) = (true && decide ((L : Int) % n.rows = 0)) := e5
   clear e4 e5
   go_enter func51, ntmps51
   go_upto_region 1 with (fail)
   refine wp_abs2 (On1 30 w (List.toArray [.int .i64 13, .string ⟨n.text.toArray⟩, .int .i64 n.m, .int .i64 n.e, .bool n.b, .int .i64 n.err, .string n.ref.s, .int .i64 n.ref.row, .int .i64 n.ref.col, .bool n.ref.fr, .bool n.ref.fc, .bool n.ref.bad, .string n.far.s, .int .i64 n.far.row, .int .i64 n.far.col, .bool n.far.fr, .bool n.far.fc, .bool n.far.bad, .int .i64 n.rows, .slice a L c])) ⟨belx, heap_alloc_new _ _⟩ ?_
   rintro w1 ⟨hb1, q1⟩
   obtain ⟨f1, -, z1⟩ := lie_cell q1
   clear q1
   go_wp2
   go_ret; exact Ret.mk' (by first | rfl | exact congrArg Value.bool hz) hb1
  ·rw [decide_eq_false hL]
   have e1 : decide ((0 : Int) < (L : Int)) = false := decide_eq_false (by omega)
   go_enter func51, ntmps51
   go_upto_region 1 with (fail)
   refine wp_abs2 (On1 30 w (List.toArray [.int .i64 13, .string ⟨n.text.toArray⟩, .int .i64 n.m, .int .i64 n.e, .bool n.b, .int .i64 n.err, .string n.ref.s, .int .i64 n.ref.row, .int .i64 n.ref.col, .bool n.ref.fr, .bool n.ref.fc, .bool n.ref.bad, .string n.far.s, .int .i64 n.far.row, .int .i64 n.far.col, .bool n.far.fr, .bool n.far.fc, .bool n.far.bad, .int .i64 n.rows, .slice a L c])) ⟨belx, heap_alloc_new _ _⟩ ?_
   rintro w1 ⟨hb1, q1⟩
   obtain ⟨f1, -, z1⟩ := lie_cell q1
   clear q1
   go_wp2
   go_ret; exact Ret.mk' (by first | rfl | exact rfl) hb1
 by_cases h16 : n.kind = 16
 ·clear hr
  rw [h16]
  clear h16
  rw [if_neg (by decide), if_neg (by decide), if_neg (by decide), if_neg (by decide), if_neg (by decide), if_pos rfl]
  clear hb
  have hcb := count_byte n.text
  have hcl := split_byte n.text
  have hcn := (splitD_len n.text).1
  have cC := fun W => Tryz.strings_Count_one ⟨n.text.toArray⟩ 44 W
  rw [show (⟨n.text.toArray⟩ : ByteArray).data.toList = n.text from rfl] at cC
  rw [hcb]
  generalize Lib.countByte n.text 44 = Z at *
  have ew : IntKind.i64.wrap ((Z : Int) + 2) = (Z : Int) + 2 := by rw [IntWalk.i64_in _ (by omega)]
  have hz : ((L : Int) == (Z : Int) + 2) = decide ((L : Int) = (Z : Int) + 2) := by rw [Bool.eq_iff_iff, beq_iff_eq, decide_eq_true_iff]
  clear hcb hcl hcn
  go_enter func51, ntmps51
  go_upto_region 1 with (fail)
  refine wp_abs2 (On1 30 w (List.toArray [.int .i64 16, .string ⟨n.text.toArray⟩, .int .i64 n.m, .int .i64 n.e, .bool n.b, .int .i64 n.err, .string n.ref.s, .int .i64 n.ref.row, .int .i64 n.ref.col, .bool n.ref.fr, .bool n.ref.fc, .bool n.ref.bad, .string n.far.s, .int .i64 n.far.row, .int .i64 n.far.col, .bool n.far.fr, .bool n.far.fc, .bool n.far.bad, .int .i64 n.rows, .slice a L c])) ⟨belx, heap_alloc_new _ _⟩ ?_
  rintro w1 ⟨hb1, q1⟩
  obtain ⟨f1, -, z1⟩ := lie_cell q1
  clear q1
  go_wp2_with fail
  refine (cC w1).mono ?_; rintro e w2 ⟨rfl, rfl⟩
  go_wp2
  go_ret; exact Ret.mk' (by first | rfl | exact congrArg Value.bool hz) hb1
 have hz : ((L : Int) == 0) = decide (L = 0) := hb 0
 rw [if_neg h9, if_neg (by omega), if_neg h12, if_neg h15, if_neg h13, if_neg h16]
 have n9 : (n.kind == 9) = false := beq_eq_false_iff_ne.2 h9
 have n10 : (n.kind == 10) = false := beq_eq_false_iff_ne.2 h10
 have n11 : (n.kind == 11) = false := beq_eq_false_iff_ne.2 h11
 have n14 : (n.kind == 14) = false := beq_eq_false_iff_ne.2 h14
 have n12 : (n.kind == 12) = false := beq_eq_false_iff_ne.2 h12
 have n15 : (n.kind == 15) = false := beq_eq_false_iff_ne.2 h15
 have n13 : (n.kind == 13) = false := beq_eq_false_iff_ne.2 h13
 have n16 : (n.kind == 16) = false := beq_eq_false_iff_ne.2 h16
 clear hr hb h9 h10 h11 h14 h12 h15 h13 h16
 go_enter func51, ntmps51
 go_upto_region 1 with (fail)
 refine wp_abs2 (On1 30 w (List.toArray [.int .i64 n.kind, .string ⟨n.text.toArray⟩, .int .i64 n.m, .int .i64 n.e, .bool n.b, .int .i64 n.err, .string n.ref.s, .int .i64 n.ref.row, .int .i64 n.ref.col, .bool n.ref.fr, .bool n.ref.fc, .bool n.ref.bad, .string n.far.s, .int .i64 n.far.row, .int .i64 n.far.col, .bool n.far.fr, .bool n.far.fc, .bool n.far.bad, .int .i64 n.rows, .slice a L c])) ⟨belx, heap_alloc_new _ _⟩ ?_
 rintro w1 ⟨hb1, q1⟩
 obtain ⟨f1, -, z1⟩ := lie_cell q1
 clear q1
 go_wp2
 go_ret; exact Ret.mk' (by first | rfl | exact congrArg Value.bool hz) hb1
end Go.Proofs.YtlpgigdegnbkmaaGreatDoor
