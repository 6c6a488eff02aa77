import Derived.RangeFuncNested
import Derived.RangeFuncBound
import Derived.RangeFuncCalls
import Derived.RangeFuncLeaves
import Derived.RangeFuncFrom
import Derived.Shelf.Abstract
import Derived.Shelf.RegionOpen
import Derived.OwnWalkIn
import Derived.TacticsInMore
import Derived.LoopNIn
import Derived.LoopIn
import Derived.Test.YtlpgigdegnbkmaaGreatDoorM09
set_option maxRecDepth 100000
set_option maxHeartbeats 4000000
namespace Go.Proofs.YtlpgigdegnbkmaaGreatDoor
open Go.RowKit Go.Shelf Tab
attribute [local go_sem] Oper.semAt_some
abbrev El := { x : Nat × Bs // x.2.length <= 1000000 }
def Few (K : List Bs) : Prop := ∀ x ∈ K, x.length <= 1000000
theorem Few.at {K : List Bs} (h : Few K) (j : Nat) : (K[j]?.getD []).length <= 1000000 := by
 cases e : K[j]? with
 | none => simp
 | some x => exact h x (List.mem_of_getElem? e)
def el {K : List Bs} (h : Few K) (j : Nat) : El := ⟨(j, K[j]?.getD []), h.at j⟩
def come {K : List Bs} (h : Few K) (m : Nat) : List El := ((List.range K.length).drop m).reverse.map (el h)
theorem come_step {K : List Bs} (hk : Few K) (m : Nat) (h : m < K.length) : come hk (m + 1) ++ [el hk m] = come hk m := by
 unfold come
 rw [List.drop_eq_getElem_cons (l := List.range K.length) (i := m) (by simpa using h), List.reverse_cons, List.map_append]
 simp
theorem come_len {K : List Bs} (hk : Few K) (m : Nat) : (come hk m).length = K.length - m := by simp [come]
theorem come_top {K : List Bs} (hk : Few K) : come hk K.length = [] := by simp [come]
theorem back_in (F : Fence) (n : Nat) (hF : F.fn 160) (hro : F.round = none) (hn : 1 <= n) (l Bx n₀ b off cap : Nat) (K : List Bs) (hK : Few K) (hreach : K.length <= 1000000) (hb : b < n₀) (J Jx : List El -> World -> Prop)
  (hY : ∀ pre x W, J pre W -> pre.length < K.length -> YieldAt F (n - 1) Tryz.prog l #[.int .i64 (x.1.1 : Int), .string ⟨x.1.2.toArray⟩] W fun e W' =>
   (e = .returned (.bool true) /\ J (pre ++ [x]) W' /\ Below n₀ W W') \/ (e = .returned (.bool false) /\ Jx (pre ++ [x]) W'))
  (W : World) (hBx : W.cell? ⟨Bx, 0, none⟩ = some (.slice (some ⟨b, off, none⟩) K.length cap)) (hc : ∀ j, j < K.length -> W.cell? ⟨b, off + j, none⟩ = some (.string ⟨(K[j]?.getD []).toArray⟩)) (hBn : Bx < n₀) (h0 : J [] W) :
  CallsIn F n Tryz.prog 160 #[.func (.yield l) #[] #[], .pointer (some ⟨Bx, 0, none⟩)] W fun e W' => (∃ v, e = .returned v) /\
   ((∃ ys, ys = come hK 0 /\ J ys W') \/ (∃ pre, (∃ k, k <= K.length /\ pre = come hK k) /\ Jx pre W')) := by
 refine callsIn_of_wp Tryz.func160 rfl hF ?_ hro
 simp only [Tryz.ntmps160, List.size_toArray, List.length_cons, List.length_nil, Nat.reduceAdd, Nat.reduceSub, Array.replicate_succ, Array.replicate_zero, List.push_toArray, List.append_toArray, List.nil_append, List.cons_append]
 gi_wp2
 gi_loopw [3] (fun i wr => ∃ k : Nat, k <= K.length /\ i = .int .i64 ((k : Int) - 1) /\ J (come hK k) wr /\ Below n₀ W wr)
  (fun i _ => (intOf i + 1).toNat)
 case atStart => exact ⟨K.length, Nat.le_refl _, rfl, by rw [come_top]; exact h0, Below.refl _ _⟩
 case round =>
  obtain ⟨k, hk, rfl, hJs, hnx⟩ := hrel
  have hBx' : wr.cell? ⟨Bx, 0, none⟩ = some (.slice (some ⟨b, off, none⟩) K.length cap) := (hnx.cell (p := ⟨Bx, 0, none⟩) hBn).trans hBx
  cases k with
  | zero =>
   gi_wp2
   go_end0
   exact ⟨⟨_, rfl⟩, .inl ⟨_, rfl, hJs⟩⟩
  | succ k =>
   have ek : (((k + 1 : Nat) : Int) - 1) = (k : Int) := by omega
   rw [ek]
   have hcx : wr.cell? ⟨b, off + k, none⟩ = some (.string ⟨(K[k]?.getD []).toArray⟩) := (hnx.cell (p := ⟨b, off + k, none⟩) hb).trans (hc k (by omega))
   obtain ⟨fn, tmps, assign, body, hy, hR⟩ := hY _ (el hK k) wr hJs (by rw [come_len]; omega)
   dsimp only [el] at hy
   have hkl : (k : Int) < (K.length : Int) := by omega
   clear ek
   gi_wp2
   refine hR.mono ?_
   rintro e W3 (⟨rfl, hJ3, hk3⟩ | ⟨rfl, hJx3⟩)
   ·gi_wp2
    go_roundw
    case rel => exact ⟨k, by omega, by first | rfl | simp, by rw [<- come_step hK k (by omega)]; exact hJ3, hnx.trans hk3⟩
    case measure => simp [intOf]
   ·gi_wp2
    refine bodyPost_ret (results_none rfl _ _ _) rfl ?_
    exact ⟨⟨_, rfl⟩, .inr ⟨_, ⟨k, by omega, (come_step hK k (by omega))⟩, hJx3⟩⟩
theorem back_nil_in (F : Fence) (n : Nat) (hF : F.fn 160) (hro : F.round = none) (l Bx : Nat) (a : Option Addr) (c : Nat) (J : List El -> World -> Prop) (W : World) (hBx : W.cell? ⟨Bx, 0, none⟩ = some (.slice a 0 c)) (h0 : J [] W) :
  CallsIn F n Tryz.prog 160 #[.func (.yield l) #[] #[], .pointer (some ⟨Bx, 0, none⟩)] W fun e W' => (∃ v, e = .returned v) /\ J [] W' := by
 refine callsIn_of_wp Tryz.func160 rfl hF ?_ hro
 simp only [Tryz.ntmps160, List.size_toArray, List.length_cons, List.length_nil, Nat.reduceAdd, Nat.reduceSub, Array.replicate_succ, Array.replicate_zero, List.push_toArray, List.append_toArray, List.nil_append, List.cons_append]
 gi_wp2
 gi_loopw [3] (fun i wr => i = .int .i64 (-1) /\ J [] wr) (fun _ _ => 0)
 case atStart => exact ⟨rfl, h0⟩
 case round =>
  obtain ⟨rfl, hJs⟩ := hrel
  gi_wp2
  go_end0
  exact ⟨⟨_, rfl⟩, hJs⟩
theorem backward_in (F : Fence) (n : Nat) (h5 : F.fn 129) (hro : F.round = none) (a : Option Addr) (len cap : Nat) (w : World) :
  CallsIn F n Tryz.prog 129 #[.slice a len cap] w fun e w' => e = .returned (.func (.func 160) #[] #[.pointer (some ⟨w.heap.size, 0, none⟩)]) /\ w' = w.alloc (.cells #[.slice a len cap] 33) := by
 refine callsIn_of_wp Tryz.func129 rfl h5 ?_ hro
 simp only [Tryz.ntmps129, List.size_toArray, List.length_cons, List.length_nil, Nat.reduceAdd, Nat.reduceSub, Array.replicate_succ, Array.replicate_zero, List.push_toArray, List.append_toArray, List.nil_append, List.cons_append]
 gi_wp2
 go_ret
 exact ⟨rfl, rfl⟩
theorem back_stops (F : Fence) (n : Nat) (h8 : F.fn 160) (hro : F.round = none) (hn : 1 <= n) (Bx : Nat) (a : Option Addr) (cap : Nat) (K : List Bs) (hK : Few K) (hreach : K.length <= 1000000) (w : World) (hBx : Bx < w.heap.size)
  (hc : w.cell? ⟨Bx, 0, none⟩ = some (.slice a K.length cap)) (hI : NamesAt w a cap K) :
  SeqStopsK F n Tryz.prog 160 #[.pointer (some ⟨Bx, 0, none⟩)] (fun x : El => #[Value.int .i64 (x.1.1 : Int), Value.string ⟨x.1.2.toArray⟩]) (Below w.heap.size) (fun ys => ys = come hK 0)
   (fun pre => ∃ k, k <= K.length /\ pre = come hK k) K.length w := fun l J Jx W hW _ _ hY h0 => by
 have hc' := (hW.cell (p := ⟨Bx, 0, none⟩) hBx).trans hc
 rcases hI.lies with rfl | ⟨b, o, C, fr, rfl, h0', h2⟩
 ·exact (back_nil_in F n h8 hro l Bx a cap J W hc' h0).mono fun e W' ⟨he, hj⟩ => ⟨he, .inl ⟨_, rfl, hj⟩⟩
 ·have h1 : W.heap[b]? = some (.cells C 9 fr) := (hW.block b (heap_in h0')).trans h0'
  refine back_in F n h8 hro hn l Bx w.heap.size b o cap K hK hreach (heap_in h0') J Jx hY W hc' (fun j hj => ?_) hBx h0
  unfold World.cell?
  rw [h1]
  have := h2 j _ (List.getElem?_eq_getElem hj)
  rw [List.getElem?_eq_getElem hj]
  exact this
def hitB (s : Bs) (x : Bs) : Bool := lowerD x == lowerD s
theorem come_snd {K : List Bs} (hK : Few K) (m : Nat) : (come hK m).map (·.1.2) = (K.drop m).reverse := by
 unfold come
 rw [List.map_map, List.map_reverse, List.map_drop]
 congr 2
 apply List.ext_getElem
 ·simp
 ·intro i h1 h2; simp at h1; simp [h1, el]
theorem find_none {K : List Bs} (hK : Few K) (s : Bs) (h : ∀ x ∈ come hK 0, hitB s x.1.2 = false) : findN K s = none := by
 unfold findN
 rw [List.find?_eq_none]
 intro x hx
 have e := come_snd hK 0
 rw [List.drop_zero] at e
 rw [<- e] at hx
 obtain ⟨y, hy, rfl⟩ := List.mem_map.1 hx
 have := h y hy
 unfold hitB at this
 simp [this]
theorem find_some {K : List Bs} (hK : Few K) (s : Bs) (m : Nat) (p : List El) (x : El) (he : p ++ [x] = come hK m) (hp : ∀ y ∈ p, hitB s y.1.2 = false) (hx : hitB s x.1.2 = true) : findN K s = some x.1.2 := by
 unfold findN
 have e := come_snd hK m
 rw [<- he, List.map_append] at e
 have e2 : K.reverse = (p.map (·.1.2) ++ [x.1.2]) ++ (K.take m).reverse := by
  have := congrArg List.reverse (List.take_append_drop m K)
  rw [List.reverse_append, <- e] at this
  exact this.symm
 rw [e2, List.append_assoc, List.find?_append]
 have e3 : (p.map (·.1.2)).find? (fun x => lowerD x == lowerD s) = none := by
  rw [List.find?_eq_none]
  intro z hz
  obtain ⟨y, hy, rfl⟩ := List.mem_map.1 hz
  have := hp y hy
  unfold hitB at this
  simp [this]
 rw [e3]
 unfold hitB at hx
 simp [hx]
theorem keepsOthers_below {W W' : World} (h : Below W.heap.size W W') : KeepsOthers W W' := ⟨h.size, fun k _o hk _ => (h.block k (heap_in hk)).trans hk⟩
theorem find_anyP (po : Option Addr) (b : Nat) (a : Option Addr) (kc : Nat) (K : List Bs) (hK : K.length <= 1000000) (hF : Few K) (s : ByteArray) (hs : s.size <= 1000000) (w : World) (hg : Good w) (hI : NamesAt w a kc K) :
  Calls Tryz.prog 84 #[.agg #[.pointer po, .int .i64 (b : Int), .slice a K.length kc], .string s] w fun e W => e = .returned (.tuple #[.string ⟨((findN K s.data.toList).getD []).toArray⟩, .bool (findN K s.data.toList).isSome]) /\ Below w.heap.size w W := by
 refine (callsIn_wide (n := 8)).1 ?_
 refine callsIn_of_wp_marks Tryz.func84 rfl trivial ?_ rfl
 simp only [Tryz.ntmps84, List.size_toArray, List.length_cons, List.length_nil, Nat.reduceAdd, Nat.reduceSub, Array.replicate_succ, Array.replicate_zero, List.push_toArray, List.append_toArray, List.nil_append, List.cons_append]
 gi_wp2_with (refine ⟨trivial, ?_⟩; gi_at_call 129; refine (backward_in _ _ trivial rfl _ _ _ _).mono ?_; rintro e w' ⟨rfl, rfl⟩)
 obtain ⟨W0, hW0⟩ : ∃ W0, ((((w.alloc (.cells #[.pointer po, .int .i64 (b : Int), .slice a K.length kc] 65)).alloc (.cells #[.string s] 9)).alloc (.cells #[.string ⟨#[]⟩] 9)).alloc (.cells #[.bool false] 4)).alloc (.cells #[.slice a K.length kc] 33) = W0 := ⟨_, rfl⟩
 have hs0 : W0.heap.size = w.heap.size + 5 := by rw [<- hW0]; simp
 have hB0 : Below w.heap.size w W0 := by rw [<- hW0]; exact belx
 have k1 : Blk W0 (w.heap.size + 1) #[.string s] := by rw [<- hW0]; exact blnx
 have k2 : Blk W0 (w.heap.size + 1 + 1) #[.string ⟨#[]⟩] := by rw [<- hW0]; exact blnx
 have k3 : Blk W0 (w.heap.size + 1 + 1 + 1) #[.bool false] := by rw [<- hW0]; exact blnx
 have k4 : Blk W0 (w.heap.size + 1 + 1 + 1 + 1) #[.slice a K.length kc] := by rw [<- hW0]; exact blnx
 simp only [hW0]
 refine wpIn_rangeFunc_ownF rfl (by omega) (gf := 160) (lb := #[.pointer (some ⟨w.heap.size + 1 + 1 + 1 + 1, 0, none⟩)]) rfl trivial (enters_of Tryz.func160 (by kernel_rfl) rfl)
  (back_stops Fence.wide 7 trivial rfl (by omega) (w.heap.size + 1 + 1 + 1 + 1) a kc K hF hK W0 (by omega) (k4.facts.1 0) (hI.below hB0)) belowK_t (belowK_b (Nat.le_refl _)) (Below.refl _ _) (fun _ => rfl)
  (fun pre W => (W0.heap.size <= W.heap.size /\ (∀ y ∈ pre, hitB s.data.toList y.1.2 = false) /\ W.cell? ⟨w.heap.size + 1, 0, none⟩ = some (.string s) /\ W.cell? ⟨w.heap.size + 1 + 1, 0, none⟩ = some (.string ⟨#[]⟩) /\ W.frozen? ⟨w.heap.size + 1 + 1, 0, none⟩ = false /\ W.cell? ⟨w.heap.size + 1 + 1 + 1, 0, none⟩ = some (.bool false) /\ W.frozen? ⟨w.heap.size + 1 + 1 + 1, 0, none⟩ = false) /\ Below w.heap.size w W)
  (fun c pre W => (c = .ret /\ (∃ q x, pre = q ++ [x] /\ (∀ y ∈ q, hitB s.data.toList y.1.2 = false) /\ hitB s.data.toList x.1.2 = true /\ W.cell? ⟨w.heap.size + 1 + 1, 0, none⟩ = some (.string ⟨x.1.2.toArray⟩)) /\ W.cell? ⟨w.heap.size + 1 + 1 + 1, 0, none⟩ = some (.bool true)) /\ Below w.heap.size w W)
  (OwnFrom.and (Own.from (fun s A B row hs hg hr => by obtain ⟨e0, e1, e2, e3, e4, e5, e6⟩ := hs; exact ⟨Nat.le_trans e0 hg.size, e1, cell_kept e2 hg hr, cell_kept e3 hg hr, (frozen_kept e3 hg hr).trans e4, cell_kept e5 hg hr, (frozen_kept e5 hg hr).trans e6⟩) _) (ownFrom_below (Nat.le_refl _) (by omega)))
  (fun c => OwnFrom.and (Own.from (fun s A B row hs hg hr => by obtain ⟨e1, ⟨q, x, e2, e3, e4, e5⟩, e6⟩ := hs; exact ⟨e1, ⟨q, x, e2, e3, e4, cell_kept e5 hg hr⟩, cell_kept e6 hg hr⟩) _) (ownFrom_below (Nat.le_refl _) (by omega)))
  ⟨⟨Nat.le_refl _, by simp, k1.facts.1 0, k2.facts.1 0, k2.facts.2.1 0, k3.facts.1 0, k3.facts.2.1 0⟩, hB0⟩
  (fun x => { tmps := #[.agg #[.pointer po, .int .i64 (b : Int), .slice a K.length kc], .string s, .pointer (some ⟨w.heap.size, 0, none⟩), .pointer (some ⟨w.heap.size + 1, 0, none⟩), .pointer (some ⟨w.heap.size + 1 + 1, 0, none⟩), .pointer (some ⟨w.heap.size + 1 + 1 + 1, 0, none⟩), undef, .string ⟨x.1.2.toArray⟩, .pointer (some ⟨w.heap.size, 2, none⟩), .slice a K.length kc, .func (.func 160) #[] #[.pointer (some ⟨w.heap.size + 1 + 1 + 1 + 1, 0, none⟩)], .int .i64 (x.1.1 : Int), .string ⟨x.1.2.toArray⟩, undef, undef, undef, undef, undef, undef], defers := [] }) ?assign ?body ?done ?stop
 case assign =>
  intro l x W K hK
  gi_wp2
  exact hK
 case body =>
  rintro l pre x W ⟨⟨hle, hp, h1, h2, h3, h4, h5⟩, hB⟩ _
  have hd : 1 <= 8 - 1 - 1 := by omega
  have l1 := block_lt_of_cell h1
  have l2 := block_lt_of_cell h2
  have l3 := block_lt_of_cell h4
  dsimp only at l1 l2 l3
  have hmx : Tryz.prog.follows .mixedOrders = true := by kernel_rfl
  have hBl := hB.size
  have hE0 := fun B => ba_beq ⟨(lowerD x.1.2).toArray⟩ ⟨(lowerD s.data.toList).toArray⟩ B
  dsimp only at hE0
  have c1 : ∀ W1, Below w.heap.size w W1 -> Calls Tryz.prog 130 #[.string ⟨x.1.2.toArray⟩] W1 (Ret (.string ⟨(lowerD x.1.2).toArray⟩) W1) := fun W1 h => cfold_any ⟨x.1.2.toArray⟩ W1 (hg.below h) x.2
  have c2 : ∀ W1, Below w.heap.size w W1 -> Calls Tryz.prog 130 #[.string s] W1 (Ret (.string ⟨(lowerD s.data.toList).toArray⟩) W1) := fun W1 h => cfold_any s W1 (hg.below h) hs
  obtain ⟨U, hU⟩ : ∃ U : ByteArray, ⟨(lowerD x.1.2).toArray⟩ = U := ⟨_, rfl⟩
  obtain ⟨V, hV⟩ : ∃ U : ByteArray, ⟨(lowerD s.data.toList).toArray⟩ = U := ⟨_, rfl⟩
  rw [hU] at c1 hE0
  rw [hV] at c2 hE0
  clear hU hV
  cases hh : hitB s.data.toList x.1.2
  ·have hE := hE0 _ hh
   clear hE0
   gi_wp2
   gi_region_with_o (first | (refine ⟨trivial, ?_⟩; gi_at_call 130; refine (CallsIn.inRound l (callsIn_wide.2 (c1 _ belx))).mono ?_; clear c1; rintro e w' ⟨rfl, hb⟩; have h1' : w'.cell? ⟨w.heap.size + 1, 0, none⟩ = some (.string s) := (hb.cell (p := ⟨w.heap.size + 1, 0, none⟩) l1).trans h1) | (refine ⟨trivial, ?_⟩; gi_at_call 130; refine (CallsIn.inRound l (callsIn_wide.2 (c2 _ belx))).mono ?_; clear c2; rintro e w2 ⟨rfl, hb2⟩))
   all_goals (
    have hB2 : Below W.heap.size W w2 := after (after (drewB (Below.refl _ _)) hb) hb2
    have e2 := (hB2.cell (p := ⟨w.heap.size + 1 + 1, 0, none⟩) l2).trans h2
    have e3 := (hB2.frozen (p := ⟨w.heap.size + 1 + 1, 0, none⟩) l2).trans h3
    have e4 := (hB2.cell (p := ⟨w.heap.size + 1 + 1 + 1, 0, none⟩) l3).trans h4
    have e5 := (hB2.frozen (p := ⟨w.heap.size + 1 + 1 + 1, 0, none⟩) l3).trans h5
    have e1 := (hB2.cell (p := ⟨w.heap.size + 1, 0, none⟩) l1).trans h1
    have HP := Lib.hid hp
    have HH := Lib.hid hh
    clear hp hh
    gi_wp2)
   all_goals exact ⟨keepsOthers_below hB2, hB2.mono hle, ⟨Nat.le_trans hle hB2.size, fun y hy => by rcases List.mem_append.1 hy with h | h; exact HP.out y h; obtain rfl := List.mem_singleton.1 h; exact HH.out, e1, e2, e3, e4, e5⟩, after hB hB2⟩
  ·have hE := hE0 _ hh
   clear hE0
   gi_wp2
   gi_region_with_o (first | (refine ⟨trivial, ?_⟩; gi_at_call 130; refine (CallsIn.inRound l (callsIn_wide.2 (c1 _ belx))).mono ?_; clear c1; rintro e w' ⟨rfl, hb⟩; have h1' : w'.cell? ⟨w.heap.size + 1, 0, none⟩ = some (.string s) := (hb.cell (p := ⟨w.heap.size + 1, 0, none⟩) l1).trans h1) | (refine ⟨trivial, ?_⟩; gi_at_call 130; refine (CallsIn.inRound l (callsIn_wide.2 (c2 _ belx))).mono ?_; clear c2; rintro e w2 ⟨rfl, hb2⟩))
   all_goals (
    have hB2 : Below W.heap.size W w2 := after (after (drewB (Below.refl _ _)) hb) hb2
    have e2 := (hB2.cell (p := ⟨w.heap.size + 1 + 1, 0, none⟩) l2).trans h2
    have e3 := (hB2.frozen (p := ⟨w.heap.size + 1 + 1, 0, none⟩) l2).trans h3
    have e4 := (hB2.cell (p := ⟨w.heap.size + 1 + 1 + 1, 0, none⟩) l3).trans h4
    have e5 := (hB2.frozen (p := ⟨w.heap.size + 1 + 1 + 1, 0, none⟩) l3).trans h5
    have e1 := (hB2.cell (p := ⟨w.heap.size + 1, 0, none⟩) l1).trans h1
    have HP := Lib.hid hp
    have HH := Lib.hid hh
    clear hp hh
    gi_wp2)
   all_goals exact ⟨((keepsOthers_below hB2).trans (KeepsOthers.setCell _ _ _)).trans (KeepsOthers.setCell _ _ _), ⟨rfl, ⟨pre, x, rfl, HP.out, HH.out, by simp [go_sem, e2]⟩, by simp [go_sem, e4]⟩, ((after hB hB2).setCell (p := ⟨w.heap.size + 1 + 1, 0, none⟩) (by simp; omega) _).setCell (p := ⟨w.heap.size + 1 + 1 + 1, 0, none⟩) (by simp; omega) _⟩
 case done =>
  rintro D xs W hD rfl ⟨⟨_, hne, _, hc2, hf2, hc3, hf3⟩, hB⟩ hK
  have HN := Lib.hid (find_none hF _ hne)
  clear hne
  gi_wp2
  obtain ⟨W2, hW2⟩ : ∃ W2, ((W.setCell ⟨w.heap.size + 1 + 1, 0, none⟩ (.string ⟨#[]⟩)).setCell ⟨w.heap.size + 1 + 1 + 1, 0, none⟩ (.bool false)) = W2 := ⟨_, rfl⟩
  have hK' : W2.heap[D]? = some (.deferred (some [])) := by rw [<- hW2]; exact ((KeepsOthers.setCell _ _ _).trans (KeepsOthers.setCell _ _ _)).same D _ hK rfl
  have hB2 : Below w.heap.size w W2 := by rw [<- hW2]; exact belx
  have e2 : W2.cell? ⟨w.heap.size + 1 + 1, 0, none⟩ = some (.string ⟨#[]⟩) := by rw [<- hW2]; simp [go_sem, hc2]
  have e3 : W2.cell? ⟨w.heap.size + 1 + 1 + 1, 0, none⟩ = some (.bool false) := by rw [<- hW2]; simp [go_sem, hc3]
  simp only [hW2]
  refine ⟨by simp, .inl ⟨_, _, rfl, run_takeDeferred hK', ?_⟩⟩
  have f2 := cell_kept e2 (grownBy_putObj' _ D (.deferred none)) (fun r e => by cases e; exact ⟨_, hK', rfl⟩)
  have f3 := cell_kept e3 (grownBy_putObj' _ D (.deferred none)) (fun r e => by cases e; exact ⟨_, hK', rfl⟩)
  refine ⟨.tuple #[.string ⟨#[]⟩, .bool false], ?_, ⟨by rw [HN.out]; rfl, hB2.trans (belowK_b (w := w) (Nat.le_refl _) W2 D _ _ (by omega) hK' rfl rfl)⟩⟩
  simp [results, Tryz.f84, go_sem, f2, f3]
 case stop =>
  rintro D c pre W hD ⟨m, hm, hpre⟩ ⟨⟨rfl, ⟨q, x, rfl, hq, hx, hc2⟩, hc3⟩, hB⟩ hK
  have HN := Lib.hid (find_some hF _ m q x hpre hq hx)
  clear hpre hq hx
  gi_wp2
  refine ⟨by simp, .inl ⟨_, _, rfl, run_takeDeferred hK, ?_⟩⟩
  have f2 := cell_kept hc2 (grownBy_putObj' _ D (.deferred none)) (fun r e => by cases e; exact ⟨_, hK, rfl⟩)
  have f3 := cell_kept hc3 (grownBy_putObj' _ D (.deferred none)) (fun r e => by cases e; exact ⟨_, hK, rfl⟩)
  refine ⟨.tuple #[.string ⟨x.1.2.toArray⟩, .bool true], ?_, ⟨by rw [HN.out]; rfl, hB.trans (belowK_b (w := w) (Nat.le_refl _) W D _ _ (by omega) hK rfl rfl)⟩⟩
  simp [results, Tryz.f84, go_sem, f2, f3]
theorem find_any (p b : Nat) (a : Option Addr) (kc : Nat) (K : List Bs) (hK : K.length <= 1000000) (hF : Few K) (s : ByteArray) (hs : s.size <= 1000000) (w : World) (hg : Good w) (hI : NamesAt w a kc K) :
  Calls Tryz.prog 84 #[blkV p b a K.length kc, .string s] w fun e W => e = .returned (.tuple #[.string ⟨((findN K s.data.toList).getD []).toArray⟩, .bool (findN K s.data.toList).isSome]) /\ Below w.heap.size w W :=
 find_anyP (some ⟨p, 0, none⟩) b a kc K hK hF s hs w hg hI
end Go.Proofs.YtlpgigdegnbkmaaGreatDoor
