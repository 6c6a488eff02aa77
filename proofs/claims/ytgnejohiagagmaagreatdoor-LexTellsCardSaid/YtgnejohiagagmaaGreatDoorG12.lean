/- The walk of lex.apart. strings.Builder: WriteByte, WriteString (what the shelf's own contracts say, walked at this program). -/
import Derived.Test.YtgnejohiagagmaaGreatDoorG10
import Derived.Deep.WholeRow
import Derived.Lib.Strings
import Derived.Lib.Slices
import Derived.Lib.Walk
import Derived.Lib.Builder
import Derived.Lib.AppendStr
import Derived.Lib.UnsafeStr
import Derived.WalkKit
import Derived.Laws.Externs
namespace Tab
/-- whether a blank stands between two pieces. -/
def apartD (ka : Int) (la : Bs) (kb : Int) (lb : Bs) : Bool :=
  if ka != 8 && kb != 8 then true
  else if (ka == 6 || ka == 3) || ka == 5 then openD kb lb
  else if ka != 8 || kb != 8 then false
  else (la == [60] && (lb.getD 0 0 == 61 || lb.getD 0 0 == 62)) || (la == [62] && lb.getD 0 0 == 61)
end Tab
namespace Go.Proofs.YtgnejohiagagmaaGreatDoor
open Go.RowKit Tab

theorem info256 : (Tryz.prog.info? 121).map (fun i => (i.zero, i.size)) = some (some (.agg (Array.replicate 256 (.bool false))), 256) := by kernel_rfl
theorem zero256 : ∀ w, (zeroValue 121).run Tryz.prog w = .ok (.agg (Array.replicate 256 (.bool false))) w := (zero_of_info info256).1
theorem one_extract (c : UInt8) (t : Bs) : (⟨(c :: t).toArray⟩ : ByteArray).extract 0 1 = ⟨#[c]⟩ := by
  apply ByteArray.ext
  rw [ByteArray.data_extract]
  apply Array.toList_inj.1
  simp
theorem any_two (c : UInt8) : Lib.containsAny [c] [61, 62] = (c == 61 || c == 62) := by
  unfold Lib.containsAny Lib.indexAny
  simp only [Lib.indexAny]
  by_cases h1 : c = 61
  · subst h1; rfl
  · by_cases h2 : c = 62
    · subst h2; rfl
    · simp [h1, h2]
theorem u8_beq (c d : UInt8) (n : Int) (h : (d.toNat : Int) = n) : ((c.toNat : Int) == n) = (c == d) := by
  subst h
  by_cases e : c = d
  · subst e; simp
  · rw [beq_eq_false_iff_ne.2 e, beq_eq_false_iff_ne]
    intro h; exact e (UInt8.toNat_inj.1 (by omega))

set_option maxRecDepth 100000 in
set_option maxHeartbeats 8000000 in
theorem apart_any (ka : Int) (la : Bs) (aa : Int) (kb : Int) (lb : Bs) (ab : Int) (hlb : kb = 8 → lb ∈ signsB) (w : World) : Calls Tryz.prog 23 #[tokI ka la aa, tokI kb lb ab] w (Ret (.bool (apartD ka la kb lb)) w) := by
  have cO := fun W => open_any kb lb ab W
  unfold tokI at *
  unfold apartD
  obtain ⟨V, hV⟩ : ∃ V, openD kb lb = V := ⟨_, rfl⟩
  rw [hV] at cO ⊢
  clear hV
  by_cases h8 : ka = 8
  · subst h8
    by_cases k8 : kb = 8
    · subst k8
      rw [if_neg (by decide), if_neg (by decide), if_neg (by decide)]
      obtain ⟨c, t, rfl, hc, ht⟩ : ∃ c t, lb = c :: t ∧ c.toNat < 128 ∧ t.length ≤ 1 := by
        have hm := hlb rfl
        cases lb with
        | nil => exact absurd hm (by decide)
        | cons c t =>
          have : ∀ l ∈ signsB, (l.getD 0 0).toNat < 128 ∧ l.length ≤ 2 := by decide
          have h := this _ hm
          exact ⟨c, t, rfl, h.1, by simpa using h.2⟩
      have cC : ∀ W, Calls Tryz.prog 56 #[.string ⟨#[c]⟩, .string ⟨#[61, 62]⟩] W (Ret (.bool (c == 61 || c == 62)) W) := fun W => by
        have := Tryz.strings_ContainsAny zero256 ⟨#[c]⟩ ⟨#[61, 62]⟩ W (by show 1 < _; decide) (by show 2 < _; decide) (fun j b h => by
          cases j with
          | zero => simp at h; subst h; exact hc
          | succ j => simp at h) (fun j b h => by
          match j, h with
          | 0, h => simp at h; subst h; decide
          | 1, h => simp at h; subst h; decide
          | j + 2, h => simp at h)
        rw [show (ByteArray.mk #[c]).data.toList = [c] from rfl, show (ByteArray.mk #[61, 62]).data.toList = [61, 62] from rfl, any_two] at this
        exact this
      have hx := one_extract c t
      have hg0 : (c :: t).getD 0 0 = c := rfl
      rw [hg0]
      clear hg0 hlb hc
      have e61 := u8_beq c 61 61 rfl
      have ei : (⟨(c :: t).toArray⟩ : ByteArray)[0]'(by show 0 < (c :: t).toArray.size; simp) = c := rfl
      obtain ⟨E, hE⟩ : ∃ E, (c == 61) = E := ⟨_, rfl⟩
      obtain ⟨F, hF⟩ : ∃ F, (c == 62) = F := ⟨_, rfl⟩
      obtain ⟨P, hP⟩ : ∃ P, (la == [60]) = P := ⟨_, rfl⟩
      obtain ⟨Q, hQ⟩ : ∃ Q, (la == [62]) = Q := ⟨_, rfl⟩
      rw [hE, hF] at cC
      rw [hE] at e61
      rw [hE, hF, hP, hQ]
      clear hE hF
      cases P
      · cases Q
        · go_enter Tryz.func23, Tryz.ntmps23
          go_wp2
          go_ret; exact Ret.mk' rfl (allocB (allocB (Below.refl _ _)))
        · cases E
          all_goals (
            go_enter Tryz.func23, Tryz.ntmps23
            go_wp2
            go_ret; exact Ret.mk' rfl (allocB (allocB (Below.refl _ _))))
      · obtain ⟨X, hX⟩ : ∃ X, (E || F) = X := ⟨_, rfl⟩
        rw [hX] at cC ⊢
        cases X
        · have hE2 : E = false := by cases E <;> simp_all
          subst hE2
          clear hX
          cases Q
          all_goals (
            go_enter Tryz.func23, Tryz.ntmps23
            go_wp2_with fail
            refine (cC _).mono ?_; rintro e w1 ⟨rfl, hb1⟩
            have hB1 : Below w.heap.size w w1 := (by repeat' (first | with_reducible assumption | with_reducible exact Below.refl _ _ | with_reducible refine allocB ?_ | with_reducible refine setB ?_ ?_ | with_reducible refine drewB ?_ | with_reducible refine after ?_ (by assumption) | (simp; omega) | omega))
            have kb0 : Blk w1 w.heap.size #[.int .i64 8, .string ⟨la.toArray⟩, .int .i64 aa] := Blk.below (by apply Blk.eq; (repeat' (first | with_reducible assumption | with_reducible apply Blk.set | with_reducible apply Blk.other | (with_reducible refine Blk.new ?_; simp; done) | with_reducible apply Blk.alloc | omega)); rfl) hb1
            have kb1 : Blk w1 (w.heap.size + 1) #[.int .i64 8, .string ⟨(c :: t).toArray⟩, .int .i64 ab] := Blk.below (by apply Blk.eq; (repeat' (first | with_reducible assumption | with_reducible apply Blk.set | with_reducible apply Blk.other | (with_reducible refine Blk.new ?_; simp; done) | with_reducible apply Blk.alloc | omega)); rfl) hb1
            obtain ⟨f0, g0, z0⟩ := kb0.facts
            obtain ⟨f1, g1, z1⟩ := kb1.facts
            clear hb1 kb0 kb1
            go_wp2
            go_ret
            exact ⟨rfl, hB1⟩)
        · clear hX
          go_enter Tryz.func23, Tryz.ntmps23
          go_wp2_with fail
          refine (cC _).mono ?_; rintro e w1 ⟨rfl, hb1⟩
          have hB1 : Below w.heap.size w w1 := (by repeat' (first | with_reducible assumption | with_reducible exact Below.refl _ _ | with_reducible refine allocB ?_ | with_reducible refine setB ?_ ?_ | with_reducible refine drewB ?_ | with_reducible refine after ?_ (by assumption) | (simp; omega) | omega))
          go_wp2
          go_ret
          exact ⟨rfl, hB1⟩
    · have m8 : (kb != 8) = true := by rw [bne_iff_ne]; exact k8
      rw [m8]
      go_enter Tryz.func23, Tryz.ntmps23
      go_wp2
      go_ret; exact Ret.mk' rfl (allocB (allocB (Below.refl _ _)))
  · have n8 : (ka != 8) = true := by rw [bne_iff_ne]; exact h8
    rw [n8]
    by_cases k8 : kb = 8
    · subst k8
      rw [if_neg (by decide)]
      obtain ⟨A, hA⟩ : ∃ A, (ka == 6) = A := ⟨_, rfl⟩
      obtain ⟨B, hB⟩ : ∃ B, (ka == 3) = B := ⟨_, rfl⟩
      obtain ⟨C, hC⟩ : ∃ C, (ka == 5) = C := ⟨_, rfl⟩
      rw [hA, hB, hC]
      cases A <;> cases B <;> cases C
      case false.false.false =>
        go_enter Tryz.func23, Tryz.ntmps23
        go_wp2
        go_ret; exact Ret.mk' rfl (allocB (allocB (Below.refl _ _)))
      all_goals (
        go_enter Tryz.func23, Tryz.ntmps23
        go_wp2_with fail
        refine (cO _).mono ?_; rintro e w1 ⟨rfl, hb1⟩
        have hB1 : Below w.heap.size w w1 := (by repeat' (first | with_reducible assumption | with_reducible exact Below.refl _ _ | with_reducible refine allocB ?_ | with_reducible refine setB ?_ ?_ | with_reducible refine drewB ?_ | with_reducible refine after ?_ (by assumption) | (simp; omega) | omega))
        go_wp2
        go_ret
        exact ⟨rfl, hB1⟩)
    · have m8 : (kb != 8) = true := by rw [bne_iff_ne]; exact k8
      rw [m8, if_pos (by rfl)]
      go_enter Tryz.func23, Tryz.ntmps23
      go_wp2
      go_ret; exact Ret.mk' rfl (allocB (allocB (Below.refl _ _)))
end Go.Proofs.YtgnejohiagagmaaGreatDoor

namespace Go.Proofs.YtgnejohiagagmaaGreatDoor
open Go.RowKit Tab

theorem sizeBld : (Tryz.prog.info? 51).map (·.size) = some 2 := by kernel_rfl
theorem liesBld : liesAt Tryz.prog Tryz.prog.depth 51 (2 / Tryz.prog.cellsOf 51) 0 51 1 = true := by kernel_rfl
theorem infoU8 : (Tryz.prog.info? 5).map (fun i => (i.zero, i.size, i.bytes)) = some (some (.int .u8 0), 1, 1) := by kernel_rfl

set_option maxHeartbeats 1000000 in
set_option maxRecDepth 100000 in
theorem bldCheck_used (b : Nat) (w : World) (h0 : w.cell? ⟨b, 0, none⟩ = some (.pointer (some ⟨b, 0, none⟩))) :
    Calls Tryz.prog 57 #[.pointer (some ⟨b, 0, none⟩)] w fun e w' => e = .returned (.tuple #[]) ∧ w' = w := by
  obtain ⟨j, hj, _⟩ := Option.map_eq_some_iff.1 sizeBld
  go_enter Tryz.func57, Tryz.ntmps57
  go_wp2
  rw [Lib.run_neq_ptr_same w _ Tryz.underlying49 hj]
  go_wp2
  go_end0
  exact ⟨rfl, rfl⟩

set_option maxHeartbeats 1000000 in
set_option maxRecDepth 100000 in
theorem bldCheck_fresh (b : Nat) (w : World) (h0 : w.cell? ⟨b, 0, none⟩ = some (.pointer none)) (hsh : w.shape? b = some (51, 2)) (hfz : w.frozen? ⟨b, 0, none⟩ = false) :
    Calls Tryz.prog 57 #[.pointer (some ⟨b, 0, none⟩)] w fun e w' => e = .returned (.tuple #[]) ∧ w' = w.setCell ⟨b, 0, none⟩ (.pointer (some ⟨b, 0, none⟩)) := by
  obtain ⟨j, hj, hjs⟩ := Option.map_eq_some_iff.1 sizeBld
  go_enter Tryz.func57, Tryz.ntmps57
  go_wp2
  rw [Lib.run_to_unsafe w ⟨b, 0, none⟩ Tryz.underlying49 Tryz.underlying107 hj (by rw [hjs]; decide) hsh (Nat.zero_lt_succ 1)]
  simp only [Result.andThen]
  rw [Oper.upon_value]
  go_wp2
  rw [run_callFunc_extern Tryz.func93 (by kernel_rfl) (by kernel_rfl) (by kernel_rfl) (e := Extern.AbiNoEscape.same) (by kernel_rfl)]
  rw [Lib.run_noEscape]
  simp only [Result.andThen]
  rw [Oper.upon_value]
  go_wp2
  rw [Lib.run_from_unsafe w ⟨b, 0, none⟩ Tryz.underlying107 Tryz.underlying49 hj hsh liesBld]
  simp only [Result.andThen]
  rw [Oper.upon_value]
  go_wp2
  go_end0
  exact ⟨rfl, rfl⟩

abbrev IsBld (B b : Nat) (bs : List Value) (w : World) : Prop := Lib.IsBuilder 51 5 B b bs w
abbrev BldAt (B b : Nat) (bs : List Value) (w : World) : Prop := Lib.BuilderAt 51 5 B b (.pointer (some ⟨b, 0, none⟩)) bs w

/-- every block but the builder's own, and rows of bytes, stands. -/
def KeptT (b : Nat) (w w' : World) : Prop := ∀ (k : Nat) (C : Array Value) (T : TypeId) (fr : Nat × Nat), w.heap[k]? = some (.cells C T fr) → T ≠ 5 → k ≠ b → w'.heap[k]? = some (.cells C T fr)
theorem KeptT.refl (b : Nat) (w : World) : KeptT b w w := fun _ _ _ _ h _ _ => h
theorem KeptT.trans {b : Nat} {w w' w'' : World} (h : KeptT b w w') (k : KeptT b w' w'') : KeptT b w w'' := fun i C T fr h1 h2 h3 => k i C T fr (h i C T fr h1 h2 h3) h2 h3
theorem KeptT.set {b i : Nat} {w w' : World} {u : Value} (h : KeptT b w w') : KeptT b w (w'.setCell ⟨b, i, none⟩ u) := fun k C T fr h1 h2 h3 => by
  rw [Below.heap_setCell _ _ _ _ (fun e => h3 (by simpa using e))]; exact h k C T fr h1 h2 h3
theorem heap_lt {w : World} {k : Nat} {o : Obj} (h : w.heap[k]? = some o) : k < w.heap.size := by
  rcases Nat.lt_or_ge k w.heap.size with h' | h'
  · exact h'
  · simp [Array.getElem?_eq_none h'] at h
theorem KeptT.alloc {b : Nat} {w w' : World} {o : Obj} (h : KeptT b w w') : KeptT b w (w'.alloc o) := fun k C T fr h1 h2 h3 => by
  have := h k C T fr h1 h2 h3
  rw [Lib.alloc_old _ _ _ (heap_lt this)]; exact this
theorem KeptT.grown {b B : Nat} {w w' w'' : World} {v : Value} {n : Nat} {xs : List Value} (h : KeptT b w w') (hown : w'.ownsRow B 5 1 v n xs) (hg : w'.grownBy w'' v.ownBlock) : KeptT b w w'' := fun k C T fr h1 h2 h3 => by
  have := h k C T fr h1 h2 h3
  rw [hg.block k (heap_lt this) (fun e => Lib.ownBlock_ne hown this h2 e.symm)]; exact this

theorem bldCheck_any (B b : Nat) (bs : List Value) (w : World) (h : IsBld B b bs w) :
    Calls Tryz.prog 57 #[.pointer (some ⟨b, 0, none⟩)] w fun e w' => e = .returned (.tuple #[]) ∧ (BldAt B b bs w' ∧ Below B w w' ∧ KeptT b w w') := by
  rcases h with h | h
  · refine (bldCheck_fresh b w h.cell0 h.shape h.frozen0).mono ?_
    rintro e w' ⟨rfl, rfl⟩
    exact ⟨rfl, h.used _, (Below.refl B w).setCell (p := ⟨b, 0, none⟩) h.1 _, (KeptT.refl b w).set⟩
  · refine (bldCheck_used b w h.cell0).mono ?_
    rintro e w' ⟨rfl, rfl⟩
    exact ⟨rfl, h, Below.refl B _, KeptT.refl b _⟩

set_option maxHeartbeats 2000000 in
set_option maxRecDepth 100000 in
theorem bldByte_any (B b : Nat) (bs : List Value) (c : Int) (w : World) (h : IsBld B b bs w) (hlen : bs.length + 1 ≤ 140737488355328) (hBw : B ≤ w.heap.size) :
    Calls Tryz.prog 24 #[.pointer (some ⟨b, 0, none⟩), .int .u8 c] w fun e w' => e = .returned .nilIface ∧ (BldAt B b (bs ++ [.int .u8 c]) w' ∧ Below B w w' ∧ KeptT b w w') := by
  obtain ⟨i0, hi, hz0, hz1, hz2⟩ := info_parts infoU8
  go_enter Tryz.func24, Tryz.ntmps24
  go_wp2_with fail
  refine (bldCheck_any B b bs _ h).mono ?_
  rintro e w1 ⟨rfl, h1, hb1, hk1⟩
  obtain ⟨hB, v, hbk, hown, hne⟩ := h1
  have c0 : w1.cell? ⟨b, 0, none⟩ = some (.pointer (some ⟨b, 0, none⟩)) := by rw [Lib.cell_of_heap hbk]; rfl
  have c1 : w1.cell? ⟨b, 1, none⟩ = some v := by rw [Lib.cell_of_heap hbk]; rfl
  go_wp2_with (at_builtin; refine wpList_append_own _ rfl _ _ 31 rfl B 5 i0 (.int .u8 0) 1 1 Tryz.underlying31 hi hz0 hz1 hz2 rfl (by decide) _ _ _ rfl (hown.alloc _) ⟨w1.heap.size, 0, none⟩ 1 1 [.int .u8 c] rfl rfl ?c1 ?c2 ?c3 ?c4 ?c5 ?_)
  case c1 =>
    intro j u hj
    match j, hj with
    | 0, hj => simp at hj; subst hj; simp [Addr.add]
  case c2 => intro u hu; simp at hu; subst hu; rfl
  case c3 => unfold maxLen; omega
  case c4 => omega
  case c5 => have := hb1.size; simp; omega
  intro v' w2 hown' hgrow _
  have hlt : b < w1.heap.size := by
    rcases Nat.lt_or_ge b w1.heap.size with h' | h'
    · exact h'
    · simp [Array.getElem?_eq_none h'] at hbk
  have hb2 : w2.heap[b]? = some (.cells #[.pointer (some ⟨b, 0, none⟩), v] 51 (0, 0)) := by
    rw [hgrow.block b (by simp; omega) (fun e => hne e.symm), Lib.alloc_old w1 _ b hlt]
    exact hbk
  have d0 : w2.cell? ⟨b, 0, none⟩ = some (.pointer (some ⟨b, 0, none⟩)) := by rw [Lib.cell_of_heap hb2]; rfl
  have d1 : w2.cell? ⟨b, 1, none⟩ = some v := by rw [Lib.cell_of_heap hb2]; rfl
  have f1 : w2.frozen? ⟨b, 1, none⟩ = false := Lib.frozen_of_heap hb2 1
  obtain ⟨g, cap, rfl⟩ : ∃ g cap, v' = .slice (some ⟨g, 0, none⟩) (bs.length + 1) cap := by
    rcases hown'.2 with ⟨_, h0⟩ | ⟨g, cap, cur, hv, _⟩
    · omega
    · exact ⟨g, cap, hv⟩
  go_wp2
  go_ret
  refine ⟨rfl, ?_, ?_, ?_⟩
  · exact Lib.BuilderAt.put (T := 51) (e := 5) hB hb2 (bs' := bs ++ [.int .u8 c]) (by simpa using hown') (by decide)
  · exact ((hb1.alloc (by have := hb1.size; omega) _).grown hgrow (by have := hb1.size; simp; omega) (fun k hk => (hown.lt k hk).1)).setCell (p := ⟨b, 1, none⟩) hB _
  · exact (hk1.alloc.grown (hown.alloc _) hgrow).set

set_option maxHeartbeats 2000000 in
set_option maxRecDepth 100000 in
theorem bldStr_any (B b : Nat) (bs : List Value) (s : ByteArray) (w : World) (h : IsBld B b bs w) (hlen : bs.length + s.size ≤ 140737488355328) (hBw : B ≤ w.heap.size) :
    Calls Tryz.prog 25 #[.pointer (some ⟨b, 0, none⟩), .string s] w fun e w' => e = .returned (.tuple #[.int .i64 s.size, .nilIface]) ∧ (BldAt B b (bs ++ Lib.strCells s) w' ∧ Below B w w' ∧ KeptT b w w') := by
  obtain ⟨i0, hi, hz0, hz1, hz2⟩ := info_parts infoU8
  go_enter Tryz.func25, Tryz.ntmps25
  go_wp2_with fail
  refine (bldCheck_any B b bs _ h).mono ?_
  rintro e w1 ⟨rfl, h1, hb1, hk1⟩
  obtain ⟨hB, v, hbk, hown, hne⟩ := h1
  have c0 : w1.cell? ⟨b, 0, none⟩ = some (.pointer (some ⟨b, 0, none⟩)) := by rw [Lib.cell_of_heap hbk]; rfl
  have c1 : w1.cell? ⟨b, 1, none⟩ = some v := by rw [Lib.cell_of_heap hbk]; rfl
  go_wp2_with (at_builtin; refine Lib.wpList_append_own_string _ rfl _ _ 31 9 rfl B 5 i0 Tryz.underlying31 Tryz.underlying9 hi hz0 hz1 hz2 _ _ _ rfl hown s rfl ?c3 ?c4 ?c5 ?_)
  case c3 => unfold maxLen; omega
  case c4 => omega
  case c5 => have := hb1.size; omega
  intro v' w2 hown' hgrow _
  have hlt : b < w1.heap.size := by
    rcases Nat.lt_or_ge b w1.heap.size with h' | h'
    · exact h'
    · simp [Array.getElem?_eq_none h'] at hbk
  have hb2 : w2.heap[b]? = some (.cells #[.pointer (some ⟨b, 0, none⟩), v] 51 (0, 0)) := by
    rw [hgrow.block b hlt (fun e => hne e.symm)]
    exact hbk
  have d0 : w2.cell? ⟨b, 0, none⟩ = some (.pointer (some ⟨b, 0, none⟩)) := by rw [Lib.cell_of_heap hb2]; rfl
  have d1 : w2.cell? ⟨b, 1, none⟩ = some v := by rw [Lib.cell_of_heap hb2]; rfl
  have f1 : w2.frozen? ⟨b, 1, none⟩ = false := Lib.frozen_of_heap hb2 1
  obtain ⟨ao, n', cap, rfl⟩ : ∃ ao n' cap, v' = .slice ao n' cap := by
    rcases hown'.2 with ⟨hv, _⟩ | ⟨g, cap, cur, hv, _⟩
    · exact ⟨_, _, _, hv⟩
    · exact ⟨_, _, _, hv⟩
  go_wp2
  go_ret2
  refine ⟨rfl, ?_, ?_, ?_⟩
  · exact Lib.BuilderAt.put (T := 51) (e := 5) hB hb2 (bs' := bs ++ Lib.strCells s) (by simpa [Lib.strCells_length] using hown') (by decide)
  · exact (hb1.grown hgrow (by have := hb1.size; omega) (fun k hk => (hown.lt k hk).1)).setCell (p := ⟨b, 1, none⟩) hB _
  · exact (hk1.grown hown hgrow).set
theorem IsBld.lt {B b : Nat} {bs : List Value} {w : World} (h : IsBld B b bs w) : b < w.heap.size := h.elim (·.lt) (·.lt)
theorem IsBld.below {B b : Nat} {bs : List Value} {w W : World} (h : IsBld B b bs w) (hb : Below w.heap.size w W) : IsBld B b bs W := by
  have key : ∀ p, Lib.BuilderAt 51 5 B b p bs w → Lib.BuilderAt 51 5 B b p bs W := fun p h => by
    have hlt := h.lt
    obtain ⟨hB, v, hbk, hown, hne⟩ := h
    exact ⟨hB, v, (hb.block b hlt).trans hbk, own_below hown hb, hne⟩
  exact h.imp (key _) (key _)
end Go.Proofs.YtgnejohiagagmaaGreatDoor
