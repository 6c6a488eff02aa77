/- Rows of digits in memory: read, appended, made. The walks of tabularef01's at, trim, value. The walk of tabularef01's digits. The walk of tabularef01's less. The walk of tabularef01's plus. The walk of tabularef01's minus. The walk of tabularef01's ten. -/
import Derived.Test.YtgnejohiagagmaaGreatDoorG1
import Derived.Test.YtgnejohiagagmaaGreatDoorN1
import Derived.Laws.OwnMore
import Derived.OwnWalk
import Derived.BigQuiet
namespace Go.Proofs.YtgnejohiagagmaaGreatDoor
open Go.RowKit Tab

def intsV (L : List Nat) : List Value := L.map fun (d : Nat) => Value.int .i64 (d : Int)
theorem intsV_len (L : List Nat) : (intsV L).length = L.length := by unfold intsV; simp
theorem intsV_app (L M : List Nat) : intsV (L ++ M) = intsV L ++ intsV M := by unfold intsV; simp
theorem intsV_one (L : List Nat) : ∀ u ∈ intsV L, u.oneCell' = true := by
  intro u hu
  unfold intsV at hu
  obtain ⟨_, _, rfl⟩ := List.mem_map.1 hu
  rfl
theorem intsV_at (L : List Nat) (i : Nat) (d : Nat) (h : L[i]? = some d) : (intsV L)[i]? = some (.int .i64 (d : Int)) := by
  unfold intsV
  rw [List.getElem?_map, h]; rfl
theorem infoI : (Tryz.prog.info? 3).map (fun i => (i.zero, i.size, i.bytes)) = some (some (.int .i64 0), 1, 8) := by kernel_rfl

/-- digits behind a pointer. -/
def IntAt (w : World) (p : Option Addr) (c : Nat) (L : List Nat) : Prop :=
  (p = none ∧ c = 0 ∧ L = []) ∨ ∃ b o, p = some ⟨b, o, none⟩ ∧ L.length ≤ c ∧ b < w.heap.size ∧ ∀ (i d : Nat), L[i]? = some d → w.cell? ⟨b, o + i, none⟩ = some (.int .i64 (d : Int))
/-- a slice of digits. -/
def IntRow (w : World) (v : Value) (L : List Nat) : Prop := ∃ p c, v = .slice p L.length c ∧ IntAt w p c L
theorem IntAt.below {w W : World} {p : Option Addr} {c : Nat} {L : List Nat} (h : IntAt w p c L) (hb : Below w.heap.size w W) : IntAt W p c L := by
  rcases h with h | ⟨b, o, h1, h2, h3, h4⟩
  · exact .inl h
  · exact .inr ⟨b, o, h1, h2, Nat.lt_of_lt_of_le h3 hb.size, fun i d hd => by rw [hb.cell (p := ⟨b, o + i, none⟩) h3]; exact h4 i d hd⟩
theorem IntRow.below {w W : World} {v : Value} {L : List Nat} (h : IntRow w v L) (hb : Below w.heap.size w W) : IntRow W v L := by
  obtain ⟨p, c, h1, h2⟩ := h
  exact ⟨p, c, h1, h2.below hb⟩
theorem IntAt.at {w : World} {p : Option Addr} {c : Nat} {L : List Nat} (h : IntAt w p c L) {i : Nat} (hi : i < L.length) : ∃ b o, p = some ⟨b, o, none⟩ ∧ L.length ≤ c ∧ b < w.heap.size ∧ w.cell? ⟨b, o + i, none⟩ = some (.int .i64 (L[i] : Int)) := by
  rcases h with ⟨_, _, rfl⟩ | ⟨b, o, h1, h2, h3, h4⟩
  · simp at hi
  · exact ⟨b, o, h1, h2, h3, h4 i _ (List.getElem?_eq_getElem hi)⟩
theorem IntAt.cap {w : World} {p : Option Addr} {c : Nat} {L : List Nat} (h : IntAt w p c L) : L.length ≤ c := by
  rcases h with ⟨_, _, rfl⟩ | ⟨b, o, h1, h2, h3, h4⟩
  · simp
  · exact h2
theorem IntAt.take {w : World} {p : Option Addr} {c : Nat} {L : List Nat} (h : IntAt w p c L) (n : Nat) : IntAt w p c (L.take n) := by
  rcases h with ⟨h1, h2, rfl⟩ | ⟨b, o, h1, h2, h3, h4⟩
  · exact .inl ⟨h1, h2, by simp⟩
  · refine .inr ⟨b, o, h1, by rw [List.length_take]; omega, h3, fun i d hd => h4 i d ?_⟩
    rw [List.getElem?_take] at hd
    split at hd
    · exact hd
    · cases hd
theorem IntRow.nil (w : World) : IntRow w (.slice none 0 0) [] := ⟨none, 0, rfl, .inl ⟨rfl, rfl, rfl⟩⟩
theorem intRow_of_own {w : World} {base : Nat} {v : Value} {L : List Nat} {e : TypeId} (h : w.ownsRow base e 1 v L.length (intsV L)) : IntRow w v L := by
  rcases h.2 with ⟨h1, h2⟩ | ⟨g, cap, cur, h1, h2, h3, h4, h5, h6, h7⟩
  · have : L = [] := List.length_eq_zero_iff.1 h2
    subst this; rw [h1]; exact IntRow.nil w
  · refine ⟨_, cap, h1, .inr ⟨g, 0, rfl, h4, ?_, fun i d hd => ?_⟩⟩
    · rcases Nat.lt_or_ge g w.heap.size with h | h
      · exact h
      · simp [Array.getElem?_eq_none h] at h3
    · have hi : i < L.length := (List.getElem?_eq_some_iff.1 hd).1
      rw [Nat.zero_add, Lib.cell_of_heap h3]
      have := intsV_at L i d hd
      rw [← h7, List.getElem?_take, if_pos (by omega), Array.getElem?_toList] at this
      exact this
/-- what hands back digits. -/
def RetRow (L : List Nat) (w : World) (e : Ending) (w' : World) : Prop := ∃ v, e = .returned v ∧ IntRow w' v L ∧ Below w.heap.size w w'
theorem RetRow.mk' {L : List Nat} {w w' : World} {v v' : Value} (h : v = v') (hr : IntRow w' v' L) (hb : Below w.heap.size w w') : RetRow L w (.returned v) w' := ⟨v, rfl, h ▸ hr, hb⟩

/-- digits appended to digits that the call owns. -/
theorem int_append {w : World} {o : Oper} {a : Act} {K : Act → World → Prop} {Q : Exit → Act → World → Prop} (s x : Operand)
    (ho : o.op = .call { callee := .builtin .append, args := #[s, x], argTypes := #[64, 64] })
    (base : Nat) (v u : Value) (M L : List Nat) (hs : a.eval s = v) (hx : a.eval x = u) (hown : w.ownsRow base 3 1 v M.length (intsV M)) (hL : IntRow w u L) (hn : M.length + L.length ≤ 100000) (hbase : base ≤ w.heap.size)
    (h : ∀ v' w', w'.ownsRow base 3 1 v' (M ++ L).length (intsV (M ++ L)) → w.grownBy w' v.ownBlock → K (a.put o.dst v') w') : o.wp Tryz.prog a w K Q := by
  obtain ⟨iT, hi, hz0, hz1, hz2⟩ := info_parts infoI
  obtain ⟨p, c, rfl, ⟨rfl, rfl, rfl⟩ | ⟨b, of, rfl, hc, hb, hcell⟩⟩ := hL
  · refine wp_append_none s x 64 ho base 3 iT 1 Tryz.underlying64 hi v M.length (intsV M) hs hown hx ?_
    exact h v w (by rw [List.append_nil]; exact hown) ⟨rfl, rfl, rfl, Nat.le_refl _, fun _ _ _ => rfl⟩
  · refine wp_append_own w s x 64 ho base 3 iT (.int .i64 0) 1 8 Tryz.underlying64 hi hz0 hz1 hz2 rfl (by decide) v M.length (intsV M) hs hown ⟨b, of, none⟩ L.length c (intsV L) hx (by rw [intsV_len, Nat.mul_one]) ?_ (intsV_one L) (by unfold maxLen; omega) (by omega) hbase ?_
    · intro j u hu
      have hj : j < L.length := by rw [← intsV_len]; exact (List.getElem?_eq_some_iff.1 hu).1
      have h1 := intsV_at L j _ (List.getElem?_eq_getElem hj)
      rw [Addr.add_lit, hcell j _ (List.getElem?_eq_getElem hj), ← hu, h1]
    · intro v' w' h1 h2 _
      exact h v' w' (by rw [List.length_append, intsV_app]; exact h1) h2
theorem intRow_one (w : World) (d : Nat) (t : TypeId) : IntRow (w.alloc (.cells #[.int .i64 (d : Int)] t (0, 0))) (.slice (some ⟨w.heap.size, 0, none⟩) 1 1) [d] := by
  refine ⟨_, 1, rfl, .inr ⟨w.heap.size, 0, rfl, by simp, by simp, fun i x hx => ?_⟩⟩
  have hi : i = 0 := by
    have := (List.getElem?_eq_some_iff.1 hx).1
    simp at this; exact this
  subst hi
  simp at hx
  subst hx
  simp [go_sem]
theorem own_one (w : World) (base : Nat) (hb : base ≤ w.heap.size) (d : Nat) : (w.alloc (.cells #[.int .i64 (d : Int)] 3 (0, 0))).ownsRow base 3 1 (.slice (some ⟨w.heap.size, 0, none⟩) 1 1) [d].length (intsV [d]) := by
  refine ⟨by simp [intsV_len], .inr ⟨w.heap.size, 1, #[.int .i64 (d : Int)], rfl, hb, ?_, Nat.le_refl _, by unfold maxLen; omega, rfl, rfl⟩⟩
  exact Array.getElem?_push_size
theorem own_zeros {w : World} {base n : Nat} {v : Value} (h : w.ownsRow base 3 1 v n (madeCells (Value.int .i64 0).cells (n * 1)).toList) : w.ownsRow base 3 1 v (List.replicate n 0).length (intsV (List.replicate n 0)) := by
  have e : (madeCells (Value.int .i64 0).cells (n * 1)).toList = intsV (List.replicate n 0) := by
    have hl := h.1
    apply List.ext_getElem?
    intro i
    unfold intsV
    rw [List.map_replicate]
    unfold madeCells
    simp [Value.cells, Nat.mod_one]
    rcases Nat.lt_or_ge i n with hi | hi
    · rw [List.getElem?_range hi, List.getElem?_replicate, if_pos hi]; rfl
    · rw [List.getElem?_eq_none (by simpa using hi), List.getElem?_replicate, if_neg (by omega)]; rfl
  rw [← e, List.length_replicate]; exact h
end Go.Proofs.YtgnejohiagagmaaGreatDoor

namespace Go.Proofs.YtgnejohiagagmaaGreatDoor
open Go.RowKit Tab

set_option maxRecDepth 100000 in
set_option maxHeartbeats 2000000 in
theorem intAt_any (L : List Nat) (_hn : L.length ≤ 100000) (i : Nat) (_hi : i ≤ 100000) (v : Value) (w : World) (hL : IntRow w v L) : Calls Tryz.prog 206 #[v, .int .i64 (i : Int)] w (Still (.int .i64 (L.getD i 0 : Nat)) w) := by
  obtain ⟨p, c, rfl, hA⟩ := hL
  by_cases hlt : i < L.length
  · obtain ⟨b, o, rfl, hc, hb, hcell⟩ := hA.at hlt
    have eg : L.getD i 0 = L[i] := by rw [List.getD_eq_getElem?_getD, List.getElem?_eq_getElem hlt]; rfl
    rw [eg]
    clear eg hA
    go_enter Tryz.func206, Tryz.ntmps206
    go_wp2
    go_ret; exact Still.mk' rfl
  · have eg : L.getD i 0 = 0 := by rw [List.getD_eq_getElem?_getD, List.getElem?_eq_none (by omega)]; rfl
    rw [eg]
    clear eg hA
    go_enter Tryz.func206, Tryz.ntmps206
    go_wp2
    go_ret; exact Still.mk' rfl

set_option maxRecDepth 100000 in
set_option maxHeartbeats 2000000 in
theorem trim_any (L : List Nat) (hn : L.length ≤ 100000) (v : Value) (w : World) (hL : IntRow w v L) : Calls Tryz.prog 183 #[v] w (RetRow (L.take (tnN L L.length)) w) := by
  obtain ⟨V, hV⟩ : ∃ V, tnN L L.length = V := ⟨_, rfl⟩
  have hle := tnN_le L L.length
  rw [hV] at hle ⊢
  obtain ⟨p, c, rfl, hA⟩ := hL
  have HV := Lib.hid hV; clear hV
  have HA := Lib.hid hA
  have hcap := hA.cap
  go_enter Tryz.func183, Tryz.ntmps183
  go_wp2
  go_loop [3] (fun n => ∃ k : Nat, n = .int .i64 (k : Int) ∧ k ≤ L.length ∧ tnN L k = V) (fun n => (intOf n).toNat)
  case atStart => exact ⟨L.length, rfl, Nat.le_refl _, HV.out⟩
  case round =>
    clear HV
    obtain ⟨k, rfl, hk, hI⟩ := hrel
    have HI := Lib.hid hI
    clear hI
    by_cases h0 : k = 0
    · subst h0
      have hI := HI.out
      have hV0 : V = 0 := hI.symm
      subst hV0
      clear hI HI
      go_wp2
      go_ret
      exact RetRow.mk' (v' := .slice p 0 c) rfl ⟨p, c, rfl, HA.out.take 0⟩ (Below.refl _ _)
    · obtain ⟨j, rfl⟩ : ∃ j, k = j + 1 := ⟨k - 1, by omega⟩
      have hjl : j < L.length := by omega
      obtain ⟨b, o, rfl, hc, hb, hcell⟩ := hA.at hjl
      have eg : L.getD j 0 = L[j] := by rw [List.getD_eq_getElem?_getD, List.getElem?_eq_getElem hjl]; rfl
      have ek : decide (0 < ((j + 1 : Nat) : Int)) = true := decide_eq_true (by omega)
      have ew : IntKind.i64.wrap (((j + 1 : Nat) : Int) - 1) = (j : Int) := by rw [IntWalk.i64_in _ (by omega)]; omega
      have hI := HI.out
      unfold tnN at hI
      rw [eg] at hI
      generalize L[j] = x at *
      by_cases hx : x = 0
      · rw [if_pos hx] at hI
        subst hx
        have HI := Lib.hid hI
        clear hI
        go_wp2
        go_round
        case rel => exact ⟨j, rfl, by omega, HI.out⟩
        case measure => simp [intOf]
      · rw [if_neg hx] at hI
        subst hI
        have ex : ((x : Int) == 0) = false := by rw [beq_eq_false_iff_ne]; omega
        clear HI
        go_wp2
        go_ret
        exact RetRow.mk' (v' := .slice (some ⟨b, o, none⟩) (j + 1) c) rfl ⟨_, c, by rw [List.length_take, Nat.min_eq_left hle], HA.out.take _⟩ (Below.refl _ _)

set_option maxRecDepth 100000 in
set_option maxHeartbeats 2000000 in
theorem value_any (N : Nat) (hN : N < 1000000000000000000) (v : Value) (w : World) (hL : IntRow w v (dgN N)) : Calls Tryz.prog 209 #[v] w (Still (.int .i64 (N : Int)) w) := by
  have hl18 : (dgN N).length ≤ 18 := dgN_len_bound (by simpa using hN)
  have hval := vals_dgN N
  have hlow := dgN_low N
  obtain ⟨L, hL2⟩ : ∃ L, dgN N = L := ⟨_, rfl⟩
  rw [hL2] at hl18 hval hlow hL
  clear hL2
  have hdrop : ∀ j, vals (L.drop j) ≤ N := fun j => by
    rw [← hval]
    have h := vals_app (L.take j) (L.drop j)
    rw [List.take_append_drop] at h
    have h1 : vals (L.drop j) ≤ 10 ^ (L.take j).length * vals (L.drop j) := Nat.le_mul_of_pos_left _ (Nat.pow_pos (by decide))
    omega
  obtain ⟨p, c, rfl, hA⟩ := hL
  have HV := Lib.hid hval
  have HD := Lib.hid hdrop
  clear hval hdrop hlow
  go_enter Tryz.func209, Tryz.ntmps209
  go_wp2
  go_loop [3, 4] (fun n i => ∃ j : Nat, i = .int .i64 ((j : Int) - 1) ∧ j ≤ L.length ∧ n = .int .i64 ((vals (L.drop j) : Nat) : Int)) (fun _ i => (intOf i + 1).toNat)
  case atStart => exact ⟨L.length, by go_num, Nat.le_refl _, by rw [List.drop_length]; rfl⟩
  case round =>
    obtain ⟨j, rfl, hj, rfl⟩ := hrel
    by_cases h0 : j = 0
    · subst h0
      have ek : decide ((0 : Int) ≤ ((0 : Nat) : Int) - 1) = false := decide_eq_false (by omega)
      go_wp2
      go_ret
      exact Still.mk' (by show Value.int .i64 ((vals L : Nat) : Int) = _; rw [HV.out])
    · obtain ⟨i, rfl⟩ : ∃ i, j = i + 1 := ⟨j - 1, by omega⟩
      have hil : i < L.length := by omega
      obtain ⟨b, o, rfl, hc, hb, hcell⟩ := hA.at hil
      have hs := vals_drop L i hil
      have hm := HD.out i
      have e1 : (((i + 1 : Nat) : Int) - 1) = (i : Int) := by omega
      rw [e1]
      have ek : decide ((0 : Int) ≤ (i : Int)) = true := decide_eq_true (by omega)
      have ew1 : IntKind.i64.wrap (10 * ((vals (L.drop (i + 1)) : Nat) : Int)) = 10 * ((vals (L.drop (i + 1)) : Nat) : Int) := IntWalk.i64_in _ (by omega)
      have ew2 : IntKind.i64.wrap (10 * ((vals (L.drop (i + 1)) : Nat) : Int) + (L[i] : Int)) = ((vals (L.drop i) : Nat) : Int) := by rw [IntWalk.i64_in _ (by omega)]; omega
      have ew3 : IntKind.i64.wrap ((i : Int) - 1) = (i : Int) - 1 := IntWalk.i64_in _ (by omega)
      clear hs hm
      go_wp2
      go_round
      case rel => exact ⟨i, rfl, by omega, rfl⟩
      case measure => simp [intOf]

end Go.Proofs.YtgnejohiagagmaaGreatDoor

namespace Go.Proofs.YtgnejohiagagmaaGreatDoor
open Go.RowKit Tab

set_option maxRecDepth 100000 in
set_option maxHeartbeats 4000000 in
theorem digits_any (N : Nat) (hN : N ≤ 1000000000000000000) (w : World) : Calls Tryz.prog 207 #[.int .i64 (N : Int)] w (RetRow (dgN N) w) := by
  have hl : (dgN N).length ≤ 19 := dgN_len_bound (by omega)
  obtain ⟨V, hV⟩ : ∃ V, dgN N = V := ⟨_, rfl⟩
  rw [hV] at hl ⊢
  have HV := Lib.hid hV
  clear hV
  go_enter Tryz.func207, Tryz.ntmps207
  go_wp2_with fail
  go_loopw [0, 3] (fun n o w' => ∃ (k : Nat) (xs : List Nat), n = .int .i64 (k : Int) ∧ k ≤ N ∧ xs ++ dgN k = V ∧ w'.ownsRow w.heap.size 3 1 o xs.length (intsV xs) ∧ Below w.heap.size w w') (fun n _ _ => (intOf n).toNat)
  case atStart => exact ⟨N, [], rfl, Nat.le_refl _, HV.out, ⟨rfl, .inl ⟨rfl, rfl⟩⟩, Below.refl _ _⟩
  case round =>
    clear HV
    obtain ⟨k, xs, rfl, hk, hI, hown, hb⟩ := hrel
    have HI := Lib.hid hI
    have hxl : xs.length ≤ 19 := by
      have := congrArg List.length hI
      rw [List.length_append] at this; omega
    clear hI
    by_cases h0 : k = 0
    · subst h0
      have hI := HI.out
      rw [dgN_zero, List.append_nil] at hI
      subst hI
      clear HI
      go_wp2
      go_ret
      exact ⟨_, rfl, intRow_of_own hown, hb⟩
    · have e1 : ((k : Int) != 0) = true := by rw [bne_iff_ne]; omega
      have e2 : (k : Int).tmod 10 = ((k % 10 : Nat) : Int) := by rw [Int.tmod_eq_emod_of_nonneg (by omega)]; omega
      have e3 : (k : Int).tdiv 10 = ((k / 10 : Nat) : Int) := by rw [Int.tdiv_eq_ediv_of_nonneg (by omega)]; omega
      have e4 : decide (((k % 10 : Nat) : Int) < 0) = false := decide_eq_false (by omega)
      have hI := HI.out
      rw [dgN_pos h0] at hI
      have HI := Lib.hid hI
      clear hI
      go_wp2_with (at_builtin; refine held ?_)
      unfold Held
      refine wpList_want (by rfl) ?_
      intro KK hKK
      refine int_append _ _ rfl w.heap.size _ _ xs [k % 10] rfl rfl (hown.alloc _) (intRow_one _ _ _) (by simp; omega) (by have := hb.size; simp; omega) ?_
      intro v5 w5 own5 hg5
      have hb5 : Below w.heap.size w w5 := (allocB hb).grown hg5 (by have := hb.size; simp; omega) (own_row hown)
      refine hKK _ _ ?_
      clear hKK hg5
      go_wp2
      go_roundw
      case rel => exact ⟨k / 10, xs ++ [k % 10], rfl, by omega, by rw [List.append_assoc]; exact HI.out, own5, hb5⟩
      case measure => simp [intOf]; omega

end Go.Proofs.YtgnejohiagagmaaGreatDoor

namespace Go.Proofs.YtgnejohiagagmaaGreatDoor
open Go.RowKit Tab

set_option maxRecDepth 100000 in
set_option maxHeartbeats 4000000 in
theorem less_any (x y : Nat) (hx : (dgN x).length ≤ 100000) (_hy : (dgN y).length ≤ 100000) (v u : Value) (w : World) (hL : IntRow w v (dgN x)) (hM : IntRow w u (dgN y)) : Calls Tryz.prog 188 #[v, u] w (Ret (.bool (decide (x < y))) w) := by
  have vx := vals_dgN x
  have vy := vals_dgN y
  have lx := dgN_low x
  have ly := dgN_low y
  have hlen1 : (dgN x).length < (dgN y).length → x < y := dgN_len_lt
  have hlen2 : (dgN y).length < (dgN x).length → y < x := dgN_len_lt
  generalize dgN x = L at *
  generalize dgN y = M at *
  obtain ⟨p, c, rfl, hA⟩ := hL
  obtain ⟨q, d, rfl, hB⟩ := hM
  by_cases hlen : L.length = M.length
  · have e1 : ((L.length : Int) != (M.length : Int)) = false := by rw [hlen]; simp
    obtain ⟨V, hV⟩ : ∃ V, decide (x < y) = V := ⟨_, rfl⟩
    rw [hV]
    have HS : Hid (decide (vals (L.take L.length) < vals (M.take L.length)) = V) := Lib.hid (by rw [List.take_length, hlen, List.take_length, vx, vy, hV])
    have HL := Lib.hid hlen
    have HX := Lib.hid lx
    have HY := Lib.hid ly
    clear hV hlen hlen1 hlen2 vx vy lx ly
    go_enter Tryz.func188, Tryz.ntmps188
    go_wp2_with fail
    go_loopw [5] (fun i w' => ∃ j : Nat, i = .int .i64 ((j : Int) - 1) ∧ j ≤ L.length ∧ decide (vals (L.take j) < vals (M.take j)) = V ∧ Below w.heap.size w w') (fun i _ => (intOf i + 1).toNat)
    case atStart => exact ⟨L.length, by go_num, Nat.le_refl _, HS.out, Below.refl _ _⟩
    case round =>
      clear HS
      obtain ⟨j, rfl, hj, hI, hW⟩ := hrel
      have HI := Lib.hid hI
      clear hI
      by_cases h0 : j = 0
      · subst h0
        have ek : decide ((0 : Int) ≤ ((0 : Nat) : Int) - 1) = false := decide_eq_false (by omega)
        have hI := HI.out
        rw [List.take_zero, List.take_zero] at hI
        have hV0 : V = false := by rw [← hI]; rfl
        subst hV0
        clear hI HI
        go_wp2
        go_ret
        exact Ret.mk' rfl hW
      · obtain ⟨i, rfl⟩ : ∃ i, j = i + 1 := ⟨j - 1, by omega⟩
        have hil : i < L.length := by omega
        have him : i < M.length := by have := HL.out; omega
        obtain ⟨b, o, rfl, hc, hb, hcell⟩ := hA.at hil
        obtain ⟨b', o', rfl, hc', hb', hcell'⟩ := hB.at him
        have e1 : (((i + 1 : Nat) : Int) - 1) = (i : Int) := by omega
        rw [e1]
        have ek : decide ((0 : Int) ≤ (i : Int)) = true := decide_eq_true (by omega)
        have ew3 : IntKind.i64.wrap ((i : Int) - 1) = (i : Int) - 1 := IntWalk.i64_in _ (by omega)
        have hz1 := Nat.lt_of_lt_of_le hb hW.size
        have hz2 := Nat.lt_of_lt_of_le hb' hW.size
        have k1 : wr.cell? ⟨b, o + i, none⟩ = some (.int .i64 (L[i] : Int)) := by rw [hW.cell (p := ⟨b, o + i, none⟩) hb]; exact hcell
        have k2 : wr.cell? ⟨b', o' + i, none⟩ = some (.int .i64 (M[i] : Int)) := by rw [hW.cell (p := ⟨b', o' + i, none⟩) hb']; exact hcell'
        have hst := less_step L M HX.out HY.out i hil him
        rw [HI.out] at hst
        have hiM : (i : Int) < (M.length : Int) := by omega
        have hiL : (i : Int) < (L.length : Int) := by omega
        clear hcell hcell' HI
        generalize L[i] = s at *
        generalize M[i] = t at *
        by_cases hst2 : s = t
        · rw [if_pos hst2] at hst
          have n1 : ((s : Int) != (t : Int)) = false := by rw [hst2]; simp
          have HI := Lib.hid hst.symm
          clear hst hst2
          go_wp2_with fail
          have kc := gcell wr
          refine region_below (by kernel_rfl) (by kernel_rfl) ?_
          repeat (go_big_quiet_step (fail))
          refine wpQuiet_nil ?_
          intro w2 hb2
          have hW2 := after hW hb2
          go_wp2
          go_roundw
          case rel => exact ⟨i, rfl, by omega, HI.out, hW2⟩
          case measure => simp [intOf]
        · rw [if_neg hst2] at hst
          have n1 : ((s : Int) != (t : Int)) = true := by rw [bne_iff_ne]; omega
          have n2 : decide ((s : Int) < (t : Int)) = V := by rw [hst, decide_eq_decide]; omega
          have N3 := Lib.hid hst.symm
          clear hst hst2
          go_wp2_with fail
          have kc := gcell wr
          refine region_below (by kernel_rfl) (by kernel_rfl) ?_
          repeat (go_big_quiet_step (fail))
          refine wpQuiet_nil ?_
          intro w2 hb2
          have hW2 := after hW hb2
          have k1 : w2.cell? ⟨b, o + i, none⟩ = some (.int .i64 (s : Int)) := by rw [hb2.cell (p := ⟨b, o + i, none⟩) hz1]; exact k1
          have k2 : w2.cell? ⟨b', o' + i, none⟩ = some (.int .i64 (t : Int)) := by rw [hb2.cell (p := ⟨b', o' + i, none⟩) hz2]; exact k2
          have hz1 := Nat.lt_of_lt_of_le hz1 hb2.size
          have hz2 := Nat.lt_of_lt_of_le hz2 hb2.size
          clear kc hb2
          go_wp2_with fail
          have kc := gcell w2
          refine region_below (by kernel_rfl) (by kernel_rfl) ?_
          repeat (go_big_quiet_step (fail))
          refine wpQuiet_nil ?_
          intro w3 hb3
          have hW3 := after hW2 hb3
          go_wp2
          go_ret
          exact Ret.mk' (by first | rfl | (show Value.bool (decide (s < t)) = _; rw [N3.out])) hW3
  · have e1 : ((L.length : Int) != (M.length : Int)) = true := by rw [bne_iff_ne]; omega
    have e2 : decide ((L.length : Int) < (M.length : Int)) = decide (x < y) := by
      rw [decide_eq_decide]
      constructor
      · intro h; exact hlen1 (by omega)
      · intro h
        rcases Nat.lt_or_ge L.length M.length with h1 | h1
        · omega
        · have := hlen2 (by omega); omega
    have N3 := Lib.hid (show decide (L.length < M.length) = decide (x < y) by rw [← e2, decide_eq_decide]; omega)
    clear hlen1 hlen2 vx vy lx ly
    go_enter Tryz.func188, Tryz.ntmps188
    go_wp2
    go_ret
    exact Ret.mk' (by show Value.bool (decide (L.length < M.length)) = _; rw [N3.out]) (Below.refl _ _)
end Go.Proofs.YtgnejohiagagmaaGreatDoor

namespace Go.Proofs.YtgnejohiagagmaaGreatDoor
open Go.RowKit Tab

set_option maxRecDepth 100000 in
set_option maxHeartbeats 8000000 in
theorem plus_any (x y : Nat) (hx : (dgN x).length ≤ 1000) (hy : (dgN y).length ≤ 1000) (v u : Value) (w : World) (hL : IntRow w v (dgN x)) (hM : IntRow w u (dgN y)) : Calls Tryz.prog 205 #[v, u] w (RetRow (dgN (x + y)) w) := by
  have hS := SumI.start (dgN x) (dgN y)
  rw [vals_dgN, vals_dgN] at hS
  have lx := dgN_low x
  have ly := dgN_low y
  generalize dgN x = L at *
  generalize dgN y = M at *
  generalize x + y = S at *
  have cA := fun i (hi : i ≤ 100000) W (hb : Below w.heap.size w W) => intAt_any L (by omega) i hi v W (hL.below hb)
  have cB := fun i (hi : i ≤ 100000) W (hb : Below w.heap.size w W) => intAt_any M (by omega) i hi u W (hM.below hb)
  obtain ⟨p, c, rfl, hA⟩ := hL
  obtain ⟨q, d, rfl, hB⟩ := hM
  obtain ⟨n, hn1, hn2, hn3⟩ : ∃ n, L.length ≤ n ∧ M.length ≤ n ∧ n ≤ 1000 := ⟨max L.length M.length, by omega, by omega, by omega⟩
  have HS := Lib.hid hS
  have HX := Lib.hid lx
  have HY := Lib.hid ly
  clear hS lx ly hA hB
  go_enter Tryz.func205, Tryz.ntmps205
  go_wp2_with fail
  go_loopw [5, 6, 7] (fun o cy i w' => ∃ (k cc : Nat) (xs : List Nat), i = .int .i64 (k : Int) ∧ cy = .int .i64 (cc : Int) ∧ k ≤ n + 1 ∧ (n < k → cc = 0) ∧ SumI L M xs k cc S ∧ w'.ownsRow w.heap.size 3 1 o xs.length (intsV xs) ∧ Below w.heap.size w w') (fun _ _ i _ => n + 1 - (intOf i).toNat)
  case atStart => exact ⟨0, 0, [], rfl, rfl, by omega, fun _ => rfl, HS.out, ⟨rfl, .inl ⟨rfl, rfl⟩⟩, Below.refl _ _⟩
  case round =>
    clear HS
    obtain ⟨k, cc, xs, rfl, rfl, hk, hkc, hI, hown, hb⟩ := hrel
    have hcc := hI.2.2.1
    have hxl := hI.2.1
    have hst := hI.step HX.out HY.out
    have HI := Lib.hid hI
    have HT := Lib.hid hst
    have hs := HX.out.getD k
    have ht := HY.out.getD k
    have hs0 : L.length ≤ k → L.getD k 0 = 0 := fun h => by rw [List.getD_eq_getElem?_getD, List.getElem?_eq_none h]; rfl
    have ht0 : M.length ≤ k → M.getD k 0 = 0 := fun h => by rw [List.getD_eq_getElem?_getD, List.getElem?_eq_none h]; rfl
    have cA := cA k (by omega)
    have cB := cB k (by omega)
    have hend : k = n + 1 → ¬ (k < L.length ∨ k < M.length ∨ 0 < cc) := fun e => by have := hkc (by omega); omega
    clear hI hst hkc
    generalize L.getD k 0 = s at *
    generalize M.getD k 0 = t at *
    have ew1 : IntKind.i64.wrap ((s : Int) + (t : Int)) = (s : Int) + (t : Int) := IntWalk.i64_in _ (by omega)
    obtain ⟨z, hz⟩ : ∃ z, s + t + cc = z := ⟨_, rfl⟩
    have ew2 : IntKind.i64.wrap ((s : Int) + (t : Int) + (cc : Int)) = (z : Int) := by rw [IntWalk.i64_in _ (by omega)]; omega
    have ew3 : IntKind.i64.wrap ((k : Int) + 1) = ((k + 1 : Nat) : Int) := by rw [IntWalk.i64_in _ (by omega)]; omega
    have e2 : (z : Int).tmod 10 = ((z % 10 : Nat) : Int) := by rw [Int.tmod_eq_emod_of_nonneg (by omega)]; omega
    have e3 : (z : Int).tdiv 10 = ((z / 10 : Nat) : Int) := by rw [Int.tdiv_eq_ediv_of_nonneg (by omega)]; omega
    rw [hz] at HT
    have hz20 : z < 20 := by omega
    have hzn : n < k + 1 → z / 10 = 0 := fun h => by have := hs0 (by omega); have := ht0 (by omega); omega
    have HZ := Lib.hid hzn
    clear hs0 ht0 hzn
    rcases (show (k < L.length) ∨ (¬ k < L.length ∧ k < M.length) ∨ (¬ k < L.length ∧ ¬ k < M.length ∧ 0 < cc) ∨ (¬ k < L.length ∧ ¬ k < M.length ∧ cc = 0) by omega) with h1 | ⟨h1, h2⟩ | ⟨h1, h2, h3⟩ | ⟨h1, h2, h3⟩
    iterate 3 (focus
      have hk2 : k < n + 1 := by
        rcases Nat.lt_or_ge k (n + 1) with h | h
        · exact h
        · exact absurd (by omega) (hend (by omega))
      clear hend
      go_wp2_with fail
      refine (cA _ hb).mono ?_; rintro e w1 ⟨rfl, rfl⟩
      go_wp2_with fail
      refine (cB _ hb).mono ?_; rintro e w2 ⟨rfl, rfl⟩
      clear cA cB
      go_wp2_with (at_builtin; refine held ?_)
      unfold Held
      refine wpList_want (by rfl) ?_
      intro KK hKK
      refine int_append _ _ rfl w.heap.size _ _ xs [z % 10] rfl rfl (hown.alloc _) (intRow_one _ _ _) (by simp; omega) (by have := hb.size; simp; omega) ?_
      intro v5 w5 own5 hg5
      have hb5 : Below w.heap.size w w5 := (allocB hb).grown hg5 (by have := hb.size; simp; omega) (own_row hown)
      refine hKK _ _ ?_
      clear hKK hg5
      go_wp2
      go_roundw
      case rel => exact ⟨k + 1, z / 10, xs ++ [z % 10], rfl, rfl, by omega, HZ.out, HT.out, own5, hb5⟩
      case measure => simp [intOf]; omega)
    · subst h3
      have hd := HI.out.done (by omega) (by omega)
      have cT := trim_any xs (by omega) _ _ (intRow_of_own hown)
      rw [hd] at cT
      clear HI HT cA cB hend hd
      go_wp2_with fail
      refine cT.mono ?_; rintro e w1 ⟨v1, rfl, h1, hb1⟩
      have hb2 := after hb hb1
      go_wp2
      go_ret
      exact ⟨_, rfl, h1, hb2⟩

end Go.Proofs.YtgnejohiagagmaaGreatDoor

namespace Go.Proofs.YtgnejohiagagmaaGreatDoor
open Go.RowKit Tab

set_option maxRecDepth 100000 in
set_option maxHeartbeats 8000000 in
theorem minus_any (x y : Nat) (hxy : y ≤ x) (hx : (dgN x).length ≤ 1000) (hy : (dgN y).length ≤ 1000) (v u : Value) (w : World) (hL : IntRow w v (dgN x)) (hM : IntRow w u (dgN y)) : Calls Tryz.prog 213 #[v, u] w (RetRow (dgN (x - y)) w) := by
  have hS := DifI.start (dgN x) (dgN y) (by rw [vals_dgN, vals_dgN]; exact hxy)
  rw [vals_dgN, vals_dgN] at hS
  have lx := dgN_low x
  have ly := dgN_low y
  generalize dgN x = L at *
  generalize dgN y = M at *
  generalize x - y = S at *
  have cB := fun i (hi : i ≤ 100000) W (hb : Below w.heap.size w W) => intAt_any M (by omega) i hi u W (hM.below hb)
  obtain ⟨p, c, rfl, hA⟩ := hL
  obtain ⟨q, d, rfl, hB⟩ := hM
  have HS := Lib.hid hS
  have HX := Lib.hid lx
  have HY := Lib.hid ly
  clear hS lx ly hB
  go_enter Tryz.func213, Tryz.ntmps213
  go_wp2_with fail
  go_loopw [5, 6, 7] (fun o cy i w' => ∃ (k cc : Nat) (xs : List Nat), i = .int .i64 (k : Int) ∧ cy = .int .i64 (cc : Int) ∧ k ≤ L.length ∧ DifI L M xs k cc S ∧ w'.ownsRow w.heap.size 3 1 o xs.length (intsV xs) ∧ Below w.heap.size w w') (fun _ _ i _ => L.length - (intOf i).toNat)
  case atStart => exact ⟨0, 0, [], rfl, rfl, by omega, HS.out, ⟨rfl, .inl ⟨rfl, rfl⟩⟩, Below.refl _ _⟩
  case round =>
    clear HS
    obtain ⟨k, cc, xs, rfl, rfl, hk, hI, hown, hb⟩ := hrel
    have hcc := hI.2.2.1
    have hxl := hI.2.1
    have hst := hI.step HX.out HY.out
    have HI := Lib.hid hI
    have HT := Lib.hid hst
    have hs := HX.out.getD k
    have ht := HY.out.getD k
    have cB := cB k (by omega)
    clear hI hst
    by_cases hlt : k < L.length
    · obtain ⟨b, o, rfl, hc, hbk, hcell⟩ := hA.at hlt
      have eg : L.getD k 0 = L[k] := by rw [List.getD_eq_getElem?_getD, List.getElem?_eq_getElem hlt]; rfl
      rw [eg] at HT hs
      have hz1 := Nat.lt_of_lt_of_le hbk hb.size
      have k1 : wr.cell? ⟨b, o + k, none⟩ = some (.int .i64 (L[k] : Int)) := by rw [hb.cell (p := ⟨b, o + k, none⟩) hbk]; exact hcell
      clear hcell eg
      generalize L[k] = s at *
      generalize M.getD k 0 = t at *
      have ew1 : IntKind.i64.wrap ((s : Int) - (t : Int)) = (s : Int) - (t : Int) := IntWalk.i64_in _ (by omega)
      have ew2 : IntKind.i64.wrap ((s : Int) - (t : Int) - (cc : Int)) = (s : Int) - (t : Int) - (cc : Int) := IntWalk.i64_in _ (by omega)
      have ew3 : IntKind.i64.wrap ((k : Int) + 1) = ((k + 1 : Nat) : Int) := by rw [IntWalk.i64_in _ (by omega)]; omega
      by_cases hneg : s < t + cc
      · rw [if_pos hneg, if_pos hneg] at HT
        have e8 : decide ((s : Int) - (t : Int) - (cc : Int) < 0) = true := decide_eq_true (by omega)
        obtain ⟨z, hz⟩ : ∃ z, s + 10 - (t + cc) = z := ⟨_, rfl⟩
        rw [hz] at HT
        have ew4 : IntKind.i64.wrap ((s : Int) - (t : Int) - (cc : Int) + 10) = (z : Int) := by rw [IntWalk.i64_in _ (by omega)]; omega
        clear hneg
        go_wp2_with fail
        have kc := gcell wr
        refine region_below (by kernel_rfl) (by kernel_rfl) ?_
        repeat (go_big_quiet_step (exact Ret.grown (fun W hW => (cB W (after hb hW)).mono fun _ _ h => h.ret)))
        refine wpQuiet_nil ?_
        intro w2 hb2
        replace hown := own_below hown hb2
        replace hb := after hb hb2
        clear kc hb2 k1 cB
        go_wp2_with (at_builtin; refine held ?_)
        unfold Held
        refine wpList_want (by rfl) ?_
        intro KK hKK
        refine int_append _ _ rfl w.heap.size _ _ xs [z] rfl rfl (hown.alloc _) (intRow_one _ _ _) (by simp; omega) (by have := hb.size; simp; omega) ?_
        intro v5 w5 own5 hg5
        have hb5 : Below w.heap.size w w5 := (allocB hb).grown hg5 (by have := hb.size; simp; omega) (own_row hown)
        refine hKK _ _ ?_
        clear hKK hg5
        go_wp2
        go_roundw
        case rel => exact ⟨k + 1, 1, xs ++ [z], rfl, rfl, by omega, HT.out, own5, hb5⟩
        case measure => simp [intOf]; omega
      · rw [if_neg hneg, if_neg hneg] at HT
        have e8 : decide ((s : Int) - (t : Int) - (cc : Int) < 0) = false := decide_eq_false (by omega)
        obtain ⟨z, hz⟩ : ∃ z, s - (t + cc) = z := ⟨_, rfl⟩
        rw [hz] at HT
        have ew4 : (s : Int) - (t : Int) - (cc : Int) = (z : Int) := by omega
        rw [ew4] at ew2 e8
        clear hneg
        go_wp2_with fail
        have kc := gcell wr
        refine region_below (by kernel_rfl) (by kernel_rfl) ?_
        repeat (go_big_quiet_step (exact Ret.grown (fun W hW => (cB W (after hb hW)).mono fun _ _ h => h.ret)))
        refine wpQuiet_nil ?_
        intro w2 hb2
        replace hown := own_below hown hb2
        replace hb := after hb hb2
        clear kc hb2 k1 cB
        go_wp2_with (at_builtin; refine held ?_)
        unfold Held
        refine wpList_want (by rfl) ?_
        intro KK hKK
        refine int_append _ _ rfl w.heap.size _ _ xs [z] rfl rfl (hown.alloc _) (intRow_one _ _ _) (by simp; omega) (by have := hb.size; simp; omega) ?_
        intro v5 w5 own5 hg5
        have hb5 : Below w.heap.size w w5 := (allocB hb).grown hg5 (by have := hb.size; simp; omega) (own_row hown)
        refine hKK _ _ ?_
        clear hKK hg5
        go_wp2
        go_roundw
        case rel => exact ⟨k + 1, 0, xs ++ [z], rfl, rfl, by omega, HT.out, own5, hb5⟩
        case measure => simp [intOf]; omega
    · have hd := HI.out.done (by omega)
      have cT := trim_any xs (by omega) _ _ (intRow_of_own hown)
      rw [hd] at cT
      clear HI HT cB hd
      go_wp2_with fail
      refine cT.mono ?_; rintro e w1 ⟨v1, rfl, h1, hb1⟩
      have hb2 := after hb hb1
      go_wp2
      go_ret
      exact ⟨_, rfl, h1, hb2⟩

end Go.Proofs.YtgnejohiagagmaaGreatDoor

namespace Go.Proofs.YtgnejohiagagmaaGreatDoor
open Go.RowKit Tab

set_option maxRecDepth 100000 in
set_option maxHeartbeats 4000000 in
theorem ten_any (x : Nat) (hx : (dgN x).length ≤ 1000) (m : Int) (n : Nat) (hm : m.toNat = n) (hn : n ≤ 1000) (hm0 : -1000 ≤ m) (v : Value) (w : World) (hL : IntRow w v (dgN x)) : Calls Tryz.prog 186 #[v, .int .i64 m] w (RetRow (dgN (x * 10 ^ n)) w) := by
  by_cases h0 : x = 0
  · subst h0
    rw [Nat.zero_mul]
    rw [dgN_zero] at hL ⊢
    obtain ⟨p, c, rfl, hA⟩ := hL
    go_enter Tryz.func186, Tryz.ntmps186
    go_wp2
    go_ret
    exact ⟨_, rfl, IntRow.nil _, Below.refl _ _⟩
  · obtain ⟨iT, hi, hz0, hz1, hz2⟩ := info_parts infoI
    rw [← ten_dgN x n h0]
    have hne : (dgN x).length ≠ 0 := by rw [dgN_pos h0]; simp
    generalize dgN x = L at *
    have hL' := hL
    obtain ⟨p, c, rfl, hA⟩ := hL
    have e0 : ((L.length : Int) == 0) = false := by rw [beq_eq_false_iff_ne]; omega
    clear hA h0
    rcases (show m = (n : Int) ∨ (m < 0 ∧ n = 0) by omega) with rfl | ⟨hneg, hn0⟩
    rotate_left
    replace hn0 := Lib.hid hn0
    all_goals (
      go_enter Tryz.func186, Tryz.ntmps186
      go_wp2_with (at_make; refine held ?_)
      unfold Held
      refine wpList_make_full _ rfl _ _ 64 rfl w.heap.size 3 iT (.int .i64 0) 1 Tryz.underlying64 hi hz0 hz1 .i64 .i64 _ _ n rfl rfl (by first | rfl | (have := hn0.out; omega)) (by first | rfl | (have := hn0.out; omega)) (by rw [hz2]; omega) (by unfold maxLen; omega) (Nat.le_refl _) ?_
      intro w1 own1 hg1
      have hb1 : Below w.heap.size w w1 := (Below.refl _ _).grown hg1 (Nat.le_refl _) (fun k hk => by cases hk)
      go_wp2_with (at_builtin; refine held ?_)
      unfold Held
      refine wpList_want (by rfl) ?_
      intro KK hKK
      refine int_append _ _ rfl w.heap.size _ _ (List.replicate n 0) L rfl rfl (own_zeros own1) (hL'.below hb1) (by simp; omega) hb1.size ?_
      intro v5 w5 own5 hg5
      have hb5 : Below w.heap.size w w5 := hb1.grown hg5 hb1.size (own_row own1)
      refine hKK _ _ ?_
      clear hKK hg5
      go_wp2
      go_ret
      exact ⟨_, rfl, intRow_of_own own5, hb5⟩)
end Go.Proofs.YtgnejohiagagmaaGreatDoor
