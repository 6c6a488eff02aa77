import Derived.Test.YtlpgigdegnbkmaaGreatDoorM14
import Derived.Test.YtlpgigdegnbkmaaGreatDoorM13
import Derived.Test.YtlpgigdegnbkmaaGreatDoorM27
namespace Go.Proofs.YtlpgigdegnbkmaaGreatDoor
open Go.RowKit Tab Tryz
theorem ccall_any (w0 : World) (hg : Good w0) (f : Nat) (ihT : TreeK 23 w0 f) (ihE : EachK w0 f) : WriteK 43 12 w0 f := by
 intro p h b a kc K c n cs w hw hc hb hk hn hkind hwt hsm
 cases hf : findN K n.text with
 | some g => exact call_known w0 hg f ihE g p h b a kc K c n cs w hw hc hb hk hn hkind hwt hsm hf
 | none =>
  by_cases hU : ¬ (upperD n.text = [73, 70]) \/ n.kids.length < 2 \/ 3 < n.kids.length
  ·exact call_plain w0 hg f ihE p h b a kc K c n cs w hw hc hb hk hn hkind hwt hsm ⟨hf, hU⟩
  ·have hI : upperD n.text = [73, 70] := Decidable.byContradiction fun e => hU (.inl e)
   by_cases h2 : n.kids.length = 2
   ·exact call_if2 w0 hg f ihT p h b a kc K c n cs w hw hc hb hk hn hkind hwt hsm ⟨hf, hI, h2⟩
   ·exact call_if3 w0 hg f ihT p h b a kc K c n cs w hw hc hb hk hn hkind hwt hsm ⟨hf, hI, by omega⟩
theorem ctree_any (w0 : World) (f : Nat) (ihE : EachK w0 f) (h12 : WriteK 43 12 w0 f) (h16 : WriteK 44 16 w0 f) (h14 : WriteK 45 14 w0 f) (h15 : WriteK 46 15 w0 f) (h7 : WriteK 47 7 w0 f) : TreeK 23 w0 (f + 1) := by
 intro p h b a kc K c n cs w hw hc hb hk hn hwt hsm
 obtain ⟨k, hkk⟩ : ∃ k, n.kind = k := ⟨_, rfl⟩
 have hr : 1 <= k /\ k <= 16 := by
  obtain ⟨_, _, _, _, ok, _⟩ := hn
  rw [<- hkk]; exact ok.kind
 have go : ∀ k, WriteK 23 k w0 f -> n.kind = k -> Calls prog 23 #[blkV p b a K.length kc, .agg cs.toArray] w (Did w0.heap.size p h (comp (f + 1) c b K [] n) w) :=
  fun k H e => H p h b a kc K c n cs w hw hc hb hk hn e hwt hsm
 have : k = 1 \/ k = 2 \/ k = 3 \/ k = 4 \/ k = 5 \/ k = 6 \/ k = 7 \/ k = 8 \/ k = 9 \/ k = 10 \/ k = 11 \/ k = 12 \/ k = 13 \/ k = 14 \/ k = 15 \/ k = 16 := by omega
 rcases this with e | e | e | e | e | e | e | e | e | e | e | e | e | e | e | e <;> subst e
 ·exact go 1 (tree_1 w0 f ihE) hkk
 ·exact go 2 (tree_2 w0 f ihE) hkk
 ·exact go 3 (tree_3 w0 f ihE) hkk
 ·exact go 4 (tree_4 w0 f ihE) hkk
 ·exact go 5 (tree_5 w0 f ihE) hkk
 ·exact go 6 (tree_6 w0 f ihE) hkk
 ·exact go 7 (tree_7 w0 f h7) hkk
 ·exact go 8 (tree_8 w0 f ihE) hkk
 ·exact go 9 (tree_9 w0 f ihE) hkk
 ·exact go 10 (tree_10 w0 f ihE) hkk
 ·exact go 11 (tree_11 w0 f ihE) hkk
 ·exact go 12 (tree_12 w0 f h12) hkk
 ·exact go 13 (tree_13 w0 f ihE) hkk
 ·exact go 14 (tree_14 w0 f h14) hkk
 ·exact go 15 (tree_15 w0 f h15) hkk
 ·exact go 16 (tree_16 w0 f h16) hkk
theorem ctree_all (w0 : World) (hg : Good w0) (hF : ∀ f, TreeK 23 w0 f -> FunK w0 (f + 1)) (hL : ∀ f, TreeK 23 w0 f -> FunK w0 f -> WriteK 44 16 w0 f) : ∀ f, TreeK 23 w0 f /\ FunK w0 f
 | 0 => ⟨fun _ _ _ _ _ _ _ _ _ _ _ _ _ _ hn => hn.elim, fun _ _ _ _ _ _ _ _ _ _ _ _ _ _ _ hn => hn.elim⟩
 | f + 1 => by
  obtain ⟨hT, hFf⟩ := ctree_all w0 hg hF hL f
  have hE := each_any w0 f hT
  have hF1 := hF f hT
  exact ⟨ctree_any w0 f hE (ccall_any w0 hg f hT hE) (hL f hT hFf) (clambda_any w0 f hF1) (capply_any w0 hg f hE) (cname_any w0 hg f), hF1⟩
end Go.Proofs.YtlpgigdegnbkmaaGreatDoor
namespace Tab
open Go
theorem names_count (s : Bs) : (namesD s).length <= Lib.count s [44] + 1 := by
 unfold namesD
 split
 ·exact Nat.zero_le _
 ·have h := splitB_names ⟨s.toArray⟩
  have h2 := congrArg List.length h
  rw [List.length_map] at h2
  have h3 := Lib.splitB_length_le ⟨#[44]⟩ 0 (Lib.countB ⟨s.toArray⟩ ⟨#[44]⟩) ⟨s.toArray⟩
  rw [h2] at h3
  exact h3
theorem fold_some (f : Nat) : ∀ (l : List NodeD) (p q : Nat × Nat), l.foldl (stepS f) (some p) = some q -> ∀ k ∈ l, ∃ r, sizeD f k = some r
 | [], _, _, _, k, hk => by cases hk
 | x :: l, p, q, h, k, hk => by
  rw [List.foldl_cons] at h
  cases hx : sizeD f x with
  | none =>
   have e : stepS f (some p) x = none := by unfold stepS; rw [hx]
   rw [e, stepS_none] at h; cases h
  | some r =>
   rcases List.mem_cons.1 hk with rfl | hk
   ·exact ⟨r, hx⟩
   ·have e : stepS f (some p) x = some (max p.1 r.1, p.2 + r.2) := by unfold stepS; rw [hx]
    rw [e] at h
    exact fold_some f l _ _ h k hk
theorem size_parts {f : Nat} {n : NodeD} {q : Nat × Nat} (h : sizeD (f + 1) n = some q) : bareD n = true /\ kidsD n = true /\ ∀ k ∈ n.kids, ∃ r, sizeD f k = some r := by
 rw [sizeD_is] at h
 split at h
 ·rename_i hb
  rw [Bool.and_eq_true] at hb
  obtain ⟨p, hp, _⟩ := Option.map_eq_some_iff.1 h
  exact ⟨hb.1, hb.2, fold_some f _ _ _ hp⟩
 ·cases h
theorem bare_kind {n : NodeD} (h : bareD n = true) : 1 <= n.kind /\ n.kind <= 16 := by
 unfold bareD at h
 split at h
 ·cases h
 ·omega
theorem bare_is {n : NodeD} (h : bareD n = true) : isKindD n = true /\ sameN n (wantN n) = true := by
 unfold bareD at h
 split at h
 ·cases h
 ·rwa [Bool.and_eq_true] at h
theorem bare_upper {n : NodeD} (h : bareD n = true) (hk : n.kind = 12) : upperD n.text = n.text /\ callND n.text = true := by
 have h1 := (bare_is h).1
 unfold isKindD at h1
 simp only [hk] at h1
 have h2 : (callND n.text && ((upperD n.text == n.text) && (!(n.text == [76, 65, 77, 66, 68, 65]) && !(n.text == [76, 69, 84])))) = true := h1
 rw [Bool.and_eq_true, Bool.and_eq_true, beq_iff_eq] at h2
 exact ⟨h2.2.1, h2.1⟩
theorem right_sized {n : NodeD} (h : rightT n = true) : ∃ q, sizeD 24 n = some q := by
 unfold rightT at h
 split at h
 ·rename_i d m e; exact ⟨_, e⟩
 ·cases h
end Tab
namespace Go.Proofs.YtlpgigdegnbkmaaGreatDoor
open Go.RowKit Tab Tryz
theorem node_ok {n : NodeD} (hs : NodeSm n) (hb : bareD n = true) (hk : kidsD n = true) : NodeOk n where
 kind := bare_kind hb
 text := hs.text
 kids := hs.kids
 rows := fun h => ⟨bare_rows hb h, hs.rows⟩
 body := fun h => by
  unfold kidsD at hk
  rw [h] at hk
  have h1 : decide (n.kids.length = 1) = true := hk
  have := of_decide_eq_true h1
  omega
 lets := fun h => by
  unfold kidsD at hk
  rw [h] at hk
  have h1 : decide ((n.kids.length : Int) = Lib.count n.text [44] + 2) = true := hk
  have h2 := of_decide_eq_true h1
  have := names_count n.text
  omega
theorem node_of {w : World} : ∀ {f : Nat} {cs : List Value} {n : NodeD} {q : Nat × Nat}, NodeAt f w cs n -> sizeD f n = some q -> NodeIs f w cs n
 | 0, _, _, _, h, _ => h.elim
 | f + 1, cs, n, q, h, hq => by
  obtain ⟨a, c, h1, h2, h3, hk⟩ := h
  obtain ⟨s1, s2, s3⟩ := size_parts hq
  refine ⟨a, c, h1, h2, node_ok h3 s1 s2, hk.imp id ?_⟩
  rintro ⟨b, o, e1, e2, e3⟩
  refine ⟨b, o, e1, e2, fun i k hi => ?_⟩
  obtain ⟨cs', r1, r2⟩ := e3 i k hi
  obtain ⟨r, hr⟩ := s3 k (List.mem_of_getElem? hi)
  exact ⟨cs', r1, node_of r2 hr⟩
def NodeFine (w : World) (n : NodeD) : Prop := ∃ f cs q, NodeAt f w cs n /\ sizeD f n = some q
theorem NodeFine.sm {w : World} {n : NodeD} (h : NodeFine w n) : NodeSm n /\ bareD n = true /\ kidsD n = true := by
 obtain ⟨f, cs, q, h1, h2⟩ := h
 cases f with
 | zero => exact h1.elim
 | succ f =>
  obtain ⟨a, c, _, _, h3, _⟩ := h1
  obtain ⟨s1, s2, _⟩ := size_parts h2
  exact ⟨h3, s1, s2⟩
theorem NodeFine.kid {w : World} {n : NodeD} (h : NodeFine w n) : ∀ k ∈ n.kids, NodeFine w k := by
 obtain ⟨f, cs, q, h1, h2⟩ := h
 intro k hm
 cases f with
 | zero => exact h1.elim
 | succ f =>
  obtain ⟨a, c, _, _, _, hk⟩ := h1
  obtain ⟨_, _, s3⟩ := size_parts h2
  obtain ⟨i, hi⟩ := List.mem_iff_getElem?.1 hm
  rcases hk with hk | ⟨b, o, _, _, hk⟩
  ·rw [hk] at hm; cases hm
  ·obtain ⟨cs', _, hr⟩ := hk i k hi
   obtain ⟨r, hrr⟩ := s3 k hm
   exact ⟨f, cs', r, hr, hrr⟩
theorem zero_far : (RefD.zero).s.size <= 9223372036854775807 := by decide
theorem zero_two : (RefD.zero).s.size <= 9223372036854775807 /\ (RefD.zero).s.size <= 9223372036854775807 := ⟨zero_far, zero_far⟩
theorem leaf_sm {n : NodeD} (h : NodeSm n) : InsSm (leafI n) := by
 have z : ∀ (op a b : Int), InsSm { op := op, a := a, b := b } := fun op a b => ⟨by simp, by simp, zero_two⟩
 have t : ∀ (op : Int), InsSm { op := op, s := n.text } := fun op => ⟨by simp, Nat.le_trans h.text (by decide), zero_two⟩
 have d : InsSm { op := 1, m := n.m, e := n.e } := ⟨h.dec, by simp, zero_two⟩
 have r5 : InsSm { op := 5, ref := n.ref } := ⟨by simp, by simp, h.refs.1, zero_far⟩
 have r6 : InsSm { op := 6, ref := n.ref, far := n.far } := ⟨by simp, by simp, h.refs⟩
 unfold leafI
 repeat' split
 all_goals first | exact d | exact t _ | exact z _ _ _ | exact r5 | exact r6
theorem ins_rules (w : World) : Rules InsSm (fun g => g.length <= 1000) (fun p => p.length <= 900000) (NodeFine w) where
 ab := fun x a b h => ⟨h.dec, h.text, h.refs⟩
 leaf := fun n h => leaf_sm h.sm.1
 odd := fun op a b _ => ⟨by simp, by simp, zero_two⟩
 call := fun n a h hk => ⟨by simp, by
  rw [(bare_upper h.sm.2.1 hk).1]; exact Nat.le_trans h.sm.1.text (by decide), zero_two⟩
 get := fun g h => ⟨by simp, Nat.le_trans h (by decide), zero_two⟩
 keep := fun g h => ⟨by simp, Nat.le_trans h (by decide), zero_two⟩
 func := fun L own a hw hL ho => ⟨by simp, by
  have h1 := joinN_len L
  split
  ·exact Nat.le_trans h1 (Nat.le_trans hw (by decide))
  ·rename_i hne
   have := (ho.resolve_left hne).2
   simp; omega, zero_two⟩
 names := fun n h _ x hx => few_names (Nat.le_trans h.sm.1.text (by decide)) x hx |> fun _ => by
  unfold namesD at hx
  split at hx
  ·cases hx
  ·exact Nat.le_trans ((splitD_len n.text).2 x hx) h.sm.1.text
 par := fun n h _ => Nat.le_trans h.sm.1.text (by decide)
 sub := fun n h => h.kid
 text := fun n h => h.sm.1.text
theorem code_small {n : NodeD} (h : rightT n = true) : SmallC (codeOf n) := by
 have hw := right_small h
 refine ⟨?_, fun b => ?_⟩
 ·unfold Tab.wC at hw; omega
 ·have := wC_block (codeOf n) b; omega
theorem code_sm {w : World} {n : NodeD} (hn : NodeFine w n) (h : rightT n = true) : CodeSm (codeOf n) := by
 have hw := right_small h
 have hr := code_rules (ins_rules w) n hn (by simp)
 have ho := once_comp 24 n
 refine ⟨(code_small h).1, fun l hl => ⟨?_, hr.1 l hl⟩, ?_, hr.2⟩
 ·obtain ⟨b, hb⟩ := List.mem_iff_getElem?.1 hl
  have := (code_small h).2 b
  rw [List.getD_eq_getElem?_getD, hb] at this
  exact this
 ·have := ho.par
  rw [show (comp 24 bareC 0 [] [] n) = codeOf n from rfl] at this
  rw [this]; exact (code_small h).1
end Go.Proofs.YtlpgigdegnbkmaaGreatDoor
