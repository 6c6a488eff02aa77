/- A law on regions that draw their order: an operation that takes a tuple apart may be forced ahead of another one. No program in sight. -/
import Derived.Test.YtmeiboajpbflcaaGreatDoorMadeAll
import Derived.Control
namespace Tab
open Go Go.RowKit

/-- one edge more: k waits for j. -/
def addEdge : Nat → Nat → List Oper → List Oper
  | _, _, [] => []
  | 0, j, o :: l => { o with after := o.after.push ⟨j, .phase⟩ } :: l
  | k + 1, j, o :: l => o :: addEdge k j l
theorem addEdge_len : ∀ (k j : Nat) (l : List Oper), (addEdge k j l).length = l.length
  | 0, _, [] => rfl
  | _ + 1, _, [] => rfl
  | 0, _, _ :: _ => rfl
  | k + 1, j, _ :: l => congrArg (· + 1) (addEdge_len k j l)
theorem addEdge_ne : ∀ (k j : Nat) (l : List Oper) (i : Nat), i ≠ k → (addEdge k j l)[i]? = l[i]?
  | 0, _, [], _, _ => rfl
  | _ + 1, _, [], _, _ => rfl
  | 0, _, _ :: _, 0, h => absurd rfl h
  | 0, _, _ :: _, _ + 1, _ => rfl
  | _ + 1, _, _ :: _, 0, _ => rfl
  | k + 1, j, _ :: l, i + 1, h => addEdge_ne k j l i (fun e => h (by rw [e]))
theorem addEdge_at : ∀ (k j : Nat) (l : List Oper), (addEdge k j l)[k]? = (l[k]?).map fun o => { o with after := o.after.push ⟨j, .phase⟩ }
  | 0, _, [] => rfl
  | _ + 1, _, [] => rfl
  | 0, _, _ :: _ => rfl
  | k + 1, j, _ :: l => addEdge_at k j l

/-- for which does an operation wait? -/
def waitsOn (ok : Oper) (n : Nat) : Array Bool := ((List.range n).map fun i => ok.after.any fun e => Region.binds .any e && e.on == i).toArray
/-- may j be forced ahead of k? j takes a tuple apart, is not guarded; k waits for all that j waits for; and whatever does not wait for j is apart from it. -/
def edgeB (l : List Oper) (k j : Nat) : Bool :=
  match l[k]?, l[j]? with
  | some ok, some oj => (match oj.op with | .extract _ _ => true | _ => false) && oj.guard.isNone && (j != k) && Region.noSelect l.toArray &&
      (oj.after.all fun e => !Region.binds .any e || ok.after.any fun e' => Region.binds .any e' && e'.on == e.on) &&
      Region.free .any l.toArray (waitsOn ok l.length) j
  | _, _ => false

section
variable {P : Program}
theorem extract_any {oj : Oper} {x : Operand} {n : Nat} (hop : oj.op = .extract x n) (ρ : Operand → Value) : (∃ u, ∀ w, (execOp ρ oj).run P w = .ok (.value u) w) ∨ (∀ w, ∃ why, (execOp ρ oj).run P w = .halt (.stuck why) w) := by
  have e : execOp ρ oj = (do pure (Next.value (← Go.Instr.extract (ρ x) n))) := by unfold execOp; rw [hop]
  rw [e]
  unfold Go.Instr.extract
  cases hv : ρ x with
  | tuple vs =>
    cases hn : vs[n]? with
    | some v => exact .inl ⟨v, fun w => by simp [go_sem, hn]⟩
    | none => exact .inr fun w => ⟨_, by simp [go_sem, hn]; rfl⟩
  | _ => exact .inr fun w => ⟨_, by simp [go_sem]; rfl⟩

/-- the exits of a region that ends, and does nothing else. -/
def Ends (K : Act → World → Prop) : Exit → Act → World → Prop := Exit.then K fun _ _ _ => False
theorem ready_edge {md : Region.Mode} {ops ops' : Array Oper} {k : Nat} (hne : ∀ i, i ≠ k → ops'[i]? = ops[i]?) {done : Array Bool} {i : Nat} (hi : i ≠ k) : i ∈ Region.ready md ops' done ↔ i ∈ Region.ready md ops done := by
  rw [mem_ready, mem_ready, hne i hi]

theorem any_edge {K : Act → World → Prop} {ops ops' : Array Oper} {k j : Nat} {ok oj : Oper} {x : Operand} {n : Nat} (hk : ops[k]? = some ok) (hj : ops[j]? = some oj) (hop : oj.op = .extract x n) (hg : oj.guard = none) (hjk : j ≠ k)
    (hne : ∀ i, i ≠ k → ops'[i]? = ops[i]?) (hat : ops'[k]? = some { ok with after := ok.after.push ⟨j, .phase⟩ })
    (hsel : ∀ (j : Nat) (o : Oper) cs b, ops[j]? = some o → o.op ≠ .select cs b)
    (hw : ∀ e ∈ oj.after, Region.binds .any e = true → ∃ e' ∈ ok.after, Region.binds .any e' = true ∧ e'.on = e.on)
    (hfree : ∀ i oi, ops[i]? = some oi → i ≠ j → (∀ e ∈ ok.after, Region.binds .any e = true → e.on ≠ i) → (∀ e ∈ oi.after, Region.binds .any e = true → e.on ≠ j) → oj.apart ops oi = true) :
    ∀ (fuel : Nat) (done : Array Bool) (a : Act) (w : World), done.size = ops.size → wpAny P .any ops' (Ends K) fuel done a w → wpAny P .any ops (Ends K) fuel done a w := by
  have hdst : ∀ i : Nat, (ops'[i]?).bind (·.dst) = (ops[i]?).bind (·.dst) := fun i => by
    by_cases e : i = k
    · rw [e, hat, hk]; rfl
    · rw [hne i e]
  have hy : yielded ops' = yielded ops := by
    funext t i
    unfold yielded
    rw [hdst i]
  have hkr : ∀ done : Array Bool, k ∈ Region.ready .any ops' done ↔ (k ∈ Region.ready .any ops done ∧ done.getD j false = true) := fun done => by
    rw [mem_ready, mem_ready, hat, hk]
    constructor
    · rintro ⟨h0, o, ho, hall⟩
      injection ho with ho; subst ho
      exact ⟨⟨h0, ok, rfl, fun e he hb => hall e (Array.mem_push.2 (.inl he)) hb⟩, hall ⟨j, .phase⟩ (Array.mem_push.2 (.inr rfl)) rfl⟩
    · rintro ⟨⟨h0, o, ho, hall⟩, hjd⟩
      injection ho with ho; subst ho
      refine ⟨h0, _, rfl, fun e he hb => ?_⟩
      rcases Array.mem_push.1 he with he | he
      · exact hall e he hb
      · rw [he]; exact hjd
  have hjr : ∀ done : Array Bool, done.size = ops.size → k ∈ Region.ready .any ops done → done.getD j false = false → j ∈ Region.ready .any ops done := fun done hs hkd hjd => by
    rw [mem_ready] at hkd ⊢
    obtain ⟨_, o, ho, hall⟩ := hkd
    rw [hk] at ho; injection ho with ho; subst ho
    have hlt : j < done.size := by rw [hs]; exact (Array.getElem?_eq_some_iff.1 hj).1
    refine ⟨by simp [hlt] at hjd ⊢; exact hjd, oj, hj, fun e he hb => ?_⟩
    obtain ⟨e', he', hb', eon⟩ := hw e he hb
    rw [← eon]; exact hall e' he' hb'
  have hop' : ∀ (i : Nat) (K1 : Act → World → Prop) (a : Act) (w : World), wpOp P ops' (Ends K) i K1 a w → wpOp P ops (Ends K) i K1 a w := fun i K1 a w h => by
    unfold wpOp at *
    by_cases e : i = k
    · rw [e, hat] at h
      rw [e, hk]
      dsimp only at h ⊢
      rw [hy] at h
      exact h
    · rw [hne i e, hy] at h
      exact h
  intro fuel
  induction fuel with
  | zero =>
    intro done a w hs h
    refine ⟨?_, h.2⟩
    rw [List.eq_nil_iff_forall_not_mem]
    intro i hi
    have h0 := List.eq_nil_iff_forall_not_mem.1 h.1
    by_cases e : i = k
    · subst e
      cases hjd : done.getD j false
      · exact h0 j ((ready_edge hne hjk).2 (hjr done hs hi hjd))
      · exact h0 i ((hkr done).2 ⟨hi, hjd⟩)
    · exact h0 i ((ready_edge hne e).2 hi)
  | succ fuel ih =>
    intro done a w hs h
    by_cases hc : k ∈ Region.ready .any ops done ∧ done.getD j false = false
    · -- j first
      have hjm := hjr done hs hc.1 hc.2
      have h1 := h.2 j ((ready_edge hne hjk).2 hjm)
      have h2 := hop' j _ a w h1
      unfold wpOp at h2
      rw [hj] at h2
      dsimp only at h2
      have hwant : Region.wanted oj (yielded ops a.tmps) = true := by unfold Region.wanted; rw [hg]
      rw [if_pos hwant] at h2
      rcases h2 with h2 | ⟨_, a', w', h2⟩
      · rcases extract_any (P := P) hop a.eval with ⟨u, hu⟩ | hu
        · unfold Oper.wp at h2
          rw [hu w] at h2
          have h3 : wpAny P .any ops' (Ends K) fuel (done.setIfInBounds j true) (a.put oj.dst u) w := h2
          refine wpAny_first hj hsel (fun c a w hh => hh.elim) fuel done a w (fun i oi hi hij hun hno => hfree i oi hi hij (fun e he hb heq => by
            obtain ⟨_, o, ho, hall⟩ := mem_ready.1 hc.1
            rw [hk] at ho; injection ho with ho; subst ho
            have := hall e he hb
            rw [heq, getD_both hun] at this
            cases this) hno) hjm (.inl ⟨hwant, hu⟩) (ih _ _ _ (by simpa using hs) h3)
        · obtain ⟨why, e⟩ := hu w
          unfold Oper.wp at h2
          rw [e] at h2
          exact h2.elim
      · exact h2.elim
    · have hsame : ∀ i, i ∈ Region.ready .any ops done → i ∈ Region.ready .any ops' done := fun i hi => by
        by_cases e : i = k
        · subst e
          refine (hkr done).2 ⟨hi, ?_⟩
          cases hjd : done.getD j false
          · exact absurd ⟨hi, hjd⟩ hc
          · rfl
        · exact (ready_edge hne e).2 hi
      have hsame' : ∀ i, i ∈ Region.ready .any ops' done → i ∈ Region.ready .any ops done := fun i hi => by
        by_cases e : i = k
        · subst e; exact ((hkr done).1 hi).1
        · exact (ready_edge hne e).1 hi
      refine ⟨fun h0 => h.1 (List.eq_nil_iff_forall_not_mem.2 fun i hi => ?_), fun i hi => ?_⟩
      · have := hsame' i hi; rw [h0] at this; cases this
      · exact wpOp_mono (fun a' w' h' => ih _ _ _ (by simpa using hs) h') (hop' i _ a w (h.2 i (hsame i hi)))

theorem region_made_edge {id : Nat} {K : Act → World → Prop} {Q' : Exit → Act → World → Prop} {a : Act} {w : World} {l : List Oper} (n k j : Nat) (hm : P.follows .mixedOrders = true) (hE : edgeB l k j = true) (hB : Region.lexTailB .any (addEdge k j l).toArray n = true)
    (h : ∀ β, wpM P .any (addEdge k j l).toArray w β (fun a' X => ∀ w', Laid w X w' → wpList P (addEdge k j l).toArray (Ends K) ((addEdge k j l).drop n) a' w') ((addEdge k j l).take n) 0 a (fun _ => none)) : (Code.region id l.toArray true).wp P (Exit.then K Q') a w := by
  have A : wpAny P .any (addEdge k j l).toArray (Ends K) l.toArray.size (Array.replicate l.toArray.size false) a { w with drawn := w.drawn + 1 } := by
    have hlen := addEdge_len k j l
    generalize addEdge k j l = l' at *
    simp only [Region.lexTailB, Bool.and_eq_true, decide_eq_true_eq] at hB
    obtain ⟨⟨⟨⟨nosel, hn⟩, hs⟩, hc⟩, hlex⟩ := hB
    have hnl : n < l'.length := by simpa using hn
    have e1 : (l'.take n).length = n := by rw [List.length_take]; omega
    have e2 : (l'.drop n).length = l'.toArray.size - n := by simp
    have start : HeadInv .any l'.toArray n (Array.replicate l'.toArray.size false) :=
      ⟨by simp, fun j _ _ hl => absurd hl (by rw [getD_replicate_false]; exact Bool.false_ne_true), fun t _ ht => getD_in (by simpa using ht) (getD_replicate_false _ _)⟩
    have H : ∀ β, HeadM P .any l'.toArray w β n (fun d b Y => Region.seqB .any l'.toArray (l'.toArray.size - n) n d = true ∧ ∀ w', Laid w Y w' → wpList P l'.toArray (Ends K) (l'.drop n) b w') (l'.take n).length (Array.replicate l'.toArray.size false) a (fun _ => none) := fun β =>
      HeadM.lex nosel hs hc hn (l'.take n) 0 _ a _ (fun j hj => by rw [e1] at hj; simp [hj]) (by simpa using e1) start (by rw [e1]; exact hlex) (h β)
    have A := HeadM.any (R := Ends K) (g := l'.toArray.size - n) (L := fun _ d b Y => Region.seqB .any l'.toArray (l'.toArray.size - n) n d = true ∧ ∀ w', Laid w Y w' → wpList P l'.toArray (Ends K) (l'.drop n) b w') (Nat.le_of_lt hn)
      (fun β d b Y w' st hd => by
        obtain ⟨h1, h2⟩ := hd β (fun _ _ => rfl)
        have := wpAny_of_seq (md := .any) (Q' := Ends K) (l'.drop n) n d b w' (fun j => by simp [List.getElem?_drop]) (by rw [e2]; exact h1) (h2 w' ⟨st.below, fun k b O hx => ⟨(st.lies k b O hx).2.2.1, (st.lies k b O hx).2.2.2⟩, st.apart⟩)
        rwa [e2] at this) _ (fun _ => 0) _ a (fun _ => none) { w with drawn := w.drawn + 1 } (by simp) ⟨(Below.refl _ _).drew, fun k b O hx => by simp at hx, fun k k' b O O' hx => by simp at hx⟩ (fun β' _ => H β')
    rw [e1, show n + (l'.toArray.size - n) = l'.toArray.size from by omega] at A
    rw [show l.toArray.size = l'.toArray.size from by simp [hlen]]
    exact A
  have B : wpAny P .any l.toArray (Ends K) l.toArray.size (Array.replicate l.toArray.size false) a { w with drawn := w.drawn + 1 } := by
    unfold edgeB at hE
    cases hk : l[k]? with
    | none => rw [hk] at hE; cases hE
    | some ok =>
      cases hj : l[j]? with
      | none => rw [hk, hj] at hE; cases hE
      | some oj =>
        rw [hk, hj] at hE
        simp only [Bool.and_eq_true] at hE
        obtain ⟨⟨⟨⟨⟨h1, h2⟩, h3⟩, h4⟩, h5⟩, h6⟩ := hE
        obtain ⟨x, m, hop⟩ : ∃ x m, oj.op = .extract x m := by
          revert h1
          cases oj.op <;> intro h1 <;> first | exact ⟨_, _, rfl⟩ | cases h1
        refine any_edge (ops' := (addEdge k j l).toArray) (k := k) (j := j) (ok := ok) (oj := oj) (by simpa using hk) (by simpa using hj) hop (Option.isNone_iff_eq_none.1 h2) (by simpa using h3) (fun i hi => by simpa using addEdge_ne k j l i hi)
          (by have := addEdge_at k j l; rw [hk] at this; simpa using this) (Region.noSelect_spec h4) ?_ (fun i oi hi hij hkw hno => Region.free_spec (by simpa using hj) h6 i oi hi hij ?_ hno) _ _ _ _ (by simp) A
        · intro e he hb
          have := Array.all_eq_true_iff_forall_mem.1 h5 e he
          rw [hb] at this
          simp only [Bool.not_true, Bool.false_or] at this
          obtain ⟨e', he', hh⟩ := Array.any_eq_true'.1 this
          simp only [Bool.and_eq_true, beq_iff_eq] at hh
          exact ⟨e', he', hh.1, hh.2⟩
        · have hil : i < l.length := by
            have := (Array.getElem?_eq_some_iff.1 hi).1
            simpa using this
          cases hx : (waitsOn ok l.length).getD i true
          · rfl
          · exfalso
            unfold waitsOn at hx
            simp [hil] at hx
            obtain ⟨m, hm, h7, h8⟩ := hx
            exact hkw _ (Array.getElem_mem hm) h7 h8
  refine wp_mono (wp_region_any hm B) ?_
  intro e a' w' hq
  cases e with
  | normal => exact hq
  | _ => exact hq.elim
end
end Tab
