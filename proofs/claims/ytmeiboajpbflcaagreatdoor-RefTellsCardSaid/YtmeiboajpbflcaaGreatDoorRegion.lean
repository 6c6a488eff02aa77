/- A law on regions that draw their order: the operations at their head read, or call what leaves a world of a class (what was there is as it was), in whatever order; the others follow them in one order alone, in whatever world of the class. No program in sight. -/
import Derived.StillTail
import Derived.Deep.Quiet
import Derived.Lib.QuietBelow
namespace Tab
open Go Go.RowKit

section
variable {P : Program} {ops : Array Oper} {md : Region.Mode} {C : World → Prop}

/-- so many operations of the head are still to come up, in whatever order; then L. -/
def HeadQ (P : Program) (md : Region.Mode) (ops : Array Oper) (C : World → Prop) (n : Nat) (L : Array Bool → Act → Prop) : Nat → Array Bool → Act → Prop
  | 0, done, a => L done a
  | f + 1, done, a => Region.ready md ops done ≠ [] ∧ ∀ i ∈ Region.ready md ops done, i < n ∧ qOp P ops C i (HeadQ P md ops C n L f (done.setIfInBounds i true)) a

theorem HeadQ.any {n g : Nat} {L : Array Bool → Act → Prop} {R : Exit → Act → World → Prop} (hL : ∀ done a w, C w → L done a → wpAny P md ops R g done a w) :
    ∀ (f : Nat) (done : Array Bool) (a : Act) (w : World), C w → HeadQ P md ops C n L f done a → wpAny P md ops R (f + g) done a w := by
  intro f
  induction f with
  | zero => intro done a w hw h; rw [Nat.zero_add]; exact hL _ _ _ hw h
  | succ f ih =>
    intro done a w hw h
    rw [Nat.add_right_comm]
    refine ⟨fun e => absurd e h.1, fun i hi => ?_⟩
    exact wpOp_of_qOp hw (fun a' w' hw' h' => ih _ a' w' hw' h') (h.2 i hi).2

theorem HeadQ.early {n i : Nat} {o : Oper} {v : Value} {L : Array Bool → Act → Prop} (ho : ops[i]? = some o) (nosel : ∀ (j : Nat) (x : Oper) cs b, ops[j]? = some x → x.op ≠ .select cs b)
    (hs : Region.sinkB md ops n = true) (hc : Region.chainB md ops n = true) (hn : n < ops.size) (hin : i < n) (hL : ∀ done a, L done a → ∀ j ∈ Region.ready md ops done, n ≤ j) :
    ∀ (f : Nat) (done : Array Bool) (a : Act), HeadInv md ops n done →
      (∀ j x, ops[j]? = some x → j ≠ i → done.getD j true = false → (∀ e ∈ x.after, Region.binds md e = true → e.on ≠ i) → o.apart ops x = true) →
      i ∈ Region.ready md ops done → YieldsIn P ops C o v a → HeadQ P md ops C n L f (done.setIfInBounds i true) (a.put o.dst v) → HeadQ P md ops C n L (f + 1) done a := by
  intro f
  induction f with
  | zero =>
    intro done a inv _ hr hy H
    have hun := (mem_ready.1 hr).1
    refine ⟨List.ne_nil_of_mem hr, fun j hj => ?_⟩
    have hjn : j < n := Nat.lt_of_not_le fun h => tail_waits hs hc hn inv _ i rfl hin hun j h hj
    refine ⟨hjn, ?_⟩
    by_cases e : j = i
    · cases e; exact hy.qOp ho H
    · exact absurd (hL _ _ H j (ready_mono hj e)) (by omega)
  | succ f ih =>
    intro done a inv free hr hy H
    have hun := (mem_ready.1 hr).1
    refine ⟨List.ne_nil_of_mem hr, fun j hj => ?_⟩
    have hjn : j < n := Nat.lt_of_not_le fun h => tail_waits hs hc hn inv _ i rfl hin hun j h hj
    refine ⟨hjn, ?_⟩
    by_cases e : j = i
    · cases e; exact hy.qOp ho H
    obtain ⟨hju, x, hx, hall⟩ := mem_ready.1 hj
    have waits : ∀ e ∈ x.after, Region.binds md e = true → e.on ≠ i := by
      intro e he hb heq
      have := hall e he hb
      rw [heq, getD_both hun] at this
      cases this
    have moved := qOp_put hx (free j x hx e hju waits) (fun cs b => nosel i o cs b ho) (fun cs b => nosel j x cs b hx) hy (H.2 j (ready_mono hj e)).2
    refine qOp_mono (fun a' k => ?_) moved
    refine ih _ a' (inv.set hj hjn) (fun m y hm hmi hmu hw => ?_) (ready_mono hr (Ne.symm e)) k.1 ?_
    · refine free m y hm hmi ?_ hw
      by_cases hjm : j = m
      · cases hjm; exact hju
      · rwa [getD_set_ne true hjm] at hmu
    · rw [Array.setIfInBounds_comm _ _ e]; exact k.2

theorem HeadQ.lex {n g : Nat} {K : Act → Prop} (nosel : Region.noSelect ops = true) (hs : Region.sinkB md ops n = true) (hc : Region.chainB md ops n = true) (hn : n < ops.size) :
    ∀ (l : List Oper) (k : Nat) (done : Array Bool) (a : Act), (∀ j, j < l.length → l[j]? = ops[k + j]?) → k + l.length = n → HeadInv md ops n done →
      Region.lexHead md ops g l.length k done = true → wpQuiet P ops C K l a → HeadQ P md ops C n (fun d b => Region.seqB md ops g n d = true ∧ K b) l.length done a := by
  intro l
  induction l with
  | nil =>
    intro k done a _ hk _ hB h
    have e : k = n := by simpa using hk
    rw [e] at hB
    exact ⟨by simpa [Region.lexHead] using hB, h⟩
  | cons o l ih =>
    intro k done a hl hk inv hB h
    have ho : ops[k]? = some o := by have := hl 0 (by simp); simpa using this.symm
    simp only [List.length_cons, Region.lexHead, Bool.and_eq_true] at hB
    simp only [List.length_cons] at hk
    have hr : k ∈ Region.ready md ops done := by simpa using hB.1.1
    have hq : qOp P ops C k (wpQuiet P ops C K l) a := by unfold qOp; simp only [ho]; exact h
    obtain ⟨v, hy, hK⟩ := yieldsIn_of_qOp ho hq
    refine HeadQ.early ho (Region.noSelect_spec nosel) hs hc hn (by omega) (fun d b hd => seqB_ready hd.1) l.length done a inv (Region.free_spec ho hB.1.2) hr hy ?_
    refine ih (k + 1) _ _ (fun j hj => ?_) (by omega) (inv.set hr (by omega)) hB.2 hK
    have := hl (j + 1) (by simp; omega)
    rw [List.getElem?_cons_succ] at this
    rw [this]; congr 1; omega

/-- **The law.** -/
theorem region_head_tail {id : Nat} {Q : Exit → Act → World → Prop} {a : Act} {w : World} {l : List Oper} (n : Nat) (hm : P.follows .mixedOrders = true) (hB : Region.lexTailB .any l.toArray n = true)
    (hC : C { w with drawn := w.drawn + 1 }) (h : wpQuiet P l.toArray C (fun a' => ∀ w', C w' → wpList P l.toArray Q (l.drop n) a' w') (l.take n) a) : (Code.region id l.toArray true).wp P Q a w := by
  simp only [Region.lexTailB, Bool.and_eq_true, decide_eq_true_eq] at hB
  obtain ⟨⟨⟨⟨nosel, hn⟩, hs⟩, hc⟩, hlex⟩ := hB
  have hnl : n < l.length := by simpa using hn
  have e1 : (l.take n).length = n := by rw [List.length_take]; omega
  have e2 : (l.drop n).length = l.toArray.size - n := by simp
  have start : HeadInv .any l.toArray n (Array.replicate l.toArray.size false) :=
    ⟨by simp, fun j _ _ hl => absurd hl (by rw [getD_replicate_false]; exact Bool.false_ne_true), fun t _ ht => getD_in (by simpa using ht) (getD_replicate_false _ _)⟩
  have H := HeadQ.lex (md := .any) (C := C) (g := l.toArray.size - n) nosel hs hc hn (l.take n) 0 _ a
    (fun j hj => by rw [e1] at hj; simp [hj]) (by simpa using e1) start (by rw [e1]; exact hlex) h
  have A := HeadQ.any (R := Q) (g := l.toArray.size - n) (fun d b w' hw' hd => by
    have := wpAny_of_seq (md := .any) (Q' := Q) (l.drop n) n d b w' (fun j => by simp [List.getElem?_drop]) (by rw [e2]; exact hd.1) (hd.2 w' hw')
    rwa [e2] at this) _ _ _ _ hC H
  rw [e1, show n + (l.toArray.size - n) = l.toArray.size from by omega] at A
  exact wp_region_any hm A

/-- At the class of the worlds in which all that was there is as it was. -/
theorem region_below_tail {id : Nat} {Q : Exit → Act → World → Prop} {a : Act} {w : World} {l : List Oper} (n : Nat) (hm : P.follows .mixedOrders = true) (hB : Region.lexTailB .any l.toArray n = true)
    (h : wpQuiet P l.toArray (fun w' => ∃ p : Regrown, w' = Sort.grow (redrawn w p.d) p.os) (fun a' => ∀ w', Below w.heap.size w w' → wpList P l.toArray Q (l.drop n) a' w') (l.take n) a) : (Code.region id l.toArray true).wp P Q a w := by
  refine region_head_tail (C := fun w' => ∃ p : Regrown, w' = Sort.grow (redrawn w p.d) p.os) n hm hB ⟨⟨w.drawn + 1, #[]⟩, by rw [Sort.grow_empty]; rfl⟩ ?_
  have : (fun a' => ∀ w', Below w.heap.size w w' → wpList P l.toArray Q (l.drop n) a' w') = (fun a' => ∀ w', (∃ p : Regrown, w' = Sort.grow (redrawn w p.d) p.os) → wpList P l.toArray Q (l.drop n) a' w') := by
    funext a'
    apply propext
    constructor
    · rintro h w' ⟨p, rfl⟩; exact h _ (below_regrown w p.d p.os)
    · intro h w' hb; exact h w' (regrown_of_below hb)
  rw [this] at h
  exact h
/-- .. where nothing follows the head. -/
theorem region_below {id : Nat} {Q : Exit → Act → World → Prop} {a : Act} {w : World} {l : List Oper} (hm : P.follows .mixedOrders = true) (hB : Region.lexB .any l.toArray = true)
    (h : wpQuiet P l.toArray (fun w' => ∃ p : Regrown, w' = Sort.grow (redrawn w p.d) p.os) (fun a' => ∀ w', Below w.heap.size w w' → Q .normal a' w') l a) : (Code.region id l.toArray true).wp P Q a w := by
  refine wp_region_quiet_below hm hB ?_
  have : (fun a' => ∀ w', Below w.heap.size w w' → Q .normal a' w') = (fun a' => ∀ w', (∃ p : Regrown, w' = Sort.grow (redrawn w p.d) p.os) → Q .normal a' w') := by
    funext a'
    apply propext
    constructor
    · rintro h w' ⟨p, rfl⟩; exact h _ (below_regrown w p.d p.os)
    · intro h w' hb; exact h w' (regrown_of_below hb)
  rw [this] at h
  exact h
end
end Tab
