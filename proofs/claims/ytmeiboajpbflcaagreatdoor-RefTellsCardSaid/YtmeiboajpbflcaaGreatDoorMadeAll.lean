/- A law on regions that draw their order and make memory: no operation is left to a tail. No program in sight. -/
import Derived.Test.YtmeiboajpbflcaaGreatDoorMade
namespace Tab
open Go Go.RowKit

section
variable {P : Program} {ops : Array Oper} {md : Region.Mode} {w0 : World} {β : Nat → Nat}
theorem HeadM.earlyF {i : Nat} {o : Oper} {y : Yd} {L : Array Bool → Act → XT → Prop} (ho : ops[i]? = some o) (nosel : ∀ (j : Nat) (x : Oper) cs b, ops[j]? = some x → x.op ≠ .select cs b)
    (hL : ∀ done a X, L done a X → ∀ j ∈ Region.ready md ops done, ops.size ≤ j) :
    ∀ (f : Nat) (done : Array Bool) (a : Act) (X : XT), 
      (∀ j x, ops[j]? = some x → j ≠ i → done.getD j true = false → (∀ e ∈ x.after, Region.binds md e = true → e.on ≠ i) → o.apart ops x = true) →
      i ∈ Region.ready md ops done → YM P md ops w0 o y a X → HeadM P md ops w0 β ops.size L f (done.setIfInBounds i true) (a.put o.dst (y.out (β i))) (y.lay i (β i) X) → HeadM P md ops w0 β ops.size L (f + 1) done a X := by
  intro f
  induction f with
  | zero =>
    intro done a X _ hr hy H
    have hun := (mem_ready.1 hr).1
    refine ⟨List.ne_nil_of_mem hr, fun j hj => ?_⟩
    have hjn : j < ops.size := by obtain ⟨_, x, hx, _⟩ := mem_ready.1 hj; exact (Array.getElem?_eq_some_iff.1 hx).1
    refine ⟨hjn, ?_⟩
    by_cases e : j = i
    · cases e; exact hy.op ho H
    · exact absurd (hL _ _ _ H j (ready_mono hj e)) (by omega)
  | succ f ih =>
    intro done a X free hr hy H
    obtain ⟨hun, o', ho', hall'⟩ := mem_ready.1 hr
    have eo : o' = o := Option.some.inj (ho'.symm.trans ho)
    subst eo
    refine ⟨List.ne_nil_of_mem hr, fun j hj => ?_⟩
    have hjn : j < ops.size := by obtain ⟨_, x, hx, _⟩ := mem_ready.1 hj; exact (Array.getElem?_eq_some_iff.1 hx).1
    refine ⟨hjn, ?_⟩
    by_cases e : j = i
    · cases e; exact hy.op ho H
    obtain ⟨hju, x, hx, hall⟩ := mem_ready.1 hj
    have waits : ∀ e ∈ x.after, Region.binds md e = true → e.on ≠ i := by
      intro e he hb heq
      have := hall e he hb
      rw [heq, getD_both hun] at this
      cases this
    have waits' : ∀ e ∈ o'.after, Region.binds md e = true → e.on ≠ j := by
      intro e he hb heq
      have := hall' e he hb
      rw [heq, getD_both hju] at this
      cases this
    have moved := mOp.put (Ne.symm e) hx (free j x hx e hju waits) (fun cs b => nosel i o' cs b ho) (fun cs b => nosel j x cs b hx) waits' waits hy (H.2 j (ready_mono hj e)).2
    refine mOp.mono (fun a' X' k => ?_) moved
    refine ih _ a' X' (fun m y' hm hmi hmu hw => ?_) (ready_mono hr (Ne.symm e)) k.1 ?_
    · refine free m y' hm hmi ?_ hw
      by_cases hjm : j = m
      · cases hjm; exact hju
      · rwa [getD_set_ne true hjm] at hmu
    · rw [Array.setIfInBounds_comm _ _ e]; exact k.2

theorem HeadM.lexF {K : Act → XT → Prop} (nosel : Region.noSelect ops = true) :
    ∀ (l : List Oper) (k : Nat) (done : Array Bool) (a : Act) (X : XT), (∀ j, j < l.length → l[j]? = ops[k + j]?) → k + l.length = ops.size →
      Region.lexHead md ops 0 l.length k done = true → wpM P md ops w0 β K l k a X → HeadM P md ops w0 β ops.size (fun d b Y => Region.seqB md ops 0 ops.size d = true ∧ K b Y) l.length done a X := by
  intro l
  induction l with
  | nil =>
    intro k done a X _ hk hB h
    have e : k = ops.size := by simpa using hk
    rw [e] at hB
    exact ⟨by simpa [Region.lexHead] using hB, h⟩
  | cons o l ih =>
    intro k done a X hl hk hB h
    have ho : ops[k]? = some o := by have := hl 0 (by simp); simpa using this.symm
    simp only [List.length_cons, Region.lexHead, Bool.and_eq_true] at hB
    simp only [List.length_cons] at hk
    have hr : k ∈ Region.ready md ops done := by simpa using hB.1.1
    have hq : mOp P md ops w0 β k (wpM P md ops w0 β K l (k + 1)) a X := by unfold mOp; rw [ho]; exact h
    obtain ⟨y, hy, hK⟩ := YM.of_op ho hq
    refine HeadM.earlyF ho (Region.noSelect_spec nosel) (fun d b Y hd => seqB_ready hd.1) l.length done a X (Region.free_spec ho hB.1.2) hr hy ?_
    refine ih (k + 1) _ _ _ (fun j hj => ?_) (by omega) hB.2 hK
    have := hl (j + 1) (by simp; omega)
    rw [List.getElem?_cons_succ] at this
    rw [this]; congr 1; omega


def lexAllB (md : Region.Mode) (ops : Array Oper) : Bool := Region.noSelect ops && Region.lexHead md ops 0 ops.size 0 (Array.replicate ops.size false)
/-- The law. -/
theorem region_made {id : Nat} {Q : Exit → Act → World → Prop} {a : Act} {w : World} {l : List Oper} (hm : P.follows .mixedOrders = true) (hB : lexAllB .any l.toArray = true)
    (h : ∀ β, wpM P .any l.toArray w β (fun a' X => ∀ w', Laid w X w' → Q .normal a' w') l 0 a (fun _ => none)) : (Code.region id l.toArray true).wp P Q a w := by
  simp only [lexAllB, Bool.and_eq_true] at hB
  obtain ⟨nosel, hlex⟩ := hB
  have e1 : l.toArray.size = l.length := by simp
  have H : ∀ β, HeadM P .any l.toArray w β l.toArray.size (fun d b Y => Region.seqB .any l.toArray 0 l.toArray.size d = true ∧ ∀ w', Laid w Y w' → Q .normal b w') l.length (Array.replicate l.toArray.size false) a (fun _ => none) := fun β =>
    HeadM.lexF nosel l 0 _ a _ (fun j hj => by simp) (by simp) (by rw [← e1]; exact hlex) (h β)
  have A := HeadM.any (R := Q) (g := 0) (n := l.toArray.size) (L := fun _ d b Y => Region.seqB .any l.toArray 0 l.toArray.size d = true ∧ ∀ w', Laid w Y w' → Q .normal b w') (Nat.le_refl _)
    (fun β d b Y w' st hd => by
      obtain ⟨h1, h2⟩ := hd β (fun _ _ => rfl)
      exact wpAny_of_seq (md := .any) (Q' := Q) [] l.toArray.size d b w' (fun j => by simp) h1 (h2 w' ⟨st.below, fun k b O hx => ⟨(st.lies k b O hx).2.2.1, (st.lies k b O hx).2.2.2⟩, st.apart⟩)) l.length (fun _ => 0) _ a (fun _ => none) { w with drawn := w.drawn + 1 } (by simp) ⟨(Below.refl _ _).drew, fun k b O hx => by simp at hx, fun k k' b O O' hx => by simp at hx⟩ (fun β' _ => H β')
  rw [Nat.add_zero] at A
  have A' : wpAny P .any l.toArray Q l.toArray.size (Array.replicate l.toArray.size false) a { w with drawn := w.drawn + 1 } := by rw [e1]; rw [e1] at A; exact A
  exact wp_region_any hm A'
end
end Tab
