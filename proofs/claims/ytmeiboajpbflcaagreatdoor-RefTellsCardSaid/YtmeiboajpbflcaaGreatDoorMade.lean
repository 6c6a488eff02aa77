/- A law on regions that draw their order: their head's operations read, call what leaves all that was there as it was, or lay one new block; in whatever order; the others follow them in one order alone. No program in sight. -/
import Derived.Test.YtmeiboajpbflcaaGreatDoorRegion
import Derived.Eval
import Derived.Barred
namespace Tab
open Go Go.RowKit

/-- Two contracts on one call tell one value. -/
theorem same_value {P : Program} {f : FuncId} {args : Array Value} {w : World} {v v' : Value} {A B : World → Prop}
    (h : Calls P f args w fun e w' => e = .returned v ∧ A w') (h' : Calls P f args w fun e w' => e = .returned v' ∧ B w') (hi : P.inits.idxOf? f = none) : v = v' := by
  obtain ⟨n, u, w1, _, _, e1, r1⟩ := Calls.done_lone (R := fun x _ => x = v) (h.mono fun e w' ⟨he, _⟩ => by rw [he]) hi
  obtain ⟨m, u', w2, _, _, e2, r2⟩ := Calls.done_lone (R := fun x _ => x = v') (h'.mono fun e w' ⟨he, _⟩ => by rw [he]) hi
  have a := runN_ended e1 (m + 1)
  have b := runN_ended e2 (n + 1)
  rw [Nat.add_comm, a] at b
  injection b with ho _
  injection ho with hv
  rw [← r1, ← r2, hv]

/-- the new blocks of a region: which operation has laid which block, and what it holds. -/
abbrev XT := Nat → Option (Nat × Obj)
def XT.set (X : XT) (k b : Nat) (O : Obj) : XT := fun i => if i = k then some (b, O) else X i
/-- what an operation yields: a value, or a value that hangs on the block that it lays. -/
structure Yd where
  val : Nat → Value
  obj : Option Obj
def Yd.out (y : Yd) (b : Nat) : Value := match y.obj with | none => y.val 0 | some _ => y.val b
def Yd.lay (y : Yd) (k b : Nat) (X : XT) : XT := match y.obj with | none => X | some O => X.set k b O
/-- the call of a function that leaves all that was there as it was. -/
def GCall (P : Program) (f : FuncId) (args : Array Value) (w : World) (v : Value) : Prop :=
  P.inits.idxOf? f = none ∧ Calls P f args w fun e w'' => e = .returned v ∧ Below w.heap.size w w''
def mUpon (P : Program) (w : World) (y : Yd) : Result Next → Prop
  | .ok (.value u) w' => match y.obj with | none => w' = w ∧ u = y.val 0 | some O => w' = w.alloc O ∧ u = y.val w.heap.size
  | .ok .skip w' => w' = w ∧ y.obj = none ∧ y.val 0 = undef
  | .ok (.enter f args) w' => w' = w ∧ y.obj = none ∧ GCall P f args w (y.val 0)
  | _ => False

section
variable {P : Program} {ops : Array Oper} {md : Region.Mode} {w0 : World} {β : Nat → Nat}

/-- the worlds in which an operation may be carried out: all that was there is as it was; the blocks that it waits for lie. -/
def In (md : Region.Mode) (w0 : World) (o : Oper) (X : XT) (w : World) : Prop :=
  Below w0.heap.size w0 w ∧ ∀ e ∈ o.after, Region.binds md e = true → ∀ b O, X e.on = some (b, O) → w.heap[b]? = some O
def mYields (P : Program) (md : Region.Mode) (w0 : World) (o : Oper) (a : Act) (X : XT) (y : Yd) : Prop := ∀ w, In md w0 o X w → mUpon P w y ((execOp a.eval o).run P w)
def mOp (P : Program) (md : Region.Mode) (ops : Array Oper) (w0 : World) (β : Nat → Nat) (i : Nat) (K : Act → XT → Prop) (a : Act) (X : XT) : Prop :=
  match ops[i]? with
  | none => K a X
  | some o => if Region.wanted o (yielded ops a.tmps) then ∃ y, mYields P md w0 o a X y ∧ K (a.put o.dst (y.out (β i))) (y.lay i (β i) X) else K (a.put o.dst undef) X
/-- the lexical walk. -/
def wpM (P : Program) (md : Region.Mode) (ops : Array Oper) (w0 : World) (β : Nat → Nat) (Q : Act → XT → Prop) : List Oper → Nat → Act → XT → Prop
  | [], _, a, X => Q a X
  | o :: rest, k, a, X => if Region.wanted o (yielded ops a.tmps) then ∃ y, mYields P md w0 o a X y ∧ wpM P md ops w0 β Q rest (k + 1) (a.put o.dst (y.out (β k))) (y.lay k (β k) X)
      else wpM P md ops w0 β Q rest (k + 1) (a.put o.dst undef) X
def HeadM (P : Program) (md : Region.Mode) (ops : Array Oper) (w0 : World) (β : Nat → Nat) (n : Nat) (L : Array Bool → Act → XT → Prop) : Nat → Array Bool → Act → XT → Prop
  | 0, done, a, X => L done a X
  | f + 1, done, a, X => Region.ready md ops done ≠ [] ∧ ∀ i ∈ Region.ready md ops done, i < n ∧ mOp P md ops w0 β i (HeadM P md ops w0 β n L f (done.setIfInBounds i true)) a X

theorem mOp.mono {i : Nat} {a : Act} {X : XT} {K K' : Act → XT → Prop} (h : ∀ a X, K a X → K' a X) (hh : mOp P md ops w0 β i K a X) : mOp P md ops w0 β i K' a X := by
  unfold mOp at *
  split
  · rename_i e; rw [e] at hh; exact h _ _ hh
  · rename_i o e
    rw [e] at hh
    dsimp only at hh
    split
    · rename_i hw; rw [if_pos hw] at hh; obtain ⟨y, h1, h2⟩ := hh; exact ⟨y, h1, h _ _ h2⟩
    · rename_i hw; rw [if_neg hw] at hh; exact h _ _ hh

/-- in this state an operation yields y. -/
def YM (P : Program) (md : Region.Mode) (ops : Array Oper) (w0 : World) (o : Oper) (y : Yd) (a : Act) (X : XT) : Prop :=
  (Region.wanted o (yielded ops a.tmps) = true ∧ mYields P md w0 o a X y) ∨ (Region.wanted o (yielded ops a.tmps) = false ∧ y = ⟨fun _ => undef, none⟩)

theorem YM.op {i : Nat} {o : Oper} {y : Yd} {a : Act} {X : XT} {K : Act → XT → Prop} (ho : ops[i]? = some o) (hy : YM P md ops w0 o y a X) (h : K (a.put o.dst (y.out (β i))) (y.lay i (β i) X)) : mOp P md ops w0 β i K a X := by
  unfold mOp
  rw [ho]
  dsimp only
  rcases hy with ⟨hw, hm⟩ | ⟨hw, e⟩
  · rw [if_pos hw]; exact ⟨y, hm, h⟩
  · rw [if_neg (by rw [hw]; exact Bool.false_ne_true)]; rw [e] at h; exact h
theorem YM.of_op {i : Nat} {o : Oper} {a : Act} {X : XT} {K : Act → XT → Prop} (ho : ops[i]? = some o) (h : mOp P md ops w0 β i K a X) : ∃ y, YM P md ops w0 o y a X ∧ K (a.put o.dst (y.out (β i))) (y.lay i (β i) X) := by
  unfold mOp at h
  rw [ho] at h
  dsimp only at h
  by_cases hw : Region.wanted o (yielded ops a.tmps) = true
  · rw [if_pos hw] at h; obtain ⟨y, h1, h2⟩ := h; exact ⟨y, .inl ⟨hw, h1⟩, h2⟩
  · rw [if_neg hw] at h; exact ⟨⟨fun _ => undef, none⟩, .inr ⟨by simpa using hw, rfl⟩, h⟩
theorem YM.moved {o : Oper} {y : Yd} {a a' : Act} {X X' : XT} (hy : YM P md ops w0 o y a X) (he : execOp a'.eval o = execOp a.eval o) (hw : Region.wanted o (yielded ops a'.tmps) = Region.wanted o (yielded ops a.tmps))
    (hX : ∀ e ∈ o.after, Region.binds md e = true → X' e.on = X e.on) : YM P md ops w0 o y a' X' := by
  unfold YM mYields at *
  rw [he, hw]
  refine hy.imp (fun ⟨h1, h2⟩ => ⟨h1, fun w hin => h2 w ⟨hin.1, fun e hm hb b O hx => hin.2 e hm hb b O (by rw [hX e hm hb]; exact hx)⟩⟩) id

theorem lay_other (y : Yd) {k b j : Nat} (X : XT) (h : j ≠ k) : y.lay k b X j = X j := by
  obtain ⟨v, o⟩ := y
  cases o with
  | none => rfl
  | some O => show (if j = k then _ else X j) = X j; rw [if_neg h]
theorem lay_comm (y z : Yd) {i j b c : Nat} (X : XT) (h : i ≠ j) : z.lay j c (y.lay i b X) = y.lay i b (z.lay j c X) := by
  obtain ⟨v, o⟩ := y
  obtain ⟨u, p⟩ := z
  cases o <;> cases p <;> first | rfl | skip
  funext k
  show (if k = j then _ else if k = i then _ else X k) = (if k = i then _ else if k = j then _ else X k)
  by_cases hk : k = j
  · rw [if_pos hk, if_neg (fun e => h (e.symm.trans hk)), if_pos hk]
  · rw [if_neg hk, if_neg hk]

theorem mOp.put {i j : Nat} {o x : Oper} {y : Yd} {b : Nat} (hij : i ≠ j) (hx : ops[j]? = some x) (hap : o.apart ops x = true) (ho : ∀ cs b, o.op ≠ .select cs b) (hxs : ∀ cs b, x.op ≠ .select cs b)
    (wi : ∀ e ∈ o.after, Region.binds md e = true → e.on ≠ j) (wj : ∀ e ∈ x.after, Region.binds md e = true → e.on ≠ i) {K : Act → XT → Prop} {a : Act} {X : XT}
    (hy : YM P md ops w0 o y a X) (h : mOp P md ops w0 β j K (a.put o.dst (y.out b)) (y.lay i b X)) :
    mOp P md ops w0 β j (fun a' X' => YM P md ops w0 o y a' X' ∧ K (a'.put o.dst (y.out b)) (y.lay i b X')) a X := by
  obtain ⟨h1, h2, h3⟩ := Oper.apart_spec hap
  obtain ⟨z, hz, hK⟩ := YM.of_op hx h
  have hz' : YM P md ops w0 x z a X := hz.moved (execOp_put x hxs a o.dst _ h1).symm (wanted_put x a o.dst _ h1).symm (fun e he hb => (lay_other y X (wj e he hb)).symm)
  refine hz'.op hx ⟨?_, ?_⟩
  · exact hy.moved (execOp_put o ho a x.dst _ h3) (wanted_put o a x.dst _ h3) (fun e he hb => lay_other z X (wi e he hb))
  · rw [← Act.put_comm a _ _ h2, ← lay_comm y z X hij]; exact hK

theorem HeadM.early {n i : Nat} {o : Oper} {y : Yd} {L : Array Bool → Act → XT → Prop} (ho : ops[i]? = some o) (nosel : ∀ (j : Nat) (x : Oper) cs b, ops[j]? = some x → x.op ≠ .select cs b)
    (hs : Region.sinkB md ops n = true) (hc : Region.chainB md ops n = true) (hn : n < ops.size) (hin : i < n) (hL : ∀ done a X, L done a X → ∀ j ∈ Region.ready md ops done, n ≤ j) :
    ∀ (f : Nat) (done : Array Bool) (a : Act) (X : XT), HeadInv md ops n done →
      (∀ j x, ops[j]? = some x → j ≠ i → done.getD j true = false → (∀ e ∈ x.after, Region.binds md e = true → e.on ≠ i) → o.apart ops x = true) →
      i ∈ Region.ready md ops done → YM P md ops w0 o y a X → HeadM P md ops w0 β n L f (done.setIfInBounds i true) (a.put o.dst (y.out (β i))) (y.lay i (β i) X) → HeadM P md ops w0 β n L (f + 1) done a X := by
  intro f
  induction f with
  | zero =>
    intro done a X inv _ hr hy H
    have hun := (mem_ready.1 hr).1
    refine ⟨List.ne_nil_of_mem hr, fun j hj => ?_⟩
    have hjn : j < n := Nat.lt_of_not_le fun h => tail_waits hs hc hn inv _ i rfl hin hun j h hj
    refine ⟨hjn, ?_⟩
    by_cases e : j = i
    · cases e; exact hy.op ho H
    · exact absurd (hL _ _ _ H j (ready_mono hj e)) (by omega)
  | succ f ih =>
    intro done a X inv free hr hy H
    obtain ⟨hun, o', ho', hall'⟩ := mem_ready.1 hr
    have eo : o' = o := Option.some.inj (ho'.symm.trans ho)
    subst eo
    refine ⟨List.ne_nil_of_mem hr, fun j hj => ?_⟩
    have hjn : j < n := Nat.lt_of_not_le fun h => tail_waits hs hc hn inv _ i rfl hin hun j h hj
    refine ⟨hjn, ?_⟩
    by_cases e : j = i
    · cases e; exact hy.op ho H
    obtain ⟨hju, x, hx, hall⟩ := mem_ready.1 hj
    have waits : ∀ e ∈ x.after, Region.binds md e = true → e.on ≠ i := by
      intro e he hb heq
      have := hall e he hb
      rw [heq, getD_both hun] at this
      cases this
    have waits' : ∀ e ∈ o'.after, Region.binds md e = true → e.on ≠ j := by
      intro e he hb heq
      have := hall' e he hb
      rw [heq, getD_both hju] at this
      cases this
    have moved := mOp.put (Ne.symm e) hx (free j x hx e hju waits) (fun cs b => nosel i o' cs b ho) (fun cs b => nosel j x cs b hx) waits' waits hy (H.2 j (ready_mono hj e)).2
    refine mOp.mono (fun a' X' k => ?_) moved
    refine ih _ a' X' (inv.set hj hjn) (fun m y' hm hmi hmu hw => ?_) (ready_mono hr (Ne.symm e)) k.1 ?_
    · refine free m y' hm hmi ?_ hw
      by_cases hjm : j = m
      · cases hjm; exact hju
      · rwa [getD_set_ne true hjm] at hmu
    · rw [Array.setIfInBounds_comm _ _ e]; exact k.2

theorem HeadM.lex {n g : Nat} {K : Act → XT → Prop} (nosel : Region.noSelect ops = true) (hs : Region.sinkB md ops n = true) (hc : Region.chainB md ops n = true) (hn : n < ops.size) :
    ∀ (l : List Oper) (k : Nat) (done : Array Bool) (a : Act) (X : XT), (∀ j, j < l.length → l[j]? = ops[k + j]?) → k + l.length = n → HeadInv md ops n done →
      Region.lexHead md ops g l.length k done = true → wpM P md ops w0 β K l k a X → HeadM P md ops w0 β n (fun d b Y => Region.seqB md ops g n d = true ∧ K b Y) l.length done a X := by
  intro l
  induction l with
  | nil =>
    intro k done a X _ hk _ hB h
    have e : k = n := by simpa using hk
    rw [e] at hB
    exact ⟨by simpa [Region.lexHead] using hB, h⟩
  | cons o l ih =>
    intro k done a X hl hk inv hB h
    have ho : ops[k]? = some o := by have := hl 0 (by simp); simpa using this.symm
    simp only [List.length_cons, Region.lexHead, Bool.and_eq_true] at hB
    simp only [List.length_cons] at hk
    have hr : k ∈ Region.ready md ops done := by simpa using hB.1.1
    have hq : mOp P md ops w0 β k (wpM P md ops w0 β K l (k + 1)) a X := by unfold mOp; rw [ho]; exact h
    obtain ⟨y, hy, hK⟩ := YM.of_op ho hq
    refine HeadM.early ho (Region.noSelect_spec nosel) hs hc hn (by omega) (fun d b Y hd => seqB_ready hd.1) l.length done a X inv (Region.free_spec ho hB.1.2) hr hy ?_
    refine ih (k + 1) _ _ _ (fun j hj => ?_) (by omega) (inv.set hr (by omega)) hB.2 hK
    have := hl (j + 1) (by simp; omega)
    rw [List.getElem?_cons_succ] at this
    rw [this]; congr 1; omega

/-- what is known of the world and the new blocks, when so much is done. -/
structure St (w0 : World) (β : Nat → Nat) (done : Array Bool) (X : XT) (w : World) : Prop where
  below : Below w0.heap.size w0 w
  lies : ∀ k b O, X k = some (b, O) → done.getD k false = true ∧ b = β k ∧ w0.heap.size ≤ b ∧ w.heap[b]? = some O
  apart : ∀ k k' b O O', X k = some (b, O) → X k' = some (b, O') → k = k'

theorem not_alloc {w : World} {O : Obj} (h : w = w.alloc O) : False := by
  have := congrArg (fun x : World => x.heap.size) h
  simp at this
theorem alloc_inj {w : World} {O O' : Obj} (h : w.alloc O = w.alloc O') : O = O' := by
  have : (w.heap.push O)[w.heap.size]? = (w.heap.push O')[w.heap.size]? := congrArg (fun x : World => x.heap[w.heap.size]?) h
  rw [Array.getElem?_push_size, Array.getElem?_push_size] at this
  exact Option.some.inj this

theorem HeadM.any {n g : Nat} {L : (Nat → Nat) → Array Bool → Act → XT → Prop} {R : Exit → Act → World → Prop} (hnn : n ≤ ops.size)
    (hL : ∀ β done a X w, St w0 β done X w → (∀ β', (∀ k, done.getD k false = true → β k = β' k) → L β' done a X) → wpAny P md ops R g done a w) :
    ∀ (f : Nat) (β : Nat → Nat) (done : Array Bool) (a : Act) (X : XT) (w : World), done.size = ops.size → St w0 β done X w →
      (∀ β', (∀ k, done.getD k false = true → β k = β' k) → HeadM P md ops w0 β' n (L β') f done a X) → wpAny P md ops R (f + g) done a w := by
  intro f
  induction f with
  | zero => intro β done a X w _ st h; rw [Nat.zero_add]; exact hL β _ _ X _ st h
  | succ f ih =>
    intro β done a X w hsz st h
    rw [Nat.add_right_comm]
    have h0 := h β (fun _ _ => rfl)
    refine ⟨fun e => absurd e h0.1, fun i hi => ?_⟩
    have hin := (h0.2 i hi).1
    obtain ⟨hun, o, ho, hall⟩ := mem_ready.1 hi
    have hund : done.getD i false = false := getD_both hun
    have ext : ∀ {β' β'' : Nat → Nat}, (∀ k, (done.setIfInBounds i true).getD k false = true → β' k = β'' k) → ∀ k, done.getD k false = true → β' k = β'' k := by
      intro β' β'' hb k hk; exact hb k (getD_set_true hk)
    have hseti : (done.setIfInBounds i true).getD i false = true := by
      have : i < done.size := by omega
      simp [this]
    have hsz' : (done.setIfInBounds i true).size = ops.size := by simp [hsz]
    unfold wpOp
    rw [ho]
    dsimp only
    by_cases hw : Region.wanted o (yielded ops a.tmps) = true
    · rw [if_pos hw]
      left
      -- the choice that this order makes
      let γ : Nat → Nat := fun k => if k = i then w.heap.size else β k
      have γdone : ∀ k, done.getD k false = true → β k = γ k := by
        intro k hk
        have : k ≠ i := by intro e; rw [e, hund] at hk; cases hk
        simp [γ, this]
      have γi : γ i = w.heap.size := by simp [γ]
      have look : ∀ β', (∀ k, done.getD k false = true → γ k = β' k) → ∃ y, mUpon P w y ((execOp a.eval o).run P w) ∧ HeadM P md ops w0 β' n (L β') f (done.setIfInBounds i true) (a.put o.dst (y.out (β' i))) (y.lay i (β' i) X) := by
        intro β' hb
        have hh := ((h β' (fun k hk => (γdone k hk).trans (hb k hk))).2 i hi).2
        unfold mOp at hh
        rw [ho] at hh
        dsimp only at hh
        rw [if_pos hw] at hh
        obtain ⟨y, h1, h2⟩ := hh
        exact ⟨y, h1 w ⟨st.below, fun e _ _ b O hx => (st.lies _ b O hx).2.2.2⟩, h2⟩
      have stay : ∀ w'', Below w.heap.size w w'' → St w0 γ (done.setIfInBounds i true) X w'' := by
        intro w'' hb
        refine ⟨st.below.trans (hb.mono st.below.size), fun k b O hx => ?_, st.apart⟩
        obtain ⟨l1, l2, l3, l4⟩ := st.lies k b O hx
        refine ⟨getD_set_true l1, l2.trans (γdone k l1), l3, ?_⟩
        have hlt : b < w.heap.size := by
          rcases Nat.lt_or_ge b w.heap.size with h' | h'
          · exact h'
          · rw [Array.getElem?_eq_none h'] at l4; cases l4
        rw [hb.block b hlt]; exact l4
      obtain ⟨y, hy, hH⟩ := look γ (fun _ _ => rfl)
      unfold Oper.wp
      generalize (execOp a.eval o).run P w = r at *
      cases r with
      | halt x w' => exact hy.elim
      | ok nx w' =>
       cases nx with
       | value u =>
        simp only [mUpon] at hy
        cases hobj : y.obj with
        | none =>
          simp only [hobj] at hy
          obtain ⟨e1, e2⟩ := hy
          subst e1
          rw [Oper.upon_value]
          refine ih γ _ _ X _ hsz' (stay _ (Below.refl _ _)) fun β' hb => ?_
          obtain ⟨y', hy', hH'⟩ := look β' (ext hb)
          simp only [mUpon] at hy'
          cases hobj' : y'.obj with
          | none =>
            simp only [hobj'] at hy'
            simp only [Yd.out, Yd.lay, hobj'] at hH'
            rw [hy'.2]; exact hH'
          | some O' => simp only [hobj'] at hy'; exact absurd hy'.1 (fun e => not_alloc e)
        | some O =>
          simp only [hobj] at hy
          obtain ⟨e1, e2⟩ := hy
          rw [e1, Oper.upon_value]
          refine ih γ _ _ (X.set i w.heap.size O) _ hsz' ⟨st.below.trans ((Below.refl _ _).alloc st.below.size _), fun k b O2 hx => ?_, fun k k' b O2 O3 hx hx' => ?_⟩ fun β' hb => ?_
          · by_cases hk : k = i
            · subst hk
              simp only [XT.set, if_pos] at hx
              injection hx with hx; injection hx with hx1 hx2
              subst hx1 hx2
              exact ⟨hseti, γi.symm, st.below.size, Array.getElem?_push_size⟩
            · simp only [XT.set, if_neg hk] at hx
              obtain ⟨l1, l2, l3, l4⟩ := (stay _ ((Below.refl _ _).alloc (Nat.le_refl _) O)).lies k b O2 hx
              exact ⟨l1, l2, l3, l4⟩
          · have old : ∀ {k b O2}, X k = some (b, O2) → b < w.heap.size := by
              intro k b O2 hx
              have l4 := (st.lies k b O2 hx).2.2.2
              rcases Nat.lt_or_ge b w.heap.size with h' | h'
              · exact h'
              · rw [Array.getElem?_eq_none h'] at l4; cases l4
            by_cases hk : k = i
            · by_cases hk' : k' = i
              · rw [hk, hk']
              · subst hk
                simp only [XT.set, if_pos] at hx
                simp only [XT.set, if_neg hk'] at hx'
                injection hx with hx; injection hx with hx1 hx2
                have := old hx'
                omega
            · by_cases hk' : k' = i
              · subst hk'
                simp only [XT.set, if_pos] at hx'
                simp only [XT.set, if_neg hk] at hx
                injection hx' with hx'; injection hx' with hx1 hx2
                have := old hx
                omega
              · simp only [XT.set, if_neg hk] at hx
                simp only [XT.set, if_neg hk'] at hx'
                exact st.apart _ _ _ _ _ hx hx'
          · obtain ⟨y', hy', hH'⟩ := look β' (ext hb)
            have hbi : β' i = w.heap.size := (hb i hseti).symm.trans γi
            simp only [mUpon] at hy'
            cases hobj' : y'.obj with
            | none => simp only [hobj'] at hy'; exact absurd (e1.symm.trans hy'.1).symm (fun e => not_alloc e)
            | some O' =>
              simp only [hobj'] at hy'
              have eO : O = O' := alloc_inj (e1.symm.trans hy'.1)
              simp only [Yd.out, Yd.lay, hobj', hbi] at hH'
              rw [hy'.2, eO]; exact hH'
       | skip =>
        simp only [mUpon] at hy
        obtain ⟨e1, e2, e3⟩ := hy
        subst e1
        rw [Oper.upon_skip]
        refine ih γ _ _ X _ hsz' (stay _ (Below.refl _ _)) fun β' hb => ?_
        obtain ⟨y', hy', hH'⟩ := look β' (ext hb)
        simp only [mUpon] at hy'
        simp only [Yd.out, Yd.lay, hy'.2.1, hy'.2.2] at hH'
        exact hH'
       | enter fn args =>
        simp only [mUpon] at hy
        obtain ⟨e1, e2, e3⟩ := hy
        subst e1
        rw [Oper.upon_enter]
        refine e3.2.mono fun e w'' ⟨he, hb⟩ => ?_
        subst he
        dsimp only
        refine ih γ _ _ X _ hsz' (stay _ hb) fun β' hb' => ?_
        obtain ⟨y', hy', hH'⟩ := look β' (ext hb')
        simp only [mUpon] at hy'
        simp only [Yd.out, Yd.lay, hy'.2.1] at hH'
        rw [same_value e3.2 hy'.2.2.2 e3.1]
        exact hH'
       | _ => exact hy.elim
    · rw [if_neg hw]
      refine ih β _ _ X _ hsz' ⟨st.below, fun k b O hx => ?_, st.apart⟩ fun β' hb => ?_
      · obtain ⟨l1, l2, l3, l4⟩ := st.lies k b O hx
        exact ⟨getD_set_true l1, l2, l3, l4⟩
      · have hh := ((h β' (ext hb)).2 i hi).2
        unfold mOp at hh
        rw [ho] at hh
        dsimp only at hh
        rw [if_neg hw] at hh
        exact hh

/-- What is known behind the head: all that was there is as it was; the new blocks lie, each apart from the others. -/
structure Laid (w : World) (X : XT) (w' : World) : Prop where
  below : Below w.heap.size w w'
  lies : ∀ k b O, X k = some (b, O) → w.heap.size ≤ b ∧ w'.heap[b]? = some O
  apart : ∀ k k' b O O', X k = some (b, O) → X k' = some (b, O') → k = k'

/-- **The law.** -/
theorem region_made_tail {id : Nat} {Q : Exit → Act → World → Prop} {a : Act} {w : World} {l : List Oper} (n : Nat) (hm : P.follows .mixedOrders = true) (hB : Region.lexTailB .any l.toArray n = true)
    (h : ∀ β, wpM P .any l.toArray w β (fun a' X => ∀ w', Laid w X w' → wpList P l.toArray Q (l.drop n) a' w') (l.take n) 0 a (fun _ => none)) : (Code.region id l.toArray true).wp P Q a w := by
  simp only [Region.lexTailB, Bool.and_eq_true, decide_eq_true_eq] at hB
  obtain ⟨⟨⟨⟨nosel, hn⟩, hs⟩, hc⟩, hlex⟩ := hB
  have hnl : n < l.length := by simpa using hn
  have e1 : (l.take n).length = n := by rw [List.length_take]; omega
  have e2 : (l.drop n).length = l.toArray.size - n := by simp
  have start : HeadInv .any l.toArray n (Array.replicate l.toArray.size false) :=
    ⟨by simp, fun j _ _ hl => absurd hl (by rw [getD_replicate_false]; exact Bool.false_ne_true), fun t _ ht => getD_in (by simpa using ht) (getD_replicate_false _ _)⟩
  have H : ∀ β, HeadM P .any l.toArray w β n (fun d b Y => Region.seqB .any l.toArray (l.toArray.size - n) n d = true ∧ ∀ w', Laid w Y w' → wpList P l.toArray Q (l.drop n) b w') (l.take n).length (Array.replicate l.toArray.size false) a (fun _ => none) := fun β =>
    HeadM.lex nosel hs hc hn (l.take n) 0 _ a _ (fun j hj => by rw [e1] at hj; simp [hj]) (by simpa using e1) start (by rw [e1]; exact hlex) (h β)
  have A := HeadM.any (R := Q) (g := l.toArray.size - n) (L := fun _ d b Y => Region.seqB .any l.toArray (l.toArray.size - n) n d = true ∧ ∀ w', Laid w Y w' → wpList P l.toArray Q (l.drop n) b w') (Nat.le_of_lt hn)
    (fun β d b Y w' st hd => by
      obtain ⟨h1, h2⟩ := hd β (fun _ _ => rfl)
      have := wpAny_of_seq (md := .any) (Q' := Q) (l.drop n) n d b w' (fun j => by simp [List.getElem?_drop]) (by rw [e2]; exact h1) (h2 w' ⟨st.below, fun k b O hx => ⟨(st.lies k b O hx).2.2.1, (st.lies k b O hx).2.2.2⟩, st.apart⟩)
      rwa [e2] at this) _ (fun _ => 0) _ a (fun _ => none) { w with drawn := w.drawn + 1 } (by simp) ⟨(Below.refl _ _).drew, fun k b O hx => by simp at hx, fun k k' b O O' hx => by simp at hx⟩ (fun β' _ => H β')
  rw [e1, show n + (l.toArray.size - n) = l.toArray.size from by omega] at A
  exact wp_region_any hm A

/-! Steps of the lexical walk. -/
def qmUpon (P : Program) (w : World) (v : Value) : Result Next → Prop
  | .ok (.value u) w' => w' = w ∧ u = v
  | .ok .skip w' => w' = w ∧ v = undef
  | .ok (.enter f args) w' => w' = w ∧ GCall P f args w v
  | _ => False
theorem qm_m {w : World} {v : Value} {r : Result Next} (h : qmUpon P w v r) : mUpon P w ⟨fun _ => v, none⟩ r := by
  cases r with
  | halt x w' => exact h.elim
  | ok nx w' =>
    cases nx with
    | value u => exact h
    | skip => exact ⟨h.1, rfl, h.2⟩
    | enter f args => exact ⟨h.1, rfl, h.2⟩
    | _ => exact h.elim
/-- in every world that is as it was but for new blocks and draws. -/
def qm (P : Program) (o : Oper) (a : Act) (w : World) (v : Value) : Prop := ∀ p : Regrown, qmUpon P (Sort.grow (redrawn w p.d) p.os) v ((execOp a.eval o).run P (Sort.grow (redrawn w p.d) p.os))
attribute [go_sem] qmUpon qm

variable {Q : Act → XT → Prop} {o : Oper} {rest : List Oper} {k : Nat} {a : Act} {X : XT} {w : World}
theorem wpM_nil (h : Q a X) : wpM P md ops w β Q [] k a X := h
theorem wpM_step (h : ∀ K : Act → Prop, (∀ a, wpM P md ops w β Q rest (k + 1) a X → K a) → if Region.wanted o (yielded ops a.tmps) then ∃ v, qm P o a w v ∧ K (a.put o.dst v) else K (a.put o.dst undef)) :
    wpM P md ops w β Q (o :: rest) k a X := by
  have hh := h _ (fun _ h => h)
  unfold wpM
  split
  · rename_i hw
    rw [if_pos hw] at hh
    obtain ⟨v, h1, h2⟩ := hh
    refine ⟨⟨fun _ => v, none⟩, fun W hin => ?_, h2⟩
    obtain ⟨p, rfl⟩ := regrown_of_below hin.1
    exact qm_m (h1 p)
  · rename_i hw
    rw [if_neg hw] at hh
    exact hh
/-- an operation that lays a block. -/
theorem wpM_make (V : Nat → Value) (O : Obj) (hw : Region.wanted o (yielded ops a.tmps) = true) (h : ∀ W, Below w.heap.size w W → (execOp a.eval o).run P W = .ok (.value (V W.heap.size)) (W.alloc O))
    (h2 : wpM P md ops w β Q rest (k + 1) (a.put o.dst (V (β k))) (X.set k (β k) O)) : wpM P md ops w β Q (o :: rest) k a X := by
  unfold wpM
  rw [if_pos hw]
  refine ⟨⟨V, some O⟩, fun W hin => ?_, h2⟩
  rw [h W hin.1]
  exact ⟨rfl, rfl⟩
/-- an operation that reads a block which another one of the region has laid. -/
theorem wpM_uses (v : Value) (hw : Region.wanted o (yielded ops a.tmps) = true) (h : ∀ W, Below w.heap.size w W → (∀ e ∈ o.after, Region.binds md e = true → ∀ b O, X e.on = some (b, O) → W.heap[b]? = some O) → qmUpon P W v ((execOp a.eval o).run P W))
    (h2 : wpM P md ops w β Q rest (k + 1) (a.put o.dst v) X) : wpM P md ops w β Q (o :: rest) k a X := by
  unfold wpM
  rw [if_pos hw]
  exact ⟨⟨fun _ => v, none⟩, fun W hin => qm_m (h W hin.1 hin.2), h2⟩
theorem laid_cell {w' : World} {b : Nat} {C : Array Value} {T : TypeId} (h : w'.heap[b]? = some (.cells C T (0, 0))) : (∀ o, w'.cell? ⟨b, o, none⟩ = C[o]?) ∧ (∀ o, w'.frozen? ⟨b, o, none⟩ = false) := by
  constructor
  · intro o; unfold World.cell?; simp [h]
  · intro o; unfold World.frozen?; simp [h]
end
end Tab
