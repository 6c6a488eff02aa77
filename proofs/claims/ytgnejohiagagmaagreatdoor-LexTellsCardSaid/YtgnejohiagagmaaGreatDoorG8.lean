/- The package's words (signs, faults); the walk of the reader's sign. A law on regions that draw their order and make memory: no operation is left to a tail. No program in sight. A law on regions that draw their order: an operation that takes a tuple apart may be forced ahead of another one. No program in sight. The walk of the reader's fault. The walk of the reader's next. -/
import Derived.Test.YtgnejohiagagmaaGreatDoorG7
import Derived.Test.YtgnejohiagagmaaGreatDoorG4
import Derived.Control
namespace Tab
open Go
def signsB : List Bs := [[60, 62], [60, 61], [62, 61], [61], [60], [62], [38], [43], [45], [42], [47], [94], [37], [40], [41], [44], [59], [58], [123], [125]]
def faultsB : List Bs := [[35, 78, 85, 76, 76, 33], [35, 68, 73, 86, 47, 48, 33], [35, 86, 65, 76, 85, 69, 33], [35, 82, 69, 70, 33], [35, 78, 65, 77, 69, 63], [35, 78, 85, 77, 33], [35, 78, 47, 65], [35, 83, 80, 73, 76, 76, 33], [35, 67, 73, 82, 67, 33]]
def signOf (o : Option Bs) : PieceD := match o with
  | some x => mkD 8 x x.length
  | none => none
def signPD (l : Bs) : PieceD := signOf (signsB.find? (fun x => Lib.hasPrefix l x))
end Tab
namespace Go.Proofs.YtgnejohiagagmaaGreatDoor
open Go.RowKit Tab

/-- a package variable that holds these texts. -/
def Texts (w : World) (g : Nat) (L : List Bs) : Prop := ∃ B o c, w.cell? ⟨g, 0, none⟩ = some (.slice (some ⟨B, o, none⟩) L.length c) ∧ ∀ i x, L[i]? = some x → w.cell? ⟨B, o + i, none⟩ = some (.string ⟨x.toArray⟩)
/-- the package's words. -/
structure Words (w : World) : Prop where
  signs : Texts w 0 signsB
  faults : Texts w 1 faultsB
theorem cell_lt {w : World} {b o : Nat} {v : Value} (h : w.cell? ⟨b, o, none⟩ = some v) : b < w.heap.size := by
  rcases Nat.lt_or_ge b w.heap.size with h' | h'
  · exact h'
  · unfold World.cell? at h
    simp [Array.getElem?_eq_none h'] at h
theorem Texts.below {w W : World} {g : Nat} {L : List Bs} (h : Texts w g L) (hb : Below w.heap.size w W) : Texts W g L := by
  obtain ⟨B, o, c, h1, h2⟩ := h
  refine ⟨B, o, c, ?_, fun i x hx => ?_⟩
  · rw [← h1]; exact hb.cell (p := ⟨g, 0, none⟩) (cell_lt h1)
  · rw [← h2 i x hx]; exact hb.cell (p := ⟨B, o + i, none⟩) (cell_lt (h2 i x hx))
theorem Words.below {w W : World} (h : Words w) (hb : Below w.heap.size w W) : Words W := ⟨h.signs.below hb, h.faults.below hb⟩

set_option maxRecDepth 100000 in
set_option maxHeartbeats 8000000 in
theorem signP_any (b : Nat) (s : ByteArray) (a : Nat) (ha : a < s.size) (hs : s.size ≤ 1000) (w : World) (_hg : Good w) (hb : Blk w b (rdC s a)) (hwd : Words w) : Calls Tryz.prog 68 #[.pointer (some ⟨b, 0, none⟩)] w (Piece b a (signPD (s.data.toList.drop a)) w) := by
  have cR := fun W hb' => rest_any b s a (by omega) W hb'
  obtain ⟨t, ht⟩ : ∃ t, s.extract a s.size = t := ⟨_, rfl⟩
  have et : t.data.toList = s.data.toList.drop a := by rw [← ht]; exact drop_ext s a
  have hts : t.size ≤ 1000 ∧ 0 < t.size ∧ a + t.size = s.size := by rw [← ht, ByteArray.size_extract]; omega
  rw [ht] at cR
  rw [← et]
  clear et ht
  obtain ⟨B, g0, c, hg1, hg2⟩ := hwd.signs
  have hl := t.data.toList
  obtain ⟨O, hV⟩ : ∃ O, signPD t.data.toList = O := ⟨_, rfl⟩
  rw [hV]
  unfold signPD at hV
  rw [show signsB.length = 20 from rfl] at hg1
  have hgl := cell_lt hg1
  have hBl := cell_lt (hg2 0 [60, 62] rfl)
  have HG := Lib.hid (And.intro hg1 hg2)
  clear hg1 hg2 hl
  obtain ⟨f0, g0, z0⟩ := hb.facts
  have yb : b ≠ w.heap.size := by omega
  clear f0 g0
  go_enter Tryz.func68, Tryz.ntmps68
  go_upto_region 1 with fail
  refine wp_abs2 (fun W => Keep w [(w.heap.size, #[.int .i64 0, .string ⟨#[]⟩, .int .i64 0]), (b, rdC s a)] W) (Keep.add (by apply Blk.eq; (repeat' (first | with_reducible assumption | with_reducible apply Blk.set | with_reducible apply Blk.other | (with_reducible refine Blk.new ?_; simp; done) | with_reducible apply Blk.alloc | omega)); rfl) ((Keep.add hb (Keep.nil (Below.refl _ _))).below (by repeat' (first | with_reducible assumption | with_reducible exact Below.refl _ _ | with_reducible refine allocB ?_ | with_reducible refine setB ?_ ?_ | with_reducible refine drewB ?_ | with_reducible refine after ?_ (by assumption) | (simp; omega) | omega)))) ?_
  clear hb
  rintro wa K
  have hg1 : wa.cell? ⟨0, 0, none⟩ = some (.slice (some ⟨B, g0, none⟩) 20 c) := by
    rw [← HG.out.1]; exact K.bel.cell (p := ⟨0, 0, none⟩) hgl
  go_wp2_with fail
  go_loopw [8] (fun i w' => ∃ j : Nat, j ≤ 20 ∧ i = .int .i64 j ∧ signOf ((signsB.drop j).find? (fun x => Lib.hasPrefix t.data.toList x)) = O ∧ Keep w [(w.heap.size, #[.int .i64 0, .string ⟨#[]⟩, .int .i64 0]), (b, rdC s a)] w') (fun i _ => 20 - (intOf i).toNat)
  case atStart => exact ⟨0, by omega, rfl, hV, K⟩
  case round =>
    clear K hV hg1
    obtain ⟨j, hj, rfl, hI, K⟩ := hrel
    have HI := Lib.hid hI; clear hI
    by_cases hlt : j < 20
    · obtain ⟨x, hx⟩ : ∃ x, signsB[j]? = some x := ⟨_, List.getElem?_eq_getElem (show j < signsB.length from hlt)⟩
      have hcell : wr.cell? ⟨B, g0 + j, none⟩ = some (.string ⟨x.toArray⟩) := by
        rw [← HG.out.2 j x hx]; exact K.bel.cell (p := ⟨B, g0 + j, none⟩) hBl
      have hxl : x.length ≤ 2 := by
        have : ∀ y ∈ signsB, y.length ≤ 2 := by decide
        exact this x (List.mem_of_getElem? hx)
      have hd : signsB.drop j = x :: signsB.drop (j + 1) := by
        obtain ⟨h1, h2⟩ := List.getElem?_eq_some_iff.1 hx
        rw [List.drop_eq_getElem_cons h1, h2]
      have hst : (signsB.drop j).find? (fun x => Lib.hasPrefix t.data.toList x) = if Lib.hasPrefix t.data.toList x = true then some x else (signsB.drop (j + 1)).find? (fun x => Lib.hasPrefix t.data.toList x) := by
        rw [hd, List.find?_cons]; cases Lib.hasPrefix t.data.toList x <;> rfl
      have cH := fun W => Tryz.strings_HasPrefix t ⟨x.toArray⟩ W
      rw [mk_list] at cH
      have cT := fun W hb' => tok_piece b s a 8 ⟨x.toArray⟩ x.length (by omega) W hb'
      rw [mk_list] at cT
      cases hp : Lib.hasPrefix t.data.toList x
      · have hN := HI.out
        rw [hst, hp, if_neg Bool.false_ne_true] at hN
        have HN := Lib.hid hN
        rw [hp] at cH
        clear hN hst hd hx hp HI hxl
        go_wp2_with fail
        refine (cR wr K.tl.hd).mono ?_; rintro e w1 ⟨rfl, hb9⟩
        replace K := K.below hb9
        clear hb9
        go_wp2_with fail
        refine (cH w1).mono ?_; rintro e w2 ⟨rfl, rfl⟩
        go_wp2
        go_roundw
        case rel => exact ⟨j + 1, by omega, by go_num, HN.out, K⟩
        case measure => simp [intOf]; omega
      · have hN := HI.out
        rw [hst, hp, if_pos rfl] at hN
        rw [show signOf (some x) = mkD 8 x x.length from rfl] at hN
        rw [hN] at cT
        rw [hp] at cH
        clear hN
        have hxs : (⟨x.toArray⟩ : ByteArray).size = x.length := rfl
        clear hst hd hx hp HI
        go_wp2_with fail
        refine (cR wr K.tl.hd).mono ?_; rintro e w1 ⟨rfl, hb9⟩
        replace K := K.below hb9
        clear hb9
        go_wp2_with fail
        refine (cH w1).mono ?_; rintro e w2 ⟨rfl, rfl⟩
        go_wp2_with fail
        refine (cT w2 K.tl.hd).mono ?_
        cases O with
        | none =>
          rintro e w9 ⟨k9, S9, p9, rfl, hb9⟩
          replace K := K.below hb9
          have hb0 := K.bel
          obtain ⟨fr, gr, zr⟩ := K.hd.facts
          unfold tokV
          go_wp2
          exact bodyPost_ret (v := .tuple #[.agg #[.int .i64 k9, .string S9, .int .i64 p9], .bool false]) (by simp [results, Tryz.results68, go_sem, *]) rfl ⟨k9, S9, p9, rfl, (by repeat' (first | with_reducible assumption | with_reducible exact Below.refl _ _ | with_reducible refine allocB ?_ | with_reducible refine setB ?_ ?_ | with_reducible refine drewB ?_ | with_reducible refine after ?_ (by assumption) | (simp; omega) | omega))⟩
        | some x9 =>
          obtain ⟨k9, S9, n9⟩ := x9
          rintro e w9 ⟨rfl, hb9⟩
          have hM := Below.mv K.bel z0 hb9
          have hr := Blk.mv K.hd yb hb9
          obtain ⟨fr, gr, zr⟩ := hr.facts
          clear hb9 K
          unfold tokV
          go_wp2
          exact bodyPost_ret (v := .tuple #[.agg #[.int .i64 k9, .string ⟨S9.toArray⟩, .int .i64 (a : Int)], .bool true]) (by simp [results, Tryz.results68, go_sem, *]) rfl ⟨rfl, (by repeat' (first | exact hM | refine Below.setCell ?_ ?_ _ | exact Nat.le_refl _))⟩
    · have hN := HI.out
      rw [show signsB.drop j = [] from List.drop_eq_nil_of_le (by show 20 ≤ j; omega)] at hN
      rw [show signOf (([] : List Bs).find? fun x => Lib.hasPrefix t.data.toList x) = none from rfl] at hN
      subst hN
      clear HI
      go_wp2_with fail
      refine (piece_none wr b a).mono ?_
      rintro e w9 ⟨k9, S9, p9, rfl, hb9⟩
      replace K := K.below hb9
      have hb0 := K.bel
      obtain ⟨fr, gr, zr⟩ := K.hd.facts
      unfold tokV
      go_wp2
      exact bodyPost_ret (v := .tuple #[.agg #[.int .i64 k9, .string S9, .int .i64 p9], .bool false]) (by simp [results, Tryz.results68, go_sem, *]) rfl ⟨k9, S9, p9, rfl, (by repeat' (first | with_reducible assumption | with_reducible exact Below.refl _ _ | with_reducible refine allocB ?_ | with_reducible refine setB ?_ ?_ | with_reducible refine drewB ?_ | with_reducible refine after ?_ (by assumption) | (simp; omega) | omega))⟩

end Go.Proofs.YtgnejohiagagmaaGreatDoor

namespace Tab
open Go Go.RowKit

section
variable {P : Program} {ops : Array Oper} {md : Region.Mode} {w0 : World} {β : Nat → Nat}
theorem HeadM.earlyF {i : Nat} {o : Oper} {y : Yd} {L : Array Bool → Act → XT → Prop} (ho : ops[i]? = some o) (nosel : ∀ (j : Nat) (x : Oper) cs b, ops[j]? = some x → x.op ≠ .select cs b)
    (hL : ∀ done a X, L done a X → ∀ j ∈ Region.ready md ops done, ops.size ≤ j) :
    ∀ (f : Nat) (done : Array Bool) (a : Act) (X : XT), 
      (∀ j x, ops[j]? = some x → j ≠ i → done.getD j true = false → (∀ e ∈ x.after, Region.binds md e = true → e.on ≠ i) → o.apart ops x = true) →
      i ∈ Region.ready md ops done → YM P md ops w0 o y a X → HeadM P md ops w0 β ops.size L f (done.setIfInBounds i true) (a.put o.dst (y.out (β i))) (y.lay i (β i) X) → HeadM P md ops w0 β ops.size L (f + 1) done a X := by
  intro f
  induction f with
  | zero =>
    intro done a X _ hr hy H
    have hun := (mem_ready.1 hr).1
    refine ⟨List.ne_nil_of_mem hr, fun j hj => ?_⟩
    have hjn : j < ops.size := by obtain ⟨_, x, hx, _⟩ := mem_ready.1 hj; exact (Array.getElem?_eq_some_iff.1 hx).1
    refine ⟨hjn, ?_⟩
    by_cases e : j = i
    · cases e; exact hy.op ho H
    · exact absurd (hL _ _ _ H j (ready_mono hj e)) (by omega)
  | succ f ih =>
    intro done a X free hr hy H
    obtain ⟨hun, o', ho', hall'⟩ := mem_ready.1 hr
    have eo : o' = o := Option.some.inj (ho'.symm.trans ho)
    subst eo
    refine ⟨List.ne_nil_of_mem hr, fun j hj => ?_⟩
    have hjn : j < ops.size := by obtain ⟨_, x, hx, _⟩ := mem_ready.1 hj; exact (Array.getElem?_eq_some_iff.1 hx).1
    refine ⟨hjn, ?_⟩
    by_cases e : j = i
    · cases e; exact hy.op ho H
    obtain ⟨hju, x, hx, hall⟩ := mem_ready.1 hj
    have waits : ∀ e ∈ x.after, Region.binds md e = true → e.on ≠ i := by
      intro e he hb heq
      have := hall e he hb
      rw [heq, getD_both hun] at this
      cases this
    have waits' : ∀ e ∈ o'.after, Region.binds md e = true → e.on ≠ j := by
      intro e he hb heq
      have := hall' e he hb
      rw [heq, getD_both hju] at this
      cases this
    have moved := mOp.put (Ne.symm e) hx (free j x hx e hju waits) (fun cs b => nosel i o' cs b ho) (fun cs b => nosel j x cs b hx) waits' waits hy (H.2 j (ready_mono hj e)).2
    refine mOp.mono (fun a' X' k => ?_) moved
    refine ih _ a' X' (fun m y' hm hmi hmu hw => ?_) (ready_mono hr (Ne.symm e)) k.1 ?_
    · refine free m y' hm hmi ?_ hw
      by_cases hjm : j = m
      · cases hjm; exact hju
      · rwa [getD_set_ne true hjm] at hmu
    · rw [Array.setIfInBounds_comm _ _ e]; exact k.2

theorem HeadM.lexF {K : Act → XT → Prop} (nosel : Region.noSelect ops = true) :
    ∀ (l : List Oper) (k : Nat) (done : Array Bool) (a : Act) (X : XT), (∀ j, j < l.length → l[j]? = ops[k + j]?) → k + l.length = ops.size →
      Region.lexHead md ops 0 l.length k done = true → wpM P md ops w0 β K l k a X → HeadM P md ops w0 β ops.size (fun d b Y => Region.seqB md ops 0 ops.size d = true ∧ K b Y) l.length done a X := by
  intro l
  induction l with
  | nil =>
    intro k done a X _ hk hB h
    have e : k = ops.size := by simpa using hk
    rw [e] at hB
    exact ⟨by simpa [Region.lexHead] using hB, h⟩
  | cons o l ih =>
    intro k done a X hl hk hB h
    have ho : ops[k]? = some o := by have := hl 0 (by simp); simpa using this.symm
    simp only [List.length_cons, Region.lexHead, Bool.and_eq_true] at hB
    simp only [List.length_cons] at hk
    have hr : k ∈ Region.ready md ops done := by simpa using hB.1.1
    have hq : mOp P md ops w0 β k (wpM P md ops w0 β K l (k + 1)) a X := by unfold mOp; rw [ho]; exact h
    obtain ⟨y, hy, hK⟩ := YM.of_op ho hq
    refine HeadM.earlyF ho (Region.noSelect_spec nosel) (fun d b Y hd => seqB_ready hd.1) l.length done a X (Region.free_spec ho hB.1.2) hr hy ?_
    refine ih (k + 1) _ _ _ (fun j hj => ?_) (by omega) hB.2 hK
    have := hl (j + 1) (by simp; omega)
    rw [List.getElem?_cons_succ] at this
    rw [this]; congr 1; omega


def lexAllB (md : Region.Mode) (ops : Array Oper) : Bool := Region.noSelect ops && Region.lexHead md ops 0 ops.size 0 (Array.replicate ops.size false)
/-- The law. -/
theorem region_made {id : Nat} {Q : Exit → Act → World → Prop} {a : Act} {w : World} {l : List Oper} (hm : P.follows .mixedOrders = true) (hB : lexAllB .any l.toArray = true)
    (h : ∀ β, wpM P .any l.toArray w β (fun a' X => ∀ w', Laid w X w' → Q .normal a' w') l 0 a (fun _ => none)) : (Code.region id l.toArray true).wp P Q a w := by
  simp only [lexAllB, Bool.and_eq_true] at hB
  obtain ⟨nosel, hlex⟩ := hB
  have e1 : l.toArray.size = l.length := by simp
  have H : ∀ β, HeadM P .any l.toArray w β l.toArray.size (fun d b Y => Region.seqB .any l.toArray 0 l.toArray.size d = true ∧ ∀ w', Laid w Y w' → Q .normal b w') l.length (Array.replicate l.toArray.size false) a (fun _ => none) := fun β =>
    HeadM.lexF nosel l 0 _ a _ (fun j hj => by simp) (by simp) (by rw [← e1]; exact hlex) (h β)
  have A := HeadM.any (R := Q) (g := 0) (n := l.toArray.size) (L := fun _ d b Y => Region.seqB .any l.toArray 0 l.toArray.size d = true ∧ ∀ w', Laid w Y w' → Q .normal b w') (Nat.le_refl _)
    (fun β d b Y w' st hd => by
      obtain ⟨h1, h2⟩ := hd β (fun _ _ => rfl)
      exact wpAny_of_seq (md := .any) (Q' := Q) [] l.toArray.size d b w' (fun j => by simp) h1 (h2 w' ⟨st.below, fun k b O hx => ⟨(st.lies k b O hx).2.2.1, (st.lies k b O hx).2.2.2⟩, st.apart⟩)) l.length (fun _ => 0) _ a (fun _ => none) { w with drawn := w.drawn + 1 } (by simp) ⟨(Below.refl _ _).drew, fun k b O hx => by simp at hx, fun k k' b O O' hx => by simp at hx⟩ (fun β' _ => H β')
  rw [Nat.add_zero] at A
  have A' : wpAny P .any l.toArray Q l.toArray.size (Array.replicate l.toArray.size false) a { w with drawn := w.drawn + 1 } := by rw [e1]; rw [e1] at A; exact A
  exact wp_region_any hm A'
end
end Tab

namespace Tab
open Go Go.RowKit

/-- one edge more: k waits for j. -/
def addEdge : Nat → Nat → List Oper → List Oper
  | _, _, [] => []
  | 0, j, o :: l => { o with after := o.after.push ⟨j, .phase⟩ } :: l
  | k + 1, j, o :: l => o :: addEdge k j l
theorem addEdge_len : ∀ (k j : Nat) (l : List Oper), (addEdge k j l).length = l.length
  | 0, _, [] => rfl
  | _ + 1, _, [] => rfl
  | 0, _, _ :: _ => rfl
  | k + 1, j, _ :: l => congrArg (· + 1) (addEdge_len k j l)
theorem addEdge_ne : ∀ (k j : Nat) (l : List Oper) (i : Nat), i ≠ k → (addEdge k j l)[i]? = l[i]?
  | 0, _, [], _, _ => rfl
  | _ + 1, _, [], _, _ => rfl
  | 0, _, _ :: _, 0, h => absurd rfl h
  | 0, _, _ :: _, _ + 1, _ => rfl
  | _ + 1, _, _ :: _, 0, _ => rfl
  | k + 1, j, _ :: l, i + 1, h => addEdge_ne k j l i (fun e => h (by rw [e]))
theorem addEdge_at : ∀ (k j : Nat) (l : List Oper), (addEdge k j l)[k]? = (l[k]?).map fun o => { o with after := o.after.push ⟨j, .phase⟩ }
  | 0, _, [] => rfl
  | _ + 1, _, [] => rfl
  | 0, _, _ :: _ => rfl
  | k + 1, j, _ :: l => addEdge_at k j l

/-- for which does an operation wait? -/
def waitsOn (ok : Oper) (n : Nat) : Array Bool := ((List.range n).map fun i => ok.after.any fun e => Region.binds .any e && e.on == i).toArray
/-- may j be forced ahead of k? j takes a tuple apart, is not guarded; k waits for all that j waits for; and whatever does not wait for j is apart from it. -/
def edgeB (l : List Oper) (k j : Nat) : Bool :=
  match l[k]?, l[j]? with
  | some ok, some oj => (match oj.op with | .extract _ _ => true | _ => false) && oj.guard.isNone && (j != k) && Region.noSelect l.toArray &&
      (oj.after.all fun e => !Region.binds .any e || ok.after.any fun e' => Region.binds .any e' && e'.on == e.on) &&
      Region.free .any l.toArray (waitsOn ok l.length) j
  | _, _ => false

section
variable {P : Program}
theorem extract_any {oj : Oper} {x : Operand} {n : Nat} (hop : oj.op = .extract x n) (ρ : Operand → Value) : (∃ u, ∀ w, (execOp ρ oj).run P w = .ok (.value u) w) ∨ (∀ w, ∃ why, (execOp ρ oj).run P w = .halt (.stuck why) w) := by
  have e : execOp ρ oj = (do pure (Next.value (← Go.Instr.extract (ρ x) n))) := by unfold execOp; rw [hop]
  rw [e]
  unfold Go.Instr.extract
  cases hv : ρ x with
  | tuple vs =>
    cases hn : vs[n]? with
    | some v => exact .inl ⟨v, fun w => by simp [go_sem, hn]⟩
    | none => exact .inr fun w => ⟨_, by simp [go_sem, hn]; rfl⟩
  | _ => exact .inr fun w => ⟨_, by simp [go_sem]; rfl⟩

/-- the exits of a region that ends, and does nothing else. -/
def Ends (K : Act → World → Prop) : Exit → Act → World → Prop := Exit.then K fun _ _ _ => False
theorem ready_edge {md : Region.Mode} {ops ops' : Array Oper} {k : Nat} (hne : ∀ i, i ≠ k → ops'[i]? = ops[i]?) {done : Array Bool} {i : Nat} (hi : i ≠ k) : i ∈ Region.ready md ops' done ↔ i ∈ Region.ready md ops done := by
  rw [mem_ready, mem_ready, hne i hi]

theorem any_edge {K : Act → World → Prop} {ops ops' : Array Oper} {k j : Nat} {ok oj : Oper} {x : Operand} {n : Nat} (hk : ops[k]? = some ok) (hj : ops[j]? = some oj) (hop : oj.op = .extract x n) (hg : oj.guard = none) (hjk : j ≠ k)
    (hne : ∀ i, i ≠ k → ops'[i]? = ops[i]?) (hat : ops'[k]? = some { ok with after := ok.after.push ⟨j, .phase⟩ })
    (hsel : ∀ (j : Nat) (o : Oper) cs b, ops[j]? = some o → o.op ≠ .select cs b)
    (hw : ∀ e ∈ oj.after, Region.binds .any e = true → ∃ e' ∈ ok.after, Region.binds .any e' = true ∧ e'.on = e.on)
    (hfree : ∀ i oi, ops[i]? = some oi → i ≠ j → (∀ e ∈ ok.after, Region.binds .any e = true → e.on ≠ i) → (∀ e ∈ oi.after, Region.binds .any e = true → e.on ≠ j) → oj.apart ops oi = true) :
    ∀ (fuel : Nat) (done : Array Bool) (a : Act) (w : World), done.size = ops.size → wpAny P .any ops' (Ends K) fuel done a w → wpAny P .any ops (Ends K) fuel done a w := by
  have hdst : ∀ i : Nat, (ops'[i]?).bind (·.dst) = (ops[i]?).bind (·.dst) := fun i => by
    by_cases e : i = k
    · rw [e, hat, hk]; rfl
    · rw [hne i e]
  have hy : yielded ops' = yielded ops := by
    funext t i
    unfold yielded
    rw [hdst i]
  have hkr : ∀ done : Array Bool, k ∈ Region.ready .any ops' done ↔ (k ∈ Region.ready .any ops done ∧ done.getD j false = true) := fun done => by
    rw [mem_ready, mem_ready, hat, hk]
    constructor
    · rintro ⟨h0, o, ho, hall⟩
      injection ho with ho; subst ho
      exact ⟨⟨h0, ok, rfl, fun e he hb => hall e (Array.mem_push.2 (.inl he)) hb⟩, hall ⟨j, .phase⟩ (Array.mem_push.2 (.inr rfl)) rfl⟩
    · rintro ⟨⟨h0, o, ho, hall⟩, hjd⟩
      injection ho with ho; subst ho
      refine ⟨h0, _, rfl, fun e he hb => ?_⟩
      rcases Array.mem_push.1 he with he | he
      · exact hall e he hb
      · rw [he]; exact hjd
  have hjr : ∀ done : Array Bool, done.size = ops.size → k ∈ Region.ready .any ops done → done.getD j false = false → j ∈ Region.ready .any ops done := fun done hs hkd hjd => by
    rw [mem_ready] at hkd ⊢
    obtain ⟨_, o, ho, hall⟩ := hkd
    rw [hk] at ho; injection ho with ho; subst ho
    have hlt : j < done.size := by rw [hs]; exact (Array.getElem?_eq_some_iff.1 hj).1
    refine ⟨by simp [hlt] at hjd ⊢; exact hjd, oj, hj, fun e he hb => ?_⟩
    obtain ⟨e', he', hb', eon⟩ := hw e he hb
    rw [← eon]; exact hall e' he' hb'
  have hop' : ∀ (i : Nat) (K1 : Act → World → Prop) (a : Act) (w : World), wpOp P ops' (Ends K) i K1 a w → wpOp P ops (Ends K) i K1 a w := fun i K1 a w h => by
    unfold wpOp at *
    by_cases e : i = k
    · rw [e, hat] at h
      rw [e, hk]
      dsimp only at h ⊢
      rw [hy] at h
      exact h
    · rw [hne i e, hy] at h
      exact h
  intro fuel
  induction fuel with
  | zero =>
    intro done a w hs h
    refine ⟨?_, h.2⟩
    rw [List.eq_nil_iff_forall_not_mem]
    intro i hi
    have h0 := List.eq_nil_iff_forall_not_mem.1 h.1
    by_cases e : i = k
    · subst e
      cases hjd : done.getD j false
      · exact h0 j ((ready_edge hne hjk).2 (hjr done hs hi hjd))
      · exact h0 i ((hkr done).2 ⟨hi, hjd⟩)
    · exact h0 i ((ready_edge hne e).2 hi)
  | succ fuel ih =>
    intro done a w hs h
    by_cases hc : k ∈ Region.ready .any ops done ∧ done.getD j false = false
    · -- j first
      have hjm := hjr done hs hc.1 hc.2
      have h1 := h.2 j ((ready_edge hne hjk).2 hjm)
      have h2 := hop' j _ a w h1
      unfold wpOp at h2
      rw [hj] at h2
      dsimp only at h2
      have hwant : Region.wanted oj (yielded ops a.tmps) = true := by unfold Region.wanted; rw [hg]
      rw [if_pos hwant] at h2
      rcases h2 with h2 | ⟨_, a', w', h2⟩
      · rcases extract_any (P := P) hop a.eval with ⟨u, hu⟩ | hu
        · unfold Oper.wp at h2
          rw [hu w] at h2
          have h3 : wpAny P .any ops' (Ends K) fuel (done.setIfInBounds j true) (a.put oj.dst u) w := h2
          refine wpAny_first hj hsel (fun c a w hh => hh.elim) fuel done a w (fun i oi hi hij hun hno => hfree i oi hi hij (fun e he hb heq => by
            obtain ⟨_, o, ho, hall⟩ := mem_ready.1 hc.1
            rw [hk] at ho; injection ho with ho; subst ho
            have := hall e he hb
            rw [heq, getD_both hun] at this
            cases this) hno) hjm (.inl ⟨hwant, hu⟩) (ih _ _ _ (by simpa using hs) h3)
        · obtain ⟨why, e⟩ := hu w
          unfold Oper.wp at h2
          rw [e] at h2
          exact h2.elim
      · exact h2.elim
    · have hsame : ∀ i, i ∈ Region.ready .any ops done → i ∈ Region.ready .any ops' done := fun i hi => by
        by_cases e : i = k
        · subst e
          refine (hkr done).2 ⟨hi, ?_⟩
          cases hjd : done.getD j false
          · exact absurd ⟨hi, hjd⟩ hc
          · rfl
        · exact (ready_edge hne e).2 hi
      have hsame' : ∀ i, i ∈ Region.ready .any ops' done → i ∈ Region.ready .any ops done := fun i hi => by
        by_cases e : i = k
        · subst e; exact ((hkr done).1 hi).1
        · exact (ready_edge hne e).1 hi
      refine ⟨fun h0 => h.1 (List.eq_nil_iff_forall_not_mem.2 fun i hi => ?_), fun i hi => ?_⟩
      · have := hsame' i hi; rw [h0] at this; cases this
      · exact wpOp_mono (fun a' w' h' => ih _ _ _ (by simpa using hs) h') (hop' i _ a w (h.2 i (hsame i hi)))

theorem region_made_edge {id : Nat} {K : Act → World → Prop} {Q' : Exit → Act → World → Prop} {a : Act} {w : World} {l : List Oper} (n k j : Nat) (hm : P.follows .mixedOrders = true) (hE : edgeB l k j = true) (hB : Region.lexTailB .any (addEdge k j l).toArray n = true)
    (h : ∀ β, wpM P .any (addEdge k j l).toArray w β (fun a' X => ∀ w', Laid w X w' → wpList P (addEdge k j l).toArray (Ends K) ((addEdge k j l).drop n) a' w') ((addEdge k j l).take n) 0 a (fun _ => none)) : (Code.region id l.toArray true).wp P (Exit.then K Q') a w := by
  have A : wpAny P .any (addEdge k j l).toArray (Ends K) l.toArray.size (Array.replicate l.toArray.size false) a { w with drawn := w.drawn + 1 } := by
    have hlen := addEdge_len k j l
    generalize addEdge k j l = l' at *
    simp only [Region.lexTailB, Bool.and_eq_true, decide_eq_true_eq] at hB
    obtain ⟨⟨⟨⟨nosel, hn⟩, hs⟩, hc⟩, hlex⟩ := hB
    have hnl : n < l'.length := by simpa using hn
    have e1 : (l'.take n).length = n := by rw [List.length_take]; omega
    have e2 : (l'.drop n).length = l'.toArray.size - n := by simp
    have start : HeadInv .any l'.toArray n (Array.replicate l'.toArray.size false) :=
      ⟨by simp, fun j _ _ hl => absurd hl (by rw [getD_replicate_false]; exact Bool.false_ne_true), fun t _ ht => getD_in (by simpa using ht) (getD_replicate_false _ _)⟩
    have H : ∀ β, HeadM P .any l'.toArray w β n (fun d b Y => Region.seqB .any l'.toArray (l'.toArray.size - n) n d = true ∧ ∀ w', Laid w Y w' → wpList P l'.toArray (Ends K) (l'.drop n) b w') (l'.take n).length (Array.replicate l'.toArray.size false) a (fun _ => none) := fun β =>
      HeadM.lex nosel hs hc hn (l'.take n) 0 _ a _ (fun j hj => by rw [e1] at hj; simp [hj]) (by simpa using e1) start (by rw [e1]; exact hlex) (h β)
    have A := HeadM.any (R := Ends K) (g := l'.toArray.size - n) (L := fun _ d b Y => Region.seqB .any l'.toArray (l'.toArray.size - n) n d = true ∧ ∀ w', Laid w Y w' → wpList P l'.toArray (Ends K) (l'.drop n) b w') (Nat.le_of_lt hn)
      (fun β d b Y w' st hd => by
        obtain ⟨h1, h2⟩ := hd β (fun _ _ => rfl)
        have := wpAny_of_seq (md := .any) (Q' := Ends K) (l'.drop n) n d b w' (fun j => by simp [List.getElem?_drop]) (by rw [e2]; exact h1) (h2 w' ⟨st.below, fun k b O hx => ⟨(st.lies k b O hx).2.2.1, (st.lies k b O hx).2.2.2⟩, st.apart⟩)
        rwa [e2] at this) _ (fun _ => 0) _ a (fun _ => none) { w with drawn := w.drawn + 1 } (by simp) ⟨(Below.refl _ _).drew, fun k b O hx => by simp at hx, fun k k' b O O' hx => by simp at hx⟩ (fun β' _ => H β')
    rw [e1, show n + (l'.toArray.size - n) = l'.toArray.size from by omega] at A
    rw [show l.toArray.size = l'.toArray.size from by simp [hlen]]
    exact A
  have B : wpAny P .any l.toArray (Ends K) l.toArray.size (Array.replicate l.toArray.size false) a { w with drawn := w.drawn + 1 } := by
    unfold edgeB at hE
    cases hk : l[k]? with
    | none => rw [hk] at hE; cases hE
    | some ok =>
      cases hj : l[j]? with
      | none => rw [hk, hj] at hE; cases hE
      | some oj =>
        rw [hk, hj] at hE
        simp only [Bool.and_eq_true] at hE
        obtain ⟨⟨⟨⟨⟨h1, h2⟩, h3⟩, h4⟩, h5⟩, h6⟩ := hE
        obtain ⟨x, m, hop⟩ : ∃ x m, oj.op = .extract x m := by
          revert h1
          cases oj.op <;> intro h1 <;> first | exact ⟨_, _, rfl⟩ | cases h1
        refine any_edge (ops' := (addEdge k j l).toArray) (k := k) (j := j) (ok := ok) (oj := oj) (by simpa using hk) (by simpa using hj) hop (Option.isNone_iff_eq_none.1 h2) (by simpa using h3) (fun i hi => by simpa using addEdge_ne k j l i hi)
          (by have := addEdge_at k j l; rw [hk] at this; simpa using this) (Region.noSelect_spec h4) ?_ (fun i oi hi hij hkw hno => Region.free_spec (by simpa using hj) h6 i oi hi hij ?_ hno) _ _ _ _ (by simp) A
        · intro e he hb
          have := Array.all_eq_true_iff_forall_mem.1 h5 e he
          rw [hb] at this
          simp only [Bool.not_true, Bool.false_or] at this
          obtain ⟨e', he', hh⟩ := Array.any_eq_true'.1 this
          simp only [Bool.and_eq_true, beq_iff_eq] at hh
          exact ⟨e', he', hh.1, hh.2⟩
        · have hil : i < l.length := by
            have := (Array.getElem?_eq_some_iff.1 hi).1
            simpa using this
          cases hx : (waitsOn ok l.length).getD i true
          · rfl
          · exfalso
            unfold waitsOn at hx
            simp [hil] at hx
            obtain ⟨m, hm, h7, h8⟩ := hx
            exact hkw _ (Array.getElem_mem hm) h7 h8
  refine wp_mono (wp_region_any hm B) ?_
  intro e a' w' hq
  cases e with
  | normal => exact hq
  | _ => exact hq.elim

/-- an edge more, at the beginning of a region. -/
theorem any_edgeB {K : Act → World → Prop} {a : Act} {w : World} {l : List Oper} (k j : Nat) (hE : edgeB l k j = true)
    (A : wpAny P .any (addEdge k j l).toArray (Ends K) l.toArray.size (Array.replicate l.toArray.size false) a w) : wpAny P .any l.toArray (Ends K) l.toArray.size (Array.replicate l.toArray.size false) a w := by
  unfold edgeB at hE
  cases hk : l[k]? with
  | none => rw [hk] at hE; cases hE
  | some ok =>
    cases hj : l[j]? with
    | none => rw [hk, hj] at hE; cases hE
    | some oj =>
      rw [hk, hj] at hE
      simp only [Bool.and_eq_true] at hE
      obtain ⟨⟨⟨⟨⟨h1, h2⟩, h3⟩, h4⟩, h5⟩, h6⟩ := hE
      obtain ⟨x, m, hop⟩ : ∃ x m, oj.op = .extract x m := by
        revert h1
        cases oj.op <;> intro h1 <;> first | exact ⟨_, _, rfl⟩ | cases h1
      refine any_edge (ops' := (addEdge k j l).toArray) (k := k) (j := j) (ok := ok) (oj := oj) (by simpa using hk) (by simpa using hj) hop (Option.isNone_iff_eq_none.1 h2) (by simpa using h3) (fun i hi => by simpa using addEdge_ne k j l i hi)
        (by have := addEdge_at k j l; rw [hk] at this; simpa using this) (Region.noSelect_spec h4) ?_ (fun i oi hi hij hkw hno => Region.free_spec (by simpa using hj) h6 i oi hi hij ?_ hno) _ _ _ _ (by simp) A
      · intro e he hb
        have := Array.all_eq_true_iff_forall_mem.1 h5 e he
        rw [hb] at this
        simp only [Bool.not_true, Bool.false_or] at this
        obtain ⟨e', he', hh⟩ := Array.any_eq_true'.1 this
        simp only [Bool.and_eq_true, beq_iff_eq] at hh
        exact ⟨e', he', hh.1, hh.2⟩
      · have hil : i < l.length := by
          have := (Array.getElem?_eq_some_iff.1 hi).1
          simpa using this
        cases hx : (waitsOn ok l.length).getD i true
        · rfl
        · exfalso
          unfold waitsOn at hx
          simp [hil] at hx
          obtain ⟨m, hm, h7, h8⟩ := hx
          exact hkw _ (Array.getElem_mem hm) h7 h8
theorem any_head_tail {Q : Exit → Act → World → Prop} {a : Act} {w : World} {l : List Oper} {C : World → Prop} (n : Nat) (hB : Region.lexTailB .any l.toArray n = true)
    (hC : C w) (h : wpQuiet P l.toArray C (fun a' => ∀ w', C w' → wpList P l.toArray Q (l.drop n) a' w') (l.take n) a) : wpAny P .any l.toArray Q l.toArray.size (Array.replicate l.toArray.size false) a w := by
  simp only [Region.lexTailB, Bool.and_eq_true, decide_eq_true_eq] at hB
  obtain ⟨⟨⟨⟨nosel, hn⟩, hs⟩, hc⟩, hlex⟩ := hB
  have hnl : n < l.length := by simpa using hn
  have e1 : (l.take n).length = n := by rw [List.length_take]; omega
  have e2 : (l.drop n).length = l.toArray.size - n := by simp
  have start : HeadInv .any l.toArray n (Array.replicate l.toArray.size false) :=
    ⟨by simp, fun j _ _ hl => absurd hl (by rw [getD_replicate_false]; exact Bool.false_ne_true), fun t _ ht => getD_in (by simpa using ht) (getD_replicate_false _ _)⟩
  have H := HeadQ.lex (md := .any) (C := C) (g := l.toArray.size - n) nosel hs hc hn (l.take n) 0 _ a
    (fun j hj => by rw [e1] at hj; simp [hj]) (by simpa using e1) start (by rw [e1]; exact hlex) h
  have A := HeadQ.any (R := Q) (g := l.toArray.size - n) (fun d b w' hw' hd => by
    have := wpAny_of_seq (md := .any) (Q' := Q) (l.drop n) n d b w' (fun j => by simp [List.getElem?_drop]) (by rw [e2]; exact hd.1) (hd.2 w' hw')
    rwa [e2] at this) _ _ _ _ hC H
  rw [e1, show n + (l.toArray.size - n) = l.toArray.size from by omega] at A
  exact A
/-- a head that reads, or calls what leaves all as it was; then a call whose answer is taken apart, a store and an assignment: two edges more make one order of them. -/
theorem region_below_edges {id : Nat} {K : Act → World → Prop} {Q' : Exit → Act → World → Prop} {a : Act} {w : World} {l : List Oper} (n k1 j1 k2 j2 : Nat) (hm : P.follows .mixedOrders = true) (hE1 : edgeB l k1 j1 = true) (hE2 : edgeB (addEdge k1 j1 l) k2 j2 = true)
    (hB : Region.lexTailB .any (addEdge k2 j2 (addEdge k1 j1 l)).toArray n = true)
    (h : wpQuiet P (addEdge k2 j2 (addEdge k1 j1 l)).toArray (fun w' => ∃ p : Regrown, w' = Sort.grow (redrawn w p.d) p.os) (fun a' => ∀ w', Below w.heap.size w w' → wpList P (addEdge k2 j2 (addEdge k1 j1 l)).toArray (Ends K) ((addEdge k2 j2 (addEdge k1 j1 l)).drop n) a' w') ((addEdge k2 j2 (addEdge k1 j1 l)).take n) a) :
    (Code.region id l.toArray true).wp P (Exit.then K Q') a w := by
  have e1 : (addEdge k1 j1 l).toArray.size = l.toArray.size := by simp [addEdge_len]
  have e2 : (addEdge k2 j2 (addEdge k1 j1 l)).toArray.size = l.toArray.size := by simp [addEdge_len]
  have A : wpAny P .any (addEdge k2 j2 (addEdge k1 j1 l)).toArray (Ends K) l.toArray.size (Array.replicate l.toArray.size false) a { w with drawn := w.drawn + 1 } := by
    rw [← e2]
    refine any_head_tail (C := fun w' => ∃ p : Regrown, w' = Sort.grow (redrawn w p.d) p.os) n hB ⟨⟨w.drawn + 1, #[]⟩, by rw [Sort.grow_empty]; rfl⟩ ?_
    have : (fun a' => ∀ w', Below w.heap.size w w' → wpList P (addEdge k2 j2 (addEdge k1 j1 l)).toArray (Ends K) ((addEdge k2 j2 (addEdge k1 j1 l)).drop n) a' w') = (fun a' => ∀ w', (∃ p : Regrown, w' = Sort.grow (redrawn w p.d) p.os) → wpList P (addEdge k2 j2 (addEdge k1 j1 l)).toArray (Ends K) ((addEdge k2 j2 (addEdge k1 j1 l)).drop n) a' w') := by
      funext a'
      apply propext
      constructor
      · rintro h w' ⟨p, rfl⟩; exact h _ (below_regrown w p.d p.os)
      · intro h w' hb; exact h w' (regrown_of_below hb)
    rw [this] at h
    exact h
  have B := any_edgeB k1 j1 hE1 (e1 ▸ any_edgeB k2 j2 hE2 (e1.symm ▸ A))
  refine wp_mono (wp_region_any hm B) ?_
  intro e a' w' hq
  cases e with
  | normal => exact hq
  | _ => exact hq.elim
end
end Tab

namespace Tab
open Go
def tornB : Bs := [35, 82, 69, 70, 33]
def idxFrom (P : Bs → Bool) : List Bs → Nat → Int
  | [], _ => -1
  | x :: l, k => if P x = true then (k : Int) else idxFrom P l (k + 1)
theorem idx_find (P : Bs → Bool) : ∀ (L : List Bs) (k : Nat), (L.find? P = none ∧ idxFrom P L k = -1) ∨ ∃ x j, L.find? P = some x ∧ L[j]? = some x ∧ idxFrom P L k = ((k + j : Nat) : Int)
  | [], _ => .inl ⟨rfl, rfl⟩
  | x :: l, k => by
    unfold idxFrom
    rw [List.find?_cons]
    cases h : P x
    · rw [if_neg Bool.false_ne_true]
      rcases idx_find P l (k + 1) with ⟨h1, h2⟩ | ⟨y, j, h1, h2, h3⟩
      · exact .inl ⟨h1, h2⟩
      · exact .inr ⟨y, j + 1, h1, by simpa using h2, by rw [h3]; omega⟩
    · rw [if_pos rfl]
      exact .inr ⟨x, 0, rfl, rfl, rfl⟩
def faultOf (o : Option Bs) : PieceD := match o with
  | none => none
  | some x => if x = tornB then mkD 5 x x.length else mkD 4 x x.length
def faultPD (l : Bs) : PieceD := faultOf (faultsB.find? (fun x => Lib.hasPrefix (upperD l) x))
end Tab
namespace Go.Proofs.YtgnejohiagagmaaGreatDoor
open Go.RowKit Tab

set_option maxRecDepth 100000 in
theorem fault1_any (f U : ByteArray) (b : Nat) (w : World) (hb : Blk w b #[.string U]) : Calls Tryz.prog 118 #[.string f, .pointer (some ⟨b, 0, none⟩)] w (Still (.bool (Lib.hasPrefix U.data.toList f.data.toList)) w) := by
  obtain ⟨f0, g0, z0⟩ := hb.facts
  have cH := Tryz.strings_HasPrefix U f w
  go_enter Tryz.func118, Tryz.ntmps118
  go_wp2_with fail
  refine cH.mono ?_; rintro e w1 ⟨rfl, rfl⟩
  go_wp2
  go_ret; exact Still.mk' rfl

set_option maxRecDepth 100000 in
set_option maxHeartbeats 4000000 in
theorem idxFault_any (U : ByteArray) (b B o c : Nat) (L : List Bs) (hL : L.length ≤ 100) (w : World) (hb : Blk w b #[.string U]) (hc : ∀ i x, L[i]? = some x → w.cell? ⟨B, o + i, none⟩ = some (.string ⟨x.toArray⟩)) :
    Calls Tryz.prog 117 #[.slice (some ⟨B, o, none⟩) L.length c, .func (.func 118) #[] #[.pointer (some ⟨b, 0, none⟩)]] w (Still (.int .i64 (idxFrom (fun x => Lib.hasPrefix U.data.toList x) L 0)) w) := by
  obtain ⟨V, hV⟩ : ∃ V, idxFrom (fun x => Lib.hasPrefix U.data.toList x) L 0 = V := ⟨_, rfl⟩
  rw [hV]
  have HC := Lib.hid hc
  obtain ⟨n, hn⟩ : ∃ n, L.length = n := ⟨_, rfl⟩
  rw [hn] at hL ⊢
  have HN := Lib.hid hn
  clear hc hn
  go_enter Tryz.func117, Tryz.ntmps117
  go_wp2
  go_loop [8] (fun i => ∃ j : Nat, j ≤ n ∧ i = .int .i64 j ∧ idxFrom (fun x => Lib.hasPrefix U.data.toList x) (L.drop j) j = V) (fun i => n - (intOf i).toNat)
  case atStart => exact ⟨0, by omega, rfl, hV⟩
  case round =>
    clear hV
    obtain ⟨j, hj, rfl, hI⟩ := hrel
    have HI := Lib.hid hI; clear hI
    by_cases hlt : j < n
    · obtain ⟨x, hx⟩ : ∃ x, L[j]? = some x := ⟨_, List.getElem?_eq_getElem (by rw [HN.out]; exact hlt)⟩
      have hcell := HC.out j x hx
      have cF := fault1_any ⟨x.toArray⟩ U b w hb
      rw [mk_list] at cF
      have hst : idxFrom (fun x => Lib.hasPrefix U.data.toList x) (L.drop j) j = if Lib.hasPrefix U.data.toList x = true then (j : Int) else idxFrom (fun x => Lib.hasPrefix U.data.toList x) (L.drop (j + 1)) (j + 1) := by
        obtain ⟨h1, h2⟩ := List.getElem?_eq_some_iff.1 hx
        rw [List.drop_eq_getElem_cons h1, h2]; rfl
      have hN := HI.out
      rw [hst] at hN
      cases hp : Lib.hasPrefix U.data.toList x
      · rw [hp, if_neg Bool.false_ne_true] at hN
        rw [hp] at cF
        have HN2 := Lib.hid hN
        clear hN hst hx hp HI
        go_wp2_with fail
        refine cF.mono ?_; rintro e w1 ⟨rfl, rfl⟩
        go_wp2
        go_round
        case rel => exact ⟨j + 1, by omega, by go_num, HN2.out⟩
        case measure => simp [intOf]; omega
      · rw [hp, if_pos rfl] at hN
        subst hN
        rw [hp] at cF
        clear hst hx hp HI
        go_wp2_with fail
        refine cF.mono ?_; rintro e w1 ⟨rfl, rfl⟩
        go_wp2
        go_ret; exact Still.mk' rfl
    · have hN := HI.out
      rw [List.drop_eq_nil_of_le (by rw [HN.out]; omega)] at hN
      have hN2 : (-1 : Int) = V := hN
      subst hN2
      clear hN HI
      go_wp2
      go_ret; exact Still.mk' rfl

set_option maxRecDepth 100000 in
set_option maxHeartbeats 8000000 in
theorem faultP_any (b : Nat) (s : ByteArray) (a : Nat) (ha : a < s.size) (hs : s.size ≤ 1000) (w : World) (hg : Good w) (hb : Blk w b (rdC s a)) (hwd : Words w) : Calls Tryz.prog 71 #[.pointer (some ⟨b, 0, none⟩)] w (Piece b a (faultPD (s.data.toList.drop a)) w) := by
  have cR := fun W hb' => rest_any b s a (by omega) W hb'
  obtain ⟨t, ht⟩ : ∃ t, s.extract a s.size = t := ⟨_, rfl⟩
  have et : t.data.toList = s.data.toList.drop a := by rw [← ht]; exact drop_ext s a
  have hts : t.size ≤ 1000 ∧ 0 < t.size ∧ a + t.size = s.size := by rw [← ht, ByteArray.size_extract]; omega
  rw [ht] at cR
  rw [← et]
  clear et ht
  obtain ⟨B, g0, c, hg1, hg2⟩ := hwd.faults
  have hgl := cell_lt hg1
  have hBl := cell_lt (hg2 0 _ rfl)
  have hc := fun U b W (h : Below w.heap.size w W) hb' => idxFault_any U b B g0 c faultsB (by decide) W hb' (fun i x hx => by rw [← hg2 i x hx]; exact h.cell (p := ⟨B, g0 + i, none⟩) hBl)
  rw [show faultsB.length = 9 from rfl] at hg1 hc
  have cU := fun W (hB : Below w.heap.size w W) => upper_any t W (hg.below hB) (by omega)
  unfold strV at cU
  obtain ⟨U, hU⟩ : ∃ U : ByteArray, (⟨(upperD t.data.toList).toArray⟩ : ByteArray) = U := ⟨_, rfl⟩
  have hUl : U.data.toList = upperD t.data.toList := by rw [← hU]
  rw [hU] at cU
  clear hU
  obtain ⟨O, hO⟩ : ∃ O, faultPD t.data.toList = O := ⟨_, rfl⟩
  rw [hO]
  unfold faultPD at hO
  rw [← hUl] at hO
  clear hUl
  replace hc := fun b => hc U b
  have hf := idx_find (fun x => Lib.hasPrefix U.data.toList x) faultsB 0
  generalize idxFrom (fun x => Lib.hasPrefix U.data.toList x) faultsB 0 = V at *
  have HG := Lib.hid (And.intro hg1 hg2)
  clear hg1 hg2
  rcases hf with ⟨h1, h2⟩ | ⟨x, j, h1, h2, h3⟩
  · rw [h1] at hO
    have hO2 : none = O := hO
    subst hO2
    subst h2
    clear hO h1
    obtain ⟨f0, g0, z0⟩ := hb.facts
    have yb : b ≠ w.heap.size := by omega
    clear f0 g0
    go_enter Tryz.func71, Tryz.ntmps71
    go_wp2_with fail
    refine calls_keep (fun W => Keep w [(w.heap.size, #[.int .i64 0, .string ⟨#[]⟩, .int .i64 0]), (b, rdC s a)] W) (Keep.add (by apply Blk.eq; (repeat' (first | with_reducible assumption | with_reducible apply Blk.set | with_reducible apply Blk.other | (with_reducible refine Blk.new ?_; simp; done) | with_reducible apply Blk.alloc | omega)); rfl) ((Keep.add hb (Keep.nil (Below.refl _ _))).below (by repeat' (first | with_reducible assumption | with_reducible exact Below.refl _ _ | with_reducible refine allocB ?_ | with_reducible refine setB ?_ ?_ | with_reducible refine drewB ?_ | with_reducible refine after ?_ (by assumption) | (simp; omega) | omega)))) ?_
    clear hb
    rintro wa K
    refine (cR wa K.tl.hd).mono ?_; rintro e w1 ⟨rfl, hb9⟩
    replace K := K.below hb9
    clear hb9
    go_wp2_with fail
    refine (cU w1 K.bel).mono ?_; rintro e w2 ⟨rfl, hb9⟩
    replace K := K.below hb9
    clear hb9
    go_upto_region 2 with fail
    refine wp_abs2 (fun W => Keep w [(w2.heap.size, #[.string U]), (w.heap.size, #[.int .i64 0, .string ⟨#[]⟩, .int .i64 0]), (b, rdC s a)] W) (Keep.add (by apply Blk.eq; (repeat' (first | with_reducible assumption | with_reducible apply Blk.set | with_reducible apply Blk.other | (with_reducible refine Blk.new ?_; simp; done) | with_reducible apply Blk.alloc | omega)); rfl) (K.below (by repeat' (first | with_reducible assumption | with_reducible exact Below.refl _ _ | with_reducible refine allocB ?_ | with_reducible refine setB ?_ ?_ | with_reducible refine drewB ?_ | with_reducible refine after ?_ (by assumption) | (simp; omega) | omega)))) ?_
    clear K
    rintro w3 K
    generalize w2.heap.size = bU at *
    have hg1 : w3.cell? ⟨1, 0, none⟩ = some (.slice (some ⟨B, g0, none⟩) 9 c) := by
      rw [← HG.out.1]; exact K.bel.cell (p := ⟨1, 0, none⟩) hgl
    go_wp2_with fail
    refine (hc bU w3 K.bel K.hd).mono ?_; rintro e w4 ⟨rfl, rfl⟩
    replace K := K.tl
    go_wp2_with fail
    refine (piece_none w3 b a).mono ?_
    rintro e w9 ⟨k9, S9, p9, rfl, hb9⟩
    replace K := K.below hb9
    have hb0 := K.bel
    obtain ⟨fr, gr, zr⟩ := K.hd.facts
    unfold tokV
    go_wp2
    exact bodyPost_ret (v := .tuple #[.agg #[.int .i64 k9, .string S9, .int .i64 p9], .bool false]) (by simp [results, Tryz.results71, go_sem, *]) rfl ⟨k9, S9, p9, rfl, (by repeat' (first | with_reducible assumption | with_reducible exact Below.refl _ _ | with_reducible refine allocB ?_ | with_reducible refine setB ?_ ?_ | with_reducible refine drewB ?_ | with_reducible refine after ?_ (by assumption) | (simp; omega) | omega))⟩
  · rw [h1] at hO
    have hxl : x.length ≤ 8 ∧ j < 9 := by
      have : ∀ y ∈ faultsB, y.length ≤ 8 := by decide
      exact ⟨this x (List.mem_of_getElem? h2), (List.getElem?_eq_some_iff.1 h2).1⟩
    rw [Nat.zero_add] at h3
    subst h3
    have hO2 : (if x = tornB then mkD 5 x x.length else mkD 4 x x.length) = O := hO
    have ej : decide ((j : Int) < 0) = false := decide_eq_false (by omega)
    have hcw := HG.out.2 j x h2
    have j9 : j < 9 := hxl.2
    have j9i : (j : Int) < 9 := by omega
    by_cases ht : x = tornB
    · rw [if_pos ht] at hO2
      subst ht
      have cT := fun W hb' => tok_piece b s a 5 ⟨#[35, 82, 69, 70, 33]⟩ 5 (by omega) W hb'
      rw [show mkD 5 (ByteArray.mk #[35, 82, 69, 70, 33]).data.toList 5 = O from hO2] at cT
      clear hO hO2 h1 h2 hxl
      have hcw' : w.cell? ⟨B, g0 + j, none⟩ = some (.string ⟨#[35, 82, 69, 70, 33]⟩) := hcw
      obtain ⟨f0, g0, z0⟩ := hb.facts
      have yb : b ≠ w.heap.size := by omega
      clear f0 g0
      go_enter Tryz.func71, Tryz.ntmps71
      go_wp2_with fail
      refine calls_keep (fun W => Keep w [(w.heap.size, #[.int .i64 0, .string ⟨#[]⟩, .int .i64 0]), (b, rdC s a)] W) (Keep.add (by apply Blk.eq; (repeat' (first | with_reducible assumption | with_reducible apply Blk.set | with_reducible apply Blk.other | (with_reducible refine Blk.new ?_; simp; done) | with_reducible apply Blk.alloc | omega)); rfl) ((Keep.add hb (Keep.nil (Below.refl _ _))).below (by repeat' (first | with_reducible assumption | with_reducible exact Below.refl _ _ | with_reducible refine allocB ?_ | with_reducible refine setB ?_ ?_ | with_reducible refine drewB ?_ | with_reducible refine after ?_ (by assumption) | (simp; omega) | omega)))) ?_
      clear hb
      rintro wa K
      refine (cR wa K.tl.hd).mono ?_; rintro e w1 ⟨rfl, hb9⟩
      replace K := K.below hb9
      clear hb9
      go_wp2_with fail
      refine (cU w1 K.bel).mono ?_; rintro e w2 ⟨rfl, hb9⟩
      replace K := K.below hb9
      clear hb9
      go_upto_region 2 with fail
      refine wp_abs2 (fun W => Keep w [(w2.heap.size, #[.string U]), (w.heap.size, #[.int .i64 0, .string ⟨#[]⟩, .int .i64 0]), (b, rdC s a)] W) (Keep.add (by apply Blk.eq; (repeat' (first | with_reducible assumption | with_reducible apply Blk.set | with_reducible apply Blk.other | (with_reducible refine Blk.new ?_; simp; done) | with_reducible apply Blk.alloc | omega)); rfl) (K.below (by repeat' (first | with_reducible assumption | with_reducible exact Below.refl _ _ | with_reducible refine allocB ?_ | with_reducible refine setB ?_ ?_ | with_reducible refine drewB ?_ | with_reducible refine after ?_ (by assumption) | (simp; omega) | omega)))) ?_
      clear K
      rintro w3 K
      generalize w2.heap.size = bU at *
      have hg1 : w3.cell? ⟨1, 0, none⟩ = some (.slice (some ⟨B, g0, none⟩) 9 c) := by
        rw [← HG.out.1]; exact K.bel.cell (p := ⟨1, 0, none⟩) hgl
      go_wp2_with fail
      refine (hc bU w3 K.bel K.hd).mono ?_; rintro e w4 ⟨rfl, rfl⟩
      replace K := K.tl
      have hcell : w3.cell? ⟨B, g0 + j, none⟩ = some (.string ⟨#[35, 82, 69, 70, 33]⟩) := by
        rw [← hcw']; exact K.bel.cell (p := ⟨B, g0 + j, none⟩) hBl
      go_wp2_with fail
      refine (cT w3 K.tl.hd).mono ?_
      cases O with
      | none =>
        rintro e w9 ⟨k9, S9, p9, rfl, hb9⟩
        replace K := K.below hb9
        have hb0 := K.bel
        obtain ⟨fr, gr, zr⟩ := K.hd.facts
        unfold tokV
        go_wp2
        exact bodyPost_ret (v := .tuple #[.agg #[.int .i64 k9, .string S9, .int .i64 p9], .bool false]) (by simp [results, Tryz.results71, go_sem, *]) rfl ⟨k9, S9, p9, rfl, (by repeat' (first | with_reducible assumption | with_reducible exact Below.refl _ _ | with_reducible refine allocB ?_ | with_reducible refine setB ?_ ?_ | with_reducible refine drewB ?_ | with_reducible refine after ?_ (by assumption) | (simp; omega) | omega))⟩
      | some x9 =>
        obtain ⟨k9, S9, n9⟩ := x9
        rintro e w9 ⟨rfl, hb9⟩
        have hM := Below.mv K.bel z0 hb9
        have hr := Blk.mv K.hd yb hb9
        obtain ⟨fr, gr, zr⟩ := hr.facts
        clear hb9 K
        unfold tokV
        go_wp2
        exact bodyPost_ret (v := .tuple #[.agg #[.int .i64 k9, .string ⟨S9.toArray⟩, .int .i64 (a : Int)], .bool true]) (by simp [results, Tryz.results71, go_sem, *]) rfl ⟨rfl, (by repeat' (first | exact hM | refine Below.setCell ?_ ?_ _ | exact Nat.le_refl _))⟩
    · rw [if_neg ht] at hO2
      have cT := fun W hb' => tok_piece b s a 4 ⟨x.toArray⟩ x.length (by omega) W hb'
      rw [mk_list, hO2] at cT
      have htb : ((⟨x.toArray⟩ : ByteArray).toList == [35, 82, 69, 70, 33]) = false := by rw [ByteArray.toList_eq, beq_eq_false_iff_ne]; exact ht
      have hxs : (⟨x.toArray⟩ : ByteArray).size = x.length := rfl
      obtain ⟨X, hX⟩ : ∃ X : ByteArray, (⟨x.toArray⟩ : ByteArray) = X := ⟨_, rfl⟩
      rw [hX] at cT htb hxs hcw
      clear hO hO2 h1 h2 hxl ht hX
      rw [← hxs] at cT
      clear hxs
      obtain ⟨f0, g0, z0⟩ := hb.facts
      have yb : b ≠ w.heap.size := by omega
      clear f0 g0
      go_enter Tryz.func71, Tryz.ntmps71
      go_wp2_with fail
      refine calls_keep (fun W => Keep w [(w.heap.size, #[.int .i64 0, .string ⟨#[]⟩, .int .i64 0]), (b, rdC s a)] W) (Keep.add (by apply Blk.eq; (repeat' (first | with_reducible assumption | with_reducible apply Blk.set | with_reducible apply Blk.other | (with_reducible refine Blk.new ?_; simp; done) | with_reducible apply Blk.alloc | omega)); rfl) ((Keep.add hb (Keep.nil (Below.refl _ _))).below (by repeat' (first | with_reducible assumption | with_reducible exact Below.refl _ _ | with_reducible refine allocB ?_ | with_reducible refine setB ?_ ?_ | with_reducible refine drewB ?_ | with_reducible refine after ?_ (by assumption) | (simp; omega) | omega)))) ?_
      clear hb
      rintro wa K
      refine (cR wa K.tl.hd).mono ?_; rintro e w1 ⟨rfl, hb9⟩
      replace K := K.below hb9
      clear hb9
      go_wp2_with fail
      refine (cU w1 K.bel).mono ?_; rintro e w2 ⟨rfl, hb9⟩
      replace K := K.below hb9
      clear hb9
      go_upto_region 2 with fail
      refine wp_abs2 (fun W => Keep w [(w2.heap.size, #[.string U]), (w.heap.size, #[.int .i64 0, .string ⟨#[]⟩, .int .i64 0]), (b, rdC s a)] W) (Keep.add (by apply Blk.eq; (repeat' (first | with_reducible assumption | with_reducible apply Blk.set | with_reducible apply Blk.other | (with_reducible refine Blk.new ?_; simp; done) | with_reducible apply Blk.alloc | omega)); rfl) (K.below (by repeat' (first | with_reducible assumption | with_reducible exact Below.refl _ _ | with_reducible refine allocB ?_ | with_reducible refine setB ?_ ?_ | with_reducible refine drewB ?_ | with_reducible refine after ?_ (by assumption) | (simp; omega) | omega)))) ?_
      clear K
      rintro w3 K
      generalize w2.heap.size = bU at *
      have hg1 : w3.cell? ⟨1, 0, none⟩ = some (.slice (some ⟨B, g0, none⟩) 9 c) := by
        rw [← HG.out.1]; exact K.bel.cell (p := ⟨1, 0, none⟩) hgl
      go_wp2_with fail
      refine (hc bU w3 K.bel K.hd).mono ?_; rintro e w4 ⟨rfl, rfl⟩
      replace K := K.tl
      have hcell : w3.cell? ⟨B, g0 + j, none⟩ = some (.string X) := by
        rw [← hcw]; exact K.bel.cell (p := ⟨B, g0 + j, none⟩) hBl
      go_upto_region 7 with fail
      have kc := gcell w3
      have hz1 : 1 < w3.heap.size := Nat.lt_of_lt_of_le hgl K.bel.size
      have hz2 : B < w3.heap.size := Nat.lt_of_lt_of_le hBl K.bel.size
      refine region_below_edges 10 12 11 13 12 (by kernel_rfl) (by kernel_rfl) (by kernel_rfl) (by kernel_rfl) ?_
      unfold Tab.Ends
      simp only [addEdge, List.take_succ_cons, List.take_zero, List.drop_succ_cons, List.drop_zero]
      iterate 10 (quiet_step (fail))
      refine wpQuiet_nil ?_
      intro w5 hb9
      replace K := K.below hb9
      clear hb9 kc hz1 hz2
      go_wp2_with fail
      refine (cT w5 K.tl.hd).mono ?_
      cases O with
      | none =>
        rintro e w9 ⟨k9, S9, p9, rfl, hb9⟩
        replace K := K.below hb9
        have hb0 := K.bel
        obtain ⟨fr, gr, zr⟩ := K.hd.facts
        unfold tokV
        go_wp2
        exact bodyPost_ret (v := .tuple #[.agg #[.int .i64 k9, .string S9, .int .i64 p9], .bool false]) (by simp [results, Tryz.results71, go_sem, *]) rfl ⟨k9, S9, p9, rfl, (by repeat' (first | with_reducible assumption | with_reducible exact Below.refl _ _ | with_reducible refine allocB ?_ | with_reducible refine setB ?_ ?_ | with_reducible refine drewB ?_ | with_reducible refine after ?_ (by assumption) | (simp; omega) | omega))⟩
      | some x9 =>
        obtain ⟨k9, S9, n9⟩ := x9
        rintro e w9 ⟨rfl, hb9⟩
        have hM := Below.mv K.bel z0 hb9
        have hr := Blk.mv K.hd yb hb9
        obtain ⟨fr, gr, zr⟩ := hr.facts
        clear hb9 K
        unfold tokV
        go_wp2
        exact bodyPost_ret (v := .tuple #[.agg #[.int .i64 k9, .string ⟨S9.toArray⟩, .int .i64 (a : Int)], .bool true]) (by simp [results, Tryz.results71, go_sem, *]) rfl ⟨rfl, (by repeat' (first | exact hM | refine Below.setCell ?_ ?_ _ | exact Nat.le_refl _))⟩

end Go.Proofs.YtgnejohiagagmaaGreatDoor

namespace Tab
open Go
def nextPD (decE : Bs → Int) (l : Bs) : PieceD :=
  if digR (l.getD 0 0).toNat = true then numberPD decE l
  else if (l.getD 0 0).toNat = 34 then textPD l
  else if (l.getD 0 0).toNat = 35 then faultPD l
  else if (l.getD 0 0).toNat = 39 then sheetPD l
  else if wordR (l.getD 0 0).toNat = true ∧ (l.getD 0 0).toNat ≠ 46 then wordPD l
  else signPD l
end Tab
namespace Go.Proofs.YtgnejohiagagmaaGreatDoor
open Go.RowKit Tab

set_option maxRecDepth 100000 in
set_option maxHeartbeats 8000000 in
theorem nextP_any (decE : Bs → Int) (hD : DecIs decE) (b : Nat) (s : ByteArray) (a : Nat) (ha : a < s.size) (hs : s.size ≤ 1000) (w : World) (hg : Good w) (hb : Blk w b (rdC s a)) (hwd : Words w) : Calls Tryz.prog 40 #[.pointer (some ⟨b, 0, none⟩)] w (Piece b a (nextPD decE (s.data.toList.drop a)) w) := by
  have h0 : (s.data.toList.drop a).getD 0 0 = s[a] := by rw [drop_at s a ha]; rfl
  unfold nextPD
  rw [h0]
  have ew := byte_w32 s[a]
  have ew2 : IntKind.i32.wrap (s[a].toNat : Int) = (s[a].toNat : Int) := IntWalk.i32_in _ (by have := s[a].toNat_lt; omega)
  have cD := fun W => lexDigit_any s[a].toNat W
  have cW := fun W => lexWordy_any s[a].toNat W
  have p1 := fun W (hB : Below w.heap.size w W) hb' => numberP_any decE hD b s a ha hs W (hg.below hB) hb'
  have p2 := fun W (hB : Below w.heap.size w W) hb' => textP_any b s a ha hs W (hg.below hB) hb'
  have p3 := fun W (hB : Below w.heap.size w W) hb' => faultP_any b s a ha hs W (hg.below hB) hb' (hwd.below hB)
  have p4 := fun W (hB : Below w.heap.size w W) hb' => sheetP_any b s a ha hs W (hg.below hB) hb'
  have p5 := fun W (hB : Below w.heap.size w W) hb' => wordP_any b s a ha hs W (hg.below hB) hb'
  have p6 := fun W (hB : Below w.heap.size w W) hb' => signP_any b s a ha hs W (hg.below hB) hb' (hwd.below hB)
  generalize numberPD decE (s.data.toList.drop a) = o1 at *
  generalize textPD (s.data.toList.drop a) = o2 at *
  generalize faultPD (s.data.toList.drop a) = o3 at *
  generalize sheetPD (s.data.toList.drop a) = o4 at *
  generalize wordPD (s.data.toList.drop a) = o5 at *
  generalize signPD (s.data.toList.drop a) = o6 at *
  clear h0
  cases hd : digR s[a].toNat
  rotate_left
  · rw [if_pos rfl]
    rw [hd] at cD
    obtain ⟨f0, g0, z0⟩ := hb.facts
    have yb : b ≠ w.heap.size := by omega
    clear f0 g0
    go_enter Tryz.func40, Tryz.ntmps40
    go_upto_region 2 with fail
    refine wp_abs2 (fun W => Keep w [(w.heap.size, #[.int .i64 0, .string ⟨#[]⟩, .int .i64 0]), (b, rdC s a)] W) (Keep.add (by apply Blk.eq; (repeat' (first | with_reducible assumption | with_reducible apply Blk.set | with_reducible apply Blk.other | (with_reducible refine Blk.new ?_; simp; done) | with_reducible apply Blk.alloc | omega)); rfl) ((Keep.add hb (Keep.nil (Below.refl _ _))).below (by repeat' (first | with_reducible assumption | with_reducible exact Below.refl _ _ | with_reducible refine allocB ?_ | with_reducible refine setB ?_ ?_ | with_reducible refine drewB ?_ | with_reducible refine after ?_ (by assumption) | (simp; omega) | omega)))) ?_
    clear hb
    rintro wa K
    obtain ⟨fb, gb, zb⟩ := K.tl.hd.facts
    unfold rdC at fb
    have kc := gcell wa
    refine region_below (by kernel_rfl) (by kernel_rfl) ?_
    repeat (quiet_step (fail))
    refine wpQuiet_nil ?_
    intro w1 hb9
    replace K := K.below hb9
    clear hb9 kc fb gb zb
    go_wp2_with fail
    refine (cD w1).mono ?_; rintro e w2 ⟨rfl, rfl⟩
    go_wp2_with fail
    refine (p1 _ K.bel K.tl.hd).mono ?_
    cases o1 with
    | none =>
      rintro e w9 ⟨k9, S9, p9, rfl, hb9⟩
      replace K := K.below hb9
      have hb0 := K.bel
      obtain ⟨fr, gr, zr⟩ := K.hd.facts
      unfold tokV
      go_wp2
      exact bodyPost_ret (v := .tuple #[.agg #[.int .i64 k9, .string S9, .int .i64 p9], .bool false]) (by simp [results, Tryz.results40, go_sem, *]) rfl ⟨k9, S9, p9, rfl, (by repeat' (first | with_reducible assumption | with_reducible exact Below.refl _ _ | with_reducible refine allocB ?_ | with_reducible refine setB ?_ ?_ | with_reducible refine drewB ?_ | with_reducible refine after ?_ (by assumption) | (simp; omega) | omega))⟩
    | some x9 =>
      obtain ⟨k9, S9, n9⟩ := x9
      rintro e w9 ⟨rfl, hb9⟩
      have hM := Below.mv K.bel z0 hb9
      have hr := Blk.mv K.hd yb hb9
      obtain ⟨fr, gr, zr⟩ := hr.facts
      clear hb9 K
      unfold tokV
      go_wp2
      exact bodyPost_ret (v := .tuple #[.agg #[.int .i64 k9, .string ⟨S9.toArray⟩, .int .i64 (a : Int)], .bool true]) (by simp [results, Tryz.results40, go_sem, *]) rfl ⟨rfl, (by repeat' (first | exact hM | refine Below.setCell ?_ ?_ _ | exact Nat.le_refl _))⟩
  rw [if_neg Bool.false_ne_true]
  rw [hd] at cD
  by_cases h34 : s[a].toNat = 34
  · rw [if_pos h34]
    have e34 : ((s[a].toNat : Int) == 34) = true := beq_iff_eq.2 (by omega)
    clear h34
    obtain ⟨f0, g0, z0⟩ := hb.facts
    have yb : b ≠ w.heap.size := by omega
    clear f0 g0
    go_enter Tryz.func40, Tryz.ntmps40
    go_upto_region 2 with fail
    refine wp_abs2 (fun W => Keep w [(w.heap.size, #[.int .i64 0, .string ⟨#[]⟩, .int .i64 0]), (b, rdC s a)] W) (Keep.add (by apply Blk.eq; (repeat' (first | with_reducible assumption | with_reducible apply Blk.set | with_reducible apply Blk.other | (with_reducible refine Blk.new ?_; simp; done) | with_reducible apply Blk.alloc | omega)); rfl) ((Keep.add hb (Keep.nil (Below.refl _ _))).below (by repeat' (first | with_reducible assumption | with_reducible exact Below.refl _ _ | with_reducible refine allocB ?_ | with_reducible refine setB ?_ ?_ | with_reducible refine drewB ?_ | with_reducible refine after ?_ (by assumption) | (simp; omega) | omega)))) ?_
    clear hb
    rintro wa K
    obtain ⟨fb, gb, zb⟩ := K.tl.hd.facts
    unfold rdC at fb
    have kc := gcell wa
    refine region_below (by kernel_rfl) (by kernel_rfl) ?_
    repeat (quiet_step (fail))
    refine wpQuiet_nil ?_
    intro w1 hb9
    replace K := K.below hb9
    clear hb9 kc fb gb zb
    go_wp2_with fail
    refine (cD w1).mono ?_; rintro e w2 ⟨rfl, rfl⟩
    go_wp2_with fail
    refine (p2 _ K.bel K.tl.hd).mono ?_
    cases o2 with
    | none =>
      rintro e w9 ⟨k9, S9, p9, rfl, hb9⟩
      replace K := K.below hb9
      have hb0 := K.bel
      obtain ⟨fr, gr, zr⟩ := K.hd.facts
      unfold tokV
      go_wp2
      exact bodyPost_ret (v := .tuple #[.agg #[.int .i64 k9, .string S9, .int .i64 p9], .bool false]) (by simp [results, Tryz.results40, go_sem, *]) rfl ⟨k9, S9, p9, rfl, (by repeat' (first | with_reducible assumption | with_reducible exact Below.refl _ _ | with_reducible refine allocB ?_ | with_reducible refine setB ?_ ?_ | with_reducible refine drewB ?_ | with_reducible refine after ?_ (by assumption) | (simp; omega) | omega))⟩
    | some x9 =>
      obtain ⟨k9, S9, n9⟩ := x9
      rintro e w9 ⟨rfl, hb9⟩
      have hM := Below.mv K.bel z0 hb9
      have hr := Blk.mv K.hd yb hb9
      obtain ⟨fr, gr, zr⟩ := hr.facts
      clear hb9 K
      unfold tokV
      go_wp2
      exact bodyPost_ret (v := .tuple #[.agg #[.int .i64 k9, .string ⟨S9.toArray⟩, .int .i64 (a : Int)], .bool true]) (by simp [results, Tryz.results40, go_sem, *]) rfl ⟨rfl, (by repeat' (first | exact hM | refine Below.setCell ?_ ?_ _ | exact Nat.le_refl _))⟩
  rw [if_neg h34]
  have e34 : ((s[a].toNat : Int) == 34) = false := beq_eq_false_iff_ne.2 (by omega)
  by_cases h35 : s[a].toNat = 35
  · rw [if_pos h35]
    have e35 : ((s[a].toNat : Int) == 35) = true := beq_iff_eq.2 (by omega)
    clear h35
    obtain ⟨f0, g0, z0⟩ := hb.facts
    have yb : b ≠ w.heap.size := by omega
    clear f0 g0
    go_enter Tryz.func40, Tryz.ntmps40
    go_upto_region 2 with fail
    refine wp_abs2 (fun W => Keep w [(w.heap.size, #[.int .i64 0, .string ⟨#[]⟩, .int .i64 0]), (b, rdC s a)] W) (Keep.add (by apply Blk.eq; (repeat' (first | with_reducible assumption | with_reducible apply Blk.set | with_reducible apply Blk.other | (with_reducible refine Blk.new ?_; simp; done) | with_reducible apply Blk.alloc | omega)); rfl) ((Keep.add hb (Keep.nil (Below.refl _ _))).below (by repeat' (first | with_reducible assumption | with_reducible exact Below.refl _ _ | with_reducible refine allocB ?_ | with_reducible refine setB ?_ ?_ | with_reducible refine drewB ?_ | with_reducible refine after ?_ (by assumption) | (simp; omega) | omega)))) ?_
    clear hb
    rintro wa K
    obtain ⟨fb, gb, zb⟩ := K.tl.hd.facts
    unfold rdC at fb
    have kc := gcell wa
    refine region_below (by kernel_rfl) (by kernel_rfl) ?_
    repeat (quiet_step (fail))
    refine wpQuiet_nil ?_
    intro w1 hb9
    replace K := K.below hb9
    clear hb9 kc fb gb zb
    go_wp2_with fail
    refine (cD w1).mono ?_; rintro e w2 ⟨rfl, rfl⟩
    go_wp2_with fail
    refine (p3 _ K.bel K.tl.hd).mono ?_
    cases o3 with
    | none =>
      rintro e w9 ⟨k9, S9, p9, rfl, hb9⟩
      replace K := K.below hb9
      have hb0 := K.bel
      obtain ⟨fr, gr, zr⟩ := K.hd.facts
      unfold tokV
      go_wp2
      exact bodyPost_ret (v := .tuple #[.agg #[.int .i64 k9, .string S9, .int .i64 p9], .bool false]) (by simp [results, Tryz.results40, go_sem, *]) rfl ⟨k9, S9, p9, rfl, (by repeat' (first | with_reducible assumption | with_reducible exact Below.refl _ _ | with_reducible refine allocB ?_ | with_reducible refine setB ?_ ?_ | with_reducible refine drewB ?_ | with_reducible refine after ?_ (by assumption) | (simp; omega) | omega))⟩
    | some x9 =>
      obtain ⟨k9, S9, n9⟩ := x9
      rintro e w9 ⟨rfl, hb9⟩
      have hM := Below.mv K.bel z0 hb9
      have hr := Blk.mv K.hd yb hb9
      obtain ⟨fr, gr, zr⟩ := hr.facts
      clear hb9 K
      unfold tokV
      go_wp2
      exact bodyPost_ret (v := .tuple #[.agg #[.int .i64 k9, .string ⟨S9.toArray⟩, .int .i64 (a : Int)], .bool true]) (by simp [results, Tryz.results40, go_sem, *]) rfl ⟨rfl, (by repeat' (first | exact hM | refine Below.setCell ?_ ?_ _ | exact Nat.le_refl _))⟩
  rw [if_neg h35]
  have e35 : ((s[a].toNat : Int) == 35) = false := beq_eq_false_iff_ne.2 (by omega)
  by_cases h39 : s[a].toNat = 39
  · rw [if_pos h39]
    have e39 : ((s[a].toNat : Int) == 39) = true := beq_iff_eq.2 (by omega)
    clear h39
    obtain ⟨f0, g0, z0⟩ := hb.facts
    have yb : b ≠ w.heap.size := by omega
    clear f0 g0
    go_enter Tryz.func40, Tryz.ntmps40
    go_upto_region 2 with fail
    refine wp_abs2 (fun W => Keep w [(w.heap.size, #[.int .i64 0, .string ⟨#[]⟩, .int .i64 0]), (b, rdC s a)] W) (Keep.add (by apply Blk.eq; (repeat' (first | with_reducible assumption | with_reducible apply Blk.set | with_reducible apply Blk.other | (with_reducible refine Blk.new ?_; simp; done) | with_reducible apply Blk.alloc | omega)); rfl) ((Keep.add hb (Keep.nil (Below.refl _ _))).below (by repeat' (first | with_reducible assumption | with_reducible exact Below.refl _ _ | with_reducible refine allocB ?_ | with_reducible refine setB ?_ ?_ | with_reducible refine drewB ?_ | with_reducible refine after ?_ (by assumption) | (simp; omega) | omega)))) ?_
    clear hb
    rintro wa K
    obtain ⟨fb, gb, zb⟩ := K.tl.hd.facts
    unfold rdC at fb
    have kc := gcell wa
    refine region_below (by kernel_rfl) (by kernel_rfl) ?_
    repeat (quiet_step (fail))
    refine wpQuiet_nil ?_
    intro w1 hb9
    replace K := K.below hb9
    clear hb9 kc fb gb zb
    go_wp2_with fail
    refine (cD w1).mono ?_; rintro e w2 ⟨rfl, rfl⟩
    go_wp2_with fail
    refine (p4 _ K.bel K.tl.hd).mono ?_
    cases o4 with
    | none =>
      rintro e w9 ⟨k9, S9, p9, rfl, hb9⟩
      replace K := K.below hb9
      have hb0 := K.bel
      obtain ⟨fr, gr, zr⟩ := K.hd.facts
      unfold tokV
      go_wp2
      exact bodyPost_ret (v := .tuple #[.agg #[.int .i64 k9, .string S9, .int .i64 p9], .bool false]) (by simp [results, Tryz.results40, go_sem, *]) rfl ⟨k9, S9, p9, rfl, (by repeat' (first | with_reducible assumption | with_reducible exact Below.refl _ _ | with_reducible refine allocB ?_ | with_reducible refine setB ?_ ?_ | with_reducible refine drewB ?_ | with_reducible refine after ?_ (by assumption) | (simp; omega) | omega))⟩
    | some x9 =>
      obtain ⟨k9, S9, n9⟩ := x9
      rintro e w9 ⟨rfl, hb9⟩
      have hM := Below.mv K.bel z0 hb9
      have hr := Blk.mv K.hd yb hb9
      obtain ⟨fr, gr, zr⟩ := hr.facts
      clear hb9 K
      unfold tokV
      go_wp2
      exact bodyPost_ret (v := .tuple #[.agg #[.int .i64 k9, .string ⟨S9.toArray⟩, .int .i64 (a : Int)], .bool true]) (by simp [results, Tryz.results40, go_sem, *]) rfl ⟨rfl, (by repeat' (first | exact hM | refine Below.setCell ?_ ?_ _ | exact Nat.le_refl _))⟩
  rw [if_neg h39]
  have e39 : ((s[a].toNat : Int) == 39) = false := beq_eq_false_iff_ne.2 (by omega)
  cases hw : wordR s[a].toNat
  · rw [if_neg (fun h => Bool.false_ne_true h.1)]
    rw [hw] at cW
    obtain ⟨f0, g0, z0⟩ := hb.facts
    have yb : b ≠ w.heap.size := by omega
    clear f0 g0
    go_enter Tryz.func40, Tryz.ntmps40
    go_upto_region 2 with fail
    refine wp_abs2 (fun W => Keep w [(w.heap.size, #[.int .i64 0, .string ⟨#[]⟩, .int .i64 0]), (b, rdC s a)] W) (Keep.add (by apply Blk.eq; (repeat' (first | with_reducible assumption | with_reducible apply Blk.set | with_reducible apply Blk.other | (with_reducible refine Blk.new ?_; simp; done) | with_reducible apply Blk.alloc | omega)); rfl) ((Keep.add hb (Keep.nil (Below.refl _ _))).below (by repeat' (first | with_reducible assumption | with_reducible exact Below.refl _ _ | with_reducible refine allocB ?_ | with_reducible refine setB ?_ ?_ | with_reducible refine drewB ?_ | with_reducible refine after ?_ (by assumption) | (simp; omega) | omega)))) ?_
    clear hb
    rintro wa K
    obtain ⟨fb, gb, zb⟩ := K.tl.hd.facts
    unfold rdC at fb
    have kc := gcell wa
    refine region_below (by kernel_rfl) (by kernel_rfl) ?_
    repeat (quiet_step (fail))
    refine wpQuiet_nil ?_
    intro w1 hb9
    replace K := K.below hb9
    clear hb9 kc fb gb zb
    go_wp2_with fail
    refine (cD w1).mono ?_; rintro e w2 ⟨rfl, rfl⟩
    go_wp2_with fail
    refine (cW w1).mono ?_; rintro e w3 ⟨rfl, rfl⟩
    go_wp2_with fail
    refine (p6 _ K.bel K.tl.hd).mono ?_
    cases o6 with
    | none =>
      rintro e w9 ⟨k9, S9, p9, rfl, hb9⟩
      replace K := K.below hb9
      have hb0 := K.bel
      obtain ⟨fr, gr, zr⟩ := K.hd.facts
      unfold tokV
      go_wp2
      exact bodyPost_ret (v := .tuple #[.agg #[.int .i64 k9, .string S9, .int .i64 p9], .bool false]) (by simp [results, Tryz.results40, go_sem, *]) rfl ⟨k9, S9, p9, rfl, (by repeat' (first | with_reducible assumption | with_reducible exact Below.refl _ _ | with_reducible refine allocB ?_ | with_reducible refine setB ?_ ?_ | with_reducible refine drewB ?_ | with_reducible refine after ?_ (by assumption) | (simp; omega) | omega))⟩
    | some x9 =>
      obtain ⟨k9, S9, n9⟩ := x9
      rintro e w9 ⟨rfl, hb9⟩
      have hM := Below.mv K.bel z0 hb9
      have hr := Blk.mv K.hd yb hb9
      obtain ⟨fr, gr, zr⟩ := hr.facts
      clear hb9 K
      unfold tokV
      go_wp2
      exact bodyPost_ret (v := .tuple #[.agg #[.int .i64 k9, .string ⟨S9.toArray⟩, .int .i64 (a : Int)], .bool true]) (by simp [results, Tryz.results40, go_sem, *]) rfl ⟨rfl, (by repeat' (first | exact hM | refine Below.setCell ?_ ?_ _ | exact Nat.le_refl _))⟩
  rw [hw] at cW
  by_cases h46 : s[a].toNat = 46
  · rw [if_neg (fun h => h.2 h46)]
    have e46 : ((s[a].toNat : Int) != 46) = false := by rw [bne_eq_false_iff_eq]; omega
    clear h46
    obtain ⟨f0, g0, z0⟩ := hb.facts
    have yb : b ≠ w.heap.size := by omega
    clear f0 g0
    go_enter Tryz.func40, Tryz.ntmps40
    go_upto_region 2 with fail
    refine wp_abs2 (fun W => Keep w [(w.heap.size, #[.int .i64 0, .string ⟨#[]⟩, .int .i64 0]), (b, rdC s a)] W) (Keep.add (by apply Blk.eq; (repeat' (first | with_reducible assumption | with_reducible apply Blk.set | with_reducible apply Blk.other | (with_reducible refine Blk.new ?_; simp; done) | with_reducible apply Blk.alloc | omega)); rfl) ((Keep.add hb (Keep.nil (Below.refl _ _))).below (by repeat' (first | with_reducible assumption | with_reducible exact Below.refl _ _ | with_reducible refine allocB ?_ | with_reducible refine setB ?_ ?_ | with_reducible refine drewB ?_ | with_reducible refine after ?_ (by assumption) | (simp; omega) | omega)))) ?_
    clear hb
    rintro wa K
    obtain ⟨fb, gb, zb⟩ := K.tl.hd.facts
    unfold rdC at fb
    have kc := gcell wa
    refine region_below (by kernel_rfl) (by kernel_rfl) ?_
    repeat (quiet_step (fail))
    refine wpQuiet_nil ?_
    intro w1 hb9
    replace K := K.below hb9
    clear hb9 kc fb gb zb
    go_wp2_with fail
    refine (cD w1).mono ?_; rintro e w2 ⟨rfl, rfl⟩
    go_wp2_with fail
    refine (cW w1).mono ?_; rintro e w3 ⟨rfl, rfl⟩
    go_wp2_with fail
    refine (p6 _ K.bel K.tl.hd).mono ?_
    cases o6 with
    | none =>
      rintro e w9 ⟨k9, S9, p9, rfl, hb9⟩
      replace K := K.below hb9
      have hb0 := K.bel
      obtain ⟨fr, gr, zr⟩ := K.hd.facts
      unfold tokV
      go_wp2
      exact bodyPost_ret (v := .tuple #[.agg #[.int .i64 k9, .string S9, .int .i64 p9], .bool false]) (by simp [results, Tryz.results40, go_sem, *]) rfl ⟨k9, S9, p9, rfl, (by repeat' (first | with_reducible assumption | with_reducible exact Below.refl _ _ | with_reducible refine allocB ?_ | with_reducible refine setB ?_ ?_ | with_reducible refine drewB ?_ | with_reducible refine after ?_ (by assumption) | (simp; omega) | omega))⟩
    | some x9 =>
      obtain ⟨k9, S9, n9⟩ := x9
      rintro e w9 ⟨rfl, hb9⟩
      have hM := Below.mv K.bel z0 hb9
      have hr := Blk.mv K.hd yb hb9
      obtain ⟨fr, gr, zr⟩ := hr.facts
      clear hb9 K
      unfold tokV
      go_wp2
      exact bodyPost_ret (v := .tuple #[.agg #[.int .i64 k9, .string ⟨S9.toArray⟩, .int .i64 (a : Int)], .bool true]) (by simp [results, Tryz.results40, go_sem, *]) rfl ⟨rfl, (by repeat' (first | exact hM | refine Below.setCell ?_ ?_ _ | exact Nat.le_refl _))⟩
  rw [if_pos ⟨rfl, h46⟩]
  have e46 : ((s[a].toNat : Int) != 46) = true := by rw [bne_iff_ne]; omega
  obtain ⟨f0, g0, z0⟩ := hb.facts
  have yb : b ≠ w.heap.size := by omega
  clear f0 g0
  go_enter Tryz.func40, Tryz.ntmps40
  go_upto_region 2 with fail
  refine wp_abs2 (fun W => Keep w [(w.heap.size, #[.int .i64 0, .string ⟨#[]⟩, .int .i64 0]), (b, rdC s a)] W) (Keep.add (by apply Blk.eq; (repeat' (first | with_reducible assumption | with_reducible apply Blk.set | with_reducible apply Blk.other | (with_reducible refine Blk.new ?_; simp; done) | with_reducible apply Blk.alloc | omega)); rfl) ((Keep.add hb (Keep.nil (Below.refl _ _))).below (by repeat' (first | with_reducible assumption | with_reducible exact Below.refl _ _ | with_reducible refine allocB ?_ | with_reducible refine setB ?_ ?_ | with_reducible refine drewB ?_ | with_reducible refine after ?_ (by assumption) | (simp; omega) | omega)))) ?_
  clear hb
  rintro wa K
  obtain ⟨fb, gb, zb⟩ := K.tl.hd.facts
  unfold rdC at fb
  have kc := gcell wa
  refine region_below (by kernel_rfl) (by kernel_rfl) ?_
  repeat (quiet_step (fail))
  refine wpQuiet_nil ?_
  intro w1 hb9
  replace K := K.below hb9
  clear hb9 kc fb gb zb
  go_wp2_with fail
  refine (cD w1).mono ?_; rintro e w2 ⟨rfl, rfl⟩
  go_wp2_with fail
  refine (cW w1).mono ?_; rintro e w3 ⟨rfl, rfl⟩
  go_wp2_with fail
  refine (p5 _ K.bel K.tl.hd).mono ?_
  cases o5 with
  | none =>
    rintro e w9 ⟨k9, S9, p9, rfl, hb9⟩
    replace K := K.below hb9
    have hb0 := K.bel
    obtain ⟨fr, gr, zr⟩ := K.hd.facts
    unfold tokV
    go_wp2
    exact bodyPost_ret (v := .tuple #[.agg #[.int .i64 k9, .string S9, .int .i64 p9], .bool false]) (by simp [results, Tryz.results40, go_sem, *]) rfl ⟨k9, S9, p9, rfl, (by repeat' (first | with_reducible assumption | with_reducible exact Below.refl _ _ | with_reducible refine allocB ?_ | with_reducible refine setB ?_ ?_ | with_reducible refine drewB ?_ | with_reducible refine after ?_ (by assumption) | (simp; omega) | omega))⟩
  | some x9 =>
    obtain ⟨k9, S9, n9⟩ := x9
    rintro e w9 ⟨rfl, hb9⟩
    have hM := Below.mv K.bel z0 hb9
    have hr := Blk.mv K.hd yb hb9
    obtain ⟨fr, gr, zr⟩ := hr.facts
    clear hb9 K
    unfold tokV
    go_wp2
    exact bodyPost_ret (v := .tuple #[.agg #[.int .i64 k9, .string ⟨S9.toArray⟩, .int .i64 (a : Int)], .bool true]) (by simp [results, Tryz.results40, go_sem, *]) rfl ⟨rfl, (by repeat' (first | exact hM | refine Below.setCell ?_ ?_ _ | exact Nat.le_refl _))⟩

end Go.Proofs.YtgnejohiagagmaaGreatDoor
