/- (The lexer's seat: after XFrame.) The worlds that a row of this seat speaks of are such that the contracts hold (Good); the frame of a row's proof. How a row's arguments are opened, and read again behind the call: structs by value. The package's words out of what a row lists. -/
import Derived.Test.YtgnejohiagagmaaGreatDoorG2
import Derived.Test.YtgnejohiagagmaaGreatDoorRows
import Derived.Lib.LaidU8T
import Derived.Lib.LaidTab
import Derived.HandedShaped
import Derived.ProofKit
import Derived.OpenShut
import Derived.JoinedOf
import Derived.ChangeSame
import Derived.LaidMore
import Derived.Stop.Joined
import Derived.Test.YtgnejohiagagmaaGreatDoorG4
import Derived.SevenTiedAt
import Derived.Carry
import Derived.Deep.Fields
import Derived.Test.YtgnejohiagagmaaGreatDoorG8
import Derived.Deep.MidRow
namespace Go.Proofs.YtgnejohiagagmaaGreatDoor
open Go.ChangeShapes Go.WideShapes Go.RowKit Go.Shelf

theorem own : ownKnob Tryz.prog.godebug = none := by kernel_rfl
/-- what the rows list. -/
def listed : List (String × DataW Unit) := Rows.lexTellsRow.laid

theorem errVar {W : World} {n nm : String} {d : DataW Unit} {g t : Nat} {ms : Array (String × TypeId)} (hg : Tryz.prog.globalNamed n = some g) (ht : (Tryz.prog.globals[g]?).map (·.type) = some t) (hi : Tryz.prog.underlying t = some (.interface ms))
    (h : Lib.VarReads Tryz.prog W n (.iface nm d)) : ∃ tp p, W.var? Tryz.prog n = some #[.iface tp p] := by
  obtain ⟨g', t', cs, fuel, p, hg', ht', hv, hd⟩ := h
  obtain rfl := Option.some.inj (hg.symm.trans hg')
  obtain rfl := Option.some.inj (ht.symm.trans ht')
  obtain ⟨_, u, v, e, _, _⟩ := iface_of_trod hi hd
  refine ⟨u, v, ?_⟩
  rw [hv]
  obtain ⟨cs⟩ := cs
  dsimp only at e
  rw [e]

theorem low_of {W : World} (hs : W.ShapedOpen Tryz.prog) : 12 ≤ W.heap.size := by
  have h0 : (((begin Tryz.prog (fun _ _ => 0) default).world.heap[11]?).bind Obj.row?).isSome = true := by kernel_rfl
  obtain ⟨⟨zero, t⟩, h1⟩ := Option.isSome_iff_exists.1 h0
  obtain ⟨cs, hc, _, _⟩ := hs.1 11 zero t (of_decide_eq_true (by kernel_rfl)) h1
  rcases Nat.lt_or_ge 11 W.heap.size with h | h
  · exact h
  · rw [Array.getElem?_eq_none h] at hc; cases hc
theorem gFirst : Tryz.prog.globalNamed "unicode/utf8.first" = some 5 := by kernel_rfl
theorem gAccept : Tryz.prog.globalNamed "unicode/utf8.acceptRanges" = some 6 := by kernel_rfl
theorem good_of_laid {W : World} (h : laidMetH Tryz.prog listed W) (hs : W.ShapedOpen Tryz.prog) : Good W := by
  have hl : laidMet Tryz.prog listed W := by
    have e := MakeChecks.laidMetH_plain Tryz.prog listed W (by kernel_rfl)
    rw [e] at h; exact h
  have r := fun n d hm => Lib.laidMet.reads (n := n) (d := d) hl hm
  have hpow : Lib.TabIs Tryz.prog W "internal/strconv.uint64pow10" .u64 Lib.pow10Tab := by
    obtain ⟨g', t', cs, fuel, p, hg', ht', hv, hd⟩ := r "internal/strconv.uint64pow10" (Lib.tabData .u64 Lib.pow10Tab) (.tail _ (.tail _ (.head _)))
    obtain rfl := Option.some.inj (gPow.symm.trans hg')
    obtain rfl := Option.some.inj ((show (Tryz.prog.globals[9]?).map (·.type) = some 183 from by kernel_rfl).symm.trans ht')
    unfold Lib.TabIs
    rw [hv, ← Lib.cells_of_tab Tryz.underlying183 Tryz.underlying99 (by kernel_rfl) (by kernel_rfl) hd]
  have h3 : Lib.VarReads Tryz.prog W "unicode/utf8.first" Lib.firstData := by
    have := r "unicode/utf8.first" Rows.laid_unicode_utf8_first (.tail _ (.tail _ (.tail _ (.tail _ (.tail _ (.tail _ (.tail _ (.tail _ (.head _)))))))))
    rwa [show (Rows.laid_unicode_utf8_first : DataW Unit) = Lib.firstData from by kernel_rfl] at this
  have h4 : Lib.VarReads Tryz.prog W "unicode/utf8.acceptRanges" Lib.acceptData := by
    have := r "unicode/utf8.acceptRanges" Rows.laid_unicode_utf8_acceptRanges (.tail _ (.tail _ (.tail _ (.head _))))
    rwa [show (Rows.laid_unicode_utf8_acceptRanges : DataW Unit) = Lib.acceptData from by kernel_rfl] at this
  exact {
    shaped := hs
    low := low_of hs
    u8 := utf8Tabs_of_readsT (ρ := Tryz.lays196_ren) (U8Types.of196 Tryz.lays196) ⟨by kernel_rfl, by kernel_rfl, by kernel_rfl, by kernel_rfl, by kernel_rfl, by kernel_rfl, by kernel_rfl⟩ h3 h4
    pow := hpow
    syn := errVar gSyn (t := 55) (by kernel_rfl) Tryz.underlying55 (r _ _ (.tail _ (.tail _ (.tail _ (.tail _ (.tail _ (.head _)))))))
    rng := errVar gRng (t := 55) (by kernel_rfl) Tryz.underlying55 (r _ _ (.tail _ (.tail _ (.tail _ (.tail _ (.head _))))))
  }

/-- the plain wrap, with what the row lists, and the world's shape. -/
theorem handed_both {H : Type} {enc : TypeId × Value → H} {a : Assume} {C : Checked} {os : Os} {f : FuncId} {fn : Func} {s : ChangeSpec} {conds : List PathCond} {apart fresh handsOn again : Bool} {X : World → Array Value → Prop}
    (hX : ∀ (w w' : World) (args : Array Value), w.heap = w'.heap → X w args → X w' args)
    (own : ownKnob C.prog.godebug = none) (started : os.Started) (noInit : C.prog.inits.idxOf? f = none) (hfn : C.prog.funcs[f]? = some fn)
    (witness : ∃ (w : World) (tape : Tape) (i : Input), w.os = os ∧ (w.forCall tape i).Shaped C.prog ∧ i.vars = [] ∧ Input.okWide C.prog (w.forCall tape i) .any w.heap.size f i ∧
      ((s.pre enc C.prog fn conds apart (w.forCall tape i).memory i.args ∧ X (w.forCall tape i).memory i.args) ∧ sizedMet enc C.prog fn (OpenSpec.ofChange s) apart (w.forCall tape i).memory i.args) ∧ a.holds C.prog (lone (Frame.enter C.prog f i.args .normal) [] (w.forCall tape i)))
    (contract : ∀ (W : World) (base : Nat) (args : Array Value) (ds gs : List (DataW H)) (before : List MemPlace),
      (∀ (j : Nat) t v, fn.params[j]? = some t → args[j]? = some v → Value.okWide C.prog W .any base t v) →
      DataW.Whole enc C.prog fn.params.toList s.vars apart W args.toList ds gs before →
      conds.all (PathCond.test C.prog ⟨fn.params.toList, ds, s.plain.varTypes C.prog, gs⟩) = true →
      (DataW.weightsEach C.prog (fn.params.toList ++ s.plain.varTypes C.prog) (ds ++ gs)).all (· ≤ reachBytes) = true → X W args → W.ShapedOpen C.prog →
      a.holds C.prog (lone (Frame.enter C.prog f args .normal) [] W) →
      Calls C.prog f args W fun e W' => ∃ v, e = .returned v ∧ s.post enc C.prog fn apart fresh handsOn again W args v W') :
    ReturnsInHanded a C os f .any (fun w args => (s.pre enc C.prog fn conds apart w args ∧ X w args) ∧ sizedMet enc C.prog fn (OpenSpec.ofChange s) apart w args) (s.post enc C.prog fn apart fresh handsOn again) := by
  refine returnsInHanded_of_calls own started noInit witness ?_
  intro w tape i _ hsh _ hok hpre hholds
  obtain ⟨_, _, _, fn', hfn', _, _, _, _, hval⟩ := hok
  have e : fn' = fn := Option.some.inj (hfn'.symm.trans hfn)
  subst e
  obtain ⟨⟨⟨ds, gs, before, hw, hc⟩, hx⟩, hz⟩ := hpre
  have hw' := DataW.Whole.of_heap (w' := w.forCall tape i) (by rfl) hw
  refine (contract (w.forCall tape i) w.heap.size i.args ds gs before hval hw' hc (hz.weights hw) (hX _ _ _ (by rfl) hx) hsh hholds).mono fun e W' ⟨v, he, hp⟩ => ?_
  subst he
  exact ChangeSpec.post_blind hp

/-- A world that meets the condition: the door's own heap, the pinned table laid. -/
noncomputable def laidW (os : Os) : World :=
  let w0 := World.doorLaid Tryz.prog 4000 os
  { w0 with heap := w0.heap.modify 5 fun
      | .cells _ t f => .cells (Lib.firstTab.map fun z => Value.int .u8 z).toArray t f
      | o => o }
set_option maxRecDepth 1000000 in
theorem door_met (os : Os) (args : Array Value) : laidMetH Tryz.prog listed ((laidW os).forCall (fun _ _ => 0) ⟨#[], args, []⟩).memory :=
  laidMetH_of_parts3 (fuel := 8) (laidMet_of_run' 8 (by kernel_rfl) (by kernel_rfl)) (by kernel_rfl) (by kernel_rfl)
end Go.Proofs.YtgnejohiagagmaaGreatDoor

namespace Go.Proofs.YtgnejohiagagmaaGreatDoor
open Go.ChangeShapes Go.WideShapes Go.RowKit Go.ChangeMaps Go.Deep

theorem int64_of {n : Int} (h : (Lit.int .i64 n).wf = true) : Int64 n := by
  have e1 : IntKind.i64.min = -9223372036854775808 := rfl
  have e2 : IntKind.i64.max = 9223372036854775807 := rfl
  simp [Lit.wf, e1, e2] at h
  exact ⟨by omega, by omega⟩

section
variable {H : Type} {enc : TypeId × Value → H} {P : Program}
/-- what was read reads as it did where nothing old has turned. -/
theorem trodAll_back (hl : laidOutB P = true) {W W' : World} (hb : Below W.heap.size W W') : ∀ {ts : List TypeId} {vs : List Value} {ds : List (DataW H)} {ps : List MemPlace},
    (ts.all fun t => P.readableRec t && decide (t < P.types.size)) = true → DataW.TrodAll enc P W 0 (fun _ => true) true ts vs ds ps → (∀ x ∈ ps, x.block < W.heap.size) →
    DataW.TrodAll enc P W' 0 (fun b => decide (b < W.heap.size)) true ts vs ds ps
  | [], [], [], _, _, h, _ => h
  | t :: _, _ :: _, _ :: _, _, hr, ⟨p, q, h1, h2, e⟩, hs => by
    rw [List.all_cons, Bool.and_eq_true, Bool.and_eq_true, decide_eq_true_iff] at hr
    exact ⟨p, q, Below.trod hl hr.1.1 hr.1.2 h1 hb (fun x hx => hs x (by rw [e]; exact List.mem_append_left _ hx)), trodAll_back hl hb hr.2 h2 (fun x hx => hs x (by rw [e]; exact List.mem_append_right _ hx)), e⟩

theorem array3 {α : Type} {cs : Array α} (h : cs.size = 3) : ∃ c0 c1 c2, cs = #[c0, c1, c2] := by
  obtain ⟨l⟩ := cs
  match l, h with
  | [c0, c1, c2], _ => exact ⟨c0, c1, c2, rfl⟩
theorem array5 {α : Type} {cs : Array α} (h : cs.size = 5) : ∃ c0 c1 c2 c3 c4, cs = #[c0, c1, c2, c3, c4] := by
  obtain ⟨l⟩ := cs
  match l, h with
  | [c0, c1, c2, c3, c4], _ => exact ⟨c0, c1, c2, c3, c4, rfl⟩
theorem array6 {α : Type} {cs : Array α} (h : cs.size = 6) : ∃ c0 c1 c2 c3 c4 c5, cs = #[c0, c1, c2, c3, c4, c5] := by
  obtain ⟨l⟩ := cs
  match l, h with
  | [c0, c1, c2, c3, c4, c5], _ => exact ⟨c0, c1, c2, c3, c4, c5, rfl⟩
/-- a struct's field of one cell. -/
theorem field_trod {W : World} {base : Nat} {sp : Nat → Bool} {held : Bool} {t : TypeId} {fs : Array Field} {cs : Array Value} {d : DataW H} {p : List MemPlace} (hs : P.underlying t = some (.struct fs)) (hone : oneCellFields P fs = true)
    (h : DataW.Trod enc P W base sp held t (.agg cs) d p) (i : Nat) (f : Field) (v : Value) (hf : fs[i]? = some f) (hv : cs[i]? = some v) : ∃ n y, DataW.trod enc P W base sp held n f.type [v] = some y := by
  obtain ⟨fuel, hh⟩ := h
  obtain ⟨xs, n, _, _, _, hlen, hx⟩ := DataW.trod_struct hs hh
  obtain ⟨o, k⟩ := hone_of hone i f hf
  have hi : i < xs.length := by rw [hlen]; exact (Array.getElem?_eq_some_iff.1 hf).1
  have := hx i f hf
  rw [o, k, List.getElem?_eq_getElem hi] at this
  refine ⟨n, xs[i], ?_⟩
  have e : ((Value.agg cs).cells.toList.drop i).take 1 = [v] := by
    obtain ⟨l⟩ := cs
    have hv' : l[i]? = some v := by simpa using hv
    show (l.drop i).take 1 = [v]
    obtain ⟨hl, rfl⟩ := List.getElem?_eq_some_iff.1 hv'
    rw [List.drop_eq_getElem_cons hl]; rfl
  rw [e] at this; exact this
theorem field_int {W : World} {base : Nat} {sp : Nat → Bool} {held : Bool} {n : Nat} {t : TypeId} {v : Value} {y : DataW H × List MemPlace} (ht : P.underlying t = some (.int .i64)) (h : DataW.trod enc P W base sp held n t [v] = some y) : ∃ k, v = .int .i64 k ∧ Int64 k := by
  obtain ⟨k, e, _, w⟩ := DataW.trod_int ht h
  exact ⟨k, by simpa using e, int64_of w⟩
theorem field_bool {W : World} {base : Nat} {sp : Nat → Bool} {held : Bool} {n : Nat} {t : TypeId} {v : Value} {y : DataW H × List MemPlace} (ht : P.underlying t = some .bool) (h : DataW.trod enc P W base sp held n t [v] = some y) : ∃ k, v = .bool k := by
  obtain ⟨k, e, _⟩ := DataW.trod_bool ht h
  exact ⟨k, by simpa using e⟩
theorem field_string {W : World} {base : Nat} {sp : Nat → Bool} {held : Bool} {n : Nat} {t : TypeId} {v : Value} {y : DataW H × List MemPlace} (ht : P.underlying t = some .string) (h : DataW.trod enc P W base sp held n t [v] = some y) : ∃ s : ByteArray, v = .string s ∧ s.size ≤ maxLen := by
  obtain ⟨s, e, _, w⟩ := DataW.trod_string ht h
  exact ⟨s, by simpa using e, w⟩
end

/-- the fields of a struct are a cell each. -/
theorem one_of {P : Program} {t : TypeId} {fs : Array Field} (_ : P.underlying t = some (.struct fs)) (h : oneCellFields P fs = true) : oneCellFields P fs = true := h
set_option maxRecDepth 100000 in
theorem cellsRef : Tryz.prog.cellsOf 44 = 6 := by kernel_rfl
section
variable {H : Type} {enc : TypeId × Value → H} {W : World} {base b0 : Nat} {sp : Nat → Bool} {held : Bool} {r : Reach} {v : Value} {d : DataW H} {p : List MemPlace}
set_option maxRecDepth 100000 in
theorem open_ref (hv : Value.okWide Tryz.prog W r b0 44 v) (h : DataW.Trod enc Tryz.prog W base sp held 44 v d p) : ∃ q : Tab.RefD, v = refV q ∧ RefIn q := by
  have hs := Tryz.underlying44
  obtain ⟨cs, rfl, hsz⟩ := okWide_struct hs hv
  obtain ⟨c0, c1, c2, c3, c4, c5, rfl⟩ := array6 (hsz.trans cellsRef)
  have hone := one_of hs (by kernel_rfl)
  obtain ⟨_, _, h0⟩ := field_trod hs hone h 0 _ c0 rfl rfl
  obtain ⟨_, _, h1⟩ := field_trod hs hone h 1 _ c1 rfl rfl
  obtain ⟨_, _, h2⟩ := field_trod hs hone h 2 _ c2 rfl rfl
  obtain ⟨_, _, h3⟩ := field_trod hs hone h 3 _ c3 rfl rfl
  obtain ⟨_, _, h4⟩ := field_trod hs hone h 4 _ c4 rfl rfl
  obtain ⟨_, _, h5⟩ := field_trod hs hone h 5 _ c5 rfl rfl
  obtain ⟨s, rfl, w0⟩ := field_string Tryz.underlying9 h0
  obtain ⟨i, rfl, w1⟩ := field_int Tryz.underlying3 h1
  obtain ⟨j, rfl, w2⟩ := field_int Tryz.underlying3 h2
  obtain ⟨x, rfl⟩ := field_bool Tryz.underlying4 h3
  obtain ⟨y, rfl⟩ := field_bool Tryz.underlying4 h4
  obtain ⟨z, rfl⟩ := field_bool Tryz.underlying4 h5
  exact ⟨⟨s, i, j, x, y, z⟩, rfl, Nat.le_trans w0 (by decide), w1, w2⟩
end
set_option maxRecDepth 100000 in
theorem laidOut : laidOutB Tryz.prog = true := by kernel_rfl
end Go.Proofs.YtgnejohiagagmaaGreatDoor

namespace Go.Proofs.YtgnejohiagagmaaGreatDoor
open Go.RowKit Tab

theorem texts_of {W : World} {n : String} {g : Nat} (L : List Bs) (h0 : L ≠ []) (hg : Tryz.prog.globalNamed n = some g) (ht : (Tryz.prog.globals[g]?).map (·.type) = some 63)
    (h : Lib.VarReads Tryz.prog W n (.slice (L.map fun x => .lit (.string x)) [])) : Texts W g L := by
  obtain ⟨g', t', cs, fuel, p, hg', ht', hv, hr⟩ := h
  obtain rfl := Option.some.inj (hg.symm.trans hg')
  obtain rfl := Option.some.inj (ht.symm.trans ht')
  obtain ⟨a, cap, e, -, hel⟩ := open_row Tryz.underlying63 (by kernel_rfl) hr
  have each : ∀ i x, L[i]? = some x → W.cell? (a.add i) = some (.string ⟨x.toArray⟩) := fun i x hx => by
    obtain ⟨v, n, q, hc, hd⟩ := hel i (.lit (.string x)) (by rw [List.getElem?_map, hx]; rfl)
    obtain ⟨s, hs, he, -⟩ := DataW.trod_string Tryz.underlying9 hd
    simp only [List.cons.injEq, and_true] at hs
    subst hs
    simp only [Prod.mk.injEq, DataW.lit.injEq, Lit.string.injEq] at he
    rw [hc, he.1]
  have hsp : a.spot = none := by
    obtain ⟨x, hx⟩ : ∃ x, L[0]? = some x := by
      cases L with
      | nil => exact absurd rfl h0
      | cons x r => exact ⟨x, rfl⟩
    have h1 := each 0 x hx
    have e0 : a.add 0 = a := by simp [Addr.add]
    rw [e0] at h1
    unfold World.cell? at h1
    cases hq : a.spot with
    | none => rfl
    | some q =>
      rw [hq] at h1
      split at h1
      · simp at h1
      · cases h1
  obtain ⟨B, o, sp⟩ := a
  dsimp only at hsp
  subst hsp
  refine ⟨B, o, cap, ?_, fun i x hx => ?_⟩
  · have hv2 : W.var? Tryz.prog n = some cs := hv
    unfold World.var? at hv2
    rw [hg] at hv2
    simp only [Option.bind_some] at hv2
    unfold World.cell?
    split at hv2
    · rename_i c t f hh
      rw [hh]
      cases hv2
      have : cs[0]? = cs.toList[0]? := by simp
      simp only [Option.isSome_none, Bool.false_eq_true, if_false]
      rw [this, e]; simp
    · cases hv2
  · have := each i x hx
    rwa [Addr.add_mid] at this
theorem words_of_laid {W : World} (h : laidMetH Tryz.prog listed W) : Words W := by
  have hl : laidMet Tryz.prog listed W := by
    have e := MakeChecks.laidMetH_plain Tryz.prog listed W (by kernel_rfl)
    rw [e] at h; exact h
  have r := fun n d hm => Lib.laidMet.reads (n := n) (d := d) hl hm
  have h6 := r "tabula/lex.signs" Rows.laid_tabula_lex_signs (.tail _ (.tail _ (.tail _ (.tail _ (.tail _ (.tail _ (.head _)))))))
  have h7 := r "tabula/lex.faults" Rows.laid_tabula_lex_faults (.tail _ (.tail _ (.tail _ (.tail _ (.tail _ (.tail _ (.tail _ (.head _))))))))
  exact ⟨texts_of signsB (by simp [signsB]) (by kernel_rfl) (by kernel_rfl) (by rwa [show (Rows.laid_tabula_lex_signs : DataW Unit) = .slice (signsB.map fun x => .lit (.string x)) [] from by kernel_rfl] at h6),
    texts_of faultsB (by simp [faultsB]) (by kernel_rfl) (by kernel_rfl) (by rwa [show (Rows.laid_tabula_lex_faults : DataW Unit) = .slice (faultsB.map fun x => .lit (.string x)) [] from by kernel_rfl] at h7)⟩
end Go.Proofs.YtgnejohiagagmaaGreatDoor
