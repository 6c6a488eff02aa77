import Derived.Test.YtlpgigdegnbkmaaGreatDoorRows
import Derived.Lib.LaidU8T
import Derived.HandedShaped
import Derived.ProofKit
import Derived.OpenShut
import Derived.JoinedOf
import Derived.ChangeSame
import Derived.LaidMore
import Derived.Stop.Joined
import Derived.Test.YtlpgigdegnbkmaaGreatDoorM04
import Derived.SevenTiedAt
import Derived.Carry
import Derived.Deep.Fields
set_option maxRecDepth 100000
set_option maxHeartbeats 200000
namespace Go.Proofs.YtlpgigdegnbkmaaGreatDoor
open Go.ChangeShapes Go.WideShapes Go.RowKit Go.Shelf
theorem own : ownKnob Tryz.prog.godebug = none := by kernel_rfl
def listed : List (String × DataW Unit) := Rows.codeRightRow.laid
theorem errVar {W : World} {n nm : String} {d : DataW Unit} {g t : Nat} {ms : Array (String × TypeId)} (hg : Tryz.prog.globalNamed n = some g) (ht : (Tryz.prog.globals[g]?).map (·.type) = some t) (hi : Tryz.prog.underlying t = some (.interface ms))
  (h : Lib.VarReads Tryz.prog W n (.iface nm d)) : ∃ tp p, W.var? Tryz.prog n = some #[.iface tp p] := by
 obtain ⟨g', t', cs, fuel, p, hg', ht', hv, hd⟩ := h
 obtain rfl := Option.some.inj (hg.symm.trans hg')
 obtain rfl := Option.some.inj (ht.symm.trans ht')
 obtain ⟨_, u, v, e, _, _⟩ := iface_of_trod hi hd
 refine ⟨u, v, ?_⟩
 rw [hv]
 obtain ⟨cs⟩ := cs
 dsimp only at e
 rw [e]
theorem low_of {W : World} (hs : W.ShapedOpen Tryz.prog) : 10 <= W.heap.size := by
 have h0 : (((begin Tryz.prog (fun _ _ => 0) default).world.heap[9]?).bind Obj.row?).isSome = true := by kernel_rfl
 obtain ⟨⟨zero, t⟩, h1⟩ := Option.isSome_iff_exists.1 h0
 obtain ⟨cs, hc, _, _⟩ := hs.1 9 zero t (of_decide_eq_true (by kernel_rfl)) h1
 rcases Nat.lt_or_ge 9 W.heap.size with h | h
 ·exact h
 ·rw [Array.getElem?_eq_none h] at hc; cases hc
theorem good_of_laid {W : World} (h : laidMetH Tryz.prog listed W) (hs : W.ShapedOpen Tryz.prog) : Good W := by
 have hl : laidMet Tryz.prog listed W := by
  have e := MakeChecks.laidMetH_plain Tryz.prog listed W (by kernel_rfl)
  rw [e] at h; exact h
 have r := fun n d hm => Lib.laidMet.reads (n := n) (d := d) hl hm
 have hpow : Lib.TabIs Tryz.prog W "internal/strconv.uint64pow10" .u64 Lib.pow10Tab := by
  obtain ⟨g', t', cs, fuel, p, hg', ht', hv, hd⟩ := r "internal/strconv.uint64pow10" (Lib.tabData .u64 Lib.pow10Tab) (.tail _ (.tail _ (.head _)))
  obtain rfl := Option.some.inj (gPow.symm.trans hg')
  obtain rfl := Option.some.inj ((show (Tryz.prog.globals[3]?).map (·.type) = some 208 from by kernel_rfl).symm.trans ht')
  unfold Lib.TabIs
  rw [hv, <- Lib.cells_of_tab Tryz.underlying208 Tryz.underlying142 (by kernel_rfl) (by kernel_rfl) hd]
 have h3 : Lib.VarReads Tryz.prog W "unicode/utf8.first" Lib.firstData := by
  have := r "unicode/utf8.first" Rows.laid_unicode_utf8_first (.tail _ (.tail _ (.tail _ (.tail _ (.tail _ (.tail _ (.head _)))))))
  rwa [show (Rows.laid_unicode_utf8_first : DataW Unit) = Lib.firstData from by kernel_rfl] at this
 have h4 : Lib.VarReads Tryz.prog W "unicode/utf8.acceptRanges" Lib.acceptData := by
  have := r "unicode/utf8.acceptRanges" Rows.laid_unicode_utf8_acceptRanges (.tail _ (.tail _ (.tail _ (.head _))))
  rwa [show (Rows.laid_unicode_utf8_acceptRanges : DataW Unit) = Lib.acceptData from by kernel_rfl] at this
 exact {
  shaped := hs
  low := low_of hs
  u8 := utf8Tabs_of_readsT (ρ := Tryz.lays196_ren) (U8Types.of196 Tryz.lays196) ⟨by kernel_rfl, by kernel_rfl, by kernel_rfl, by kernel_rfl, by kernel_rfl, by kernel_rfl, by kernel_rfl⟩ h3 h4
  pow := hpow
  syn := errVar gSyn (t := 84) (by kernel_rfl) Tryz.underlying84 (r _ _ (.tail _ (.tail _ (.tail _ (.tail _ (.tail _ (.head _)))))))
  rng := errVar gRng (t := 84) (by kernel_rfl) Tryz.underlying84 (r _ _ (.tail _ (.tail _ (.tail _ (.tail _ (.head _))))))
 }
theorem handed_both {H : Type} {enc : TypeId × Value -> H} {a : Assume} {C : Checked} {os : Os} {f : FuncId} {fn : Func} {s : ChangeSpec} {conds : List PathCond} {apart fresh handsOn again : Bool} {X : World -> Array Value -> Prop}
  (hX : ∀ (w w' : World) (args : Array Value), w.heap = w'.heap -> X w args -> X w' args)
  (own : ownKnob C.prog.godebug = none) (started : os.Started) (noInit : C.prog.inits.idxOf? f = none) (hfn : C.prog.funcs[f]? = some fn)
  (witness : ∃ (w : World) (tape : Tape) (i : Input), w.os = os /\ (w.forCall tape i).Shaped C.prog /\ i.vars = [] /\ Input.okWide C.prog (w.forCall tape i) .any w.heap.size f i /\
   ((s.pre enc C.prog fn conds apart (w.forCall tape i).memory i.args /\ X (w.forCall tape i).memory i.args) /\ sizedMet enc C.prog fn (OpenSpec.ofChange s) apart (w.forCall tape i).memory i.args) /\ a.holds C.prog (lone (Frame.enter C.prog f i.args .normal) [] (w.forCall tape i)))
  (contract : ∀ (W : World) (base : Nat) (args : Array Value) (ds gs : List (DataW H)) (before : List MemPlace),
   (∀ (j : Nat) t v, fn.params[j]? = some t -> args[j]? = some v -> Value.okWide C.prog W .any base t v) ->
   DataW.Whole enc C.prog fn.params.toList s.vars apart W args.toList ds gs before ->
   conds.all (PathCond.test C.prog ⟨fn.params.toList, ds, s.plain.varTypes C.prog, gs⟩) = true ->
   (DataW.weightsEach C.prog (fn.params.toList ++ s.plain.varTypes C.prog) (ds ++ gs)).all (· <= reachBytes) = true -> X W args -> W.ShapedOpen C.prog ->
   a.holds C.prog (lone (Frame.enter C.prog f args .normal) [] W) ->
   Calls C.prog f args W fun e W' => ∃ v, e = .returned v /\ s.post enc C.prog fn apart fresh handsOn again W args v W') :
  ReturnsInHanded a C os f .any (fun w args => (s.pre enc C.prog fn conds apart w args /\ X w args) /\ sizedMet enc C.prog fn (OpenSpec.ofChange s) apart w args) (s.post enc C.prog fn apart fresh handsOn again) := by
 refine returnsInHanded_of_calls own started noInit witness ?_
 intro w tape i _ hsh _ hok hpre hholds
 obtain ⟨_, _, _, fn', hfn', _, _, _, _, hval⟩ := hok
 have e : fn' = fn := Option.some.inj (hfn'.symm.trans hfn)
 subst e
 obtain ⟨⟨⟨ds, gs, before, hw, hc⟩, hx⟩, hz⟩ := hpre
 have hw' := DataW.Whole.of_heap (w' := w.forCall tape i) (by rfl) hw
 refine (contract (w.forCall tape i) w.heap.size i.args ds gs before hval hw' hc (hz.weights hw) (hX _ _ _ (by rfl) hx) hsh hholds).mono fun e W' ⟨v, he, hp⟩ => ?_
 subst he
 exact ChangeSpec.post_blind hp
noncomputable def laidW (os : Os) : World :=
 let w0 := World.doorLaid Tryz.prog 4000 os
 { w0 with heap := w0.heap.modify 0 fun
   | .cells _ t f => .cells (Lib.firstTab.map fun z => Value.int .u8 z).toArray t f
   | o => o }
theorem door_met (os : Os) (args : Array Value) : laidMetH Tryz.prog listed ((laidW os).forCall (fun _ _ => 0) ⟨#[], args, []⟩).memory :=
 laidMetH_of_parts3 (fuel := 8) (laidMet_of_run' 8 (by kernel_rfl) (by kernel_rfl)) (by kernel_rfl) (by kernel_rfl)
end Go.Proofs.YtlpgigdegnbkmaaGreatDoor
namespace Go.Proofs.YtlpgigdegnbkmaaGreatDoor
open Go.ChangeShapes Go.WideShapes Go.RowKit Go.ChangeMaps Go.Deep
theorem int64_of {n : Int} (h : (Lit.int .i64 n).wf = true) : Int64 n := by
 have e1 : IntKind.i64.min = -9223372036854775808 := rfl
 have e2 : IntKind.i64.max = 9223372036854775807 := rfl
 simp [Lit.wf, e1, e2] at h
 exact ⟨by omega, by omega⟩
section
variable {H : Type} {enc : TypeId × Value -> H} {P : Program}
theorem trodAll_back (hl : laidOutB P = true) {W W' : World} (hb : Below W.heap.size W W') : ∀ {ts : List TypeId} {vs : List Value} {ds : List (DataW H)} {ps : List MemPlace},
  (ts.all fun t => P.readableRec t && decide (t < P.types.size)) = true -> DataW.TrodAll enc P W 0 (fun _ => true) true ts vs ds ps -> (∀ x ∈ ps, x.block < W.heap.size) ->
  DataW.TrodAll enc P W' 0 (fun b => decide (b < W.heap.size)) true ts vs ds ps
 | [], [], [], _, _, h, _ => h
 | t :: _, _ :: _, _ :: _, _, hr, ⟨p, q, h1, h2, e⟩, hs => by
  rw [List.all_cons, Bool.and_eq_true, Bool.and_eq_true, decide_eq_true_iff] at hr
  exact ⟨p, q, Below.trod hl hr.1.1 hr.1.2 h1 hb (fun x hx => hs x (by rw [e]; exact List.mem_append_left _ hx)), trodAll_back hl hb hr.2 h2 (fun x hx => hs x (by rw [e]; exact List.mem_append_right _ hx)), e⟩
end
theorem one_of {P : Program} {t : TypeId} {fs : Array Field} (_ : P.underlying t = some (.struct fs)) (h : oneCellFields P fs = true) : oneCellFields P fs = true := h
section
variable {H : Type} {enc : TypeId × Value -> H} {W : World} {base b0 : Nat} {sp : Nat -> Bool} {held : Bool} {r : Reach} {v : Value} {d : DataW H} {p : List MemPlace}
end
theorem laidOut : laidOutB Tryz.prog = true := by kernel_rfl
end Go.Proofs.YtlpgigdegnbkmaaGreatDoor
