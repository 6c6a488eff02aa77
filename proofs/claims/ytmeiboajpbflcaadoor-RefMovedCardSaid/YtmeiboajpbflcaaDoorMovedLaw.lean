/- For every reference and every moves RefMoved returns true and leaves its arguments alone; the package variables that the row lists hold at the start what the program's text lays. -/
import Derived.Test.YtmeiboajpbflcaaDoorMovedLawW
import Derived.Test.YtmeiboajpbflcaaDoorOpens
import Derived.Test.YtmeiboajpbflcaaDoorTie
import Derived.Test.YtmeiboajpbflcaaDoorCards
namespace Go.Proofs.YtmeiboajpbflcaaDoor
open Go.ChangeShapes Go.WideShapes Go.RowKit Go.ChangeMaps

set_option maxRecDepth 100000 in
theorem RefMoved_lifted (os : Os) (started : os.Started) (H : Type) (enc : TypeId × Value → H) :
    ReturnsInHanded {} Tryd.checked os 6 .any (fun w args => (Rows.refMovedSpec.pre enc Tryd.prog Tryd.f6 [] false w args ∧ laidMetH Tryd.prog listed w) ∧ sizedMet enc Tryd.prog Tryd.f6 (OpenSpec.ofChange Rows.refMovedSpec) false w args)
      (Rows.refMovedSpec.post enc Tryd.prog Tryd.f6 false true false false) := by
  refine handed_both (C := Tryd.checked) (X := fun w _ => laidMetH Tryd.prog listed w) (fun _ _ _ hh h => h.of_heap hh) own started (by kernel_rfl) Tryd.func6
    (ChangeSpec.witness_shaped (enc := enc) (C := Tryd.checked) (os := os) (X := fun w _ => laidMetH Tryd.prog listed w) false (laidW os) #[.agg #[.string ⟨#[]⟩, .int .i64 0, .int .i64 0, .bool false, .bool false, .bool false], .int .i64 0, .int .i64 0, .int .i64 0, .int .i64 0] 8 rfl (World.shaped_of_RefB (by kernel_rfl) (by kernel_rfl)) (by kernel_rfl) (by kernel_rfl) (by kernel_rfl) (door_met os _)) ?_
  intro W base args ds gs before hval0 hW _ _ hL hsh _
  have hval : ∀ (j : Nat) t v, Tryd.f6.params[j]? = some t → args[j]? = some v → Value.okWide Tryd.prog W .any base t v := hval0
  have hW' := hW
  obtain ⟨p, q, hA0, hV, rfl, hfz, hnd⟩ := hW
  have hA : DataW.TrodAll enc Tryd.prog W 0 (fun _ => true) true Tryd.f6.params.toList args.toList ds p := hA0
  rw [Tryd.params6] at hA hval
  have hK := hA
  have hlt := hA.lt
  obtain ⟨args⟩ := args
  obtain ⟨v0, args, d0, ds, p0, pr0, rfl, rfl, rfl, h0, hA⟩ := trodAll_cons hA
  obtain ⟨v1, args, d1, ds, p1, pr1, rfl, rfl, rfl, h1, hA⟩ := trodAll_cons hA
  obtain ⟨v2, args, d2, ds, p2, pr2, rfl, rfl, rfl, h2, hA⟩ := trodAll_cons hA
  obtain ⟨v3, args, d3, ds, p3, pr3, rfl, rfl, rfl, h3, hA⟩ := trodAll_cons hA
  obtain ⟨v4, args, d4, ds, p4, pr4, rfl, rfl, rfl, h4, hA⟩ := trodAll_cons hA
  obtain ⟨rfl, rfl, rfl⟩ := trodAll_nil hA
  obtain ⟨rfl, rfl⟩ := trodVars_none hV
  obtain ⟨a, rfl, ha⟩ := open_ref (hval 0 23 v0 rfl rfl) h0
  obtain ⟨rows, rfl, _, _, hrows⟩ := open_int Tryd.underlying3 (hval 1 3 v1 rfl rfl) h1
  replace hrows := int64_of hrows
  obtain ⟨cols, rfl, _, _, hcols⟩ := open_int Tryd.underlying3 (hval 2 3 v2 rfl rfl) h2
  replace hcols := int64_of hcols
  obtain ⟨more, rfl, _, _, hmore⟩ := open_int Tryd.underlying3 (hval 3 3 v3 rfl rfl) h3
  replace hmore := int64_of hmore
  obtain ⟨wide, rfl, _, _, hwide⟩ := open_int Tryd.underlying3 (hval 4 3 v4 rfl rfl) h4
  replace hwide := int64_of hwide
  clear hA0 hval0 hval h0 h1 h2 h3 h4
  have hg := good_of_laid hL hsh
  refine Calls.mono (law_RefMoved a rows cols more wide W hg ha hrows hcols hmore hwide) fun e W' ⟨he, hb⟩ => ?_
  subst he
  have hB := trodAll_back laidOut hb (by kernel_rfl) hK hlt
  exact ⟨_, rfl, _, _, _, [], _, [], hW', trodAll_mk1 (shut_bool Tryd.underlying4 true), hB, rfl, hb.frame _, fun h => by cases h⟩

theorem RefMoved_row : Rows.RefMovedSaid :=
  OpenClaim.holds_of_wide 6 Tryd.f6 rfl rfl rfl rfl rfl rfl rfl ⟨rfl, rfl, rfl, rfl, rfl⟩ rfl rfl rfl rfl rfl (by kernel_rfl) Tryd.func6 (by kernel_rfl)
    (of_decide_eq_true (by kernel_rfl)) (by unfold Func.isWrapper; first | (rw [if_pos (by decide +kernel)]; kernel_rfl) | (rw [if_neg (by decide +kernel)]; exact ⟨rfl, rfl⟩))
    (fun os started H enc _ => RefMoved_lifted os started H enc)

theorem RefMoved_holds : Rows.RefMovedCardSaid :=
  Claim7.holds_tied_plain_at .later [] [.data, .data, .data, .data, .sentinel, .sentinel, .pinned] true (true, "40db7118ed2d6da204d06ab6891202c69fa7ed41feea0c45a7f0b574ab693270") true
    RefMoved_row (fun _ h => by cases h) (by kernel_rfl) (fun _ h => by cases h) refMoved_row_tie rfl ⟨rfl, rfl⟩ (by kernel_rfl) rfl
    (fun f fn hf hfn => by
      obtain rfl : f = 6 := Option.some.inj ((show Tryd.prog.funcNamed "tabula/tabulalaw02.RefMoved" = some 6 by kernel_rfl).symm.trans hf) |>.symm
      obtain rfl : fn = Tryd.f6 := (Option.some.inj (Tryd.func6.symm.trans hfn)).symm
      exact ⟨by kernel_rfl, fun j t ht => by
        rw [Tryd.params6] at ht
        have hm : t ∈ [23, 3, 3, 3, 3] := by simpa using Array.mem_of_getElem? ht
        have hall : ([23, 3, 3, 3, 3].all fun u => !Tryd.prog.wantsStandIn u) = true := by kernel_rfl
        exact (show Tryd.prog.wantsStandIn t = false by simpa using List.all_eq_true.1 hall t hm)⟩)
    (by kernel_rfl)
#print axioms RefMoved_holds
end Go.Proofs.YtmeiboajpbflcaaDoor
