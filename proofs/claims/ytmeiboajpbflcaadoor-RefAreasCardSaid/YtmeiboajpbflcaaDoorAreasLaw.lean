/- For every two references and every sheet RefAreas returns true and leaves its arguments alone; the package variables that the row lists hold at the start what the program's text lays. -/
import Derived.Test.YtmeiboajpbflcaaDoorAreasLawW
import Derived.Test.YtmeiboajpbflcaaDoorOpens
import Derived.Test.YtmeiboajpbflcaaDoorTie
import Derived.Test.YtmeiboajpbflcaaDoorCards
namespace Go.Proofs.YtmeiboajpbflcaaDoor
open Go.ChangeShapes Go.WideShapes Go.RowKit Go.ChangeMaps

set_option maxRecDepth 100000 in
theorem RefAreas_lifted (os : Os) (started : os.Started) (H : Type) (enc : TypeId × Value → H) :
    ReturnsInHanded {} Tryd.checked os 8 .any (fun w args => (Rows.refAreasSpec.pre enc Tryd.prog Tryd.f8 [] false w args ∧ laidMetH Tryd.prog listed w) ∧ sizedMet enc Tryd.prog Tryd.f8 (OpenSpec.ofChange Rows.refAreasSpec) false w args)
      (Rows.refAreasSpec.post enc Tryd.prog Tryd.f8 false true false false) := by
  refine handed_both (C := Tryd.checked) (X := fun w _ => laidMetH Tryd.prog listed w) (fun _ _ _ hh h => h.of_heap hh) own started (by kernel_rfl) Tryd.func8
    (ChangeSpec.witness_shaped (enc := enc) (C := Tryd.checked) (os := os) (X := fun w _ => laidMetH Tryd.prog listed w) false (laidW os) #[.agg #[.string ⟨#[]⟩, .int .i64 0, .int .i64 0, .bool false, .bool false, .bool false], .agg #[.string ⟨#[]⟩, .int .i64 0, .int .i64 0, .bool false, .bool false, .bool false], .int .i64 0] 8 rfl (World.shaped_of_RefB (by kernel_rfl) (by kernel_rfl)) (by kernel_rfl) (by kernel_rfl) (by kernel_rfl) (door_met os _)) ?_
  intro W base args ds gs before hval0 hW _ _ hL hsh _
  have hval : ∀ (j : Nat) t v, Tryd.f8.params[j]? = some t → args[j]? = some v → Value.okWide Tryd.prog W .any base t v := hval0
  have hW' := hW
  obtain ⟨p, q, hA0, hV, rfl, hfz, hnd⟩ := hW
  have hA : DataW.TrodAll enc Tryd.prog W 0 (fun _ => true) true Tryd.f8.params.toList args.toList ds p := hA0
  rw [Tryd.params8] at hA hval
  have hK := hA
  have hlt := hA.lt
  obtain ⟨args⟩ := args
  obtain ⟨v0, args, d0, ds, p0, pr0, rfl, rfl, rfl, h0, hA⟩ := trodAll_cons hA
  obtain ⟨v1, args, d1, ds, p1, pr1, rfl, rfl, rfl, h1, hA⟩ := trodAll_cons hA
  obtain ⟨v2, args, d2, ds, p2, pr2, rfl, rfl, rfl, h2, hA⟩ := trodAll_cons hA
  obtain ⟨rfl, rfl, rfl⟩ := trodAll_nil hA
  obtain ⟨rfl, rfl⟩ := trodVars_none hV
  obtain ⟨a, rfl, ha⟩ := open_ref (hval 0 23 v0 rfl rfl) h0
  obtain ⟨b, rfl, hb⟩ := open_ref (hval 1 23 v1 rfl rfl) h1
  obtain ⟨sheet, rfl, _, _, hsheet⟩ := open_int Tryd.underlying3 (hval 2 3 v2 rfl rfl) h2
  replace hsheet := int64_of hsheet
  clear hA0 hval0 hval h0 h1 h2
  have hg := good_of_laid hL hsh
  refine Calls.mono (law_RefAreas a b sheet W hg ha hb hsheet) fun e W' ⟨he, hb⟩ => ?_
  subst he
  have hB := trodAll_back laidOut hb (by kernel_rfl) hK hlt
  exact ⟨_, rfl, _, _, _, [], _, [], hW', trodAll_mk1 (shut_bool Tryd.underlying4 true), hB, rfl, hb.frame _, fun h => by cases h⟩

theorem RefAreas_row : Rows.RefAreasSaid :=
  OpenClaim.holds_of_wide 8 Tryd.f8 rfl rfl rfl rfl rfl rfl rfl ⟨rfl, rfl, rfl, rfl, rfl⟩ rfl rfl rfl rfl rfl (by kernel_rfl) Tryd.func8 (by kernel_rfl)
    (of_decide_eq_true (by kernel_rfl)) (by unfold Func.isWrapper; first | (rw [if_pos (by decide +kernel)]; kernel_rfl) | (rw [if_neg (by decide +kernel)]; exact ⟨rfl, rfl⟩))
    (fun os started H enc _ => RefAreas_lifted os started H enc)

theorem RefAreas_holds : Rows.RefAreasCardSaid :=
  Claim7.holds_tied_plain_at .later [] [.data, .data, .data, .data, .sentinel, .sentinel, .pinned] true (true, "40db7118ed2d6da204d06ab6891202c69fa7ed41feea0c45a7f0b574ab693270") true
    RefAreas_row (fun _ h => by cases h) (by kernel_rfl) (fun _ h => by cases h) refAreas_row_tie rfl ⟨rfl, rfl⟩ (by kernel_rfl) rfl
    (fun f fn hf hfn => by
      obtain rfl : f = 8 := Option.some.inj ((show Tryd.prog.funcNamed "tabula/tabulalaw02.RefAreas" = some 8 by kernel_rfl).symm.trans hf) |>.symm
      obtain rfl : fn = Tryd.f8 := (Option.some.inj (Tryd.func8.symm.trans hfn)).symm
      exact ⟨by kernel_rfl, fun j t ht => by
        rw [Tryd.params8] at ht
        have hm : t ∈ [23, 23, 3] := by simpa using Array.mem_of_getElem? ht
        have hall : ([23, 23, 3].all fun u => !Tryd.prog.wantsStandIn u) = true := by kernel_rfl
        exact (show Tryd.prog.wantsStandIn t = false by simpa using List.all_eq_true.1 hall t hm)⟩)
    (by kernel_rfl)
#print axioms RefAreas_holds
end Go.Proofs.YtmeiboajpbflcaaDoor
