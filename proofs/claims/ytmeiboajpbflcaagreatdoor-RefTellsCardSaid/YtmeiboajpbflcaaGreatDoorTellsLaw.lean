/- For every two references, areas, place, text and numbers RefTells returns true and leaves its arguments alone; the package variables that the row lists hold at the start what the program's text lays. -/
import Derived.Test.YtmeiboajpbflcaaGreatDoorTells12
import Derived.Test.YtmeiboajpbflcaaGreatDoorOpens
import Derived.Test.YtmeiboajpbflcaaGreatDoorTie
import Derived.Test.YtmeiboajpbflcaaGreatDoorCards
namespace Go.Proofs.YtmeiboajpbflcaaGreatDoor
open Go.ChangeShapes Go.WideShapes Go.RowKit Go.ChangeMaps

set_option maxRecDepth 100000 in
theorem RefTells_lifted (os : Os) (started : os.Started) (H : Type) (enc : TypeId × Value → H) :
    ReturnsInHanded {} Tryz.checked os 3 .any (fun w args => (Rows.refTellsSpec.pre enc Tryz.prog Tryz.f3 [] false w args ∧ laidMetH Tryz.prog listed w) ∧ sizedMet enc Tryz.prog Tryz.f3 (OpenSpec.ofChange Rows.refTellsSpec) false w args)
      (Rows.refTellsSpec.post enc Tryz.prog Tryz.f3 false true false false) := by
  refine handed_both (C := Tryz.checked) (X := fun w _ => laidMetH Tryz.prog listed w) (fun _ _ _ hh h => h.of_heap hh) own started (by kernel_rfl) Tryz.func3
    (ChangeSpec.witness_shaped (enc := enc) (C := Tryz.checked) (os := os) (X := fun w _ => laidMetH Tryz.prog listed w) false (laidW os) #[.agg #[.string ⟨#[]⟩, .int .i64 0, .int .i64 0, .bool false, .bool false, .bool false], .agg #[.string ⟨#[]⟩, .int .i64 0, .int .i64 0, .bool false, .bool false, .bool false], .agg #[.int .i64 0, .int .i64 0, .int .i64 0, .int .i64 0, .int .i64 0], .agg #[.int .i64 0, .int .i64 0, .int .i64 0, .int .i64 0, .int .i64 0], .agg #[.int .i64 0, .int .i64 0, .int .i64 0], .string ⟨#[]⟩, .int .i64 0, .int .i64 0, .int .i64 0] 8 rfl (World.shaped_of_RefB (by kernel_rfl) (by kernel_rfl)) (by kernel_rfl) (by kernel_rfl) (by kernel_rfl) (door_met os _)) ?_
  intro W base args ds gs before hval0 hW _ _ hL hsh _
  have hval : ∀ (j : Nat) t v, Tryz.f3.params[j]? = some t → args[j]? = some v → Value.okWide Tryz.prog W .any base t v := hval0
  have hW' := hW
  obtain ⟨p, q, hA0, hV, rfl, hfz, hnd⟩ := hW
  have hA : DataW.TrodAll enc Tryz.prog W 0 (fun _ => true) true Tryz.f3.params.toList args.toList ds p := hA0
  rw [Tryz.params3] at hA hval
  have hK := hA
  have hlt := hA.lt
  obtain ⟨args⟩ := args
  obtain ⟨v0, args, d0, ds, p0, pr0, rfl, rfl, rfl, h0, hA⟩ := trodAll_cons hA
  obtain ⟨v1, args, d1, ds, p1, pr1, rfl, rfl, rfl, h1, hA⟩ := trodAll_cons hA
  obtain ⟨v2, args, d2, ds, p2, pr2, rfl, rfl, rfl, h2, hA⟩ := trodAll_cons hA
  obtain ⟨v3, args, d3, ds, p3, pr3, rfl, rfl, rfl, h3, hA⟩ := trodAll_cons hA
  obtain ⟨v4, args, d4, ds, p4, pr4, rfl, rfl, rfl, h4, hA⟩ := trodAll_cons hA
  obtain ⟨v5, args, d5, ds, p5, pr5, rfl, rfl, rfl, h5, hA⟩ := trodAll_cons hA
  obtain ⟨v6, args, d6, ds, p6, pr6, rfl, rfl, rfl, h6, hA⟩ := trodAll_cons hA
  obtain ⟨v7, args, d7, ds, p7, pr7, rfl, rfl, rfl, h7, hA⟩ := trodAll_cons hA
  obtain ⟨v8, args, d8, ds, p8, pr8, rfl, rfl, rfl, h8, hA⟩ := trodAll_cons hA
  obtain ⟨rfl, rfl, rfl⟩ := trodAll_nil hA
  obtain ⟨rfl, rfl⟩ := trodVars_none hV
  obtain ⟨a, rfl, ha⟩ := open_ref (hval 0 23 v0 rfl rfl) h0
  obtain ⟨b, rfl, hb⟩ := open_ref (hval 1 23 v1 rfl rfl) h1
  obtain ⟨x, rfl, hx⟩ := open_area (hval 2 25 v2 rfl rfl) h2
  obtain ⟨y, rfl, hy⟩ := open_area (hval 3 25 v3 rfl rfl) h3
  obtain ⟨t1, t2, t3, rfl, ht1, ht2, ht3⟩ := open_at (hval 4 27 v4 rfl rfl) h4
  obtain ⟨s, rfl, _, _, hs⟩ := open_string Tryz.underlying9 (hval 5 9 v5 rfl rfl) h5
  obtain ⟨n, rfl, _, _, hn⟩ := open_int Tryz.underlying3 (hval 6 3 v6 rfl rfl) h6
  replace hn := int64_of hn
  obtain ⟨rows, rfl, _, _, hrows⟩ := open_int Tryz.underlying3 (hval 7 3 v7 rfl rfl) h7
  replace hrows := int64_of hrows
  obtain ⟨cols, rfl, _, _, hcols⟩ := open_int Tryz.underlying3 (hval 8 3 v8 rfl rfl) h8
  replace hcols := int64_of hcols
  clear hA0 hval0 hval h0 h1 h2 h3 h4 h5 h6 h7 h8
  have hg := good_of_laid hL hsh
  refine Calls.mono (law_RefTells a b x y t1 t2 t3 s n rows cols W hg ha hb hx hy ht1 ht2 ht3 hs hn hrows hcols) fun e W' ⟨he, hb⟩ => ?_
  subst he
  have hB := trodAll_back laidOut hb (by kernel_rfl) hK hlt
  exact ⟨_, rfl, _, _, _, [], _, [], hW', trodAll_mk1 (shut_bool Tryz.underlying4 true), hB, rfl, hb.frame _, fun h => by cases h⟩

theorem RefTells_row : Rows.RefTellsSaid :=
  OpenClaim.holds_of_wide 3 Tryz.f3 rfl rfl rfl rfl rfl rfl rfl ⟨rfl, rfl, rfl, rfl, rfl⟩ rfl rfl rfl rfl rfl (by kernel_rfl) Tryz.func3 (by kernel_rfl)
    (of_decide_eq_true (by kernel_rfl)) (by unfold Func.isWrapper; first | (rw [if_pos (by decide +kernel)]; kernel_rfl) | (rw [if_neg (by decide +kernel)]; exact ⟨rfl, rfl⟩))
    (fun os started H enc _ => RefTells_lifted os started H enc)

theorem RefTells_holds : Rows.RefTellsCardSaid :=
  Claim7.holds_tied_plain_at .later [] [.data, .data, .data, .data, .sentinel, .sentinel, .pinned] true (true, "b9d0863de5013355c2c3a76b0b31d8caec4fabba767b75ba4b6aee1743f490cb") true
    RefTells_row (fun _ h => by cases h) (by kernel_rfl) (fun _ h => by cases h) refTells_row_tie rfl ⟨rfl, rfl⟩ (by kernel_rfl) rfl
    (fun f fn hf hfn => by
      obtain rfl : f = 3 := Option.some.inj ((show Tryz.prog.funcNamed "tabula/tabulalaw02.RefTells" = some 3 by kernel_rfl).symm.trans hf) |>.symm
      obtain rfl : fn = Tryz.f3 := (Option.some.inj (Tryz.func3.symm.trans hfn)).symm
      exact ⟨by kernel_rfl, fun j t ht => by
        rw [Tryz.params3] at ht
        have hm : t ∈ [23, 23, 25, 25, 27, 9, 3, 3, 3] := by simpa using Array.mem_of_getElem? ht
        have hall : ([23, 23, 25, 25, 27, 9, 3, 3, 3].all fun u => !Tryz.prog.wantsStandIn u) = true := by kernel_rfl
        exact (show Tryz.prog.wantsStandIn t = false by simpa using List.all_eq_true.1 hall t hm)⟩)
    (by kernel_rfl)
#print axioms RefTells_holds
end Go.Proofs.YtmeiboajpbflcaaGreatDoor
