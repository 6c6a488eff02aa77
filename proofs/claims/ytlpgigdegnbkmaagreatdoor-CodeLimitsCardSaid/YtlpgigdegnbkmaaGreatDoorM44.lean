import Derived.Test.YtlpgigdegnbkmaaGreatDoorM42
import Derived.Test.YtlpgigdegnbkmaaGreatDoorM43
import Derived.Test.YtlpgigdegnbkmaaGreatDoorTie
import Derived.Test.YtlpgigdegnbkmaaGreatDoorCards
namespace Go.Proofs.YtlpgigdegnbkmaaGreatDoor
open Go.ChangeShapes Go.WideShapes Go.RowKit Go.ChangeMaps
set_option maxRecDepth 100000 in
theorem CodeLimits_lifted (os : Os) (started : os.Started) (H : Type) (enc : TypeId × Value → H) :
  ReturnsInHanded {} Tryz.checked os 7 .any (fun w args => (Rows.codeLimitsSpec.pre enc Tryz.prog Tryz.f7 [] false w args ∧ laidMetH Tryz.prog listed w) ∧ sizedMet enc Tryz.prog Tryz.f7 (OpenSpec.ofChange Rows.codeLimitsSpec) false w args)
   (Rows.codeLimitsSpec.post enc Tryz.prog Tryz.f7 false true false false) := by
 refine handed_both (C := Tryz.checked) (X := fun w _ => laidMetH Tryz.prog listed w) (fun _ _ _ hh h => h.of_heap hh) own started (by kernel_rfl) Tryz.func7
  (ChangeSpec.witness_shaped (enc := enc) (C := Tryz.checked) (os := os) (X := fun w _ => laidMetH Tryz.prog listed w) false (laidW os) #[.int .i64 0, .int .i64 0] 8 rfl (World.shaped_of_RefB (by kernel_rfl) (by kernel_rfl)) (by kernel_rfl) (by kernel_rfl) (by kernel_rfl) (door_met os _)) ?_
 intro W base args ds gs before hval0 hW _ _ hL hsh _
 have hval : ∀ (j : Nat) t v, Tryz.f7.params[j]? = some t → args[j]? = some v → Value.okWide Tryz.prog W .any base t v := hval0
 have hW' := hW
 obtain ⟨p, q, hA0, hV, rfl, hfz, hnd⟩ := hW
 have hA : DataW.TrodAll enc Tryz.prog W 0 (fun _ => true) true Tryz.f7.params.toList args.toList ds p := hA0
 rw [Tryz.params7] at hA hval
 have hK := hA
 have hlt := hA.lt
 obtain ⟨args⟩ := args
 obtain ⟨v0, args, d0, ds, p0, pr0, rfl, rfl, rfl, h0, hA⟩ := trodAll_cons hA
 obtain ⟨v1, args, d1, ds, p1, pr1, rfl, rfl, rfl, h1, hA⟩ := trodAll_cons hA
 obtain ⟨rfl, rfl, rfl⟩ := trodAll_nil hA
 obtain ⟨rfl, rfl⟩ := trodVars_none hV
 obtain ⟨mm, rfl, _, _, hmm⟩ := open_int Tryz.underlying3 (hval 0 3 v0 rfl rfl) h0
 replace hmm := int64_of hmm
 obtain ⟨bb, rfl, _, _, hbb⟩ := open_int Tryz.underlying3 (hval 1 3 v1 rfl rfl) h1
 replace hbb := int64_of hbb
 clear hA0 hval0 hval h0 h1
 have hg := good_of_laid hL hsh
 refine Calls.mono (limits_any mm bb hmm hbb W hg) fun e W' ⟨he, hb⟩ => ?_
 subst he
 have hB := trodAll_back laidOut hb (by kernel_rfl) hK hlt
 exact ⟨_, rfl, _, _, _, [], _, [], hW', trodAll_mk1 (shut_bool Tryz.underlying4 true), hB, rfl, hb.frame _, fun h => by cases h⟩
theorem CodeLimits_row : Rows.CodeLimitsSaid :=
 OpenClaim.holds_of_wide 7 Tryz.f7 rfl rfl rfl rfl rfl rfl rfl ⟨rfl, rfl, rfl, rfl, rfl⟩ rfl rfl rfl rfl rfl (by kernel_rfl) Tryz.func7 (by kernel_rfl)
  (of_decide_eq_true (by kernel_rfl)) (by unfold Func.isWrapper; first | (rw [if_pos (by decide +kernel)]; kernel_rfl) | (rw [if_neg (by decide +kernel)]; exact ⟨rfl, rfl⟩))
  (fun os started H enc _ => CodeLimits_lifted os started H enc)
theorem CodeLimits_holds : Rows.CodeLimitsCardSaid :=
 Claim7.holds_tied_plain_at .later [] [.data, .data, .data, .data, .sentinel, .sentinel, .pinned] true (true, "f53f8e0cca0d0035b9e4d21d026dff00012195a199630e060f3b9517070b7bfa") true
  CodeLimits_row (fun _ h => by cases h) (by kernel_rfl) (fun _ h => by cases h) codeLimits_row_tie rfl ⟨rfl, rfl⟩ (by kernel_rfl) rfl
  (fun f fn hf hfn => by
   obtain rfl : f = 7 := Option.some.inj ((show Tryz.prog.funcNamed "tabula/tabulalaw06.CodeLimits" = some 7 by kernel_rfl).symm.trans hf) |>.symm
   obtain rfl : fn = Tryz.f7 := (Option.some.inj (Tryz.func7.symm.trans hfn)).symm
   exact ⟨by kernel_rfl, fun j t ht => by
    rw [Tryz.params7] at ht
    have hm : t ∈ [3, 3] := by simpa using Array.mem_of_getElem? ht
    have hall : ([3, 3].all fun u => !Tryz.prog.wantsStandIn u) = true := by kernel_rfl
    exact (show Tryz.prog.wantsStandIn t = false by simpa using List.all_eq_true.1 hall t hm)⟩)
  (by kernel_rfl)
#print axioms CodeLimits_holds
end Go.Proofs.YtlpgigdegnbkmaaGreatDoor
