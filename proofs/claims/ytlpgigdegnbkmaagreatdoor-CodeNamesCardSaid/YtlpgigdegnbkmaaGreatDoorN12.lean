import Derived.Test.YtlpgigdegnbkmaaGreatDoorN11
import Derived.Test.YtlpgigdegnbkmaaGreatDoorN09
import Derived.Test.YtlpgigdegnbkmaaGreatDoorTie
import Derived.Test.YtlpgigdegnbkmaaGreatDoorCards
set_option maxRecDepth 100000
set_option maxHeartbeats 200000
namespace Go.Proofs.YtlpgigdegnbkmaaGreatDoor
open Go.ChangeShapes Go.WideShapes Go.RowKit Go.ChangeMaps
theorem CodeNames_lifted (os : Os) (started : os.Started) (H : Type) (enc : TypeId × Value -> H) :
  ReturnsInHanded {} Tryz.checked os 5 .any (fun w args => (Rows.codeNamesSpec.pre enc Tryz.prog Tryz.f5 [] false w args /\ laidMetH Tryz.prog listed w) /\ sizedMet enc Tryz.prog Tryz.f5 (OpenSpec.ofChange Rows.codeNamesSpec) false w args)
   (Rows.codeNamesSpec.post enc Tryz.prog Tryz.f5 false true false false) := by
 refine handed_both (C := Tryz.checked) (X := fun w _ => laidMetH Tryz.prog listed w) (fun _ _ _ hh h => h.of_heap hh) own started (by kernel_rfl) Tryz.func5
  (ChangeSpec.witness_shaped (enc := enc) (C := Tryz.checked) (os := os) (X := fun w _ => laidMetH Tryz.prog listed w) false (laidW os) #[.slice none 0 0, .slice none 0 0, .bool false] 8 rfl (World.shaped_of_RefB (by kernel_rfl) (by kernel_rfl)) (by kernel_rfl) (by kernel_rfl) (by kernel_rfl) (door_met os _)) ?_
 intro W base args ds gs before hval0 hW _ _ hL hsh _
 have hval : ∀ (j : Nat) t v, Tryz.f5.params[j]? = some t -> args[j]? = some v -> Value.okWide Tryz.prog W .any base t v := hval0
 have hW' := hW
 obtain ⟨p, q, hA0, hV, rfl, hfz, hnd⟩ := hW
 have hA : DataW.TrodAll enc Tryz.prog W 0 (fun _ => true) true Tryz.f5.params.toList args.toList ds p := hA0
 rw [Tryz.params5] at hA hval
 have hK := hA
 have hlt := hA.lt
 obtain ⟨args⟩ := args
 obtain ⟨v0, args, d0, ds, p0, pr0, rfl, rfl, rfl, h0, hA⟩ := trodAll_cons hA
 obtain ⟨v1, args, d1, ds, p1, pr1, rfl, rfl, rfl, h1, hA⟩ := trodAll_cons hA
 obtain ⟨v2, args, d2, ds, p2, pr2, rfl, rfl, rfl, h2, hA⟩ := trodAll_cons hA
 obtain ⟨rfl, rfl, rfl⟩ := trodAll_nil hA
 obtain ⟨rfl, rfl⟩ := trodVars_none hV
 obtain ⟨X0, a0, c0, rfl, r0, o0, l0⟩ := open_raws (hval 0 22 v0 rfl rfl) h0
 obtain ⟨X1, a1, c1, rfl, r1, o1, l1⟩ := open_raws (hval 1 22 v1 rfl rfl) h1
 obtain ⟨b2, rfl, -⟩ := open_bool Tryz.underlying4 (hval 2 4 v2 rfl rfl) h2
 clear hA0 hval0 hval h0 h1 h2
 have hg := good_of_laid hL hsh
 refine Calls.mono (codeNames_any X0 a0 c0 X1 a1 c1 b2 W hg o0 l0 r0 o1 l1 r1) fun e W' ⟨he, hb⟩ => ?_
 subst he
 have hB := trodAll_back laidOut hb (by kernel_rfl) hK hlt
 exact ⟨_, rfl, _, _, _, [], _, [], hW', trodAll_mk1 (shut_bool Tryz.underlying4 true), hB, rfl, hb.frame _, fun h => by cases h⟩
theorem CodeNames_row : Rows.CodeNamesSaid :=
 OpenClaim.holds_of_wide 5 Tryz.f5 rfl rfl rfl rfl rfl rfl rfl ⟨rfl, rfl, rfl, rfl, rfl⟩ rfl rfl rfl rfl rfl (by kernel_rfl) Tryz.func5 (by kernel_rfl)
  (of_decide_eq_true (by kernel_rfl)) (by unfold Func.isWrapper; first | (rw [if_pos (by decide +kernel)]; kernel_rfl) | (rw [if_neg (by decide +kernel)]; exact ⟨rfl, rfl⟩))
  (fun os started H enc _ => CodeNames_lifted os started H enc)
theorem CodeNames_holds : Rows.CodeNamesCardSaid :=
 Claim7.holds_tied_plain_at .later [] [.data, .data, .data, .data, .sentinel, .sentinel, .pinned] true (true, "f53f8e0cca0d0035b9e4d21d026dff00012195a199630e060f3b9517070b7bfa") true
  CodeNames_row (fun _ h => by cases h) (by kernel_rfl) (fun _ h => by cases h) codeNames_row_tie rfl ⟨rfl, rfl⟩ (by kernel_rfl) rfl
  (fun f fn hf hfn => by
   obtain rfl : f = 5 := Option.some.inj ((show Tryz.prog.funcNamed "tabula/tabulalaw06.CodeNames" = some 5 by kernel_rfl).symm.trans hf) |>.symm
   obtain rfl : fn = Tryz.f5 := (Option.some.inj (Tryz.func5.symm.trans hfn)).symm
   exact ⟨by kernel_rfl, fun j t ht => by
    rw [Tryz.params5] at ht
    have hm : t ∈ [22, 22, 4] := by simpa using Array.mem_of_getElem? ht
    have hall : ([22, 22, 4].all fun u => !Tryz.prog.wantsStandIn u) = true := by kernel_rfl
    exact (show Tryz.prog.wantsStandIn t = false by simpa using List.all_eq_true.1 hall t hm)⟩)
  (by kernel_rfl)
#print axioms CodeNames_holds
end Go.Proofs.YtlpgigdegnbkmaaGreatDoor
