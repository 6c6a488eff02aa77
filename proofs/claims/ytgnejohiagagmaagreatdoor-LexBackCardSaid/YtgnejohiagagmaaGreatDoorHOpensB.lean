/- How bytes that come in are opened. -/
import Derived.Test.YtgnejohiagagmaaGreatDoorG16
import Derived.Test.YtgnejohiagagmaaGreatDoorHByteR
import Derived.ChangeSlices
namespace Go.Proofs.YtgnejohiagagmaaGreatDoor
open Go.ChangeShapes Go.WideShapes Go.RowKit Go.ChangeMaps

set_option maxRecDepth 100000 in
theorem open_bytes {H : Type} {enc : TypeId × Value → H} {W : World} {v : Value} {r : Reach} {b0 : Nat} {d : DataW H} {p : List MemPlace} (hv : Value.okWide Tryz.prog W r b0 32 v) (h : DataW.Trod enc Tryz.prog W 0 (fun _ => true) true 32 v d p) :
    ∃ l : List Int, ByteRow W v l ∧ (∀ z ∈ l, 0 ≤ z ∧ z ≤ 255) ∧ l.length ≤ 9223372036854775807 := by
  obtain ⟨a0, len, cap, rfl⟩ := okWide_slice Tryz.underlying32 hv
  obtain ⟨fuel, hf⟩ := h
  rcases open_ints Tryz.underlying32 Tryz.underlying5 (by kernel_rfl) hf with ⟨h1, _⟩ | ⟨a, len', cap', zs, h1, _, hl, hm, hz, _, hc, hw⟩
  · have e : Value.slice a0 len cap = .slice none 0 0 := by simpa [Value.cells] using h1
    rw [e]
    exact ⟨[], .inl ⟨rfl, rfl⟩, by simp, by simp⟩
  · have e : Value.slice a0 len cap = .slice (some a) len' cap' := by simpa [Value.cells] using h1
    rw [e]
    rw [if_pos rfl] at hz
    have ht : (zs.take len').length = len' := by rw [List.length_take]; omega
    refine ⟨zs.take len', .inr ⟨a, cap', by rw [ht], by rw [ht]; exact hl, fun i hi => ?_⟩, fun z hzm => bounds_u8 (hw z (List.mem_of_mem_take hzm)), ?_⟩
    · rw [ht] at hi
      rw [hc i (by omega), List.getD_eq_getElem?_getD, List.getD_eq_getElem?_getD, List.getElem?_take, if_pos hi]
    · rw [ht]; have : maxLen ≤ 9223372036854775807 := by unfold maxLen; decide
      omega
end Go.Proofs.YtgnejohiagagmaaGreatDoor
