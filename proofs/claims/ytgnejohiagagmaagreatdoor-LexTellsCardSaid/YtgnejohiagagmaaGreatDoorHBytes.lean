/- Bytes in memory; a text's letters made small. -/
import Derived.Test.YtgnejohiagagmaaGreatDoorG1
import Derived.Test.YtgnejohiagagmaaGreatDoorG4
import Derived.Laws.IdiomStrings
namespace Go.Proofs.YtgnejohiagagmaaGreatDoor
open Go.RowKit Tab

/-- a block's first cells are these bytes, and may be written. -/
def Byt (w : World) (b : Nat) (l : Bs) : Prop := (∀ o (h : o < l.length), w.cell? ⟨b, o, none⟩ = some (.int .u8 (l[o].toNat : Int)) ∧ w.frozen? ⟨b, o, none⟩ = false) ∧ b < w.heap.size
theorem byt_new (w : World) (l : Bs) (cap : Nat) : Byt (w.drew.alloc (.cells (bytesRow ⟨l.toArray⟩ cap) 5 ((bytesRow ⟨l.toArray⟩ cap).size, (bytesRow ⟨l.toArray⟩ cap).size + 1))) w.heap.size l := by
  have hh : (w.drew.alloc (.cells (bytesRow ⟨l.toArray⟩ cap) 5 ((bytesRow ⟨l.toArray⟩ cap).size, (bytesRow ⟨l.toArray⟩ cap).size + 1))).heap[w.heap.size]? = some (.cells (bytesRow ⟨l.toArray⟩ cap) 5 ((bytesRow ⟨l.toArray⟩ cap).size, (bytesRow ⟨l.toArray⟩ cap).size + 1)) := Array.getElem?_push_size
  refine ⟨fun o h => ⟨?_, ?_⟩, ?_⟩
  · unfold World.cell?; rw [hh]
    show (bytesRow ⟨l.toArray⟩ cap)[o]? = _
    unfold bytesRow
    rw [Array.getElem?_append_left (by simpa using h)]
    simp [h]
  · unfold World.frozen?; rw [hh]
    have : l.length ≤ (bytesRow ⟨l.toArray⟩ cap).size := by simp [bytesRow]
    simp; omega
  · show w.heap.size < (w.heap.push _).size
    simp
theorem byt_new2 (w : World) (l : Bs) (cap : Nat) : Byt (w.alloc (.cells (bytesRow ⟨l.toArray⟩ cap) 5 ((bytesRow ⟨l.toArray⟩ cap).size, (bytesRow ⟨l.toArray⟩ cap).size + 1))).drew w.heap.size l := byt_new w l cap
theorem Byt.set {w : World} {b i : Nat} {l : Bs} (h : Byt w b l) (hi : i < l.length) (x : UInt8) : Byt (w.setCell ⟨b, i, none⟩ (.int .u8 (x.toNat : Int))) b (l.set i x) := by
  obtain ⟨h1, h2⟩ := h
  refine ⟨fun o ho => ?_, by simpa [World.setCell] using h2⟩
  rw [List.length_set] at ho
  obtain ⟨c, f⟩ := h1 o ho
  have ci := (h1 i hi).1
  unfold World.cell? at c ci ⊢
  unfold World.frozen? at f ⊢
  simp only [World.setCell, Array.getElem?_modify] at *
  cases hb : w.heap[b]? with
  | none => rw [hb] at c; simp at c
  | some O =>
    rw [hb] at c f ci
    cases O <;> simp at c f ci ⊢
    rename_i C T fr
    refine ⟨?_, f⟩
    have hiC : i < C.size := by
      rcases Nat.lt_or_ge i C.size with h | h
      · exact h
      · rw [Array.getElem?_eq_none h] at ci; cases ci
    rw [Array.getElem?_setIfInBounds, List.getElem_set]
    by_cases e : i = o
    · rw [if_pos e, if_pos hiC, if_pos e]
    · rw [if_neg e, if_neg e]; exact c
theorem set_same (l : Bs) (k : Nat) (c : UInt8) (h : ∀ (h : k < l.length), l[k] = c) : l.set k c = l := by
  apply List.ext_getElem
  · simp
  · intro i h1 h2
    rw [List.getElem_set]
    split
    · rename_i e; subst e; exact (h h2).symm
    · rfl
theorem Byt.eq {w : World} {b : Nat} {l l' : Bs} (h : Byt w b l) (e : l = l') : Byt w b l' := e ▸ h
theorem byt_back {w : World} {b cap : Nat} {l : Bs} (h : Byt w b l) : (convert 31 9 (.slice (some ⟨b, 0, none⟩) l.length cap)).run Tryz.prog w = .ok (.string ⟨l.toArray⟩) w :=
  run_convert_bytes_back w _ _ 5 _ cap l Tryz.underlying31 Tryz.underlying5 Tryz.underlying9 (fun j hj => by
    have e : (⟨b, 0, none⟩ : Addr).add j = ⟨b, j, none⟩ := by unfold Addr.add; simp; intro h; rw [h]
    rw [e]; exact (h.1 j hj).1)
theorem ba_ext {a b : ByteArray} (h : a.toList = b.toList) : a = b := by
  rw [ByteArray.toList_eq, ByteArray.toList_eq] at h
  rw [← ba_eta a, h, ba_eta b]
theorem ba_cat (a b : Bs) : (⟨a.toArray⟩ : ByteArray) ++ ⟨b.toArray⟩ = ⟨(a ++ b).toArray⟩ := by
  rw [← ba_eta (⟨a.toArray⟩ ++ ⟨b.toArray⟩), ba_append]
theorem low_set (l : Bs) (k : Nat) (hk : k < l.length) : ((l.take k).map lowB ++ l.drop k).set k (lowB l[k]) = (l.take (k + 1)).map lowB ++ l.drop (k + 1) := by
  rw [List.drop_eq_getElem_cons hk, List.take_succ_eq_append_getElem hk, List.map_append, List.set_append_right _ _ (by simp; omega)]
  have e : (List.map lowB (List.take k l)).length = k := by simp; omega
  rw [e, Nat.sub_self, List.set_cons_zero, List.append_assoc]; rfl
theorem low_at (l : Bs) (k : Nat) (hk : k < l.length) : ((l.take k).map lowB ++ l.drop k).length = l.length ∧ ∀ h, ((l.take k).map lowB ++ l.drop k)[k]'h = l[k] := by
  refine ⟨by simp; omega, fun h => ?_⟩
  rw [List.getElem_append_right (by simp; omega)]
  simp [Nat.min_eq_left (Nat.le_of_lt hk)]
theorem low_all (fc fr : Bool) (L : Bs) (v : Int) (h1 : 1 ≤ v) (h2 : v ≤ 200) : (fixD fc ++ L ++ fixD fr ++ Lib.itoa v).map lowB = fixD fc ++ L.map lowB ++ fixD fr ++ Lib.itoa v := by
  obtain ⟨_, hd, _⟩ := row_of v h1 h2
  have f : ∀ b, (fixD b).map lowB = fixD b := by intro b; cases b <;> rfl
  have g : (Lib.itoa v).map lowB = Lib.itoa v := by
    conv => rhs; rw [← List.map_id (Lib.itoa v)]
    refine List.map_congr_left fun b hb => ?_
    have := List.all_eq_true.1 hd b hb
    unfold isDigitB at this
    have := of_decide_eq_true this
    unfold lowB
    rw [if_neg]; rfl
    intro h
    have : (65 : UInt8).toNat ≤ b.toNat := UInt8.le_iff_toNat_le.1 h.1
    have e : (65 : UInt8).toNat = 65 := rfl
    omega
  simp only [List.map_append, f, g]
theorem lowB_yes (b : UInt8) (h1 : 65 ≤ b.toNat) (h2 : b.toNat ≤ 90) : (b.toNat : Int) + 32 = ((lowB b).toNat : Int) := by
  unfold lowB
  rw [if_pos ⟨UInt8.le_iff_toNat_le.2 h1, UInt8.le_iff_toNat_le.2 h2⟩, UInt8.toNat_add]
  have : (32 : UInt8).toNat = 32 := rfl
  omega
theorem lowB_no (b : UInt8) (h : ¬ (65 ≤ b.toNat ∧ b.toNat ≤ 90)) : lowB b = b := by
  unfold lowB
  rw [if_neg]
  rintro ⟨e1, e2⟩
  have e1 := UInt8.le_iff_toNat_le.1 e1
  have e2 := UInt8.le_iff_toNat_le.1 e2
  have k1 : (65 : UInt8).toNat = 65 := rfl
  have k2 : (90 : UInt8).toNat = 90 := rfl
  omega

end Go.Proofs.YtgnejohiagagmaaGreatDoor
