/- What all walks of this seat share: the form of a contract, and small lemmas on worlds. -/
import Derived.Test.YtmeiboajpbflcaaGreatDoorProg
import Derived.Test.YtmeiboajpbflcaaGreatDoorPlain
import Derived.WalkLawsBesides
import Derived.WalkSpells
import Derived.Lib.Hide
import Derived.Test.YtmeiboajpbflcaaGreatDoorRegion
namespace Go.Proofs.YtmeiboajpbflcaaGreatDoor
open Go.RowKit

/-- It returns v; what was there is as it was. -/
def Ret (v : Value) (w : World) (e : Ending) (w' : World) : Prop := e = .returned v ∧ Below w.heap.size w w'
theorem Ret.mk' {v v' : Value} {w w' : World} (h : v = v') (hb : Below w.heap.size w w') : Ret v' w (.returned v) w' := ⟨by rw [h], hb⟩
theorem Ret.mk2 {a a' b b' : Value} {w w' : World} (h : a = a') (h2 : b = b') (hb : Below w.heap.size w w') : Ret (.tuple #[a', b']) w (.returned (.tuple #[a, b])) w' := ⟨by rw [h, h2], hb⟩
theorem Ret.mk3 {a a' b b' c c' : Value} {w w' : World} (h : a = a') (h2 : b = b') (h3 : c = c') (hb : Below w.heap.size w w') : Ret (.tuple #[a', b', c']) w (.returned (.tuple #[a, b, c])) w' := ⟨by rw [h, h2, h3], hb⟩
def strV (l : Tab.Bs) : Value := .string ⟨l.toArray⟩
theorem strV_eq {x : ByteArray} {l : Tab.Bs} (h : x.data.toList = l) : Value.string x = strV l := by
  obtain ⟨⟨x⟩⟩ := x; subst h; rfl
theorem ba_append (a b : ByteArray) : (a ++ b).data.toList = a.data.toList ++ b.data.toList := by rw [ByteArray.data_append, Array.toList_append]
theorem ba_extract (s : ByteArray) (i j : Nat) : (s.extract i j).data.toList = (s.data.toList.take j).drop i := by
  rw [ByteArray.data_extract, Array.toList_extract]; simp [List.extract, List.drop_take]
theorem take_snoc (s : ByteArray) (k : Nat) (h : k < s.size) : s.data.toList.take (k + 1) = s.data.toList.take k ++ [s[k]] := by
  rw [List.take_succ_eq_append_getElem (by simpa using h)]; rfl
theorem ba_size (s : ByteArray) : s.data.toList.length = s.size := rfl
theorem one_ext (s : ByteArray) (k : Nat) (h : k < s.size) : (s.data.toList.take (k + 1)).drop k = [s[k]] := by
  rw [take_snoc s k h, List.drop_append_of_le_length (by rw [List.length_take, ba_size]; omega), List.drop_eq_nil_of_le (by rw [List.length_take]; omega)]; rfl
theorem bcell {W w1 : World} (hb : Below W.heap.size W w1) : (∀ b o, b < W.heap.size → w1.cell? ⟨b, o, none⟩ = W.cell? ⟨b, o, none⟩) ∧ (∀ b o, b < W.heap.size → w1.frozen? ⟨b, o, none⟩ = W.frozen? ⟨b, o, none⟩) :=
  ⟨fun b o h => hb.cell (p := ⟨b, o, none⟩) h, fun b o h => hb.frozen (p := ⟨b, o, none⟩) h⟩
theorem after {w W w1 : World} (h : Below w.heap.size w W) (h1 : Below W.heap.size W w1) : Below w.heap.size w w1 := h.trans (h1.mono h.size)
theorem drewN_abs (w : World) (n : Nat) : ∃ w3, w.drewN n = w3 ∧ Below w.heap.size w w3 := ⟨_, rfl, below_drewN (Below.refl _ _) n⟩
theorem allocB {w W : World} {o : Obj} (h : Below w.heap.size w W) : Below w.heap.size w (W.alloc o) := h.alloc h.size o
theorem setB {w W : World} {b o : Nat} {u : Value} (h : Below w.heap.size w W) (hb : w.heap.size ≤ b) : Below w.heap.size w (W.setCell ⟨b, o, none⟩ u) := h.setCell hb u
theorem drewB {w W : World} (h : Below w.heap.size w W) : Below w.heap.size w W.drew := h.drew

theorem wp_abs {P : Program} {c : Code} {Q : Exit → Act → World → Prop} {a : Act} {W : World} (h : ∀ w1, Below W.heap.size W w1 → c.wp P Q a w1) : c.wp P Q a W := h W (Below.refl _ _)
/-- A block of cells that may be written. -/
def Blk (w : World) (b : Nat) (C : Array Value) : Prop := ∃ T, w.heap[b]? = some (.cells C T (0, 0))
theorem Blk.facts {w : World} {b : Nat} {C : Array Value} (h : Blk w b C) : (∀ o, w.cell? ⟨b, o, none⟩ = C[o]?) ∧ (∀ o, w.frozen? ⟨b, o, none⟩ = false) ∧ b < w.heap.size := by
  obtain ⟨T, h⟩ := h
  refine ⟨fun o => by unfold World.cell?; simp [h], fun o => by unfold World.frozen?; simp [h], ?_⟩
  rcases Nat.lt_or_ge b w.heap.size with h' | h'
  · exact h'
  · rw [Array.getElem?_eq_none h'] at h; cases h
theorem Blk.set {w : World} {b i : Nat} {C : Array Value} {v : Value} (h : Blk w b C) : Blk (w.setCell ⟨b, i, none⟩ v) b (C.setIfInBounds i v) := by
  obtain ⟨T, h⟩ := h
  refine ⟨T, ?_⟩
  simp [World.setCell, Array.getElem?_modify, h]
theorem Blk.other {w : World} {b b' i : Nat} {C : Array Value} {v : Value} (h : Blk w b C) (hb : b' ≠ b) : Blk (w.setCell ⟨b', i, none⟩ v) b C := by
  obtain ⟨T, h⟩ := h
  refine ⟨T, ?_⟩
  simp [World.setCell, Array.getElem?_modify, h, hb]
theorem Blk.below {w w1 : World} {b : Nat} {C : Array Value} (h : Blk w b C) (hb : Below w.heap.size w w1) : Blk w1 b C := by
  have hl := h.facts.2.2
  obtain ⟨T, h⟩ := h
  exact ⟨T, (hb.block b hl).trans h⟩
theorem Blk.alloc {w : World} {b : Nat} {C : Array Value} {o : Obj} (h : Blk w b C) : Blk (w.alloc o) b C := h.below ((Below.refl _ _).alloc (Nat.le_refl _) o)
theorem Blk.new {w : World} {n : Nat} {C : Array Value} {T : TypeId} (hn : n = w.heap.size) : Blk (w.alloc (.cells C T)) n C := ⟨T, by subst hn; exact Array.getElem?_push_size⟩
theorem Blk.eq {w : World} {b : Nat} {C C' : Array Value} (h : Blk w b C) (e : C = C') : Blk w b C' := e ▸ h
theorem wp_abs2 {P : Program} {c : Code} {Q : Exit → Act → World → Prop} {a : Act} {W : World} (F : World → Prop) (hF : F W) (h : ∀ w1, F w1 → c.wp P Q a w1) : c.wp P Q a W := h W hF
/-- the cells of old blocks in the worlds of a region's class. -/
theorem gcell (w : World) (d : Nat) (os : Array Obj) (b o : Nat) (h : b < w.heap.size) : (Sort.grow (redrawn w d) os).cell? ⟨b, o, none⟩ = w.cell? ⟨b, o, none⟩ := (below_regrown w d os).cell (p := ⟨b, o, none⟩) h
theorem Ret.grown {P : Program} {f : FuncId} {args : Array Value} {w : World} {d : Nat} {os : Array Obj} {v : Value} (h : ∀ W, Below w.heap.size w W → Calls P f args W (Ret v W)) :
    Calls P f args (Sort.grow (redrawn w d) os) fun e w'' => e = .returned v ∧ ∃ p : Regrown, w'' = Sort.grow (redrawn w p.d) p.os := Calls.regrown_of (h _ (below_regrown w d os))

/-- It returns v, and the world is as it was. -/
def Still (v : Value) (w : World) (e : Ending) (w' : World) : Prop := e = .returned v ∧ w = w'
theorem Still.mk' {v v' : Value} {w : World} (h : v = v') : Still v' w (.returned v) w := ⟨by rw [h], rfl⟩
theorem Still.ret {v : Value} {w w' : World} {e : Ending} (h : Still v w e w') : Ret v w e w' := by obtain ⟨rfl, rfl⟩ := h; exact ⟨rfl, Below.refl _ _⟩

def areaV (a : Tab.AreaD) : Value := .agg #[.int .i64 a.sheet, .int .i64 a.row, .int .i64 a.col, .int .i64 a.rows, .int .i64 a.cols]
end Go.Proofs.YtmeiboajpbflcaaGreatDoor
