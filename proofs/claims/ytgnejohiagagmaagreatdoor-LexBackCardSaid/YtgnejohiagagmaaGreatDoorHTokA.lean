/- Rows of pieces, appended. -/
import Derived.Test.YtgnejohiagagmaaGreatDoorG10
import Derived.Test.YtgnejohiagagmaaGreatDoorG1
import Derived.Laws.AppendOwnNone
namespace Go.Proofs.YtgnejohiagagmaaGreatDoor
open Go.RowKit Tab

theorem toksV_cell {w : World} {b : Nat} : ∀ (L : List TokT) (o : Nat), TokCells w b o L → ∀ (j : Nat) (u : Value), (toksV L)[j]? = some u → w.cell? ⟨b, o + j, none⟩ = some u
  | [], o, _, j, u, h => by simp [toksV] at h
  | x :: L, o, h, j, u, hj => by
    have h0 := h 0 x rfl
    rw [Nat.zero_mul, Nat.add_zero] at h0
    match j, hj with
    | 0, hj => cases hj; exact h0.1
    | 1, hj => cases hj; exact h0.2.1
    | 2, hj => cases hj; exact h0.2.2
    | j + 3, hj =>
      have ht : TokCells w b (o + 3) L := fun i y hy => by
        have := h (i + 1) y (by simpa using hy)
        rw [show o + (i + 1) * 3 = o + 3 + i * 3 by omega] at this
        exact this
      have := toksV_cell L (o + 3) ht j u hj
      rw [show o + (j + 3) = o + 3 + j by omega]
      exact this
theorem toksV_one (L : List TokT) : ∀ u ∈ toksV L, u.oneCell' = true := by
  intro u hu
  unfold toksV at hu
  obtain ⟨x, _, hx⟩ := List.mem_flatMap.1 hu
  simp only [tokCells, List.mem_cons, List.not_mem_nil, or_false] at hx
  rcases hx with rfl | rfl | rfl <;> rfl
theorem toksV_app (L M : List TokT) : toksV (L ++ M) = toksV L ++ toksV M := by unfold toksV; simp

/-- pieces appended to pieces that the call owns. -/
theorem tok_append {w : World} {o : Oper} {a : Act} {K : Act → World → Prop} {Q : Exit → Act → World → Prop} (s x : Operand)
    (ho : o.op = .call { callee := .builtin .append, args := #[s, x], argTypes := #[22, 22] })
    (base : Nat) (v u : Value) (M L : List TokT) (hs : a.eval s = v) (hx : a.eval x = u) (hown : w.ownsRow base 25 3 v M.length (toksV M)) (hL : TokRow w u L) (hn : M.length + L.length ≤ 1000) (hbase : base ≤ w.heap.size)
    (h : ∀ v' w', w'.ownsRow base 25 3 v' (M ++ L).length (toksV (M ++ L)) → w.grownBy w' v.ownBlock → K (a.put o.dst v') w') : o.wp Tryz.prog a w K Q := by
  obtain ⟨iT, hi, hz0, hz1, hz2⟩ := info_parts infoTok
  rcases hL with ⟨rfl, rfl⟩ | ⟨b, of, c, rfl, hc, hb, hcell⟩
  · refine wp_append_none s x 22 ho base 25 iT 3 Tryz.underlying22 hi v M.length (toksV M) hs hown hx ?_
    exact h v w (by rw [List.append_nil]; exact hown) ⟨rfl, rfl, rfl, Nat.le_refl _, fun _ _ _ => rfl⟩
  · refine wp_append_own w s x 22 ho base 25 iT (.agg #[.int .i64 0, .string ⟨#[]⟩, .int .i64 0]) 3 32 Tryz.underlying22 hi hz0 hz1 hz2 rfl (by decide) v M.length (toksV M) hs hown ⟨b, of, none⟩ L.length c (toksV L) hx (toksV_len L) ?_ (toksV_one L) (by unfold maxLen; omega) (by omega) hbase ?_
    · intro j u hu
      have := toksV_cell L of hcell j u hu
      unfold Addr.add
      by_cases h0 : j = 0
      · subst h0; simpa using this
      · simpa [h0] using this
    · intro v' w' h1 h2 _
      exact h v' w' (by rw [List.length_append, toksV_app]; exact h1) h2
end Go.Proofs.YtgnejohiagagmaaGreatDoor
