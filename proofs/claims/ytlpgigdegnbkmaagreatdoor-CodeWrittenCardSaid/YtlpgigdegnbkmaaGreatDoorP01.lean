import Derived.Test.YtlpgigdegnbkmaaGreatDoorM08
import Derived.Test.YtlpgigdegnbkmaaGreatDoorM07
import Derived.Test.YtlpgigdegnbkmaaGreatDoorM04
import Derived.Test.YtlpgigdegnbkmaaGreatDoorM39
import Derived.Test.YtlpgigdegnbkmaaGreatDoorM34
theorem Tab.mtl {α : Type} {a b : α} {l : List α} (h : a ∈ l) : a ∈ b :: l := List.mem_cons_of_mem _ h
namespace Tab
namespace NC
open Go
theorem val_same {D E : Nat -> Int} : ∀ n, (∀ k, k < n -> D k = E k) -> valF D n = valF E n
 | 0, _ => rfl
 | n + 1, h => by
  show valF D n + (D n).toNat * 10 ^ n = valF E n + (E n).toNat * 10 ^ n
  rw [val_same n (fun k hk => h k (by omega)), h n (by omega)]
theorem topF_above (D : Nat -> Int) : ∀ n (i : Nat), topF D n < (i : Int) -> i < n -> D i = 0
 | 0, i, _, h => by omega
 | n + 1, i, h, hi => by
  unfold topF at h
  by_cases h0 : D n ≠ 0
  ·rw [if_pos h0] at h; omega
  ·rw [if_neg h0] at h
   rcases Nat.lt_or_ge i n with h1 | h1
   ·exact topF_above D n i h h1
   ·have : i = n := by omega
    rw [this]; simpa using h0
end NC
open Go NC
theorem pow_part {a b x y : Nat} (h : a * 10 ^ x = b * 10 ^ y) (hxy : x < y) : a % 10 = 0 := by
 obtain ⟨d, rfl⟩ : ∃ d, y = x + (d + 1) := ⟨y - x - 1, by omega⟩
 rw [Nat.pow_add, Nat.mul_comm (10 ^ x), <- Nat.mul_assoc] at h
 have := Nat.eq_of_mul_eq_mul_right (Nat.pow_pos (by decide)) h
 rw [this, Nat.pow_succ, <- Nat.mul_assoc]
 exact Nat.mul_mod_left _ _
theorem tmod_of {m : Int} (h : m.natAbs % 10 = 0) : m.tmod 10 = 0 := by
 have : (m.tmod 10).natAbs = m.natAbs % (10 : Int).natAbs := Int.natAbs_tmod m 10
 rw [show ((10 : Int).natAbs) = 10 from rfl, h] at this
 exact Int.natAbs_eq_zero.1 this
theorem dec_same {m e m' e' : Int} (h : decOkD m e = true) (h' : decOkD m' e' = true) (hs : (m < 0) <-> (m' < 0)) (hv : m.natAbs * 10 ^ (48 + e).toNat = m'.natAbs * 10 ^ (48 + e').toNat) : m = m' /\ e = e' := by
 have k := h
 have k' := h'
 unfold decOkD at k k'
 simp only [Bool.and_eq_true, Bool.not_eq_true', Bool.or_eq_false_iff, decide_eq_false_iff_not, Bool.or_eq_true, beq_iff_eq, beq_eq_false_iff_ne] at k k'
 obtain ⟨⟨a1, a2, a3⟩, a4⟩ := k
 obtain ⟨⟨b1, b2, b3⟩, b4⟩ := k'
 by_cases hm : m = 0
 ·have hm' : m' = 0 := by
   subst hm
   rw [Int.natAbs_zero, Nat.zero_mul] at hv
   rcases Nat.mul_eq_zero.1 hv.symm with hv | hv
   ·omega
   ·exact absurd hv (Nat.ne_of_gt (Nat.pow_pos (by decide)))
  rcases a4 with a4 | a4
  ·rcases b4 with b4 | b4
   ·exact ⟨by rw [hm, hm'], by rw [a4.2, b4.2]⟩
   ·exact absurd hm' b4.1
  ·exact absurd hm a4.1
 ·have hm' : m' ≠ 0 := by
   rintro rfl
   rw [Int.natAbs_zero, Nat.zero_mul] at hv
   rcases Nat.mul_eq_zero.1 hv with hv | hv
   ·omega
   ·exact absurd hv (Nat.ne_of_gt (Nat.pow_pos (by decide)))
  have c1 := (a4.resolve_left fun h => hm h.1).2
  have c2 := (b4.resolve_left fun h => hm' h.1).2
  have e0 : e = e' := by
   rcases Int.lt_trichotomy e e' with hl | hl | hl
   ·have := pow_part hv (show (48 + e).toNat < (48 + e').toNat by omega)
    rcases c1 with c1 | c1
    ·exact absurd (tmod_of this) c1
    ·omega
   ·exact hl
   ·have := pow_part hv.symm (show (48 + e').toNat < (48 + e).toNat by omega)
    rcases c2 with c2 | c2
    ·exact absurd (tmod_of this) c2
    ·omega
  subst e0
  have := Nat.eq_of_mul_eq_mul_right (Nat.pow_pos (by decide)) hv
  exact ⟨by omega, rfl⟩
end Tab
namespace Tab
open Go
theorem part_inj (d : UInt8) : ∀ (x y A B : Bs), d ∉ x -> d ∉ y -> x ++ d :: A = y ++ d :: B -> x = y /\ A = B
 | [], [], A, B, _, _, h => by simp at h; exact ⟨rfl, h⟩
 | [], c :: y, A, B, _, hy, h => by
  simp at h
  exact absurd (h.1 ▸ List.mem_cons_self ..) hy
 | c :: x, [], A, B, hx, _, h => by
  simp at h
  exact absurd (h.1 ▸ List.mem_cons_self ..) hx
 | c :: x, e :: y, A, B, hx, hy, h => by
  simp only [List.cons_append, List.cons.injEq] at h
  obtain ⟨rfl, h⟩ := h
  obtain ⟨rfl, h2⟩ := part_inj d x y A B (fun m => hx (mtl m)) (fun m => hy (mtl m)) h
  exact ⟨rfl, h2⟩
theorem part_last (d : UInt8) (x y A B : Bs) (hA : d ∉ A) (hB : d ∉ B) (h : x ++ d :: A = y ++ d :: B) : x = y /\ A = B := by
 have h2 := congrArg List.reverse h
 simp only [List.reverse_append, List.reverse_cons, List.append_assoc, List.singleton_append] at h2
 obtain ⟨a, b⟩ := part_inj d A.reverse B.reverse x.reverse y.reverse (by simpa using hA) (by simpa using hB) h2
 exact ⟨List.reverse_inj.1 b, List.reverse_inj.1 a⟩
theorem lays_cons (x : Bs) (L : List Bs) : lays (x :: L) = x ++ 10 :: lays L := by simp [lays]
theorem lays_app (L M : List Bs) : lays (L ++ M) = lays L ++ lays M := by simp [lays]
theorem lays_inj : ∀ (L M : List Bs), (∀ x ∈ L, (10 : UInt8) ∉ x) -> (∀ x ∈ M, (10 : UInt8) ∉ x) -> lays L = lays M -> L = M
 | [], [], _, _, _ => rfl
 | [], y :: M, _, _, h => by rw [lays_cons] at h; simp [lays] at h
 | x :: L, [], _, _, h => by rw [lays_cons] at h; simp [lays] at h
 | x :: L, y :: M, hx, hy, h => by
  rw [lays_cons, lays_cons] at h
  obtain ⟨rfl, h2⟩ := part_inj 10 x y _ _ (hx x (List.mem_cons_self ..)) (hy y (List.mem_cons_self ..)) h
  rw [lays_inj L M (fun z hz => hx z (mtl hz)) (fun z hz => hy z (mtl hz)) h2]
theorem lays_count : ∀ (L : List Bs), (∀ x ∈ L, (10 : UInt8) ∉ x) -> (lays L).countP (· == 10) = L.length
 | [], _ => rfl
 | x :: L, h => by
  rw [lays_cons, List.countP_append, List.countP_cons, lays_count L (fun z hz => h z (mtl hz))]
  have : x.countP (· == 10) = 0 := List.countP_eq_zero.2 fun b hb e => h x (List.mem_cons_self ..) (by
   have : b = 10 := by simpa using e
   rw [<- this]; exact hb)
  rw [this]; simp
def headT (i : Nat) (p : Bs) : Bs := [98, 108, 111, 99, 107, 32] ++ (Lib.itoa i ++ ([32, 40] ++ (p ++ [41])))
def insT (x : InsD) : Bs := [32, 32] ++ joinB 32 (wordI x.op :: partsI x)
def linesT : Nat -> List (List InsD) -> List Bs -> List Bs
 | i, l :: r, p :: q => headT i p :: (l.map insT ++ linesT (i + 1) r q)
 | _, _, _ => []
theorem lays_ins (l : List InsD) : l.flatMap lineC = lays (l.map insT) := by
 induction l with
 | nil => rfl
 | cons x l ih => rw [List.flatMap_cons, ih, List.map_cons, lays_cons]; simp [lineC, insT]
theorem texts_lays : ∀ (i : Nat) (B : List (List InsD)) (Q : List Bs), textsC i B Q = lays (linesT i B Q)
 | i, [], _ => by simp [textsC, linesT, lays]
 | i, l :: r, [] => by simp [textsC, linesT, lays]
 | i, l :: r, p :: q => by
  rw [textsC, linesT, lays_cons, lays_app, <- lays_ins, <- texts_lays (i + 1) r q]
  simp [blockT, headT]
theorem split_heads {α : Type} {P : α -> Bool} : ∀ (A A' C C' : List α), (∀ x ∈ A, P x = true) -> (∀ x ∈ A', P x = true) -> (∀ x, C.head? = some x -> P x = false) -> (∀ x, C'.head? = some x -> P x = false) -> A ++ C = A' ++ C' -> A = A' /\ C = C'
 | [], [], _, _, _, _, _, _, h => ⟨rfl, h⟩
 | [], a :: A', C, C', _, hA', hC, _, h => by
  have := hC a (by rw [List.nil_append] at h; rw [h]; rfl)
  rw [hA' a (List.mem_cons_self ..)] at this; cases this
 | a :: A, [], C, C', hA, _, _, hC', h => by
  have := hC' a (by rw [List.nil_append] at h; rw [<- h]; rfl)
  rw [hA a (List.mem_cons_self ..)] at this; cases this
 | a :: A, a' :: A', C, C', hA, hA', hC, hC', h => by
  simp only [List.cons_append, List.cons.injEq] at h
  obtain ⟨rfl, h⟩ := h
  obtain ⟨rfl, h2⟩ := split_heads A A' C C' (fun x hx => hA x (mtl hx)) (fun x hx => hA' x (mtl hx)) hC hC' h
  exact ⟨rfl, h2⟩
def isIns (x : Bs) : Bool := x.head? == some 32
theorem ins_is (x : InsD) : isIns (insT x) = true := rfl
theorem lines_head (i : Nat) (B : List (List InsD)) (Q : List Bs) : ∀ x, (linesT i B Q).head? = some x -> isIns x = false := by
 intro x h
 cases B with
 | nil => simp [linesT] at h
 | cons l r =>
  cases Q with
  | nil => simp [linesT] at h
  | cons p q => simp only [linesT, List.head?_cons, Option.some.injEq] at h; subst h; rfl
theorem lines_inj : ∀ (i : Nat) (B B' : List (List InsD)) (Q Q' : List Bs), Q.length = B.length -> Q'.length = B'.length -> linesT i B Q = linesT i B' Q' -> Q = Q' /\ B.map (fun l => l.map insT) = B'.map (fun l => l.map insT)
 | i, [], [], [], [], _, _, _ => ⟨rfl, rfl⟩
 | i, [], l' :: r', [], p' :: q', _, _, h => by simp [linesT] at h
 | i, l :: r, [], p :: q, [], _, _, h => by simp [linesT] at h
 | i, l :: r, l' :: r', p :: q, p' :: q', h1, h2, h => by
  rw [linesT, linesT, List.cons.injEq] at h
  obtain ⟨ha, hb⟩ := h
  have hp : p = p' := by simpa [headT] using ha
  obtain ⟨hc, hd⟩ := split_heads _ _ _ _ (fun x hx => by obtain ⟨y, _, rfl⟩ := List.mem_map.1 hx; exact ins_is y) (fun x hx => by obtain ⟨y, _, rfl⟩ := List.mem_map.1 hx; exact ins_is y) (lines_head _ _ _) (lines_head _ _ _) hb
  obtain ⟨he, hf⟩ := lines_inj (i + 1) r r' q q' (by simpa using h1) (by simpa using h2) hd
  exact ⟨by rw [hp, he], by rw [List.map_cons, List.map_cons, hc, hf]⟩
 | _, [], _, _ :: _, _, h, _, _ => by simp at h
 | _, _ :: _, _, [], _, h, _, _ => by simp at h
 | _, _, [], _, _ :: _, _, h, _ => by simp at h
 | _, _, _ :: _, _, [], _, h, _ => by simp at h
theorem lines_len : ∀ (i : Nat) (B : List (List InsD)) (Q : List Bs), Q.length = B.length -> (linesT i B Q).length = B.length + (B.map List.length).sum
 | i, [], [], _ => rfl
 | i, l :: r, p :: q, h => by
  rw [linesT, List.length_cons, List.length_append, List.length_map, lines_len (i + 1) r q (by simpa using h)]
  simp; omega
 | _, [], _ :: _, h => by simp at h
 | _, _ :: _, [], h => by simp at h
def numV (l : Bs) : Nat := l.foldl (fun n b => n * 10 + (b.toNat - 48)) 0
theorem itoa_all : ∀ i : Fin 401, numV (Lib.itoa (i.val : Int)) = i.val /\ (Lib.itoa (i.val : Int)).all (fun b => decide (48 <= b.toNat /\ b.toNat <= 57)) = true := by decide +kernel
theorem itoa_val (a : Int) (h0 : 0 <= a) (h4 : a <= 400) : numV (Lib.itoa a) = a.toNat /\ ∀ b ∈ Lib.itoa a, 48 <= b.toNat /\ b.toNat <= 57 := by
 have := itoa_all ⟨a.toNat, by omega⟩
 dsimp only at this
 rw [show ((a.toNat : Nat) : Int) = a by omega] at this
 refine ⟨this.1, fun b hb => ?_⟩
 have := List.all_eq_true.1 this.2 b hb
 simpa using this
theorem itoa_inj {a b : Int} (h0 : 0 <= a) (h4 : a <= 400) (k0 : 0 <= b) (k4 : b <= 400) (h : Lib.itoa a = Lib.itoa b) : a = b := by
 have h1 := (itoa_val a h0 h4).1
 have h2 := (itoa_val b k0 k4).1
 rw [h] at h1
 omega
theorem itoa_no {a : Int} (h0 : 0 <= a) (h4 : a <= 400) {d : UInt8} (hd : d.toNat < 48) : d ∉ Lib.itoa a := fun h => by
 have := (itoa_val a h0 h4).2 d h
 omega
theorem heads_params : ∀ (s : Nat) (B : List (List InsD)) (Q : List Bs), B.length = Q.length -> headsC s B Q = true -> ∀ p ∈ Q, listedB p 400 = true
 | _, [], [], _, _, p, hp => by cases hp
 | _, _ :: _, [], h, _, _, _ => by simp at h
 | _, [], _ :: _, h, _, _, _ => by simp at h
 | s, x :: B, q :: Q, hl, h, p, hp => by
  unfold headsC at h
  split at h
  ·rename_i hc
   rw [Bool.and_eq_true] at hc
   rcases List.mem_cons.1 hp with rfl | hp
   ·exact hc.1
   ·exact heads_params _ B Q (by simpa using hl) h p hp
  ·cases h
end Tab
namespace Tab
open Go NC
theorem dig_byte {d d' : Int} (h : 0 <= d /\ d <= 9) (h' : 0 <= d' /\ d' <= 9) (e : (48 + d).toNat.toUInt8 = (48 + d').toNat.toUInt8) : d = d' := by
 have := congrArg UInt8.toNat e
 simp only [Nat.toUInt8, UInt8.toNat_ofNat'] at this
 omega
theorem dig_ne {d : Int} (h : 0 <= d /\ d <= 9) {c : UInt8} (hc : c.toNat < 48) : (48 + d).toNat.toUInt8 ≠ c := by
 intro e
 have := congrArg UInt8.toNat e
 simp only [Nat.toUInt8, UInt8.toNat_ofNat'] at this
 omega
theorem span_cons (D : Nat -> Int) (low k : Nat) (h : low <= k) : spanD D low (k + 1) = (if k = 47 then [46] else []) ++ (48 + D k).toNat.toUInt8 :: spanD D low k := by rw [spanD, if_pos h]
theorem span_nil (D : Nat -> Int) (low k : Nat) (h : k <= low) : spanD D low k = [] := by
 cases k with
 | zero => rfl
 | succ k => rw [spanD, if_neg (by omega)]
theorem span_whole {D : Nat -> Int} (hD : Rng D) (low : Nat) (hl : low <= 48) : ∀ j, 48 + j <= 96 -> ((spanD D low (48 + j)).takeWhile (fun c => c != 46)).length = j
 | 0, _ => by
  by_cases h : low <= 47
  ·rw [show 48 + 0 = 47 + 1 from rfl, span_cons _ _ _ h]; rfl
  ·rw [span_nil _ _ _ (by omega)]; rfl
 | j + 1, hj => by
  rw [show 48 + (j + 1) = (48 + j) + 1 by omega, span_cons _ _ _ (by omega), if_neg (by omega), List.nil_append]
  have : ((48 + D (48 + j)).toNat.toUInt8 != 46) = true := by
   rw [bne_iff_ne]; exact dig_ne (hD _ (by omega)) (by decide)
  rw [List.takeWhile_cons, if_pos this, List.length_cons, span_whole hD low hl j (by omega)]
theorem span_inj {D E : Nat -> Int} (hD : Rng D) (hE : Rng E) (l l' : Nat) : ∀ k, k <= 96 -> spanD D l k = spanD E l' k -> (∀ i, i < k -> (l <= i <-> l' <= i)) /\ ∀ i, l <= i -> i < k -> D i = E i
 | 0, _, _ => ⟨fun i h => by omega, fun i _ h => by omega⟩
 | k + 1, hk, h => by
  by_cases a : l <= k <;> by_cases b : l' <= k
  ·rw [span_cons _ _ _ a, span_cons _ _ _ b] at h
   have h := List.append_cancel_left h
   rw [List.cons.injEq] at h
   obtain ⟨h1, h2⟩ := span_inj hD hE l l' k (by omega) h.2
   have h3 := dig_byte (hD k (by omega)) (hE k (by omega)) h.1
   refine ⟨fun i hi => ?_, fun i hl hi => ?_⟩
   ·rcases Nat.lt_or_ge i k with c | c
    ·exact h1 i c
    ·have : i = k := by omega
     subst this; exact ⟨fun _ => b, fun _ => a⟩
   ·rcases Nat.lt_or_ge i k with c | c
    ·exact h2 i hl c
    ·have : i = k := by omega
     subst this; exact h3
  ·rw [span_cons D l k a, span_nil E l' (k + 1) (by omega)] at h
   split at h <;> simp at h
  ·rw [span_cons E l' k b, span_nil D l (k + 1) (by omega)] at h
   split at h <;> simp at h
  ·exact ⟨fun i hi => ⟨fun c => by omega, fun c => by omega⟩, fun i hl hi => by omega⟩
theorem low48_le (D : Nat -> Int) : ∀ k, k <= 48 -> lowF48 D k <= 48
 | 0, _ => by unfold lowF48; omega
 | k + 1, hk => by
  have := low48_le D k (by omega)
  unfold lowF48; split
  ·omega
  ·exact this
theorem low48_zero (D : Nat -> Int) : ∀ k i, i < k -> i < lowF48 D k -> D i = 0
 | 0, i, h, _ => by omega
 | k + 1, i, h, hl => by
  unfold lowF48 at hl
  by_cases hz : D k ≠ 0
  ·rw [if_pos hz] at hl
   have hl1 : i < lowF48 D k := by omega
   have hl2 : i < k := by omega
   exact low48_zero D k i hl2 hl1
  ·rw [if_neg hz] at hl
   rcases Nat.lt_or_ge i k with c | c
   ·exact low48_zero D k i c hl
   ·have : i = k := by omega
    subst this; simpa using hz
theorem topF_lt (D : Nat -> Int) : ∀ n, topF D n < (n : Int)
 | 0 => by unfold topF; omega
 | n + 1 => by
  have := topF_lt D n
  unfold topF; split <;> omega
theorem dec_text_inj {m e m' e' : Int} (h : decOkD m e = true) (h' : decOkD m' e' = true) (ht : decTextD m e = decTextD m' e') : m = m' /\ e = e' := by
 unfold decTextD at ht
 rw [if_pos h, if_pos h'] at ht
 obtain ⟨r1, v1⟩ := layC_val m e h
 obtain ⟨r2, v2⟩ := layC_val m' e' h'
 generalize layC m e = D at *
 generalize layC m' e' = E at *
 have t1 := topF_lt D 96
 have t2 := topF_lt E 96
 obtain ⟨j, hj⟩ : ∃ j, (max (topF D 96) 48).toNat + 1 = 48 + (j + 1) := ⟨(max (topF D 96) 48).toNat - 48, by omega⟩
 obtain ⟨j', hj'⟩ : ∃ j, (max (topF E 96) 48).toNat + 1 = 48 + (j + 1) := ⟨(max (topF E 96) 48).toNat - 48, by omega⟩
 have b1 : 48 + (j + 1) <= 96 := by omega
 have b2 : 48 + (j' + 1) <= 96 := by omega
 rw [hj, hj'] at ht
 have l1 := low48_le D 48 (Nat.le_refl _)
 have l2 := low48_le E 48 (Nat.le_refl _)
 have z1 := low48_zero D 48
 have z2 := low48_zero E 48
 generalize lowF48 D 48 = l at *
 generalize lowF48 E 48 = l' at *
 have first : ∀ (F : Nat -> Int) (k x : Nat), Rng F -> k <= 48 -> 48 + (x + 1) <= 96 -> ∃ d r, spanD F k (48 + (x + 1)) = d :: r /\ d ≠ 45 := fun F k x hF hk hx => by
  rw [show 48 + (x + 1) = (48 + x) + 1 by omega, span_cons _ _ _ (by omega), if_neg (by omega), List.nil_append]
  exact ⟨_, _, rfl, dig_ne (hF _ (by omega)) (by decide)⟩
 have hs : ((m < 0) <-> (m' < 0)) /\ spanD D l (48 + (j + 1)) = spanD E l' (48 + (j' + 1)) := by
  obtain ⟨d, r, e1, n1⟩ := first D l j r1 l1 b1
  obtain ⟨d', r', e2, n2⟩ := first E l' j' r2 l2 b2
  by_cases a : m < 0 <;> by_cases b : m' < 0
  ·rw [if_pos a, if_pos b] at ht
   exact ⟨⟨fun _ => b, fun _ => a⟩, List.append_cancel_left ht⟩
  ·rw [if_pos a, if_neg b, e1, e2] at ht
   simp at ht
   exact absurd ht.1.symm n2
  ·rw [if_neg a, if_pos b, e1, e2] at ht
   simp at ht
   exact absurd ht.1 n1
  ·rw [if_neg a, if_neg b] at ht
   exact ⟨⟨fun c => absurd c a, fun c => absurd c b⟩, by simpa using ht⟩
 obtain ⟨hs, ht⟩ := hs
 have w1 := span_whole r1 l l1 (j + 1) b1
 have w2 := span_whole r2 l' l2 (j' + 1) b2
 rw [ht, w2] at w1
 have ej : j' = j := by omega
 subst ej
 obtain ⟨s1, s2⟩ := span_inj r1 r2 l l' _ b1 ht
 have same : ∀ k, k < 96 -> D k = E k := fun k hk => by
  rcases Nat.lt_or_ge k (48 + (j' + 1)) with c | c
  ·by_cases a : l <= k
   ·exact s2 k a c
   ·have b : ¬ l' <= k := fun x => a ((s1 k c).2 x)
    rw [z1 k (by omega) (by omega), z2 k (by omega) (by omega)]
  ·rw [topF_above D 96 k (by omega) hk, topF_above E 96 k (by omega) hk]
 exact dec_same h h' hs (by rw [<- v1, <- v2]; exact val_same 96 same)
end Tab
namespace Tab
open Go
theorem head_in {α : Type} {l : List α} {x : α} (h : l.head? = some x) : x ∈ l := by
 cases l with
 | nil => cases h
 | cons a l => simp at h; subst h; exact List.mem_cons_self ..
theorem cols52 : ∀ c : Fin 52, (colL (c.val : Int)).all isLetterB = true /\ (colL (c.val : Int)).isEmpty = false /\ ∀ d : Fin 52, colL (c.val : Int) = colL (d.val : Int) -> c = d := by decide +kernel
theorem col_in {c : Int} (h : 0 <= c) (h2 : c < 52) : (colL c).all isLetterB = true /\ colL c ≠ [] /\ ∀ d : Int, 0 <= d -> d < 52 -> colL c = colL d -> c = d := by
 obtain ⟨a, b, e⟩ := cols52 ⟨c.toNat, by omega⟩
 have hc : ((c.toNat : Nat) : Int) = c := by omega
 simp only [hc] at a b e
 refine ⟨a, (fun n => by rw [n] at b; cases b), fun d k k2 h => ?_⟩
 have := e ⟨d.toNat, by omega⟩ (by simp only [show ((d.toNat : Nat) : Int) = d by omega]; exact h)
 have := congrArg Fin.val this
 dsimp only at this
 omega
theorem ref_in {r : RefD} (h : r.right = true) (hb : r.bad = false) : 0 <= r.row /\ r.row < 200 /\ 0 <= r.col /\ r.col < 52 := by
 unfold RefD.right rightB at h
 rw [hb, if_neg Bool.false_ne_true, Bool.and_eq_true, decide_eq_true_iff] at h
 exact h.2
theorem low_letter {d : UInt8} (hd : d.toNat < 65) : isLetterB d = false := by
 unfold isLetterB isLetter
 rw [decide_eq_false]; omega
theorem short_no {r : RefD} (h : r.right = true) (hb : r.bad = false) {d : UInt8} (hd : d.toNat < 36) : d ∉ shortD r := by
 obtain ⟨p1, p2, p3, p4⟩ := ref_in h hb
 have f : ∀ b, d ∉ fixD b := by
  intro b hm
  cases b
  ·cases hm
  ·have := List.mem_singleton.1 hm
   rw [this] at hd; exact absurd hd (by decide)
 have hc : d ∉ colL r.col := fun hm => by
  have := List.all_eq_true.1 (col_in p3 p4).1 d hm
  rw [low_letter (by omega)] at this; cases this
 unfold shortD
 simp only [List.mem_append, not_or]
 exact ⟨⟨⟨f _, hc⟩, f _⟩, itoa_no (by omega) (by omega) (by omega)⟩
theorem fix_inj {b b' : Bool} {X Y : Bs} (hX : ∀ x, X.head? = some x -> x ≠ 36) (hY : ∀ x, Y.head? = some x -> x ≠ 36) (h : fixD b ++ X = fixD b' ++ Y) : b = b' /\ X = Y := by
 cases b <;> cases b'
 ·exact ⟨rfl, h⟩
 ·exact absurd rfl (hX 36 (by rw [show X = 36 :: Y from h]; rfl))
 ·exact absurd rfl (hY 36 (by rw [show Y = 36 :: X from h.symm]; rfl))
 ·exact ⟨rfl, List.append_cancel_left h⟩
theorem short_inj {r q : RefD} (hr : r.right = true) (hb : r.bad = false) (hq : q.right = true) (kb : q.bad = false) (h : shortD r = shortD q) : r.row = q.row /\ r.col = q.col /\ r.fr = q.fr /\ r.fc = q.fc := by
 obtain ⟨p1, p2, p3, p4⟩ := ref_in hr hb
 obtain ⟨q1, q2, q3, q4⟩ := ref_in hq kb
 obtain ⟨c1, c2, c3⟩ := col_in p3 p4
 obtain ⟨d1, d2, _⟩ := col_in q3 q4
 have dig : ∀ v : Int, 1 <= v -> v <= 200 -> ∀ x, (Lib.itoa v).head? = some x -> 48 <= x.toNat /\ x.toNat <= 57 := fun v a b x hx => (itoa_val v (by omega) (by omega)).2 x (head_in hx)
 have tail : ∀ (b : Bool) (v : Int), 1 <= v -> v <= 200 -> ∀ x, (fixD b ++ Lib.itoa v).head? = some x -> isLetterB x = false := fun b v a k x hx => by
  cases b
  ·have := dig v a k x hx
   exact low_letter (by omega)
  ·have : x = 36 := by simpa [fixD] using hx.symm
   rw [this]; decide
 have cols : ∀ (L X : Bs), L.all isLetterB = true -> L ≠ [] -> ∀ x, (L ++ X).head? = some x -> x ≠ 36 := fun L X hL hn x hx e => by
  cases L with
  | nil => exact hn rfl
  | cons a L =>
   have : a = x := by simpa using hx
   subst this
   rw [e, List.all_cons, Bool.and_eq_true] at hL
   exact absurd hL.1 (by decide)
 unfold shortD at h
 simp only [List.append_assoc] at h
 obtain ⟨e1, h⟩ := fix_inj (cols _ _ c1 c2) (cols _ _ d1 d2) h
 obtain ⟨e2, h⟩ := split_heads (P := isLetterB) _ _ _ _ (fun x hx => List.all_eq_true.1 c1 x hx) (fun x hx => List.all_eq_true.1 d1 x hx) (tail _ _ (by omega) (by omega)) (tail _ _ (by omega) (by omega)) h
 have n36 : ∀ v : Int, 1 <= v -> v <= 200 -> ∀ x, (Lib.itoa v).head? = some x -> x ≠ 36 := fun v a b x hx e => by
  have := dig v a b x hx
  rw [e] at this; exact absurd this.1 (by decide)
 obtain ⟨e3, h⟩ := fix_inj (n36 _ (by omega) (by omega)) (n36 _ (by omega) (by omega)) h
 have := itoa_inj (by omega) (by omega) (by omega) (by omega) h
 exact ⟨by omega, c3 _ q3 q4 e2, e3, e1⟩
theorem dbl_inj : ∀ l m : Bs, dbl l = dbl m -> l = m
 | [], [], _ => rfl
 | [], b :: m, h => by rw [dbl_cons] at h; split at h <;> simp [dbl] at h
 | a :: l, [], h => by rw [dbl_cons] at h; split at h <;> simp [dbl] at h
 | a :: l, b :: m, h => by
  rw [dbl_cons, dbl_cons] at h
  by_cases ha : a = 39 <;> by_cases hb : b = 39
  ·rw [if_pos ha, if_pos hb] at h
   rw [ha, hb, dbl_inj l m (List.append_cancel_left h)]
  ·rw [if_pos ha, if_neg hb] at h
   simp at h
   exact absurd h.1.symm hb
  ·rw [if_neg ha, if_pos hb] at h
   simp at h
   exact absurd h.1 ha
  ·rw [if_neg ha, if_neg hb] at h
   simp at h
   rw [h.1, dbl_inj l m h.2]
def preD (s : Bs) : Bs := if plainB s then s else 39 :: dbl s ++ [39]
theorem pre_inj {s t : Bs} (h : preD s = preD t) : s = t := by
 have no : ∀ s X : Bs, plainB s = true -> s ≠ 39 :: X := fun s X hp e => by
  rw [e] at hp
  exact absurd hp (by unfold plainB plainFrom; simp [show isLetterB 39 = false by decide, show isDigitB 39 = false by decide])
 unfold preD at h
 split at h
 ·rename_i hs
  split at h
  ·exact h
  ·exact absurd h (no s _ hs)
 ·split at h
  ·rename_i ht
   exact absurd h.symm (no t _ ht)
  ·have h := List.append_cancel_right h
   rw [List.cons.injEq] at h
   exact dbl_inj s t h.2
theorem long_is (r : RefD) : longD r = if r.s.data.toList.isEmpty then shortD r else preD r.s.data.toList ++ 33 :: shortD r := by
 unfold longD preD
 split
 ·rfl
 ·rw [repl_dbl]; split <;> simp
theorem short_ne {r : RefD} (h : r.right = true) (hb : r.bad = false) : shortD r ≠ [] := by
 obtain ⟨_, _, p3, p4⟩ := ref_in h hb
 unfold shortD
 simp [(col_in p3 p4).2.1]
theorem text_inj' {r q : RefD} (hr : r.right = true) (hq : q.right = true) (h : (textD r).1 = (textD q).1) : r = q := by
 have bad : ∀ r : RefD, r.right = true -> r.bad = true -> r.s.data.toList = [] /\ r.row = 0 /\ r.col = 0 /\ r.fr = false /\ r.fc = false := fun r hr hb => by
  unfold RefD.right rightB at hr
  rw [hb, if_pos rfl] at hr
  simp only [Bool.and_eq_true, beq_iff_eq, Bool.not_eq_true', List.isEmpty_iff] at hr
  obtain ⟨⟨⟨⟨a, b⟩, c⟩, d⟩, e⟩ := hr
  exact ⟨a, b, c, d, e⟩
 have un : ∀ r q : RefD, r.right = true -> r.bad = false -> [35, 82, 69, 70, 33] ≠ longD r := fun r q hr hb e => by
  have n33 := short_no (d := 33) hr hb (by decide)
  rw [long_is] at e
  split at e
  ·exact n33 (e ▸ by decide)
  ·have := (part_last 33 [35, 82, 69, 70] _ [] _ (by simp) n33 e).2
   exact short_ne hr hb this.symm
 have fin : ∀ r q : RefD, r.s.data.toList = q.s.data.toList -> r.row = q.row -> r.col = q.col -> r.fr = q.fr -> r.fc = q.fc -> r.bad = q.bad -> r = q := fun r q a b c d e f => by
  cases r; cases q
  dsimp only at a b c d e f
  subst b c d e f
  rw [ByteArray.ext (Array.toList_inj.1 a)]
 cases hb : r.bad <;> cases kb : q.bad
 ·rw [textD_yes hr hb, textD_yes hq kb] at h
  have h : longD r = longD q := h
  have n1 := short_no (d := 33) hr hb (by decide)
  have n2 := short_no (d := 33) hq kb (by decide)
  rw [long_is, long_is] at h
  split at h
  ·rename_i e1
   split at h
   ·rename_i e2
    obtain ⟨a, b, c, d⟩ := short_inj hr hb hq kb h
    exact fin r q (by rw [List.isEmpty_iff.1 e1, List.isEmpty_iff.1 e2]) a b c d (by rw [hb, kb])
   ·exact absurd (h ▸ List.mem_append_right _ (List.mem_cons_self ..)) n1
  ·split at h
   ·exact absurd (h ▸ List.mem_append_right _ (List.mem_cons_self ..)) n2
   ·obtain ⟨e1, e2⟩ := part_last 33 _ _ _ _ n1 n2 h
    obtain ⟨a, b, c, d⟩ := short_inj hr hb hq kb e2
    exact fin r q (pre_inj e1) a b c d (by rw [hb, kb])
 ·rw [textD_yes hr hb, textD_gone hq kb] at h
  exact absurd h.symm (un r q hr hb)
 ·rw [textD_gone hr hb, textD_yes hq kb] at h
  exact absurd h (un q r hq kb)
 ·obtain ⟨a1, b1, c1, d1, e1⟩ := bad r hr hb
  obtain ⟨a2, b2, c2, d2, e2⟩ := bad q hq kb
  exact fin r q (by rw [a1, a2]) (by rw [b1, b2]) (by rw [c1, c2]) (by rw [d1, d2]) (by rw [e1, e2]) (by rw [hb, kb])
theorem far_no32 {r : RefD} (h : r.right = true) (hs : r.s.data.toList = []) : (32 : UInt8) ∉ (textD r).1 := by
 cases hb : r.bad with
 | true => rw [textD_gone h hb]; decide
 | false =>
  rw [textD_yes h hb]
  unfold longD
  rw [hs]
  show (32 : UInt8) ∉ shortD r
  exact short_no h hb (by decide)
theorem dbl_no {d : UInt8} (h39 : d ≠ 39) : ∀ l : Bs, d ∉ l -> d ∉ dbl l
 | [], _ => by simp [dbl]
 | b :: l, h => by
  rw [dbl_cons, List.mem_append, not_or]
  refine ⟨?_, dbl_no h39 l fun hm => h (mtl hm)⟩
  split
  ·simp [h39]
  ·intro hm; exact h (List.mem_singleton.1 hm ▸ List.mem_cons_self ..)
theorem name_no10 {l : Bs} (h : nameB l = true) : (10 : UInt8) ∉ l := fun hm => by
 unfold nameB at h
 rw [Bool.and_eq_true] at h
 have := List.all_eq_true.1 h.1 10 hm
 exact absurd this (by decide)
theorem ref_no10 {r : RefD} (h : r.right = true) : (10 : UInt8) ∉ (textD r).1 := by
 cases hb : r.bad with
 | true => rw [textD_gone h hb]; decide
 | false =>
  rw [textD_yes h hb]
  have hsh := short_no (d := 10) h hb (by decide)
  unfold longD
  by_cases he : r.s.data.toList.isEmpty = true
  ·rw [if_pos he]; exact hsh
  ·rw [if_neg he]
   have hn : nameB r.s.data.toList = true := by
    have p0 := h
    unfold RefD.right rightB at p0
    rw [hb, if_neg Bool.false_ne_true, Bool.and_eq_true, Bool.or_eq_true] at p0
    exact p0.1.resolve_left he
   have h1 := name_no10 hn
   split
   ·simp only [List.mem_append, not_or]; exact ⟨⟨h1, by decide⟩, hsh⟩
   ·rw [repl_dbl]
    simp only [List.mem_append, not_or]
    exact ⟨⟨⟨⟨by decide, dbl_no (by decide) _ h1⟩, by decide⟩, by decide⟩, hsh⟩
theorem span_in {D : Nat -> Int} (hD : NC.Rng D) (low : Nat) {d : UInt8} (hd : d.toNat < 46) : ∀ k, k <= 96 -> d ∉ spanD D low k
 | 0, _ => by simp [spanD]
 | k + 1, hk => by
  by_cases h : low <= k
  ·rw [span_cons _ _ _ h, List.mem_append, not_or, List.mem_cons, not_or]
   refine ⟨?_, fun e => dig_ne (hD k (by omega)) (c := d) (by omega) e.symm, span_in hD low hd k (by omega)⟩
   split
   ·intro hm; rw [List.mem_singleton.1 hm] at hd; exact absurd hd (by decide)
   ·simp
  ·rw [span_nil _ _ _ (by omega)]; simp
theorem dec_no10 {m e : Int} (h : decOkD m e = true) : (10 : UInt8) ∉ decTextD m e := by
 unfold decTextD
 rw [if_pos h, List.mem_append, not_or]
 have t := topF_lt (layC m e) 96
 refine ⟨by split <;> decide, span_in (layC_val m e h).1 _ (by decide) _ (by omega)⟩
theorem word_all : ∀ i : Fin 20, (10 : UInt8) ∉ wordI (i.val : Int) /\ (32 : UInt8) ∉ wordI (i.val : Int) /\ ∀ j : Fin 20, 1 <= i.val -> 1 <= j.val -> wordI (i.val : Int) = wordI (j.val : Int) -> i = j := by decide +kernel
theorem word_no {op : Int} (h : 1 <= op /\ op <= 19) : (10 : UInt8) ∉ wordI op /\ (32 : UInt8) ∉ wordI op := by
 have := word_all ⟨op.toNat, by omega⟩
 dsimp only at this
 rw [show ((op.toNat : Nat) : Int) = op by omega] at this
 exact ⟨this.1, this.2.1⟩
theorem word_inj {a b : Int} (h : 1 <= a /\ a <= 19) (k : 1 <= b /\ b <= 19) (e : wordI a = wordI b) : a = b := by
 have := (word_all ⟨a.toNat, by omega⟩).2.2 ⟨b.toNat, by omega⟩
 dsimp only at this
 rw [show ((a.toNat : Nat) : Int) = a by omega, show ((b.toNat : Nat) : Int) = b by omega] at this
 have := this (by omega) (by omega) e
 have := congrArg Fin.val this
 dsimp only at this
 omega
theorem odd_no10 {s : Bs} (h : s.any oddN = false) : (10 : UInt8) ∉ s := fun hm => by
 have := List.any_eq_false.1 h 10 hm
 exact this (by decide)
theorem named_no10 {s : Bs} (h : namedB s = true) : (10 : UInt8) ∉ s := by
 unfold namedB at h
 simp only [Bool.and_eq_true, Bool.not_eq_true'] at h
 exact odd_no10 h.2.2
theorem split_mem {d : UInt8} (hd : d ≠ 44) : ∀ s : Bs, d ∈ s -> ∃ x ∈ splitD s, d ∈ x
 | [], h => by cases h
 | b :: l, h => by
  rw [splitD]
  by_cases e : b = 44
  ·rw [if_pos e]
   rcases List.mem_cons.1 h with rfl | h
   ·exact absurd e hd
   ·obtain ⟨x, h1, h2⟩ := split_mem hd l h
    exact ⟨x, mtl h1, h2⟩
  ·rw [if_neg e]
   cases hs : splitD l with
   | nil => exact absurd hs (splitD_ne l)
   | cons x r =>
    rcases List.mem_cons.1 h with rfl | h
    ·exact ⟨_, List.mem_cons_self .., List.mem_cons_self ..⟩
    ·obtain ⟨y, h1, h2⟩ := split_mem hd l h
     rw [hs] at h1
     rcases List.mem_cons.1 h1 with rfl | h1
     ·exact ⟨_, List.mem_cons_self .., mtl h2⟩
     ·exact ⟨y, mtl h1, h2⟩
theorem listed_no10 {s : Bs} {k : Nat} (h : listedB s k = true) : (10 : UInt8) ∉ s := fun hm => by
 unfold listedB at h
 rw [Bool.and_eq_true] at h
 obtain ⟨x, h1, h2⟩ := split_mem (by decide) s hm
 have hn : namesD s = splitD s := by unfold namesD; rw [if_neg (by rintro rfl; cases hm)]
 rw [hn] at h
 have := h.2
 rw [Bool.not_eq_true', List.any_eq_false] at this
 have := this x h1
 exact named_no10 (by simpa using this) h2
theorem idx_at (c : UInt8) : ∀ (s : Bs) (i : Nat), Lib.index s [c] = (i : Int) -> s[i]? = some c
 | [], i, h => by
  have : (-1 : Int) = i := h
  omega
 | b :: l, i, h => by
  rw [Lib.index] at h
  split at h
  ·rename_i hp
   have e : i = 0 := by omega
   subst e
   simp [List.isPrefixOf] at hp
   rw [hp]; rfl
  ·split at h
   ·omega
   ·rename_i hn
    have hge := Lib.index_ge l [c]
    have hn' : Lib.index l [c] ≠ -1 := by simpa using hn
    obtain ⟨j, hj⟩ : ∃ j : Nat, Lib.index l [c] = j := ⟨(Lib.index l [c]).toNat, by omega⟩
    have e : i = j + 1 := by omega
    subst e
    rw [List.getElem?_cons_succ]
    exact idx_at c l j hj
theorem cut_mem {d c : UInt8} (hd : d ≠ c) {s : Bs} (h : d ∈ s) : d ∈ (Lib.cut s [c]).1 \/ ((Lib.cut s [c]).2.2 = true /\ d ∈ (Lib.cut s [c]).2.1) := by
 unfold Lib.cut
 split
 ·rename_i hi
  obtain ⟨j, hj⟩ : ∃ j : Nat, Lib.index s [c] = j := ⟨(Lib.index s [c]).toNat, by omega⟩
  have hc := idx_at c s j hj
  rw [hj, Int.toNat_natCast]
  have hlt := (List.getElem?_eq_some_iff.1 hc).1
  have e : s = s.take j ++ c :: s.drop (j + 1) := by
   have h1 := List.drop_eq_getElem_cons hlt
   rw [(List.getElem?_eq_some_iff.1 hc).2] at h1
   rw [<- h1, List.take_append_drop]
  rw [e, List.mem_append, List.mem_cons] at h
  rcases h with h | h | h
  ·exact .inl h
  ·exact absurd h hd
  ·exact .inr ⟨rfl, h⟩
 ·exact .inl h
theorem func_no10 {s : Bs} (h : funcB s = true) : (10 : UInt8) ∉ s := fun hm => by
 unfold funcB at h
 rw [Bool.and_eq_true] at h
 rcases cut_mem (c := 59) (by decide) hm with h1 | ⟨h1, h2⟩
 ·exact listed_no10 h.1 h1
 ·have := h.2
  rw [h1] at this
  exact named_no10 (by simpa using this) h2
theorem textB_no10 {s : Bs} (h : textB s = true) : (10 : UInt8) ∉ s := fun hm => by
 unfold textB at h
 rw [Bool.and_eq_true] at h
 have := List.all_eq_true.1 h.1 10 hm
 exact absurd this (by decide)
theorem ops_no10 {s : Bs} (h : opsB.contains s = true) : (10 : UInt8) ∉ s := by
 have h1 : s ∈ opsB := by simpa using h
 have : ∀ o ∈ opsB, (10 : UInt8) ∉ o := by decide
 exact this s h1
theorem join_no {d sep : UInt8} (hs : d ≠ sep) : ∀ L : List Bs, (∀ p ∈ L, d ∉ p) -> d ∉ joinB sep L
 | [], _ => by simp [joinB]
 | [x], h => h x (List.mem_cons_self ..)
 | x :: y :: l, h => by
  rw [joinB, List.mem_append, List.mem_cons, not_or, not_or]
  exact ⟨h x (List.mem_cons_self ..), hs, join_no hs (y :: l) fun p hp => h p (mtl hp)⟩
  intro e; cases e
theorem op_cases {x : InsD} (h : 1 <= x.op /\ x.op <= 19) : x.op = 1 \/ x.op = 2 \/ x.op = 3 \/ x.op = 4 \/ x.op = 5 \/ x.op = 6 \/ x.op = 7 \/ x.op = 8 \/ x.op = 9 \/ x.op = 10 \/ x.op = 11 \/ x.op = 12 \/ x.op = 13 \/ x.op = 14 \/ x.op = 15 \/ x.op = 16 \/ x.op = 17 \/ x.op = 18 \/ x.op = 19 := by omega
theorem parts_no10 {x : InsD} (h : Written x) : ∀ p ∈ partsI x, (10 : UInt8) ∉ p := by
 obtain ⟨b, N, k, hok⟩ := h.ok
 have ia := itoa_no (d := 10) h.a.1 h.a.2 (by decide)
 have ib := itoa_no (d := 10) h.b.1 h.b.2 (by decide)
 have two : ∀ {u v : Bs}, (10 : UInt8) ∉ u -> (10 : UInt8) ∉ v -> ∀ p ∈ [u, v], (10 : UInt8) ∉ p := fun hu hv p hp => by
  rcases List.mem_cons.1 hp with rfl | hp
  ·exact hu
  ·rw [List.mem_singleton.1 hp]; exact hv
 have one : ∀ {u : Bs}, (10 : UInt8) ∉ u -> ∀ p ∈ [u], (10 : UInt8) ∉ p := fun hu p hp => by rw [List.mem_singleton.1 hp]; exact hu
 unfold partsI
 unfold okI at hok
 rcases op_cases h.op with e | e | e | e | e | e | e | e | e | e | e | e | e | e | e | e | e | e | e
 all_goals simp only [e, if_true, if_false, Int.reduceEq, or_true, or_false, Bool.and_eq_true, Bool.or_eq_true, beq_iff_eq] at hok ⊢
 ·exact one (dec_no10 hok)
 ·exact one (textB_no10 hok.2)
 ·exact one ia
 ·exact one ia
 ·exact one (ref_no10 hok)
 ·exact two (ref_no10 hok.1) (ref_no10 hok.2)
 ·intro p hp; cases hp
 ·exact one (ops_no10 hok)
 ·exact one (by rcases hok with e | e <;> (rw [e]; decide))
 ·exact one (by rw [hok]; decide)
 ·exact two (named_no10 hok.1) ia
 ·exact two ia ib
 ·exact two ia ib
 ·exact one ia
 ·exact two ia (func_no10 hok.1)
 ·exact one ia
 ·exact one (named_no10 hok)
 ·exact one (named_no10 hok)
 ·exact one ia
theorem ins_no10 {x : InsD} (h : Written x) : (10 : UInt8) ∉ insT x := by
 unfold insT
 rw [List.mem_append, not_or]
 refine ⟨by decide, join_no (by decide) _ fun p hp => ?_⟩
 rcases List.mem_cons.1 hp with rfl | hp
 ·exact (word_no h.op).1
 ·exact parts_no10 h p hp
theorem ins_op {x y : InsD} (hx : Written x) (hy : Written y) (h : insT x = insT y) : x.op = y.op /\ joinB 32 (partsI x) = joinB 32 (partsI y) := by
 unfold insT at h
 replace h := List.append_cancel_left h
 have wx := (word_no hx.op).2
 have wy := (word_no hy.op).2
 cases hp : partsI x with
 | nil =>
  cases hq : partsI y with
  | nil =>
   rw [hp, hq] at h
   exact ⟨word_inj hx.op hy.op h, rfl⟩
  | cons q l =>
   rw [hp, hq] at h
   have h2 : wordI x.op = wordI y.op ++ 32 :: joinB 32 (q :: l) := h
   rw [h2] at wx
   exact absurd (List.mem_append_right _ (List.mem_cons_self ..)) wx
 | cons p r =>
  cases hq : partsI y with
  | nil =>
   rw [hp, hq] at h
   have h2 : wordI x.op ++ 32 :: joinB 32 (p :: r) = wordI y.op := h
   rw [<- h2] at wy
   exact absurd (List.mem_append_right _ (List.mem_cons_self ..)) wy
  | cons q l =>
   rw [hp, hq] at h
   have h2 : wordI x.op ++ 32 :: joinB 32 (p :: r) = wordI y.op ++ 32 :: joinB 32 (q :: l) := h
   obtain ⟨h3, h4⟩ := part_inj 32 _ _ _ _ wx wy h2
   exact ⟨word_inj hx.op hy.op h3, h4⟩
theorem ins_inj {x y : InsD} (hx : Written x) (hy : Written y) (fx : x.op = 6 -> x.far.s.data.toList = []) (fy : y.op = 6 -> y.far.s.data.toList = []) (h : insT x = insT y) : x = y := by
 obtain ⟨ho, h2⟩ := ins_op hx hy h
 obtain ⟨b, N, k, hok⟩ := hx.ok
 obtain ⟨b', N', k', hok'⟩ := hy.ok
 have ia := fun {d : UInt8} => itoa_no (d := d) hx.a.1 hx.a.2
 have ja := fun {d : UInt8} => itoa_no (d := d) hy.a.1 hy.a.2
 have ib := fun {d : UInt8} => itoa_no (d := d) hx.b.1 hx.b.2
 have jb := fun {d : UInt8} => itoa_no (d := d) hy.b.1 hy.b.2
 have ea := itoa_inj hx.a.1 hx.a.2 hy.a.1 hy.a.2
 have eb := itoa_inj hx.b.1 hx.b.2 hy.b.1 hy.b.2
 refine hx.bare.trans (Eq.trans ?_ hy.bare.symm)
 unfold bareI
 unfold partsI at h2
 unfold okI at hok hok'
 rcases op_cases hx.op with e | e | e | e | e | e | e | e | e | e | e | e | e | e | e | e | e | e | e
 all_goals (
  have e' := ho.symm.trans e
  simp only [e, e', if_true, if_false, Int.reduceEq, or_true, or_false, Bool.and_eq_true, joinB] at hok hok' h2 fx fy ⊢)
 ·obtain ⟨h3, h4⟩ := dec_text_inj hok hok' h2
  rw [h3, h4]
 ·rw [h2]
 ·rw [ea h2]
 ·rw [ea h2]
 ·rw [text_inj' hok hok' h2]
 ·obtain ⟨h3, h4⟩ := part_last 32 _ _ _ _ (far_no32 hok.2 (fx trivial)) (far_no32 hok'.2 (fy trivial)) h2
  rw [text_inj' hok.1 hok'.1 h3, text_inj' hok.2 hok'.2 h4]
 ·rw [h2]
 ·rw [h2]
 ·rw [h2]
 ·obtain ⟨h3, h4⟩ := part_last 32 _ _ _ _ (ia (by decide)) (ja (by decide)) h2
  rw [h3, ea h4]
 ·obtain ⟨h3, h4⟩ := part_inj 32 _ _ _ _ (ia (by decide)) (ja (by decide)) h2
  rw [ea h3, eb h4]
 ·obtain ⟨h3, h4⟩ := part_inj 32 _ _ _ _ (ia (by decide)) (ja (by decide)) h2
  rw [ea h3, eb h4]
 ·rw [ea h2]
 ·obtain ⟨h3, h4⟩ := part_inj 32 _ _ _ _ (ia (by decide)) (ja (by decide)) h2
  rw [ea h3, h4]
 ·rw [ea h2]
 ·rw [h2]
 ·rw [h2]
 ·rw [ea h2]
theorem lines_no10 : ∀ (i : Nat) (B : List (List InsD)) (Q : List Bs), i + B.length <= 400 -> (∀ p ∈ Q, (10 : UInt8) ∉ p) -> (∀ l ∈ B, ∀ x ∈ l, (10 : UInt8) ∉ insT x) -> ∀ x ∈ linesT i B Q, (10 : UInt8) ∉ x
 | i, [], _, _, _, _, x, hx => by simp [linesT] at hx
 | i, l :: r, [], _, _, _, x, hx => by simp [linesT] at hx
 | i, l :: r, p :: q, hi, hQ, hB, x, hx => by
  rw [List.length_cons] at hi
  rw [linesT, List.mem_cons, List.mem_append] at hx
  rcases hx with rfl | hx | hx
  ·unfold headT
   simp only [List.mem_append, not_or]
   exact ⟨by decide, itoa_no (by omega) (by omega) (by decide), by decide, hQ p (List.mem_cons_self ..), by decide⟩
  ·obtain ⟨y, hy, rfl⟩ := List.mem_map.1 hx
   exact hB l (List.mem_cons_self ..) y hy
  ·exact lines_no10 (i + 1) r q (by omega) (fun p hp => hQ p (mtl hp)) (fun l hl => hB l (mtl hl)) x hx
theorem map_inj {P : InsD -> Prop} (F : InsD -> Bs) (hF : ∀ x y, P x -> P y -> F x = F y -> x = y) : ∀ (l m : List InsD), (∀ x ∈ l, P x) -> (∀ x ∈ m, P x) -> l.map F = m.map F -> l = m
 | [], [], _, _, _ => rfl
 | [], y :: m, _, _, h => by simp at h
 | x :: l, [], _, _, h => by simp at h
 | x :: l, y :: m, hl, hm, h => by
  rw [List.map_cons, List.map_cons, List.cons.injEq] at h
  rw [hF x y (hl x (List.mem_cons_self ..)) (hm y (List.mem_cons_self ..)) h.1, map_inj F hF l m (fun z hz => hl z (mtl hz)) (fun z hz => hm z (mtl hz)) h.2]
theorem maps_inj {P : InsD -> Prop} (F : InsD -> Bs) (hF : ∀ x y, P x -> P y -> F x = F y -> x = y) : ∀ (A B : List (List InsD)), (∀ l ∈ A, ∀ x ∈ l, P x) -> (∀ l ∈ B, ∀ x ∈ l, P x) -> A.map (fun l => l.map F) = B.map (fun l => l.map F) -> A = B
 | [], [], _, _, _ => rfl
 | [], y :: m, _, _, h => by simp at h
 | x :: l, [], _, _, h => by simp at h
 | x :: l, y :: m, hl, hm, h => by
  rw [List.map_cons, List.map_cons, List.cons.injEq] at h
  rw [map_inj F hF x y (hl x (List.mem_cons_self ..)) (hm y (List.mem_cons_self ..)) h.1, maps_inj F hF l m (fun z hz => hl z (mtl hz)) (fun z hz => hm z (mtl hz)) h.2]
def FarC (c : CodeD) : Prop := ∀ l ∈ c.blocks, ∀ x ∈ l, x.op = 6 -> x.far.s.data.toList = []
theorem code_lines {c : CodeD} (h : rightC c = true) : textC c = lays (linesT 0 c.blocks c.params) /\ (∀ x ∈ linesT 0 c.blocks c.params, (10 : UInt8) ∉ x) /\ c.params.length = c.blocks.length /\ ∀ l ∈ c.blocks, ∀ x ∈ l, Written x := by
 obtain ⟨_, h2, h3, _, h5, h6⟩ := rightC_parts h
 have hw : ∀ l ∈ c.blocks, ∀ x ∈ l, Written x := fun l hl x hx => (h6 l hl).2 x hx
 exact ⟨texts_lays 0 _ _, lines_no10 0 _ _ (by omega) (fun p hp => listed_no10 (heads_params 0 _ _ h3.symm h5 p hp)) (fun l hl x hx => ins_no10 (hw l hl x hx)), h3, hw⟩
theorem text_same {c d : CodeD} (hc : rightC c = true) (hd : rightC d = true) (fc : FarC c) (fd : FarC d) : textC c = textC d <-> c = d := by
 refine ⟨fun h => ?_, fun h => by rw [h]⟩
 obtain ⟨a1, a2, a3, a4⟩ := code_lines hc
 obtain ⟨b1, b2, b3, b4⟩ := code_lines hd
 rw [a1, b1] at h
 obtain ⟨h1, h2⟩ := lines_inj 0 _ _ _ _ a3 b3 (lays_inj _ _ a2 b2 h)
 have h3 := maps_inj (P := fun x => Written x /\ (x.op = 6 -> x.far.s.data.toList = [])) insT (fun x y px py e => ins_inj px.1 py.1 px.2 py.2 e) c.blocks d.blocks (fun l hl x hx => ⟨a4 l hl x hx, fc l hl x hx⟩) (fun l hl x hx => ⟨b4 l hl x hx, fd l hl x hx⟩) h2
 cases c; cases d
 dsimp only at h1 h3
 rw [h1, h3]
theorem text_lines {c : CodeD} (h : rightC c = true) : (textC c).countP (· == 10) = c.blocks.length + (c.blocks.map List.length).sum := by
 obtain ⟨a1, a2, a3, _⟩ := code_lines h
 rw [a1, lays_count _ a2, lines_len 0 _ _ a3]
end Tab
