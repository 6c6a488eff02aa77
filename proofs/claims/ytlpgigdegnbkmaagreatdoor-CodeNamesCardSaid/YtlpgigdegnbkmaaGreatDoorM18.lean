import Derived.Test.YtlpgigdegnbkmaaGreatDoorM08
import Derived.Test.YtlpgigdegnbkmaaGreatDoorM12
set_option maxRecDepth 100000
set_option maxHeartbeats 1000000
namespace Tab
def idxW {α : Type} (p : α -> Bool) : List α -> Nat -> Int
 | [], _ => -1
 | x :: l, j => if p x = true then j else idxW p l (j + 1)
theorem idxW_any {α : Type} (p : α -> Bool) : ∀ (l : List α) (j : Nat), decide (0 <= idxW p l j) = l.any p
 | [], _ => rfl
 | x :: l, j => by
  unfold idxW
  cases h : p x
  ·rw [if_neg Bool.false_ne_true, idxW_any p l (j + 1)]; simp [h]
  ·rw [if_pos rfl]; simp [h]
theorem idxW_step {α : Type} (p : α -> Bool) (l : List α) (j : Nat) (x : α) (h : l[j]? = some x) : idxW p (l.drop j) j = if p x = true then (j : Int) else idxW p (l.drop (j + 1)) (j + 1) := by
 obtain ⟨h1, h2⟩ := List.getElem?_eq_some_iff.1 h
 rw [List.drop_eq_getElem_cons h1, h2]; rfl
end Tab
namespace Go.Proofs.YtlpgigdegnbkmaaGreatDoor
open Go.RowKit Tab Tryz
theorem nodd_any (c : UInt8) (w : World) : Calls prog 102 #[.int .u8 (c.toNat : Int)] w (Still (.bool (oddN c)) w) := by
 unfold oddN
 obtain ⟨m, hm⟩ : ∃ m, c.toNat = m := ⟨_, rfl⟩
 obtain ⟨B, hB⟩ : ∃ B, (c == 44) = B := ⟨_, rfl⟩
 obtain ⟨C, hC⟩ : ∃ C, (c == 59) = C := ⟨_, rfl⟩
 have e2 : ((m : Int) == 44) = B := by rw [<- hB, <- hm, Bool.eq_iff_iff, beq_iff_eq, beq_iff_eq, <- UInt8.toNat_inj]; have h0 : (44 : UInt8).toNat = 44 := rfl; omega
 have e3 : ((m : Int) == 59) = C := by rw [<- hC, <- hm, Bool.eq_iff_iff, beq_iff_eq, beq_iff_eq, <- UInt8.toNat_inj]; have h0 : (59 : UInt8).toNat = 59 := rfl; omega
 rw [hm, hB, hC]
 clear hm hB hC
 by_cases h1 : m < 33
 ·rw [decide_eq_true h1]
  have e1 : decide ((m : Int) < 33) = true := decide_eq_true (by omega)
  go_enter func102, ntmps102
  go_wp2
  go_ret; exact Still.mk' rfl
 ·rw [decide_eq_false h1]
  have e1 : decide ((m : Int) < 33) = false := decide_eq_false (by omega)
  cases B <;> cases C
  all_goals (
   go_enter func102, ntmps102
   go_wp2
   go_ret; exact Still.mk' rfl)
theorem idxNodd_any (b : Nat) (l : Bs) (cap : Nat) (w : World) (hl : l.length <= 1000) (hc : ∀ (i : Nat) (x : UInt8), l[i]? = some x -> w.cell? ⟨b, i, none⟩ = some (.int .u8 (x.toNat : Int))) :
  Calls prog 147 #[.slice (some ⟨b, 0, none⟩) l.length cap, .func (.func 102) #[] #[]] w (Still (.int .i64 (idxW oddN l 0)) w) := by
 obtain ⟨V, hV⟩ : ∃ V, idxW oddN l 0 = V := ⟨_, rfl⟩
 rw [hV]
 have HC := Lib.hid hc
 obtain ⟨n, hn⟩ : ∃ n, l.length = n := ⟨_, rfl⟩
 rw [hn] at hl ⊢
 have HN := Lib.hid hn
 clear hc hn
 go_enter func147, ntmps147
 go_wp2
 go_loop [8] (fun i => ∃ j : Nat, j <= n /\ i = .int .i64 j /\ idxW oddN (l.drop j) j = V) (fun i => n - (intOf i).toNat)
 case atStart => exact ⟨0, by omega, rfl, hV⟩
 case round =>
  clear hV
  obtain ⟨j, hj, rfl, hI⟩ := hrel
  have HI := Lib.hid hI; clear hI
  by_cases hlt : j < n
  ·obtain ⟨x, hx⟩ : ∃ x, l[j]? = some x := ⟨_, List.getElem?_eq_getElem (by rw [HN.out]; exact hlt)⟩
   have hcell := HC.out j x hx
   have cF := nodd_any x w
   have hN := HI.out
   rw [idxW_step oddN l j x hx] at hN
   cases hp : oddN x
   ·rw [hp, if_neg Bool.false_ne_true] at hN
    rw [hp] at cF
    have HN2 := Lib.hid hN
    clear hN hx hp HI
    go_wp2_with fail
    refine cF.mono ?_; rintro e w1 ⟨rfl, rfl⟩
    go_wp2
    go_round
    case rel => exact ⟨j + 1, by omega, by go_num, HN2.out⟩
    case measure => simp [intOf]; omega
   ·rw [hp, if_pos rfl] at hN
    subst hN
    rw [hp] at cF
    clear hx hp HI
    go_wp2_with fail
    refine cF.mono ?_; rintro e w1 ⟨rfl, rfl⟩
    go_wp2
    go_ret; exact Still.mk' rfl
  ·have hN := HI.out
   rw [List.drop_eq_nil_of_le (by rw [HN.out]; omega)] at hN
   have hN2 : (-1 : Int) = V := hN
   subst hN2
   clear hN HI
   go_wp2
   go_ret; exact Still.mk' rfl
theorem contNodd_any (b : Nat) (l : Bs) (cap : Nat) (w : World) (hl : l.length <= 1000) (hc : ∀ (i : Nat) (x : UInt8), l[i]? = some x -> w.cell? ⟨b, i, none⟩ = some (.int .u8 (x.toNat : Int))) :
  Calls prog 103 #[.slice (some ⟨b, 0, none⟩) l.length cap, .func (.func 102) #[] #[]] w (Still (.bool (l.any oddN)) w) := by
 have cI := idxNodd_any b l cap w hl hc
 rw [<- idxW_any oddN l 0]
 generalize idxW oddN l 0 = V at *
 go_enter func103, ntmps103
 go_wp2_with fail
 refine cI.mono ?_; rintro e w1 ⟨rfl, rfl⟩
 go_wp2
 go_ret; exact Still.mk' rfl
theorem named_any (s : ByteArray) (w : World) (hs : s.size <= 4611686018427387904) : Calls prog 55 #[.string s] w (Ret (.bool (namedB s.data.toList)) w) := by
 obtain ⟨sb, hsb⟩ : ∃ l, s.data.toList = l := ⟨_, rfl⟩
 have hse : s = ⟨sb.toArray⟩ := by rw [<- hsb, ba_eta]
 have hlb : sb.length <= 4611686018427387904 := by rw [<- hsb]; exact hs
 rw [hsb]
 subst hse
 clear hsb hs
 unfold namedB
 by_cases h1 : 1 <= sb.length
 ·have h1i : (1 : Int) <= (sb.length : Int) := by omega
  by_cases h2 : sb.length <= 30
  ·have h2i : (sb.length : Int) <= 30 := by omega
   rw [decide_eq_true h1, decide_eq_true h2]
   have hcv : ∀ W : World, (convert 9 80 (.string ⟨sb.toArray⟩)).run prog W = .ok (.slice (some ⟨W.heap.size, 0, none⟩) sb.length (grownCap W sb.length 0 5)) (W.drew.alloc (.cells (bytesRow ⟨sb.toArray⟩ (grownCap W sb.length 0 5)) 5 ((bytesRow ⟨sb.toArray⟩ (grownCap W sb.length 0 5)).size, (bytesRow ⟨sb.toArray⟩ (grownCap W sb.length 0 5)).size + 1))) := fun W => run_bytes_of_string W _ _ 5 ⟨sb.toArray⟩ underlying9 underlying80 underlying5
   have cI := fun b cap W hc => contNodd_any b sb cap W (by omega) hc
   generalize sb.any oddN = V at *
   go_enter func55, ntmps55
   go_wp2_with fail
   refine (cI _ _ _ (fun i x hx => ?_)).mono ?_
   ·obtain ⟨h3, h4⟩ := List.getElem?_eq_some_iff.1 hx
    subst h4
    exact ((byt_new w sb _).1 i h3).1
   rintro e w1 ⟨rfl, rfl⟩
   go_wp2
   go_ret; exact Ret.mk' rfl belx
  ·rw [decide_eq_true h1, decide_eq_false h2]
   have h2i : 30 < (sb.length : Int) := by omega
   go_enter func55, ntmps55
   go_wp2
   go_ret; exact Ret.mk' rfl (Below.refl _ _)
 ·rw [decide_eq_false h1]
  have h1i : (sb.length : Int) < 1 := by omega
  go_enter func55, ntmps55
  go_wp2
  go_ret; exact Ret.mk' rfl (Below.refl _ _)
theorem nnamed_any (x : Bs) (w : World) (hx : x.length <= 1000000) : Calls prog 54 #[.string ⟨x.toArray⟩] w (Ret (.bool (!namedB x)) w) := by
 have cN : Calls prog 55 #[.string ⟨x.toArray⟩] w (Ret (.bool (namedB x)) w) := named_any ⟨x.toArray⟩ w (Nat.le_trans (show x.length <= 1000000 from hx) (by decide))
 generalize namedB x = V at *
 go_enter func54, ntmps54
 go_wp2_with fail
 refine cN.mono ?_; rintro e w1 ⟨rfl, hb⟩
 go_wp2
 go_ret; exact Ret.mk' rfl hb
theorem idxNamed_any (a : Option Addr) (c : Nat) (K : List Bs) (w : World) (hK : K.length <= 1000000) (hF : Few K) (hI : NamesAt w a c K) :
  Calls prog 101 #[.slice a K.length c, .func (.func 54) #[] #[]] w (Ret (.int .i64 (idxW (fun x => !namedB x) K 0)) w) := by
 obtain ⟨V, hV⟩ : ∃ V, idxW (fun x => !namedB x) K 0 = V := ⟨_, rfl⟩
 rw [hV]
 obtain ⟨n, hn⟩ : ∃ n, K.length = n := ⟨_, rfl⟩
 have HC := Lib.hid hI
 have HF := Lib.hid hF
 rw [hn] at hK ⊢
 have HN := Lib.hid hn
 clear hI hn hF
 go_enter func101, ntmps101
 go_wp2
 go_loopw [8] (fun i w' => ∃ j : Nat, j <= n /\ i = .int .i64 j /\ idxW (fun x => !namedB x) (K.drop j) j = V /\ Below w.heap.size w w') (fun i _ => n - (intOf i).toNat)
 case atStart => exact ⟨0, by omega, rfl, hV, Below.refl _ _⟩
 case round =>
  clear hV
  obtain ⟨j, hj, rfl, hI, hB⟩ := hrel
  have HI := Lib.hid hI; clear hI
  by_cases hlt : j < n
  ·have hl : j < K.length := by rw [HN.out]; exact hlt
   obtain ⟨b, o, rfl, hb, hcell⟩ := HC.out.cell hl
   obtain ⟨x, hx⟩ : ∃ x, K[j]? = some x := ⟨_, List.getElem?_eq_getElem hl⟩
   have hx2 : K[j] = x := (List.getElem?_eq_some_iff.1 hx).2
   rw [hx2] at hcell
   have hcw := (hB.cell (p := ⟨b, o + j, none⟩) hb).trans hcell
   have cF := nnamed_any x wr (HF.out x (List.mem_of_getElem? hx))
   have hN := HI.out
   rw [idxW_step _ K j x hx] at hN
   cases hp : (!namedB x)
   ·rw [if_neg (by rw [hp]; exact Bool.false_ne_true)] at hN
    rw [hp] at cF
    have HN2 := Lib.hid hN
    clear hN hx hx2 hp HI hcell
    go_wp2_with fail
    refine cF.mono ?_; rintro e w1 ⟨rfl, hb1⟩
    go_wp2
    go_roundw
    case rel => exact ⟨j + 1, by omega, by go_num, HN2.out, after hB hb1⟩
    case measure => simp [intOf]; omega
   ·rw [if_pos hp] at hN
    subst hN
    rw [hp] at cF
    clear hx hx2 hp HI hcell
    go_wp2_with fail
    refine cF.mono ?_; rintro e w1 ⟨rfl, hb1⟩
    go_wp2
    go_ret; exact Ret.mk' rfl (after hB hb1)
  ·have hN := HI.out
   rw [List.drop_eq_nil_of_le (by rw [HN.out]; omega)] at hN
   have hN2 : (-1 : Int) = V := hN
   subst hN2
   clear hN HI
   go_wp2
   go_ret; exact Ret.mk' rfl hB
theorem contNamed_any (a : Option Addr) (c : Nat) (K : List Bs) (w : World) (hK : K.length <= 1000000) (hF : Few K) (hI : NamesAt w a c K) :
  Calls prog 53 #[.slice a K.length c, .func (.func 54) #[] #[]] w (Ret (.bool (K.any fun x => !namedB x)) w) := by
 have cI := idxNamed_any a c K w hK hF hI
 rw [<- idxW_any _ K 0]
 generalize idxW (fun x => !namedB x) K 0 = V at *
 go_enter func53, ntmps53
 go_wp2_with fail
 refine cI.mono ?_; rintro e w1 ⟨rfl, hb⟩
 go_wp2
 go_ret; exact Ret.mk' rfl hb
theorem few_names {s : Bs} (h : s.length <= 1000000) : Few (namesD s) := fun x hx => by
 unfold namesD at hx
 split at hx
 ·cases hx
 ·exact Nat.le_trans ((splitD_len s).2 x hx) h
theorem len_names (s : Bs) : (namesD s).length <= s.length + 1 := by
 unfold namesD
 split
 ·simp
 ·exact (splitD_len s).1
theorem listed_any (s : Bs) (many : Nat) (w : World) (hg : Good w) (hs : s.length <= 999999) : Calls prog 25 #[.string ⟨s.toArray⟩, .int .i64 (many : Int)] w (Ret (.bool (listedB s many)) w) := by
 have cN : Calls prog 52 #[.string ⟨s.toArray⟩] w (RetNames (namesD s) w) := names_any ⟨s.toArray⟩ w hg (Nat.le_trans (show s.length <= 999999 from hs) (by decide))
 have hF := few_names (s := s) (by omega)
 have hL := len_names s
 have cC := fun a c W (hI : NamesAt W a c (namesD s)) => contNamed_any a c (namesD s) W (by omega) hF hI
 unfold listedB
 generalize namesD s = K at *
 obtain ⟨n, hn⟩ : ∃ n, K.length = n := ⟨_, rfl⟩
 by_cases hm : n <= many
 ·have e1 : decide ((n : Int) <= (many : Int)) = true := decide_eq_true (by omega)
  rw [hn] at cC hL ⊢
  rw [decide_eq_true hm, Bool.true_and]
  generalize (K.any fun x => !namedB x) = V at *
  clear hF
  go_enter func25, ntmps25
  go_wp2_with fail
  refine cN.mono ?_; rintro e w1 ⟨a, c, rfl, hI, -, hb1⟩
  have HI := Lib.hid hI
  clear hI
  rw [hn]
  clear hn
  go_wp2_with fail
  refine (cC a c w1 HI.out).mono ?_; rintro e w2 ⟨rfl, hb2⟩
  go_wp2
  go_ret; exact Ret.mk' rfl (after hb1 hb2)
 ·have e1 : decide ((n : Int) <= (many : Int)) = false := decide_eq_false (by omega)
  rw [hn] at hL ⊢
  rw [decide_eq_false hm, Bool.false_and]
  clear hF cC
  go_enter func25, ntmps25
  go_wp2_with fail
  refine cN.mono ?_; rintro e w1 ⟨a, c, rfl, hI, -, hb1⟩
  rw [hn]
  clear hn hI
  go_wp2
  go_ret; exact Ret.mk' rfl hb1
def InsRow (w : World) (v : Value) (l : List InsD) : Prop := ∃ a c, v = .slice a l.length c /\ l.length <= c /\ (l = [] \/ ∃ b o, a = some ⟨b, o, none⟩ /\ b < w.heap.size /\ ∀ (i : Nat) (x : InsD), l[i]? = some x -> w.rangeAt b (o + i * 18) (insC x))
structure CodeIn (w : World) (ga : Option Addr) (gc : Nat) (ha : Option Addr) (hc : Nat) (c : CodeD) : Prop where
 cap : c.blocks.length <= gc
 rows : c.blocks = [] \/ ∃ b o, ga = some ⟨b, o, none⟩ /\ b < w.heap.size /\ ∀ (i : Nat) (l : List InsD), c.blocks[i]? = some l -> ∃ v, w.cell? ⟨b, o + i, none⟩ = some v /\ InsRow w v l
 pars : NamesAt w ha hc c.params
def codeV (ga : Option Addr) (gc : Nat) (ha : Option Addr) (hc : Nat) (c : CodeD) : Value := .agg #[.slice ga c.blocks.length gc, .slice ha c.params.length hc]
theorem InsRow.below {w W : World} {v : Value} {l : List InsD} (h : InsRow w v l) (hb : Below w.heap.size w W) : InsRow W v l := by
 obtain ⟨a, c, h1, h2, h3⟩ := h
 refine ⟨a, c, h1, h2, h3.imp id ?_⟩
 rintro ⟨b, o, e1, e2, e3⟩
 exact ⟨b, o, e1, Nat.lt_of_lt_of_le e2 hb.size, fun i x hx j u hu => (hb.cell (p := ⟨b, o + i * 18 + j, none⟩) e2).trans (e3 i x hx j u hu)⟩
theorem CodeIn.below {w W : World} {ga ha : Option Addr} {gc hc : Nat} {c : CodeD} (h : CodeIn w ga gc ha hc c) (hb : Below w.heap.size w W) : CodeIn W ga gc ha hc c := by
 refine ⟨h.cap, h.rows.imp id ?_, h.pars.below hb⟩
 rintro ⟨b, o, e1, e2, e3⟩
 refine ⟨b, o, e1, Nat.lt_of_lt_of_le e2 hb.size, fun i l hl => ?_⟩
 obtain ⟨v, h1, h2⟩ := e3 i l hl
 exact ⟨v, (hb.cell (p := ⟨b, o + i, none⟩) e2).trans h1, h2.below hb⟩
structure InsSm (x : InsD) : Prop where
 dec : -9000000000000000000 <= x.m /\ x.m <= 9000000000000000000
 text : x.s.length <= 900000
 refs : x.ref.s.size <= 9223372036854775807 /\ x.far.s.size <= 9223372036854775807
structure CodeSm (c : CodeD) : Prop where
 blocks : c.blocks.length <= 1000000
 each : ∀ l ∈ c.blocks, l.length <= 1000000 /\ ∀ x ∈ l, InsSm x
 params : c.params.length <= 1000000
 names : ∀ p ∈ c.params, p.length <= 900000
theorem NamesAt.zero {w : World} {K : List Bs} (a : Option Addr) (c : Nat) (h : K = []) : NamesAt w a c K := by subst h; exact NamesAt.nil w a c
theorem insL_range : ∀ (l : List InsD) (i : Nat) (x : InsD), l[i]? = some x -> ((insL l).drop (i * 18)).take 18 = insC x
 | [], i, x, h => by simp at h
 | y :: l, 0, x, h => by
  simp at h; subst h
  show ((insC y ++ insL l).drop 0).take 18 = _
  rw [List.drop_zero, List.take_append_of_le_length (by rw [insC_len]; exact Nat.le_refl _)]
  exact List.take_of_length_le (by rw [insC_len]; exact Nat.le_refl _)
 | y :: l, i + 1, x, h => by
  have := insL_range l i x (by simpa using h)
  show ((insC y ++ insL l).drop ((i + 1) * 18)).take 18 = _
  rw [List.drop_append, List.drop_of_length_le (by rw [insC_len]; omega), List.nil_append, insC_len, show (i + 1) * 18 - 18 = i * 18 by omega]
  exact this
theorem insRow_of {w : World} {B : Nat} {v : Value} {l : List InsD} (h : w.ownsRow B 43 18 v l.length (insL l)) : InsRow w v l := by
 rcases h.2 with ⟨rfl, h0⟩ | ⟨g, cap, cur, rfl, h2, h3, h4, h5, h6, h7⟩
 ·rw [List.length_eq_zero_iff.1 h0]; exact ⟨none, 0, rfl, Nat.le_refl _, .inl rfl⟩
 ·refine ⟨_, cap, rfl, h4, .inr ⟨g, 0, rfl, heap_in h3, fun i x hx j u hu => ?_⟩⟩
  have hi := (List.getElem?_eq_some_iff.1 hx).1
  have hj : j < 18 := by have := (List.getElem?_eq_some_iff.1 hu).1; rw [insC_len] at this; exact this
  have e := insL_range l i x hx
  rw [<- e, List.getElem?_take, if_pos hj, List.getElem?_drop, <- h7, List.getElem?_take, if_pos (by omega)] at hu
  unfold World.cell?
  rw [h3, Nat.zero_add]
  simpa using hu
theorem CMem.read {w : World} {B p h g cg ch : Nat} {vs : List Value} {c : CodeD} (k : CMem w B p h g cg ch vs c) : CodeIn w (some ⟨g, 0, none⟩) cg (some ⟨h, 0, none⟩) ch c := by
 obtain ⟨cur, _, _, hgh, hgc, _, hgt⟩ := own_lies k.rows
 refine ⟨hgc, .inr ⟨g, 0, rfl, heap_in hgh, fun i l hl => ?_⟩, ?_⟩
 ·have hv : ∃ v, vs[i]? = some v := ⟨_, List.getElem?_eq_getElem (by rw [k.len]; exact (List.getElem?_eq_some_iff.1 hl).1)⟩
  obtain ⟨v, hv⟩ := hv
  refine ⟨v, ?_, insRow_of (k.each i v l hv hl)⟩
  rw [Nat.zero_add]
  exact (own_cell k.rows hv).1
 ·have := k.pars
  exact own_names this
end Go.Proofs.YtlpgigdegnbkmaaGreatDoor
namespace Tab
structure Rules (R : InsD -> Prop) (KP PP : Bs -> Prop) (NP : NodeD -> Prop) : Prop where
 ab : ∀ x a b, R x -> R { x with a := a, b := b }
 leaf : ∀ n, NP n -> R (leafI n)
 odd : ∀ (op a b : Int), op = 3 \/ op = 4 \/ op = 13 \/ op = 14 \/ op = 16 \/ op = 19 -> R { op := op, a := a, b := b }
 call : ∀ n a, NP n -> n.kind = 12 -> R { op := 11, s := upperD n.text, a := a }
 get : ∀ g, KP g -> R { op := 18, s := g }
 keep : ∀ g, KP g -> R { op := 17, s := g }
 func : ∀ (L : List Bs) (own : Bs) (a : Int), wtN L <= 100000 -> (∀ x ∈ L, KP x) -> (own = [] \/ KP own /\ own.length <= 1000) -> R { op := 15, a := a, s := if own = [] then joinN L else joinN L ++ 59 :: own }
 names : ∀ n, NP n -> n.kind = 14 \/ n.kind = 16 -> ∀ x ∈ namesD n.text, KP x
 par : ∀ n, NP n -> n.kind = 14 -> PP n.text
 sub : ∀ n, NP n -> ∀ k ∈ n.kids, NP k
 text : ∀ n, NP n -> n.text.length <= 1000
def AllC (R : InsD -> Prop) (PP : Bs -> Prop) (c : CodeD) : Prop := (∀ l ∈ c.blocks, ∀ x ∈ l, R x) /\ ∀ p ∈ c.params, PP p
theorem mem_modify_list {α : Type} {g : α -> α} : ∀ {l : List α} {u : Nat} {y : α}, y ∈ l.modify u g -> y ∈ l \/ ∃ x ∈ l, y = g x
 | [], u, y, h => by simp at h
 | x :: l, 0, y, h => by
  rw [List.modify_zero_cons] at h
  rcases List.mem_cons.1 h with rfl | h
  ·exact .inr ⟨x, List.mem_cons_self .., rfl⟩
  ·exact .inl (List.mem_cons_of_mem _ h)
 | x :: l, u + 1, y, h => by
  rw [List.modify_succ_cons] at h
  rcases List.mem_cons.1 h with rfl | h
  ·exact .inl (List.mem_cons_self ..)
  ·rcases mem_modify_list h with h | ⟨z, hz, rfl⟩
   ·exact .inl (List.mem_cons_of_mem _ h)
   ·exact .inr ⟨z, List.mem_cons_of_mem _ hz, rfl⟩
section
variable {R : InsD -> Prop} {KP PP : Bs -> Prop} {NP : NodeD -> Prop}
theorem AllC.put {c : CodeD} (h : AllC R PP c) (b : Nat) {x : InsD} (hx : R x) : AllC R PP (putC c b x) := ⟨fun l hl y hy => by
 rcases mem_modify_list hl with hl | ⟨m, hm, rfl⟩
 ·exact h.1 l hl y hy
 ·rcases List.mem_append.1 hy with hy | hy
  ·exact h.1 m hm y hy
  ·rw [List.mem_singleton.1 hy]; exact hx, h.2⟩
theorem AllC.over {c : CodeD} (h : AllC R PP c) (r : Rules R KP PP NP) (b u o : Nat) : AllC R PP (overC c b u o) := ⟨fun l hl y hy => by
 rcases mem_modify_list hl with hl | ⟨m, hm, rfl⟩
 ·exact h.1 l hl y hy
 ·have h1 : ∀ z ∈ m.modify u fun x => { x with a := (o : Int) - u, b := (m.length : Int) - u - 1 }, R z := fun z hz => by
   rcases mem_modify_list hz with hz | ⟨t, ht, rfl⟩
   ·exact h.1 m hm z hz
   ·exact r.ab t _ _ (h.1 m hm t ht)
  rcases mem_modify_list hy with hy | ⟨t, ht, rfl⟩
  ·exact h1 y hy
  ·exact r.ab t ((m.length : Int) - o - 1) t.b (h1 t ht), h.2⟩
theorem AllC.fn {c : CodeD} (h : AllC R PP c) (b : Nat) {s p : Bs} (hx : R { op := 15, a := c.blocks.length, s := s }) (hp : PP p) : AllC R PP (funC c b s p) := by
 have h1 := h.put b hx
 refine ⟨fun l hl y hy => ?_, fun q hq => ?_⟩
 ·rcases List.mem_append.1 hl with hl | hl
  ·exact h1.1 l hl y hy
  ·rw [List.mem_singleton.1 hl] at hy; cases hy
 ·rcases List.mem_append.1 hq with hq | hq
  ·exact h.2 q hq
  ·rw [List.mem_singleton.1 hq]; exact hp
theorem find_mem {K : List Bs} {s g : Bs} (h : findN K s = some g) : g ∈ K := List.mem_reverse.1 (List.mem_of_find?_eq_some h)
theorem held_mem (own : Bs) : ∀ (K : List Bs) (x : Bs), x ∈ heldN K own -> x ∈ K
 | [], x, h => by simp [heldN] at h
 | y :: K, x, h => by
  unfold heldN at h
  split at h
  ·rcases List.mem_cons.1 h with rfl | h
   ·exact List.mem_cons_self ..
   ·exact List.mem_cons_of_mem _ (held_mem own K x h)
  ·exact List.mem_cons_of_mem _ (held_mem own K x h)
theorem wt_names {s : Bs} : wtN (namesD s) <= s.length + 1 := by
 unfold namesD
 split
 ·exact Nat.zero_le _
 ·rw [wtN_split]; exact Nat.le_refl _
theorem comp_rules (r : Rules R KP PP NP) : ∀ (f : Nat) (c : CodeD) (b : Nat) (K : List Bs) (own : Bs) (n : NodeD), NP n -> (∀ x ∈ K, KP x) -> (own = [] \/ KP own /\ own.length <= 1000) -> wtN K + 3000 * f <= 100000 -> AllC R PP c -> AllC R PP (comp f c b K own n)
 | 0, c, b, K, own, n, _, _, _, _, h => h
 | f + 1, c, b, K, own, n, hn, hK, ho, hw, h => by
  have ih := comp_rules r f
  have hE : ∀ (l : List NodeD) (c : CodeD), (∀ k ∈ l, NP k) -> AllC R PP c -> AllC R PP (l.foldl (fun c k => comp f c b K [] k) c) := by
   intro l
   induction l with
   | nil => intro c _ h; exact h
   | cons k l ihl =>
    intro c hl h
    rw [List.foldl_cons]
    exact ihl _ (fun x hx => hl x (List.mem_cons_of_mem _ hx)) (ih c b K [] k (hl k (List.mem_cons_self ..)) hK (.inl rfl) (by omega) h)
  have hS : ∀ (c : CodeD) (b : Nat) (K : List Bs) (o : Option NodeD), (∀ k, o = some k -> NP k) -> (∀ x ∈ K, KP x) -> wtN K + 3000 * f <= 100000 -> AllC R PP c -> AllC R PP (subC (fun c b K k => comp f c b K [] k) c b K o) := by
   intro c b K o hk hK hw h
   cases o with
   | none => exact h
   | some k => exact ih c b K [] k (hk k rfl) hK (.inl rfl) hw h
  have hsub := r.sub n hn
  have hg : ∀ (i : Nat) (k : NodeD), n.kids[i]? = some k -> NP k := fun i k hk => hsub k (List.mem_of_getElem? hk)
  by_cases h12 : n.kind = 12
  ·cases hf : findN K n.text with
   | some g =>
    rw [comp_known f c b K own n g h12 hf]
    exact (hE _ _ hsub (h.put b (r.get g (hK g (find_mem hf))))).put b (r.odd 16 _ 0 (by simp))
   | none =>
    by_cases hU : ¬ (upperD n.text = [73, 70]) \/ n.kids.length < 2 \/ 3 < n.kids.length
    ·rw [comp_call f c b K own n h12 hf hU]
     exact (hE _ _ hsub h).put b (r.call n _ hn h12)
    ·rw [comp]
     dsimp only
     rw [if_pos h12, hf]
     dsimp only
     rw [if_neg hU]
     refine AllC.over ?_ r _ _ _
     have h1 := hS c b K n.kids[0]? (hg 0) hK (by omega) h
     have h2 := hS _ b K n.kids[1]? (hg 1) hK (by omega) (h1.put b (r.odd 13 0 0 (by simp)))
     have h3 := h2.put b (r.odd 14 0 0 (by simp))
     split
     ·exact hS _ b K n.kids[2]? (hg 2) hK (by omega) h3
     ·exact h3.put b (r.odd 3 0 0 (by simp))
  by_cases h16 : n.kind = 16
  ·rw [comp]
   dsimp only
   rw [if_neg h12, if_pos h16]
   have hnm := r.names n hn (.inr h16)
   have hT := r.text n hn
   have hwn := wt_names (s := n.text)
   have go : ∀ (l : List (Bs × NodeD)) (q : CodeD × List Bs), (∀ p ∈ l, KP p.1 /\ p.1.length <= 1000 /\ NP p.2) -> (∀ x ∈ q.2, KP x) -> wtN q.2 + wtN (l.map (·.1)) + 3000 * f <= 100000 -> AllC R PP q.1 ->
     AllC R PP (l.foldl (fun (r : CodeD × List Bs) p => (putC (comp f r.1 b r.2 (if p.2.kind = 14 then p.1 else []) p.2) b { op := 17, s := p.1 }, r.2 ++ [p.1])) q).1 /\ (∀ x ∈ (l.foldl (fun (r : CodeD × List Bs) p => (putC (comp f r.1 b r.2 (if p.2.kind = 14 then p.1 else []) p.2) b { op := 17, s := p.1 }, r.2 ++ [p.1])) q).2, KP x) /\ wtN (l.foldl (fun (r : CodeD × List Bs) p => (putC (comp f r.1 b r.2 (if p.2.kind = 14 then p.1 else []) p.2) b { op := 17, s := p.1 }, r.2 ++ [p.1])) q).2 + 3000 * f <= 100000 := by
    intro l
    induction l with
    | nil => intro q _ hq hw h; exact ⟨h, hq, by rw [List.foldl_nil]; omega⟩
    | cons p l ihl =>
     intro q hl hq hw h
     rw [List.foldl_cons]
     obtain ⟨k1, k2, k3⟩ := hl p (List.mem_cons_self ..)
     have hwp : wtN ((p :: l).map (·.1)) = p.1.length + 1 + wtN (l.map (·.1)) := by simp [wtN]
     rw [hwp] at hw
     refine ihl _ (fun x hx => hl x (List.mem_cons_of_mem _ hx)) (fun x hx => ?_) ?_ ?_
     ·rcases List.mem_append.1 hx with hx | hx
      ·exact hq x hx
      ·rw [List.mem_singleton.1 hx]; exact k1
     ·rw [wtN_app, wtN_one]; omega
     ·refine (ih q.1 b q.2 _ p.2 k3 hq ?_ (by omega) h).put b (r.keep p.1 k1)
      split
      ·exact .inr ⟨k1, k2⟩
      ·exact .inl rfl
   have hz : ∀ p ∈ (namesD n.text).zip n.kids, KP p.1 /\ p.1.length <= 1000 /\ NP p.2 := fun p hp => by
    have h1 := (List.of_mem_zip hp).1
    exact ⟨hnm _ h1, by have := wtN_mem h1; omega, hsub _ (List.of_mem_zip hp).2⟩
   have hzw : ∀ (A : List Bs) (B : List NodeD), wtN ((A.zip B).map (·.1)) <= wtN A := by
    intro A
    induction A with
    | nil => intro B; simp [wtN]
    | cons x A ihA =>
     intro B
     cases B with
     | nil => simp [wtN]
     | cons y B => have := ihA B; simp [wtN] at *; omega
   have hz2 := hzw (namesD n.text) n.kids
   obtain ⟨g1, g2, g3⟩ := go _ (c, K) hz hK (by dsimp only; omega) h
   exact (hS _ b _ _ (hg _) g2 g3 g1).put b (r.odd 19 _ 0 (by simp))
  by_cases h14 : n.kind = 14
  ·rw [comp_fun f c b K own n h14]
   have hT := r.text n hn
   have hwn := wt_names (s := n.text)
   have hwh := heldN_wt own K
   have hh : ∀ x ∈ heldN K own, KP x := fun x hx => hK x (held_mem own K x hx)
   have h1 : AllC R PP (funC c b (if own = [] then joinN (heldN K own) else joinN (heldN K own) ++ 59 :: own) n.text) :=
    h.fn b (r.func _ own _ (by omega) hh ho) (r.par n hn h14)
   refine hS _ _ _ _ (hg 0) (fun x hx => ?_) ?_ h1
   ·rcases List.mem_append.1 hx with hx | hx
    ·split at hx
     ·exact hh x hx
     ·rename_i hne
      rcases List.mem_append.1 hx with hx | hx
      ·exact hh x hx
      ·rw [List.mem_singleton.1 hx]; exact (ho.resolve_left hne).1
    ·exact r.names n hn (.inl h14) x hx
   ·rw [wtN_app]
    split
    ·omega
    ·rename_i hne
     have := (ho.resolve_left hne).2
     rw [wtN_app, wtN_one]; omega
  by_cases h15 : n.kind = 15
  ·rw [comp_apply f c b K own n h15]
   exact (hE _ _ hsub h).put b (r.odd 16 _ 0 (by simp))
  by_cases h7 : n.kind = 7
  ·rw [comp_name f c b K own n h7]
   cases hf : findN K n.text with
   | some g => exact h.put b (r.get g (hK g (find_mem hf)))
   | none => exact h.put b (r.odd 4 _ 0 (by simp))
  ·rw [comp_other f c b K own n h12 h16 h14 h15 h7]
   exact (hE _ _ hsub h).put b (r.leaf n hn)
theorem code_rules (r : Rules R KP PP NP) (n : NodeD) (hn : NP n) (h0 : PP []) : AllC R PP (codeOf n) :=
 comp_rules r 24 bareC 0 [] [] n hn (by simp) (.inl rfl) (by simp [wtN]) ⟨by simp [bareC], by simp [bareC]; exact h0⟩
end
end Tab
