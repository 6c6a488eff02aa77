import Derived.Test.YtlpgigdegnbkmaaGreatDoorM34
import Derived.Test.YtlpgigdegnbkmaaGreatDoorM37
import Derived.Test.YtlpgigdegnbkmaaGreatDoorM38
set_option maxRecDepth 100000
set_option maxHeartbeats 8000000
namespace Tab
open Go
theorem run_fields (b N : Int) : ∀ (l : List InsD) (i : Nat) (c c' : ChkD), runC b N l i c = some c' -> ∀ x ∈ l, ∃ k : Nat, k < l.length /\ fieldsC x b N k = true
 | [], _, _, _, _, x, hx => by cases hx
 | y :: l, i, c, c', h, x, hx => by
  rw [runC] at h
  split at h
  ·rename_i hf
   rcases List.mem_cons.1 hx with rfl | hx
   ·exact ⟨l.length, by simp, hf⟩
   ·split at h
    ·obtain ⟨k, h1, h2⟩ := run_fields b N l _ _ _ h x hx
     exact ⟨k, by simp; omega, h2⟩
    ·cases h
  ·cases h
theorem block_fields {b N : Int} {l : List InsD} (h : blockC b N l = true) : ∀ x ∈ l, ∃ k : Nat, k < l.length /\ fieldsC x b N k = true := by
 unfold blockC at h
 cases hr : runC b N l 0 (bareK l.length) with
 | none => rw [hr] at h; simp [endC] at h
 | some c => exact run_fields b N l 0 _ c hr
theorem blocks_each {N : Int} : ∀ (B : List (List InsD)) (b : Nat), blocksC N b B = true -> ∀ l ∈ B, ∃ b' : Nat, blockC b' N l = true
 | [], _, _, l, hl => by cases hl
 | m :: B, b, h, l, hl => by
  rw [blocksC, Bool.and_eq_true] at h
  rcases List.mem_cons.1 hl with rfl | hl
  ·exact ⟨b, h.1⟩
  ·exact blocks_each B (b + 1) h.2 l hl
structure Written (x : InsD) : Prop where
 op : 1 <= x.op /\ x.op <= 19
 bare : x = bareI x
 a : 0 <= x.a /\ x.a <= 400
 b : 0 <= x.b /\ x.b <= 400
 ok : ∃ b N k : Int, okI x b N k = true
theorem ops_of {x : InsD} {b N k : Int} (h : okI x b N k = true) : 1 <= x.op /\ x.op <= 19 := by
 apply Decidable.byContradiction
 intro hn
 unfold okI at h
 simp only [show x.op ≠ 1 by omega, show x.op ≠ 2 by omega, show x.op ≠ 3 by omega, show x.op ≠ 4 by omega, show x.op ≠ 5 by omega, show x.op ≠ 6 by omega, show x.op ≠ 7 by omega, show x.op ≠ 8 by omega, show x.op ≠ 9 by omega, show x.op ≠ 10 by omega, show x.op ≠ 11 by omega, show x.op ≠ 12 by omega, show x.op ≠ 13 by omega, show x.op ≠ 14 by omega, show x.op ≠ 15 by omega, show x.op ≠ 16 by omega, show x.op ≠ 17 by omega, show x.op ≠ 18 by omega, show x.op ≠ 19 by omega, if_false] at h
 cases h
theorem written_of {x : InsD} {b N k : Int} (h : fieldsC x b N k = true) (hb : 0 <= b) (hN : N <= 20) (hk : k <= 400) : Written x := by
 unfold fieldsC at h
 rw [Bool.and_eq_true, sameI_iff] at h
 obtain ⟨hok, hbare⟩ := h
 have hop := ops_of hok
 have ea := congrArg InsD.a hbare
 have eb := congrArg InsD.b hbare
 refine ⟨hop, hbare, ?_, ?_, ⟨b, N, k, hok⟩⟩
 all_goals
  unfold okI at hok
  unfold bareI at ea eb
  have e : x.op = 1 \/ x.op = 2 \/ x.op = 3 \/ x.op = 4 \/ x.op = 5 \/ x.op = 6 \/ x.op = 7 \/ x.op = 8 \/ x.op = 9 \/ x.op = 10 \/ x.op = 11 \/ x.op = 12 \/ x.op = 13 \/ x.op = 14 \/ x.op = 15 \/ x.op = 16 \/ x.op = 17 \/ x.op = 18 \/ x.op = 19 := by omega
  rcases e with e | e | e | e | e | e | e | e | e | e | e | e | e | e | e | e | e | e | e
  all_goals
   rw [e] at hok ea eb
   simp only [if_true, if_false, Int.reduceEq, winD, Bool.and_eq_true, decide_eq_true_eq] at hok ea eb
   omega
theorem rightC_parts {c : CodeD} (h : rightC c = true) : 1 <= c.blocks.length /\ c.blocks.length <= 20 /\ c.params.length = c.blocks.length /\ c.params.getD 0 [] = [] /\ headsC 0 c.blocks c.params = true /\ ∀ l ∈ c.blocks, l.length <= 400 /\ ∀ x ∈ l, Written x := by
 unfold rightC at h
 split at h
 ·cases h
 ·rename_i hn
  have hn1 : ¬ c.blocks.length < 1 := fun e => hn (.inl e)
  have hn2 : ¬ 20 < c.blocks.length := fun e => hn (.inr (.inl e))
  have hn3 : c.params.length = c.blocks.length := Decidable.byContradiction fun e => hn (.inr (.inr (.inl e)))
  have hn4 : c.params.getD 0 [] = [] := Decidable.byContradiction fun e => hn (.inr (.inr (.inr e)))
  split at h
  ·rename_i hh
   have hle := heads_le 0 c.blocks c.params (by omega) hh
   refine ⟨by omega, by omega, hn3, hn4, hh, fun l hl => ⟨hle l hl, fun x hx => ?_⟩⟩
   obtain ⟨b', hb'⟩ := blocks_each c.blocks 0 h l hl
   obtain ⟨k, hk, hf⟩ := block_fields hb' x hx
   have := hle l hl
   exact written_of hf (by omega) (by omega) (by omega)
  ·cases h
theorem parts_len (x : InsD) (h : x.s.length <= 900000) (ha : 0 <= x.a /\ x.a <= 400) (hb : 0 <= x.b /\ x.b <= 400) : wtN (partsI x) <= 1900000 := by
 have h1 := dectext_len x.m x.e
 have h2 := text_len x.ref
 have h3 := text_len x.far
 have h4 := Lib.itoa_length_le x.a (by omega) (by omega)
 have h5 := Lib.itoa_length_le x.b (by omega) (by omega)
 unfold partsI
 repeat' split
 all_goals simp only [wtN, List.map_cons, List.map_nil, List.sum_cons, List.sum_nil]; omega
theorem lineC_len (x : InsD) (h : x.s.length <= 900000) (hw : Written x) : (lineC x).length <= 2000000 := by
 have h1 := parts_len x h hw.a hw.b
 have h2 := word_len x.op hw.op
 have h3 := joinB_len (wordI x.op :: partsI x)
 have h4 : wtN (wordI x.op :: partsI x) = (wordI x.op).length + 1 + wtN (partsI x) := by simp [wtN]
 unfold lineC
 simp only [List.length_append, List.length_cons, List.length_nil]
 omega
theorem lines_len' : ∀ (l : List InsD), (∀ x ∈ l, (lineC x).length <= 2000000) -> (l.flatMap lineC).length <= l.length * 2000000
 | [], _ => by simp
 | x :: l, h => by
  rw [List.flatMap_cons, List.length_append, List.length_cons]
  have h1 := h x (List.mem_cons_self ..)
  have h2 := lines_len' l (fun y hy => h y (List.mem_cons_of_mem _ hy))
  omega
theorem texts_len : ∀ (B : List (List InsD)) (Q : List Bs) (i : Nat), i + B.length <= 1000000 -> (∀ l ∈ B, l.length <= 400 /\ ∀ x ∈ l, (lineC x).length <= 2000000) -> (∀ p ∈ Q, p.length <= 900000) -> (textsC i B Q).length <= B.length * 1000000000
 | [], Q, i, _, _, _ => by simp [textsC]
 | l :: B, [], i, _, _, _ => by simp [textsC]
 | l :: B, q :: Q, i, hi, h, hq => by
  rw [List.length_cons] at hi
  rw [textsC, List.length_append, List.length_cons]
  have h1 := texts_len B Q (i + 1) (by omega) (fun y hy => h y (List.mem_cons_of_mem _ hy)) (fun y hy => hq y (List.mem_cons_of_mem _ hy))
  have h2 := h l (List.mem_cons_self ..)
  have h3 := hq q (List.mem_cons_self ..)
  have h4 := lines_len' l h2.2
  have h5 := Lib.itoa_length_le (i : Int) (by omega) (by omega)
  have h6 : (blockT i q l).length <= 6 + 21 + 2 + 900000 + 2 + l.length * 2000000 := by
   unfold blockT
   simp only [List.length_append, List.length_cons, List.length_nil]
   omega
  omega
theorem texts_step {c : CodeD} {j : Nat} {l : List InsD} {p : Bs} (hl : c.blocks[j]? = some l) (hp : c.params[j]? = some p) : textsC j (c.blocks.drop j) (c.params.drop j) = ([98, 108, 111, 99, 107, 32] ++ (Lib.itoa j ++ ([32, 40] ++ (p ++ [41, 10])))) ++ (l.flatMap lineC ++ textsC (j + 1) (c.blocks.drop (j + 1)) (c.params.drop (j + 1))) := by
 obtain ⟨h1, h2⟩ := List.getElem?_eq_some_iff.1 hl
 obtain ⟨h3, h4⟩ := List.getElem?_eq_some_iff.1 hp
 rw [List.drop_eq_getElem_cons h1, List.drop_eq_getElem_cons h3, h2, h4, textsC, blockT, List.append_assoc]
end Tab
namespace Go.Proofs.YtlpgigdegnbkmaaGreatDoor
open Go.RowKit Tab Tryz
theorem byteCells_app' (a b : Bs) : Lib.byteCells (a ++ b) = Lib.byteCells a ++ Lib.byteCells b := by simp [Lib.byteCells]
theorem strCells_is (s : Bs) : Lib.strCells ⟨s.toArray⟩ = Lib.byteCells s := by simp [Lib.strCells, Lib.byteCells]
theorem line_ok {x : InsD} (h : InsSm x) (hw : Written x) : LineOk x := ⟨h.dec, h.text, by have := hw.a; omega, by have := hw.b; omega, h.refs⟩
theorem codeText_any (ga : Option Addr) (gc : Nat) (ha : Option Addr) (hc : Nat) (c : CodeD) (w : World) (hg : Good w) (hI : CodeIn w ga gc ha hc c) (hS : CodeSm c) : Calls prog 18 #[codeV ga gc ha hc c] w (Ret (if rightC c then .tuple #[.string ⟨(textC c).toArray⟩, .int .i64 0] else .tuple #[.string ⟨#[]⟩, .int .i64 60]) w) := by
 have cR := fun W (h : Below w.heap.size w W) => codeRight_any ga gc ha hc c W (hg.below h) (hI.below h) hS
 obtain ⟨V, hV⟩ : ∃ V, rightC c = V := ⟨_, rfl⟩
 rw [hV] at cR ⊢
 obtain ⟨N, hN⟩ : ∃ N, c.blocks.length = N := ⟨_, rfl⟩
 obtain ⟨M, hM⟩ : ∃ M, c.params.length = M := ⟨_, rfl⟩
 have hcap := hI.cap
 have hpcap := hI.pars.cap
 unfold codeV at *
 rw [hN] at hcap cR ⊢
 rw [hM] at hpcap cR ⊢
 cases V
 ·clear hV hI hS hg hN hM
  rw [if_neg Bool.false_ne_true]
  go_enter func18, ntmps18
  go_wp2_with fail
  refine (cR _ belx).mono ?_; rintro e w2 ⟨rfl, hb2⟩
  go_wp2
  go_ret2; exact Ret.mk2 rfl rfl belx
 rw [if_pos rfl]
 obtain ⟨p1, p2, p3, p4, p5, p6⟩ := rightC_parts hV
 rw [hN] at p1 p2 p3
 rw [hM] at p3
 subst p3
 have hTl := texts_len c.blocks c.params 0 (by omega) (fun l hl => ⟨(p6 l hl).1, fun x hx => lineC_len x ((hS.each l hl).2 x hx).text ((p6 l hl).2 x hx)⟩) hS.names
 rw [hN] at hTl
 obtain ⟨T, hT⟩ : ∃ T, textC c = T := ⟨_, rfl⟩
 have hT2 : textsC 0 c.blocks c.params = T := hT
 rw [hT2] at hTl
 rw [hT]
 have HC := Lib.hid (And.intro hI (And.intro hS (And.intro hN (And.intro hM p6))))
 have HT := Lib.hid hT2
 have hgh := Lib.hid hg
 clear hV hI hS hN p4 p5 p6 hT hT2 hg hM
 go_enter func18, ntmps18
 go_upto_region 1 with (fail)
 refine wp_abs2 (On1 35 w #[.slice ga M gc, .slice ha M hc]) ⟨belx, heap_alloc_new _ _⟩ ?_
 rintro w1 ⟨hb1, q1⟩
 obtain ⟨f1, -, z1⟩ := lie_cell q1
 go_wp2_with fail
 refine (cR w1 hb1).mono ?_; rintro e w2 ⟨rfl, hb2⟩
 have q2 := (hb2.block _ z1).trans q1
 have hb02 := after hb1 hb2
 clear f1 q1 cR hb1 hb2
 obtain ⟨f2, -, z2⟩ := lie_cell q2
 have HQ2 := Lib.hid q2
 clear q2
 go_upto_region 4 with (fail)
 have hbld : IsBld w2.heap.size w2.heap.size (Lib.byteCells []) (w2.alloc (.cells #[.pointer none, .slice none 0 0] 82)) := Lib.fresh_isBuilder _ _ w2
 refine wp_abs2 (fun W => Below w2.heap.size w2 W /\ IsBld w2.heap.size w2.heap.size (Lib.byteCells []) W) ⟨allocB (Below.refl _ _), hbld⟩ ?_
 clear hbld
 rintro w3 ⟨hb3, hI3⟩
 have f3 := (lie_cell ((hb3.block _ z2).trans HQ2.out)).1
 have HI3 := Lib.hid hI3
 clear f2 hI3
 go_wp2_with fail
 go_loopw [15] (fun i w' => ∃ (j : Nat) (acc : Bs), i = .int .i64 (j : Int) /\ j <= M /\ acc ++ textsC j (c.blocks.drop j) (c.params.drop j) = T /\ IsBld w2.heap.size w2.heap.size (Lib.byteCells acc) w' /\ Below w2.heap.size w2 w') (fun i _ => M - (intOf i).toNat)
 case atStart => exact ⟨0, [], rfl, by omega, HT.out, HI3.out, hb3⟩
 case round =>
  clear HI3 f3 hb3 HT
  obtain ⟨j, acc, rfl, hj, hH, hBl, hB⟩ := hrel
  have HB := Lib.hid hBl
  have HH := Lib.hid hH
  clear hBl hH
  have q3 := (hB.block _ z2).trans HQ2.out
  have hB0 : Below w.heap.size w wr := hb02.trans (hB.mono hb02.size)
  by_cases hlt : j < M
  ·obtain ⟨hI, hS, hN, hM, p6⟩ := HC.out
   obtain ⟨gb, go, rfl, hgb, hrows⟩ := hI.rows.resolve_left (fun h => by rw [h] at hN; simp at hN; omega)
   obtain ⟨l, hl⟩ : ∃ l, c.blocks[j]? = some l := ⟨_, List.getElem?_eq_getElem (by omega)⟩
   obtain ⟨p, hp⟩ : ∃ p, c.params[j]? = some p := ⟨_, List.getElem?_eq_getElem (by omega)⟩
   obtain ⟨v, hv, la, lc, rfl, hlc, hrow⟩ := hrows j l hl
   obtain ⟨hb', ho', rfl, hhb, hqc⟩ := hI.pars.cell (i := j) (by omega)
   rw [(List.getElem?_eq_some_iff.1 hp).2] at hqc
   have hvw := (hB0.cell (p := ⟨gb, go + j, none⟩) hgb).trans hv
   have hqw := (hB0.cell (p := ⟨hb', ho' + j, none⟩) hhb).trans hqc
   have hgb' : gb < wr.heap.size := Nat.lt_of_lt_of_le hgb hB0.size
   have hhb' : hb' < wr.heap.size := Nat.lt_of_lt_of_le hhb hB0.size
   have hH := HH.out
   rw [texts_step hl hp] at hH
   have hlm := hS.each l (List.mem_of_getElem? hl)
   have hlw := p6 l (List.mem_of_getElem? hl)
   have hpl := hS.names p (List.mem_of_getElem? hp)
   obtain ⟨L, hL⟩ : ∃ L, l.length = L := ⟨_, rfl⟩
   have HL := Lib.hid (And.intro hrow (And.intro hlm.2 (And.intro hlw.2 hL)))
   have hL4 : L <= 400 := by rw [<- hL]; exact hlw.1
   rw [hL] at hvw hlc
   have hit := Lib.itoa_length_le (j : Int) (by omega) (by omega)
   have cI := fun W (hW : Below w.heap.size w W) => Itoa_ret (j : Int) (by omega) (by omega) W (hgh.out.below hW)
   obtain ⟨S, hSS⟩ : ∃ S : ByteArray, (⟨(Lib.itoa (j : Int)).toArray⟩ : ByteArray) = S := ⟨_, rfl⟩
   have hSs : S.size <= 21 := by rw [<- hSS]; exact hit
   obtain ⟨PA, hPA⟩ : ∃ PA : ByteArray, (⟨p.toArray⟩ : ByteArray) = PA := ⟨_, rfl⟩
   have hPs : PA.size <= 900000 := by rw [<- hPA]; exact hpl
   obtain ⟨HD, hHD⟩ : ∃ HD, [98, 108, 111, 99, 107, 32] ++ (Lib.itoa (j : Int) ++ ([32, 40] ++ (p ++ [41, 10]))) = HD := ⟨_, rfl⟩
   have hcat : ((((⟨#[98, 108, 111, 99, 107, 32]⟩ : ByteArray) ++ S) ++ ⟨#[32, 40]⟩) ++ PA) ++ ⟨#[41, 10]⟩ = ⟨HD.toArray⟩ := by
    rw [<- hSS, <- hPA, <- hHD, ba_cat [98, 108, 111, 99, 107, 32], ba_cat _ [32, 40], ba_cat _ p, ba_cat _ [41, 10]]
    simp
   rw [hHD] at hH
   rw [hPA] at hqw
   rw [hSS] at cI
   have HH2 := Lib.hid (And.intro hH hcat)
   have hlt' : (j : Int) < (M : Int) := by omega
   have ewJ : IntKind.i64.wrap ((j : Int) + 1) = ((j + 1 : Nat) : Int) := by rw [IntWalk.i64_in _ (by omega)]; omega
   have a1 : ¬ 9223372036854775807 < 6 + S.size := by omega
   have a2 : ¬ 9223372036854775807 < 6 + S.size + 2 := by omega
   have a3 : ¬ 9223372036854775807 < 6 + S.size + 2 + PA.size := by omega
   have a4 : ¬ 9223372036854775807 < 6 + S.size + 2 + PA.size + 2 := by omega
   obtain ⟨f3, -, z3⟩ := lie_cell q3
   have kcc := gcell wr
   clear hI hS hN hM p6 hl hp hv hrows hrow hlm hlw hpl hqc hH hcat HH hSS hPA hHD q3 hL
   go_upto_region 7 with (fail)
   refine region_below_tail 11 (by kernel_rfl) (by kernel_rfl) ?_
   simp only [List.take_succ_cons, List.take_zero, List.drop_succ_cons, List.drop_zero]
   iterate 11 (quiet_step (exact Ret.grown (fun W hW => cI W (after hB0 hW))))
   refine wpQuiet_nil ?_
   intro w4 hb4
   have hB4 := hB.trans (hb4.mono hB.size)
   have hB04 := after hB0 hb4
   have q4 := (hb4.block _ z3).trans ((hB.block _ z2).trans HQ2.out)
   have hBl4 := HB.out.below hb4
   clear cI kcc f3 hqw hgb' hhb' hvw HB
   have hTlen : acc.length + HD.length <= 140737488355328 := by
    have h := congrArg List.length HH2.out.1
    rw [List.length_append, List.length_append] at h
    omega
   refine wpList_plain rfl (fun KK hKK => ?_); go_simp
   rw [HH2.out.2]
   have cW := bldStr_any w2.heap.size w2.heap.size _ ⟨HD.toArray⟩ w4 hBl4 (by rw [show (Lib.byteCells acc).length = acc.length by simp [Lib.byteCells]]; exact hTlen) hB4.size
   generalize (((⟨HD.toArray⟩ : ByteArray).size : Nat) : Int) = SZ at cW
   refine cW.mono ?_
   rintro e w5 ⟨rfl, hB5, hb5, -⟩
   refine hKK _ _ ?_; clear hKK KK cW
   refine wpList_nil ?_
   have hI5 : IsBld w2.heap.size w2.heap.size (Lib.byteCells (acc ++ HD)) w5 := by rw [byteCells_app', <- strCells_is HD]; exact .inr hB5
   have hB25 := hB4.trans hb5
   have hH5 : (acc ++ HD) ++ (l.flatMap lineC ++ textsC (j + 1) (c.blocks.drop (j + 1)) (c.params.drop (j + 1))) = T := by rw [List.append_assoc]; exact HH2.out.1
   have HI5 := Lib.hid (And.intro hI5 hH5)
   clear hI5 hH5 hB5 hb5 hBl4 HH2 q4 hB04 hB4 hb4 hTlen
   go_wp2_with fail
   go_loopw [34] (fun i w' => ∃ (m : Nat) (ac2 : Bs), i = .int .i64 (m : Int) /\ m <= L /\ ac2 ++ ((l.drop m).flatMap lineC ++ textsC (j + 1) (c.blocks.drop (j + 1)) (c.params.drop (j + 1))) = T /\ IsBld w2.heap.size w2.heap.size (Lib.byteCells ac2) w' /\ Below w2.heap.size w2 w') (fun i _ => L - (intOf i).toNat)
   case atStart => exact ⟨0, _, rfl, by omega, HI5.out.2, HI5.out.1, hB25⟩
   case round =>
    clear HI5 hB25
    obtain ⟨m, ac2, rfl, hm, hH, hBl, hB6⟩ := hrel
    have HB := Lib.hid hBl
    have HH := Lib.hid hH
    clear hBl hH
    have hB06 : Below w.heap.size w wr := hb02.trans (hB6.mono hb02.size)
    by_cases hml : m < L
    ·obtain ⟨hrow, hsm, hwr, hLl⟩ := HL.out
     obtain ⟨x, hx⟩ : ∃ x, l[m]? = some x := ⟨_, List.getElem?_eq_getElem (by omega)⟩
     obtain ⟨xb, xo, rfl, hxb, hxr⟩ := hrow.resolve_left (fun h => by rw [h] at hLl; simp at hLl; omega)
     have hxw : wr.rangeAt xb (xo + m * 18) (insC x) := ins_range hB06 hxb (hxr m x hx)
     have hxs := hsm x (List.mem_of_getElem? hx)
     have hxn := hwr x (List.mem_of_getElem? hx)
     have hmi : (m : Int) < (L : Int) := by omega
     have ewM : IntKind.i64.wrap ((m : Int) + 1) = ((m + 1 : Nat) : Int) := by rw [IntWalk.i64_in _ (by omega)]; omega
     have hH := HH.out
     obtain ⟨h7, h8⟩ := List.getElem?_eq_some_iff.1 hx
     rw [List.drop_eq_getElem_cons h7, h8, List.flatMap_cons] at hH
     have cL := fun W (hW : Below w.heap.size w W) => line_any x (line_ok hxs hxn) hxn.op W (hgh.out.below hW)
     obtain ⟨LT, hLT⟩ : ∃ LT, lineC x = LT := ⟨_, rfl⟩
     rw [hLT] at hH cL
     have HH2 := Lib.hid hH
     clear hrow hsm hwr hLl hx hxr hxs hxn hH h7 h8 hLT HH
     go_upto_region 10 with (fail)
     refine wp_region_lit ?_
     refine st ?_
     refine wpList_load_mid rfl 43 (.tmp 36) rfl xb (xo + m * 18) rfl (insC x) _ hxw underlying43 rfl cellsIns ?_
     refine st ?_
     refine wpList_store_mid rfl 43 (.tmp 8) (.tmp 37) rfl wr.heap.size 0 (insC x).toArray rfl rfl (whole_there (heap_alloc_new _ _) rfl) cellsIns (all_oneCell_toArray (insC_one x)) ?_
     refine wpList_abs (On1 43 wr (insC x).toArray) ⟨below_cells _ _ _ _ _ ((Below.refl _ _).alloc (Nat.le_refl _) _), box_whole (heap_alloc_new _ _) rfl⟩ ?_
     rintro w6 ⟨hb6, x6⟩
     refine wpList_nil ?_
     have hB26 := hB6.trans (hb6.mono hB6.size)
     have hB0w := after hB06 hb6
     have hBl6 := HB.out.below hb6
     have hTlen : ac2.length + LT.length <= 140737488355328 := by
      have h := congrArg List.length HH2.out
      simp only [List.length_append] at h
      omega
     clear hxw HB hb6
     go_upto_region 11 with (fail)
     refine wp_region_lit ?_
     refine wpList_load_row rfl 43 (.tmp 8) rfl wr.heap.size rfl 43 (insC x).toArray (0, 0) _ x6 underlying43 rfl (by exact cellsIns) ?_
     refine wpList_plain rfl (fun KK hKK => ?_); go_simp
     refine (cL w6 hB0w).mono ?_; rintro e w7 ⟨rfl, hb7⟩
     refine hKK _ _ ?_; clear hKK KK
     have hB27 := hB26.trans (hb7.mono hB26.size)
     have hBl7 := hBl6.below hb7
     clear cL x6 hBl6 hb7
     refine wpList_plain rfl (fun KK hKK => ?_); go_simp
     have cW := bldStr_any w2.heap.size w2.heap.size _ ⟨LT.toArray⟩ w7 hBl7 (by rw [show (Lib.byteCells ac2).length = ac2.length by simp [Lib.byteCells]]; exact hTlen) hB27.size
     generalize (((⟨LT.toArray⟩ : ByteArray).size : Nat) : Int) = SZ2 at cW
     refine cW.mono ?_
     rintro e w8 ⟨rfl, hB8, hb8, -⟩
     refine hKK _ _ ?_; clear hKK KK cW
     refine wpList_nil ?_
     have hI8 : IsBld w2.heap.size w2.heap.size (Lib.byteCells (ac2 ++ LT)) w8 := by rw [byteCells_app', <- strCells_is LT]; exact .inr hB8
     have hH8 : (ac2 ++ LT) ++ ((l.drop (m + 1)).flatMap lineC ++ textsC (j + 1) (c.blocks.drop (j + 1)) (c.params.drop (j + 1))) = T := by
      rw [List.append_assoc, <- List.append_assoc LT]; exact HH2.out
     have HI8 := Lib.hid (And.intro hI8 hH8)
     have hB28 := hB27.trans hb8
     clear hI8 hH8 hB8 hb8 hBl7 HH2 hTlen
     go_wp2
     go_roundw
     case rel => exact ⟨m + 1, _, rfl, by omega, HI8.out.2, HI8.out.1, hB28⟩
     case measure => simp [intOf]; omega
    ·have hLm : L = m := by omega
     subst hLm
     have hH := HH.out
     rw [List.drop_eq_nil_of_le (by rw [HL.out.2.2.2]; exact Nat.le_refl _), List.flatMap_nil, List.nil_append] at hH
     have HI8 := Lib.hid (And.intro hH HB.out)
     clear hH HH HB
     go_wp2
     go_roundw
     case rel => exact ⟨j + 1, ac2, rfl, by omega, HI8.out.1, HI8.out.2, hB6⟩
     case measure => simp [intOf]; omega
  ·have hMj : M = j := by omega
   subst hMj
   have hH := HH.out
   rw [List.drop_eq_nil_of_le (by rw [HC.out.2.2.1]; exact Nat.le_refl _), show ∀ i Q, textsC i [] Q = [] from fun i Q => by cases Q <;> rfl, List.append_nil] at hH
   subst hH
   have cG := Tryz.Builder_String_any w2.heap.size w2.heap.size acc wr HB.out hB.size
   clear HH HB
   go_wp2_with fail
   refine cG.mono ?_; rintro e w6 ⟨rfl, hb6⟩
   go_wp2
   go_ret2; exact Ret.mk2 rfl rfl (hb02.trans ((hB.trans hb6).mono hb02.size))
end Go.Proofs.YtlpgigdegnbkmaaGreatDoor
