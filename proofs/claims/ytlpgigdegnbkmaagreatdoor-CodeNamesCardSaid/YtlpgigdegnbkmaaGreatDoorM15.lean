import Derived.Test.YtlpgigdegnbkmaaGreatDoorM12
import Derived.Test.YtlpgigdegnbkmaaGreatDoorM13
import Derived.Deep.RegionHeldLaw
import Derived.Deep.RegionLaw
import Derived.Deep.CutRange
namespace Go.Proofs.YtlpgigdegnbkmaaGreatDoor
open Go.RowKit Tab
theorem funLe {c1 c2 : CodeD} {t : Bs} (h : c2 = { blocks := c1.blocks ++ [[]], params := c1.params ++ [t] }) : LenLe c1 c2 := by
 refine Ext.le fun j l hl => ⟨[], ?_⟩
 rw [h, List.getElem?_append_left (List.getElem?_eq_some_iff.1 hl).1, hl, List.append_nil]
theorem CMem.aside {w W : World} {B p h g cg ch n : Nat} {vs : List Value} {c : CodeD} {B' : Nat} {v : Value} {xs : List Value} (k : CMem w B p h g cg ch vs c) (hv : w.ownsRow B' 9 1 v n xs) (hne : ∀ q, v.ownBlock = some q → q ≠ h) (hg : w.grownBy W v.ownBlock) : CMem W B p h g cg ch vs c where
 lep := k.lep
 few := k.few
 box := grow_keeps hv k.box (by decide) hg
 rows := own_kept k.rows fun i hi => by
  obtain ⟨_, cu, e4⟩ := own_type k.rows hi
  exact (grow_keeps hv e4 (by decide) hg).trans e4.symm
 pars := own_kept k.pars fun i hi => by
  obtain ⟨_, cu, e4⟩ := own_type k.pars hi
  injection hi with hi
  exact hg.block i (heap_in e4) fun e => hne i e.symm hi.symm
 each := fun i u l h1 h2 => own_kept (k.each i u l h1 h2) fun j hj => by
  obtain ⟨_, cu, e4⟩ := own_type (k.each i u l h1 h2) hj
  exact (grow_keeps hv e4 (by decide) hg).trans e4.symm
 apart := k.apart
theorem known_after {w W : World} {_h h9 B n c2 : Nat} {a2 : Option Addr} {v : Value} {xs : List Value} {K : List Bs} (_hv : w.ownsRow B 9 1 v n xs) (hne : ∀ q, v.ownBlock = some q → q ≠ h9) (hw : W.ownsRow B 9 1 (.slice a2 K.length c2) K.length (strL K)) (hl : (Value.slice a2 K.length c2).ownBlock = v.ownBlock ∨ (Value.slice a2 K.length c2).ownBlock = some w.heap.size) (h9l : h9 < w.heap.size) : KnownAt W h9 a2 c2 K :=
 ⟨own_names hw, fun _ d hd => by
  subst hd
  rcases hl with e | e
  ·exact hne _ e.symm
  ·injection e with e; omega⟩
theorem KeptC.grownNew {w w1 W : World} {h B n : Nat} {v : Value} {xs : List Value} (k : KeptC h w w1) (hv : w1.ownsRow B 9 1 v n xs) (hB : w.heap.size ≤ B) (hs : w.heap.size ≤ w1.heap.size) (hg : w1.grownBy W v.ownBlock) : KeptC h w W := fun i C T fr h1 h2 h3 h4 h5 => by
 have hi := heap_in h1
 refine (hg.block i (by omega) fun e => ?_).trans (k i C T fr h1 h2 h3 h4 h5)
 have := (own_type hv e.symm).1
 omega
theorem strL_cells {w : World} {b o : Nat} {C : Array Value} {fr : Nat × Nat} {L : List Bs} (h : w.heap[b]? = some (.cells C 9 fr)) (hc : ∀ (i : Nat) (x : Bs), L[i]? = some x → C[o + i]? = some (.string ⟨x.toArray⟩)) : ∀ j u, (strL L)[j]? = some u → w.cell? ((⟨b, o, none⟩ : Addr).add j) = some u := fun j u hj => by
 rw [List.getElem?_map] at hj
 obtain ⟨x, hx, rfl⟩ := Option.map_eq_some_iff.1 hj
 rw [Addr.add_mid]
 unfold World.cell?
 rw [h]
 exact hc j x hx
theorem strL_app (K L : List Bs) : strL (K ++ L) = strL K ++ strL L := List.map_append
theorem strL_one (L : List Bs) : ∀ u ∈ strL L, u.oneCell' = true := by
 intro u hu
 obtain ⟨x, _, rfl⟩ := List.mem_map.1 hu
 rfl
theorem fold_str (s : Bs) (w : World) (hg : Good w) (hs : s.length ≤ 100000) : Calls Tryz.prog 130 #[.string ⟨s.toArray⟩] w (Ret (.string ⟨(lowerD s).toArray⟩) w) := cfold_any ⟨s.toArray⟩ w hg (Nat.le_trans (show s.length ≤ 100000 from hs) (by decide))
set_option maxRecDepth 100000 in
set_option maxHeartbeats 16000000 in
theorem fun_any (w0 : World) (hg : Good w0) (f : Nat) (ihT : TreeK 23 w0 f) : FunK w0 (f + 1) := by
 intro p h b a kc K c n cs own w hw hc hb hk hn hkind hol hwt hsm
 obtain ⟨na, nc, rfl, hnc, hok, hkids⟩ := hn
 obtain ⟨x, xs, hxs⟩ : ∃ x xs, n.kids = x :: xs := by
  have := hok.body hkind
  cases e : n.kids with
  | nil => rw [e] at this; simp at this
  | cons x xs => exact ⟨x, xs, rfl⟩
 have he := comp_fun f c b K own n hkind
 rw [hxs] at he
 rw [he] at hsm ⊢
 clear he hkind
 rcases hkids with e0 | ⟨bb, o, rfl, hbb, hkids⟩
 ·rw [hxs] at e0; cases e0
 rw [hxs] at hkids
 obtain ⟨cs0, hr00, hn00⟩ := hkids 0 _ rfl
 clear hkids
 obtain ⟨R, hR⟩ : ∃ R, heldN K own = R := ⟨_, rfl⟩
 rw [hR] at hsm ⊢
 obtain ⟨S, hS⟩ : ∃ S, (if own = [] then joinN R else joinN R ++ 59 :: own) = S := ⟨_, rfl⟩
 obtain ⟨KN, hKN⟩ : ∃ KN, (if own = [] then R else R ++ [own]) = KN := ⟨_, rfl⟩
 rw [hS, hKN] at hsm ⊢
 change SmallC (comp f (funC c b S n.text) c.blocks.length (KN ++ namesD n.text) [] x) at hsm
 change Calls _ _ _ _ (Did _ _ _ (comp f (funC c b S n.text) c.blocks.length (KN ++ namesD n.text) [] x) _)
 have hRw : wtN R ≤ wtN K := by rw [← hR]; exact heldN_wt _ K
 have hRl : R.length ≤ K.length := by rw [← hR]; exact heldN_len _ K
 have hKNw : wtN KN ≤ wtN K + own.length + 1 := by
  rw [← hKN]
  split
  ·omega
  ·rw [wtN_app, wtN_one]; omega
 have hKl := many_of (m := 0) (by omega : wtN K + 0 ≤ 100000)
 have hFew := few_of (m := 0) (by omega : wtN K + 0 ≤ 100000)
 have cF := fun W (pp : Option Addr) (L : List Bs) (la : Option Addr) (lc : Nat) (s : Bs) (hs : s.length ≤ 100000) (hl : L.length ≤ 1000000) (hf : Few L) (hW : Below w0.heap.size w0 W) (hI : NamesAt W la lc L) => find_anyP pp 0 la lc L hl hf ⟨s.toArray⟩ (Nat.le_trans (show s.length ≤ 100000 from hs) (by decide)) W (hg.below hW) hI
 have cO := fun W (s : Bs) (hs : s.length ≤ 100000) (hW : Below w0.heap.size w0 W) => fold_str s W (hg.below hW) hs
 have hkl := hk.1.cap
 have HS := Lib.hid (And.intro hsm (And.intro hxs (And.intro hR (And.intro hS hKN))))
 clear hsm hR hS hKN
 unfold blkV
 rw [nodeA_eq]
 have zB := hw.size
 obtain ⟨NA, hNA⟩ : ∃ A, nodeA n (.slice (some ⟨bb, o, none⟩) n.kids.length nc) = A := ⟨_, rfl⟩
 unfold nodeA at *
 have HNA := Lib.hid hNA
 clear hNA hxs
 go_enter Tryz.func88, Tryz.ntmps88
 go_upto_region 1 with (fail)
 refine wp_abs2 (fun W => Below w.heap.size w W ∧ W.heap[w.heap.size]? = some (.cells #[.pointer (some ⟨p, 0, none⟩), .int .i64 (b : Int), .slice a K.length kc] 65 (0, 0)) ∧ W.heap[w.heap.size + 1]? = some (.cells NA 30 (0, 0))) ⟨belx, heap_alloc2_old _ _ _, by rw [← HNA.out]; exact heap_alloc2_new _ _ _⟩ ?_
 rintro w1 ⟨hb1, q1, r1⟩
 obtain ⟨f1, -, z1⟩ := lie_cell q1; obtain ⟨g1, -, y1⟩ := lie_cell r1; rw [← HNA.out] at g1
 have HQ1 := Lib.hid (And.intro q1 r1)
 clear q1 r1
 go_wp2_with fail
 go_loopw [6, 17] (fun v i w' => ∃ (j : Nat) (m : List Bs), i = .int .i64 (j : Int) ∧ j ≤ K.length ∧ m ++ heldN (K.drop j) own = R ∧ w'.ownsRow (w.heap.size + 1 + 1) 9 1 v m.length (strL m) ∧ Below w.heap.size w w' ∧ w'.heap[w.heap.size]? = some (.cells #[.pointer (some ⟨p, 0, none⟩), .int .i64 (b : Int), .slice a K.length kc] 65 (0, 0)) ∧ w'.heap[w.heap.size + 1]? = some (.cells NA 30 (0, 0))) (fun _ i _ => K.length - (intOf i).toNat)
 case atStart => exact ⟨0, [], rfl, by omega, HS.out.2.2.1, ⟨rfl, .inl ⟨rfl, rfl⟩⟩, hb1, HQ1.out.1, HQ1.out.2⟩
 case round =>
  clear f1 g1 HQ1
  obtain ⟨j, m, rfl, hj, hI, hown', hB, q2, r2⟩ := hrel
  have hml : m.length ≤ K.length := by have h := congrArg List.length hI; rw [List.length_append] at h; omega
  have HI := Lib.hid hI
  clear hI
  obtain ⟨f2, -, z2⟩ := lie_cell q2; obtain ⟨g2, -, y2⟩ := lie_cell r2; rw [← HNA.out] at g2
  by_cases hlt : j < K.length
  ·obtain ⟨bk, ok, rfl, hbk, hcell⟩ := hk.1.cell hlt
   have hce := (hB.cell (p := ⟨bk, ok + j, none⟩) hbk).trans hcell
   have hji : (j : Int) < (K.length : Int) := by omega
   have hji2 : (j : Int) + 1 ≤ (K.length : Int) := by omega
   have hkli : (K.length : Int) ≤ (kc : Int) := by omega
   have ew : IntKind.i64.wrap ((j : Int) + 1) = (j : Int) + 1 := by rw [IntWalk.i64_in _ (by omega)]
   have en : ((j : Int) + 1).toNat = j + 1 := by omega
   have HC := Lib.hid hcell
   clear hcell
   have hj0 : 0 ≤ (j : Int) + 1 := by omega
   obtain ⟨SA, hSA⟩ : ∃ S, (if kc = j + 1 then some (⟨bk, ok, none⟩ : Addr) else some ⟨bk, ok + (j + 1), none⟩) = S := ⟨_, rfl⟩
   have hNs : NamesAt wr SA (kc - (j + 1)) (K.drop (j + 1)) := by rw [← hSA]; exact (hk.1.below hB).drop (j + 1) (by omega)
   have hKx : K[j].length ≤ 100000 := by have := wtN_mem (List.getElem_mem hlt); omega
   have cFj := cF wr none (K.drop (j + 1)) SA (kc - (j + 1)) K[j] hKx (by simp; omega) (fun y hy => hFew y (List.mem_of_mem_drop hy)) (hw.trans (hB.mono zB)) hNs
   rw [List.length_drop] at cFj
   have hstep := heldN_step K own j hlt
   clear hNs
   have HG := Lib.hid (And.intro hKx HC.out)
   clear HC
   generalize hx : K[j] = y at *
   have HX2 := Lib.hid hx
   clear hx
   cases hfn : findN (K.drop (j + 1)) y with
   | some z =>
    rw [hfn] at cFj hstep
    dsimp only [Option.getD, Option.isSome, Option.isNone] at cFj hstep
    have HST := Lib.hid (And.intro hfn hstep)
    clear hfn hstep
    go_wp2_with fail
    refine cFj.mono ?_; rintro e w2 ⟨rfl, hb2⟩
    have q3 := (hb2.block _ z2).trans q2
    have r3 := (hb2.block _ y2).trans r2
    have hB3 := after hB hb2
    have own3 := own_below hown' hb2
    clear f2 g2 cFj hce
    obtain ⟨f3, -, z3⟩ := lie_cell q3; obtain ⟨g3, -, y3⟩ := lie_cell r3; rw [← HNA.out] at g3
    have HQ := Lib.hid (And.intro q3 (And.intro r3 own3))
    clear q3 r3 own3 hown' q2 r2
    clear ew
    have ew2 : IntKind.i64.wrap ((j : Int) + 1) = ((j + 1 : Nat) : Int) := by rw [IntWalk.i64_in _ (by omega)]; omega
    go_wp2
    go_roundw
    case rel => exact ⟨j + 1, m, rfl, by omega, by have h := HI.out; rw [HST.out.2] at h; exact h, HQ.out.2.2, hB3, HQ.out.1, HQ.out.2.1⟩
    case measure => simp [intOf]; omega
   | none =>
    rw [hfn] at cFj hstep
    dsimp only [Option.getD, Option.isSome, Option.isNone] at cFj hstep
    by_cases hown : own = []
    ·subst hown
     have hstep2 : heldN (K.drop j) [] = y :: heldN (K.drop (j + 1)) [] := by rw [hstep]; rfl
     have HST := Lib.hid (And.intro hfn hstep2)
     clear hfn hstep hstep2
     go_wp2_with fail
     refine cFj.mono ?_; rintro e w2 ⟨rfl, hb2⟩
     have q3 := (hb2.block _ z2).trans q2
     have r3 := (hb2.block _ y2).trans r2
     have hB3 := after hB hb2
     have own3 := own_below hown' hb2
     clear f2 g2 cFj hce
     obtain ⟨f3, -, z3⟩ := lie_cell q3; obtain ⟨g3, -, y3⟩ := lie_cell r3; rw [← HNA.out] at g3
     have HQ := Lib.hid (And.intro q3 (And.intro r3 own3))
     clear q3 r3 own3 hown' q2 r2
     clear ew
     have ew2 : IntKind.i64.wrap ((j : Int) + 1) = ((j + 1 : Nat) : Int) := by rw [IntWalk.i64_in _ (by omega)]; omega
     go_wp2_with (at_builtin; refine held ?_)
     unfold Held
     obtain ⟨hq, hr, ho⟩ := HQ.out
     obtain ⟨iT, hi, hz0, hz1, hz2⟩ := info_parts infoStr
     refine wpList_append_own_at _ rfl (.tmp 50) (.tmp 52) 33 rfl (w.heap.size + 1 + 1) 9 iT (.string ⟨#[]⟩) 1 16 Tryz.underlying33 hi hz0 hz1 hz2 rfl (by decide) u6 m.length (strL m) rfl (ho.alloc _) ⟨w2.heap.size, 0, none⟩ 1 1 [.string ⟨y.toArray⟩] rfl rfl (cell_one_new _ _ _) (by intro u hu; simp at hu; subst hu; rfl) (by unfold maxLen; omega) (by omega) (by have := hB3.size; simp; omega) ?_
     intro v' w3 hown3 hgrow _ hloc
     have hB4 : Below w.heap.size w w3 := (allocB hB3).grown hgrow (by have := hB3.size; simp; omega) (fun k hk => Nat.le_trans (by omega) (own_row ho k hk))
     have q4 := grow_keeps (ho.alloc _) ((Below.heap_alloc w2 _ _ (heap_in hq)).trans hq) (by decide) hgrow
     have r4 := grow_keeps (ho.alloc _) ((Below.heap_alloc w2 _ _ (heap_in hr)).trans hr) (by decide) hgrow
     clear hi hz0 hz1 hz2 iT hq hr ho hgrow hloc f3 g3
     have HW := Lib.hid (And.intro hown3 (And.intro q4 r4))
     clear hown3 q4 r4
     go_wp2
     go_roundw
     case rel => exact ⟨j + 1, m ++ [y], rfl, by omega, by have h := HI.out; rw [HST.out.2] at h; rw [List.append_assoc]; exact h, by rw [List.length_append]; show World.ownsRow _ _ _ _ _ _ ((m ++ [y]).map _); rw [List.map_append]; exact HW.out.1, hB4, HW.out.2.1, HW.out.2.2⟩
     case measure => simp [intOf]; omega
    ·have hbe : (own == []) = false := by cases own with | nil => exact absurd rfl hown | cons _ _ => rfl
     have hie : own.isEmpty = false := by cases own with | nil => exact absurd rfl hown | cons _ _ => rfl
     cases hE : (lowerD y == lowerD own)
     ·have hstep2 : heldN (K.drop j) own = y :: heldN (K.drop (j + 1)) own := by rw [hstep, hbe, hE]; rfl
      have HST := Lib.hid (And.intro hfn hstep2)
      clear hfn hstep hstep2
      have HSA := Lib.hid hSA
      go_wp2_with fail
      refine cFj.mono ?_; rintro e w2 ⟨rfl, hb2⟩
      have q3 := (hb2.block _ z2).trans q2
      have r3 := (hb2.block _ y2).trans r2
      have hB3 := after hB hb2
      have own3 := own_below hown' hb2
      clear f2 g2 cFj hce
      obtain ⟨f3, -, z3⟩ := lie_cell q3; obtain ⟨g3, -, y3⟩ := lie_cell r3; rw [← HNA.out] at g3
      have HQ := Lib.hid (And.intro q3 (And.intro r3 own3))
      clear q3 r3 own3 hown' q2 r2
      have hoL : own.length ≤ 100000 := by omega
      go_wp2_with fail
      refine (cO w2 y hKx (hw.trans (hB3.mono zB))).mono ?_; rintro e w4 ⟨rfl, hb4⟩
      have q4 := (hb4.block _ z3).trans HQ.out.1
      have r4 := (hb4.block _ y3).trans HQ.out.2.1
      have hB4 := after hB3 hb4
      go_wp2_with fail
      refine (cO w4 own hoL (hw.trans (hB4.mono zB))).mono ?_; rintro e w5 ⟨rfl, hb5⟩
      have own5 := own_below (own_below HQ.out.2.2 hb4) hb5
      have q5 := (hb5.block _ (heap_in q4)).trans q4
      have r5 := (hb5.block _ (heap_in r4)).trans r4
      have hB5 := after hB4 hb5
      clear f3 g3 HQ
      obtain ⟨f3, -, z5⟩ := lie_cell q5; obtain ⟨g3, -, y5⟩ := lie_cell r5; rw [← HNA.out] at g3
      have HQ := Lib.hid (And.intro q5 (And.intro r5 own5))
      clear q4 r4 q5 r5 own5
      clear ew
      have ew5 : IntKind.i64.wrap ((j : Int) + 1) = ((j + 1 : Nat) : Int) := by rw [IntWalk.i64_in _ (by omega)]; omega
      go_wp2_with (at_builtin; refine held ?_)
      unfold Held
      obtain ⟨hq, hr, ho⟩ := HQ.out
      obtain ⟨iT, hi, hz0, hz1, hz2⟩ := info_parts infoStr
      refine wpList_append_own_at _ rfl (.tmp 50) (.tmp 52) 33 rfl (w.heap.size + 1 + 1) 9 iT (.string ⟨#[]⟩) 1 16 Tryz.underlying33 hi hz0 hz1 hz2 rfl (by decide) u6 m.length (strL m) rfl (ho.alloc _) ⟨w5.heap.size, 0, none⟩ 1 1 [.string ⟨y.toArray⟩] rfl rfl (cell_one_new _ _ _) (by intro u hu; simp at hu; subst hu; rfl) (by unfold maxLen; omega) (by omega) (by have := hB5.size; simp; omega) ?_
      intro v' w3 hown3 hgrow _ hloc
      have hB4 : Below w.heap.size w w3 := (allocB hB5).grown hgrow (by have := hB5.size; simp; omega) (fun k hk => Nat.le_trans (by omega) (own_row ho k hk))
      have q4 := grow_keeps (ho.alloc _) ((Below.heap_alloc w5 _ _ (heap_in hq)).trans hq) (by decide) hgrow
      have r4 := grow_keeps (ho.alloc _) ((Below.heap_alloc w5 _ _ (heap_in hr)).trans hr) (by decide) hgrow
      clear hi hz0 hz1 hz2 iT hq hr ho hgrow hloc f3 g3
      have HW := Lib.hid (And.intro hown3 (And.intro q4 r4))
      clear hown3 q4 r4
      go_wp2
      go_roundw
      case rel => exact ⟨j + 1, m ++ [y], rfl, by omega, by have h := HI.out; rw [HST.out.2] at h; rw [List.append_assoc]; exact h, by rw [List.length_append]; show World.ownsRow _ _ _ _ _ _ ((m ++ [y]).map _); rw [List.map_append]; exact HW.out.1, hB4, HW.out.2.1, HW.out.2.2⟩
      case measure => simp [intOf]; omega
     ·have hstep2 : heldN (K.drop j) own = heldN (K.drop (j + 1)) own := by rw [hstep, hbe, hE]; rfl
      have HST := Lib.hid (And.intro hfn hstep2)
      clear hfn hstep hstep2
      have HSA := Lib.hid hSA
      go_wp2_with fail
      refine cFj.mono ?_; rintro e w2 ⟨rfl, hb2⟩
      have q3 := (hb2.block _ z2).trans q2
      have r3 := (hb2.block _ y2).trans r2
      have hB3 := after hB hb2
      have own3 := own_below hown' hb2
      clear f2 g2 cFj hce
      obtain ⟨f3, -, z3⟩ := lie_cell q3; obtain ⟨g3, -, y3⟩ := lie_cell r3; rw [← HNA.out] at g3
      have HQ := Lib.hid (And.intro q3 (And.intro r3 own3))
      clear q3 r3 own3 hown' q2 r2
      have hoL : own.length ≤ 100000 := by omega
      go_wp2_with fail
      refine (cO w2 y hKx (hw.trans (hB3.mono zB))).mono ?_; rintro e w4 ⟨rfl, hb4⟩
      have q4 := (hb4.block _ z3).trans HQ.out.1
      have r4 := (hb4.block _ y3).trans HQ.out.2.1
      have hB4 := after hB3 hb4
      go_wp2_with fail
      refine (cO w4 own hoL (hw.trans (hB4.mono zB))).mono ?_; rintro e w5 ⟨rfl, hb5⟩
      have own5 := own_below (own_below HQ.out.2.2 hb4) hb5
      have q5 := (hb5.block _ (heap_in q4)).trans q4
      have r5 := (hb5.block _ (heap_in r4)).trans r4
      have hB5 := after hB4 hb5
      clear f3 g3 HQ
      obtain ⟨f3, -, z5⟩ := lie_cell q5; obtain ⟨g3, -, y5⟩ := lie_cell r5; rw [← HNA.out] at g3
      have HQ := Lib.hid (And.intro q5 (And.intro r5 own5))
      clear q4 r4 q5 r5 own5
      clear ew
      have ew2 : IntKind.i64.wrap ((j : Int) + 1) = ((j + 1 : Nat) : Int) := by rw [IntWalk.i64_in _ (by omega)]; omega
      go_wp2
      go_roundw
      case rel => exact ⟨j + 1, m, rfl, by omega, by have h := HI.out; rw [HST.out.2] at h; exact h, HQ.out.2.2, hB5, HQ.out.1, HQ.out.2.1⟩
      case measure => simp [intOf]; omega
  ·obtain rfl : j = K.length := by omega
   have hmR := HI.out
   rw [List.drop_length, heldN, List.append_nil] at hmR
   subst hmR
   clear HI
   obtain ⟨ka, kcap, rfl⟩ := own_shape hown'
   have hN := own_names hown'
   have cJ := join_any ka kcap m wr hN (by omega)
   have cC := fun W hb => clone_any ka kcap m W (hN.below hb) (by omega)
   have HO := Lib.hid (And.intro hown' (And.intro q2 r2))
   clear hown' q2 r2 hN
   go_wp2_with fail
   refine cJ.mono ?_; rintro e w2 ⟨rfl, hb2⟩
   go_wp2_with fail
   refine (cC w2 hb2).mono ?_; rintro e w3 ⟨kv, rfl, hk3, hb3⟩
   obtain ⟨xa, xc, rfl⟩ := own_shape hk3
   have hB3 := after (after hB hb2) hb3
   have q3 := (hb3.block _ (Nat.lt_of_lt_of_le z2 hb2.size)).trans ((hb2.block _ z2).trans HO.out.2.1)
   have r3 := (hb3.block _ (Nat.lt_of_lt_of_le y2 hb2.size)).trans ((hb2.block _ y2).trans HO.out.2.2)
   have hh2 : h < w.heap.size := by obtain ⟨C, hC⟩ := hc.par; exact heap_in hC
   have hle2 : w.heap.size ≤ w2.heap.size := (after hB hb2).size
   have hle3 : w2.heap.size ≤ w3.heap.size := hb3.size
   clear f2 g2 cJ cC HO
   obtain ⟨f3, -, z3⟩ := lie_cell q3; obtain ⟨g3, -, y3⟩ := lie_cell r3; rw [← HNA.out] at g3
   have HQ := Lib.hid (And.intro q3 (And.intro r3 hk3))
   clear q3 r3 hk3
   clear cF cO
   go_upto_if 60 with (fail)
   go_cut [11, 12] from 59 (fun s v wx => s = .string ⟨S.toArray⟩ ∧ (∃ xa xc, v = .slice xa KN.length xc ∧ wx.ownsRow w2.heap.size 9 1 (.slice xa KN.length xc) KN.length (strL KN)) ∧ Below w.heap.size w wx ∧ w2.heap.size ≤ wx.heap.size ∧ wx.heap[w.heap.size]? = some (.cells #[.pointer (some ⟨p, 0, none⟩), .int .i64 (b : Int), .slice a K.length kc] 65 (0, 0)) ∧ wx.heap[w.heap.size + 1]? = some (.cells NA 30 (0, 0)))
   case first =>
    obtain ⟨-, -, -, hS, hKN⟩ := HS.out
    by_cases hown : own = []
    ·rw [if_pos hown] at hS hKN
     subst hS hKN hown
     have hj3 := hB3
     clear hol hKNw hRl hRw hml hj hlt hKl hFew hkl hnc hok HS hc hk hb hw hn00 hr00 hbb
     simp only [List.isEmpty_nil, Bool.not_true]
     go_wp2_with fail
     go_meet
     case rel => exact ⟨rfl, ⟨xa, xc, rfl, HQ.out.2.2⟩, hB3, hle3, HQ.out.1, HQ.out.2.1⟩
    ·rw [if_neg hown] at hS hKN
     subst hS hKN
     have hbe : (own == []) = false := by cases own with | nil => exact absurd rfl hown | cons _ _ => rfl
     have hie : own.isEmpty = false := by cases own with | nil => exact absurd rfl hown | cons _ _ => rfl
     have hcat : ((⟨(joinN m).toArray⟩ : ByteArray) ++ ⟨#[59]⟩) ++ ⟨own.toArray⟩ = ⟨(joinN m ++ 59 :: own).toArray⟩ := by rw [ba_cat _ [59], ba_cat, List.append_assoc]; rfl
     have hne0 : (⟨own.toArray⟩ : ByteArray).toList.isEmpty = false := by rw [ByteArray.toList_eq]; exact hie
     have hJs : (⟨(joinN m).toArray⟩ : ByteArray).size ≤ 100000 := by have h := joinN_len m; exact Nat.le_trans (show (joinN m).length ≤ wtN m from h) (by omega)
     have hVs : (⟨own.toArray⟩ : ByteArray).size ≤ 100000 := Nat.le_trans (show own.length ≤ 1000 from hol) (by decide)
     obtain ⟨T, hT⟩ : ∃ T : ByteArray, ⟨(joinN m ++ 59 :: own).toArray⟩ = T := ⟨_, rfl⟩
     rw [hT] at hcat
     have HT := Lib.hid hT
     have HV0 := Lib.hid (And.intro hown (And.intro hbe hie))
     clear hT hown hbe hie
     generalize hJ : (⟨(joinN m).toArray⟩ : ByteArray) = J at *
     generalize hV : (⟨own.toArray⟩ : ByteArray) = V at *
     have HV := Lib.hid (And.intro hJ hV)
     clear hJ hV
     have hkn : m.length ≤ 1000000 := by omega
     have hA1 : J.size + 1 ≤ 9223372036854775807 := by omega
     have hA2 : J.size + 1 + V.size ≤ 9223372036854775807 := by omega
     simp only [HV0.out.2.2, Bool.not_false]
     clear hol hKNw hRl hRw hml hj hlt hKl hFew hkl hnc hok HS hc hk hb hn00 hr00 hbb
     go_wp2_with (at_builtin; refine held ?_)
     unfold Held
     obtain ⟨hq, hr, ho⟩ := HQ.out
     obtain ⟨iT, hi, hz0, hz1, hz2⟩ := info_parts infoStr
     refine wpList_append_own_at _ rfl (.tmp 65) (.tmp 67) 33 rfl w2.heap.size 9 iT (.string ⟨#[]⟩) 1 16 Tryz.underlying33 hi hz0 hz1 hz2 rfl (by decide) (.slice xa m.length xc) m.length (strL m) rfl (ho.alloc _) ⟨w3.heap.size, 0, none⟩ 1 1 [.string V] rfl rfl (cell_one_new _ _ _) (by intro u hu; simp at hu; subst hu; rfl) (by unfold maxLen; omega) (by omega) (by simp; omega) ?_
     intro v' w4 hown4 hgrow _ hloc
     have hB4 : Below w.heap.size w w4 := (allocB hB3).grown hgrow (by have := hB3.size; simp; omega) (fun k hk => Nat.le_trans (by omega) (own_row ho k hk))
     have q4 := grow_keeps (ho.alloc _) ((Below.heap_alloc w3 _ _ (heap_in hq)).trans hq) (by decide) hgrow
     have r4 := grow_keeps (ho.alloc _) ((Below.heap_alloc w3 _ _ (heap_in hr)).trans hr) (by decide) hgrow
     have hsz4 := hgrow.size
     obtain ⟨xa2, xc2, rfl⟩ := own_succ hown4
     clear hi hz0 hz1 hz2 iT hq hr ho hgrow hloc f3 g3
     have HW := Lib.hid (And.intro hown4 (And.intro q4 r4))
     clear hown4 q4 r4
     go_wp2_with fail
     go_meet
     case rel =>
      obtain ⟨h1, h2, h3⟩ := HW.out
      refine ⟨by rw [HT.out], ⟨some ⟨xa2, 0, none⟩, xc2, by simp, ?_⟩, hB4, by simp at hsz4; omega, h2, h3⟩
      rw [← HV.out.2] at h1
      simp only [List.length_append, List.length_cons, List.length_nil, strL, List.map_append, List.map_cons, List.map_nil]
      exact h1
   case rest =>
    obtain ⟨rfl, ⟨xa2, xc2, rfl, hk5⟩, hB5, hsz5, q5, r5⟩ := hcut
    have S5 := hc.below hB5
    obtain ⟨f5, -, z5⟩ := lie_cell q5; obtain ⟨g5, -, y5⟩ := lie_cell r5; rw [← HNA.out] at g5
    obtain ⟨gb5, cg5, ch5, vs5, k5⟩ := S5
    have ep := k5.cells.1
    have hsm := HS.out.1
    obtain ⟨c1, hc1⟩ : ∃ D, putC c b { op := 15, a := (c.blocks.length : Int), s := S } = D := ⟨_, rfl⟩
    obtain ⟨c2, hc2⟩ : ∃ D, funC c b S n.text = D := ⟨_, rfl⟩
    have hc12 : c2 = { blocks := c1.blocks ++ [[]], params := c1.params ++ [n.text] } := by rw [← hc2, ← hc1]; rfl
    have hsm2 : SmallC c2 := by
     rw [hc2] at hsm
     exact (comp_ext f c2 c.blocks.length _ [] x (by rw [← hc2, funC_len]; omega)).le.small hsm
    have cP := fun W h2 (hW : Below w0.heap.size w0 W) (hc : CodeAt W w0.heap.size p h2 c) => putK (a := a) (kn := K.length) (kc := kc) { op := 15, a := (c.blocks.length : Int), s := S } hW hc hb hsm2 (by rw [hc1]; exact funLe hc12)
    rw [hc1, insV_sa] at cP
    unfold blkV at cP
    have HM := Lib.hid (And.intro hsm (And.intro hc1 (And.intro hc2 (And.intro hc12 hsm2))))
    have HQ5 := Lib.hid (And.intro q5 (And.intro r5 (And.intro hk5 k5)))
    clear hsm hc1 hc2 hc12 hsm2 q5 r5 hk5 k5 HQ
    go_wp2_with fail
    refine (cP wc h (hw.trans (hB5.mono zB)) (hc.below hB5)).mono ?_; rintro e w6 ⟨rfl, T6, hBB6, hKK6⟩
    obtain ⟨q5, r5, hk5, -⟩ := HQ5.out
    have q6 := hKK6.other (hc.below hB5) q5 (by decide) (by decide) (by decide) (by decide)
    have r6 := hKK6.other (hc.below hB5) r5 (by decide) (by decide) (by decide) (by decide)
    have own6 := own_keptC hk5 hKK6 (Nat.lt_of_lt_of_le hh2 hle2)
    have hB6 : Below w0.heap.size w w6 := (hB5.mono zB).trans hBB6
    have hK6 : KeptC h w w6 := (KeptC.below hB5).trans hKK6 (.inl rfl)
    clear f5 g5 ep q5 r5 hk5 cP HQ5
    obtain ⟨f6, d6, z6⟩ := lie_cell q6
    obtain ⟨gb6, cg6, ch6, vs6, k6⟩ := T6
    obtain ⟨fp6, dp6, zp6⟩ := lie_cell k6.box
    have hpw : p < w.heap.size := by obtain ⟨_, _, _, _, kk⟩ := hc; exact heap_in kk.box
    have hpne : ¬ p = w.heap.size := by omega
    have hpne2 : ¬ w.heap.size = p := by omega
    have hpne3 : ¬ p = w.heap.size + 1 := by omega
    have hpne4 : ¬ w.heap.size + 1 = p := by omega
    obtain ⟨i32, hi, hz0, hz1, hz2⟩ := info_parts infoRow
    have hl6 : c1.blocks.length ≤ 1000000 := by have h := (funLe HM.out.2.2.2.1).small HM.out.2.2.2.2; exact h.1
    have HO6 := Lib.hid (And.intro q6 (And.intro r6 (And.intro own6 k6)))
    have HI6 := Lib.hid (And.intro hi (And.intro hz0 (And.intro hz1 hz2)))
    have zB6 : w0.heap.size ≤ w6.heap.size := (hw.trans hB6).size
    have hf6 : c1.params.length ≤ c1.blocks.length := k6.few
    clear q6 r6 own6 k6 hi hz0 hz1 hz2
    go_upto_region 14 with (fail)
    go_cut [12] from 81 (fun v wx => v = .slice xa2 KN.length xc2 ∧ (∃ g' cg' vs', CMem wx w0.heap.size p h g' cg' ch6 vs' { blocks := c1.blocks ++ [[]], params := c1.params }) ∧ KeptC h w6 wx ∧ Below w0.heap.size w6 wx)
    case first =>
     go_region_law (refine step_append_own rfl (.tmp 88) (.tmp 89) 32 rfl w0.heap.size 41 i32 (.slice none 0 0) 1 24 Tryz.underlying32 HI6.out.1 HI6.out.2.1 HI6.out.2.2.1 HI6.out.2.2.2 rfl (by decide) (.slice (some ⟨gb6, 0, none⟩) c1.blocks.length cg6) c1.blocks.length vs6 rfl ((show World.ownsRow w6.drew _ _ _ _ _ _ from HO6.out.2.2.2.rows).alloc _) ⟨w6.heap.size, 0, none⟩ 1 1 [.slice none 0 0] rfl rfl (cell_one_new _ _ _) (by intro u hu; simp at hu; subst hu; rfl) (by unfold maxLen; omega) (by omega) (by simp; omega) ?_; intro v' w7 hown7 hgrow7 hloc7; obtain ⟨gn, cn, rfl⟩ := own_succ hown7; have qx := grow_keeps ((show World.ownsRow w6.drew _ _ _ _ _ _ from HO6.out.2.2.2.rows).alloc _) ((Below.heap_alloc w6.drew _ _ z6).trans HO6.out.1) (by decide) hgrow7; obtain ⟨fx, dx, zx⟩ := lie_cell qx; have px := grow_keeps ((show World.ownsRow w6.drew _ _ _ _ _ _ from HO6.out.2.2.2.rows).alloc _) ((Below.heap_alloc w6.drew _ _ zp6).trans HO6.out.2.2.2.box) (by decide) hgrow7; obtain ⟨fy, dy, zy⟩ := lie_cell px; have HW := Lib.hid (And.intro hown7 hgrow7); clear hown7 hgrow7 hloc7)
     all_goals (
      go_wp2
      go_meet
      obtain ⟨ho7, hg7⟩ := HW.out
      obtain ⟨q6, r6, own6, k6⟩ := HO6.out
      have hb7 : Below w0.heap.size w6 w7 := ((allocB (drewB (Below.refl _ w6))).mono zB6).grown hg7 (by simp; omega) (fun k hk => own_row k6.rows k hk)
      obtain ⟨kg, kg2⟩ := k6.grow (W := w7) (fun i h1 h2 => (hg7.block i (by simp; omega) (fun e => h2 e.symm)).trans (heap_alloc_old w6.drew _ i h1)) ho7
      exact ⟨rfl, ⟨_, _, _, kg⟩, kg2, hb7.setCell (p := ⟨p, 0, none⟩) k6.lep _⟩)
    case rest =>
     obtain ⟨rfl, ⟨gb8, cg8, vs8, k8⟩, hK8, hB8⟩ := hcut
     obtain ⟨q6, r6, own6, -⟩ := HO6.out
     have q8 := hK8 _ _ _ _ q6 (by decide) (by decide) (by decide) (by omega)
     have r8 := hK8 _ _ _ _ r6 (by decide) (by decide) (by decide) (by omega)
     have own8 := own_keptC own6 hK8 (Nat.lt_of_lt_of_le hh2 hle2)
     clear f6 d6 fp6 dp6 q6 r6 own6 HO6 HI6
     obtain ⟨f8, d8, z8⟩ := lie_cell q8
     obtain ⟨fp8, dp8, zp8⟩ := lie_cell k8.box
     obtain ⟨g8, e8, y8⟩ := lie_cell r8; rw [← HNA.out] at g8
     dsimp only at fp8
     obtain ⟨iS, hi, hz0, hz1, hz2⟩ := info_parts infoStr
     have hp8 : c1.params.length ≤ 1000000 := Nat.le_trans hf6 hl6
     have HO8 := Lib.hid (And.intro q8 (And.intro r8 (And.intro own8 k8)))
     have HI8 := Lib.hid (And.intro hi (And.intro hz0 (And.intro hz1 hz2)))
     have zB8 : w0.heap.size ≤ wc.heap.size := Nat.le_trans zB6 hB8.size
     clear q8 r8 own8 k8 hi hz0 hz1 hz2
     go_upto_region 15 with (fail)
     go_cut [12] from 94 (fun v wx => v = .slice xa2 KN.length xc2 ∧ (∃ h' g' cg' ch' vs', Newer h wc.heap.size h' ∧ CMem wx w0.heap.size p h' g' cg' ch' vs' { blocks := c1.blocks ++ [[]], params := c1.params ++ [n.text] }) ∧ KeptC h wc wx ∧ Below w0.heap.size wc wx)
     case first =>
      go_region_law (refine step_append_own rfl (.tmp 101) (.tmp 104) 33 rfl w0.heap.size 9 iS (.string ⟨#[]⟩) 1 16 Tryz.underlying33 HI8.out.1 HI8.out.2.1 HI8.out.2.2.1 HI8.out.2.2.2 rfl (by decide) (.slice (some ⟨h, 0, none⟩) c1.params.length ch6) c1.params.length (c1.params.map strV) rfl ((show World.ownsRow wc.drew _ _ _ _ _ _ from HO8.out.2.2.2.pars).alloc _) ⟨wc.heap.size, 0, none⟩ 1 1 [.string ⟨n.text.toArray⟩] rfl rfl (cell_one_new _ _ _) (by intro u hu; simp at hu; subst hu; rfl) (by unfold maxLen; omega) (by omega) (by simp; omega) ?_; intro v' w7 hown7 hgrow7 hloc7; obtain ⟨gn, cn, rfl⟩ := own_succ hown7; have qx := grow_keeps ((show World.ownsRow wc.drew _ _ _ _ _ _ from HO8.out.2.2.2.pars).alloc _) ((Below.heap_alloc wc.drew _ _ z8).trans HO8.out.1) (by decide) hgrow7; obtain ⟨fx, dx, zx⟩ := lie_cell qx; have px := grow_keeps ((show World.ownsRow wc.drew _ _ _ _ _ _ from HO8.out.2.2.2.pars).alloc _) ((Below.heap_alloc wc.drew _ _ zp8).trans HO8.out.2.2.2.box) (by decide) hgrow7; obtain ⟨fy, dy, zy⟩ := lie_cell px; have HW := Lib.hid (And.intro hown7 (And.intro hgrow7 hloc7)); clear hown7 hgrow7 hloc7)
      all_goals (
       go_wp2
       go_meet
       obtain ⟨ho7, hg7, hl7⟩ := HW.out
       obtain ⟨q8, r8, own8, k8⟩ := HO8.out
       have hb7 : Below w0.heap.size wc w7 := ((allocB (drewB (Below.refl _ wc))).mono zB8).grown hg7 (by simp; omega) (fun k hk => own_row k8.pars k hk)
       obtain ⟨kg, kg2⟩ := k8.par (by simpa using hf6) (W := w7) (s := n.text) (fun i h1 h2 => (hg7.block i (by simp; omega) (fun e => h2 e.symm)).trans (heap_alloc_old wc.drew _ i h1)) ho7
       have hnew : Newer h wc.heap.size gn := by
        rcases hl7 with e | e
        ·injection e with e; exact .inl e
        ·injection e with e; simp at e; exact .inr (by omega)
       exact ⟨rfl, ⟨_, _, _, _, _, hnew, kg⟩, kg2, hb7.setCell (p := ⟨p, 1, none⟩) k8.lep _⟩)
     case rest =>
      obtain ⟨rfl, ⟨h9, gb9, cg9, ch9, vs9, hn9, k9⟩, hK9, hB9⟩ := hcut
      obtain ⟨q8, r8, own8, -⟩ := HO8.out
      have q10 := hK9 _ _ _ _ q8 (by decide) (by decide) (by decide) (by omega)
      have r10 := hK9 _ _ _ _ r8 (by decide) (by decide) (by decide) (by omega)
      have own10 := own_keptC own8 hK9 (Nat.lt_of_lt_of_le hh2 hle2)
      have hxb : ∀ k, (Value.slice xa2 KN.length xc2).ownBlock = some k → k ≠ h9 := fun k hk => by
       obtain ⟨hl, cu, e4⟩ := own_type own8 hk
       have := heap_in e4
       rcases hn9 with e | e <;> omega
      have hB10 : Below w0.heap.size w wc := (hB6.trans hB8).trans hB9
      have hK10 : KeptC h w wc := (hK6.trans hK8 (.inl rfl)).trans hK9 (.inl rfl)
      have hW10 : Below w0.heap.size w0 wc := hw.trans hB10
      have hn10 : Newer h w.heap.size h9 := by
       rcases hn9 with e | e
       ·exact .inl e
       ·exact .inr (by have h1 := hB8.size; have h2 := hB6.size; omega)
      have hs10 : w2.heap.size ≤ wc.heap.size := by have h1 := hB9.size; have h2 := hB8.size; have h3 := hBB6.size; omega
      clear f8 d8 fp8 dp8 g8 e8 q8 r8 own8 HO8 HI8 hh2
      obtain ⟨hsm, -, hc2, hc12, -⟩ := HM.out
      rw [← hc12] at k9
      rw [hc2] at hsm
      have hc2l : c2.blocks.length = c.blocks.length + 1 := by rw [← hc2, funC_len]
      have cT := fun W h2 aa cc2 hW hC hk => ihT p h2 c.blocks.length aa cc2 (KN ++ namesD n.text) c2 x cs0 W hW hC (by omega) hk hn00 (by have h1 := wtN_names n.text; have h2 := hok.text; rw [wtN_app]; omega) hsm
      unfold blkV at cT
      simp only [List.length_append] at cT
      have h9l : h9 < wc.heap.size := by obtain ⟨C9, hC9⟩ := (show CodeAt wc w0.heap.size p h9 _ from ⟨_, _, _, _, k9⟩).par; exact heap_in hC9
      obtain ⟨f', rfl⟩ : ∃ f', f = f' + 1 := by
       cases f with
       | zero => exact hn00.elim
       | succ f' => exact ⟨f', rfl⟩
      obtain ⟨xna, xnc, hcs, -⟩ := hn00
      subst hcs
      unfold nodeC at cT hr00
      have hSS : ∀ w' : World, w'.heap[w.heap.size]? = some (.cells #[.pointer (some ⟨p, 0, none⟩), .int .i64 (b : Int), .slice a K.length kc] 65 (0, 0)) → w'.heap[w.heap.size + 1]? = some (.cells NA 30 (0, 0)) → Below w0.heap.size w0 w' → (w'.cell? ⟨w.heap.size, 0, none⟩ = some (.pointer (some ⟨p, 0, none⟩)) ∧ w'.cell? ⟨w.heap.size + 1, 1, none⟩ = some (.string ⟨n.text.toArray⟩) ∧ w'.cell? ⟨w.heap.size + 1, 19, none⟩ = some (.slice (some ⟨bb, o, none⟩) n.kids.length nc) ∧ w'.cell? ⟨bb, o, none⟩ = some (.int .i64 x.kind) ∧ w'.cell? ⟨bb, o + 1, none⟩ = some (.string ⟨x.text.toArray⟩) ∧ w'.cell? ⟨bb, o + 2, none⟩ = some (.int .i64 x.m) ∧ w'.cell? ⟨bb, o + 3, none⟩ = some (.int .i64 x.e) ∧ w'.cell? ⟨bb, o + 4, none⟩ = some (.bool x.b) ∧ w'.cell? ⟨bb, o + 5, none⟩ = some (.int .i64 x.err) ∧ w'.cell? ⟨bb, o + 6, none⟩ = some (.string x.ref.s) ∧ w'.cell? ⟨bb, o + 7, none⟩ = some (.int .i64 x.ref.row) ∧ w'.cell? ⟨bb, o + 8, none⟩ = some (.int .i64 x.ref.col) ∧ w'.cell? ⟨bb, o + 9, none⟩ = some (.bool x.ref.fr) ∧ w'.cell? ⟨bb, o + 10, none⟩ = some (.bool x.ref.fc) ∧ w'.cell? ⟨bb, o + 11, none⟩ = some (.bool x.ref.bad) ∧ w'.cell? ⟨bb, o + 12, none⟩ = some (.string x.far.s) ∧ w'.cell? ⟨bb, o + 13, none⟩ = some (.int .i64 x.far.row) ∧ w'.cell? ⟨bb, o + 14, none⟩ = some (.int .i64 x.far.col) ∧ w'.cell? ⟨bb, o + 15, none⟩ = some (.bool x.far.fr) ∧ w'.cell? ⟨bb, o + 16, none⟩ = some (.bool x.far.fc) ∧ w'.cell? ⟨bb, o + 17, none⟩ = some (.bool x.far.bad) ∧ w'.cell? ⟨bb, o + 18, none⟩ = some (.int .i64 x.rows) ∧ w'.cell? ⟨bb, o + 19, none⟩ = some (.slice xna x.kids.length xnc)) := fun w' h1 h2 h3 => by
       have a1 := (lie_cell h1).1
       have a2 := (lie_cell h2).1
       rw [← HNA.out] at a2
       have a3 := fun j v hj => (h3.cell (p := ⟨bb, o + 0 * 20 + j, none⟩) hbb).trans (hr00 j v hj)
       exact ⟨a1 0, a2 1, a2 19, a3 0 _ rfl, a3 1 _ rfl, a3 2 _ rfl, a3 3 _ rfl, a3 4 _ rfl, a3 5 _ rfl, a3 6 _ rfl, a3 7 _ rfl, a3 8 _ rfl, a3 9 _ rfl, a3 10 _ rfl, a3 11 _ rfl, a3 12 _ rfl, a3 13 _ rfl, a3 14 _ rfl, a3 15 _ rfl, a3 16 _ rfl, a3 17 _ rfl, a3 18 _ rfl, a3 19 _ rfl⟩
      have hle02 : w0.heap.size ≤ w2.heap.size := Nat.le_trans zB hle2
      have hLl : (namesD n.text).length ≤ 100000 := by have h1 := wtN_names n.text; have h2 := wtN_len (namesD n.text); have h3 := hok.text; omega
      have hKNl : KN.length ≤ 200000 := by have h1 := wtN_len KN; omega
      have hSh := Lib.hid hSS
      have cN := fun W (hW : Below w0.heap.size w0 W) => names_any ⟨n.text.toArray⟩ W (hg.below hW) (Nat.le_trans (show n.text.length ≤ 1000 from hok.text) (by decide))
      have hkl0 : (0 : Int) < (n.kids.length : Int) := by have h1 := HS.out.2.1; rw [h1]; simp
      have HR := Lib.hid (And.intro own10 (And.intro k9 hxb))
      have HB := Lib.hid (And.intro hsm (And.intro hc2 hc12))
      have hr0 : ∀ w', Below w0.heap.size w0 w' → w'.rangeAt bb o [.int .i64 x.kind, .string ⟨x.text.toArray⟩, .int .i64 x.m, .int .i64 x.e, .bool x.b, .int .i64 x.err, .string x.ref.s, .int .i64 x.ref.row, .int .i64 x.ref.col, .bool x.ref.fr, .bool x.ref.fc, .bool x.ref.bad, .string x.far.s, .int .i64 x.far.row, .int .i64 x.far.col, .bool x.far.fr, .bool x.far.fc, .bool x.far.bad, .int .i64 x.rows, .slice xna x.kids.length xnc] := fun w' h j v hj => by
       have := (h.cell (p := ⟨bb, o + 0 * 20 + j, none⟩) hbb).trans (hr00 j v hj)
       rw [Nat.zero_mul, Nat.add_zero] at this
       exact this
      clear own10 k9 hxb hsm hc2 hc12 hSS hr00 hok hnc
      obtain ⟨iS, hi, hz0, hz1, hz2⟩ := info_parts infoStr
      have HIS := Lib.hid (And.intro hi (And.intro hz0 (And.intro hz1 hz2)))
      clear hi hz0 hz1 hz2
      go_upto_region 16 with (fail)
      have hbd : Below w0.heap.size w0 wc.drew := hW10.drew
      have qd : wc.drew.heap[w.heap.size]? = some (.cells #[.pointer (some ⟨p, 0, none⟩), .int .i64 (b : Int), .slice a K.length kc] 65 (0, 0)) := q10
      have rd : wc.drew.heap[w.heap.size + 1]? = some (.cells NA 30 (0, 0)) := r10
      have e0 := (lie_cell qd).1
      have e1 := (lie_cell rd).1
      rw [← HNA.out] at e1
      refine wp_region_held_drew (S := fun w' => (∀ i, w'.cell? ⟨w.heap.size, i, none⟩ = (#[.pointer (some ⟨p, 0, none⟩), .int .i64 (b : Int), .slice a K.length kc])[i]?) ∧ (∀ i, w'.cell? ⟨w.heap.size + 1, i, none⟩ = (#[.int .i64 n.kind, .string ⟨n.text.toArray⟩, .int .i64 n.m, .int .i64 n.e, .bool n.b, .int .i64 n.err, .string n.ref.s, .int .i64 n.ref.row, .int .i64 n.ref.col, .bool n.ref.fr, .bool n.ref.fc, .bool n.ref.bad, .string n.far.s, .int .i64 n.far.row, .int .i64 n.far.col, .bool n.far.fr, .bool n.far.fc, .bool n.far.bad, .int .i64 n.rows, .slice (some ⟨bb, o, none⟩) n.kids.length nc])[i]?) ∧ Below w0.heap.size w0 w') (by kernel_rfl) ⟨e0, e1, hbd⟩ (fun hHeld => ?_)
      clear e0 e1
      refine wpAnyH_take (i := 0) (oi := _) (v := ?_) rfl (by kernel_rfl) (by kernel_rfl) (by kernel_rfl) (fun _ _ _ h => h) (Or.inl ⟨by rfl, ?_⟩) hHeld ?_
      rotate_left
      ·intro w' hSw; obtain ⟨s1, s2, s3⟩ := hSw; go_simp; first | done | with_reducible rfl
      simp only [List.getElem_toArray, List.getElem_cons_zero, Act.put, List.setIfInBounds_toArray, List.set_cons_zero, List.set_cons_succ]
      refine wpAnyH_take (i := 1) (oi := _) (v := ?_) rfl (by kernel_rfl) (by kernel_rfl) (by kernel_rfl) (fun _ _ _ h => h) (Or.inl ⟨by rfl, ?_⟩) hHeld ?_
      rotate_left
      ·intro w' hSw; obtain ⟨s1, s2, s3⟩ := hSw; go_simp; first | done | with_reducible rfl
      simp only [List.getElem_toArray, List.getElem_cons_succ, List.getElem_cons_zero, Act.put, List.setIfInBounds_toArray, List.set_cons_zero, List.set_cons_succ]
      refine wpAnyH_take (i := 2) (oi := _) (v := ?_) rfl (by kernel_rfl) (by kernel_rfl) (by kernel_rfl) (fun _ _ _ h => h) (Or.inl ⟨by rfl, ?_⟩) hHeld ?_
      rotate_left
      ·intro w' hSw; obtain ⟨s1, s2, s3⟩ := hSw; go_simp; first | done | with_reducible rfl
      simp only [List.getElem_toArray, List.getElem_cons_succ, List.getElem_cons_zero, Act.put, List.setIfInBounds_toArray, List.set_cons_zero, List.set_cons_succ]
      refine wpAnyH_take (i := 3) (oi := _) (v := ?_) rfl (by kernel_rfl) (by kernel_rfl) (by kernel_rfl) (fun _ _ _ h => h) (Or.inl ⟨by rfl, ?_⟩) hHeld ?_
      rotate_left
      ·intro w' hSw; obtain ⟨s1, s2, s3⟩ := hSw; go_simp; first | done | with_reducible rfl
      simp only [List.getElem_toArray, List.getElem_cons_succ, List.getElem_cons_zero, Act.put, List.setIfInBounds_toArray, List.set_cons_zero, List.set_cons_succ]
      refine wpAnyH_take (i := 4) (oi := _) (v := ?_) rfl (by kernel_rfl) (by kernel_rfl) (by kernel_rfl) (fun _ _ _ h => h) (Or.inl ⟨by rfl, ?_⟩) hHeld ?_
      rotate_left
      ·intro w' hSw; obtain ⟨s1, s2, s3⟩ := hSw; go_simp; first | done | with_reducible rfl
      simp only [List.getElem_toArray, List.getElem_cons_succ, List.getElem_cons_zero, Act.put, List.setIfInBounds_toArray, List.set_cons_zero, List.set_cons_succ]
      refine wpAnyH_take (i := 5) (oi := _) (v := ?_) rfl (by kernel_rfl) (by kernel_rfl) (by kernel_rfl) (fun _ _ _ h => h) (Or.inl ⟨by rfl, ?_⟩) hHeld ?_
      rotate_left
      ·intro w' hSw; obtain ⟨s1, s2, s3⟩ := hSw; go_simp; first | done | with_reducible rfl
      simp only [List.getElem_toArray, List.getElem_cons_succ, List.getElem_cons_zero, Act.put, List.setIfInBounds_toArray, List.set_cons_zero, List.set_cons_succ]
      refine wpAnyH_take (i := 9) (oi := _) (v := ?_) rfl (by kernel_rfl) (by kernel_rfl) (by kernel_rfl) (fun _ _ _ h => h) (Or.inl ⟨by rfl, ?_⟩) hHeld ?_
      rotate_left
      ·intro w' hSw; obtain ⟨s1, s2, s3⟩ := hSw; go_simp; first | done | with_reducible rfl
      simp only [List.getElem_toArray, List.getElem_cons_succ, List.getElem_cons_zero, Act.put, List.setIfInBounds_toArray, List.set_cons_zero, List.set_cons_succ]
      refine wpAnyH_take (i := 10) (oi := _) (v := ?_) rfl (by kernel_rfl) (by kernel_rfl) (by kernel_rfl) (fun _ _ _ h => h) (Or.inl ⟨by rfl, ?_⟩) hHeld ?_
      rotate_left
      ·intro w' hSw; obtain ⟨s1, s2, s3⟩ := hSw; go_simp; first | done | with_reducible rfl
      simp only [List.getElem_toArray, List.getElem_cons_succ, List.getElem_cons_zero, Act.put, List.setIfInBounds_toArray, List.set_cons_zero, List.set_cons_succ]
      refine wpAnyH_take (i := 11) (oi := _) (v := ?_) rfl (by kernel_rfl) (by kernel_rfl) (by kernel_rfl) (fun _ _ _ h => h) (Or.inl ⟨by rfl, ?_⟩) hHeld ?_
      rotate_left
      ·intro w' hSw; obtain ⟨s1, s2, s3⟩ := hSw; have hkl1 : 0 < n.kids.length := by omega
       go_simp; first | done | with_reducible rfl
      simp only [List.getElem_toArray, List.getElem_cons_succ, List.getElem_cons_zero, Act.put, List.setIfInBounds_toArray, List.set_cons_zero, List.set_cons_succ]
      refine wpAnyH_take (i := 12) (oi := _) (v := .agg #[.int .i64 x.kind, .string ⟨x.text.toArray⟩, .int .i64 x.m, .int .i64 x.e, .bool x.b, .int .i64 x.err, .string x.ref.s, .int .i64 x.ref.row, .int .i64 x.ref.col, .bool x.ref.fr, .bool x.ref.fc, .bool x.ref.bad, .string x.far.s, .int .i64 x.far.row, .int .i64 x.far.col, .bool x.far.fr, .bool x.far.fc, .bool x.far.bad, .int .i64 x.rows, .slice xna x.kids.length xnc]) rfl (by kernel_rfl) (by kernel_rfl) (by kernel_rfl) (fun _ _ _ h => h) ?_ hHeld ?_
      ·refine yieldsIf_load_mid (by rfl) 30 (.tmp 120) rfl bb o ?_ [.int .i64 x.kind, .string ⟨x.text.toArray⟩, .int .i64 x.m, .int .i64 x.e, .bool x.b, .int .i64 x.err, .string x.ref.s, .int .i64 x.ref.row, .int .i64 x.ref.col, .bool x.ref.fr, .bool x.ref.fc, .bool x.ref.bad, .string x.far.s, .int .i64 x.far.row, .int .i64 x.far.col, .bool x.far.fr, .bool x.far.fc, .bool x.far.bad, .int .i64 x.rows, .slice xna x.kids.length xnc] _ ?_ Tryz.underlying30 rfl ?_
       ·rfl
       ·intro w' hSw; exact hr0 w' hSw.2.2
       ·exact cellsNode
      simp only [List.getElem_toArray, List.getElem_cons_succ, List.getElem_cons_zero, Act.put, List.setIfInBounds_toArray, List.set_cons_zero, List.set_cons_succ]
      refine wpAnyH_ready (rs := [6]) (by kernel_rfl) (by simp) ?_
      refine AllReadyH.cons rfl (fun K1 hK1 => ?_) AllReadyH.nil
      go_simp
      have own0 : World.ownsRow wc.drew w2.heap.size 9 1 (.slice xa2 KN.length xc2) KN.length (strL KN) := HR.out.1
      have k0 : CMem wc.drew w0.heap.size p h9 gb9 cg9 ch9 vs9 c2 := HR.out.2.1.below (drewB (Below.refl _ _))
      have fin : ∀ (xa12 : Option Addr) (xc12 : Nat) (W : World) (a' : Act) (Kx : Act → World → Prop), CMem W w0.heap.size p h9 gb9 cg9 ch9 vs9 c2 → KnownAt W h9 xa12 xc12 (KN ++ namesD n.text) → Below w0.heap.size w0 W → Below w0.heap.size wc W → KeptC h w W → wc.heap.size ≤ W.heap.size →
        (∀ e W', Did w0.heap.size p h (comp (f' + 1) (funC c b S n.text) c.blocks.length (KN ++ namesD n.text) [] x) w e W' → Kx a' W') →
        True := fun _ _ _ _ _ _ _ _ _ _ _ _ => trivial
      clear fin
      by_cases hte : namesD n.text = []
      ·have ht0 : n.text = [] := by
        unfold namesD at hte
        split at hte
        ·assumption
        ·exact absurd hte (splitD_ne _)
       rw [ht0]
       refine (names_nil wc.drew).mono ?_
       rintro e w11 ⟨rfl, rfl⟩
       dsimp only
       refine hK1.out _ _ hHeld (fun hHeld => ?_)
       clear hK1 K1
       refine wpAnyH_ready (rs := [7]) (by kernel_rfl) (by simp) ?_
       refine AllReadyH.cons rfl (fun K2 hK2 => ?_) AllReadyH.nil
       rw [if_pos (by rfl)]
       refine wp_append_none (.tmp 112) (.tmp 115) 33 rfl w2.heap.size 9 iS 1 Tryz.underlying33 HIS.out.1 (.slice xa2 KN.length xc2) KN.length (strL KN) rfl own0 rfl ?_
       refine hK2.out _ _ hHeld (fun hHeld => ?_)
       clear hK2 K2
       have hz : KN.length + (namesD n.text).length = KN.length := by rw [hte]; rfl
       rw [hz] at cT
       have kn : KnownAt wc.drew h9 xa2 xc2 (KN ++ namesD n.text) := by
        rw [hte, List.append_nil]
        exact ⟨own_names own0, fun _ d hd => by subst hd; exact HR.out.2.2 _ rfl⟩
       refine wpAnyH_ready (rs := [8]) (by kernel_rfl) (by simp) ?_
       refine AllReadyH.cons rfl (fun K3 hK3 => ?_) AllReadyH.nil
       go_simp
       refine hK3.out _ _ hHeld (fun hHeld => ?_)
       clear hK3 K3
       refine wpAnyH_ready (rs := [13]) (by kernel_rfl) (by simp) ?_
       refine AllReadyH.cons rfl (fun K4 hK4 => ?_) AllReadyH.nil
       go_simp
       have cC : CodeAt wc.drew w0.heap.size p h9 c2 := ⟨_, _, _, _, k0⟩
       have kK : KeptC h w wc.drew := hK10.trans (KeptC.below (h := h9) (drewB (Below.refl _ wc))) hn10
       have sK : w.heap.size ≤ wc.drew.heap.size := hB10.size
       refine (cT wc.drew h9 xa2 xc2 hbd cC kn).mono ?_
       rintro e w13 ⟨rfl, h13, hh13, S13, hB13, hK13⟩
       dsimp only
       have q13 := hK13.other cC qd (by decide) (by decide) (by decide) (by decide)
       have r13 := hK13.other cC rd (by decide) (by decide) (by decide) (by decide)
       have e0 := (lie_cell q13).1
       have e1 := (lie_cell r13).1
       rw [← HNA.out] at e1
       refine hK4.out _ _ ⟨e0, e1, (hbd).trans hB13⟩ (fun hHeld => ?_)
       clear hK4 K4 e0 e1
       refine wpAnyH_done (by kernel_rfl) ?_ _
       have hBf : Below w0.heap.size w w13 := ((hB10.drew).trans hB13)
       rw [HB.out.2.1]
       have hfin : Did w0.heap.size p h (comp (f' + 1) c2 c.blocks.length (KN ++ namesD n.text) [] x) w (.returned (.tuple #[])) w13 := ⟨rfl, h13, newer hn10 hh13 sK, S13, hBf, kK.trans hK13 hn10⟩
       clear cT cN hHeld HR
       go_wp2
       go_end0
       exact hfin
      ·refine (cN _ hbd).mono ?_
       rintro e w11 ⟨a11, c11, rfl, hN11, hf11, hb11⟩
       dsimp only
       obtain ⟨b11, o11, C11, fr11, rfl, hh11, hc11⟩ := hN11.lies.resolve_left hte
       have q11 := (hb11.block _ (heap_in qd)).trans qd
       have r11 := (hb11.block _ (heap_in rd)).trans rd
       have b11' : Below w0.heap.size w0 w11 := hbd.trans (hb11.mono (Nat.le_trans hw.size (Nat.le_trans hB10.size (Nat.le_refl _))))
       have own11 := own_below own0 hb11
       have k11 := k0.below hb11
       have e0 := (lie_cell q11).1
       have e1 := (lie_cell r11).1
       rw [← HNA.out] at e1
       refine hK1.out _ _ ⟨e0, e1, b11'⟩ (fun hHeld => ?_)
       clear hK1 K1 e0 e1
       refine wpAnyH_ready (rs := [7]) (by kernel_rfl) (by simp) ?_
       refine AllReadyH.cons rfl (fun K2 hK2 => ?_) AllReadyH.nil
       have hl11 : wc.heap.size ≤ w11.heap.size := hb11.size
       refine step_append_own rfl (.tmp 112) (.tmp 115) 33 rfl w2.heap.size 9 iS (.string ⟨#[]⟩) 1 16 Tryz.underlying33 HIS.out.1 HIS.out.2.1 HIS.out.2.2.1 HIS.out.2.2.2 rfl (by decide) (.slice xa2 KN.length xc2) KN.length (strL KN) rfl own11 ⟨b11, o11, none⟩ (namesD n.text).length c11 (strL (namesD n.text)) rfl (by simp) (strL_cells hh11 hc11) (strL_one _) (by unfold maxLen; omega) (by omega) (Nat.le_trans hs10 hl11) ?_
       intro v' w12 hown12 hg12 hl12
       have q12 := grow_keeps own11 q11 (by decide) hg12
       have r12 := grow_keeps own11 r11 (by decide) hg12
       have b12 : Below w0.heap.size w11 w12 := (Below.refl _ w11).grown hg12 b11'.size (fun k hk => Nat.le_trans hle02 (own_row HR.out.1 k hk))
       have b12' : Below w0.heap.size w0 w12 := b11'.trans b12
       obtain ⟨x12, y12, rfl⟩ := own_shape hown12
       have e0 := (lie_cell q12).1
       have e1 := (lie_cell r12).1
       rw [← HNA.out] at e1
       refine hK2.out _ _ ⟨e0, e1, b12'⟩ (fun hHeld => ?_)
       clear hK2 K2 e0 e1
       have kn : KnownAt w12 h9 x12 y12 (KN ++ namesD n.text) := by
        have hl2 : (KN ++ namesD n.text).length = KN.length + (namesD n.text).length := List.length_append
        refine known_after (_h := h) own11 HR.out.2.2 (c2 := y12) (a2 := x12) ?_ ?_ (Nat.lt_of_lt_of_le h9l hl11)
        ·rw [hl2, strL_app]; exact hown12
        ·rw [hl2]; exact hl12
       have k12 := k11.aside own11 HR.out.2.2 hg12
       have hK11 : KeptC h w w11 := hK10.trans (KeptC.below (h := h9) ((drewB (Below.refl _ wc)).trans hb11)) hn10
       have hs12 : w11.heap.size ≤ w12.heap.size := b12.size
       refine wpAnyH_ready (rs := [8]) (by kernel_rfl) (by simp) ?_
       refine AllReadyH.cons rfl (fun K3 hK3 => ?_) AllReadyH.nil
       go_simp
       refine hK3.out _ _ hHeld (fun hHeld => ?_)
       clear hK3 K3
       refine wpAnyH_ready (rs := [13]) (by kernel_rfl) (by simp) ?_
       refine AllReadyH.cons rfl (fun K4 hK4 => ?_) AllReadyH.nil
       go_simp
       have cC : CodeAt w12 w0.heap.size p h9 c2 := ⟨_, _, _, _, k12⟩
       have kK : KeptC h w w12 := hK11.grownNew own11 hle2 (Nat.le_trans hB10.size hl11) hg12
       have sK : w.heap.size ≤ w12.heap.size := Nat.le_trans hB10.size (Nat.le_trans hl11 hs12)
       refine (cT w12 h9 x12 y12 b12' cC kn).mono ?_
       rintro e w13 ⟨rfl, h13, hh13, S13, hB13, hK13⟩
       dsimp only
       have q13 := hK13.other cC q12 (by decide) (by decide) (by decide) (by decide)
       have r13 := hK13.other cC r12 (by decide) (by decide) (by decide) (by decide)
       have e0 := (lie_cell q13).1
       have e1 := (lie_cell r13).1
       rw [← HNA.out] at e1
       refine hK4.out _ _ ⟨e0, e1, (b12').trans hB13⟩ (fun hHeld => ?_)
       clear hK4 K4 e0 e1
       refine wpAnyH_done (by kernel_rfl) ?_ _
       have hBf : Below w0.heap.size w w13 := (((hB10.drew.trans (hb11.mono (Nat.le_trans hw.size hB10.size))).trans b12).trans hB13)
       rw [HB.out.2.1]
       have hfin : Did w0.heap.size p h (comp (f' + 1) c2 c.blocks.length (KN ++ namesD n.text) [] x) w (.returned (.tuple #[])) w13 := ⟨rfl, h13, newer hn10 hh13 sK, S13, hBf, kK.trans hK13 hn10⟩
       clear cT cN hHeld HR
       go_wp2
       go_end0
       exact hfin
end Go.Proofs.YtlpgigdegnbkmaaGreatDoor
