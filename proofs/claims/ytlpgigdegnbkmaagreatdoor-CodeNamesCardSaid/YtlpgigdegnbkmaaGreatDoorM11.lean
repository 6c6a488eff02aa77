import Derived.Test.YtlpgigdegnbkmaaGreatDoorM10
set_option maxRecDepth 100000
set_option maxHeartbeats 4000000
namespace Tab
def LenLe (c d : CodeD) : Prop := c.blocks.length <= d.blocks.length /\ ∀ b, (c.blocks.getD b []).length <= (d.blocks.getD b []).length
def SmallC (c : CodeD) : Prop := c.blocks.length <= 1000000 /\ ∀ b, (c.blocks.getD b []).length <= 1000000
theorem LenLe.small {c d : CodeD} (h : LenLe c d) (k : SmallC d) : SmallC c := ⟨Nat.le_trans h.1 k.1, fun b => Nat.le_trans (h.2 b) (k.2 b)⟩
theorem LenLe.refl (c : CodeD) : LenLe c c := ⟨Nat.le_refl _, fun _ => Nat.le_refl _⟩
theorem LenLe.trans {c d e : CodeD} (h : LenLe c d) (k : LenLe d e) : LenLe c e := ⟨Nat.le_trans h.1 k.1, fun b => Nat.le_trans (h.2 b) (k.2 b)⟩
theorem Ext.le {c d : CodeD} (h : Ext c d) : LenLe c d := ⟨h.len, fun b => by
 cases e : c.blocks[b]? with
 | none => rw [List.getD_eq_getElem?_getD, e]; simp
 | some l =>
  obtain ⟨r, hr⟩ := h b l e
  rw [List.getD_eq_getElem?_getD, List.getD_eq_getElem?_getD, e, hr]; simp⟩
theorem le_over (c : CodeD) (b u o : Nat) : LenLe c (overC c b u o) := ⟨by rw [overC_len]; exact Nat.le_refl _, fun j => by
 simp only [List.getD_eq_getElem?_getD, overC, List.getElem?_modify]
 by_cases e : b = j
 ·cases c.blocks[j]? <;> simp [e]
 ·simp [e]⟩
def wtN (K : List Bs) : Nat := (K.map fun x => x.length + 1).sum
theorem wtN_app (K L : List Bs) : wtN (K ++ L) = wtN K + wtN L := by simp [wtN]
theorem wtN_one (x : Bs) : wtN [x] = x.length + 1 := by simp [wtN]
theorem wtN_len (K : List Bs) : K.length <= wtN K := by
 induction K with
 | nil => exact Nat.le_refl _
 | cons x l ih => simp [wtN] at *; omega
theorem wtN_mem {K : List Bs} {x : Bs} (h : x ∈ K) : x.length + 1 <= wtN K := by
 induction K with
 | nil => cases h
 | cons y l ih =>
  simp only [wtN, List.map_cons, List.sum_cons] at *
  rcases List.mem_cons.1 h with rfl | h
  ·omega
  ·have := ih h; omega
theorem wtN_split (s : Bs) : wtN (splitD s) = s.length + 1 := by
 induction s with
 | nil => rfl
 | cons b l ih =>
  unfold splitD
  split
  ·simp [wtN] at *; omega
  ·split
   ·rename_i e; exact absurd e (splitD_ne l)
   ·rename_i x r e
    rw [e] at ih
    simp [wtN] at *; omega
theorem wtN_names (s : Bs) : wtN (namesD s) <= s.length + 1 := by
 unfold namesD
 split
 ·simp [wtN]
 ·rw [wtN_split]; exact Nat.le_refl _
end Tab
namespace Go.Proofs.YtlpgigdegnbkmaaGreatDoor
open Go.RowKit Tab Tryz
def nodeC (n : NodeD) (kv : Value) : List Value := [.int .i64 n.kind, .string ⟨n.text.toArray⟩, .int .i64 n.m, .int .i64 n.e, .bool n.b, .int .i64 n.err, .string n.ref.s, .int .i64 n.ref.row, .int .i64 n.ref.col, .bool n.ref.fr, .bool n.ref.fc, .bool n.ref.bad, .string n.far.s, .int .i64 n.far.row, .int .i64 n.far.col, .bool n.far.fr, .bool n.far.fc, .bool n.far.bad, .int .i64 n.rows, kv]
structure NodeOk (n : NodeD) : Prop where
 kind : 1 <= n.kind /\ n.kind <= 16
 text : n.text.length <= 1000
 kids : n.kids.length <= 1000
 rows : n.kind = 13 -> 1 <= n.rows /\ n.rows <= 9223372036854775807
 body : n.kind = 14 -> 1 <= n.kids.length
 lets : n.kind = 16 -> (namesD n.text).length + 1 <= n.kids.length
def KidsAt (R : List Value -> NodeD -> Prop) (w : World) (a : Option Addr) (L : List NodeD) : Prop :=
 L = [] \/ ∃ b o, a = some ⟨b, o, none⟩ /\ b < w.heap.size /\ ∀ (i : Nat) (k : NodeD), L[i]? = some k -> ∃ cs : List Value, w.rangeAt b (o + i * 20) cs /\ R cs k
def NodeIs : Nat -> World -> List Value -> NodeD -> Prop
 | 0, _, _, _ => False
 | f + 1, w, cs, n => ∃ a c, cs = nodeC n (.slice a n.kids.length c) /\ n.kids.length <= c /\ NodeOk n /\ KidsAt (NodeIs f w) w a n.kids
theorem NodeIs.len {f : Nat} {w : World} {cs : List Value} {n : NodeD} (h : NodeIs f w cs n) : cs.length = 20 := by
 cases f with
 | zero => exact h.elim
 | succ f => obtain ⟨a, c, rfl, _⟩ := h; rfl
theorem NodeIs.deep : ∀ {f : Nat} {w : World} {cs : List Value} {n : NodeD}, NodeIs f w cs n -> Deep f n
 | 0, _, _, _, h => h.elim
 | f + 1, w, cs, n, h => by
  obtain ⟨a, c, _, _, _, hk⟩ := h
  intro k hm
  obtain ⟨i, hi⟩ := List.mem_iff_getElem?.1 hm
  rcases hk with hk | ⟨b, o, _, _, hk⟩
  ·rw [hk] at hm; cases hm
  ·obtain ⟨cs', _, hr⟩ := hk i k hi
   exact hr.deep
theorem NodeIs.below {w W : World} (hb : Below w.heap.size w W) : ∀ {f : Nat} {cs : List Value} {n : NodeD}, NodeIs f w cs n -> NodeIs f W cs n
 | 0, _, _, h => h.elim
 | f + 1, cs, n, h => by
  obtain ⟨a, c, h1, h2, h3, hk⟩ := h
  refine ⟨a, c, h1, h2, h3, hk.imp id ?_⟩
  rintro ⟨b, o, e1, e2, e3⟩
  refine ⟨b, o, e1, Nat.lt_of_lt_of_le e2 hb.size, fun i k hi => ?_⟩
  obtain ⟨cs', r1, r2⟩ := e3 i k hi
  exact ⟨cs', fun j v hj => (hb.cell (p := ⟨b, o + i * 20 + j, none⟩) e2).trans (r1 j v hj), r2.below hb⟩
def KnownAt (w : World) (h : Nat) (a : Option Addr) (c : Nat) (K : List Bs) : Prop := NamesAt w a c K /\ (K ≠ [] -> ∀ d, a = some d -> d.block ≠ h)
theorem KnownAt.kept {w W : World} {h h' c : Nat} {a : Option Addr} {K : List Bs} (k : KnownAt w h a c K) (hk : KeptC h w W) (hh : h' = h \/ w.heap.size <= h') : KnownAt W h' a c K := by
 obtain ⟨k1, k2⟩ := k
 by_cases hK : K = []
 ·subst hK; exact ⟨NamesAt.nil W a c, fun h => absurd rfl h⟩
 ·refine ⟨k1.kept hk (k2 hK), fun _ d hd => ?_⟩
  rcases hh with rfl | hh
  ·exact k2 hK d hd
  ·rcases k1.lies with e | ⟨b, o, C, fr, e1, e2, _⟩
   ·exact absurd e hK
   ·rw [hd] at e1; injection e1 with e1; subst e1
    have := heap_in e2
    dsimp only; omega
theorem KnownAt.below {w W : World} {h c : Nat} {a : Option Addr} {K : List Bs} (k : KnownAt w h a c K) (hb : Below w.heap.size w W) : KnownAt W h a c K := ⟨k.1.below hb, k.2⟩
def Did (B p h : Nat) (c : CodeD) (w : World) (e : Ending) (W : World) : Prop := e = .returned (.tuple #[]) /\ ∃ h', (h' = h \/ w.heap.size <= h') /\ CodeAt W B p h' c /\ Below B w W /\ KeptC h w W
def TreeK (fn : FuncId) (w0 : World) (f : Nat) : Prop :=
 ∀ (p h b : Nat) (a : Option Addr) (kc : Nat) (K : List Bs) (c : CodeD) (n : NodeD) (cs : List Value) (w : World), Below w0.heap.size w0 w -> CodeAt w w0.heap.size p h c -> b < c.blocks.length -> KnownAt w h a kc K ->
  NodeIs f w0 cs n -> wtN K + 3000 * f <= 100000 -> SmallC (comp f c b K [] n) ->
  Calls prog fn #[blkV p b a K.length kc, .agg cs.toArray] w (Did w0.heap.size p h (comp f c b K [] n) w)
def EachK (w0 : World) (f : Nat) : Prop :=
 ∀ (p h b : Nat) (a : Option Addr) (kc : Nat) (K : List Bs) (c : CodeD) (L : List NodeD) (la : Option Addr) (lc : Nat) (w : World), Below w0.heap.size w0 w -> CodeAt w w0.heap.size p h c -> b < c.blocks.length -> KnownAt w h a kc K ->
  KidsAt (NodeIs f w0) w0 la L -> L.length <= 1000 -> wtN K + 3000 * f <= 100000 -> SmallC (L.foldl (fun c k => comp f c b K [] k) c) ->
  Calls prog 48 #[blkV p b a K.length kc, .slice la L.length lc] w (Did w0.heap.size p h (L.foldl (fun c k => comp f c b K [] k) c) w)
theorem cellsNode : (prog.info? 30).map (·.size) = some 20 := by kernel_rfl
theorem kid_range {w0 w : World} {bb o i : Nat} {cs : List Value} (hw : Below w0.heap.size w0 w) (hb : bb < w0.heap.size) (h : w0.rangeAt bb (o + i * 20) cs) : w.rangeAt bb (o + i * 20) cs := fun j v hj => (hw.cell (p := ⟨bb, o + i * 20 + j, none⟩) hb).trans (h j v hj)
theorem box_there (w : World) (C : Array Value) (T : TypeId) {n : Nat} (h : n = C.size) : (w.alloc (.cells C T)).there w.heap.size 0 n := fun j hj => by
 obtain ⟨f, g, _⟩ := lie_cell (heap_alloc_new w (.cells C T))
 rw [f (0 + j), g (0 + j)]
 exact ⟨by simp; omega, rfl⟩
theorem CodeAt.par {w : World} {B p h : Nat} {c : CodeD} (k : CodeAt w B p h c) : ∃ C, w.heap[h]? = some (.cells C 9 (0, 0)) := by
 obtain ⟨g, cg, ch, vs, k⟩ := k
 obtain ⟨cur, _, _, hh, _⟩ := own_lies k.pars
 exact ⟨cur, hh⟩
theorem KeptC.other {w W : World} {B p h k : Nat} {c : CodeD} {C : Array Value} {T : TypeId} {fr : Nat × Nat} (hK : KeptC h w W) (hc : CodeAt w B p h c) (hk : w.heap[k]? = some (.cells C T fr)) (h1 : T ≠ 63) (h2 : T ≠ 41) (h3 : T ≠ 43) (h4 : T ≠ 9) : W.heap[k]? = some (.cells C T fr) :=
 hK k C T fr hk h1 h2 h3 (fun e => by
  obtain ⟨C', e2⟩ := hc.par
  rw [<- e, hk] at e2
  injection e2 with e2; injection e2 with _ e2 _; exact h4 e2)
theorem newer {h h' h3 a b : Nat} (x : h' = h \/ a <= h') (y : h3 = h' \/ b <= h3) (z : a <= b) : h3 = h \/ a <= h3 := by omega
theorem wpList_abs {P : Program} {ops : Array Oper} {Q : Exit -> Act -> World -> Prop} {l : List Oper} {a : Act} {W : World} (F : World -> Prop) (hF : F W) (h : ∀ w1, F w1 -> wpList P ops Q l a w1) : wpList P ops Q l a W := h W hF
theorem below_cells (b : Nat) (w : World) : ∀ (vs : List Value) (o : Nat) (W : World), Below b w W -> Below b w (W.setCells b o vs)
 | [], _, _, h => h
 | v :: r, o, _, h => below_cells b w r (o + 1) _ (h.setCell (Nat.le_refl _) v)
theorem box_below (w : World) (C : Array Value) (T : TypeId) (cs : List Value) : Below w.heap.size w ((w.alloc (.cells C T)).setCells w.heap.size 0 cs) :=
 below_cells _ _ cs 0 _ ((Below.refl _ _).alloc (Nat.le_refl _) _)
theorem box_size (w : World) (C : Array Value) (T : TypeId) (cs : List Value) : w.heap.size + 1 <= ((w.alloc (.cells C T)).setCells w.heap.size 0 cs).heap.size := by
 have := (below_cells w.heap.size (w.alloc (.cells C T)) cs 0 _ (Below.refl _ _)).size
 simpa using this
theorem box_range (w : World) (C : Array Value) (T : TypeId) (cs : List Value) (h : cs.length = C.size) : ((w.alloc (.cells C T)).setCells w.heap.size 0 cs).rangeAt w.heap.size 0 cs :=
 World.rangeAt_setCells_same _ _ _ _ (box_there w C T h)
theorem nodeC_one (n : NodeD) (a : Option Addr) (m c : Nat) : (nodeC n (.slice a m c)).toArray.all (·.oneCell') = true := all_oneCell_toArray fun u hu => by
 simp only [nodeC, List.mem_cons, List.not_mem_nil, or_false] at hu
 rcases hu with rfl | rfl | rfl | rfl | rfl | rfl | rfl | rfl | rfl | rfl | rfl | rfl | rfl | rfl | rfl | rfl | rfl | rfl | rfl | rfl <;> rfl
abbrev zeroN : Array Value := #[.int .i64 0, .string ⟨#[]⟩, .int .i64 0, .int .i64 0, .bool false, .int .i64 0, .string ⟨#[]⟩, .int .i64 0, .int .i64 0, .bool false, .bool false, .bool false, .string ⟨#[]⟩, .int .i64 0, .int .i64 0, .bool false, .bool false, .bool false, .int .i64 0, .slice none 0 0]
theorem node_one {f : Nat} {w : World} {cs : List Value} {n : NodeD} (h : NodeIs f w cs n) : cs.toArray.all (·.oneCell') = true := by
 cases f with
 | zero => exact h.elim
 | succ f => obtain ⟨a, c, rfl, _⟩ := h; exact nodeC_one _ _ _ _
theorem each_any (w0 : World) (f : Nat) (ih : TreeK 23 w0 f) : EachK w0 f := by
 intro p h b a kc K c L la lc w hw hc hb hk hL hl hwt hsm
 obtain ⟨R, hR⟩ : ∃ R, L.foldl (fun c k => comp f c b K [] k) c = R := ⟨_, rfl⟩
 rw [hR] at hsm ⊢
 have HR := Lib.hid hR
 have HS := Lib.hid hsm
 have zB := hw.size
 clear hR hsm
 unfold blkV
 have hd0 : (w.alloc (.cells #[.pointer (some ⟨p, 0, none⟩), .int .i64 (b : Int), .slice a K.length kc] 65)).heap[w.heap.size]? = some (.cells #[.pointer (some ⟨p, 0, none⟩), .int .i64 (b : Int), .slice a K.length kc] 65 (0, 0)) := heap_alloc_new _ _
 have hb0 : Below w.heap.size w (w.alloc (.cells #[.pointer (some ⟨p, 0, none⟩), .int .i64 (b : Int), .slice a K.length kc] 65)) := belx
 have S0 : CodeAt (w.alloc (.cells #[.pointer (some ⟨p, 0, none⟩), .int .i64 (b : Int), .slice a K.length kc] 65)) w0.heap.size p h c := hc.below hb0
 have HD := Lib.hid hd0
 clear hd0
 go_enter func48, ntmps48
 go_wp2_with fail
 go_loopw [8] (fun i w' => ∃ (j : Nat) (c' : CodeD) (h' : Nat), i = .int .i64 (j : Int) /\ j <= L.length /\ (L.drop j).foldl (fun c k => comp f c b K [] k) c' = R /\ b < c'.blocks.length /\ CodeAt w' w0.heap.size p h' c' /\ (h' = h \/ w.heap.size <= h') /\ Below w0.heap.size w w' /\ KeptC h w w' /\ w'.heap[w.heap.size]? = some (.cells #[.pointer (some ⟨p, 0, none⟩), .int .i64 (b : Int), .slice a K.length kc] 65 (0, 0))) (fun i _ => L.length - (intOf i).toNat)
 case atStart => exact ⟨0, c, h, rfl, by omega, HR.out, hb, S0, .inl rfl, hb0.mono zB, KeptC.below hb0, HD.out⟩
 case round =>
  clear HR HD S0 hb0
  obtain ⟨j, c', h', rfl, hj, hI, hb', hc', hh, hB, hK, hd⟩ := hrel
  have HI := Lib.hid hI
  clear hI
  by_cases hlt : j < L.length
  ·rcases hL with e | ⟨bb, o, rfl, hbb, hL⟩
   ·rw [e] at hlt; simp at hlt
   obtain ⟨cs, hcs, hn⟩ := hL j _ (List.getElem?_eq_getElem hlt)
   have hw1 : Below w0.heap.size w0 wr := hw.trans hB
   have hr := kid_range hw1 hbb hcs
   have hlen := hn.len
   have hlt' : (j : Int) < (L.length : Int) := by omega
   obtain ⟨f0, g0, z0⟩ := lie_cell hd
   have HC := Lib.hid hc'
   clear hc' hcs
   go_upto_region 3 with (fail)
   refine wp_region_lit ?_
   (refine wpList_plain rfl (fun K hK => ?_); go_simp; (refine hK _ _ ?_; clear hK K))
   refine wpList_load_mid rfl 30 (.tmp 10) rfl bb (o + j * 20) rfl cs _ hr underlying30 rfl (by rw [hlen]; exact cellsNode) ?_
   (refine wpList_plain rfl (fun K hK => ?_); go_simp; (refine hK _ _ ?_; clear hK K))
   refine wpList_store_mid rfl 30 (.tmp 5) (.tmp 11) rfl wr.heap.size 0 cs.toArray rfl rfl (box_there wr zeroN 30 (by rw [List.size_toArray, hlen]; rfl)) (by rw [List.size_toArray, hlen]; exact cellsNode) (node_one hn) ?_
   refine wpList_abs (fun W => Below wr.heap.size wr W /\ W.rangeAt wr.heap.size 0 cs /\ wr.heap.size < W.heap.size) ⟨(by rw [List.toList_toArray]; exact box_below wr zeroN 30 cs), (by rw [List.toList_toArray]; exact box_range wr zeroN 30 cs (by rw [hlen]; rfl)), (by rw [List.toList_toArray]; exact Nat.lt_of_lt_of_le (Nat.lt_succ_self _) (box_size wr zeroN 30 cs))⟩ ?_
   rintro w2 ⟨hb2, hr2, hz2⟩
   have q2 : w2.heap[w.heap.size]? = some (.cells #[.pointer (some ⟨p, 0, none⟩), .int .i64 (b : Int), .slice a K.length kc] 65 (0, 0)) := (hb2.block _ z0).trans hd
   obtain ⟨f2, g2, z2⟩ := lie_cell q2
   clear f0 g0 hr
   refine wpList_nil ?_
   go_upto_region 4 with (fail)
   refine wp_region_lit ?_
   (refine wpList_plain rfl (fun K hK => ?_); go_simp; (refine hK _ _ ?_; clear hK K))
   refine wpList_load_mid rfl 30 (.tmp 5) rfl wr.heap.size 0 rfl cs _ hr2 underlying30 rfl (by rw [hlen]; exact cellsNode) ?_
   have hI := HI.out
   rw [List.drop_eq_getElem_cons hlt, List.foldl_cons] at hI
   have hx : Ext c' (comp f c' b K [] L[j]) := comp_ext f c' b K [] _ hb'
   have hsj : SmallC (comp f c' b K [] L[j]) := (each_ext f b K (L.drop (j + 1)) _ (Nat.lt_of_lt_of_le hb' hx.len)).le.small (by rw [hI]; exact HS.out)
   have hb2B : Below w0.heap.size w w2 := hB.trans (hb2.mono hw1.size)
   have S2 : CodeAt w2 w0.heap.size p h' c' := HC.out.below hb2
   have cT := ih p h' b a kc K c' L[j] cs w2 (hw.trans hb2B) S2 hb' ((hk.kept hK hh).below hb2) hn hwt hsj
   unfold blkV at cT
   have HI := Lib.hid hI
   have HX := Lib.hid hx
   clear hI hx hsj
   generalize L[j] = x at *
   refine wpList_plain rfl (fun KK hKK => ?_)
   go_simp
   refine cT.mono ?_
   rintro e w3 ⟨rfl, h3, hh3, S3, hB3, hK3⟩
   refine hKK _ _ ?_
   refine wpList_nil ?_
   have q3 : w3.heap[w.heap.size]? = some (.cells #[.pointer (some ⟨p, 0, none⟩), .int .i64 (b : Int), .slice a K.length kc] 65 (0, 0)) := hK3.other S2 q2 (by decide) (by decide) (by decide) (by decide)
   have ew : IntKind.i64.wrap ((j : Int) + 1) = ((j + 1 : Nat) : Int) := by rw [IntWalk.i64_in _ (by omega)]; omega
   have hkk : KeptC h w w3 := (hK.trans (KeptC.below hb2) hh).trans hK3 hh
   have HS3 := Lib.hid S3
   clear S3 S2 HC cT f2 g2
   go_wp2
   go_roundw
   case rel => exact ⟨j + 1, comp f c' b K [] x, h3, rfl, by omega, HI.out, Nat.lt_of_lt_of_le hb' HX.out.len, HS3.out, newer hh hh3 (Nat.le_trans (Nat.le_of_lt z0) hb2.size), hb2B.trans hB3, hkk, q3⟩
   case measure => simp [intOf]; omega
  ·obtain rfl : j = L.length := by omega
   have hI := HI.out
   rw [List.drop_length, List.foldl_nil] at hI
   subst hI
   clear HI
   have HC := Lib.hid hc'
   clear hc'
   go_wp2
   go_end0
   exact ⟨rfl, h', hh, HC.out, hB, hK⟩
def nodeA (n : NodeD) (kv : Value) : Array Value := #[.int .i64 n.kind, .string ⟨n.text.toArray⟩, .int .i64 n.m, .int .i64 n.e, .bool n.b, .int .i64 n.err, .string n.ref.s, .int .i64 n.ref.row, .int .i64 n.ref.col, .bool n.ref.fr, .bool n.ref.fc, .bool n.ref.bad, .string n.far.s, .int .i64 n.far.row, .int .i64 n.far.col, .bool n.far.fr, .bool n.far.fc, .bool n.far.bad, .int .i64 n.rows, kv]
theorem nodeA_eq (n : NodeD) (kv : Value) : (nodeC n kv).toArray = nodeA n kv := rfl
def WriteK (fn : FuncId) (kind : Int) (w0 : World) (f : Nat) : Prop :=
 ∀ (p h b : Nat) (a : Option Addr) (kc : Nat) (K : List Bs) (c : CodeD) (n : NodeD) (cs : List Value) (w : World), Below w0.heap.size w0 w -> CodeAt w w0.heap.size p h c -> b < c.blocks.length -> KnownAt w h a kc K ->
  NodeIs (f + 1) w0 cs n -> n.kind = kind -> wtN K + 3000 * (f + 1) <= 100000 -> SmallC (comp (f + 1) c b K [] n) ->
  Calls prog fn #[blkV p b a K.length kc, .agg cs.toArray] w (Did w0.heap.size p h (comp (f + 1) c b K [] n) w)
theorem few_of {K : List Bs} {m : Nat} (h : wtN K + m <= 100000) : Few K := fun x hx => by have := wtN_mem hx; omega
theorem many_of {K : List Bs} {m : Nat} (h : wtN K + m <= 100000) : K.length <= 1000000 := by have := wtN_len K; omega
theorem insV_s (o : Int) (s : Bs) : insV { op := o, s := s } = .agg #[.int .i64 o, .int .i64 0, .int .i64 0, .string ⟨s.toArray⟩, .int .i64 0, .int .i64 0, .string ⟨#[]⟩, .int .i64 0, .int .i64 0, .bool false, .bool false, .bool false, .string ⟨#[]⟩, .int .i64 0, .int .i64 0, .bool false, .bool false, .bool false] := rfl
theorem insV_sa (o : Int) (s : Bs) (i : Int) : insV { op := o, s := s, a := i } = .agg #[.int .i64 o, .int .i64 i, .int .i64 0, .string ⟨s.toArray⟩, .int .i64 0, .int .i64 0, .string ⟨#[]⟩, .int .i64 0, .int .i64 0, .bool false, .bool false, .bool false, .string ⟨#[]⟩, .int .i64 0, .int .i64 0, .bool false, .bool false, .bool false] := rfl
theorem insV_a (o i : Int) : insV { op := o, a := i } = .agg #[.int .i64 o, .int .i64 i, .int .i64 0, .string ⟨#[]⟩, .int .i64 0, .int .i64 0, .string ⟨#[]⟩, .int .i64 0, .int .i64 0, .bool false, .bool false, .bool false, .string ⟨#[]⟩, .int .i64 0, .int .i64 0, .bool false, .bool false, .bool false] := rfl
theorem insV_o (o : Int) : insV { op := o } = .agg #[.int .i64 o, .int .i64 0, .int .i64 0, .string ⟨#[]⟩, .int .i64 0, .int .i64 0, .string ⟨#[]⟩, .int .i64 0, .int .i64 0, .bool false, .bool false, .bool false, .string ⟨#[]⟩, .int .i64 0, .int .i64 0, .bool false, .bool false, .bool false] := rfl
theorem find_str {p b : Nat} {a : Option Addr} {kc : Nat} {K : List Bs} {m : Nat} (hm : wtN K + m <= 100000) (s : Bs) (hs : s.length <= 1000) (o : Option Bs) (ho : findN K s = o) (w : World) (hg : Good w) (hI : NamesAt w a kc K) :
  Calls prog 84 #[blkV p b a K.length kc, .string ⟨s.toArray⟩] w fun e W => e = .returned (.tuple #[.string ⟨(o.getD []).toArray⟩, .bool o.isSome]) /\ Below w.heap.size w W := by
 subst ho
 exact find_any p b a kc K (many_of hm) (few_of hm) ⟨s.toArray⟩ (Nat.le_trans (show s.length <= 1000 from hs) (by decide)) w hg hI
theorem putK {w0 w : World} {p h b : Nat} {a : Option Addr} {kn kc : Nat} {c d : CodeD} (x : InsD) (hw : Below w0.heap.size w0 w) (hc : CodeAt w w0.heap.size p h c) (hb : b < c.blocks.length) (hs : SmallC d) (hd : LenLe (putC c b x) d) :
  Calls prog 49 #[blkV p b a kn kc, insV x] w fun e W => e = .returned (.int .i64 (hereC c b : Int)) /\ Wrote w0.heap.size p h (putC c b x) w W := by
 have s := (hd.trans (LenLe.refl d)).small hs
 have s2 := (ext_put c b x).le.small s
 exact put_any _ p h b a kn kc x c hb s2.1 (s2.2 b) w hc hw.size
theorem cname_any (w0 : World) (hg : Good w0) (f : Nat) : WriteK 47 7 w0 f := by
 intro p h b a kc K c n cs w hw hc hb hk hn hkind hwt hsm
 obtain ⟨na, nc, rfl, hnc, hok, hkids⟩ := hn
 rw [comp_name f c b K [] n hkind] at hsm ⊢
 clear hkind
 cases hf : findN K n.text with
 | some g =>
  rw [hf] at hsm
  dsimp only at hsm ⊢
  have cF := fun W (hW : Below w0.heap.size w0 W) (hI : NamesAt W a kc K) => find_str (p := p) (b := b) hwt n.text hok.text _ hf W (hg.below hW) hI
  dsimp only [Option.getD, Option.isSome] at cF
  have cP := fun W (hW : Below w0.heap.size w0 W) (hc : CodeAt W w0.heap.size p h c) => putK (a := a) (kn := K.length) (kc := kc) { op := 18, s := g } hW hc hb hsm (LenLe.refl _)
  have HS := Lib.hid (And.intro hsm hf)
  clear hsm hf hkids
  rw [insV_s] at cP
  unfold blkV at cF cP
  unfold blkV
  rw [nodeA_eq]
  have zB := hw.size
  have hgw := hg.below hw
  obtain ⟨NA, hNA⟩ : ∃ A, nodeA n (.slice na n.kids.length nc) = A := ⟨_, rfl⟩
  unfold nodeA at *
  have HNA := Lib.hid hNA
  clear hNA
  go_enter func47, ntmps47
  go_upto_region 1 with (fail)
  refine wp_abs2 (fun W => Below w.heap.size w W /\ W.heap[w.heap.size]? = some (.cells #[.pointer (some ⟨p, 0, none⟩), .int .i64 (b : Int), .slice a K.length kc] 65 (0, 0)) /\ W.heap[w.heap.size + 1]? = some (.cells NA 30 (0, 0))) ⟨belx, heap_alloc2_old _ _ _, by rw [<- HNA.out]; exact heap_alloc2_new _ _ _⟩ ?_
  rintro w1 ⟨hb1, q1, r1⟩
  obtain ⟨f1, -, z1⟩ := lie_cell q1; obtain ⟨g1, -, y1⟩ := lie_cell r1; rw [<- HNA.out] at g1
  go_wp2_with fail
  refine (cF w1 (hw.trans (hb1.mono zB)) (hk.1.below hb1)).mono ?_; rintro e w2 ⟨rfl, hb2⟩
  have q2 := (hb2.block _ z1).trans q1
  have r2 := (hb2.block _ y1).trans r1
  clear f1 g1
  obtain ⟨f2, -, z2⟩ := lie_cell q2; obtain ⟨g2, -, y2⟩ := lie_cell r2; rw [<- HNA.out] at g2
  have hb02 := after hb1 hb2
  go_wp2_with fail
  refine (cP w2 (hw.trans (hb02.mono zB)) (hc.below hb02)).mono ?_; rintro e w3 ⟨rfl, S3, hB3, hK3⟩
  have HS3 := Lib.hid S3
  clear S3 f2 g2
  go_wp2
  go_end0
  exact ⟨rfl, h, .inl rfl, HS3.out, (hb02.mono zB).trans hB3, (KeptC.below hb02).trans hK3 (.inl rfl)⟩
 | none =>
  rw [hf] at hsm
  dsimp only at hsm ⊢
  have cF := fun W (hW : Below w0.heap.size w0 W) (hI : NamesAt W a kc K) => find_str (p := p) (b := b) hwt n.text hok.text _ hf W (hg.below hW) hI
  dsimp only [Option.getD, Option.isSome] at cF
  have cP := fun W (hW : Below w0.heap.size w0 W) (hc : CodeAt W w0.heap.size p h c) => putK (a := a) (kn := K.length) (kc := kc) { op := 4, a := 5 } hW hc hb hsm (LenLe.refl _)
  have HS := Lib.hid (And.intro hsm hf)
  clear hsm hf hkids
  rw [insV_a] at cP
  unfold blkV at cF cP
  unfold blkV
  rw [nodeA_eq]
  have zB := hw.size
  have hgw := hg.below hw
  obtain ⟨NA, hNA⟩ : ∃ A, nodeA n (.slice na n.kids.length nc) = A := ⟨_, rfl⟩
  unfold nodeA at *
  have HNA := Lib.hid hNA
  clear hNA
  go_enter func47, ntmps47
  go_upto_region 1 with (fail)
  refine wp_abs2 (fun W => Below w.heap.size w W /\ W.heap[w.heap.size]? = some (.cells #[.pointer (some ⟨p, 0, none⟩), .int .i64 (b : Int), .slice a K.length kc] 65 (0, 0)) /\ W.heap[w.heap.size + 1]? = some (.cells NA 30 (0, 0))) ⟨belx, heap_alloc2_old _ _ _, by rw [<- HNA.out]; exact heap_alloc2_new _ _ _⟩ ?_
  rintro w1 ⟨hb1, q1, r1⟩
  obtain ⟨f1, -, z1⟩ := lie_cell q1; obtain ⟨g1, -, y1⟩ := lie_cell r1; rw [<- HNA.out] at g1
  go_wp2_with fail
  refine (cF w1 (hw.trans (hb1.mono zB)) (hk.1.below hb1)).mono ?_; rintro e w2 ⟨rfl, hb2⟩
  have q2 := (hb2.block _ z1).trans q1
  have r2 := (hb2.block _ y1).trans r1
  clear f1 g1
  obtain ⟨f2, -, z2⟩ := lie_cell q2; obtain ⟨g2, -, y2⟩ := lie_cell r2; rw [<- HNA.out] at g2
  have hb02 := after hb1 hb2
  go_wp2_with fail
  refine (cP w2 (hw.trans (hb02.mono zB)) (hc.below hb02)).mono ?_; rintro e w3 ⟨rfl, S3, hB3, hK3⟩
  have HS3 := Lib.hid S3
  clear S3 f2 g2
  go_wp2
  go_end0
  exact ⟨rfl, h, .inl rfl, HS3.out, (hb02.mono zB).trans hB3, (KeptC.below hb02).trans hK3 (.inl rfl)⟩
def FunK (w0 : World) (f : Nat) : Prop :=
 ∀ (p h b : Nat) (a : Option Addr) (kc : Nat) (K : List Bs) (c : CodeD) (n : NodeD) (cs : List Value) (own : Bs) (w : World), Below w0.heap.size w0 w -> CodeAt w w0.heap.size p h c -> b < c.blocks.length -> KnownAt w h a kc K ->
  NodeIs f w0 cs n -> n.kind = 14 -> own.length <= 1000 -> wtN K + own.length + 3000 * f <= 100000 -> SmallC (comp f c b K own n) ->
  Calls prog 88 #[blkV p b a K.length kc, .agg cs.toArray, .string ⟨own.toArray⟩] w (Did w0.heap.size p h (comp f c b K own n) w)
theorem capply_any (w0 : World) (hg : Good w0) (f : Nat) (ihE : EachK w0 f) : WriteK 46 15 w0 f := by
 intro p h b a kc K c n cs w hw hc hb hk hn hkind hwt hsm
 obtain ⟨na, nc, rfl, hnc, hok, hkids⟩ := hn
 rw [comp_apply f c b K [] n hkind] at hsm ⊢
 clear hkind
 obtain ⟨D, hD⟩ : ∃ D, n.kids.foldl (fun c k => comp f c b K [] k) c = D := ⟨_, rfl⟩
 have hx : Ext c D := by rw [<- hD]; exact each_ext f b K _ _ hb
 have hbD := Nat.lt_of_lt_of_le hb hx.len
 rw [hD] at hsm ⊢
 have hsD : SmallC D := (ext_put D b _).le.small hsm
 have hkl := hok.kids
 have cE := fun W hW hC hk => ihE p h b a kc K c n.kids na nc W hW hC hb hk hkids hkl (by omega) (by rw [hD]; exact hsD)
 rw [hD] at cE
 have cP := fun W h2 (hW : Below w0.heap.size w0 W) (hc : CodeAt W w0.heap.size p h2 D) => putK (a := a) (kn := K.length) (kc := kc) { op := 16, a := (n.kids.length : Int) - 1 } hW hc hbD hsm (LenLe.refl _)
 have HS := Lib.hid (And.intro hsm (And.intro hkids (And.intro hD hsD)))
 clear hsm hkids hD hsD hx
 rw [insV_a] at cP
 unfold blkV at cE cP
 have ew : IntKind.i64.wrap ((n.kids.length : Int) - 1) = (n.kids.length : Int) - 1 := by rw [IntWalk.i64_in _ (by omega)]
 unfold blkV
 rw [nodeA_eq]
 have zB := hw.size
 have hgw := hg.below hw
 obtain ⟨NA, hNA⟩ : ∃ A, nodeA n (.slice na n.kids.length nc) = A := ⟨_, rfl⟩
 unfold nodeA at *
 have HNA := Lib.hid hNA
 clear hNA
 go_enter func46, ntmps46
 go_upto_region 1 with (fail)
 refine wp_abs2 (fun W => Below w.heap.size w W /\ W.heap[w.heap.size]? = some (.cells #[.pointer (some ⟨p, 0, none⟩), .int .i64 (b : Int), .slice a K.length kc] 65 (0, 0)) /\ W.heap[w.heap.size + 1]? = some (.cells NA 30 (0, 0))) ⟨belx, heap_alloc2_old _ _ _, by rw [<- HNA.out]; exact heap_alloc2_new _ _ _⟩ ?_
 rintro w1 ⟨hb1, q1, r1⟩
 obtain ⟨f1, -, z1⟩ := lie_cell q1; obtain ⟨g1, -, y1⟩ := lie_cell r1; rw [<- HNA.out] at g1
 have hc1 := hc.below hb1
 go_wp2_with fail
 refine (cE w1 (hw.trans (hb1.mono zB)) hc1 (hk.below hb1)).mono ?_; rintro e w2 ⟨rfl, h2, hh2, S2, hB2, hK2⟩
 have q2 := hK2.other hc1 q1 (by decide) (by decide) (by decide) (by decide)
 have r2 := hK2.other hc1 r1 (by decide) (by decide) (by decide) (by decide)
 have hb02 : Below w0.heap.size w w2 := (hb1.mono zB).trans hB2
 clear f1 g1
 obtain ⟨f2, -, z2⟩ := lie_cell q2; obtain ⟨g2, -, y2⟩ := lie_cell r2; rw [<- HNA.out] at g2
 go_wp2_with fail
 refine (cP w2 h2 (hw.trans hb02) S2).mono ?_; rintro e w3 ⟨rfl, S3, hB3, hK3⟩
 have HS3 := Lib.hid (And.intro S3 (And.intro S2 hc1))
 clear S3 f2 g2 S2 hc1
 go_wp2
 go_end0
 exact ⟨rfl, h2, newer (.inl rfl) hh2 hb1.size, HS3.out.1, hb02.trans hB3, ((KeptC.below hb1).trans hK2 (.inl rfl)).trans hK3 (newer (.inl rfl) hh2 hb1.size)⟩
theorem clambda_any (w0 : World) (f : Nat) (ihF : FunK w0 (f + 1)) : WriteK 45 14 w0 f := by
 intro p h b a kc K c n cs w hw hc hb hk hn hkind hwt hsm
 have cF := fun W hW hC hk => ihF p h b a kc K c n cs [] W hW hC hb hk hn hkind (by decide) (by simpa using hwt) hsm
 clear hkind
 have hlen := hn.len
 have hone := node_one hn
 have zB := hw.size
 unfold blkV at cF ⊢
 obtain ⟨na, nc, rfl, -⟩ := hn
 rw [nodeA_eq] at *
 obtain ⟨NA, hNA⟩ : ∃ A, nodeA n (.slice na n.kids.length nc) = A := ⟨_, rfl⟩
 rw [hNA] at cF
 have hsz : (prog.info? 30).map (·.size) = some NA.size := by rw [cellsNode, <- hNA]; rfl
 unfold nodeA at hNA ⊢
 have HNA := Lib.hid hNA
 clear hNA
 go_enter func45, ntmps45
 go_upto_region 1 with (fail)
 refine wp_abs2 (fun W => Below w.heap.size w W /\ W.heap[w.heap.size]? = some (.cells #[.pointer (some ⟨p, 0, none⟩), .int .i64 (b : Int), .slice a K.length kc] 65 (0, 0)) /\ W.heap[w.heap.size + 1]? = some (.cells NA 30 (0, 0))) ⟨belx, heap_alloc2_old _ _ _, by rw [<- HNA.out]; exact heap_alloc2_new _ _ _⟩ ?_
 rintro w1 ⟨hb1, q1, r1⟩
 obtain ⟨f1, -, z1⟩ := lie_cell q1
 have hc1 := hc.below hb1
 have HR := Lib.hid r1
 have HZ := Lib.hid hsz
 clear hsz r1 q1
 refine wp_region_lit ?_
 (refine wpList_plain rfl (fun K hK => ?_); go_simp; (refine hK _ _ ?_; clear hK K))
 refine wpList_load_row rfl 30 (.tmp 3) rfl (w.heap.size + 1) rfl 30 NA (0, 0) _ HR.out underlying30 rfl HZ.out ?_
 refine wpList_plain rfl (fun KK hKK => ?_)
 go_simp
 refine (cF w1 (hw.trans (hb1.mono zB)) hc1 (hk.below hb1)).mono ?_; rintro e w2 ⟨rfl, h2, hh2, S2, hB2, hK2⟩
 refine hKK _ _ ?_
 refine wpList_nil ?_
 have HS3 := Lib.hid S2
 clear S2 hc1 f1
 go_wp2
 go_end0
 exact ⟨rfl, h2, newer (.inl rfl) hh2 hb1.size, HS3.out, (hb1.mono zB).trans hB2, (KeptC.below hb1).trans hK2 (.inl rfl)⟩
theorem setCells_heap {b : Nat} {T : TypeId} : ∀ (cs : List Value) (o : Nat) (C : Array Value) (w : World), w.heap[b]? = some (.cells C T (0, 0)) -> o + cs.length <= C.size -> (w.setCells b o cs).heap[b]? = some (.cells (C.toList.take o ++ cs ++ C.toList.drop (o + cs.length)).toArray T (0, 0))
 | [], o, C, w, h, _ => by
  show w.heap[b]? = _
  rw [h]; simp
 | v :: r, o, C, w, h, ho => by
  rw [List.length_cons] at ho
  show ((w.setCell ⟨b, o, none⟩ v).setCells b (o + 1) r).heap[b]? = _
  rw [setCells_heap r (o + 1) _ _ (heap_set_same h) (by rw [Array.size_setIfInBounds]; omega)]
  congr 3
  rw [Array.toList_setIfInBounds]
  have hoC : o < C.toList.length := by simp; omega
  have e1 : (C.toList.set o v).take (o + 1) = C.toList.take o ++ [v] := by
   rw [List.take_set, List.take_succ_eq_append_getElem hoC, List.set_append_right _ _ (by simp; omega)]
   have hm : o - min o C.size = 0 := by simp at hoC; omega
   simp [hm]
  have e2 : (C.toList.set o v).drop (o + 1 + r.length) = C.toList.drop (o + (r.length + 1)) := by
   rw [List.drop_set_of_lt (by omega)]
   congr 1; omega
  rw [e1, e2]
  simp
theorem box_whole {w : World} {b : Nat} {C : Array Value} {T : TypeId} {cs : List Value} (h : w.heap[b]? = some (.cells C T (0, 0))) (hs : cs.length = C.size) : (w.setCells b 0 cs).heap[b]? = some (.cells cs.toArray T (0, 0)) := by
 rw [setCells_heap cs 0 C w h (by omega)]
 simp [List.drop_eq_nil_of_le, hs]
theorem whole_there {w : World} {b n : Nat} {C : Array Value} {T : TypeId} (h : w.heap[b]? = some (.cells C T (0, 0))) (hs : n = C.size) : w.there b 0 n := fun j hj => by
 obtain ⟨f, g, _⟩ := lie_cell h
 rw [f (0 + j), g (0 + j)]
 exact ⟨by simp; omega, rfl⟩
theorem cellsIns : (prog.info? 43).map (·.size) = some 18 := by kernel_rfl
section
variable {P : Program} {ops : Array Oper} {Q : Exit -> Act -> World -> Prop} {rest : List Oper} {o p : Oper} {a a' : Act} {w : World}
theorem mbx (T : TypeId) (x y : Operand) (Z C : Array Value) (hi : (P.info? T).map (·.size) = some C.size) (h1 : C.all (·.oneCell') = true)
  (k : ∀ W, Below w.heap.size w W /\ W.heap[w.heap.size]? = some (.cells C T (0, 0)) -> wpList P ops Q rest a' W)
  (hw : Region.wanted o (yielded ops a.tmps) = true := by kernel_rfl) (h : (execOp a.eval o).run P w = .ok (.value (.pointer (some ⟨w.heap.size, 0, none⟩))) (w.alloc (.cells Z T)) := by kernel_rfl)
  (hz : C.size = Z.size := by rfl) (hg : p.guard = none := by rfl) (ho : p.op = .store T x y := by rfl) (hx : (a.put o.dst (.pointer (some ⟨w.heap.size, 0, none⟩))).eval x = .pointer (some ⟨w.heap.size, 0, none⟩) := by rfl) (hy : (a.put o.dst (.pointer (some ⟨w.heap.size, 0, none⟩))).eval y = .agg C := by rfl)
  (ha : (a.put o.dst (.pointer (some ⟨w.heap.size, 0, none⟩))).put p.dst undef = a' := by (simp only [Act.put, List.setIfInBounds_toArray, List.set_cons_zero, List.set_cons_succ]; exact rfl)) : wpList P ops Q (o :: p :: rest) a w :=
 wpList_want hw fun K hK => by
  unfold Oper.wp
  rw [h]
  refine hK _ _ (wpList_store_mid hg T x y ho w.heap.size 0 C hx hy (whole_there (heap_alloc_new _ _) hz) hi h1 ?_)
  rw [ha]
  exact k _ ⟨box_below w Z T C.toList, by simpa using box_whole (cs := C.toList) (heap_alloc_new w (.cells Z T)) (by simpa using hz)⟩
theorem mrw (n : Nat) (T : TypeId) (C : Array Value) (k : ∀ W, Below w.heap.size w W /\ W.heap[w.heap.size]? = some (.cells C T (0, 0)) -> wpList P ops Q rest a' W)
  (hw : Region.wanted o (yielded ops a.tmps) = true := by kernel_rfl) (h : (execOp a.eval o).run P w = .ok (.value (.slice (some ⟨w.heap.size, 0, none⟩) n n)) (w.alloc (.cells C T)) := by kernel_rfl)
  (ha : a.put o.dst (.slice (some ⟨w.heap.size, 0, none⟩) n n) = a' := by (simp only [Act.put, List.setIfInBounds_toArray, List.set_cons_zero, List.set_cons_succ]; exact rfl)) : wpList P ops Q (o :: rest) a w :=
 wpList_want hw fun K hK => by
  unfold Oper.wp
  rw [h]
  refine hK _ _ ?_
  rw [ha]
  exact k _ ⟨allocB (Below.refl _ _), heap_alloc_new _ _⟩
theorem ldr {T t : TypeId} {g : Nat} {cs : Array Value} {fr : Nat × Nat} {d : TypeDesc} (x : Operand) (hg : w.heap[g]? = some (.cells cs t fr)) (hu : P.underlying T = some d) (hi : (P.info? T).map (·.size) = some cs.size) (h : wpList P ops Q rest (a.put o.dst (.agg cs)) w)
  (hd : (match d with | .struct _ | .array _ _ => true | _ => false) = true := by rfl) (hgd : o.guard = none := by rfl) (ho : o.op = .load T x := by rfl) (hx : a.eval x = .pointer (some ⟨g, 0, none⟩) := by rfl) : wpList P ops Q (o :: rest) a w := wpList_load_row hgd T x ho g hx t cs fr d hg hu hd hi h
end
end Go.Proofs.YtlpgigdegnbkmaaGreatDoor
