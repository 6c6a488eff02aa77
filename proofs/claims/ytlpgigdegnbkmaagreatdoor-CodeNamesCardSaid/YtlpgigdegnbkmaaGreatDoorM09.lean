import Derived.Test.YtlpgigdegnbkmaaGreatDoorM07
import Derived.Lib.Split
import Derived.Maps.AppendAt
import Derived.Deep.MidRow
set_option maxRecDepth 100000
set_option maxHeartbeats 4000000
namespace Tab
open Go
theorem idx_cons_hit (l : Bs) : Lib.index (44 :: l) [44] = 0 := by
 rw [Lib.index]; rfl
theorem idx_cons_miss (b : UInt8) (l : Bs) (h : b ≠ 44) : Lib.index (b :: l) [44] = if Lib.index l [44] == -1 then -1 else Lib.index l [44] + 1 := by
 rw [Lib.index, if_neg]
 simp [List.isPrefixOf, Ne.symm h]
theorem split_cons_hit (l : Bs) : Lib.split (44 :: l) [44] = [] :: Lib.split l [44] := by
 unfold Lib.split
 rw [Lib.count_hit (i := 0) (by simp) (idx_cons_hit l), Nat.add_comm, Lib.splitK, idx_cons_hit]
 rfl
theorem split_cons_miss (b : UInt8) (l : Bs) (h : b ≠ 44) : ∃ x r, Lib.split l [44] = x :: r /\ Lib.split (b :: l) [44] = (b :: x) :: r := by
 unfold Lib.split
 have e := idx_cons_miss b l h
 have hge := Lib.index_ge l [44]
 by_cases hm : Lib.index l [44] = -1
 ·rw [hm] at e
  rw [Lib.count_miss hm, Lib.count_miss (e.trans rfl)]
  exact ⟨l, [], rfl, rfl⟩
 ·obtain ⟨i, hi⟩ : ∃ i : Nat, Lib.index l [44] = i := ⟨(Lib.index l [44]).toNat, by omega⟩
  have e2 : Lib.index (b :: l) [44] = ((i + 1 : Nat) : Int) := by
   rw [e, hi, if_neg (by simp)]; omega
  rw [Lib.count_hit (by simp) hi, Lib.count_hit (by simp) e2, Nat.add_comm 1, Nat.add_comm 1, Lib.splitK, Lib.splitK, if_neg (by rw [hi]; simp), if_neg (by rw [e2]; simp; omega), hi, e2]
  refine ⟨_, _, rfl, ?_⟩
  simp [Int.toNat_natCast, Nat.add_right_comm i 1, Nat.add_assoc]
theorem splitD_is : ∀ s : Bs, splitD s = Lib.split s [44]
 | [] => rfl
 | b :: l => by
  unfold splitD
  by_cases h : b = 44
  ·subst h
   rw [if_pos rfl, split_cons_hit, splitD_is l]
  ·rw [if_neg h, splitD_is l]
   obtain ⟨x, r, h1, h2⟩ := split_cons_miss b l h
   rw [h1, h2]
theorem splitB_names (s : ByteArray) : (Lib.splitB ⟨#[44]⟩ 0 (Lib.countB s ⟨#[44]⟩) s).map (·.data.toList) = splitD s.data.toList := by
 rw [Lib.splitB_data, splitD_is]; rfl
theorem splitD_ne (s : Bs) : splitD s ≠ [] := by
 cases s with
 | nil => simp [splitD]
 | cons b l =>
  unfold splitD
  split
  ·simp
  ·split <;> simp
theorem splitD_len : ∀ s : Bs, (splitD s).length <= s.length + 1 /\ ∀ x ∈ splitD s, x.length <= s.length
 | [] => by simp [splitD]
 | b :: l => by
  obtain ⟨h1, h2⟩ := splitD_len l
  unfold splitD
  split
  ·refine ⟨by simp; omega, fun x hx => ?_⟩
   rcases List.mem_cons.1 hx with rfl | hx
   ·simp
   ·have := h2 x hx; simp; omega
  ·split
   ·simp
   ·rename_i y r he
    rw [he] at h1 h2
    refine ⟨by simp at *; omega, fun x hx => ?_⟩
    rcases List.mem_cons.1 hx with rfl | hx
    ·have := h2 y (by simp); simp; omega
    ·have := h2 x (by simp [hx]); simp; omega
end Tab
namespace Go.Proofs.YtlpgigdegnbkmaaGreatDoor
open Go.RowKit Tab Tryz
def Byt (w : World) (b : Nat) (l : Bs) : Prop := (∀ o (h : o < l.length), w.cell? ⟨b, o, none⟩ = some (.int .u8 (l[o].toNat : Int)) /\ w.frozen? ⟨b, o, none⟩ = false) /\ b < w.heap.size
theorem byt_new (w : World) (l : Bs) (cap : Nat) : Byt (w.drew.alloc (.cells (bytesRow ⟨l.toArray⟩ cap) 5 ((bytesRow ⟨l.toArray⟩ cap).size, (bytesRow ⟨l.toArray⟩ cap).size + 1))) w.heap.size l := by
 have hh : (w.drew.alloc (.cells (bytesRow ⟨l.toArray⟩ cap) 5 ((bytesRow ⟨l.toArray⟩ cap).size, (bytesRow ⟨l.toArray⟩ cap).size + 1))).heap[w.heap.size]? = some (.cells (bytesRow ⟨l.toArray⟩ cap) 5 ((bytesRow ⟨l.toArray⟩ cap).size, (bytesRow ⟨l.toArray⟩ cap).size + 1)) := Array.getElem?_push_size
 refine ⟨fun o h => ⟨?_, ?_⟩, ?_⟩
 ·unfold World.cell?; rw [hh]
  show (bytesRow ⟨l.toArray⟩ cap)[o]? = _
  unfold bytesRow
  rw [Array.getElem?_append_left (by simpa using h)]
  simp [h]
 ·unfold World.frozen?; rw [hh]
  have : l.length <= (bytesRow ⟨l.toArray⟩ cap).size := by simp [bytesRow]
  simp; omega
 ·show w.heap.size < (w.heap.push _).size
  simp
theorem Byt.set {w : World} {b i : Nat} {l : Bs} (h : Byt w b l) (hi : i < l.length) (x : UInt8) : Byt (w.setCell ⟨b, i, none⟩ (.int .u8 (x.toNat : Int))) b (l.set i x) := by
 obtain ⟨h1, h2⟩ := h
 refine ⟨fun o ho => ?_, by simpa [World.setCell] using h2⟩
 rw [List.length_set] at ho
 obtain ⟨c, f⟩ := h1 o ho
 have ci := (h1 i hi).1
 unfold World.cell? at c ci ⊢
 unfold World.frozen? at f ⊢
 simp only [World.setCell, Array.getElem?_modify] at *
 cases hb : w.heap[b]? with
 | none => rw [hb] at c; simp at c
 | some O =>
  rw [hb] at c f ci
  cases O <;> simp at c f ci ⊢
  rename_i C T fr
  refine ⟨?_, f⟩
  have hiC : i < C.size := by
   rcases Nat.lt_or_ge i C.size with h | h
   ·exact h
   ·rw [Array.getElem?_eq_none h] at ci; cases ci
  rw [Array.getElem?_setIfInBounds, List.getElem_set]
  by_cases e : i = o
  ·rw [if_pos e, if_pos hiC, if_pos e]
  ·rw [if_neg e, if_neg e]; exact c
theorem Byt.eq {w : World} {b : Nat} {l l' : Bs} (h : Byt w b l) (e : l = l') : Byt w b l' := e ▸ h
theorem ba_ext {a b : ByteArray} (h : a.toList = b.toList) : a = b := by
 rw [ByteArray.toList_eq, ByteArray.toList_eq] at h
 rw [<- ba_eta a, h, ba_eta b]
theorem ba_cat (a b : Bs) : (⟨a.toArray⟩ : ByteArray) ++ ⟨b.toArray⟩ = ⟨(a ++ b).toArray⟩ := by
 rw [<- ba_eta (⟨a.toArray⟩ ++ ⟨b.toArray⟩), ba_append]
def insV (x : InsD) : Value := .agg #[.int .i64 x.op, .int .i64 x.a, .int .i64 x.b, .string ⟨x.s.toArray⟩, .int .i64 x.m, .int .i64 x.e, .string x.ref.s, .int .i64 x.ref.row, .int .i64 x.ref.col, .bool x.ref.fr, .bool x.ref.fc, .bool x.ref.bad, .string x.far.s, .int .i64 x.far.row, .int .i64 x.far.col, .bool x.far.fr, .bool x.far.fc, .bool x.far.bad]
def insC (x : InsD) : List Value := [.int .i64 x.op, .int .i64 x.a, .int .i64 x.b, .string ⟨x.s.toArray⟩, .int .i64 x.m, .int .i64 x.e, .string x.ref.s, .int .i64 x.ref.row, .int .i64 x.ref.col, .bool x.ref.fr, .bool x.ref.fc, .bool x.ref.bad, .string x.far.s, .int .i64 x.far.row, .int .i64 x.far.col, .bool x.far.fr, .bool x.far.fc, .bool x.far.bad]
def insL (l : List InsD) : List Value := l.flatMap insC
theorem insC_len (x : InsD) : (insC x).length = 18 := rfl
theorem insL_len (l : List InsD) : (insL l).length = l.length * 18 := by
 induction l with
 | nil => rfl
 | cons x l ih =>
  show (insC x ++ insL l).length = _
  rw [List.length_append, ih, insC_len]; simp; omega
theorem insL_snoc (l : List InsD) (x : InsD) : insL (l ++ [x]) = insL l ++ insC x := by unfold insL; simp
theorem insC_one (x : InsD) : ∀ u ∈ insC x, u.oneCell' = true := by
 intro u hu
 simp only [insC, List.mem_cons, List.not_mem_nil, or_false] at hu
 rcases hu with rfl | rfl | rfl | rfl | rfl | rfl | rfl | rfl | rfl | rfl | rfl | rfl | rfl | rfl | rfl | rfl | rfl | rfl <;> rfl
theorem infoIns : (prog.info? 43).map (fun i => (i.zero, i.size, i.bytes)) = some (some (.agg #[.int .i64 0, .int .i64 0, .int .i64 0, .string ⟨#[]⟩, .int .i64 0, .int .i64 0, .string ⟨#[]⟩, .int .i64 0, .int .i64 0, .bool false, .bool false, .bool false, .string ⟨#[]⟩, .int .i64 0, .int .i64 0, .bool false, .bool false, .bool false]), 18, 136) := by kernel_rfl
theorem infoRow : (prog.info? 41).map (fun i => (i.zero, i.size, i.bytes)) = some (some (.slice none 0 0), 1, 24) := by kernel_rfl
theorem infoStr : (prog.info? 9).map (fun i => (i.zero, i.size, i.bytes)) = some (some (.string ⟨#[]⟩), 1, 16) := by kernel_rfl
theorem heap_set_same {w : World} {b i : Nat} {C : Array Value} {T : TypeId} {fr : Nat × Nat} {v : Value} (h : w.heap[b]? = some (.cells C T fr)) : (w.setCell ⟨b, i, none⟩ v).heap[b]? = some (.cells (C.setIfInBounds i v) T fr) := by
 simp [World.setCell, Array.getElem?_modify, h]
theorem heap_set_other {w : World} {b k i : Nat} {v : Value} (h : k ≠ b) : (w.setCell ⟨b, i, none⟩ v).heap[k]? = w.heap[k]? := by
 simp [World.setCell, Array.getElem?_modify, Ne.symm h]
theorem heap_in {w : World} {k : Nat} {o : Obj} (h : w.heap[k]? = some o) : k < w.heap.size := (Array.getElem?_eq_some_iff.1 h).1
structure CMem (w : World) (B p h g cg ch : Nat) (vs : List Value) (c : CodeD) : Prop where
 lep : B <= p
 few : c.params.length <= c.blocks.length
 box : w.heap[p]? = some (.cells #[.slice (some ⟨g, 0, none⟩) c.blocks.length cg, .slice (some ⟨h, 0, none⟩) c.params.length ch] 63 (0, 0))
 rows : w.ownsRow B 41 1 (.slice (some ⟨g, 0, none⟩) c.blocks.length cg) c.blocks.length vs
 pars : w.ownsRow B 9 1 (.slice (some ⟨h, 0, none⟩) c.params.length ch) c.params.length (c.params.map strV)
 each : ∀ (i : Nat) (v : Value) (l : List InsD), vs[i]? = some v -> c.blocks[i]? = some l -> w.ownsRow B 43 18 v l.length (insL l)
 apart : ∀ (i j : Nat) (v u : Value) (k : Nat), vs[i]? = some v -> vs[j]? = some u -> v.ownBlock = some k -> u.ownBlock = some k -> i = j
def CodeAt (w : World) (B p h : Nat) (c : CodeD) : Prop := ∃ g cg ch vs, CMem w B p h g cg ch vs c
def KeptC (h : Nat) (w W : World) : Prop := ∀ (k : Nat) (C : Array Value) (T : TypeId) (fr : Nat × Nat), w.heap[k]? = some (.cells C T fr) -> T ≠ 63 -> T ≠ 41 -> T ≠ 43 -> k ≠ h -> W.heap[k]? = some (.cells C T fr)
theorem own_lies {w : World} {B n size : Nat} {e : TypeId} {g m c : Nat} {xs : List Value} (h : w.ownsRow B e size (.slice (some ⟨g, 0, none⟩) m c) n xs) : ∃ cur, B <= g /\ m = n /\ w.heap[g]? = some (.cells cur e (0, 0)) /\ n <= c /\ cur.size = c * size /\ cur.toList.take (n * size) = xs := by
 rcases h.2 with ⟨h1, _⟩ | ⟨g', cap, cur, h1, h2, h3, h4, h5, h6, h7⟩
 ·cases h1
 ·injection h1 with a b c'
  injection a with a
  injection a with a
  subst a b c'
  exact ⟨cur, h2, rfl, h3, h4, h6, h7⟩
theorem own_kept {w W : World} {B n size : Nat} {e : TypeId} {v : Value} {xs : List Value} (h : w.ownsRow B e size v n xs) (hk : ∀ k, v.ownBlock = some k -> W.heap[k]? = w.heap[k]?) : W.ownsRow B e size v n xs := by
 refine ⟨h.1, ?_⟩
 rcases h.2 with h | ⟨g, cap, cur, rfl, h2, h3, h4⟩
 ·exact .inl h
 ·exact .inr ⟨g, cap, cur, rfl, h2, (hk g rfl).trans h3, h4⟩
theorem own_type {w : World} {B n size : Nat} {e : TypeId} {v : Value} {xs : List Value} (h : w.ownsRow B e size v n xs) {k : Nat} (hk : v.ownBlock = some k) : B <= k /\ ∃ cur, w.heap[k]? = some (.cells cur e (0, 0)) := by
 rcases h.2 with ⟨rfl, _⟩ | ⟨g, cap, cur, rfl, h2, h3, h4⟩
 ·cases hk
 ·injection hk with hk; subst hk; exact ⟨h2, cur, h3⟩
theorem own_cell {w : World} {B n : Nat} {e : TypeId} {g m c : Nat} {xs : List Value} (h : w.ownsRow B e 1 (.slice (some ⟨g, 0, none⟩) m c) n xs) {i : Nat} {u : Value} (hi : xs[i]? = some u) : w.cell? ⟨g, i, none⟩ = some u /\ w.frozen? ⟨g, i, none⟩ = false := by
 obtain ⟨cur, _, _, hh, hc, hs, ht⟩ := own_lies h
 subst ht
 rw [List.getElem?_take] at hi
 split at hi
 ·refine ⟨?_, ?_⟩
  ·unfold World.cell?; rw [hh]; simpa using hi
  ·unfold World.frozen?; rw [hh]; simp
 ·cases hi
variable {w W : World} {B p h g cg ch : Nat} {vs : List Value} {c : CodeD}
theorem CMem.below (k : CMem w B p h g cg ch vs c) (hb : Below w.heap.size w W) : CMem W B p h g cg ch vs c where
 lep := k.lep
 few := k.few
 box := (hb.block p (heap_in k.box)).trans k.box
 rows := own_below k.rows hb
 pars := own_below k.pars hb
 each := fun i v l h1 h2 => own_below (k.each i v l h1 h2) hb
 apart := k.apart
theorem CodeAt.below (k : CodeAt w B p h c) (hb : Below w.heap.size w W) : CodeAt W B p h c := by
 obtain ⟨g, cg, ch, vs, k⟩ := k; exact ⟨g, cg, ch, vs, k.below hb⟩
theorem CMem.len (k : CMem w B p h g cg ch vs c) : vs.length = c.blocks.length := by have := k.rows.1; omega
theorem CMem.cells (k : CMem w B p h g cg ch vs c) : w.cell? ⟨p, 0, none⟩ = some (.slice (some ⟨g, 0, none⟩) c.blocks.length cg) /\ w.cell? ⟨p, 1, none⟩ = some (.slice (some ⟨h, 0, none⟩) c.params.length ch) /\ w.frozen? ⟨p, 0, none⟩ = false /\ w.frozen? ⟨p, 1, none⟩ = false := by
 have := k.box
 refine ⟨?_, ?_, ?_, ?_⟩ <;> simp [World.cell?, World.frozen?, this]
theorem KeptC.refl (h : Nat) (w : World) : KeptC h w w := fun _ _ _ _ h _ _ _ _ => h
theorem KeptC.below (hb : Below w.heap.size w W) : KeptC h w W := fun k _C _T _fr h1 _ _ _ _ => (hb.block k (heap_in h1)).trans h1
theorem KeptC.trans {W1 : World} {h1 : Nat} (a : KeptC h w W) (b : KeptC h1 W W1) (e : h1 = h \/ w.heap.size <= h1) : KeptC h w W1 := fun k _ _ _ k1 k2 k3 k4 k5 => b k _ _ _ (a k _ _ _ k1 k2 k3 k4 k5) k2 k3 k4 (by
 rcases e with rfl | e
 ·exact k5
 ·have := heap_in k1; omega)
theorem CMem.put (k : CMem w B p h g cg ch vs c) {b : Nat} {v v' : Value} {l : List InsD} {x : InsD} (hv : vs[b]? = some v) (hl : c.blocks[b]? = some l) (hg : ∀ i, i < w.heap.size -> v.ownBlock ≠ some i -> W.heap[i]? = w.heap[i]?)
  (hown : W.ownsRow B 43 18 v' (l.length + 1) (insL l ++ insC x)) (hloc : v'.ownBlock = v.ownBlock \/ v'.ownBlock = some w.heap.size) :
  CMem (W.setCell ⟨g, b, none⟩ v') B p h g cg ch (vs.set b v') (putC c b x) /\ KeptC h w (W.setCell ⟨g, b, none⟩ v') := by
 obtain ⟨cur, hgB, _, hgh, hgc, hgs, hgt⟩ := own_lies k.rows
 obtain ⟨cuh, hhB, _, hhh, hhc, hhs, hht⟩ := own_lies k.pars
 have hbl : b < c.blocks.length := (List.getElem?_eq_some_iff.1 hl).1
 have hvr := k.each b v l hv hl
 have ne : ∀ (i : Nat) (C : Array Value) (T : TypeId) (fr : Nat × Nat), w.heap[i]? = some (.cells C T fr) -> T ≠ 43 -> v.ownBlock ≠ some i := fun i C T fr e1 e2 e3 => by
  obtain ⟨_, cu, e4⟩ := own_type hvr e3
  rw [e4] at e1
  injection e1 with e1
  injection e1 with _ e1 _
  exact e2 e1.symm
 have kp : ∀ (i : Nat), i < w.heap.size -> v.ownBlock ≠ some i -> i ≠ g -> (W.setCell ⟨g, b, none⟩ v').heap[i]? = w.heap[i]? := fun i e1 e2 e3 => by
  rw [heap_set_other e3]; exact hg i e1 e2
 have hpg : p ≠ g := fun e => by
  have := k.box; rw [e, hgh] at this; injection this with this; injection this with _ this _; exact absurd this (by decide)
 have hhg : h ≠ g := fun e => by
  rw [e, hgh] at hhh; injection hhh with this; injection this with _ this _; exact absurd this (by decide)
 have hWg : W.heap[g]? = some (.cells cur 41 (0, 0)) := (hg g (heap_in hgh) (ne g _ _ _ hgh (by decide))).trans hgh
 have hpl : (putC c b x).blocks.length = c.blocks.length := by simp [putC]
 constructor
 ·refine ⟨k.lep, by rw [hpl]; exact k.few, ?_, ?_, ?_, ?_, ?_⟩
  ·rw [hpl]
   exact (kp p (heap_in k.box) (ne p _ _ _ k.box (by decide)) hpg).trans k.box
  ·rw [hpl]
   refine ⟨by rw [List.length_set]; exact k.rows.1, .inr ⟨g, cg, cur.setIfInBounds b v', rfl, hgB, heap_set_same hWg, hgc, ?_, by simpa using hgs, ?_⟩⟩
   ·rcases k.rows.2 with ⟨e, _⟩ | ⟨_, cap, _, e, _, _, _, e5, _⟩
    ·cases e
    ·injection e with _ _ e; subst e; exact e5
   ·rw [Array.toList_setIfInBounds, List.take_set, hgt]
  ·refine own_kept k.pars fun i hi => ?_
   injection hi with hi
   subst hi
   exact kp h (heap_in hhh) (ne h _ _ _ hhh (by decide)) hhg
  ·intro i u m h1 h2
   by_cases hi : i = b
   ·subst hi
    rw [List.getElem?_set_self (by rw [k.len]; exact hbl)] at h1
    injection h1 with h1
    subst h1
    have e : m = l ++ [x] := by
     have : (putC c i x).blocks[i]? = some (l ++ [x]) := by simp [putC, hl]
     exact Option.some.inj (h2.symm.trans this)
    subst e
    rw [List.length_append, insL_snoc]
    refine own_kept hown fun j hj => heap_set_other fun e => ?_
    subst e
    obtain ⟨_, cu, e4⟩ := own_type hown hj
    rw [hWg] at e4
    injection e4 with e4; injection e4 with _ e4 _; exact absurd e4 (by decide)
   ·rw [List.getElem?_set_ne (Ne.symm hi)] at h1
    have e : (putC c b x).blocks[i]? = c.blocks[i]? := by simp [putC, Ne.symm hi]
    rw [e] at h2
    refine own_kept (k.each i u m h1 h2) fun j hj => ?_
    obtain ⟨_, cu, e4⟩ := own_type (k.each i u m h1 h2) hj
    refine kp j (heap_in e4) (fun e => hi (k.apart i b u v j h1 hv hj e)) (fun e => ?_)
    subst e
    rw [hgh] at e4
    injection e4 with e4; injection e4 with _ e4 _; exact absurd e4 (by decide)
  ·intro i j u t q h1 h2 h3 h4
   have old : ∀ (i : Nat) (u : Value) (q : Nat), i ≠ b -> vs[i]? = some u -> u.ownBlock = some q -> q < w.heap.size := fun i u q hi e1 e2 => by
    have hil : i < c.blocks.length := by rw [<- k.len]; exact (List.getElem?_eq_some_iff.1 e1).1
    obtain ⟨_, cu, e4⟩ := own_type (k.each i u _ e1 (List.getElem?_eq_getElem hil)) e2
    exact heap_in e4
   have bl : b < vs.length := by rw [k.len]; exact hbl
   by_cases hi : i = b <;> by_cases hj : j = b
   ·rw [hi, hj]
   ·subst hi
    rw [List.getElem?_set_self bl] at h1
    rw [List.getElem?_set_ne (Ne.symm hj)] at h2
    injection h1 with h1; subst h1
    rcases hloc with e | e
    ·rw [e] at h3; exact k.apart i j v t q hv h2 h3 h4
    ·rw [e] at h3; injection h3 with h3
     have := old j t q hj h2 h4; omega
   ·subst hj
    rw [List.getElem?_set_self bl] at h2
    rw [List.getElem?_set_ne (Ne.symm hi)] at h1
    injection h2 with h2; subst h2
    rcases hloc with e | e
    ·rw [e] at h4; exact k.apart i j u v q h1 hv h3 h4
    ·rw [e] at h4; injection h4 with h4
     have := old i u q hi h1 h3; omega
   ·rw [List.getElem?_set_ne (Ne.symm hi)] at h1
    rw [List.getElem?_set_ne (Ne.symm hj)] at h2
    exact k.apart i j u t q h1 h2 h3 h4
 ·intro i C T fr h1 h2 h3 h4 h5
  refine (kp i (heap_in h1) (ne i _ _ _ h1 h4) fun e => ?_).trans h1
  subst e
  rw [hgh] at h1
  injection h1 with h1; injection h1 with _ h1 _; exact h3 h1.symm
end Go.Proofs.YtlpgigdegnbkmaaGreatDoor
namespace Tab
open Go Go.RowKit
section
variable {P : Program} {ops : Array Oper} {md : Region.Mode} {w0 : World} {β : Nat -> Nat}
end
end Tab
namespace Go.Proofs.YtlpgigdegnbkmaaGreatDoor
open Go.RowKit Tab Tryz
structure NamesAt (w : World) (a : Option Addr) (c : Nat) (K : List Bs) : Prop where
 cap : K.length <= c
 lies : K = [] \/ ∃ (b o : Nat) (C : Array Value) (fr : Nat × Nat), a = some ⟨b, o, none⟩ /\ w.heap[b]? = some (.cells C 9 fr) /\ ∀ (i : Nat) (x : Bs), K[i]? = some x -> C[o + i]? = some (.string ⟨x.toArray⟩)
theorem NamesAt.kept {w W : World} {a : Option Addr} {c h : Nat} {K : List Bs} (k : NamesAt w a c K) (hk : KeptC h w W) (hn : ∀ d, a = some d -> d.block ≠ h) : NamesAt W a c K := by
 refine ⟨k.cap, k.lies.imp id ?_⟩
 rintro ⟨b, o, C, fr, rfl, h1, h2⟩
 exact ⟨b, o, C, fr, rfl, hk b C _ fr h1 (by decide) (by decide) (by decide) (hn _ rfl), h2⟩
theorem NamesAt.below {w W : World} {a : Option Addr} {c : Nat} {K : List Bs} (k : NamesAt w a c K) (hb : Below w.heap.size w W) : NamesAt W a c K := by
 refine ⟨k.cap, k.lies.imp id ?_⟩
 rintro ⟨b, o, C, fr, rfl, h1, h2⟩
 exact ⟨b, o, C, fr, rfl, (hb.block b (heap_in h1)).trans h1, h2⟩
theorem NamesAt.cell {w : World} {a : Option Addr} {c : Nat} {K : List Bs} (k : NamesAt w a c K) {i : Nat} (hi : i < K.length) : ∃ b o, a = some ⟨b, o, none⟩ /\ b < w.heap.size /\ w.cell? ⟨b, o + i, none⟩ = some (.string ⟨K[i].toArray⟩) := by
 rcases k.lies with rfl | ⟨b, o, C, fr, rfl, h1, h2⟩
 ·simp at hi
 ·refine ⟨b, o, rfl, heap_in h1, ?_⟩
  unfold World.cell?
  rw [h1]
  exact h2 i _ (List.getElem?_eq_getElem hi)
theorem NamesAt.nil (w : World) (a : Option Addr) (c : Nat) : NamesAt w a c [] := ⟨Nat.zero_le _, .inl rfl⟩
theorem NamesAt.le {w : World} {a : Option Addr} {c c' : Nat} {K : List Bs} (k : NamesAt w a c K) (h : K.length <= c') : NamesAt w a c' K := ⟨h, k.lies⟩
def RetNames (L : List Bs) (w : World) (e : Ending) (W : World) : Prop := ∃ a c, e = .returned (.slice a L.length c) /\ NamesAt W a c L /\ (∀ d, a = some d -> w.heap.size <= d.block) /\ Below w.heap.size w W
theorem splitB_len (s : ByteArray) : (Lib.splitB ⟨#[44]⟩ 0 (Lib.countB s ⟨#[44]⟩) s).length = (splitD s.data.toList).length := by
 rw [<- splitB_names, List.length_map]
theorem split_countK (sep : ByteArray) (h : 1 <= sep.size) : ∀ (k : Nat) (s : ByteArray), k = Lib.countB s sep -> (Lib.splitB sep 0 k s).length = k + 1
 | 0, _, _ => rfl
 | k + 1, s, hk => by
  by_cases hm : Lib.indexB s sep = -1
  ·rw [Lib.countB_miss s sep hm] at hk; cases hk
  ·have hge : -1 <= Lib.indexB s sep := Lib.index_ge _ _
   obtain ⟨i, hi⟩ : ∃ i : Nat, Lib.indexB s sep = i := ⟨(Lib.indexB s sep).toNat, by omega⟩
   rw [Lib.splitB_hit sep 0 k s i hi, List.length_cons, split_countK sep h k _ (by rw [Lib.countB_hit s sep i h hi] at hk; omega)]
theorem split_count (s : ByteArray) : Lib.countB s ⟨#[44]⟩ + 1 = (splitD s.data.toList).length := by
 rw [<- splitB_len, split_countK _ (by decide) _ s rfl]
theorem split_any (s : ByteArray) (w : World) (hg : Good w) (hs : s.size <= 1000000) : Calls prog 100 #[.string s, .string ⟨#[44]⟩] w (RetNames (splitD s.data.toList) w) := by
 refine (Tryz.strings_Split_shaped s ⟨#[44]⟩ w hg.shaped (by omega) (by decide)).mono ?_
 rintro e W ⟨rfl, rfl⟩
 refine ⟨some ⟨w.heap.size, 0, none⟩, Lib.countB s ⟨#[44]⟩ + 1, by rw [split_count], ⟨by rw [split_count]; exact Nat.le_refl _, .inr ⟨_, _, _, _, rfl, Array.getElem?_push_size, fun i x hx => ?_⟩⟩, fun d hd => by injection hd with hd; subst hd; exact Nat.le_refl _, (Below.refl _ _).alloc (Nat.le_refl _) _⟩
 rw [<- splitB_names, List.getElem?_map] at hx
 rw [Nat.zero_add, List.getElem?_toArray, List.getElem?_map]
 cases hy : (Lib.splitB ⟨#[44]⟩ 0 (Lib.countB s ⟨#[44]⟩) s)[i]? with
 | none => rw [hy] at hx; simp at hx
 | some y => rw [hy] at hx; simp at hx; subst hx; rfl
theorem names_any (s : ByteArray) (w : World) (hg : Good w) (hs : s.size <= 1000000) : Calls prog 52 #[.string s] w (RetNames (namesD s.data.toList) w) := by
 by_cases he : s.data.toList = []
 ·obtain rfl : s = ⟨#[]⟩ := ba_ext (by rw [ByteArray.toList_eq, ByteArray.toList_eq]; exact he)
  go_enter func52, ntmps52
  go_wp2
  go_ret
  exact ⟨none, 0, rfl, NamesAt.nil _ _ _, (by intro d hd; cases hd), Below.refl _ _⟩
 ·have he2 : s.toList.isEmpty = false := by rw [ByteArray.toList_eq]; cases h : s.data.toList with | nil => exact absurd h he | cons _ _ => rfl
  have cS := split_any s w hg hs
  have hn : namesD s.data.toList = splitD s.data.toList := by unfold namesD; rw [if_neg he]
  rw [hn]
  clear he hn
  go_enter func52, ntmps52
  go_wp2_with fail
  refine cS.mono ?_; rintro e W ⟨a, c, rfl, k⟩
  go_wp2
  go_ret
  exact ⟨a, c, rfl, k⟩
theorem names_nil (w : World) : Calls prog 52 #[.string ⟨List.toArray []⟩] w (Still (.slice none 0 0) w) := by
 go_enter func52, ntmps52
 go_wp2
 go_ret; exact Still.mk' rfl
theorem clip_any (a : Option Addr) (n c : Nat) (hn : n <= c) (w : World) : Calls prog 87 #[.slice a n c] w (Still (.slice a n n) w) := by
 go_enter func87, ntmps87
 go_wp2
 all_goals (go_ret; exact Still.mk' rfl)
theorem wpM_load {P : Program} {ops : Array Oper} {md : Region.Mode} {w : World} {β : Nat -> Nat} {Q : Act -> XT -> Prop} {o : Oper} {rest : List Oper} {k : Nat} {a : Act} {X : XT} (ty : TypeId) (x : Operand) (b off : Nat) (cs : List Value) (d : TypeDesc)
  (hw : Region.wanted o (yielded ops a.tmps) = true) (ho : o.op = .load ty x) (hx : a.eval x = .pointer (some ⟨b, off, none⟩)) (hb : b < w.heap.size) (hc : w.rangeAt b off cs)
  (hu : P.underlying ty = some d) (hd : d.isRow = true) (hi : (P.info? ty).map (·.size) = some cs.length) (h2 : wpM P md ops w β Q rest (k + 1) (a.put o.dst (.agg cs.toArray)) X) : wpM P md ops w β Q (o :: rest) k a X :=
 wpM_uses (.agg cs.toArray) hw (fun W hB _ => by
  have hr : W.rangeAt b off cs := fun j v hj => (hB.cell (p := ⟨b, off + j, none⟩) hb).trans (hc j v hj)
  unfold execOp
  simp only [ho, hx, Instr.loadAt, Instr.sureAddr, Sem.run_bind, Sem.run_pure, Result.andThen_ok, run_loadVar_mid W b off ty cs d hr hu hd hi]
  exact ⟨rfl, rfl⟩) h2
theorem Blk.range {w : World} {b : Nat} {C : Array Value} (h : Blk w b C) : w.rangeAt b 0 C.toList := fun j v hj => by
 rw [h.facts.1 (0 + j), Nat.zero_add]; simpa using hj
theorem grow_keeps {w W : World} {B n size k : Nat} {e T : TypeId} {v : Value} {xs : List Value} {C : Array Value} {fr : Nat × Nat} (h : w.ownsRow B e size v n xs) (hk : w.heap[k]? = some (.cells C T fr)) (hT : T ≠ e) (hg : w.grownBy W v.ownBlock) : W.heap[k]? = some (.cells C T fr) := by
 refine (hg.block k (heap_in hk) fun e1 => ?_).trans hk
 obtain ⟨_, cu, e4⟩ := own_type h e1.symm
 rw [hk] at e4
 injection e4 with e4; injection e4 with _ e4 _; exact hT e4
theorem lie_cell {w : World} {b : Nat} {C : Array Value} {T : TypeId} (h : w.heap[b]? = some (.cells C T (0, 0))) : (∀ o, w.cell? ⟨b, o, none⟩ = C[o]?) /\ (∀ o, w.frozen? ⟨b, o, none⟩ = false) /\ b < w.heap.size := by
 refine ⟨fun o => by unfold World.cell?; simp [h], fun o => by unfold World.frozen?; simp [h], heap_in h⟩
theorem own_succ {w : World} {B n size : Nat} {e : TypeId} {v : Value} {xs : List Value} (h : w.ownsRow B e size v (n + 1) xs) : ∃ q c, v = .slice (some ⟨q, 0, none⟩) (n + 1) c := by
 rcases h.2 with ⟨_, h0⟩ | ⟨g, cap, cur, rfl, _⟩
 ·cases h0
 ·exact ⟨_, _, rfl⟩
def blkV (p b : Nat) (a : Option Addr) (n c : Nat) : Value := .agg #[.pointer (some ⟨p, 0, none⟩), .int .i64 (b : Int), .slice a n c]
def Wrote (B p h : Nat) (c : CodeD) (w W : World) : Prop := CodeAt W B p h c /\ Below B w W /\ KeptC h w W
theorem own_shape {w : World} {B n size : Nat} {e : TypeId} {v : Value} {xs : List Value} (h : w.ownsRow B e size v n xs) : ∃ a c, v = .slice a n c := by
 rcases h.2 with ⟨rfl, rfl⟩ | ⟨g, cap, cur, rfl, _⟩
 ·exact ⟨_, _, rfl⟩
 ·exact ⟨_, _, rfl⟩
theorem put_any (B p h b : Nat) (ka : Option Addr) (kn kc' : Nat) (x : InsD) (c : CodeD) (hb : b < c.blocks.length) (_hbl : c.blocks.length <= 1000000) (hn : (c.blocks.getD b []).length <= 1000000) (w : World) (hc : CodeAt w B p h c) (hB : B <= w.heap.size) :
  Calls prog 49 #[blkV p b ka kn kc', insV x] w fun e W => e = .returned (.int .i64 (hereC c b : Int)) /\ Wrote B p h (putC c b x) w W := by
 obtain ⟨g, cg, ch, vs, k⟩ := hc
 obtain ⟨l, hl⟩ : ∃ l, c.blocks[b]? = some l := ⟨_, List.getElem?_eq_getElem hb⟩
 have hl2 : c.blocks.getD b [] = l := by rw [List.getD_eq_getElem?_getD, hl]; rfl
 obtain ⟨v, hv⟩ : ∃ v, vs[b]? = some v := ⟨_, List.getElem?_eq_getElem (by rw [k.len]; exact hb)⟩
 have hH : hereC c b = l.length := by unfold hereC; rw [hl2]
 rw [hl2] at hn
 rw [hH]
 obtain ⟨va, vc, rfl⟩ := own_shape (k.each b v l hv hl)
 have q0 := k.cells.1
 obtain ⟨qv, qf⟩ := own_cell k.rows hv
 obtain ⟨cur, hgB, _, hgh, hgc, hgs, hgt⟩ := own_lies k.rows
 have hpl := heap_in k.box
 have hgl := heap_in hgh
 have HK := Lib.hid k
 have hgh := Lib.hid hgh
 clear k hH hl2 hgt hgs
 unfold blkV insV at *
 go_enter func49, ntmps49
 go_wp2
 refine wp_abs fun w1 hb1 => ?_
 have hb01 : Below w.heap.size w w1 := belx
 have e0 := (hb01.cell (p := ⟨p, 0, none⟩) hpl).trans q0
 have ev := (hb01.cell (p := ⟨g, b, none⟩) hgl).trans qv
 have k0 : Blk w1 w.heap.size #[.pointer (some ⟨p, 0, none⟩), .int .i64 (b : Int), .slice ka kn kc'] := ((Blk.new rfl).alloc).below hb1
 have hq0 : w1.heap[w.heap.size]? = some (.cells #[.pointer (some ⟨p, 0, none⟩), .int .i64 (b : Int), .slice ka kn kc'] 65 (0, 0)) := (hb1.block _ (by simp; omega)).trans (heap_alloc2_old w _ _)
 have k1 : Blk w1 (w.heap.size + 1) (insC x).toArray := (Blk.new (by simp)).below hb1
 obtain ⟨f0, g0, z0⟩ := k0.facts
 obtain ⟨f1, g1, z1⟩ := k1.facts
 unfold insC at f1
 have zp : p < w1.heap.size := by have := hb01.size; omega
 have zg : g < w1.heap.size := by have := hb01.size; omega
 clear hb1 q0 qv
 have hbI : (b : Int) < (c.blocks.length : Int) := by omega
 have kc := gcell w1
 refine region_made_tail 12 (by kernel_rfl) (by kernel_rfl) fun β => ?_
 simp only [List.take_succ_cons, List.take_zero, List.drop_succ_cons, List.drop_zero]
 iterate 10 (refine wpM_step (fun K hK => ?_); go_simp; (refine hK _ ?_; clear hK K))
 refine wpM_load 43 (.tmp 3) (w.heap.size + 1) 0 (insC x) _ rfl rfl rfl z1 k1.range underlying43 rfl (by kernel_rfl) ?_
 refine wpM_make (fun b => .slice (some ⟨b, 0, none⟩) 1 1) (.cells (insC x).toArray 43) rfl (fun W _ => by kernel_rfl) ?_
 refine wpM_nil ?_
 intro w2 ⟨hb2, hla, hap⟩
 obtain ⟨zb, hl2⟩ := hla 11 _ _ rfl
 have hb02 : Below w.heap.size w w2 := after hb01 hb2
 have k2 := HK.out.below hb02
 have hvr := k2.each b _ l hv hl
 have q2 : w2.heap[w.heap.size]? = some (.cells #[.pointer (some ⟨p, 0, none⟩), .int .i64 (b : Int), .slice ka kn kc'] 65 (0, 0)) := (hb2.block _ z0).trans hq0
 obtain ⟨iT, hi, hz0, hz1, hz2⟩ := info_parts infoIns
 refine wpList_append_own_at _ rfl (.tmp 15) (.tmp 17) 41 rfl B 43 iT _ 18 136 underlying41 hi hz0 hz1 hz2 rfl (by decide) (.slice va l.length vc) l.length (insL l) rfl hvr ⟨β 11, 0, none⟩ 1 1 (insC x) rfl rfl ?_ (insC_one x) (by unfold maxLen; omega) (by omega) (by have := hb02.size; omega) ?_
 ·intro j u hj
  rw [Addr.add_mid, Nat.zero_add, (laid_cell hl2).1 j]; simpa using hj
 intro v' w3 hown hgrow _ hloc
 have p3 := grow_keeps hvr k2.box (by decide) hgrow
 have q3 := grow_keeps hvr q2 (by decide) hgrow
 have hgw : w2.heap[g]? = some (.cells cur 41 (0, 0)) := (hb02.block g hgl).trans hgh.out
 have hcur : cur[b]? = some (.slice va l.length vc) := ((lie_cell hgw).1 b).symm.trans (own_cell k2.rows hv).1
 have g3 := grow_keeps hvr hgw (by decide) hgrow
 obtain ⟨q, vc', rfl⟩ := own_succ hown
 clear hi hz0 hz1 hz2 iT hla hap kc f0 g0 f1 g1 e0 ev k0 k1 hl2 zb q2 hgw hq0
 obtain ⟨f0, -, z0'⟩ := lie_cell q3
 obtain ⟨f1, -, z1'⟩ := lie_cell p3
 obtain ⟨f2, g2, z2'⟩ := lie_cell g3
 have HO := Lib.hid (And.intro hown (And.intro hgrow hloc))
 have HL := Lib.hid (And.intro p3 (And.intro q3 g3))
 have HV := Lib.hid hvr
 clear hown hgrow hloc hvr p3 q3 g3
 have ecur := (f2 b).trans hcur
 have kc := gcell w3
 go_wp2
 refine region_below_tail 10 (by kernel_rfl) (by kernel_rfl) ?_
 simp only [List.take_succ_cons, List.take_zero, List.drop_succ_cons, List.drop_zero]
 repeat (quiet_step (fail))
 refine wpQuiet_nil ?_
 intro w4 hb4
 have e4 := (hb4.cell (p := ⟨g, b, none⟩) z2').trans ecur
 have d4 := (hb4.frozen (p := ⟨g, b, none⟩) z2').trans (g2 b)
 have ew : IntKind.i64.wrap ((l.length + 1 : Int) - 1) = (l.length : Int) := by rw [IntWalk.i64_in _ (by omega)]; omega
 clear kc f0 f1 f2 g2 ecur
 go_wp2
 go_ret
 obtain ⟨hown, hgrow, hloc⟩ := HO.out
 have zs : B <= w3.heap.size := by have := hgrow.size; have := hb02.size; omega
 obtain ⟨P1, P2⟩ := k2.put (b := b) (x := x) hv hl (W := w4) (fun i h1 h2 => (hb4.block i (Nat.lt_of_lt_of_le h1 hgrow.size)).trans (hgrow.block i h1 (fun e => h2 e.symm))) (own_below hown hb4) hloc
 refine ⟨rfl, ⟨_, _, _, _, P1⟩, ?_, (KeptC.below hb02).trans P2 (.inl rfl)⟩
 exact (((hb02.mono hB).grown hgrow (by have := hb02.size; omega) (fun k hk => own_row HV.out k hk)).trans (hb4.mono zs)).setCell (p := ⟨g, b, none⟩) hgB _
theorem here_any (B p h b : Nat) (ka : Option Addr) (kn kc' : Nat) (c : CodeD) (hb : b < c.blocks.length) (_hbl : c.blocks.length <= 1000000) (w : World) (hc : CodeAt w B p h c) :
  Calls prog 86 #[blkV p b ka kn kc'] w (Ret (.int .i64 (hereC c b : Int)) w) := by
 obtain ⟨g, cg, ch, vs, k⟩ := hc
 obtain ⟨l, hl⟩ : ∃ l, c.blocks[b]? = some l := ⟨_, List.getElem?_eq_getElem hb⟩
 obtain ⟨v, hv⟩ : ∃ v, vs[b]? = some v := ⟨_, List.getElem?_eq_getElem (by rw [k.len]; exact hb)⟩
 have hH : hereC c b = l.length := by unfold hereC; rw [List.getD_eq_getElem?_getD, hl]; rfl
 rw [hH]
 obtain ⟨va, vc, rfl⟩ := own_shape (k.each b v l hv hl)
 have q0 := k.cells.1
 obtain ⟨qv, qf⟩ := own_cell k.rows hv
 obtain ⟨cur, hgB, _, hgh, hgc, hgs, hgt⟩ := own_lies k.rows
 have hpl := heap_in k.box
 have hgl := heap_in hgh
 clear k hH hgt hgs hgh
 unfold blkV at *
 go_enter func86, ntmps86
 go_wp2
 refine wp_abs fun w1 hb1 => ?_
 have hb01 : Below w.heap.size w w1 := belx
 have e0 := (hb01.cell (p := ⟨p, 0, none⟩) hpl).trans q0
 have ev := (hb01.cell (p := ⟨g, b, none⟩) hgl).trans qv
 have k0 : Blk w1 w.heap.size #[.pointer (some ⟨p, 0, none⟩), .int .i64 (b : Int), .slice ka kn kc'] := (Blk.new rfl).below hb1
 obtain ⟨f0, g0, z0⟩ := k0.facts
 have zp : p < w1.heap.size := by have := hb01.size; omega
 have zg : g < w1.heap.size := by have := hb01.size; omega
 clear hb1 q0 qv
 have hbI : (b : Int) < (c.blocks.length : Int) := by omega
 have kc := gcell w1
 refine region_below (by kernel_rfl) (by kernel_rfl) ?_
 repeat (quiet_step (fail))
 refine wpQuiet_nil ?_
 intro w2 hb2
 go_wp2
 go_ret
 exact Ret.mk' rfl (after hb01 hb2)
end Go.Proofs.YtlpgigdegnbkmaaGreatDoor
