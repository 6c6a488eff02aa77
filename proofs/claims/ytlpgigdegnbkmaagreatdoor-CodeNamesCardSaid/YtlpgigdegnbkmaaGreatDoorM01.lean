import Derived.Deep.RegionHeld
import Derived.WalkKit
import Derived.StillTail
import Derived.Deep.Quiet
import Derived.Lib.QuietBelow
import Derived.Test.YtlpgigdegnbkmaaGreatDoorProg
import Derived.WalkLawsBesides
import Derived.WalkSpells
import Derived.Lib.Hide
import Derived.Lib.MapLaws
import Derived.Lib.ValidLaws
import Derived.Lib.Replace
import Derived.Lib.LastIndexByte
import Derived.Lib.AtoiAll
import Derived.Lib.Itoa
import Derived.OwnWalk
import Derived.Laws.AppendOwnNone
namespace Go
theorem belx {p : Prop} (h : p := by repeat' (first | with_reducible assumption | with_reducible exact Below.refl _ _ | with_reducible refine allocB ?_ | with_reducible refine setB ?_ ?_ | with_reducible refine drewB ?_ | with_reducible refine after ?_ (by assumption) | (simp; omega) | omega)) : p := h
theorem blkx {p : Prop} (h : p := by apply Blk.eq; (repeat' (first | with_reducible assumption | with_reducible apply Blk.set | with_reducible apply Blk.other | with_reducible exact Blk.new rfl | with_reducible apply Blk.alloc | omega)); rfl) : p := h
theorem blnx {p : Prop} (h : p := by apply Blk.eq; (repeat' (first | with_reducible assumption | with_reducible apply Blk.set | with_reducible apply Blk.other | (with_reducible refine Blk.new ?_; simp; done) | with_reducible apply Blk.alloc | omega)); rfl) : p := h
end Go
namespace Tab
abbrev Bs := List UInt8
def colL (n : Int) : Bs := if n < 0 \/ 52 <= n then [] else if n < 26 then [(65 + n).toNat.toUInt8] else [(65 + n / 26 - 1).toNat.toUInt8, (65 + n % 26).toNat.toUInt8]
def colE (n : Int) : Int := if n < 0 \/ 52 <= n then 20 else 0
theorem colL_out (n : Int) (h : n < 0 \/ 52 <= n) : colL n = [] := by rw [colL, if_pos h]
theorem colE_out (n : Int) (h : n < 0 \/ 52 <= n) : colE n = 20 := by rw [colE, if_pos h]
theorem colE_in (n : Int) (h : 0 <= n) (h2 : n < 52) : colE n = 0 := by rw [colE, if_neg (by omega)]
theorem colL_one (n : Int) (h : 0 <= n) (h2 : n < 26) : colL n = [(65 + n).toNat.toUInt8] := by rw [colL, if_neg (by omega), if_pos h2]
theorem colL_two (n : Int) (h : 26 <= n) (h2 : n < 52) : colL n = [UInt8.ofNat ((65 + n / 26).toNat - 1), UInt8.ofNat (65 + n % 26).toNat] := by
 rw [colL, if_neg (by omega), if_neg (by omega)]
 have : (65 + n / 26 - 1).toNat = (65 + n / 26).toNat - 1 := by omega
 rw [this]
def pickI (c n : Int) : Int := (if c < 0 then -(c + 1) else c) % n
def isLetter (c : Int) : Bool := decide (65 <= c /\ c <= 90 \/ 97 <= c /\ c <= 122)
def areaOk (sheet row col rows cols : Int) : Bool := decide (0 <= sheet /\ sheet < 8 /\ 0 <= row /\ row < 200 /\ 0 <= col /\ col < 52 /\ 1 <= rows /\ rows <= 200 - row /\ 1 <= cols /\ cols <= 52 - col)
structure AreaD where
 sheet : Int
 row : Int
 col : Int
 rows : Int
 cols : Int
 deriving DecidableEq
def AreaD.ok (a : AreaD) : Bool := areaOk a.sheet a.row a.col a.rows a.cols
def AreaD.zero : AreaD := ⟨0, 0, 0, 0, 0⟩
end Tab
namespace Tab
open Go Go.RowKit
section
variable {P : Program} {ops : Array Oper} {md : Region.Mode} {C : World -> Prop}
def HeadQ (P : Program) (md : Region.Mode) (ops : Array Oper) (C : World -> Prop) (n : Nat) (L : Array Bool -> Act -> Prop) : Nat -> Array Bool -> Act -> Prop
 | 0, done, a => L done a
 | f + 1, done, a => Region.ready md ops done ≠ [] /\ ∀ i ∈ Region.ready md ops done, i < n /\ qOp P ops C i (HeadQ P md ops C n L f (done.setIfInBounds i true)) a
theorem HeadQ.any {n g : Nat} {L : Array Bool -> Act -> Prop} {R : Exit -> Act -> World -> Prop} (hL : ∀ done a w, C w -> L done a -> wpAny P md ops R g done a w) :
  ∀ (f : Nat) (done : Array Bool) (a : Act) (w : World), C w -> HeadQ P md ops C n L f done a -> wpAny P md ops R (f + g) done a w := by
 intro f
 induction f with
 | zero => intro done a w hw h; rw [Nat.zero_add]; exact hL _ _ _ hw h
 | succ f ih =>
  intro done a w hw h
  rw [Nat.add_right_comm]
  refine ⟨fun e => absurd e h.1, fun i hi => ?_⟩
  exact wpOp_of_qOp hw (fun a' w' hw' h' => ih _ a' w' hw' h') (h.2 i hi).2
theorem HeadQ.early {n i : Nat} {o : Oper} {v : Value} {L : Array Bool -> Act -> Prop} (ho : ops[i]? = some o) (nosel : ∀ (j : Nat) (x : Oper) cs b, ops[j]? = some x -> x.op ≠ .select cs b)
  (hs : Region.sinkB md ops n = true) (hc : Region.chainB md ops n = true) (hn : n < ops.size) (hin : i < n) (hL : ∀ done a, L done a -> ∀ j ∈ Region.ready md ops done, n <= j) :
  ∀ (f : Nat) (done : Array Bool) (a : Act), HeadInv md ops n done ->
   (∀ j x, ops[j]? = some x -> j ≠ i -> done.getD j true = false -> (∀ e ∈ x.after, Region.binds md e = true -> e.on ≠ i) -> o.apart ops x = true) ->
   i ∈ Region.ready md ops done -> YieldsIn P ops C o v a -> HeadQ P md ops C n L f (done.setIfInBounds i true) (a.put o.dst v) -> HeadQ P md ops C n L (f + 1) done a := by
 intro f
 induction f with
 | zero =>
  intro done a inv _ hr hy H
  have hun := (mem_ready.1 hr).1
  refine ⟨List.ne_nil_of_mem hr, fun j hj => ?_⟩
  have hjn : j < n := Nat.lt_of_not_le fun h => tail_waits hs hc hn inv _ i rfl hin hun j h hj
  refine ⟨hjn, ?_⟩
  by_cases e : j = i
  ·cases e; exact hy.qOp ho H
  ·exact absurd (hL _ _ H j (ready_mono hj e)) (by omega)
 | succ f ih =>
  intro done a inv free hr hy H
  have hun := (mem_ready.1 hr).1
  refine ⟨List.ne_nil_of_mem hr, fun j hj => ?_⟩
  have hjn : j < n := Nat.lt_of_not_le fun h => tail_waits hs hc hn inv _ i rfl hin hun j h hj
  refine ⟨hjn, ?_⟩
  by_cases e : j = i
  ·cases e; exact hy.qOp ho H
  obtain ⟨hju, x, hx, hall⟩ := mem_ready.1 hj
  have waits : ∀ e ∈ x.after, Region.binds md e = true -> e.on ≠ i := by
   intro e he hb heq
   have := hall e he hb
   rw [heq, getD_both hun] at this
   cases this
  have moved := qOp_put hx (free j x hx e hju waits) (fun cs b => nosel i o cs b ho) (fun cs b => nosel j x cs b hx) hy (H.2 j (ready_mono hj e)).2
  refine qOp_mono (fun a' k => ?_) moved
  refine ih _ a' (inv.set hj hjn) (fun m y hm hmi hmu hw => ?_) (ready_mono hr (Ne.symm e)) k.1 ?_
  ·refine free m y hm hmi ?_ hw
   by_cases hjm : j = m
   ·cases hjm; exact hju
   ·rwa [getD_set_ne true hjm] at hmu
  ·rw [Array.setIfInBounds_comm _ _ e]; exact k.2
theorem HeadQ.lex {n g : Nat} {K : Act -> Prop} (nosel : Region.noSelect ops = true) (hs : Region.sinkB md ops n = true) (hc : Region.chainB md ops n = true) (hn : n < ops.size) :
  ∀ (l : List Oper) (k : Nat) (done : Array Bool) (a : Act), (∀ j, j < l.length -> l[j]? = ops[k + j]?) -> k + l.length = n -> HeadInv md ops n done ->
   Region.lexHead md ops g l.length k done = true -> wpQuiet P ops C K l a -> HeadQ P md ops C n (fun d b => Region.seqB md ops g n d = true /\ K b) l.length done a := by
 intro l
 induction l with
 | nil =>
  intro k done a _ hk _ hB h
  have e : k = n := by simpa using hk
  rw [e] at hB
  exact ⟨by simpa [Region.lexHead] using hB, h⟩
 | cons o l ih =>
  intro k done a hl hk inv hB h
  have ho : ops[k]? = some o := by have := hl 0 (by simp); simpa using this.symm
  simp only [List.length_cons, Region.lexHead, Bool.and_eq_true] at hB
  simp only [List.length_cons] at hk
  have hr : k ∈ Region.ready md ops done := by simpa using hB.1.1
  have hq : qOp P ops C k (wpQuiet P ops C K l) a := by unfold qOp; simp only [ho]; exact h
  obtain ⟨v, hy, hK⟩ := yieldsIn_of_qOp ho hq
  refine HeadQ.early ho (Region.noSelect_spec nosel) hs hc hn (by omega) (fun d b hd => seqB_ready hd.1) l.length done a inv (Region.free_spec ho hB.1.2) hr hy ?_
  refine ih (k + 1) _ _ (fun j hj => ?_) (by omega) (inv.set hr (by omega)) hB.2 hK
  have := hl (j + 1) (by simp; omega)
  rw [List.getElem?_cons_succ] at this
  rw [this]; congr 1; omega
theorem region_head_tail {id : Nat} {Q : Exit -> Act -> World -> Prop} {a : Act} {w : World} {l : List Oper} (n : Nat) (hm : P.follows .mixedOrders = true) (hB : Region.lexTailB .any l.toArray n = true)
  (hC : C { w with drawn := w.drawn + 1 }) (h : wpQuiet P l.toArray C (fun a' => ∀ w', C w' -> wpList P l.toArray Q (l.drop n) a' w') (l.take n) a) : (Code.region id l.toArray true).wp P Q a w := by
 simp only [Region.lexTailB, Bool.and_eq_true, decide_eq_true_eq] at hB
 obtain ⟨⟨⟨⟨nosel, hn⟩, hs⟩, hc⟩, hlex⟩ := hB
 have hnl : n < l.length := by simpa using hn
 have e1 : (l.take n).length = n := by rw [List.length_take]; omega
 have e2 : (l.drop n).length = l.toArray.size - n := by simp
 have start : HeadInv .any l.toArray n (Array.replicate l.toArray.size false) :=
  ⟨by simp, fun j _ _ hl => absurd hl (by rw [getD_replicate_false]; exact Bool.false_ne_true), fun t _ ht => getD_in (by simpa using ht) (getD_replicate_false _ _)⟩
 have H := HeadQ.lex (md := .any) (C := C) (g := l.toArray.size - n) nosel hs hc hn (l.take n) 0 _ a
  (fun j hj => by rw [e1] at hj; simp [hj]) (by simpa using e1) start (by rw [e1]; exact hlex) h
 have A := HeadQ.any (R := Q) (g := l.toArray.size - n) (fun d b w' hw' hd => by
  have := wpAny_of_seq (md := .any) (Q' := Q) (l.drop n) n d b w' (fun j => by simp [List.getElem?_drop]) (by rw [e2]; exact hd.1) (hd.2 w' hw')
  rwa [e2] at this) _ _ _ _ hC H
 rw [e1, show n + (l.toArray.size - n) = l.toArray.size from by omega] at A
 exact wp_region_any hm A
theorem region_below_tail {id : Nat} {Q : Exit -> Act -> World -> Prop} {a : Act} {w : World} {l : List Oper} (n : Nat) (hm : P.follows .mixedOrders = true) (hB : Region.lexTailB .any l.toArray n = true)
  (h : wpQuiet P l.toArray (fun w' => ∃ p : Regrown, w' = Sort.grow (redrawn w p.d) p.os) (fun a' => ∀ w', Below w.heap.size w w' -> wpList P l.toArray Q (l.drop n) a' w') (l.take n) a) : (Code.region id l.toArray true).wp P Q a w := by
 refine region_head_tail (C := fun w' => ∃ p : Regrown, w' = Sort.grow (redrawn w p.d) p.os) n hm hB ⟨⟨w.drawn + 1, #[]⟩, by rw [Sort.grow_empty]; rfl⟩ ?_
 have : (fun a' => ∀ w', Below w.heap.size w w' -> wpList P l.toArray Q (l.drop n) a' w') = (fun a' => ∀ w', (∃ p : Regrown, w' = Sort.grow (redrawn w p.d) p.os) -> wpList P l.toArray Q (l.drop n) a' w') := by
  funext a'
  apply propext
  constructor
  ·rintro h w' ⟨p, rfl⟩; exact h _ (below_regrown w p.d p.os)
  ·intro h w' hb; exact h w' (regrown_of_below hb)
 rw [this] at h
 exact h
theorem region_below {id : Nat} {Q : Exit -> Act -> World -> Prop} {a : Act} {w : World} {l : List Oper} (hm : P.follows .mixedOrders = true) (hB : Region.lexB .any l.toArray = true)
  (h : wpQuiet P l.toArray (fun w' => ∃ p : Regrown, w' = Sort.grow (redrawn w p.d) p.os) (fun a' => ∀ w', Below w.heap.size w w' -> Q .normal a' w') l a) : (Code.region id l.toArray true).wp P Q a w := by
 refine wp_region_quiet_below hm hB ?_
 have : (fun a' => ∀ w', Below w.heap.size w w' -> Q .normal a' w') = (fun a' => ∀ w', (∃ p : Regrown, w' = Sort.grow (redrawn w p.d) p.os) -> Q .normal a' w') := by
  funext a'
  apply propext
  constructor
  ·rintro h w' ⟨p, rfl⟩; exact h _ (below_regrown w p.d p.os)
  ·intro h w' hb; exact h w' (regrown_of_below hb)
 rw [this] at h
 exact h
end
end Tab
namespace Go.Proofs.YtlpgigdegnbkmaaGreatDoor
open Go.RowKit
def Ret (v : Value) (w : World) (e : Ending) (w' : World) : Prop := e = .returned v /\ Below w.heap.size w w'
theorem Ret.mk' {v v' : Value} {w w' : World} (h : v = v') (hb : Below w.heap.size w w') : Ret v' w (.returned v) w' := ⟨by rw [h], hb⟩
theorem Ret.mk2 {a a' b b' : Value} {w w' : World} (h : a = a') (h2 : b = b') (hb : Below w.heap.size w w') : Ret (.tuple #[a', b']) w (.returned (.tuple #[a, b])) w' := ⟨by rw [h, h2], hb⟩
theorem Ret.mk3 {a a' b b' c c' : Value} {w w' : World} (h : a = a') (h2 : b = b') (h3 : c = c') (hb : Below w.heap.size w w') : Ret (.tuple #[a', b', c']) w (.returned (.tuple #[a, b, c])) w' := ⟨by rw [h, h2, h3], hb⟩
def strV (l : Tab.Bs) : Value := .string ⟨l.toArray⟩
theorem strV_eq {x : ByteArray} {l : Tab.Bs} (h : x.data.toList = l) : Value.string x = strV l := by
 obtain ⟨⟨x⟩⟩ := x; subst h; rfl
theorem ba_append (a b : ByteArray) : (a ++ b).data.toList = a.data.toList ++ b.data.toList := by rw [ByteArray.data_append, Array.toList_append]
theorem ba_extract (s : ByteArray) (i j : Nat) : (s.extract i j).data.toList = (s.data.toList.take j).drop i := by
 rw [ByteArray.data_extract, Array.toList_extract]; simp [List.extract, List.drop_take]
theorem take_snoc (s : ByteArray) (k : Nat) (h : k < s.size) : s.data.toList.take (k + 1) = s.data.toList.take k ++ [s[k]] := by
 rw [List.take_succ_eq_append_getElem (by simpa using h)]; rfl
theorem ba_size (s : ByteArray) : s.data.toList.length = s.size := rfl
theorem bcell {W w1 : World} (hb : Below W.heap.size W w1) : (∀ b o, b < W.heap.size -> w1.cell? ⟨b, o, none⟩ = W.cell? ⟨b, o, none⟩) /\ (∀ b o, b < W.heap.size -> w1.frozen? ⟨b, o, none⟩ = W.frozen? ⟨b, o, none⟩) :=
 ⟨fun b o h => hb.cell (p := ⟨b, o, none⟩) h, fun b o h => hb.frozen (p := ⟨b, o, none⟩) h⟩
theorem after {w W w1 : World} (h : Below w.heap.size w W) (h1 : Below W.heap.size W w1) : Below w.heap.size w w1 := h.trans (h1.mono h.size)
theorem drewN_abs (w : World) (n : Nat) : ∃ w3, w.drewN n = w3 /\ Below w.heap.size w w3 := ⟨_, rfl, below_drewN (Below.refl _ _) n⟩
theorem allocB {w W : World} {o : Obj} (h : Below w.heap.size w W) : Below w.heap.size w (W.alloc o) := h.alloc h.size o
theorem setB {w W : World} {b o : Nat} {u : Value} (h : Below w.heap.size w W) (hb : w.heap.size <= b) : Below w.heap.size w (W.setCell ⟨b, o, none⟩ u) := h.setCell hb u
theorem drewB {w W : World} (h : Below w.heap.size w W) : Below w.heap.size w W.drew := h.drew
theorem wp_abs {P : Program} {c : Code} {Q : Exit -> Act -> World -> Prop} {a : Act} {W : World} (h : ∀ w1, Below W.heap.size W w1 -> c.wp P Q a w1) : c.wp P Q a W := h W (Below.refl _ _)
def Blk (w : World) (b : Nat) (C : Array Value) : Prop := ∃ T, w.heap[b]? = some (.cells C T (0, 0))
theorem Blk.facts {w : World} {b : Nat} {C : Array Value} (h : Blk w b C) : (∀ o, w.cell? ⟨b, o, none⟩ = C[o]?) /\ (∀ o, w.frozen? ⟨b, o, none⟩ = false) /\ b < w.heap.size := by
 obtain ⟨T, h⟩ := h
 refine ⟨fun o => by unfold World.cell?; simp [h], fun o => by unfold World.frozen?; simp [h], ?_⟩
 rcases Nat.lt_or_ge b w.heap.size with h' | h'
 ·exact h'
 ·rw [Array.getElem?_eq_none h'] at h; cases h
theorem Blk.set {w : World} {b i : Nat} {C : Array Value} {v : Value} (h : Blk w b C) : Blk (w.setCell ⟨b, i, none⟩ v) b (C.setIfInBounds i v) := by
 obtain ⟨T, h⟩ := h
 refine ⟨T, ?_⟩
 simp [World.setCell, Array.getElem?_modify, h]
theorem Blk.other {w : World} {b b' i : Nat} {C : Array Value} {v : Value} (h : Blk w b C) (hb : b' ≠ b) : Blk (w.setCell ⟨b', i, none⟩ v) b C := by
 obtain ⟨T, h⟩ := h
 refine ⟨T, ?_⟩
 simp [World.setCell, Array.getElem?_modify, h, hb]
theorem Blk.below {w w1 : World} {b : Nat} {C : Array Value} (h : Blk w b C) (hb : Below w.heap.size w w1) : Blk w1 b C := by
 have hl := h.facts.2.2
 obtain ⟨T, h⟩ := h
 exact ⟨T, (hb.block b hl).trans h⟩
theorem Blk.alloc {w : World} {b : Nat} {C : Array Value} {o : Obj} (h : Blk w b C) : Blk (w.alloc o) b C := h.below ((Below.refl _ _).alloc (Nat.le_refl _) o)
theorem Blk.new {w : World} {n : Nat} {C : Array Value} {T : TypeId} (hn : n = w.heap.size) : Blk (w.alloc (.cells C T)) n C := ⟨T, by subst hn; exact Array.getElem?_push_size⟩
theorem Blk.eq {w : World} {b : Nat} {C C' : Array Value} (h : Blk w b C) (e : C = C') : Blk w b C' := e ▸ h
theorem wp_abs2 {P : Program} {c : Code} {Q : Exit -> Act -> World -> Prop} {a : Act} {W : World} (F : World -> Prop) (hF : F W) (h : ∀ w1, F w1 -> c.wp P Q a w1) : c.wp P Q a W := h W hF
theorem gcell (w : World) (d : Nat) (os : Array Obj) (b o : Nat) (h : b < w.heap.size) : (Sort.grow (redrawn w d) os).cell? ⟨b, o, none⟩ = w.cell? ⟨b, o, none⟩ := (below_regrown w d os).cell (p := ⟨b, o, none⟩) h
theorem Ret.grown {P : Program} {f : FuncId} {args : Array Value} {w : World} {d : Nat} {os : Array Obj} {v : Value} (h : ∀ W, Below w.heap.size w W -> Calls P f args W (Ret v W)) :
  Calls P f args (Sort.grow (redrawn w d) os) fun e w'' => e = .returned v /\ ∃ p : Regrown, w'' = Sort.grow (redrawn w p.d) p.os := Calls.regrown_of (h _ (below_regrown w d os))
def Still (v : Value) (w : World) (e : Ending) (w' : World) : Prop := e = .returned v /\ w = w'
theorem Still.mk' {v v' : Value} {w : World} (h : v = v') : Still v' w (.returned v) w := ⟨by rw [h], rfl⟩
theorem Still.ret {v : Value} {w w' : World} {e : Ending} (h : Still v w e w') : Ret v w e w' := by obtain ⟨rfl, rfl⟩ := h; exact ⟨rfl, Below.refl _ _⟩
def areaV (a : Tab.AreaD) : Value := .agg #[.int .i64 a.sheet, .int .i64 a.row, .int .i64 a.col, .int .i64 a.rows, .int .i64 a.cols]
end Go.Proofs.YtlpgigdegnbkmaaGreatDoor
namespace Tab
open Go.Lib
def isLetterB (b : UInt8) : Bool := isLetter b.toNat
def isDigitB (b : UInt8) : Bool := decide (48 <= b.toNat /\ b.toNat <= 57)
def okByte (b : UInt8) : Bool := decide (32 <= b.toNat /\ b.toNat ≠ 127)
def nameB (l : Bs) : Bool := l.all okByte && (!l.isEmpty && decide (l.length <= 30) && validD l)
def plainFrom : Bool -> Bs -> Bool
 | _, [] => true
 | first, b :: r => (isLetterB b || b == 95 || (isDigitB b && !first)) && plainFrom false r
def plainB (l : Bs) : Bool := plainFrom true l && !l.isEmpty
def rightB (s : Bs) (row col : Int) (fr fc bad : Bool) : Bool :=
 if bad then s.isEmpty && row == 0 && col == 0 && !fr && !fc
 else (s.isEmpty || nameB s) && decide (0 <= row /\ row < 200 /\ 0 <= col /\ col < 52)
def upI (c : Int) : Int := if 97 <= c /\ c <= 122 then c - 32 else c
structure RefD where
 s : ByteArray
 row : Int
 col : Int
 fr : Bool
 fc : Bool
 bad : Bool
def RefD.right (r : RefD) : Bool := rightB r.s.data.toList r.row r.col r.fr r.fc r.bad
def RefD.zero : RefD := ⟨⟨#[]⟩, 0, 0, false, false, false⟩
def findCol (g : Bs) : Nat -> Nat -> Option Nat
 | 0, _ => none
 | n + 1, k => if colL k == g then some k else findCol g n (k + 1)
def colOf (l : Bs) : Option Nat := if 2 < l.length then none else findCol (mapD upI l) 52 0
theorem decode_facts (b : UInt8) (r : Bs) : (b.toNat < 128 /\ decodeL (b :: r) = (b.toNat, 1)) \/ (128 <= b.toNat /\ 128 <= (decodeL (b :: r)).1 /\ ∀ x ∈ (b :: r).take (decodeL (b :: r)).2, 128 <= x.toNat) := by
 rw [decodeL_N]
 generalize hl : b :: r = l
 have h0 : l.getD 0 0 = b := by rw [<- hl]; rfl
 have hlen : 0 < l.length := by rw [<- hl]; simp
 have k1 := (l.getD 1 0).toNat_lt
 have k2 := (l.getD 2 0).toNat_lt
 have k3 := (l.getD 3 0).toNat_lt
 rw [h0]
 rcases decodeN_shape l.length b.toNat (l.getD 1 0).toNat (l.getD 2 0).toNat (l.getD 3 0).toNat with ⟨c, e⟩ | ⟨c1, c2, c3, cv, e⟩ | ⟨c1, c2, c3, c4, cv, cs, e⟩ | ⟨c1, c2, c3, c4, c5, cv, cw, e⟩ | e
 ·exact .inl ⟨c, e⟩
 ·refine .inr ⟨by omega, by rw [e]; exact cv, ?_⟩
  rw [e]; dsimp only; rw [takeB l c2, h0]
  intro x hx; simp only [List.mem_cons, List.not_mem_nil, or_false] at hx; rcases hx with rfl | rfl <;> omega
 ·refine .inr ⟨by omega, by rw [e]; dsimp only; omega, ?_⟩
  rw [e]; dsimp only; rw [takeC l c2, h0]
  intro x hx; simp only [List.mem_cons, List.not_mem_nil, or_false] at hx; rcases hx with rfl | rfl | rfl <;> omega
 ·refine .inr ⟨by omega, by rw [e]; dsimp only; omega, ?_⟩
  rw [e]; dsimp only; rw [takeD l c2, h0]
  intro x hx; simp only [List.mem_cons, List.not_mem_nil, or_false] at hx; rcases hx with rfl | rfl | rfl | rfl <;> omega
 ·by_cases hb : b.toNat < 128
  ·refine .inl ⟨hb, ?_⟩
   unfold decodeN; rw [if_pos hb]
  ·refine .inr ⟨by omega, by rw [e]; decide, ?_⟩
   rw [e]; dsimp only; rw [takeA l hlen, h0]
   intro x hx; simp only [List.mem_cons, List.not_mem_nil, or_false] at hx; subst hx; omega
theorem ok_high (b : UInt8) (h : 128 <= b.toNat) : okByte b = true := by simp only [okByte, decide_eq_true_eq]; omega
theorem ok_step (l : Bs) (hne : l ≠ []) : l.all okByte = (decide (¬ (((decodeL l).1 : Int) < 32 \/ ((decodeL l).1 : Int) = 127)) && (l.drop (decodeL l).2).all okByte) := by
 obtain ⟨b, r, rfl⟩ : ∃ b r, l = b :: r := by cases l with | nil => exact absurd rfl hne | cons b r => exact ⟨b, r, rfl⟩
 rcases decode_facts b r with ⟨hb, e⟩ | ⟨hb, hr, ha⟩
 ·rw [e]
  simp only [List.drop_succ_cons, List.drop_zero, List.all_cons]
  congr 1
  simp only [okByte]; rw [decide_eq_decide]; omega
 ·have h1 : ((b :: r).take (decodeL (b :: r)).2).all okByte = true := by
   rw [List.all_eq_true]; intro x hx; exact ok_high x (ha x hx)
  have h2 : decide (¬ (((decodeL (b :: r)).1 : Int) < 32 \/ ((decodeL (b :: r)).1 : Int) = 127)) = true := decide_eq_true (by omega)
  rw [h2, Bool.true_and]
  conv => lhs; rw [<- List.take_append_drop (decodeL (b :: r)).2 (b :: r)]
  rw [List.all_append, h1, Bool.true_and]
def okRune (first : Bool) (c : Int) : Bool := isLetter c || c == 95 || (decide (48 <= c /\ c <= 57) && !first)
theorem plain_step (first : Bool) (l : Bs) (hne : l ≠ []) : plainFrom first l = (okRune first (decodeL l).1 && plainFrom false (l.drop (decodeL l).2)) := by
 obtain ⟨b, r, rfl⟩ : ∃ b r, l = b :: r := by cases l with | nil => exact absurd rfl hne | cons b r => exact ⟨b, r, rfl⟩
 rcases decode_facts b r with ⟨hb, e⟩ | ⟨hb, hr, ha⟩
 ·rw [e]
  simp only [List.drop_succ_cons, List.drop_zero, plainFrom, okRune]
  congr 1
  have h1 : (b == 95) = (((b.toNat : Nat) : Int) == 95) := by
   rw [Bool.eq_iff_iff, beq_iff_eq, beq_iff_eq]
   constructor
   ·rintro rfl; rfl
   ·intro h; have h' : b.toNat = 95 := by omega
    exact UInt8.toNat_inj.1 h'
  have h2 : isDigitB b = decide (48 <= ((b.toNat : Nat) : Int) /\ ((b.toNat : Nat) : Int) <= 57) := by
   simp only [isDigitB]; rw [decide_eq_decide]; omega
  rw [h1, h2]; rfl
 ·have h1 : okRune first (decodeL (b :: r)).1 = false := by
   generalize (decodeL (b :: r)).1 = c at *
   simp only [okRune, isLetter]
   rw [decide_eq_false (by omega), decide_eq_false (by omega)]
   simp; omega
  have h2 : plainFrom first (b :: r) = false := by
   simp only [plainFrom, isLetterB, isLetter, isDigitB]
   rw [decide_eq_false (by omega), decide_eq_false (by omega)]
   have : (b == 95) = false := by
    rw [beq_eq_false_iff_ne]; rintro rfl; revert hb; decide
   rw [this]; simp
  rw [h1, h2]; simp
end Tab
namespace Go.Proofs.YtlpgigdegnbkmaaGreatDoor
open Go.RowKit
def Held (p : Prop) : Prop := p
theorem held {p : Prop} (h : Held p) : p := h
theorem own_row {w : World} {base n size : Nat} {e : TypeId} {v : Value} {xs : List Value} (h : w.ownsRow base e size v n xs) : ∀ k, v.ownBlock = some k -> base <= k := by
 intro k hk
 rcases h.2 with ⟨rfl, _⟩ | ⟨g, cap, cur, rfl, hb, _⟩
 ·cases hk
 ·injection hk with hk; subst hk; exact hb
theorem own_below {w W : World} {base n size : Nat} {e : TypeId} {v : Value} {xs : List Value} (h : w.ownsRow base e size v n xs) (hb : Below w.heap.size w W) : W.ownsRow base e size v n xs := by
 refine ⟨h.1, ?_⟩
 rcases h.2 with h | ⟨g, cap, cur, h1, h2, h3, h4⟩
 ·exact .inl h
 ·refine .inr ⟨g, cap, cur, h1, h2, ?_, h4⟩
  have hg : g < w.heap.size := (Array.getElem?_eq_some_iff.1 h3).1
  rw [hb.block g hg]; exact h3
theorem wpList_want {P : Program} {w : World} {ops : Array Oper} {rest : List Oper} {o : Oper} {a : Act} {Q : Exit -> Act -> World -> Prop} (hw : Region.wanted o (yielded ops a.tmps) = true)
  (h : ∀ K : Act -> World -> Prop, (∀ a w, wpList P ops Q rest a w -> K a w) -> o.wp P a w K Q) : wpList P ops Q (o :: rest) a w :=
 wpList_step fun K hK => by rw [if_pos hw]; exact h K hK
theorem wp_append_none {P : Program} {w : World} {o : Oper} {a : Act} {K : Act -> World -> Prop} {Q : Exit -> Act -> World -> Prop} (s x : Operand) (t : TypeId)
  (ho : o.op = .call { callee := .builtin .append, args := #[s, x], argTypes := #[t, t] })
  (base : Nat) (e : TypeId) (i : TypeInfo) (size : Nat) (ht : P.underlying t = some (.slice e)) (hi : P.info? e = some i)
  (v : Value) (n : Nat) (xs : List Value) (hs : a.eval s = v) (hown : w.ownsRow base e size v n xs) (hx : a.eval x = .slice none 0 0)
  (h : K (a.put o.dst v) w) : o.wp P a w K Q := by
 have hrun := run_append_owned_none (P := P) (w := w) base t o.type e i size ht hi v n xs hown
 unfold Oper.wp
 simp [execOp, ho, resolve, invoke, builtin, hs, hx, hrun, Result.andThen]
 exact h
theorem Blk.grown {w W : World} {b : Nat} {C : Array Value} {row : Option Nat} (h : Blk w b C) (hg : w.grownBy W row) (hr : row ≠ some b) : Blk W b C := by
 have hl := h.facts.2.2
 obtain ⟨T, h2⟩ := h
 exact ⟨T, (hg.block b hl (fun e => hr e.symm)).trans h2⟩
def decV (p : Int × Int) : Value := .agg #[.int .i64 p.1, .int .i64 p.2]
end Go.Proofs.YtlpgigdegnbkmaaGreatDoor
namespace Go
section
variable {P : Program} {ops : Array Oper} {rest : List Oper} {o : Oper} {a a' : Act} {w w' : World} {Q : Exit → Act → World → Prop}
theorem st (h : wpList P ops Q rest a' w') (hy : ∀ K : Act → World → Prop, K a' w' → o.wp P a w K Q := by (intro K hK; go_simp; exact hK)) (hg : o.guard = none := by rfl) : wpList P ops Q (o :: rest) a w := wpList_plain hg fun K hK => hy K (hK _ _ h)
theorem sx (h : wpList P ops Q rest a' w') (hy : ∀ K : Act → World → Prop, K a' w' → o.wp P a w K Q := by (intro K hK; go_simp; exact hK)) (hw : Region.wanted o (yielded ops a.tmps) = true := by rfl) : wpList P ops Q (o :: rest) a w := Go.Proofs.YtlpgigdegnbkmaaGreatDoor.wpList_want hw fun K hK => hy K (hK _ _ h)
theorem ar {md : Region.Mode} {S : World → Prop} {fuel : Nat} {listed : Array Bool} (i : Nat) (h : ∀ K' : Act → World → Prop, Shut (∀ a w, S w → (S w → wpAnyH P md ops Q S fuel (listed.setIfInBounds i true) a w) → K' a w) → if Region.wanted o (yielded ops a.tmps) = true then Oper.wp P o a w K' Q else K' (a.put o.dst undef) w) (ho : ops[i]? = some o := by rfl) (hr : Region.ready md ops listed = [i] := by kernel_rfl) : wpAnyH P md ops Q S (fuel + 1) listed a w := wpAnyH_ready hr (by simp) (AllReadyH.cons ho h AllReadyH.nil)
end
theorem kq {w W : World} {k : Nat} {o : Obj} (h : RowKit.Below w.heap.size w W) (q : w.heap[k]? = some o) : W.heap[k]? = some o := (h.block _ (Array.getElem?_eq_some_iff.1 q).1).trans q
abbrev On1 (T : TypeId) (w : World) (C : Array Value) : World → Prop := fun W => RowKit.Below w.heap.size w W ∧ W.heap[w.heap.size]? = some (.cells C T (0, 0))
end Go
