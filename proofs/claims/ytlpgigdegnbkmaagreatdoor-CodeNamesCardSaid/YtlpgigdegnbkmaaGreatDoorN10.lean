import Derived.Lib.IndexMore
import Derived.Test.YtlpgigdegnbkmaaGreatDoorN08
import Derived.Test.YtlpgigdegnbkmaaGreatDoorM37
import Derived.Test.YtlpgigdegnbkmaaGreatDoorM46
set_option maxRecDepth 100000
set_option maxHeartbeats 8000000
namespace Tab
open Go
def swapF (a b : Bs) : Bs -> Bs -> Bs
 | w, [] => if w = a then b else w
 | w, c :: r => if c = 44 \/ c = 59 then (if w = a then b else w) ++ c :: swapF a b [] r else swapF a b (w ++ [c]) r
def swapS (a b s : Bs) : Bs := swapF a b [] s
def swN (a b x : Bs) : Bs := if x = a then b else x
def swapI (a b : Bs) (x : InsD) : InsD := if x.op = 15 \/ x.op = 17 \/ x.op = 18 then { x with s := swapS a b x.s } else x
def swapC (a b : Bs) (c : CodeD) : CodeD := ⟨c.blocks.map fun l => l.map (swapI a b), c.params.map (swapS a b)⟩
def OneW (s : Bs) : Prop := ∀ c ∈ s, c ≠ 44 /\ c ≠ 59
theorem swapF_one (a b : Bs) : ∀ (s w : Bs), OneW s -> swapF a b w s = swN a b (w ++ s)
 | [], w, _ => by rw [swapF, List.append_nil]; rfl
 | c :: s, w, h => by
  have hc := h c (List.mem_cons_self ..)
  rw [swapF, if_neg (fun e => e.elim hc.1 hc.2), swapF_one a b s _ fun x hx => h x (List.mem_cons_of_mem _ hx)]
  simp
theorem swapF_sep (a b : Bs) (d : UInt8) (hd : d = 44 \/ d = 59) (r : Bs) : ∀ (s w : Bs), OneW s -> swapF a b w (s ++ d :: r) = swN a b (w ++ s) ++ d :: swapS a b r
 | [], w, _ => by rw [List.nil_append, swapF, if_pos hd, List.append_nil]; rfl
 | c :: s, w, h => by
  have hc := h c (List.mem_cons_self ..)
  rw [List.cons_append, swapF, if_neg (fun e => e.elim hc.1 hc.2), swapF_sep a b d hd r s _ fun x hx => h x (List.mem_cons_of_mem _ hx)]
  simp
theorem swapS_one (a b s : Bs) (h : OneW s) : swapS a b s = swN a b s := by
 unfold swapS; rw [swapF_one a b s [] h]; rfl
theorem swapS_sep (a b : Bs) (d : UInt8) (hd : d = 44 \/ d = 59) (s r : Bs) (h : OneW s) : swapS a b (s ++ d :: r) = swN a b s ++ d :: swapS a b r := by
 unfold swapS; rw [swapF_sep a b d hd r s [] h]; rfl
theorem swapS_join (a b : Bs) (ha : a ≠ []) : ∀ L : List Bs, (∀ x ∈ L, OneW x) -> swapS a b (joinN L) = joinN (L.map (swN a b))
 | [], _ => by
  unfold swapS joinN swapF
  rw [if_neg (fun e => ha e.symm)]; rfl
 | [x], h => by
  have := swapS_one a b x (h x (List.mem_cons_self ..))
  simpa [joinN] using this
 | x :: y :: L, h => by
  rw [show joinN (x :: y :: L) = x ++ 44 :: joinN (y :: L) from rfl, swapS_sep a b 44 (.inl rfl) x _ (h x (List.mem_cons_self ..)), swapS_join a b ha (y :: L) fun z hz => h z (List.mem_cons_of_mem _ hz)]
  rfl
theorem swapS_held (a b : Bs) (ha : a ≠ []) : ∀ (L : List Bs) (own : Bs), (∀ x ∈ L, OneW x) -> OneW own -> swapS a b (joinN L ++ 59 :: own) = joinN (L.map (swN a b)) ++ 59 :: swN a b own
 | [], own, _, ho => by
  rw [show joinN [] = ([] : Bs) from rfl, swapS_sep a b 59 (.inr rfl) [] own (fun c hc => by cases hc), swapS_one a b own ho]
  unfold swN
  rw [if_neg (fun e => ha e.symm)]; rfl
 | [x], own, h, ho => by
  rw [show joinN [x] = x by simp [joinN], swapS_sep a b 59 (.inr rfl) x own (h x (List.mem_cons_self ..)), swapS_one a b own ho]
  simp [joinN]
 | x :: y :: L, own, h, ho => by
  rw [show joinN (x :: y :: L) = x ++ 44 :: joinN (y :: L) from rfl, List.append_assoc, List.cons_append, swapS_sep a b 44 (.inl rfl) x _ (h x (List.mem_cons_self ..)), swapS_held a b ha (y :: L) own (fun z hz => h z (List.mem_cons_of_mem _ hz)) ho]
  simp [joinN]
def LowN (a b x : Bs) : Prop := lowerD x ≠ lowerD a /\ lowerD x ≠ lowerD b
def Okn (a b x : Bs) : Prop := OneW x /\ (x = a \/ LowN a b x)
def CleanN (a b : Bs) : Nat -> NodeD -> Prop
 | 0, _ => True
 | f + 1, n => (n.kind = 7 \/ n.kind = 12 -> LowN a b n.text) /\ (n.kind = 14 \/ n.kind = 16 -> swapS a b n.text = n.text /\ ∀ x ∈ namesD n.text, OneW x /\ LowN a b x) /\ ∀ k ∈ n.kids, CleanN a b f k
theorem swN_low {a b x : Bs} (h : LowN a b x) : swN a b x = x := if_neg fun e => h.1 (by rw [e])
theorem swN_self (a b : Bs) : swN a b a = b := if_pos rfl
theorem swN_nil {a b : Bs} (h : a ≠ []) : swN a b [] = [] := if_neg fun e => h e.symm
theorem low_sw {a b x y : Bs} (hx : x = a \/ LowN a b x) (hy : y = a \/ LowN a b y) : (lowerD (swN a b x) == lowerD (swN a b y)) = (lowerD x == lowerD y) := by
 rcases hx with hx | hx
 ·rcases hy with hy | hy
  ·rw [hx, hy]; simp
  ·rw [hx, swN_self, swN_low hy, beq_eq_false_iff_ne.2 (Ne.symm hy.2), beq_eq_false_iff_ne.2 (Ne.symm hy.1)]
 ·rcases hy with hy | hy
  ·rw [hy, swN_self, swN_low hx, beq_eq_false_iff_ne.2 hx.2, beq_eq_false_iff_ne.2 hx.1]
  ·rw [swN_low hx, swN_low hy]
theorem find_map {p q : Bs -> Bool} {g : Bs -> Bs} : ∀ L : List Bs, (∀ x ∈ L, q (g x) = p x) -> (L.map g).find? q = (L.find? p).map g
 | [], _ => rfl
 | x :: L, h => by
  rw [List.map_cons, List.find?_cons, List.find?_cons, h x (List.mem_cons_self ..)]
  cases p x with
  | true => rfl
  | false => exact find_map L fun y hy => h y (List.mem_cons_of_mem _ hy)
theorem findN_sw {a b : Bs} {K : List Bs} (hK : ∀ x ∈ K, Okn a b x) {s : Bs} (hs : s = a \/ LowN a b s) : findN (K.map (swN a b)) (swN a b s) = (findN K s).map (swN a b) := by
 unfold findN
 rw [<- List.map_reverse]
 exact find_map _ fun x hx => low_sw (hK x (List.mem_reverse.1 hx)).2 hs
theorem held_in {own x : Bs} : ∀ K : List Bs, x ∈ heldN K own -> x ∈ K
 | [], h => h
 | y :: K, h => by
  rw [heldN] at h
  split at h
  ·exact (List.mem_cons.1 h).elim (fun e => e ▸ List.mem_cons_self ..) fun h => List.mem_cons_of_mem _ (held_in K h)
  ·exact List.mem_cons_of_mem _ (held_in K h)
theorem heldN_sw {a b own : Bs} (ha : a ≠ []) (hb : b ≠ []) (ho : own = [] \/ Okn a b own) : ∀ K : List Bs, (∀ x ∈ K, Okn a b x) -> heldN (K.map (swN a b)) (swN a b own) = (heldN K own).map (swN a b)
 | [], _ => rfl
 | x :: K, h => by
  have hK : ∀ y ∈ K, Okn a b y := fun y hy => h y (List.mem_cons_of_mem _ hy)
  have hx := (h x (List.mem_cons_self ..)).2
  have hc : ((findN (K.map (swN a b)) (swN a b x)).isNone && (swN a b own == [] || !(lowerD (swN a b x) == lowerD (swN a b own)))) = ((findN K x).isNone && (own == [] || !(lowerD x == lowerD own))) := by
   rw [findN_sw hK hx]
   rcases ho with rfl | ho
   ·rw [swN_nil ha]; cases findN K x <;> simp
   ·rw [low_sw hx ho.2]
    have e : (swN a b own == []) = (own == []) := by
     unfold swN; split
     ·rename_i e; rw [e, beq_eq_false_iff_ne.2 ha, beq_eq_false_iff_ne.2 hb]
     ·rfl
    rw [e]; cases findN K x <;> rfl
  rw [List.map_cons, heldN, heldN, hc, heldN_sw ha hb ho K hK]
  split <;> rfl
theorem swI_no {a b : Bs} {x : InsD} (h : x.op ≠ 15 /\ x.op ≠ 17 /\ x.op ≠ 18) : swapI a b x = x := if_neg fun e => e.elim h.1 fun e => e.elim h.2.1 h.2.2
theorem leaf_no (n : NodeD) : (leafI n).op ≠ 15 /\ (leafI n).op ≠ 17 /\ (leafI n).op ≠ 18 := by
 unfold leafI
 repeat' split
 all_goals (refine ⟨?_, ?_, ?_⟩ <;> intro h <;> simp at h)
theorem modify_map {α β : Type} (h : α -> β) (g : α -> α) (g' : β -> β) (e : ∀ x, h (g x) = g' (h x)) : ∀ (l : List α) (u : Nat), (l.modify u g).map h = (l.map h).modify u g'
 | [], u => by simp
 | x :: l, 0 => by simp [e]
 | x :: l, u + 1 => by rw [List.modify_succ_cons, List.map_cons, modify_map h g g' e l u, List.map_cons, List.modify_succ_cons]
theorem code_mk {A B : List (List InsD)} {P Q : List Bs} (h : A = B) (h2 : P = Q) : CodeD.mk A P = ⟨B, Q⟩ := by rw [h, h2]
theorem sw_put (a b : Bs) (c : CodeD) (n : Nat) (x : InsD) : swapC a b (putC c n x) = putC (swapC a b c) n (swapI a b x) :=
 code_mk (modify_map (fun l => l.map (swapI a b)) (· ++ [x]) (· ++ [swapI a b x]) (fun l => by simp) _ _) rfl
theorem sw_put' (a b : Bs) (c : CodeD) (n : Nat) {x : InsD} (h : x.op ≠ 15 /\ x.op ≠ 17 /\ x.op ≠ 18) : swapC a b (putC c n x) = putC (swapC a b c) n x := by rw [sw_put, swI_no h]
theorem sw_here (a b : Bs) (c : CodeD) (n : Nat) : hereC (swapC a b c) n = hereC c n := by
 unfold hereC swapC
 rw [List.getD_eq_getElem?_getD, List.getD_eq_getElem?_getD, List.getElem?_map]
 cases c.blocks[n]? with
 | none => rfl
 | some l => simp
theorem sw_over (a b : Bs) (c : CodeD) (n u o : Nat) : swapC a b (overC c n u o) = overC (swapC a b c) n u o :=
 code_mk (modify_map (fun l : List InsD => l.map (swapI a b)) (fun l : List InsD => (l.modify u fun x : InsD => { x with a := (o : Int) - u, b := (l.length : Int) - u - 1 }).modify o fun x : InsD => { x with a := (l.length : Int) - o - 1 })
  (fun l : List InsD => (l.modify u fun x : InsD => { x with a := (o : Int) - u, b := (l.length : Int) - u - 1 }).modify o fun x : InsD => { x with a := (l.length : Int) - o - 1 }) (fun l => by
   show ((l.modify u fun x : InsD => { x with a := (o : Int) - u, b := (l.length : Int) - u - 1 }).modify o fun x : InsD => { x with a := (l.length : Int) - o - 1 }).map (swapI a b) = _
   rw [modify_map (swapI a b) (fun x : InsD => { x with a := (l.length : Int) - o - 1 }) (fun x : InsD => { x with a := (l.length : Int) - o - 1 }) (fun x => by unfold swapI; dsimp only; split <;> rfl),
    modify_map (swapI a b) (fun x : InsD => { x with a := (o : Int) - u, b := (l.length : Int) - u - 1 }) (fun x : InsD => { x with a := (o : Int) - u, b := (l.length : Int) - u - 1 }) (fun x => by unfold swapI; dsimp only; split <;> rfl), List.length_map]) _ _) rfl
theorem sw_fun (a b : Bs) (c : CodeD) (n : Nat) (s p : Bs) : swapC a b (funC c n s p) = funC (swapC a b c) n (swapS a b s) (swapS a b p) := by
 have e := sw_put a b c n { op := 15, a := c.blocks.length, s := s }
 have e1 := congrArg CodeD.blocks e
 unfold funC
 unfold swapC at e1 ⊢
 dsimp only at e1 ⊢
 rw [List.map_append, e1, List.map_append]
 simp [swapI]
theorem foldl_hom {α β : Type} (P : α -> Prop) (h : α -> α) (g g' : α -> β -> α) : ∀ (l : List β) (r : α), P r -> (∀ r, P r -> ∀ x ∈ l, g' (h r) x = h (g r x) /\ P (g r x)) -> l.foldl g' (h r) = h (l.foldl g r) /\ P (l.foldl g r)
 | [], _, p, _ => ⟨rfl, p⟩
 | x :: l, r, p, e => by
  obtain ⟨e1, p1⟩ := e r p x (List.mem_cons_self ..)
  rw [List.foldl_cons, List.foldl_cons, e1]
  exact foldl_hom P h g g' l _ p1 fun r p y hy => e r p y (List.mem_cons_of_mem _ hy)
theorem comp_sw {a b : Bs} (ha : a ≠ []) (hb : b ≠ []) (h1a : OneW a) : ∀ (f : Nat) (c : CodeD) (i : Nat) (K : List Bs) (own : Bs) (n : NodeD), CleanN a b f n -> (∀ x ∈ K, Okn a b x) -> (own = [] \/ Okn a b own) ->
  comp f (swapC a b c) i (K.map (swN a b)) (swN a b own) n = swapC a b (comp f c i K own n)
 | 0, _, _, _, _, _, _, _, _ => rfl
 | f + 1, c, i, K, own, n, ⟨h1, h2, h3⟩, hK, ho => by
  have E : ∀ k ∈ n.kids, ∀ (c : CodeD) (i : Nat) (K : List Bs), (∀ x ∈ K, Okn a b x) -> comp f (swapC a b c) i (K.map (swN a b)) [] k = swapC a b (comp f c i K [] k) := fun k hk c i K hK => by
   have := comp_sw ha hb h1a f c i K [] k (h3 k hk) hK (.inl rfl)
   rwa [swN_nil ha] at this
  have F1 : ∀ c : CodeD, n.kids.foldl (fun c k => comp f c i (K.map (swN a b)) [] k) (swapC a b c) = swapC a b (n.kids.foldl (fun c k => comp f c i K [] k) c) := fun c =>
   (foldl_hom (fun _ => True) (swapC a b) (fun c k => comp f c i K [] k) _ n.kids c trivial fun r _ k hk => ⟨E k hk r i K hK, trivial⟩).1
  have F2 : ∀ (j : Nat) (c : CodeD) (i : Nat) (K : List Bs), (∀ x ∈ K, Okn a b x) -> subC (fun c b K k => comp f c b K [] k) (swapC a b c) i (K.map (swN a b)) n.kids[j]? = swapC a b (subC (fun c b K k => comp f c b K [] k) c i K n.kids[j]?) := fun j c i K hK => by
   cases e : n.kids[j]? with
   | none => rfl
   | some k => exact E k (List.mem_of_getElem? e) c i K hK
  have no : ∀ {op u v : Int} {s : Bs}, (op ≠ 15 /\ op ≠ 17 /\ op ≠ 18) -> ∀ (c : CodeD) (i : Nat), swapC a b (putC c i { op := op, a := u, b := v, s := s }) = putC (swapC a b c) i { op := op, a := u, b := v, s := s } := fun h c i => sw_put' a b c i h
  have nm : ∀ {op : Int} {g : Bs}, op = 17 \/ op = 18 -> OneW g -> ∀ (c : CodeD) (i : Nat), swapC a b (putC c i { op := op, s := g }) = putC (swapC a b c) i { op := op, s := swN a b g } := fun h hg c i => by
   rw [sw_put]; unfold swapI; rw [if_pos (.inr h), swapS_one a b _ hg]
  have fs : n.kind = 7 \/ n.kind = 12 -> findN (K.map (swN a b)) n.text = (findN K n.text).map (swN a b) := fun h => by
   have := findN_sw hK (.inr (h1 h)); rwa [swN_low (h1 h)] at this
  have fm : ∀ {g : Bs}, findN K n.text = some g -> OneW g := fun h => (hK _ (List.mem_reverse.1 (List.mem_of_find?_eq_some h))).1
  by_cases k12 : n.kind = 12
  ·have fs := fs (.inr k12)
   unfold comp
   dsimp only
   rw [if_pos k12, if_pos k12, fs]
   cases hg : findN K n.text with
   | some g =>
    dsimp only [Option.map]
    rw [<- nm (.inr rfl) (fm hg), F1, no (by decide)]
   | none =>
    dsimp only [Option.map]
    split
    ·rw [F1, no (by decide)]
    ·rw [F2 0 _ _ _ hK, <- no (by decide), F2 1 _ _ _ hK, <- no (by decide), sw_over, sw_here, sw_here]
     split
     ·rw [F2 2 _ _ _ hK]
     ·rw [no (op := 3) (by decide)]
  ·by_cases k16 : n.kind = 16
   ·obtain ⟨_, hl⟩ := h2 (.inr k16)
    unfold comp
    dsimp only
    rw [if_neg k12, if_pos k16, if_neg k12, if_pos k16]
    have F3 := foldl_hom (fun r : CodeD × List Bs => ∀ x ∈ r.2, Okn a b x) (fun r => (swapC a b r.1, r.2.map (swN a b)))
     (fun (r : CodeD × List Bs) p => (putC (comp f r.1 i r.2 (if p.2.kind = 14 then p.1 else []) p.2) i { op := 17, s := p.1 }, r.2 ++ [p.1]))
     (fun (r : CodeD × List Bs) p => (putC (comp f r.1 i r.2 (if p.2.kind = 14 then p.1 else []) p.2) i { op := 17, s := p.1 }, r.2 ++ [p.1]))
     ((namesD n.text).zip n.kids) (c, K) hK (fun r hr p hp => by
      have hm := List.of_mem_zip hp
      have hx := hl p.1 hm.1
      refine ⟨?_, fun x hx' => (List.mem_append.1 hx').elim (hr x) fun e => by rw [List.mem_singleton.1 e]; exact ⟨hx.1, .inr hx.2⟩⟩
      have e1 := comp_sw ha hb h1a f r.1 i r.2 (if p.2.kind = 14 then p.1 else []) p.2 (h3 p.2 hm.2) hr (by split; exact .inr ⟨hx.1, .inr hx.2⟩; exact .inl rfl)
      have e2 : swN a b (if p.2.kind = 14 then p.1 else []) = if p.2.kind = 14 then p.1 else [] := by split; exact swN_low hx.2; exact swN_nil ha
      rw [e2] at e1
      dsimp only
      rw [e1, nm (.inl rfl) hx.1, swN_low hx.2, List.map_append, List.map_singleton, swN_low hx.2])
    dsimp only at F3
    rw [F3.1]
    dsimp only
    rw [F2 _ _ _ _ F3.2, no (by decide)]
   ·by_cases k14 : n.kind = 14
    ·obtain ⟨ht, hl⟩ := h2 (.inl k14)
     have hh := heldN_sw ha hb ho K hK
     have h1h : ∀ x ∈ heldN K own, OneW x := fun x hx => (hK x (held_in K hx)).1
     have hn : (namesD n.text).map (swN a b) = namesD n.text := (List.map_congr_left fun x hx => swN_low (hl x hx).2).trans (List.map_id' _)
     have hbl : (swapC a b c).blocks.length = c.blocks.length := List.length_map ..
     rw [comp_fun f _ i _ _ n k14, comp_fun f _ i _ _ n k14, hh, hbl]
     rcases ho with rfl | ho
     ·rw [swN_nil ha, if_pos rfl, if_pos rfl, if_pos rfl, if_pos rfl, <- swapS_join a b ha _ h1h, <- ht, <- sw_fun, ht]
      have := F2 0 (funC c i (joinN (heldN K [])) n.text) c.blocks.length (heldN K [] ++ namesD n.text) (fun x hx => (List.mem_append.1 hx).elim (fun h => hK x (held_in K h)) fun h => ⟨(hl x h).1, .inr (hl x h).2⟩)
      rwa [List.map_append, hn] at this
     ·by_cases o0 : own = []
      ·subst o0
       rw [swN_nil ha, if_pos rfl, if_pos rfl, if_pos rfl, if_pos rfl, <- swapS_join a b ha _ h1h, <- ht, <- sw_fun, ht]
       have := F2 0 (funC c i (joinN (heldN K [])) n.text) c.blocks.length (heldN K [] ++ namesD n.text) (fun x hx => (List.mem_append.1 hx).elim (fun h => hK x (held_in K h)) fun h => ⟨(hl x h).1, .inr (hl x h).2⟩)
       rwa [List.map_append, hn] at this
      ·have o1 : swN a b own ≠ [] := by unfold swN; split; exact hb; exact o0
       rw [if_neg o0, if_neg o0, if_neg o1, if_neg o1, <- swapS_held a b ha _ _ h1h ho.1, <- ht, <- sw_fun, ht]
       have := F2 0 (funC c i (joinN (heldN K own) ++ 59 :: own) n.text) c.blocks.length (heldN K own ++ [own] ++ namesD n.text) (fun x hx => (List.mem_append.1 hx).elim (fun h => (List.mem_append.1 h).elim (fun h => hK x (held_in K h)) fun h => by rw [List.mem_singleton.1 h]; exact ho) fun h => ⟨(hl x h).1, .inr (hl x h).2⟩)
       rwa [List.map_append, List.map_append, List.map_singleton, hn] at this
    ·by_cases k15 : n.kind = 15
     ·rw [comp_apply f _ i _ _ n k15, comp_apply f _ i _ _ n k15, F1, no (by decide)]
     ·by_cases k7 : n.kind = 7
      ·rw [comp_name f _ i _ _ n k7, comp_name f _ i _ _ n k7, fs (.inl k7)]
       cases hg : findN K n.text with
       | some g => exact (nm (.inr rfl) (fm hg) c i).symm
       | none => exact (no (by decide) c i).symm
      ·rw [comp_other f _ i _ _ n k12 k16 k14 k15 k7, comp_other f _ i _ _ n k12 k16 k14 k15 k7, F1, sw_put' a b _ i (leaf_no n)]
def evenB (c : UInt8) : UInt8 := if oddN c then c else 97
theorem even_odd (c : UInt8) : oddN (evenB c) = oddN c := by
 unfold evenB
 split
 ·rfl
 ·rename_i h; rw [Bool.not_eq_true] at h; rw [h]; rfl
theorem even_is {d : UInt8} (hd : oddN d = true) (c : UInt8) : evenB c = d <-> c = d := by
 unfold evenB
 split
 ·exact Iff.rfl
 ·rename_i h
  constructor
  ·intro e; rw [<- e] at hd; exact absurd hd (by decide)
  ·intro e; rw [e] at h; exact absurd hd h
theorem named_even (s : Bs) : namedB (s.map evenB) = namedB s := by
 unfold namedB
 rw [List.length_map, List.any_map, show oddN ∘ evenB = oddN from funext even_odd]
theorem split_even : ∀ s : Bs, splitD (s.map evenB) = (splitD s).map (List.map evenB)
 | [] => rfl
 | c :: l => by
  rw [List.map_cons, splitD, splitD, split_even l]
  by_cases hc : c = 44
  ·rw [if_pos ((even_is (by decide) c).2 hc), if_pos hc]; rfl
  ·rw [if_neg fun e => hc ((even_is (by decide) c).1 e), if_neg hc]
   cases splitD l <;> rfl
theorem names_even (s : Bs) : namesD (s.map evenB) = (namesD s).map (List.map evenB) := by
 unfold namesD
 cases s with
 | nil => rfl
 | cons c l => rw [if_neg (by simp), if_neg (by simp), split_even]
theorem listed_even (s : Bs) (m : Nat) : listedB (s.map evenB) m = listedB s m := by
 unfold listedB
 rw [names_even, List.length_map, List.any_map, show ((fun x => !namedB x) ∘ List.map evenB) = fun x => !namedB x from funext fun x => by simp [named_even]]
theorem index_even : ∀ s : Bs, Lib.index (s.map evenB) [59] = Lib.index s [59]
 | [] => rfl
 | c :: l => by
  have e : ([59] : Bs).isPrefixOf (evenB c :: l.map evenB) = ([59] : Bs).isPrefixOf (c :: l) := by
   show (59 == evenB c && true) = (59 == c && true)
   rw [Bool.and_true, Bool.and_true, Bool.eq_iff_iff, beq_iff_eq, beq_iff_eq]
   exact ⟨fun h => ((even_is (by decide) c).1 h.symm).symm, fun h => ((even_is (by decide) c).2 h.symm).symm⟩
  rw [List.map_cons, Lib.index, Lib.index, index_even l, e]
theorem func_even (s : Bs) : funcB (s.map evenB) = funcB s := by
 have e : Lib.cut (s.map evenB) [59] = ((Lib.cut s [59]).1.map evenB, (Lib.cut s [59]).2.1.map evenB, (Lib.cut s [59]).2.2) := by
  unfold Lib.cut
  rw [index_even]
  split
  ·rw [List.map_take, List.map_drop]
  ·rfl
 unfold funcB
 rw [e]
 dsimp only
 rw [listed_even, named_even]
def EvenN (a b : Bs) : Prop := a.map evenB = b.map evenB
theorem swapF_even {a b : Bs} (h : EvenN a b) : ∀ (s w : Bs), (swapF a b w s).map evenB = (w ++ s).map evenB
 | [], w => by
  rw [swapF, List.append_nil]
  split
  ·rename_i e; rw [e]; exact h.symm
  ·rfl
 | c :: s, w => by
  rw [swapF]
  split
  ·rw [List.map_append, List.map_cons, swapF_even h s [], List.nil_append, List.map_append, List.map_cons]
   split
   ·rename_i e; rw [e, show a.map evenB = b.map evenB from h]
   ·rfl
  ·rw [swapF_even h s]; simp
theorem swapS_even {a b : Bs} (h : EvenN a b) (s : Bs) : (swapS a b s).map evenB = s.map evenB := swapF_even h s []
theorem swI_op (a b : Bs) (x : InsD) : (swapI a b x).op = x.op /\ (swapI a b x).a = x.a /\ (swapI a b x).b = x.b := by
 unfold swapI; split <;> exact ⟨rfl, rfl, rfl⟩
theorem fields_sw {a b : Bs} (h : EvenN a b) (x : InsD) (i n l : Int) : fieldsC (swapI a b x) i n l = fieldsC x i n l := by
 by_cases hx : x.op = 15 \/ x.op = 17 \/ x.op = 18
 ·have e1 : namedB (swapS a b x.s) = namedB x.s := by rw [<- named_even, swapS_even h, named_even]
  have e2 : funcB (swapS a b x.s) = funcB x.s := by rw [<- func_even, swapS_even h, func_even]
  unfold swapI
  rw [if_pos hx]
  obtain ⟨op, u, v, s, m, e, r, t⟩ := x
  dsimp only at hx e1 e2 ⊢
  rcases hx with rfl | rfl | rfl <;> simp [fieldsC, okI, bareI, sameI, e1, e2]
 ·have : swapI a b x = x := if_neg hx
  rw [this]
theorem step_sw (a b : Bs) (c : ChkD) (i : Nat) (x : InsD) : stepC c i (swapI a b x) = stepC c i x := by
 obtain ⟨h1, h2, h3⟩ := swI_op a b x
 unfold stepC stepF
 rw [h1, h2, h3]
theorem run_sw {a b : Bs} (h : EvenN a b) (i n : Int) : ∀ (l : List InsD) (j : Nat) (c : ChkD), runC i n (l.map (swapI a b)) j c = runC i n l j c
 | [], _, _ => rfl
 | x :: l, j, c => by rw [List.map_cons, runC, runC, fields_sw h, step_sw, List.length_map, run_sw h i n l]
theorem blocks_sw {a b : Bs} (h : EvenN a b) (n : Int) : ∀ (B : List (List InsD)) (i : Nat), blocksC n i (B.map fun l => l.map (swapI a b)) = blocksC n i B
 | [], _ => rfl
 | l :: B, i => by
  rw [List.map_cons, blocksC, blocksC, blocks_sw h n B]
  unfold blockC
  rw [List.length_map, run_sw h]
theorem heads_sw {a b : Bs} (h : EvenN a b) : ∀ (B : List (List InsD)) (Q : List Bs) (s : Nat), headsC s (B.map fun l => l.map (swapI a b)) (Q.map (swapS a b)) = headsC s B Q
 | [], _, _ => rfl
 | _ :: _, [], _ => rfl
 | l :: B, q :: Q, s => by
  rw [List.map_cons, List.map_cons, headsC, headsC, List.length_map, heads_sw h B Q, <- listed_even, swapS_even h, listed_even]
theorem right_sw {a b : Bs} (h : EvenN a b) (c : CodeD) : rightC (swapC a b c) = rightC c := by
 have e : (c.params.map (swapS a b)).getD 0 [] = [] <-> c.params.getD 0 [] = [] := by
  cases c.params with
  | nil => exact Iff.rfl
  | cons p Q =>
   show swapS a b p = [] <-> p = []
   have := congrArg List.length (swapS_even h p)
   rw [List.length_map, List.length_map] at this
   rw [<- List.length_eq_zero_iff, <- List.length_eq_zero_iff, this]
 unfold rightC swapC
 dsimp only
 rw [List.length_map, List.length_map, heads_sw h, blocks_sw h]
 simp only [ne_eq, e]
def useN (x : Bs) (t : NodeD) : NodeD := namN 9 [42] [namN 7 x [], t]
def funN (x : Bs) (t : NodeD) : NodeD := namN 15 [] [namN 14 [112] [useN x t], namN 7 x []]
def letN (x : Bs) (s t : NodeD) (fn : Bool) : NodeD := namN 16 x [s, if fn then funN x t else useN x t]
def ownA : Bs := [111, 119, 110, 95, 97]
def ownB : Bs := [111, 119, 110, 95, 98]
def ownG : Bs := [79, 87, 78, 95, 97]
def oneN (x : Bs) (s : NodeD) : NodeD := namN 16 ownA [s, namN 7 x []]
theorem comp_one (f : Nat) (c : CodeD) (x : Bs) (hx : namesD x = [x]) (s u : NodeD) :
  comp (f + 1) c 0 [] [] (namN 16 x [s, u]) = putC (comp f (putC (comp f c 0 [] (if s.kind = 14 then x else []) s) 0 { op := 17, s := x }) 0 [x] [] u) 0 { op := 19, a := 1 } := by
 rw [comp]
 dsimp only
 rw [show (namN 16 x [s, u]).text = x from rfl, show (namN 16 x [s, u]).kids = [s, u] from rfl, hx, if_neg (show ¬ (namN 16 x [s, u]).kind = 12 from (by decide : ¬ (16 : Int) = 12)), if_pos (show (namN 16 x [s, u]).kind = 16 from rfl)]
 rfl
theorem comp_get (f : Nat) (c : CodeD) (i : Nat) (K : List Bs) (x g : Bs) (hg : findN K x = some g) : comp (f + 1) c i K [] (namN 7 x []) = putC c i { op := 18, s := g } := by
 rw [comp_name f c i K [] _ rfl, show (namN 7 x []).text = x from rfl, hg]
theorem comp_use (f : Nat) (c : CodeD) (i : Nat) (K : List Bs) (x : Bs) (hx : findN K x = some x) (t : NodeD) : comp (f + 2) c i K [] (useN x t) = putC (comp (f + 1) (putC c i { op := 18, s := x }) i K [] t) i { op := 8, s := [42] } := by
 have e := comp_get f c i K x x hx
 rw [comp_other (f + 1) c i K [] (useN x t) (show (9 : Int) ≠ 12 by decide) (show (9 : Int) ≠ 16 by decide) (show (9 : Int) ≠ 14 by decide) (show (9 : Int) ≠ 15 by decide) (show (9 : Int) ≠ 7 by decide), show (useN x t).kids = [namN 7 x [], t] from rfl, List.foldl_cons, List.foldl_cons, List.foldl_nil, e]
 rfl
theorem comp_funN (f : Nat) (c : CodeD) (x : Bs) (hx : findN [x] x = some x) (t : NodeD) : comp (f + 4) c 0 [x] [] (funN x t) =
  putC (putC (comp (f + 2) (funC c 0 x [112]) c.blocks.length [x, [112]] [] (useN x t)) 0 { op := 18, s := x }) 0 { op := 16, a := 1 } := by
 have e := comp_get (f + 2) (comp (f + 2) (funC c 0 x [112]) c.blocks.length [x, [112]] [] (useN x t)) 0 [x] x x hx
 have hh : heldN [x] [] = [x] := rfl
 have e2 := comp_fun (f + 2) c 0 [x] [] (namN 14 [112] [useN x t]) rfl
 rw [if_pos rfl, if_pos rfl, hh] at e2
 rw [comp_apply (f + 3) c 0 [x] [] (funN x t) rfl, show (funN x t).kids = [namN 14 [112] [useN x t], namN 7 x []] from rfl, List.foldl_cons, List.foldl_cons, List.foldl_nil, e2]
 show putC (comp (f + 3) (comp (f + 2) (funC c 0 x [112]) c.blocks.length [x, [112]] [] (useN x t)) 0 [x] [] (namN 7 x [])) 0 _ = _
 rw [e]; rfl
theorem one_of {s : Bs} (h : s.all (fun c => decide (c ≠ 44 /\ c ≠ 59)) = true) : OneW s := fun c hc => by simpa using List.all_eq_true.1 h c hc
theorem ownA_one : OneW ownA := one_of (by decide)
theorem use_sw (f : Nat) (c : CodeD) (i : Nat) (K : List Bs) (hK : ∀ x ∈ K, Okn ownA ownB x) (hx : findN K ownA = some ownA) (t : NodeD) (ht : ∀ f, CleanN ownA ownB f t) :
  comp (f + 2) (swapC ownA ownB c) i (K.map (swN ownA ownB)) [] (useN ownB t) = swapC ownA ownB (comp (f + 2) c i K [] (useN ownA t)) := by
 have hy : findN (K.map (swN ownA ownB)) ownB = some ownB := by
  have := findN_sw hK (.inl rfl)
  rwa [swN_self, hx] at this
 have e := comp_sw (a := ownA) (b := ownB) (by decide) (by decide) ownA_one (f + 1) (putC c i { op := 18, s := ownA }) i K [] t (ht _) hK (.inl rfl)
 rw [swN_nil (by decide), sw_put] at e
 rw [comp_use f _ i _ ownB hy, comp_use f c i K ownA hx, sw_put' _ _ _ _ (by decide), <- e]
 rfl
theorem let_sw (s t : NodeD) (fn : Bool) (hs : ∀ f, CleanN ownA ownB f s) (ht : ∀ f, CleanN ownA ownB f t) : codeOf (letN ownB s t fn) = swapC ownA ownB (codeOf (letN ownA s t fn)) := by
 have e1 := comp_sw (a := ownA) (b := ownB) (by decide) (by decide) ownA_one 23 bareC 0 [] (if s.kind = 14 then ownA else []) s (hs _) (fun x h => nomatch h) (by split; exact .inr ⟨ownA_one, .inl rfl⟩; exact .inl rfl)
 have e2 : swN ownA ownB (if s.kind = 14 then ownA else []) = if s.kind = 14 then ownB else [] := by split <;> rfl
 rw [e2, show swapC ownA ownB bareC = bareC from rfl] at e1
 have e3 : comp 23 bareC 0 [] (if s.kind = 14 then ownB else []) s = swapC ownA ownB (comp 23 bareC 0 [] (if s.kind = 14 then ownA else []) s) := e1
 unfold codeOf letN
 rw [comp_one 23 bareC ownB (by decide), comp_one 23 bareC ownA (by decide), e3, sw_put' _ _ _ _ (by decide)]
 have e4 : ∀ c, putC (swapC ownA ownB c) 0 { op := 17, s := ownB } = swapC ownA ownB (putC c 0 { op := 17, s := ownA }) := fun c => by rw [sw_put]; rfl
 rw [e4]
 generalize putC (comp 23 bareC 0 [] (if s.kind = 14 then ownA else []) s) 0 { op := 17, s := ownA } = c
 have hK1 : ∀ x ∈ [ownA], Okn ownA ownB x := fun x h => by rw [List.mem_singleton.1 h]; exact ⟨ownA_one, .inl rfl⟩
 cases fn with
 | false =>
  have := use_sw 21 c 0 [ownA] hK1 (by decide) t ht
  rw [if_neg (by decide), if_neg (by decide), <- this]; rfl
 | true =>
  have hK2 : ∀ x ∈ [ownA, [112]], Okn ownA ownB x := fun x h => by
   rcases List.mem_cons.1 h with rfl | h
   ·exact ⟨ownA_one, .inl rfl⟩
   ·rw [List.mem_singleton.1 h]; exact ⟨one_of (by decide), .inr ⟨by decide, by decide⟩⟩
  have := use_sw 19 (funC c 0 ownA [112]) c.blocks.length [ownA, [112]] hK2 (by decide) t ht
  have hbl : (swapC ownA ownB c).blocks.length = c.blocks.length := List.length_map ..
  rw [sw_fun] at this
  rw [if_pos rfl, if_pos rfl, comp_funN 19 _ ownB (by decide), comp_funN 19 _ ownA (by decide), hbl, sw_put' _ _ _ _ (by decide), sw_put, <- this]
  rfl
theorem one_same (s : NodeD) : codeOf (oneN ownG s) = codeOf (oneN ownA s) := by
 unfold codeOf oneN
 rw [comp_one 23 bareC ownA (by decide), comp_one 23 bareC ownA (by decide), comp_get 22 _ 0 [ownA] ownG ownA (by decide), comp_get 22 _ 0 [ownA] ownA ownA (by decide)]
theorem foldl_alike {α β γ : Type} (g : β -> γ) (F : α -> β -> α) (hF : ∀ r x y, g x = g y -> F r x = F r y) : ∀ (l m : List β) (r : α), l.map g = m.map g -> l.foldl F r = m.foldl F r
 | [], [], _, _ => rfl
 | [], _ :: _, _, h => by simp at h
 | _ :: _, [], _, h => by simp at h
 | x :: l, y :: m, r, h => by
  rw [List.map_cons, List.map_cons] at h
  injection h with h1 h2
  rw [List.foldl_cons, List.foldl_cons, hF r x y h1]
  exact foldl_alike g F hF l m _ h2
theorem size_alike {f : Nat} {n m : NodeD} (h1 : bareD n = bareD m) (h2 : kidsD n = kidsD m) (h3 : n.kids.map (sizeD f) = m.kids.map (sizeD f)) : sizeD (f + 1) n = sizeD (f + 1) m := by
 rw [sizeD, sizeD, h1, h2, foldl_alike (sizeD f) _ (fun r x y e => by rw [e]) n.kids m.kids _ h3]
theorem name_size (f : Nat) {x y : Bs} (h : isNameD x = isNameD y) : sizeD f (namN 7 x []) = sizeD f (namN 7 y []) := by
 cases f with
 | zero => rfl
 | succ f =>
  refine size_alike ?_ rfl rfl
  have e : ∀ z : Bs, bareD (namN 7 z []) = isNameD z := fun z => by
   show (isNameD z && sameN (namN 7 z []) (namN 7 z [])) = isNameD z
   have : sameN (namN 7 z []) (namN 7 z []) = true := by simp [sameN, namN, sameR]
   rw [this, Bool.and_true]
  rw [e, e, h]
theorem use_size (f : Nat) (t : NodeD) : sizeD f (useN ownB t) = sizeD f (useN ownA t) := by
 cases f with
 | zero => rfl
 | succ f => exact size_alike rfl rfl (by show [_, _] = [_, _]; rw [name_size f (x := ownB) (y := ownA) (by kernel_rfl)])
theorem fun_size (f : Nat) (t : NodeD) : sizeD f (funN ownB t) = sizeD f (funN ownA t) := by
 cases f with
 | zero => rfl
 | succ f =>
  refine size_alike rfl rfl ?_
  have e : sizeD f (namN 14 [112] [useN ownB t]) = sizeD f (namN 14 [112] [useN ownA t]) := by
   cases f with
   | zero => rfl
   | succ f => exact size_alike rfl rfl (by show [_] = [_]; rw [use_size])
  show [_, _] = [_, _]
  rw [e, name_size f (x := ownB) (y := ownA) (by kernel_rfl)]
theorem own_bare (l : List NodeD) : bareD (namN 16 ownA l) = true /\ bareD (namN 16 ownB l) = true := ⟨by kernel_rfl, by kernel_rfl⟩
theorem own_kids (s t : NodeD) : kidsD (namN 16 ownA [s, t]) = true /\ kidsD (namN 16 ownB [s, t]) = true := ⟨by kernel_rfl, by kernel_rfl⟩
theorem let_size (f : Nat) (s t : NodeD) (fn : Bool) : sizeD f (letN ownB s t fn) = sizeD f (letN ownA s t fn) := by
 cases f with
 | zero => rfl
 | succ f =>
  refine size_alike ((own_bare _).2.trans (own_bare _).1.symm) ((own_kids ..).2.trans (own_kids ..).1.symm) ?_
  show [_, _] = [_, _]
  cases fn with
  | false => rw [if_neg (by decide), if_neg (by decide), use_size]
  | true => rw [if_pos rfl, if_pos rfl, fun_size]
theorem one_size (f : Nat) (s : NodeD) : sizeD f (oneN ownG s) = sizeD f (oneN ownA s) := by
 cases f with
 | zero => rfl
 | succ f => exact size_alike ((own_bare _).1.trans (own_bare _).1.symm) rfl (by show [_, _] = [_, _]; rw [name_size f (x := ownG) (y := ownA) (by kernel_rfl)])
theorem own_even : EvenN ownA ownB := by unfold EvenN; decide
theorem let_told (s t : NodeD) (fn : Bool) (hs : ∀ f, CleanN ownA ownB f s) (ht : ∀ f, CleanN ownA ownB f t) :
  errOf (letN ownA s t fn) = errOf (letN ownB s t fn) /\ ∀ c, compileD (letN ownA s t fn) = some c -> compileD (letN ownB s t fn) = some (swapC ownA ownB c) := by
 have e1 : rightT (letN ownB s t fn) = rightT (letN ownA s t fn) := by unfold rightT; rw [let_size]
 have e2 := let_sw s t fn hs ht
 have e3 := right_sw own_even (codeOf (letN ownA s t fn))
 refine ⟨by unfold errOf; rw [e1, e2, e3], fun c hc => ?_⟩
 unfold compileD at hc ⊢
 rw [e1, e2, e3]
 split at hc
 ·rename_i h1
  rw [if_pos h1]
  split at hc
  ·rename_i h2
   rw [if_pos h2]; injection hc with hc; rw [hc]
  ·cases hc
 ·cases hc
theorem one_told (s : NodeD) : errOf (oneN ownG s) = errOf (oneN ownA s) /\ compileD (oneN ownG s) = compileD (oneN ownA s) := by
 have e1 : rightT (oneN ownG s) = rightT (oneN ownA s) := by unfold rightT; rw [one_size]
 unfold errOf compileD
 rw [e1, one_same]
 exact ⟨rfl, rfl⟩
end Tab
namespace Go.Proofs.YtlpgigdegnbkmaaGreatDoor
open Go.RowKit Tab Tryz
theorem swap_any (s a b : ByteArray) (w : World) (hs : s.size <= 1000000) (hb : b.size <= 1000) : Calls prog 29 #[.string s, .string a, .string b] w (Still (.string ⟨(swapS a.data.toList b.data.toList s.data.toList).toArray⟩) w) := by
 go_enter func29, ntmps29
 go_wp2
 go_loop [7, 8, 9] (fun o u i => ∃ (k : Nat) (o' u' : ByteArray), k <= s.size + 1 /\ i = .int .i64 k /\ o = .string o' /\ u = .string u' /\ o'.size + u'.size <= 1001 * k /\
  (k <= s.size -> o'.data.toList ++ swapF a.data.toList b.data.toList u'.data.toList (s.data.toList.drop k) = swapS a.data.toList b.data.toList s.data.toList) /\ (s.size < k -> o'.data.toList = swapS a.data.toList b.data.toList s.data.toList)) (fun _ _ i => s.size + 1 - (intOf i).toNat)
 case atStart => exact ⟨0, ⟨#[]⟩, ⟨#[]⟩, by omega, rfl, rfl, rfl, by decide, fun _ => rfl, fun h => by omega⟩
 case round =>
  obtain ⟨k, o, u, hk, rfl, rfl, rfl, ho, hF, hE⟩ := hrel
  by_cases hle : k <= s.size
  ·have eL : decide ((k : Int) <= (s.size : Int)) = true := decide_eq_true (by omega)
   replace hF := hF hle
   clear hE
   by_cases hlt : k < s.size
   ·have eT : decide ((k : Int) < (s.size : Int)) = true := decide_eq_true (by omega)
    have hx : (s.extract k (k + 1)).data.toList = [s[k]] := by
     have h := drop_at s k hlt
     rw [ba_extract, List.drop_take, h, show k + 1 - k = 1 by omega]; rfl
    have hz : (s.extract k (k + 1)).size = 1 := by rw [<- ba_size, hx]; rfl
    rw [drop_at s k hlt, swapF] at hF
    have e44 : ∀ d : UInt8, ((s[k].toNat : Int) != (d.toNat : Int)) = !decide (s[k] = d) := fun d => congrArg (!·) (by
     rw [Bool.eq_iff_iff, beq_iff_eq, decide_eq_true_iff, <- UInt8.toNat_inj]; omega)
    have n44 : ((s[k].toNat : Int) != 44) = !decide (s[k] = 44) := e44 44
    have n59 : ((s[k].toNat : Int) != 59) = !decide (s[k] = 59) := e44 59
    clear e44
    by_cases hc : s[k] = 44 \/ s[k] = 59
    ·rw [if_pos hc] at hF
     by_cases hw : u.data.toList = a.data.toList
     ·have ew : (u.toList == a.toList) = true := by rw [ByteArray.toList_eq, ByteArray.toList_eq, hw]; simp
      rw [if_pos hw] at hF
      have HF := Lib.hid (And.intro hF (And.intro hx hz))
      clear hF hx hz hw
      by_cases h4 : s[k] = 44
      ·replace n44 := n44.trans (congrArg (!·) (decide_eq_true h4))
       clear hc h4 n59
       replace n44 : _ = false := n44
       go_wp2
       go_round
       case rel => exact ⟨k + 1, o ++ b ++ s.extract k (k + 1), ⟨#[]⟩, by omega, by go_num, rfl, rfl, by rw [ByteArray.size_append, ByteArray.size_append, HF.out.2.2]; show _ + 0 <= _; omega, fun _ => by rw [ba_append, ba_append, HF.out.2.1, <- HF.out.1]; simp, fun h => by omega⟩
       case measure => simp [intOf]; omega
      ·replace n44 := n44.trans (congrArg (!·) (decide_eq_false h4))
       replace n59 := n59.trans (congrArg (!·) (decide_eq_true (hc.resolve_left h4)))
       clear hc h4
       replace n44 : _ = true := n44
       replace n59 : _ = false := n59
       go_wp2
       go_round
       case rel => exact ⟨k + 1, o ++ b ++ s.extract k (k + 1), ⟨#[]⟩, by omega, by go_num, rfl, rfl, by rw [ByteArray.size_append, ByteArray.size_append, HF.out.2.2]; show _ + 0 <= _; omega, fun _ => by rw [ba_append, ba_append, HF.out.2.1, <- HF.out.1]; simp, fun h => by omega⟩
       case measure => simp [intOf]; omega
     ·have ew : (u.toList == a.toList) = false := beq_eq_false_iff_ne.2 (by rw [ByteArray.toList_eq, ByteArray.toList_eq]; exact hw)
      rw [if_neg hw] at hF
      have HF := Lib.hid (And.intro hF (And.intro hx hz))
      clear hF hx hz hw
      by_cases h4 : s[k] = 44
      ·replace n44 := n44.trans (congrArg (!·) (decide_eq_true h4))
       clear hc h4 n59
       replace n44 : _ = false := n44
       go_wp2
       go_round
       case rel => exact ⟨k + 1, o ++ u ++ s.extract k (k + 1), ⟨#[]⟩, by omega, by go_num, rfl, rfl, by rw [ByteArray.size_append, ByteArray.size_append, HF.out.2.2]; show _ + 0 <= _; omega, fun _ => by rw [ba_append, ba_append, HF.out.2.1, <- HF.out.1]; simp, fun h => by omega⟩
       case measure => simp [intOf]; omega
      ·replace n44 := n44.trans (congrArg (!·) (decide_eq_false h4))
       replace n59 := n59.trans (congrArg (!·) (decide_eq_true (hc.resolve_left h4)))
       clear hc h4
       replace n44 : _ = true := n44
       replace n59 : _ = false := n59
       go_wp2
       go_round
       case rel => exact ⟨k + 1, o ++ u ++ s.extract k (k + 1), ⟨#[]⟩, by omega, by go_num, rfl, rfl, by rw [ByteArray.size_append, ByteArray.size_append, HF.out.2.2]; show _ + 0 <= _; omega, fun _ => by rw [ba_append, ba_append, HF.out.2.1, <- HF.out.1]; simp, fun h => by omega⟩
       case measure => simp [intOf]; omega
    ·rw [if_neg hc] at hF
     replace n44 := n44.trans (congrArg (!·) (decide_eq_false fun h => hc (.inl h)))
     replace n59 := n59.trans (congrArg (!·) (decide_eq_false fun h => hc (.inr h)))
     have HF := Lib.hid (And.intro hF (And.intro hx hz))
     clear hF hx hz hc
     replace n44 : _ = true := n44
     replace n59 : _ = true := n59
     go_wp2
     go_round
     case rel => exact ⟨k + 1, o, u ++ s.extract k (k + 1), by omega, by go_num, rfl, rfl, by rw [ByteArray.size_append, HF.out.2.2]; omega, fun _ => by rw [ba_append, HF.out.2.1]; exact HF.out.1, fun h => by omega⟩
     case measure => simp [intOf]; omega
   ·have eT : decide ((k : Int) < (s.size : Int)) = false := decide_eq_false (by omega)
    rw [List.drop_eq_nil_of_le (by rw [ba_size]; omega), swapF] at hF
    by_cases hw : u.data.toList = a.data.toList
    ·have ew : (u.toList == a.toList) = true := by rw [ByteArray.toList_eq, ByteArray.toList_eq, hw]; simp
     rw [if_pos hw] at hF
     have HF := Lib.hid hF
     clear hF hw
     go_wp2
     go_round
     case rel => exact ⟨k + 1, o ++ b, ⟨#[]⟩, by omega, by go_num, rfl, rfl, by rw [ByteArray.size_append]; show _ + 0 <= _; omega, fun h => by omega, fun _ => by rw [ba_append]; exact HF.out⟩
     case measure => simp [intOf]; omega
    ·have ew : (u.toList == a.toList) = false := beq_eq_false_iff_ne.2 (by rw [ByteArray.toList_eq, ByteArray.toList_eq]; exact hw)
     rw [if_neg hw] at hF
     have HF := Lib.hid hF
     clear hF hw
     go_wp2
     go_round
     case rel => exact ⟨k + 1, o ++ u, ⟨#[]⟩, by omega, by go_num, rfl, rfl, by rw [ByteArray.size_append]; show _ + 0 <= _; omega, fun h => by omega, fun _ => by rw [ba_append]; exact HF.out⟩
     case measure => simp [intOf]; omega
  ·have eL : decide ((k : Int) <= (s.size : Int)) = false := decide_eq_false (by omega)
   have HE := Lib.hid (hE (by omega))
   clear hE hF
   go_wp2
   go_ret; exact ⟨by rw [<- HE.out]; exact congrArg (fun z => Ending.returned (.string z)) (ba_eta o).symm, rfl⟩
variable {w W : World} {G P : Nat} {vB vB' vP vP' : Value} {c : CodeD}
def OutsV (w : World) (G : Nat) (vB vP : Value) (c : CodeD) (vs : List Value) : Prop := w.ownsRow G 41 1 vB c.blocks.length vs /\ (∀ (i : Nat) (v : Value) (l : List InsD), vs[i]? = some v -> c.blocks[i]? = some l -> OwnI w G v l) /\ w.ownsRow G 9 1 vP c.params.length (strL c.params)
def Outs (w : World) (G : Nat) (vB vP : Value) (c : CodeD) : Prop := ∃ vs, OutsV w G vB vP c vs
theorem Outs.kept (h : Outs w G vB vP c) (hk : ∀ (k : Nat) (C : Array Value) (T : TypeId), w.heap[k]? = some (.cells C T (0, 0)) -> T = 41 \/ T = 43 \/ T = 9 -> W.heap[k]? = w.heap[k]?) : Outs W G vB vP c := by
 obtain ⟨vs, h1, h2, h3⟩ := h
 have own : ∀ {e : TypeId} {n size : Nat} {v : Value} {xs : List Value}, w.ownsRow G e size v n xs -> e = 41 \/ e = 43 \/ e = 9 -> W.ownsRow G e size v n xs := fun h he => own_kept h fun k hk' => by
  obtain ⟨_, cu, e1⟩ := own_type h hk'
  exact hk k cu _ e1 he
 exact ⟨vs, own h1 (.inl rfl), fun i v l a b => own (h2 i v l a b) (.inr (.inl rfl)), own h3 (.inr (.inr rfl))⟩
theorem Outs.below (h : Outs w G vB vP c) (hb : Below w.heap.size w W) : Outs W G vB vP c := h.kept fun k _ _ e _ => hb.block k (heap_in e)
theorem Outs.set (h : Outs w G vB vP c) {C : Array Value} {fr : Nat × Nat} (hp : w.heap[P]? = some (.cells C 35 fr)) (i : Nat) (v : Value) : Outs (w.setCell ⟨P, i, none⟩ v) G vB vP c := h.kept fun k C' T e hT => heap_set_other fun e2 => by
 rw [e2, hp] at e
 injection e with e
 injection e with _ e _
 rcases hT with h | h | h <;> exact absurd (e.trans h) (by decide)
theorem outs_row {vs : List Value} (h : OutsV w G vB vP c vs) {v : Value} {l : List InsD} (hv : OwnI w G v l) (ho : W.ownsRow G 41 1 vB' (c.blocks.length + 1) (vs ++ [v])) (hg : w.grownBy W vB.ownBlock) : Outs W G vB' vP ⟨c.blocks ++ [l], c.params⟩ := by
 obtain ⟨h1, h2, h3⟩ := h
 have keep : ∀ {e : TypeId} {n size : Nat} {u : Value} {xs : List Value}, w.ownsRow G e size u n xs -> e ≠ 41 -> W.ownsRow G e size u n xs := fun h he => own_kept h fun k hk => by
  obtain ⟨_, cu, e1⟩ := own_type h hk
  exact others h1 (fun i hi hn => hg.block i hi fun e => hn e.symm) e1 he
 have hl : vs.length = c.blocks.length := by have := h1.1; omega
 refine ⟨vs ++ [v], by rw [List.length_append]; exact ho, fun i u m hu hm => ?_, keep h3 (by decide)⟩
 rcases Nat.lt_or_ge i vs.length with hi | hi
 ·rw [List.getElem?_append_left hi] at hu
  rw [List.getElem?_append_left (by omega)] at hm
  exact keep (h2 i u m hu hm) (by decide)
 ·rw [List.getElem?_append_right hi] at hu
  rw [List.getElem?_append_right (by omega)] at hm
  have e1 := List.mem_singleton.1 (List.mem_of_getElem? hu)
  have e2 := List.mem_singleton.1 (List.mem_of_getElem? hm)
  subst e1 e2
  exact keep hv (by decide)
theorem outs_par {vs : List Value} (h : OutsV w G vB vP c vs) {s : Bs} (ho : W.ownsRow G 9 1 vP' (c.params.length + 1) (strL c.params ++ [.string ⟨s.toArray⟩])) (hg : w.grownBy W vP.ownBlock) : Outs W G vB vP' ⟨c.blocks, c.params ++ [s]⟩ := by
 obtain ⟨h1, h2, h3⟩ := h
 have keep : ∀ {e : TypeId} {n size : Nat} {u : Value} {xs : List Value}, w.ownsRow G e size u n xs -> e ≠ 9 -> W.ownsRow G e size u n xs := fun h he => own_kept h fun k hk => by
  obtain ⟨_, cu, e1⟩ := own_type h hk
  exact others h3 (fun i hi hn => hg.block i hi fun e => hn e.symm) e1 he
 refine ⟨vs, keep h1 (by decide), fun i u m hu hm => keep (h2 i u m hu hm) (by decide), ?_⟩
 rw [List.length_append, show strL (c.params ++ [s]) = strL c.params ++ [.string ⟨s.toArray⟩] from List.map_append ..]
 exact ho
theorem Outs.codeIn (h : Outs w G vB vP c) : ∃ ga gc ha hc, vB = .slice ga c.blocks.length gc /\ vP = .slice ha c.params.length hc /\ CodeIn w ga gc ha hc c := by
 obtain ⟨vs, h1, h2, h3⟩ := h
 have hp : ∃ ha hc, vP = .slice ha c.params.length hc /\ NamesAt w ha hc c.params := by
  rcases h3.2 with ⟨rfl, h0⟩ | ⟨g, cap, cur, rfl, _⟩
  ·exact ⟨none, 0, by rw [h0], NamesAt.zero _ _ (List.length_eq_zero_iff.1 h0)⟩
  ·exact ⟨_, cap, rfl, own_names h3⟩
 obtain ⟨ha, hc, rfl, hn⟩ := hp
 rcases h1.2 with ⟨rfl, h0⟩ | ⟨g, cap, cur, rfl, h4, h5, h6, _⟩
 ·exact ⟨none, 0, ha, hc, by rw [h0], rfl, by omega, .inl (List.length_eq_zero_iff.1 h0), hn⟩
 ·refine ⟨_, cap, ha, hc, rfl, rfl, h6, .inr ⟨g, 0, rfl, heap_in h5, fun i l hl => ?_⟩, hn⟩
  have hi := (List.getElem?_eq_some_iff.1 hl).1
  obtain ⟨v, hv⟩ : ∃ v, vs[i]? = some v := ⟨_, List.getElem?_eq_getElem (by have := h1.1; omega)⟩
  rw [Nat.zero_add]
  exact ⟨_, (own_cell h1 hv).1, insRow_of (h2 i v l hv hl)⟩
theorem OwnI.mono {B B' : Nat} {v : Value} {l : List InsD} (h : OwnI w B v l) (hB : B' <= B) : OwnI w B' v l := ⟨h.1, h.2.imp id fun ⟨g, cap, cur, e1, e2, e3⟩ => ⟨g, cap, cur, e1, Nat.le_trans hB e2, e3⟩⟩
theorem alloc_keep {o x : Obj} {r : Nat} (h : w.heap[r]? = some x) : (w.alloc o).heap[r]? = some x := ((allocB (Below.refl w.heap.size w)).block r (heap_in h)).trans h
theorem alloc_snd (w : World) (x y : Obj) : ((w.alloc x).alloc y).heap[w.heap.size + 1]? = some y := by
 rw [show w.heap.size + 1 = (w.alloc x).heap.size from (Array.size_push ..).symm]; exact heap_alloc_new _ _
theorem swapped_any (c : CodeD) (ga ha : Option Addr) (gc hc : Nat) (a b : ByteArray) (w : World) (hI : CodeIn w ga gc ha hc c) (hS : CodeSm c) (hbl : b.size <= 1000) : Calls prog 17 #[codeV ga gc ha hc c, .string a, .string b] w (fun e W => Below w.heap.size w W /\ ∃ ga' gc' ha' hc', e = .returned (codeV ga' gc' ha' hc' (swapC a.data.toList b.data.toList c)) /\ CodeIn W ga' gc' ha' hc' (swapC a.data.toList b.data.toList c)) := by
 obtain ⟨N, hN⟩ : ∃ N, c.blocks.length = N := ⟨_, rfl⟩
 obtain ⟨M, hM⟩ : ∃ M, c.params.length = M := ⟨_, rfl⟩
 have hNl : N <= 1000000 := hN ▸ hS.blocks
 have hNg : N <= gc := hN ▸ hI.cap
 have hMl : M <= 1000000 := hM ▸ hS.params
 have cS : ∀ (s : Bs) (_ : s.length <= 900000) (W : World), Calls prog 29 #[.string ⟨s.toArray⟩, .string a, .string b] W (Still (.string ⟨(swapS a.data.toList b.data.toList s).toArray⟩) W) := fun s hs W => swap_any ⟨s.toArray⟩ a b W (Nat.le_trans (show (⟨s.toArray⟩ : ByteArray).size <= 900000 by rw [<- ba_size]; exact hs) (by decide)) hbl
 unfold codeV
 rw [hN, hM]
 obtain ⟨A, hA⟩ : ∃ A, a.data.toList = A := ⟨_, rfl⟩
 obtain ⟨B, hB⟩ : ∃ B, b.data.toList = B := ⟨_, rfl⟩
 rw [hA, hB] at cS ⊢
 obtain ⟨iR, hi1, hz1, hs1, hb1⟩ := info_parts infoRow
 obtain ⟨iS, hi2, hz2, hs2, hb2⟩ := info_parts infoStr
 have HR := Lib.hid (And.intro hi1 (And.intro hz1 (And.intro hs1 hb1)))
 have HS := Lib.hid (And.intro hi2 (And.intro hz2 (And.intro hs2 hb2)))
 clear hi1 hz1 hs1 hb1 hi2 hz2 hs2 hb2 hA hB hbl
 go_enter func17, ntmps17
 go_upto_region 1 with (fail)
 refine wp_abs2 (fun W => Below w.heap.size w W /\ W.heap[w.heap.size]? = some (.cells #[.slice ga N gc, .slice ha M hc] 35 (0, 0)) /\ W.heap[w.heap.size + 1]? = some (.cells #[.slice none 0 0, .slice none 0 0] 35 (0, 0))) ⟨belx, alloc_keep (heap_alloc_new _ _), alloc_snd _ _ _⟩ ?_
 rintro w1 ⟨hb, q0, q6⟩
 obtain ⟨B0, hB0⟩ : ∃ z, w.heap.size = z := ⟨_, rfl⟩
 rw [hB0] at q0 q6 ⊢
 have zB : w.heap.size <= B0 := Nat.le_of_eq hB0
 clear hB0
 refine wp_region_lit ?_
 refine wn (.agg #[.slice none 0 0, .slice none 0 0]) w1 ?_
 refine mbx 35 (.tmp 7) (.tmp 13) #[.slice none 0 0, .slice none 0 0] #[.slice none 0 0, .slice none 0 0] cellsCode (oneCode _ _ rfl rfl) ?_
 rintro w2 ⟨h2, q7⟩
 refine wpList_nil ?_
 obtain ⟨P, hP⟩ : ∃ z, w1.heap.size = z := ⟨_, rfl⟩
 have z6 := heap_in q6
 replace hI := hI.below hb
 rw [hP] at q7 h2 z6 ⊢
 have setP : ∀ {W : World} {i : Nat} {v : Value}, Below P w1 W -> Below P w1 (W.setCell ⟨P, i, none⟩ v) := fun h => by rw [<- hP] at h ⊢; exact setB h (Nat.le_refl _)
 have HP := Lib.hid hP
 clear hP
 go_wp2_with fail
 go_loopw [8] (fun i w' => ∃ (k : Nat) (vB : Value), i = .int .i64 (k : Int) /\ k <= N /\ w'.heap[P]? = some (.cells #[vB, .slice none 0 0] 35 (0, 0)) /\ Outs w' (P + 1) vB (.slice none 0 0) ⟨(c.blocks.take k).map fun l => l.map (swapI A B), []⟩ /\ Below P w1 w') (fun i _ => N - (intOf i).toNat)
 case atStart => exact ⟨0, _, rfl, Nat.zero_le _, q7, ⟨[], ⟨rfl, .inl ⟨rfl, rfl⟩⟩, fun _ _ _ h => by simp at h, rfl, .inl ⟨rfl, rfl⟩⟩, h2⟩
 case round =>
  clear h2 q7
  obtain ⟨k, vB, rfl, hkN, q7, hO, h2⟩ := hrel
  have hPs : Hid (P = w1.heap.size) := Lib.hid HP.out.symm
  have hI' : CodeIn wr ga gc ha hc c := hI.below (by rw [<- hPs.out]; exact h2)
  have q0' : wr.heap[B0]? = some (.cells #[.slice ga N gc, .slice ha M hc] 35 (0, 0)) := (h2.block B0 (by omega)).trans q0
  have c0 : wr.cell? ⟨B0, 0, none⟩ = some (.slice ga N gc) := (lie_cell q0').1 0
  by_cases hlt : k < N
  ·
   have hkI : (k : Int) < (N : Int) := by omega
   obtain ⟨l, hl⟩ : ∃ l, c.blocks[k]? = some l := ⟨_, List.getElem?_eq_getElem (by omega)⟩
   obtain ⟨rb, ro, rfl, hrb, hrows⟩ := hI'.rows.resolve_left (fun h => by rw [h] at hN; simp at hN; omega)
   obtain ⟨v0, hv, la, lc, rfl, hlc, hins⟩ := hrows k l hl
   obtain ⟨hll, hsm⟩ := hS.each l (List.mem_of_getElem? hl)
   have ewK : IntKind.i64.wrap ((k : Int) + 1) = ((k + 1 : Nat) : Int) := by rw [IntWalk.i64_in _ (by omega)]; omega
   obtain ⟨Ln, hLn⟩ : ∃ Ln, l.length = Ln := ⟨_, rfl⟩
   rw [hLn] at hv hlc hll
   obtain ⟨wo, hwo⟩ : ∃ z, z = wr := ⟨_, rfl⟩
   subst hwo
   have zB0 := heap_in q0'
   have zP := heap_in q7
   have H := Lib.hid (And.intro q7 (And.intro hO h2))
   clear hrows hI' q0' q7 hO h2
   go_wp2_with fail
   go_loopw [9, 10] (fun v i w' => ∃ j : Nat, i = .int .i64 (j : Int) /\ j <= Ln /\ OwnI w' wo.heap.size v ((l.take j).map (swapI A B)) /\ Below wo.heap.size wo w') (fun _ i _ => Ln - (intOf i).toNat)
   case atStart => exact ⟨0, rfl, Nat.zero_le _, ⟨rfl, .inl ⟨rfl, rfl⟩⟩, Below.refl _ _⟩
   case round =>
    obtain ⟨j, rfl, hjL, hown, hB⟩ := hrel
    have c0' : wr.cell? ⟨B0, 0, none⟩ = some (.slice (some ⟨rb, ro, none⟩) N gc) := (hB.cell (p := ⟨B0, 0, none⟩) zB0).trans c0
    have cB' : wr.cell? ⟨rb, ro + k, none⟩ = some (.slice la Ln lc) := (hB.cell (p := ⟨rb, ro + k, none⟩) hrb).trans hv
    by_cases hjl : j < Ln
    ·
     obtain ⟨x, hx⟩ : ∃ x, l[j]? = some x := ⟨_, List.getElem?_eq_getElem (by omega)⟩
     obtain ⟨xb, xo, rfl, hxb, hxr⟩ := hins.resolve_left (fun h => by rw [h] at hLn; simp at hLn; omega)
     have hxw : wr.rangeAt xb (xo + j * 18) (insC x) := fun jj u hu => (hB.cell (p := ⟨xb, xo + j * 18 + jj, none⟩) hxb).trans (hxr j x hx jj u hu)
     have hjI : (j : Int) < (Ln : Int) := by omega
     have ewJ : IntKind.i64.wrap ((j : Int) + 1) = ((j + 1 : Nat) : Int) := by rw [IntWalk.i64_in _ (by omega)]; omega
     have ht : (l.take (j + 1)).map (swapI A B) = (l.take j).map (swapI A B) ++ [swapI A B x] := by rw [List.take_add_one, hx]; simp
     have cX := cS x.s (hsm x (List.mem_of_getElem? hx)).text
     go_upto_region 9 with (fail)
     refine wp_region_lit ?_
     iterate 7 refine st ?_
     refine wpList_load_mid rfl 43 (.tmp 37) rfl xb (xo + j * 18) rfl (insC x) _ hxw underlying43 rfl cellsIns ?_
     iterate 1 refine st ?_
     refine wpList_store_mid rfl 43 (.tmp 11) (.tmp 38) rfl wr.heap.size 0 (insC x).toArray rfl rfl (whole_there (heap_alloc_new _ _) rfl) cellsIns (all_oneCell_toArray (insC_one x)) ?_
     refine wpList_abs (On1 43 wr (insC x).toArray) ⟨below_cells _ _ _ _ _ ((Below.refl _ _).alloc (Nat.le_refl _) _), box_whole (heap_alloc_new _ _) rfl⟩ ?_
     rintro w7 ⟨h7, x7⟩
     refine wpList_nil ?_
     obtain ⟨E, hE⟩ : ∃ E, wr.heap.size = E := ⟨_, rfl⟩
     rw [hE] at x7 ⊢
     clear hxw hxr c0' cB'
     simp only [Act.put]
     go_upto_region 10 with (fail)
     go_cut [51] from 39 to 50 (fun bv wx => bv = .bool (decide (x.op = 15 \/ x.op = 17 \/ x.op = 18)) /\ wx = w7)
     case first =>
      have cx0 : w7.cell? ⟨E, 0, none⟩ = some (.int .i64 x.op) := (lie_cell x7).1 0
      clear hown hB h7 x7 H HR HS HP hxb hrb hv hl hlc hins hI q0 q6 hb
      by_cases h : x.op = 15 \/ x.op = 17 \/ x.op = 18
      ·have hd := Lib.hid (congrArg Value.bool (decide_eq_true h).symm)
       rcases h with h | h | h
       all_goals (
        rw [h] at cx0
        go_wp2
        go_meet
        exact ⟨hd.out, rfl⟩)
      ·have hd := Lib.hid (congrArg Value.bool (decide_eq_false h).symm)
       have e15 : (x.op == 15) = false := beq_eq_false_iff_ne.2 fun e => h (.inl e)
       have e17 : (x.op == 17) = false := beq_eq_false_iff_ne.2 fun e => h (.inr (.inl e))
       have e18 : (x.op == 18) = false := beq_eq_false_iff_ne.2 fun e => h (.inr (.inr e))
       go_wp2
       go_meet
       exact ⟨hd.out, rfl⟩
     case rest =>
     obtain ⟨rfl, hw⟩ := hcut
     subst hw
     go_upto_if 51 with (fail)
     go_cut [] from 51 to 57 (fun wx => Below wr.heap.size wr wx /\ wx.heap[E]? = some (.cells (insC (swapI A B x)).toArray 43 (0, 0)))
     case first =>
      have cx3 : wc.cell? ⟨E, 3, none⟩ = some (.string ⟨x.s.toArray⟩) := (lie_cell x7).1 3
      have dx3 : wc.frozen? ⟨E, 3, none⟩ = false := (lie_cell x7).2.1 3
      have HX := Lib.hid (And.intro h7 x7)
      clear hown hB h7 x7 H HR HS HP hxb hrb hv hl hlc hins hI q0 q6 hb
      by_cases h : x.op = 15 \/ x.op = 17 \/ x.op = 18
      ·have he : (insC x).toArray.setIfInBounds 3 (.string ⟨(swapS A B x.s).toArray⟩) = (insC (swapI A B x)).toArray := by unfold swapI; rw [if_pos h]; rfl
       have HX1 : Below wr.heap.size wr (wc.setCell ⟨E, 3, none⟩ (.string ⟨(swapS A B x.s).toArray⟩)) := setB HX.out.1 (Nat.le_of_eq hE)
       have HX2 := Lib.hid (And.intro HX1 ((heap_set_same (i := 3) (v := .string ⟨(swapS A B x.s).toArray⟩) HX.out.2).trans (by rw [he])))
       clear he HX HX1
       rw [decide_eq_true h]
       go_wp2_with (go_at_call 29; refine (cX _).mono ?_; rintro e w1 ⟨rfl, rfl⟩)
       go_meet
       exact HX2.out
      ·have he : swapI A B x = x := if_neg h
       rw [decide_eq_false h]
       go_wp2
       go_meet
       rw [he]
       exact HX.out
     case rest =>
     obtain ⟨h8, x8⟩ := hcut
     clear h7 x7
     have hB8 := after hB h8
     have own8 : OwnI wc wo.heap.size u9 ((l.take j).map (swapI A B)) := own_below hown h8
     clear hown hB h8
     go_upto_region 12 with (fail)
     refine wp_region_lit ?_
     refine wn u9 wc ?_
     refine ldr (.tmp 11) x8 underlying43 cellsIns ?_
     refine wn (.slice (some ⟨wc.heap.size, 0, none⟩) 1 1) (wc.alloc (.cells (insC (swapI A B x)).toArray 43)) ?_
     refine wpList_abs (fun  W => OwnI W wo.heap.size u9 ((l.take j).map (swapI A B)) /\ Below wo.heap.size wo W /\ W.heap[wc.heap.size]? = some (.cells (insC (swapI A B x)).toArray 43 (0, 0))) ⟨own8.alloc _, allocB hB8, heap_alloc_new _ _⟩ ?_
     clear own8 hB8 x8
     rintro w9 ⟨own9, hB9, e9⟩
     refine wpList_app (.tmp 58) (.tmp 60) wo u9 ((l.take j).map (swapI A B)) own9 hB9 [swapI A B x] _ (lit_row e9) (by simp) (by simp; omega) ?_
     intro u w10 own10 hB10
     rw [<- ht] at own10
     clear own9 hB9 e9
     simp only [Act.put, List.setIfInBounds_toArray, List.set_cons_zero, List.set_cons_succ]
     iterate 1 refine st ?_
     refine wpList_nil ?_
     have HE := Lib.hid (And.intro own10 hB10)
     clear own10 hB10
     go_wp2
     go_roundw
     case rel => exact ⟨j + 1, rfl, by omega, HE.out.1, HE.out.2⟩
     case measure => simp [intOf]; omega
    ·
     have hjE : j = Ln := by omega
     subst hjE
     rw [List.take_of_length_le (by omega)] at hown
     have htk : (c.blocks.take (k + 1)).map (fun l => l.map (swapI A B)) = (c.blocks.take k).map (fun l => l.map (swapI A B)) ++ [l.map (swapI A B)] := by rw [List.take_add_one, hl]; simp
     obtain ⟨q7, hO, h2⟩ := H.out
     obtain ⟨Bk, hBk⟩ : ∃ z, (c.blocks.take k).map (fun l => l.map (swapI A B)) = z := ⟨_, rfl⟩
     have hBl : Bk.length <= 1000000 := by rw [<- hBk]; simp; omega
     rw [hBk] at hO htk
     replace q7 := (hB.block P zP).trans q7
     replace hO := hO.below hB
     replace h2 := h2.trans (hB.mono (Nat.le_of_lt zP))
     replace hown := hown.mono (B' := P + 1) zP
     obtain ⟨l', hl'⟩ : ∃ z, l.map (swapI A B) = z := ⟨_, rfl⟩
     have hlj : l'.length = j := by rw [<- hl', List.length_map, hLn]
     rw [hl'] at hown htk
     obtain ⟨va, vc, hv9⟩ := own_shape hown
     rw [hlj] at hv9
     subst hv9
     have c7 : wr.cell? ⟨P, 0, none⟩ = some vB := (lie_cell q7).1 0
     clear H hins hlc hv hrb hl hB
     go_upto_region 13 with (fail)
     refine wp_region_lit ?_
     iterate 3 refine st ?_
     refine mrw 1 41 #[.slice va j vc] ?_
     rintro w9 ⟨hx9, e9⟩
     have zr := heap_in q7
     replace q7 := (hx9.block P zr).trans q7
     replace h2 := h2.trans (hx9.mono (Nat.le_of_lt zr))
     obtain ⟨vs, hV⟩ := hO.below hx9
     have own9 : OwnI w9 (P + 1) _ _ := own_below hown hx9
     have z9 := heap_in q7
     clear hO hown c7 hx9 c0' cB'
     refine wpList_append_own_at _ rfl (.tmp 63) (.tmp 65) 32 rfl (P + 1) 41 iR _ 1 24 underlying32 HR.out.1 HR.out.2.1 HR.out.2.2.1 HR.out.2.2.2 rfl (by decide) vB Bk.length vs rfl hV.1 ⟨wr.heap.size, 0, none⟩ 1 1 [.slice va j vc] rfl rfl (fun j u hj => by rw [Addr.add_mid, Nat.zero_add, (lie_cell e9).1 j]; simpa using hj) (by intro u hu; rw [List.mem_singleton.1 hu]; rfl) (by unfold maxLen; omega) (by omega) z9 ?_
     intro v' w10 own10 hg10 _ _
     have q10 := grow_keeps hV.1 q7 (by decide) hg10
     have h10 : Below P w1 w10 := h2.grown hg10 (Nat.le_of_lt z9) (fun i hi => by have := (own_type hV.1 hi).1; omega)
     have O10 : Outs w10 (P + 1) v' (.slice none 0 0) ⟨_ ++ [l'], []⟩ := outs_row hV own9 own10 hg10
     rw [<- htk] at O10
     obtain ⟨g7, c7, rfl⟩ := own_shape own10
     obtain ⟨f7, d7, z7⟩ := lie_cell q10
     have HT := Lib.hid (And.intro q10 (And.intro h10 O10))
     clear own9 own10 hV e9 hg10 q7 h2 q10 h10 O10
     simp only [Act.put, List.setIfInBounds_toArray, List.set_cons_zero, List.set_cons_succ]
     iterate 2 refine st ?_
     refine wpList_abs (fun W => W.heap[P]? = some (.cells #[.slice g7 (Bk.length + 1) c7, .slice none 0 0] 35 (0, 0)) /\ Outs W (P + 1) (.slice g7 (Bk.length + 1) c7) (.slice none 0 0) ⟨(c.blocks.take (k + 1)).map fun l => l.map (swapI A B), []⟩ /\ Below P w1 W) ⟨heap_set_same HT.out.1, HT.out.2.2.set HT.out.1 _ _, setP HT.out.2.1⟩ ?_
     clear HT f7 d7
     rintro w11 ⟨q7, hO, h2⟩
     refine wpList_nil ?_
     have HE := Lib.hid (And.intro q7 (And.intro hO h2))
     clear q7 hO h2
     go_wp2
     go_roundw
     case rel => exact ⟨k + 1, _, rfl, by omega, HE.out⟩
     case measure => simp [intOf]; omega
  ·
   have hkE : N = k := by omega
   subst hkE
   rw [List.take_of_length_le (by omega)] at hO
   obtain ⟨Bl, hBl⟩ : ∃ Bl, c.blocks.map (fun l => l.map (swapI A B)) = Bl := ⟨_, rfl⟩
   rw [hBl] at hO
   clear hI'
   go_wp2_with fail
   go_loopw [12] (fun i w' => ∃ (m : Nat) (vP : Value), i = .int .i64 (m : Int) /\ m <= M /\ w'.heap[P]? = some (.cells #[vB, vP] 35 (0, 0)) /\ Outs w' (P + 1) vB vP ⟨Bl, (c.params.take m).map (swapS A B)⟩ /\ Below P w1 w') (fun i _ => M - (intOf i).toNat)
   case atStart => exact ⟨0, _, rfl, Nat.zero_le _, q7, hO, h2⟩
   case round =>
    clear q7 hO h2 c0 q0'
    obtain ⟨m, vP, rfl, hmM, q7, hO, h2⟩ := hrel
    have q0' : wr.heap[B0]? = some (.cells #[.slice ga N gc, .slice ha M hc] 35 (0, 0)) := (h2.block B0 (by omega)).trans q0
    have c1 : wr.cell? ⟨B0, 1, none⟩ = some (.slice ha M hc) := (lie_cell q0').1 1
    by_cases hlt : m < M
    ·
     have hI' : NamesAt wr ha hc c.params := hI.pars.below (by rw [<- hPs.out]; exact h2)
     obtain ⟨pb, po, rfl, hpb, cp⟩ := hI'.cell (i := m) (by omega)
     obtain ⟨p, hp⟩ : ∃ p, c.params[m]? = some p := ⟨_, List.getElem?_eq_getElem (by omega)⟩
     have hpe : c.params[m]'(by omega) = p := (List.getElem?_eq_some_iff.1 hp).2
     rw [hpe] at cp
     have cA := fun W => (cS p (hS.names p (List.mem_of_getElem? hp)) W).mono fun _ _ h => h.ret
     have htm : (c.params.take (m + 1)).map (swapS A B) = (c.params.take m).map (swapS A B) ++ [swapS A B p] := by rw [List.take_add_one, hp]; simp
     obtain ⟨Pm, hPm⟩ : ∃ z, (c.params.take m).map (swapS A B) = z := ⟨_, rfl⟩
     have hPl : Pm.length <= 1000000 := by rw [<- hPm]; simp; omega
     rw [hPm] at hO htm
     have ewM : IntKind.i64.wrap ((m : Int) + 1) = ((m + 1 : Nat) : Int) := by rw [IntWalk.i64_in _ (by omega)]; omega
     have hmI : (m : Int) < (M : Int) := by omega
     have fb1 : wr.cell? ⟨P, 1, none⟩ = some vP := (lie_cell q7).1 1
     have zP := heap_in q7
     have zB0 := heap_in q0'
     go_upto_region 17 with (fail)
     have kc := gcell wr
     have HO := Lib.hid (And.intro q7 (And.intro hO h2))
     clear q7 hO h2 hp hpe
     refine region_made_tail 11 (by kernel_rfl) (by kernel_rfl) fun β => ?_
     simp only [List.take_succ_cons, List.take_zero, List.drop_succ_cons, List.drop_zero]
     iterate 10 (refine wpM_step (fun K hK => ?_); go_simp; first | (refine hK _ ?_; clear hK K) | (apply Exists.intro; refine ⟨fun _ => ⟨by kernel_rfl, ?_⟩, hK _ ?_⟩; (exact (cA _).mono fun _ _ h => ⟨h.1, h.2⟩); clear hK K))
     refine wpM_make (fun b => .slice (some ⟨b, 0, none⟩) 1 1) (.cells #[.string ⟨(swapS A B p).toArray⟩] 9) rfl (fun W _ => by kernel_rfl) ?_
     refine wpM_nil ?_
     intro w5 ⟨hb5, hla, hap⟩
     obtain ⟨zb5, hl5⟩ := hla 10 _ _ rfl
     have q5 := (hb5.block _ zP).trans HO.out.1
     obtain ⟨vs, hV⟩ := HO.out.2.1.below hb5
     have h5 := HO.out.2.2.trans (hb5.mono (Nat.le_of_lt zP))
     have hz5 := heap_in q5
     clear kc cA fb1 HO hla hap hb5
     refine wpList_append_own_at _ rfl (.tmp 76) (.tmp 85) 33 rfl (P + 1) 9 iS _ 1 16 underlying33 HS.out.1 HS.out.2.1 HS.out.2.2.1 HS.out.2.2.2 rfl (by decide) vP Pm.length (strL Pm) rfl hV.2.2 ⟨β 10, 0, none⟩ 1 1 [.string ⟨(swapS A B p).toArray⟩] rfl rfl (fun j u hj => by rw [Addr.add_mid, Nat.zero_add, (laid_cell hl5).1 j]; simpa using hj) (by intro u hu; rw [List.mem_singleton.1 hu]; rfl) (by unfold maxLen; omega) (by omega) hz5 ?_
     intro v' w7 own7 hg7 _ _
     have q7 := grow_keeps hV.2.2 q5 (by decide) hg7
     have h7 : Below P w1 w7 := h5.grown hg7 (Nat.le_of_lt hz5) (fun i hi => by have := (own_type hV.2.2 hi).1; omega)
     have O7 : Outs w7 (P + 1) vB v' ⟨Bl, _ ++ [swapS A B p]⟩ := outs_par hV own7 hg7
     rw [<- htm] at O7
     obtain ⟨g7, c7, rfl⟩ := own_shape own7
     obtain ⟨f7, d7, z7⟩ := lie_cell q7
     have HT := Lib.hid (And.intro q7 (And.intro h7 O7))
     clear own7 hV hl5 zb5 hg7 q5 h5 q7 h7 O7
     simp only [Act.put, List.setIfInBounds_toArray, List.set_cons_zero, List.set_cons_succ]
     iterate 2 refine st ?_
     refine wpList_abs (fun W => W.heap[P]? = some (.cells #[vB, .slice g7 (Pm.length + 1) c7] 35 (0, 0)) /\ Outs W (P + 1) vB (.slice g7 (Pm.length + 1) c7) ⟨Bl, (c.params.take (m + 1)).map (swapS A B)⟩ /\ Below P w1 W) ⟨heap_set_same HT.out.1, HT.out.2.2.set HT.out.1 _ _, setP HT.out.2.1⟩ ?_
     clear HT f7 d7
     rintro w11 ⟨q7, hO, h2⟩
     refine wpList_nil ?_
     have HE := Lib.hid (And.intro q7 (And.intro hO h2))
     clear q7 hO h2
     go_wp2
     go_roundw
     case rel => exact ⟨m + 1, _, rfl, by omega, HE.out⟩
     case measure => simp [intOf]; omega
    ·
     have hmE : M = m := by omega
     subst hmE
     rw [List.take_of_length_le (by omega)] at hO
     have e0 : (⟨Bl, c.params.map (swapS A B)⟩ : CodeD) = swapC A B c := by rw [<- hBl]; rfl
     rw [e0] at hO
     obtain ⟨ga', gc', ha', hc', e1, e2, hJ⟩ := hO.codeIn
     subst e1 e2
     have q6' : wr.heap[B0 + 1]? = some (.cells #[.slice none 0 0, .slice none 0 0] 35 (0, 0)) := (h2.block _ z6).trans q6
     go_upto_region 18 with (fail)
     refine wp_region_lit ?_
     refine ldr (.tmp 7) q7 underlying35 cellsCode ?_
     refine wpList_store_mid rfl 35 (.tmp 6) (.tmp 88) rfl (B0 + 1) 0 ([.slice ga' (swapC A B c).blocks.length gc', .slice ha' (swapC A B c).params.length hc']).toArray rfl rfl (whole_there q6' rfl) cellsCode (oneCode _ _ rfl rfl) ?_
     refine wpList_abs (fun W => Below w.heap.size w W /\ W.heap[B0 + 1]? = some (.cells ([.slice ga' (swapC A B c).blocks.length gc', .slice ha' (swapC A B c).params.length hc']).toArray 35 (0, 0)) /\ Outs W (P + 1) (.slice ga' (swapC A B c).blocks.length gc') (.slice ha' (swapC A B c).params.length hc') (swapC A B c)) ⟨below_cells2 (by omega) _ _ _ (hb.trans (h2.mono (by omega))), box_whole q6' rfl, hO.kept fun i C T e hT => cells_other (fun e2 => by
      rw [e2, q6'] at e
      injection e with e
      injection e with _ e _
      rcases hT with h | h | h <;> exact absurd (e.trans h) (by decide)) _ _ _⟩ ?_
     rintro wf ⟨hbf, qf, hOf⟩
     refine wpList_nil ?_
     obtain ⟨ga2, gc2, ha2, hc2, e1, e2, hJf⟩ := hOf.codeIn
     have HF := Lib.hid (And.intro hbf (And.intro qf (And.intro (And.intro e1 e2) hJf)))
     clear hbf qf hOf hJf hJ hO q7 q6' e1 e2 c1 q0' h2
     go_wp2
     exact bodyPost_ret (results_cell_row rfl _ _ (B0 + 1) 35 ([.slice ga' (swapC A B c).blocks.length gc', .slice ha' (swapC A B c).params.length hc']).toArray (0, 0) _ rfl HF.out.2.1 underlying35 rfl cellsCode) rfl ⟨HF.out.1, ga2, gc2, ha2, hc2, by rw [HF.out.2.2.1.1, HF.out.2.2.1.2], HF.out.2.2.2⟩
end Go.Proofs.YtlpgigdegnbkmaaGreatDoor
