import Derived.Test.YtlpgigdegnbkmaaGreatDoorM05
set_option maxRecDepth 100000
set_option maxHeartbeats 200000
namespace Tab
inductive NodeD where
 | mk (k : Int) (s : Bs) (m e : Int) (b : Bool) (err : Int) (ref far : RefD) (rows : Int) (kids : List NodeD)
namespace NodeD
def kind : NodeD -> Int | mk k _ _ _ _ _ _ _ _ _ => k
def text : NodeD -> Bs | mk _ s _ _ _ _ _ _ _ _ => s
def m : NodeD -> Int | mk _ _ m _ _ _ _ _ _ _ => m
def e : NodeD -> Int | mk _ _ _ e _ _ _ _ _ _ => e
def b : NodeD -> Bool | mk _ _ _ _ b _ _ _ _ _ => b
def err : NodeD -> Int | mk _ _ _ _ _ err _ _ _ _ => err
def ref : NodeD -> RefD | mk _ _ _ _ _ _ r _ _ _ => r
def far : NodeD -> RefD | mk _ _ _ _ _ _ _ t _ _ => t
def rows : NodeD -> Int | mk _ _ _ _ _ _ _ _ r _ => r
def kids : NodeD -> List NodeD | mk _ _ _ _ _ _ _ _ _ l => l
def none : NodeD := mk 0 [] 0 0 false 0 RefD.zero RefD.zero 0 []
end NodeD
def Deep : Nat -> NodeD -> Prop
 | 0, _ => False
 | f + 1, n => ∀ k ∈ n.kids, Deep f k
structure InsD where
 op : Int
 a : Int := 0
 b : Int := 0
 s : Bs := []
 m : Int := 0
 e : Int := 0
 ref : RefD := RefD.zero
 far : RefD := RefD.zero
structure CodeD where
 blocks : List (List InsD)
 params : List Bs
def putC (c : CodeD) (n : Nat) (x : InsD) : CodeD := { c with blocks := c.blocks.modify n (· ++ [x]) }
def hereC (c : CodeD) (n : Nat) : Nat := (c.blocks.getD n []).length
def overC (c : CodeD) (n u o : Nat) : CodeD :=
 { c with blocks := c.blocks.modify n fun l => (l.modify u fun x => { x with a := (o : Int) - u, b := (l.length : Int) - u - 1 }).modify o fun x => { x with a := (l.length : Int) - o - 1 } }
def splitD : Bs -> List Bs
 | [] => [[]]
 | b :: l => if b = 44 then [] :: splitD l else match splitD l with
  | [] => [[b]]
  | x :: r => (b :: x) :: r
def namesD (s : Bs) : List Bs := if s = [] then [] else splitD s
def loI (c : Int) : Int := if 65 <= c /\ c <= 90 then c + 32 else c
def lowerD (l : Bs) : Bs := Go.Lib.mapD loI l
def findN (known : List Bs) (s : Bs) : Option Bs := known.reverse.find? fun x => lowerD x == lowerD s
def heldN : List Bs -> Bs -> List Bs
 | [], _ => []
 | x :: l, own => if (findN l x).isNone && (own == [] || !(lowerD x == lowerD own)) then x :: heldN l own else heldN l own
def joinN : List Bs -> Bs
 | [] => []
 | [x] => x
 | x :: l => x ++ 44 :: joinN l
def leafI (n : NodeD) : InsD :=
 if n.kind = 1 then { op := 1, m := n.m, e := n.e }
 else if n.kind = 2 then { op := 2, s := n.text }
 else if n.kind = 3 then { op := 3, a := if n.b then 1 else 0 }
 else if n.kind = 4 then { op := 4, a := n.err }
 else if n.kind = 5 then { op := 5, ref := n.ref }
 else if n.kind = 6 then { op := 6, ref := n.ref, far := n.far }
 else if n.kind = 9 then { op := 8, s := n.text }
 else if n.kind = 10 then { op := 9, s := n.text }
 else if n.kind = 11 then { op := 10, s := n.text }
 else if n.kind = 13 then { op := 12, a := n.rows, b := (n.kids.length : Int) / n.rows }
 else { op := 4, a := 5 }
def subC (g : CodeD -> Nat -> List Bs -> NodeD -> CodeD) (c : CodeD) (b : Nat) (known : List Bs) : Option NodeD -> CodeD
 | some k => g c b known k
 | Option.none => c
def comp : Nat -> CodeD -> Nat -> List Bs -> Bs -> NodeD -> CodeD
 | 0, c, _, _, _, _ => c
 | f + 1, c, b, known, own, n =>
  let each := fun (c : CodeD) (l : List NodeD) => l.foldl (fun c k => comp f c b known [] k) c
  if n.kind = 12 then
   match findN known n.text with
   | some g => putC (each (putC c b { op := 18, s := g }) n.kids) b { op := 16, a := n.kids.length }
   | Option.none =>
    if ¬ (upperD n.text = [73, 70]) \/ n.kids.length < 2 \/ 3 < n.kids.length then putC (each c n.kids) b { op := 11, s := upperD n.text, a := n.kids.length }
    else
     let c1 := subC (fun c b known k => comp f c b known [] k) c b known n.kids[0]?
     let c2 := subC (fun c b known k => comp f c b known [] k) (putC c1 b { op := 13 }) b known n.kids[1]?
     let c3 := putC c2 b { op := 14 }
     let c4 := if n.kids.length = 3 then subC (fun c b known k => comp f c b known [] k) c3 b known n.kids[2]? else putC c3 b { op := 3 }
     overC c4 b (hereC c1 b) (hereC c2 b)
  else if n.kind = 16 then
   let l := namesD n.text
   let r := (l.zip n.kids).foldl (fun (r : CodeD × List Bs) p => (putC (comp f r.1 b r.2 (if p.2.kind = 14 then p.1 else []) p.2) b { op := 17, s := p.1 }, r.2 ++ [p.1])) (c, known)
   putC (subC (fun c b known k => comp f c b known [] k) r.1 b r.2 n.kids[l.length]?) b { op := 19, a := l.length }
  else if n.kind = 14 then
   let keeps := heldN known own
   let next := c.blocks.length
   let c1 := putC c b { op := 15, a := next, s := if own = [] then joinN keeps else joinN keeps ++ 59 :: own }
   let c2 : CodeD := { blocks := c1.blocks ++ [[]], params := c1.params ++ [n.text] }
   subC (fun c b known k => comp f c b known [] k) c2 next ((if own = [] then keeps else keeps ++ [own]) ++ namesD n.text) n.kids[0]?
  else if n.kind = 15 then putC (each c n.kids) b { op := 16, a := (n.kids.length : Int) - 1 }
  else if n.kind = 7 then
   match findN known n.text with
   | some g => putC c b { op := 18, s := g }
   | Option.none => putC c b { op := 4, a := 5 }
  else putC (each c n.kids) b (leafI n)
def bareC : CodeD := ⟨[[]], [[]]⟩
theorem putC_len (c : CodeD) (b : Nat) (x : InsD) : (putC c b x).blocks.length = c.blocks.length := by simp [putC]
theorem overC_len (c : CodeD) (b u o : Nat) : (overC c b u o).blocks.length = c.blocks.length := by simp [overC]
theorem leafI_op (n : NodeD) : (leafI n).op ≠ 15 := by
 unfold leafI
 repeat' split
 all_goals (intro h; simp at h)
def funC (c : CodeD) (b : Nat) (s p : Bs) : CodeD :=
 { blocks := (putC c b { op := 15, a := c.blocks.length, s := s }).blocks ++ [[]], params := c.params ++ [p] }
theorem funC_len (c : CodeD) (b : Nat) (s p : Bs) : (funC c b s p).blocks.length = c.blocks.length + 1 := by simp [funC, putC_len]
def Ext (c d : CodeD) : Prop := ∀ (b : Nat) (l : List InsD), c.blocks[b]? = some l -> ∃ r, d.blocks[b]? = some (l ++ r)
theorem Ext.refl (c : CodeD) : Ext c c := fun b l h => ⟨[], by simpa using h⟩
theorem Ext.trans {c d e : CodeD} (h : Ext c d) (g : Ext d e) : Ext c e := fun b l hl => by
 obtain ⟨r, hr⟩ := h b l hl
 obtain ⟨s, hs⟩ := g b _ hr
 exact ⟨r ++ s, by rw [hs, List.append_assoc]⟩
theorem Ext.len {c d : CodeD} (h : Ext c d) : c.blocks.length <= d.blocks.length := by
 rcases Nat.lt_or_ge d.blocks.length c.blocks.length with g | g
 ·obtain ⟨r, hr⟩ := h d.blocks.length _ (List.getElem?_eq_getElem g)
  simp at hr
 ·exact g
theorem ext_put (c : CodeD) (b : Nat) (x : InsD) : Ext c (putC c b x) := fun j l h => by
 simp only [putC, List.getElem?_modify, h]
 by_cases e : b = j
 ·exact ⟨[x], by simp [e]⟩
 ·exact ⟨[], by simp [e]⟩
theorem ext_fun (c : CodeD) (b : Nat) (s p : Bs) : Ext c (funC c b s p) := fun j l h => by
 obtain ⟨r, hr⟩ := ext_put c b { op := 15, a := c.blocks.length, s := s } j l h
 exact ⟨r, by rw [funC, List.getElem?_append_left (List.getElem?_eq_some_iff.1 hr).1, hr]⟩
theorem modify_behind {α : Type} (l r : List α) (u : Nat) (g : α -> α) (h : l.length <= u) : ∃ s, (l ++ r).modify u g = l ++ s :=
 ⟨r.modify (u - l.length) g, by
  apply List.ext_getElem?
  intro i
  simp only [List.getElem?_modify, List.getElem?_append]
  by_cases e : i < l.length
  ·rw [if_pos e]
   have : ¬ u = i := by omega
   simp [this, e]
  ·simp only [e, if_false]
   have : (u = i) = (u - l.length = i - l.length) := by apply propext; omega
   simp only [this]⟩
theorem ext_over {c d : CodeD} (b u o : Nat) (l : List InsD) (h : Ext c d) (hl : c.blocks[b]? = some l) (hu : l.length <= u) (ho : l.length <= o) : Ext c (overC d b u o) := fun j m hm => by
 obtain ⟨r, hr⟩ := h j m hm
 simp only [overC, List.getElem?_modify, hr, Option.map_eq_map, Option.map_some]
 by_cases e : b = j
 ·subst e
  rw [hl] at hm
  cases hm
  obtain ⟨s, hs⟩ := modify_behind l r u (fun x => { x with a := (o : Int) - u, b := ((l ++ r).length : Int) - u - 1 }) hu
  obtain ⟨t, ht⟩ := modify_behind l s o (fun x => { x with a := ((l ++ r).length : Int) - o - 1 }) ho
  exact ⟨t, by rw [if_pos rfl, hs, ht]⟩
 ·exact ⟨r, by simp [e]⟩
theorem put_at {c : CodeD} {b : Nat} {l : List InsD} (x : InsD) (h : c.blocks[b]? = some l) : (putC c b x).blocks[b]? = some (l ++ [x]) := by
 simp [putC, h]
theorem here_at {c : CodeD} {b : Nat} {l : List InsD} (h : c.blocks[b]? = some l) : hereC c b = l.length := by
 simp [hereC, List.getD_eq_getElem?_getD, h]
theorem comp_ind (P : CodeD -> Prop) (hput : ∀ c b x, P c -> b < c.blocks.length -> x.op ≠ 15 -> P (putC c b x))
  (hover : ∀ c b u o l, P c -> c.blocks[b]? = some l -> l[u]? = some { op := 13 } -> l[o]? = some { op := 14 } -> P (overC c b u o))
  (hfun : ∀ c b s p, P c -> b < c.blocks.length -> P (funC c b s p)) :
  ∀ (f : Nat) (c : CodeD) (b : Nat) (known : List Bs) (own : Bs) (n : NodeD), P c -> b < c.blocks.length ->
   P (comp f c b known own n) /\ Ext c (comp f c b known own n) := by
 intro f
 induction f with
 | zero => intro c b known own n h hb; exact ⟨h, Ext.refl c⟩
 | succ f ih =>
  have each : ∀ (l : List NodeD) (c : CodeD) (b : Nat) (known : List Bs), P c -> b < c.blocks.length ->
    P (l.foldl (fun c k => comp f c b known [] k) c) /\ Ext c (l.foldl (fun c k => comp f c b known [] k) c) := by
   intro l
   induction l with
   | nil => intro c b known h hb; exact ⟨h, Ext.refl c⟩
   | cons k l ih2 =>
    intro c b known h hb
    obtain ⟨h1, h2⟩ := ih c b known [] k h hb
    obtain ⟨h3, h4⟩ := ih2 _ b known h1 (Nat.lt_of_lt_of_le hb h2.len)
    exact ⟨h3, h2.trans h4⟩
  have sub : ∀ (o : Option NodeD) (c : CodeD) (b : Nat) (known : List Bs), P c -> b < c.blocks.length ->
    P (subC (fun c b known k => comp f c b known [] k) c b known o) /\ Ext c (subC (fun c b known k => comp f c b known [] k) c b known o) := by
   intro o c b known h hb
   cases o with
   | none => exact ⟨h, Ext.refl c⟩
   | some k => exact ih c b known [] k h hb
  have put : ∀ (c c' : CodeD) (b : Nat) (x : InsD), b < c.blocks.length -> P c' /\ Ext c c' -> x.op ≠ 15 ->
    P (putC c' b x) /\ Ext c (putC c' b x) := fun c c' b x hb h hx =>
   ⟨hput _ _ _ h.1 (Nat.lt_of_lt_of_le hb h.2.len) hx, h.2.trans (ext_put c' b x)⟩
  have lets : ∀ (l : List (Bs × NodeD)) (c : CodeD) (b : Nat) (known : List Bs), P c -> b < c.blocks.length ->
    P (l.foldl (fun (r : CodeD × List Bs) p => (putC (comp f r.1 b r.2 (if p.2.kind = 14 then p.1 else []) p.2) b { op := 17, s := p.1 }, r.2 ++ [p.1])) (c, known)).1 /\
    Ext c (l.foldl (fun (r : CodeD × List Bs) p => (putC (comp f r.1 b r.2 (if p.2.kind = 14 then p.1 else []) p.2) b { op := 17, s := p.1 }, r.2 ++ [p.1])) (c, known)).1 := by
   intro l
   induction l with
   | nil => intro c b known h hb; exact ⟨h, Ext.refl c⟩
   | cons p l ih2 =>
    intro c b known h hb
    obtain ⟨h1, h2⟩ := put c _ b { op := 17, s := p.1 } hb (ih c b known (if p.2.kind = 14 then p.1 else []) p.2 h hb) (by decide : (17 : Int) ≠ 15)
    obtain ⟨h3, h4⟩ := ih2 _ b (known ++ [p.1]) h1 (Nat.lt_of_lt_of_le hb h2.len)
    exact ⟨h3, h2.trans h4⟩
  intro c b known own n h hb
  unfold comp
  dsimp only
  split
  ·split
   ·refine put c _ b _ hb ?_ (by decide : (16 : Int) ≠ 15)
    obtain ⟨h1, h2⟩ := put c c b { op := 18, s := _ } hb ⟨h, Ext.refl c⟩ (by decide : (18 : Int) ≠ 15)
    obtain ⟨h3, h4⟩ := each n.kids _ b known h1 (Nat.lt_of_lt_of_le hb h2.len)
    exact ⟨h3, h2.trans h4⟩
   ·split
    ·exact put c _ b _ hb (each n.kids c b known h hb) (by decide : (11 : Int) ≠ 15)
    ·obtain ⟨l0, e0⟩ : ∃ l, c.blocks[b]? = some l := ⟨_, List.getElem?_eq_getElem hb⟩
     have a1 := sub n.kids[0]? c b known h hb
     obtain ⟨r1, e1⟩ := a1.2 b l0 e0
     have a2 := put c _ b { op := 13 } hb a1 (by decide)
     have e2 := put_at { op := 13 } e1
     have b2 := sub n.kids[1]? _ b known a2.1 (Nat.lt_of_lt_of_le hb a2.2.len)
     obtain ⟨r2, e3⟩ := b2.2 b _ e2
     have a3 := put c _ b { op := 14 } hb ⟨b2.1, a2.2.trans b2.2⟩ (by decide)
     have e4 := put_at { op := 14 } e3
     have fin : ∀ d, P d -> Ext c d -> Ext (putC (subC (fun c b known k => comp f c b known [] k) (putC (subC (fun c b known k => comp f c b known [] k) c b known n.kids[0]?) b { op := 13 }) b known n.kids[1]?) b { op := 14 }) d ->
       P (overC d b (hereC (subC (fun c b known k => comp f c b known [] k) c b known n.kids[0]?) b) (hereC (subC (fun c b known k => comp f c b known [] k) (putC (subC (fun c b known k => comp f c b known [] k) c b known n.kids[0]?) b { op := 13 }) b known n.kids[1]?) b)) /\
       Ext c (overC d b (hereC (subC (fun c b known k => comp f c b known [] k) c b known n.kids[0]?) b) (hereC (subC (fun c b known k => comp f c b known [] k) (putC (subC (fun c b known k => comp f c b known [] k) c b known n.kids[0]?) b { op := 13 }) b known n.kids[1]?) b)) := by
      intro d hd hc hx
      obtain ⟨r3, e5⟩ := hx b _ e4
      rw [here_at e1, here_at e3]
      refine ⟨hover _ _ _ _ _ hd e5 ?_ ?_, ext_over b _ _ l0 hc e0 (by simp) (by simp)⟩
      ·simp []
      ·simp []
     split
     ·have a4 := sub n.kids[2]? _ b known a3.1 (Nat.lt_of_lt_of_le hb a3.2.len)
      exact fin _ a4.1 (a3.2.trans a4.2) a4.2
     ·have a4 := put _ _ b { op := 3 } (Nat.lt_of_lt_of_le hb a3.2.len) ⟨a3.1, Ext.refl _⟩ (by decide)
      exact fin _ a4.1 (a3.2.trans a4.2) a4.2
  ·split
   ·have a1 := lets ((namesD n.text).zip n.kids) c b known h hb
    have a2 := fun K => sub n.kids[(namesD n.text).length]? _ b K a1.1 (Nat.lt_of_lt_of_le hb a1.2.len)
    exact put c _ b _ hb ⟨(a2 _).1, a1.2.trans (a2 _).2⟩ (by decide : (19 : Int) ≠ 15)
   ·split
    ·have a1 := hfun c b (if own = [] then joinN (heldN known own) else joinN (heldN known own) ++ 59 :: own) n.text h hb
     have l1 := funC_len c b (if own = [] then joinN (heldN known own) else joinN (heldN known own) ++ 59 :: own) n.text
     have a2 := sub n.kids[0]? _ c.blocks.length ((if own = [] then heldN known own else heldN known own ++ [own]) ++ namesD n.text) a1 (by omega)
     exact ⟨a2.1, (ext_fun c b _ _).trans a2.2⟩
    ·split
     ·exact put c _ b _ hb (each n.kids c b known h hb) (by decide : (16 : Int) ≠ 15)
     ·split
      ·split
       ·exact put c c b _ hb ⟨h, Ext.refl c⟩ (by decide : (18 : Int) ≠ 15)
       ·exact put c c b _ hb ⟨h, Ext.refl c⟩ (by decide : (4 : Int) ≠ 15)
      ·exact put c _ b _ hb (each n.kids c b known h hb) (leafI_op n)
theorem comp_ext (f : Nat) (c : CodeD) (b : Nat) (known : List Bs) (own : Bs) (n : NodeD) (hb : b < c.blocks.length) : Ext c (comp f c b known own n) :=
 (comp_ind (fun _ => True) (fun _ _ _ _ _ _ => trivial) (fun _ _ _ _ _ _ _ _ _ => trivial) (fun _ _ _ _ _ _ => trivial) f c b known own n trivial hb).2
theorem each_ext (f b : Nat) (known : List Bs) : ∀ (l : List NodeD) (c : CodeD), b < c.blocks.length -> Ext c (l.foldl (fun c k => comp f c b known [] k) c)
 | [], c, _ => Ext.refl c
 | k :: l, c, hb => (comp_ext f c b known [] k hb).trans (each_ext f b known l _ (Nat.lt_of_lt_of_le hb (comp_ext f c b known [] k hb).len))
theorem lets_ext (f b : Nat) : ∀ (l : List (Bs × NodeD)) (r : CodeD × List Bs), b < r.1.blocks.length -> Ext r.1 (l.foldl (fun (r : CodeD × List Bs) p => (putC (comp f r.1 b r.2 (if p.2.kind = 14 then p.1 else []) p.2) b { op := 17, s := p.1 }, r.2 ++ [p.1])) r).1
 | [], r, _ => Ext.refl r.1
 | p :: l, r, hb => by
  have h1 := (comp_ext f r.1 b r.2 (if p.2.kind = 14 then p.1 else []) p.2 hb).trans (ext_put _ b { op := 17, s := p.1 })
  exact h1.trans (lets_ext f b l (putC (comp f r.1 b r.2 (if p.2.kind = 14 then p.1 else []) p.2) b { op := 17, s := p.1 }, r.2 ++ [p.1]) (Nat.lt_of_lt_of_le hb h1.len))
theorem comp_other (f : Nat) (c : CodeD) (b : Nat) (known : List Bs) (own : Bs) (n : NodeD) (h1 : n.kind ≠ 12) (h2 : n.kind ≠ 16) (h3 : n.kind ≠ 14) (h4 : n.kind ≠ 15) (h5 : n.kind ≠ 7) :
  comp (f + 1) c b known own n = putC (n.kids.foldl (fun c k => comp f c b known [] k) c) b (leafI n) := by
 rw [comp]
 dsimp only
 rw [if_neg h1, if_neg h2, if_neg h3, if_neg h4, if_neg h5]
theorem comp_known (f : Nat) (c : CodeD) (b : Nat) (known : List Bs) (own : Bs) (n : NodeD) (g : Bs) (h1 : n.kind = 12) (h2 : findN known n.text = some g) :
  comp (f + 1) c b known own n = putC (n.kids.foldl (fun c k => comp f c b known [] k) (putC c b { op := 18, s := g })) b { op := 16, a := n.kids.length } := by
 rw [comp]
 dsimp only
 rw [if_pos h1, h2]
theorem comp_call (f : Nat) (c : CodeD) (b : Nat) (known : List Bs) (own : Bs) (n : NodeD) (h1 : n.kind = 12) (h2 : findN known n.text = none) (h3 : ¬ (upperD n.text = [73, 70]) \/ n.kids.length < 2 \/ 3 < n.kids.length) :
  comp (f + 1) c b known own n = putC (n.kids.foldl (fun c k => comp f c b known [] k) c) b { op := 11, s := upperD n.text, a := n.kids.length } := by
 rw [comp]
 dsimp only
 rw [if_pos h1, h2]
 dsimp only
 rw [if_pos h3]
theorem comp_if3 (f : Nat) (c : CodeD) (b : Nat) (known : List Bs) (own : Bs) (n : NodeD) (h1 : n.kind = 12) (h2 : findN known n.text = none) (h3 : upperD n.text = [73, 70]) (x y z : NodeD) (h4 : n.kids = [x, y, z]) :
  comp (f + 1) c b known own n = overC (comp f (putC (comp f (putC (comp f c b known [] x) b { op := 13 }) b known [] y) b { op := 14 }) b known [] z) b
   (hereC (comp f c b known [] x) b) (hereC (comp f (putC (comp f c b known [] x) b { op := 13 }) b known [] y) b) := by
 rw [comp]
 dsimp only
 rw [if_pos h1, h2]
 dsimp only
 rw [h4, if_neg (by rw [h3]; simp), if_pos (show [x, y, z].length = 3 from rfl)]
 rfl
theorem comp_if2 (f : Nat) (c : CodeD) (b : Nat) (known : List Bs) (own : Bs) (n : NodeD) (h1 : n.kind = 12) (h2 : findN known n.text = none) (h3 : upperD n.text = [73, 70]) (x y : NodeD) (h4 : n.kids = [x, y]) :
  comp (f + 1) c b known own n = overC (putC (putC (comp f (putC (comp f c b known [] x) b { op := 13 }) b known [] y) b { op := 14 }) b { op := 3 }) b
   (hereC (comp f c b known [] x) b) (hereC (comp f (putC (comp f c b known [] x) b { op := 13 }) b known [] y) b) := by
 rw [comp]
 dsimp only
 rw [if_pos h1, h2]
 dsimp only
 rw [h4, if_neg (by rw [h3]; simp), if_neg (by simp)]
 rfl
theorem comp_fun (f : Nat) (c : CodeD) (b : Nat) (known : List Bs) (own : Bs) (n : NodeD) (h : n.kind = 14) :
  comp (f + 1) c b known own n = subC (fun c b known k => comp f c b known [] k) (funC c b (if own = [] then joinN (heldN known own) else joinN (heldN known own) ++ 59 :: own) n.text) c.blocks.length
   ((if own = [] then heldN known own else heldN known own ++ [own]) ++ namesD n.text) n.kids[0]? := by
 rw [comp]
 dsimp only
 rw [if_neg (by omega), if_neg (by omega), if_pos h]
 rfl
theorem comp_apply (f : Nat) (c : CodeD) (b : Nat) (known : List Bs) (own : Bs) (n : NodeD) (h : n.kind = 15) :
  comp (f + 1) c b known own n = putC (n.kids.foldl (fun c k => comp f c b known [] k) c) b { op := 16, a := (n.kids.length : Int) - 1 } := by
 rw [comp]
 dsimp only
 rw [if_neg (by omega), if_neg (by omega), if_neg (by omega), if_pos h]
theorem comp_name (f : Nat) (c : CodeD) (b : Nat) (known : List Bs) (own : Bs) (n : NodeD) (h : n.kind = 7) :
  comp (f + 1) c b known own n = putC c b (match findN known n.text with | some g => { op := 18, s := g } | none => { op := 4, a := 5 }) := by
 rw [comp]
 dsimp only
 rw [if_neg (by omega), if_neg (by omega), if_neg (by omega), if_neg (by omega), if_pos h]
 cases findN known n.text <;> rfl
theorem find_none (s : Bs) : findN [] s = none := rfl
def cntJ (j : Nat) (l : List InsD) : Nat := l.countP fun x => decide (x.op = 15 /\ x.a = (j : Int))
def totJ (j : Nat) (c : CodeD) : Nat := (c.blocks.map (cntJ j)).sum
theorem sum_modify {α : Type} (F : α -> Nat) (g : α -> α) (d : Nat) : ∀ (l : List α) (b : Nat) (x : α), l[b]? = some x -> F (g x) = F x + d -> ((l.modify b g).map F).sum = (l.map F).sum + d
 | [], b, x, h, _ => by simp at h
 | y :: l, 0, x, h, e => by
  simp at h; subst h
  simp only [List.modify_zero_cons, List.map_cons, List.sum_cons, e]; omega
 | y :: l, b + 1, x, h, e => by
  have := sum_modify F g d l b x (by simpa using h) e
  simp only [List.modify_succ_cons, List.map_cons, List.sum_cons, this]; omega
theorem cntJ_put (j : Nat) (l : List InsD) (x : InsD) : cntJ j (l ++ [x]) = cntJ j l + if x.op = 15 /\ x.a = (j : Int) then 1 else 0 := by
 simp [cntJ, List.countP_append, List.countP_cons]
theorem cnt_modify (j : Nat) (g : InsD -> InsD) (hg : ∀ x, (g x).op = x.op) : ∀ (l : List InsD) (u : Nat) (x : InsD), l[u]? = some x -> x.op ≠ 15 -> cntJ j (l.modify u g) = cntJ j l
 | [], u, x, h, _ => by simp at h
 | y :: l, 0, x, h, e => by
  simp at h; subst h
  simp [cntJ, hg, e]
 | y :: l, u + 1, x, h, e => by
  have := cnt_modify j g hg l u x (by simpa using h) e
  simp only [cntJ] at this
  simp only [cntJ, List.modify_succ_cons, List.countP_cons, this]
structure Once (c : CodeD) : Prop where
 par : c.params.length = c.blocks.length
 up : ∀ (b : Nat) (l : List InsD) (x : InsD), c.blocks[b]? = some l -> x ∈ l -> x.op = 15 -> (b : Int) < x.a /\ x.a < c.blocks.length
 one : ∀ j : Nat, totJ j c = if 0 < j /\ j < c.blocks.length then 1 else 0
theorem once_bare : Once bareC := ⟨rfl, fun b l x h hx _ => by
 rcases b with _ | b
 ·simp [bareC] at h; subst h; simp at hx
 ·simp [bareC] at h, fun j => by
 have e : ¬ (0 < j /\ j < bareC.blocks.length) := fun h => by
  have h2 : j < 1 := h.2
  omega
 rw [if_neg e]; rfl⟩
theorem once_put (c : CodeD) (b : Nat) (x : InsD) (h : Once c) (hb : b < c.blocks.length) (hx : x.op ≠ 15) : Once (putC c b x) := by
 obtain ⟨l0, e0⟩ : ∃ l, c.blocks[b]? = some l := ⟨_, List.getElem?_eq_getElem hb⟩
 refine ⟨by rw [putC_len]; exact h.par, fun j l y hl hy ho => ?_, fun j => ?_⟩
 ·rw [putC_len]
  simp only [putC, List.getElem?_modify, Option.map_eq_map] at hl
  by_cases e : b = j
  ·subst e
   simp only [e0, Option.map_some, if_true, Option.some.injEq] at hl
   subst hl
   rcases List.mem_append.1 hy with g | g
   ·exact h.up _ _ _ e0 g ho
   ·simp at g; subst g; exact absurd ho hx
  ·obtain ⟨m, e1, e2⟩ := Option.map_eq_some_iff.1 hl
   rw [if_neg e] at e2
   subst e2
   exact h.up _ _ _ e1 hy ho
 ·rw [putC_len, <- h.one j]
  exact sum_modify (cntJ j) (· ++ [x]) 0 c.blocks b l0 e0 (by rw [cntJ_put, if_neg (fun g => hx g.1)])
theorem mem_modify {g : InsD -> InsD} : ∀ {l : List InsD} {u : Nat} {y : InsD}, y ∈ l.modify u g -> y ∈ l \/ ∃ x, l[u]? = some x /\ y = g x
 | [], u, y, h => by simp at h
 | z :: l, 0, y, h => by
  simp only [List.modify_zero_cons, List.mem_cons] at h
  rcases h with h | h
  ·exact .inr ⟨z, rfl, h⟩
  ·exact .inl (List.mem_cons_of_mem _ h)
 | z :: l, u + 1, y, h => by
  simp only [List.modify_succ_cons, List.mem_cons] at h
  rcases h with h | h
  ·exact .inl (h ▸ List.mem_cons_self)
  ·rcases mem_modify h with g | ⟨x, g1, g2⟩
   ·exact .inl (List.mem_cons_of_mem _ g)
   ·exact .inr ⟨x, by simpa using g1, g2⟩
theorem once_over (c : CodeD) (b u o : Nat) (l : List InsD) (h : Once c) (hl : c.blocks[b]? = some l) (hu : l[u]? = some { op := 13 }) (ho : l[o]? = some { op := 14 }) : Once (overC c b u o) := by
 have huo : u ≠ o := by
  rintro rfl
  rw [hu] at ho
  simp at ho
 have hm : (l.modify u fun x => { x with a := (o : Int) - u, b := (l.length : Int) - u - 1 })[o]? = some { op := 14 } := by
  rw [List.getElem?_modify, ho]; simp [huo]
 refine ⟨by rw [overC_len]; exact h.par, fun j m y hm2 hy hop => ?_, fun j => ?_⟩
 ·rw [overC_len]
  simp only [overC, List.getElem?_modify, Option.map_eq_map] at hm2
  obtain ⟨m0, e1, e2⟩ := Option.map_eq_some_iff.1 hm2
  by_cases e : b = j
  ·subst e
   rw [hl] at e1
   cases e1
   rw [if_pos rfl] at e2
   subst e2
   rcases mem_modify hy with g | ⟨x, g1, g2⟩
   ·rcases mem_modify g with g | ⟨x, g1, g2⟩
    ·exact h.up _ _ _ hl g hop
    ·rw [hu] at g1; cases g1; subst g2; simp at hop
   ·rw [hm] at g1; cases g1; subst g2; simp at hop
  ·rw [if_neg e] at e2
   subst e2
   exact h.up _ _ _ e1 hy hop
 ·rw [overC_len, <- h.one j]
  refine sum_modify (cntJ j) _ 0 c.blocks b l hl ?_
  exact (cnt_modify j (fun x => { x with a := (l.length : Int) - o - 1 }) (fun _ => rfl) _ o _ hm (by decide : (14 : Int) ≠ 15)).trans (cnt_modify j (fun x => { x with a := (o : Int) - u, b := (l.length : Int) - u - 1 }) (fun _ => rfl) _ u _ hu (by decide : (13 : Int) ≠ 15))
theorem once_fun (c : CodeD) (b : Nat) (s p : Bs) (h : Once c) (hb : b < c.blocks.length) : Once (funC c b s p) := by
 obtain ⟨l0, e0⟩ : ∃ l, c.blocks[b]? = some l := ⟨_, List.getElem?_eq_getElem hb⟩
 refine ⟨by rw [funC_len]; simp [funC, h.par], fun j l y hl hy ho => ?_, fun j => ?_⟩
 ·rw [funC_len]
  simp only [funC, List.getElem?_append] at hl
  rw [putC_len] at hl
  by_cases e : j < c.blocks.length
  ·rw [if_pos e] at hl
   simp only [putC, List.getElem?_modify, Option.map_eq_map] at hl
   obtain ⟨m0, e1, e2⟩ := Option.map_eq_some_iff.1 hl
   by_cases eb : b = j
   ·subst eb
    rw [if_pos rfl] at e2
    subst e2
    rcases List.mem_append.1 hy with g | g
    ·have := h.up _ _ _ e1 g ho; omega
    ·simp at g; subst g
     simp only
     omega
   ·rw [if_neg eb] at e2
    subst e2
    have := h.up _ _ _ e1 hy ho; omega
  ·rw [if_neg e] at hl
   have : l ∈ [([] : List InsD)] := List.mem_of_getElem? hl
   simp at this
   subst this
   simp at hy
 ·rw [funC_len]
  have e1 : totJ j (funC c b s p) = totJ j c + if ((c.blocks.length : Int) = (j : Int)) then 1 else 0 := by
   simp only [totJ, funC, putC, List.map_append, List.sum_append, List.map_cons, List.map_nil, List.sum_cons, List.sum_nil]
   rw [sum_modify (cntJ j) _ (if ((c.blocks.length : Int) = (j : Int)) then 1 else 0) c.blocks b l0 e0 (by rw [cntJ_put]; simp)]
   simp [cntJ]
  rw [e1, h.one j]
  by_cases e : c.blocks.length = j
  ·rw [if_neg (by omega), if_pos (by omega), if_pos (by omega)]
  ·by_cases e2 : 0 < j /\ j < c.blocks.length
   ·rw [if_pos e2, if_neg (by omega), if_pos (by omega)]
   ·rw [if_neg e2, if_neg (by omega), if_neg (by omega)]
theorem once_comp (f : Nat) (n : NodeD) : Once (comp f bareC 0 [] [] n) :=
 (comp_ind Once once_put once_over once_fun f bareC 0 [] [] n once_bare (by decide)).1
end Tab
namespace Go.Proofs.YtlpgigdegnbkmaaGreatDoor
open Go.RowKit Tab Tryz
theorem cfold_one (x : Nat) (hx : x <= 1114111) (w : World) : Calls prog 161 #[.int .i32 (x : Int)] w (Still (.int .i32 (loI x)) w) := by
 by_cases h : 65 <= (x : Int) /\ (x : Int) <= 90
 ·have H : Hid (loI x = (x : Int) + 97 - 65) := by
   show _ = _
   rw [loI, if_pos h]; omega
  obtain ⟨h1, h2⟩ := h
  go_enter func161, ntmps161
  go_wp2
  go_ret
  exact Still.mk' (congrArg (Value.int .i32) H.out.symm)
 ·have H : Hid (loI x = (x : Int)) := by
   show _ = _
   rw [loI, if_neg h]
  have Hh := Lib.hid h; clear h
  go_enter func161, ntmps161
  go_wp2
  all_goals first
   | (go_ret; exact Still.mk' (congrArg (Value.int .i32) H.out.symm))
   | exact absurd ⟨by assumption, by assumption⟩ Hh.out
theorem enters_cfold : ∀ args w, (callFunc 161 args).run prog w = .ok (.enter 161 args) w := enters_of func161 (by kernel_rfl) rfl
theorem map_cfold (s : ByteArray) (w : World) (hg : Good w) (hs : s.size < 35184372088832) : Calls prog 131 #[.func (.func 161) #[] #[], .string s] w (Ret (strV (lowerD s.data.toList)) w) :=
 Tryz.strings_Map_grows 161 #[] enters_cfold loI s w hs
  (fun W x hx _ => (cfold_one x hx W).mono fun _ _ h => h.ret)
  (fun x hx => by unfold loI; split <;> omega) hg.u8
theorem cfold_any (s : ByteArray) (w : World) (hg : Good w) (hs : s.size <= 1000000) : Calls prog 130 #[.string s] w (Ret (strV (lowerD s.data.toList)) w) := by
 have cM := map_cfold s w hg (by omega)
 unfold strV at *
 generalize lowerD s.data.toList = U at *
 go_enter func130, ntmps130
 go_wp2_with fail
 refine cM.mono ?_; rintro e w1 ⟨rfl, hb⟩
 go_wp2
 go_ret; exact Ret.mk' rfl hb
theorem cgreat_one (x : Nat) (hx : x <= 1114111) (w : World) : Calls prog 132 #[.int .i32 (x : Int)] w (Still (.int .i32 (upI x)) w) := by
 by_cases h : 97 <= (x : Int) /\ (x : Int) <= 122
 ·have H : Hid (upI x = (x : Int) + 65 - 97) := by
   show _ = _
   rw [upI, if_pos h]; omega
  obtain ⟨h1, h2⟩ := h
  go_enter func132, ntmps132
  go_wp2
  go_ret
  exact Still.mk' (congrArg (Value.int .i32) H.out.symm)
 ·have H : Hid (upI x = (x : Int)) := by
   show _ = _
   rw [upI, if_neg h]
  have Hh := Lib.hid h; clear h
  go_enter func132, ntmps132
  go_wp2
  all_goals first
   | (go_ret; exact Still.mk' (congrArg (Value.int .i32) H.out.symm))
   | exact absurd ⟨by assumption, by assumption⟩ Hh.out
theorem enters_cgreat : ∀ args w, (callFunc 132 args).run prog w = .ok (.enter 132 args) w := enters_of func132 (by kernel_rfl) rfl
theorem map_cgreat (s : ByteArray) (w : World) (hg : Good w) (hs : s.size < 35184372088832) : Calls prog 131 #[.func (.func 132) #[] #[], .string s] w (Ret (strV (upperD s.data.toList)) w) :=
 Tryz.strings_Map_grows 132 #[] enters_cgreat upI s w hs
  (fun W x hx _ => (cgreat_one x hx W).mono fun _ _ h => h.ret)
  (fun x hx => by unfold upI; split <;> omega) hg.u8
theorem cgreat_any (s : ByteArray) (w : World) (hg : Good w) (hs : s.size <= 1000000) : Calls prog 85 #[.string s] w (Ret (strV (upperD s.data.toList)) w) := by
 have cM := map_cgreat s w hg (by omega)
 unfold strV at *
 generalize upperD s.data.toList = U at *
 go_enter func85, ntmps85
 go_wp2_with fail
 refine cM.mono ?_; rintro e w1 ⟨rfl, hb⟩
 go_wp2
 go_ret; exact Ret.mk' rfl hb
end Go.Proofs.YtlpgigdegnbkmaaGreatDoor
