import Derived.Test.YtlpgigdegnbkmaaGreatDoorM07
import Derived.Test.YtlpgigdegnbkmaaGreatDoorM06
namespace Tab
open Go
def oddN (c : UInt8) : Bool := decide (c.toNat < 33) || (c == 44 || c == 59)
def namedB (s : Bs) : Bool := decide (1 <= s.length) && (decide (s.length <= 30) && !s.any oddN)
def listedB (s : Bs) (many : Nat) : Bool := decide ((namesD s).length <= many) && !(namesD s).any fun x => !namedB x
def decOkD (m e : Int) : Bool := !(decide (999999999999999 < m.natAbs) || (decide (e < -9) || decide (9 < e))) && ((m == 0 && e == 0) || (!(m == 0) && (!(m.tmod 10 == 0) || e == 9)))
def sameR (x y : RefD) : Bool := (x.s.data.toList == y.s.data.toList) && ((x.row == y.row) && ((x.col == y.col) && ((x.fr == y.fr) && ((x.fc == y.fc) && (x.bad == y.bad)))))
def sameI (x y : InsD) : Bool := (x.op == y.op) && ((x.a == y.a) && ((x.b == y.b) && ((x.s == y.s) && (((x.m == y.m) && (x.e == y.e)) && (sameR x.ref y.ref && sameR x.far y.far)))))
def bareI (x : InsD) : InsD :=
 if x.op = 1 then { op := x.op, m := x.m, e := x.e }
 else if x.op = 2 then { op := x.op, s := x.s }
 else if x.op = 3 then { op := x.op, a := x.a }
 else if x.op = 4 then { op := x.op, a := x.a }
 else if x.op = 5 then { op := x.op, ref := x.ref }
 else if x.op = 6 then { op := x.op, ref := x.ref, far := x.far }
 else if x.op = 7 then { op := x.op }
 else if x.op = 8 then { op := x.op, s := x.s }
 else if x.op = 9 then { op := x.op, s := x.s }
 else if x.op = 10 then { op := x.op, s := x.s }
 else if x.op = 11 then { op := x.op, s := x.s, a := x.a }
 else if x.op = 12 then { op := x.op, a := x.a, b := x.b }
 else if x.op = 13 then { op := x.op, a := x.a, b := x.b }
 else if x.op = 14 then { op := x.op, a := x.a }
 else if x.op = 15 then { op := x.op, s := x.s, a := x.a }
 else if x.op = 16 then { op := x.op, a := x.a }
 else if x.op = 17 then { op := x.op, s := x.s }
 else if x.op = 18 then { op := x.op, s := x.s }
 else if x.op = 19 then { op := x.op, a := x.a }
 else { op := x.op }
def winD (n lo hi : Int) : Bool := decide (lo <= n) && decide (n <= hi)
def opsB : List Bs := [[61], [60, 62], [60], [60, 61], [62], [62, 61], [38], [43], [45], [42], [47], [94]]
def funcB (s : Bs) : Bool := listedB (Lib.cut s [59]).1 40 && (!(Lib.cut s [59]).2.2 || namedB (Lib.cut s [59]).2.1)
def okI (x : InsD) (b blocks behind : Int) : Bool :=
 if x.op = 1 then decOkD x.m x.e
 else if x.op = 2 then decide (x.s.length <= 200) && textB x.s
 else if x.op = 3 then winD x.a 0 1
 else if x.op = 4 then winD x.a 1 9
 else if x.op = 5 then x.ref.right
 else if x.op = 6 then x.ref.right && x.far.right
 else if x.op = 7 then true
 else if x.op = 8 then opsB.contains x.s
 else if x.op = 9 then (x.s == [43]) || (x.s == [45])
 else if x.op = 10 then x.s == [37]
 else if x.op = 11 then namedB x.s && winD x.a 0 400
 else if x.op = 12 then winD x.a 1 400 && winD x.b 1 400
 else if x.op = 13 then winD x.a 0 behind && winD x.b 0 behind
 else if x.op = 14 then winD x.a 0 behind
 else if x.op = 15 then funcB x.s && winD x.a (b + 1) (blocks - 1)
 else if x.op = 16 then winD x.a 0 400
 else if x.op = 17 then namedB x.s
 else if x.op = 18 then namedB x.s
 else if x.op = 19 then winD x.a 0 400
 else false
def fieldsC (x : InsD) (b blocks behind : Int) : Bool := okI x b blocks behind && sameI x (bareI x)
structure FndD where
 v : Int
 n : Int
 k : Bool
structure ChkD where
 l : List FndD
 ok : Bool
def FndD.zero : FndD := ⟨0, 0, false⟩
def sameF (x y : FndD) : Bool := (x.v == y.v) && ((x.n == y.n) && (x.k == y.k))
def badAt (f : FndD) (v n : Int) : Bool := decide (v < 0) || (decide (n < 0) || (f.k && !sameF f ⟨v, n, true⟩))
def atC (c : ChkD) (i : Nat) (v n : Int) : ChkD := ⟨c.l.set i ⟨v, n, true⟩, if badAt (c.l.getD i FndD.zero) v n then false else c.ok⟩
def andC (c : ChkD) (p : Bool) : ChkD := ⟨c.l, c.ok && p⟩
def goI (i : Nat) (a : Int) : Nat := (i + 1 + a).toNat
def stepF (c : ChkD) (i : Nat) (x : InsD) (f : FndD) : ChkD :=
 if x.op = 14 then atC c (goI i x.a) f.v f.n
 else if x.op = 13 then atC (atC (atC c (goI i x.a) (f.v - 1) f.n) (goI i x.b) f.v f.n) (i + 1) (f.v - 1) f.n
 else if x.op = 17 then atC c (i + 1) (f.v - 1) (f.n + 1)
 else if x.op = 19 then atC c (i + 1) f.v (f.n - x.a)
 else if x.op = 8 then atC (andC c (decide (1 <= f.v - 1))) (i + 1) (f.v - 1) f.n
 else if x.op = 9 then atC (andC c (decide (1 <= f.v))) (i + 1) f.v f.n
 else if x.op = 10 then atC (andC c (decide (1 <= f.v))) (i + 1) f.v f.n
 else if x.op = 11 then atC (andC c (decide (0 <= f.v - x.a))) (i + 1) (f.v - x.a + 1) f.n
 else if x.op = 12 then atC (andC c (decide (0 <= f.v - x.a * x.b))) (i + 1) (f.v - x.a * x.b + 1) f.n
 else if x.op = 16 then atC (andC c (decide (1 <= f.v - x.a))) (i + 1) (f.v - x.a) f.n
 else atC c (i + 1) (f.v + 1) f.n
def stepC (c : ChkD) (i : Nat) (x : InsD) : ChkD := stepF (andC c (c.l.getD i FndD.zero).k) i x (c.l.getD i FndD.zero)
def runC (b blocks : Int) : List InsD -> Nat -> ChkD -> Option ChkD
 | [], _, c => some c
 | x :: r, i, c => if fieldsC x b blocks r.length then (if (stepC c i x).ok then runC b blocks r (i + 1) (stepC c i x) else none) else none
def endC (n : Nat) : Option ChkD -> Bool
 | none => false
 | some c => sameF (c.l.getD n FndD.zero) ⟨1, 0, true⟩
def bareK (n : Nat) : ChkD := ⟨⟨0, 0, true⟩ :: List.replicate n FndD.zero, true⟩
def blockC (b blocks : Int) (l : List InsD) : Bool := endC l.length (runC b blocks l 0 (bareK l.length))
def blocksC (n : Int) : Nat -> List (List InsD) -> Bool
 | _, [] => true
 | b, l :: r => blockC b n l && blocksC n (b + 1) r
def headsC : Nat -> List (List InsD) -> List Bs -> Bool
 | sum, l :: r, p :: q => if listedB p 400 && !decide (400 < sum + l.length) then headsC (sum + l.length) r q else false
 | _, _, _ => true
def rightC (c : CodeD) : Bool :=
 if c.blocks.length < 1 \/ 20 < c.blocks.length \/ c.params.length ≠ c.blocks.length \/ c.params.getD 0 [] ≠ [] then false
 else if headsC 0 c.blocks c.params then blocksC c.blocks.length 0 c.blocks else false
def layC (m e : Int) : Nat -> Int := ofF 15 m.natAbs (48 + e).toNat fun _ => 0
def lowF48 (D : Nat -> Int) : Nat -> Nat
 | 0 => 48
 | k + 1 => if D k ≠ 0 then min (lowF48 D k) k else lowF48 D k
def spanD (D : Nat -> Int) (low : Nat) : Nat -> Bs
 | 0 => []
 | k + 1 => if low <= k then (if k = 47 then [46] else []) ++ (48 + D k).toNat.toUInt8 :: spanD D low k else []
def decTextD (m e : Int) : Bs := if decOkD m e then (if m < 0 then [45] else []) ++ spanD (layC m e) (lowF48 (layC m e) 48) ((max (topF (layC m e) 96) 48).toNat + 1) else []
def wordI (op : Int) : Bs :=
 [[110, 117, 109], [116, 101, 120, 116], [116, 114, 117, 116, 104], [102, 97, 117, 108, 116], [114, 101, 102], [114, 97, 110, 103, 101], [101, 109, 112, 116, 121], [111, 112], [97, 104, 101, 97, 100], [98, 97, 99, 107], [99, 97, 108, 108], [97, 114, 114, 97, 121], [117, 110, 108, 101, 115, 115], [103, 111], [102, 117, 110, 99], [97, 112, 112, 108, 121], [107, 101, 101, 112], [103, 101, 116], [102, 111, 114, 103, 101, 116]].getD (op - 1).toNat []
def partsI (x : InsD) : List Bs :=
 if x.op = 1 then [decTextD x.m x.e]
 else if x.op = 5 then [(textD x.ref).1]
 else if x.op = 6 then [(textD x.ref).1, (textD x.far).1]
 else if x.op = 7 then []
 else if x.op = 2 \/ x.op = 8 \/ x.op = 9 \/ x.op = 10 \/ x.op = 17 \/ x.op = 18 then [x.s]
 else if x.op = 11 then [x.s, Lib.itoa x.a]
 else if x.op = 15 then [Lib.itoa x.a, x.s]
 else if x.op = 12 \/ x.op = 13 then [Lib.itoa x.a, Lib.itoa x.b]
 else [Lib.itoa x.a]
def joinB (sep : UInt8) : List Bs -> Bs
 | [] => []
 | [x] => x
 | x :: l => x ++ sep :: joinB sep l
def lineC (x : InsD) : Bs := [32, 32] ++ (joinB 32 (wordI x.op :: partsI x) ++ [10])
def blockT (i : Nat) (p : Bs) (l : List InsD) : Bs := ([98, 108, 111, 99, 107, 32] ++ (Lib.itoa i ++ ([32, 40] ++ (p ++ [41, 10])))) ++ l.flatMap lineC
def textsC : Nat -> List (List InsD) -> List Bs -> Bs
 | i, l :: r, p :: q => blockT i p l ++ textsC (i + 1) r q
 | _, _, _ => []
def textC (c : CodeD) : Bs := textsC 0 c.blocks c.params
def codeOf (n : NodeD) : CodeD := comp 24 bareC 0 [] [] n
def operD (s : Bs) : Int :=
 if s = [61] then 1 else if s = [60, 62] then 1 else if s = [60] then 1 else if s = [60, 61] then 1 else if s = [62] then 1 else if s = [62, 61] then 1
 else if s = [38] then 2
 else if s = [43] then 3 else if s = [45] then 3
 else if s = [42] then 4 else if s = [47] then 4
 else if s = [94] then 5 else 0
def textOkD (s : Bs) (most : Nat) : Bool := decide (s.length <= most) && (decide (s.length <= 200) && textB s)
def callB (first : Bool) : Bs -> Bool
 | [] => true
 | c :: l => if (decide (65 <= c.toNat /\ c.toNat <= 90)) || ((decide (97 <= c.toNat /\ c.toNat <= 122)) || c == 95) then callB false l
  else if ((decide (48 <= c.toNat /\ c.toNat <= 57)) || c == 46) && !first then callB false l else false
def callND (s : Bs) : Bool := callB true s && (!(s == []) && decide (s.length <= 30))
def namesF : List Bs -> List Bs -> Bool
 | _, [] => true
 | old, n :: l => if isNameD n && !(old.any fun m => lowerD m == lowerD n) then namesF (old ++ [n]) l else false
def someD (s : Bs) : Bool := namesF [] (splitD s)
def columnD' (s : Bs) : Bool :=
 let t := Lib.cut s [91]
 let n := Lib.cut t.2.1 [93]
 t.2.2 && (n.2.2 && ((n.2.1 == []) && (isNameD t.1 && (!(n.1 == []) && (!Lib.contains n.1 [91] && textOkD n.1 30)))))
def constD (n : NodeD) : Bool :=
 if n.kind = 1 \/ n.kind = 2 \/ n.kind = 3 \/ n.kind = 4 then true
 else decide (n.kind = 10) && ((n.text == [45]) && match n.kids with
  | [k] => decide (k.kind = 1)
  | _ => false)
def wantN (n : NodeD) : NodeD :=
 if n.kind = 1 then .mk n.kind [] n.m n.e false 0 RefD.zero RefD.zero 0 []
 else if n.kind = 3 then .mk n.kind [] 0 0 n.b 0 RefD.zero RefD.zero 0 []
 else if n.kind = 4 then .mk n.kind [] 0 0 false n.err RefD.zero RefD.zero 0 []
 else if n.kind = 5 then .mk n.kind [] 0 0 false 0 n.ref RefD.zero 0 []
 else if n.kind = 6 then .mk n.kind [] 0 0 false 0 n.ref n.far 0 []
 else if n.kind = 13 then .mk n.kind [] 0 0 false 0 RefD.zero RefD.zero n.rows []
 else if n.kind = 15 then .mk n.kind [] 0 0 false 0 RefD.zero RefD.zero 0 []
 else .mk n.kind n.text 0 0 false 0 RefD.zero RefD.zero 0 []
def sameN (n w : NodeD) : Bool := (n.text == w.text) && (((n.m == w.m) && (n.e == w.e)) && ((n.b == w.b) && ((n.err == w.err) && (sameR n.ref w.ref && (sameR n.far w.far && (n.rows == w.rows))))))
def isKindD (n : NodeD) : Bool :=
 if n.kind = 1 then decOkD n.m n.e && decide (0 <= n.m)
 else if n.kind = 2 then textOkD n.text 200
 else if n.kind = 3 then true
 else if n.kind = 4 then decide (1 <= n.err) && (decide (n.err <= 9) && !(n.err == 4))
 else if n.kind = 5 then n.ref.right
 else if n.kind = 6 then n.ref.right && (n.far.right && (!n.ref.bad && (!n.far.bad && (n.far.s.data.toList == []))))
 else if n.kind = 7 then isNameD n.text
 else if n.kind = 8 then columnD' n.text
 else if n.kind = 9 then decide (0 < operD n.text)
 else if n.kind = 10 then (n.text == [43]) || (n.text == [45])
 else if n.kind = 11 then n.text == [37]
 else if n.kind = 12 then callND n.text && ((upperD n.text == n.text) && (!(n.text == [76, 65, 77, 66, 68, 65]) && !(n.text == [76, 69, 84])))
 else if n.kind = 13 then decide (1 <= n.rows) && !(n.kids.any fun k => !constD k)
 else if n.kind = 14 then (n.text == []) || someD n.text
 else if n.kind = 16 then someD n.text
 else true
def bareD (n : NodeD) : Bool := if n.kind < 1 \/ 16 < n.kind then false else isKindD n && sameN n (wantN n)
def kidsD (n : NodeD) : Bool :=
 if n.kind = 9 then decide (n.kids.length = 2)
 else if n.kind = 10 \/ n.kind = 11 \/ n.kind = 14 then decide (n.kids.length = 1)
 else if n.kind = 12 then true
 else if n.kind = 15 then decide (1 <= n.kids.length)
 else if n.kind = 13 then decide (0 < n.kids.length) && decide ((n.kids.length : Int) % n.rows = 0)
 else if n.kind = 16 then decide ((n.kids.length : Int) = Lib.count n.text [44] + 2)
 else decide (n.kids.length = 0)
def sizeD : Nat -> NodeD -> Option (Nat × Nat)
 | 0, _ => none
 | f + 1, n => if bareD n && kidsD n then
   (n.kids.foldl (fun (r : Option (Nat × Nat)) k => match r, sizeD f k with
    | some (d, m), some (d', m') => some (max d d', m + m')
    | _, _ => none) (some (0, 0))).map fun p => (p.1 + 1, p.2 + 1)
  else none
def rightT (n : NodeD) : Bool := match sizeD 24 n with
 | some (d, m) => decide (d <= 20) && decide (m <= 200)
 | none => false
def compileD (n : NodeD) : Option CodeD := if rightT n then (if rightC (codeOf n) then some (codeOf n) else none) else none
def errOf (n : NodeD) : Int := if rightT n then (if rightC (codeOf n) then 0 else 60) else 50
def leafN (k : Int) : NodeD := .mk k [] 0 0 false 0 RefD.zero RefD.zero 0 []
def namN (k : Int) (s : Bs) (l : List NodeD) : NodeD := .mk k s 0 0 false 0 RefD.zero RefD.zero 0 l
def twoN : NodeD := .mk 1 [] 2 0 false 0 RefD.zero RefD.zero 0 []
def egA : NodeD := namN 12 [73, 70] [leafN 5, twoN]
def egB : NodeD := namN 16 [120] [twoN, namN 9 [43] [namN 7 [88] [], namN 7 [88] []]]
def egC : NodeD := namN 16 [102] [namN 14 [110] [namN 12 [70] [namN 7 [110] []]], namN 7 [102] []]
end Tab
namespace Tab
def wC (c : CodeD) : Nat := c.blocks.length + (c.blocks.map List.length).sum
def bigN : Nat -> NodeD -> Nat
 | 0, _ => 0
 | f + 1, n => 4 + (n.kids.map fun k => 1 + bigN f k).sum
theorem sum_modify_le {α : Type} (F : α -> Nat) (g : α -> α) (d : Nat) (h : ∀ x, F (g x) <= F x + d) : ∀ (l : List α) (b : Nat), ((l.modify b g).map F).sum <= (l.map F).sum + d
 | [], b => by simp
 | x :: l, 0 => by have := h x; simp; omega
 | x :: l, b + 1 => by have := sum_modify_le F g d h l b; simp; omega
theorem wC_put (c : CodeD) (b : Nat) (x : InsD) : wC (putC c b x) <= wC c + 1 := by
 have := sum_modify_le List.length (fun l : List InsD => l ++ [x]) 1 (fun l => by simp) c.blocks b
 unfold wC putC
 simp at *; omega
theorem wC_over (c : CodeD) (b u o : Nat) : wC (overC c b u o) <= wC c := by
 have := sum_modify_le List.length (fun l : List InsD => (l.modify u fun x => { x with a := (o : Int) - u, b := (l.length : Int) - u - 1 }).modify o fun x => { x with a := (l.length : Int) - o - 1 }) 0 (fun l => by simp) c.blocks b
 unfold wC overC
 simp at *; omega
theorem wC_each (f b : Nat) (K : List Bs) (ih : ∀ (n : NodeD) (c : CodeD) (b : Nat) (K : List Bs) (own : Bs), wC (comp f c b K own n) <= wC c + bigN f n) : ∀ (l : List NodeD) (c : CodeD), wC (l.foldl (fun c k => comp f c b K [] k) c) <= wC c + (l.map fun k => 1 + bigN f k).sum
 | [], c => by simp
 | k :: l, c => by
  have h1 := ih k c b K []
  have h2 := wC_each f b K ih l (comp f c b K [] k)
  simp only [List.foldl_cons, List.map_cons, List.sum_cons] at *
  omega
theorem wC_sub (f b : Nat) (K : List Bs) (ih : ∀ (n : NodeD) (c : CodeD) (b : Nat) (K : List Bs) (own : Bs), wC (comp f c b K own n) <= wC c + bigN f n) (c : CodeD) (o : Option NodeD) : wC (subC (fun c b K k => comp f c b K [] k) c b K o) <= wC c + (o.map (bigN f)).getD 0 := by
 cases o with
 | none => simp [subC]
 | some k => exact ih k c b K []
theorem zip_wt (f : Nat) : ∀ (ns : List Bs) (ks : List NodeD), ((ns.zip ks).map fun p => 1 + bigN f p.2).sum + ((ks[ns.length]?).map (bigN f)).getD 0 <= (ks.map fun k => 1 + bigN f k).sum
 | [], [] => by simp
 | [], k :: ks => by simp; omega
 | n :: ns, [] => by simp
 | n :: ns, k :: ks => by
  have := zip_wt f ns ks
  simp only [List.zip_cons_cons, List.map_cons, List.sum_cons, List.length_cons, List.getElem?_cons_succ] at *
  omega
theorem wC_lets (f b : Nat) (ih : ∀ (n : NodeD) (c : CodeD) (b : Nat) (K : List Bs) (own : Bs), wC (comp f c b K own n) <= wC c + bigN f n) : ∀ (l : List (Bs × NodeD)) (r : CodeD × List Bs), wC (l.foldl (fun (r : CodeD × List Bs) p => (putC (comp f r.1 b r.2 (if p.2.kind = 14 then p.1 else []) p.2) b { op := 17, s := p.1 }, r.2 ++ [p.1])) r).1 <= wC r.1 + (l.map fun p => 1 + bigN f p.2).sum
 | [], r => by simp
 | p :: l, r => by
  have h1 := ih p.2 r.1 b r.2 (if p.2.kind = 14 then p.1 else [])
  have h2 := wC_put (comp f r.1 b r.2 (if p.2.kind = 14 then p.1 else []) p.2) b { op := 17, s := p.1 }
  have h3 := wC_lets f b ih l (putC (comp f r.1 b r.2 (if p.2.kind = 14 then p.1 else []) p.2) b { op := 17, s := p.1 }, r.2 ++ [p.1])
  simp only [List.foldl_cons, List.map_cons, List.sum_cons] at *
  omega
theorem wC_comp : ∀ (f : Nat) (n : NodeD) (c : CodeD) (b : Nat) (K : List Bs) (own : Bs), wC (comp f c b K own n) <= wC c + bigN f n
 | 0, n, c, b, K, own => by simp [comp]
 | f + 1, n, c, b, K, own => by
  have ih := wC_comp f
  have hE := wC_each f b K ih n.kids
  rw [bigN]
  by_cases h12 : n.kind = 12
  ·cases hf : findN K n.text with
   | some g =>
    rw [comp_known f c b K own n g h12 hf]
    have h1 := hE (putC c b { op := 18, s := g })
    have h2 := wC_put c b { op := 18, s := g }
    exact Nat.le_trans (wC_put _ _ _) (by omega)
   | none =>
    by_cases hU : ¬ (upperD n.text = [73, 70]) \/ n.kids.length < 2 \/ 3 < n.kids.length
    ·rw [comp_call f c b K own n h12 hf hU]
     have h1 := hE c
     exact Nat.le_trans (wC_put _ _ _) (by omega)
    ·rw [comp]
     dsimp only
     rw [if_pos h12, hf]
     dsimp only
     rw [if_neg hU]
     refine Nat.le_trans (wC_over _ _ _ _) ?_
     obtain ⟨x, y, r, hk⟩ : ∃ x y r, n.kids = x :: y :: r := by
      match hk : n.kids with
      | [] => rw [hk] at hU; exact absurd (.inr (.inl (by simp))) hU
      | [x] => rw [hk] at hU; exact absurd (.inr (.inl (by simp))) hU
      | x :: y :: r => exact ⟨x, y, r, rfl⟩
     rw [hk]
     simp only [List.getElem?_cons_zero, List.getElem?_cons_succ, List.map_cons, List.sum_cons]
     have a1 := wC_sub f b K ih c (some x)
     generalize subC (fun c b K k => comp f c b K [] k) c b K (some x) = c1 at *
     have a2 := wC_put c1 b { op := 13 }
     generalize putC c1 b { op := 13 } = c2 at *
     have a3 := wC_sub f b K ih c2 (some y)
     generalize subC (fun c b K k => comp f c b K [] k) c2 b K (some y) = c3 at *
     have a4 := wC_put c3 b { op := 14 }
     generalize putC c3 b { op := 14 } = c4 at *
     simp only [Option.map_some, Option.getD_some] at a1 a3
     split
     ·have a5 := wC_sub f b K ih c4 r[0]?
      cases r with
      | nil => simp at * <;> omega
      | cons z r => simp at * <;> omega
     ·have a5 := wC_put c4 b { op := 3 }
      omega
  by_cases h16 : n.kind = 16
  ·rw [comp]
   dsimp only
   rw [if_neg h12, if_pos h16]
   have h1 := wC_lets f b ih ((namesD n.text).zip n.kids) (c, K)
   generalize ((namesD n.text).zip n.kids).foldl _ (c, K) = R at h1 ⊢
   have h2 := wC_sub f b R.2 ih R.1 n.kids[(namesD n.text).length]?
   have h3 := zip_wt f (namesD n.text) n.kids
   exact Nat.le_trans (wC_put _ _ _) (by dsimp only at *; omega)
  by_cases h14 : n.kind = 14
  ·rw [comp]
   dsimp only
   rw [if_neg h12, if_neg h16, if_pos h14]
   refine Nat.le_trans (wC_sub f _ _ ih _ _) ?_
   have h1 := wC_put c b { op := 15, a := c.blocks.length, s := if own = [] then joinN (heldN K own) else joinN (heldN K own) ++ 59 :: own }
   generalize putC c b { op := 15, a := c.blocks.length, s := if own = [] then joinN (heldN K own) else joinN (heldN K own) ++ 59 :: own } = c1 at *
   have h2 : wC { blocks := c1.blocks ++ [[]], params := c1.params ++ [n.text] } = wC c1 + 1 := by simp [wC]; omega
   rw [h2]
   have h3 : ((n.kids[0]?).map (bigN f)).getD 0 <= (n.kids.map fun k => 1 + bigN f k).sum := by
    cases n.kids with
    | nil => simp
    | cons x r => simp; omega
   omega
  by_cases h15 : n.kind = 15
  ·rw [comp_apply f c b K own n h15]
   have h1 := hE c
   exact Nat.le_trans (wC_put _ _ _) (by omega)
  by_cases h7 : n.kind = 7
  ·rw [comp_name f c b K own n h7]
   split
   ·exact Nat.le_trans (wC_put _ _ _) (by omega)
   ·exact Nat.le_trans (wC_put _ _ _) (by omega)
  ·rw [comp_other f c b K own n h12 h16 h14 h15 h7]
   have h1 := hE c
   exact Nat.le_trans (wC_put _ _ _) (by omega)
theorem size_big : ∀ (f : Nat) (n : NodeD) (d m : Nat), sizeD f n = some (d, m) -> bigN f n + 1 <= 5 * m
 | 0, n, d, m, h => by simp [sizeD] at h
 | f + 1, n, d, m, h => by
  rw [sizeD] at h
  split at h
  ·have go : ∀ (l : List NodeD) (d0 m0 d1 m1 : Nat), l.foldl (fun (r : Option (Nat × Nat)) k => match r, sizeD f k with
    | some (d, m), some (d', m') => some (max d d', m + m')
    | _, _ => none) (some (d0, m0)) = some (d1, m1) -> (l.map fun k => 1 + bigN f k).sum + 5 * m0 <= 5 * m1 := by
    intro l
    induction l with
    | nil => intro d0 m0 d1 m1 h; simp at h; simp [h.2]
    | cons k l ih =>
     intro d0 m0 d1 m1 h
     rw [List.foldl_cons] at h
     cases hk : sizeD f k with
     | none =>
      rw [hk] at h
      have : ∀ l : List NodeD, l.foldl (fun (r : Option (Nat × Nat)) k => match r, sizeD f k with
       | some (d, m), some (d', m') => some (max d d', m + m')
       | _, _ => none) none = none := by
       intro l; induction l with
       | nil => rfl
       | cons x l ih => rw [List.foldl_cons]; exact ih
      dsimp only at h
      rw [this] at h; cases h
     | some p =>
      obtain ⟨d', m'⟩ := p
      rw [hk] at h
      have h1 := ih _ _ _ _ h
      have h2 := size_big f k d' m' hk
      simp only [List.map_cons, List.sum_cons]; omega
   obtain ⟨p, hp, he⟩ := Option.map_eq_some_iff.1 h
   obtain ⟨d0, m0⟩ := p
   have := go _ _ _ _ _ hp
   simp only [Prod.mk.injEq] at he
   rw [bigN]; omega
  ·cases h
theorem wC_block (c : CodeD) (b : Nat) : (c.blocks.getD b []).length <= wC c := by
 unfold wC
 have : ∀ (l : List (List InsD)) (b : Nat), (l.getD b []).length <= (l.map List.length).sum := by
  intro l
  induction l with
  | nil => intro b; simp
  | cons x l ih =>
   intro b
   cases b with
   | zero => simp
   | succ b => have := ih b; simp at *; omega
 have := this c.blocks b
 omega
theorem right_small {n : NodeD} (h : rightT n = true) : wC (codeOf n) <= 1001 := by
 unfold rightT at h
 split at h
 ·rename_i d m e
  have h1 := size_big 24 n d m e
  have h2 := wC_comp 24 n bareC 0 [] []
  have h3 : wC bareC = 1 := rfl
  simp only [Bool.and_eq_true, decide_eq_true_eq] at h
  unfold codeOf
  omega
 ·cases h
namespace NC
open Go
def valF (D : Nat -> Int) : Nat -> Nat
 | 0 => 0
 | n + 1 => valF D n + (D n).toNat * 10 ^ n
def Rng (D : Nat -> Int) : Prop := ∀ k, k < 96 -> 0 <= D k /\ D k <= 9
theorem val_none : ∀ n, valF (fun _ => 0) n = 0
 | 0 => rfl
 | n + 1 => by
  show valF (fun _ => 0) n + (0 : Int).toNat * 10 ^ n = 0
  rw [val_none n]; simp
theorem rng_none : Rng fun _ => 0 := fun _ _ => ⟨Int.le_refl 0, by show (0 : Int) <= 9; decide⟩
theorem val_upd (D : Nat -> Int) (i : Nat) (v : Int) : ∀ n, valF (updI D i v) n + (if i < n then (D i).toNat * 10 ^ i else 0) = valF D n + (if i < n then v.toNat * 10 ^ i else 0)
 | 0 => by simp [valF]
 | n + 1 => by
  have ih := val_upd D i v n
  show valF (updI D i v) n + (updI D i v n).toNat * 10 ^ n + _ = valF D n + (D n).toNat * 10 ^ n + _
  by_cases h : i < n
  ·rw [if_pos h, if_pos h] at ih
   rw [if_pos (show i < n + 1 by omega), if_pos (show i < n + 1 by omega)]
   have : updI D i v n = D n := by unfold updI; rw [if_neg (by omega)]
   rw [this]; omega
  ·rw [if_neg h, if_neg h] at ih
   by_cases h2 : n = i
   ·subst h2
    rw [if_pos (show n < n + 1 by omega), if_pos (show n < n + 1 by omega)]
    have : updI D n v n = v := by unfold updI; rw [if_pos rfl]
    rw [this]; omega
   ·rw [if_neg (show ¬ i < n + 1 by omega), if_neg (show ¬ i < n + 1 by omega)]
    have : updI D i v n = D n := by unfold updI; rw [if_neg h2]
    rw [this]; omega
theorem ofF_val (m : Nat) (hm : m = 96) : ∀ (f n k : Nat) (D : Nat -> Int), Rng D -> n < 10 ^ f -> k + f <= 96 -> (∀ i, k <= i -> i < 96 -> D i = 0) -> Rng (ofF f n k D) /\ valF (ofF f n k D) m = valF D m + n * 10 ^ k
 | 0, n, k, D, hD, hn, hk, h0 => by
  have : n = 0 := by simpa using hn
  subst this
  exact ⟨hD, by simp [ofF]⟩
 | f + 1, n, k, D, hD, hn, hk, h0 => by
  unfold ofF
  by_cases hn0 : n = 0
  ·rw [if_pos hn0, hn0]; exact ⟨hD, by simp⟩
  ·rw [if_neg hn0]
   have hr : Rng (updI D k ((n % 10 : Nat) : Int)) := fun j hj => by
    unfold updI
    by_cases e : j = k
    ·rw [if_pos e]; omega
    ·rw [if_neg e]; exact hD j hj
   obtain ⟨h1, h2⟩ := ofF_val m hm f (n / 10) (k + 1) _ hr (by rw [Nat.pow_succ] at hn; omega) (by omega) (fun i hi1 hi2 => by unfold updI; rw [if_neg (by omega)]; exact h0 i (by omega) hi2)
   refine ⟨h1, ?_⟩
   rw [h2]
   have hu := val_upd D k ((n % 10 : Nat) : Int) m
   rw [if_pos (by omega), if_pos (by omega), h0 k (Nat.le_refl _) (by omega)] at hu
   simp only [Int.toNat_natCast, Int.toNat_zero, Nat.zero_mul, Nat.add_zero] at hu
   rw [hu, Nat.pow_succ]
   have : n / 10 * (10 ^ k * 10) = (n / 10 * 10) * 10 ^ k := by rw [Nat.mul_comm (10 ^ k) 10, Nat.mul_assoc]
   rw [this, Nat.add_assoc, <- Nat.add_mul]
   congr 2
   omega
end NC
open Go NC
theorem layC_val (m e : Int) (h : decOkD m e = true) : Rng (layC m e) /\ valF (layC m e) 96 = m.natAbs * 10 ^ (48 + e).toNat := by
 unfold decOkD at h
 rw [Bool.and_eq_true] at h
 have h1 := h.1
 simp only [Bool.not_eq_true', Bool.or_eq_false_iff, decide_eq_false_iff_not] at h1
 obtain ⟨a, b⟩ := ofF_val 96 rfl 15 m.natAbs (48 + e).toNat (fun _ => 0) rng_none (by omega) (by omega) (fun _ _ _ => rfl)
 exact ⟨a, by unfold layC; rw [b, val_none, Nat.zero_add]⟩
end Tab
namespace Tab
open Go
theorem sameR_iff (x y : RefD) : sameR x y = true <-> x = y := by
 constructor
 ·intro h
  unfold sameR at h
  simp only [Bool.and_eq_true, beq_iff_eq] at h
  obtain ⟨a, b, c, d, e, f⟩ := h
  cases x with | mk s r c1 f1 f2 b1 =>
  cases y with | mk s' r' c1' f1' f2' b1' =>
  dsimp only at a b c d e f
  subst b c d e f
  have : s = s' := ByteArray.ext (Array.toList_inj.1 a)
  rw [this]
 ·rintro rfl; unfold sameR; simp
theorem sameI_iff (x y : InsD) : sameI x y = true <-> x = y := by
 constructor
 ·intro h
  unfold sameI at h
  simp only [Bool.and_eq_true, beq_iff_eq, sameR_iff] at h
  obtain ⟨a, b, c, d, ⟨e, f⟩, g, k⟩ := h
  cases x; cases y
  dsimp only at *
  subst a b c d e f g k
  rfl
 ·rintro rfl; unfold sameI; simp [sameR_iff]
def lays (L : List Bs) : Bs := L.flatMap fun x => x ++ [10]
end Tab
