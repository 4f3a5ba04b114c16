/- The plain functions that this claim's Go code computes: classes, tokens, trees, their text, what rules come to. No program and no memory stands here. What 'visit' comes to: the places to which one leads; one more rule that nothing uses. What the small case of chapter 06 comes to. -/
import Derived.KernelRfl
section
namespace Go.Proofs.YtdmhjnnogcpccaaGreatDoor.Mu

abbrev Bs := List UInt8

/-! ### classes of bytes -/

structure Cl where
  a : BitVec 64
  b : BitVec 64
  c : BitVec 64
  d : BitVec 64
  deriving DecidableEq

instance : Inhabited Cl := ⟨⟨0, 0, 0, 0⟩⟩

def Cl.zero : Cl := ⟨0, 0, 0, 0⟩

def Cl.word (c : Cl) (i : Nat) : BitVec 64 := match i with
  | 0 => c.a
  | 1 => c.b
  | 2 => c.c
  | _ => c.d

def Cl.map2 (f : BitVec 64 → BitVec 64 → BitVec 64) (x y : Cl) : Cl := ⟨f x.a y.a, f x.b y.b, f x.c y.c, f x.d y.d⟩

def both (x y : Cl) : Cl := Cl.map2 (· &&& ·) x y
def either (x y : Cl) : Cl := Cl.map2 (· ||| ·) x y
def clNot (x : Cl) : Cl := ⟨~~~ x.a, ~~~ x.b, ~~~ x.c, ~~~ x.d⟩

/-- is the byte in it? -/
def has (c : Cl) (b : Nat) : Bool := (c.word (b / 64)).getLsbD (b % 64)

/-- one word of a span -/
def spanW (lo hi : Int) (i : Int) : BitVec 64 :=
  let f := max (lo - 64 * i) 0
  let t := min (hi - 64 * i) 63
  if f ≤ t then (BitVec.allOnes 64 >>> (63 - t + f).toNat) <<< f.toNat else 0

def span (lo hi : Int) : Cl := ⟨spanW lo hi 0, spanW lo hi 1, spanW lo hi 2, spanW lo hi 3⟩

/-- the first byte from one on that is in, or not; 256: none -/
def nextK (c : Cl) (inn : Bool) : Nat → Nat → Nat
  | 0, f => f
  | k + 1, f => if has c f == inn then f else nextK c inn k (f + 1)

def next (c : Cl) (f : Nat) (inn : Bool) : Nat := nextK c inn (256 - f) f

def runsK (c : Cl) : Nat → Nat → List (Nat × Nat)
  | 0, _ => []
  | k + 1, lo => if lo < 256 then (lo, next c lo false - 1) :: runsK c k (next c (next c lo false) true) else []

def runs (c : Cl) : List (Nat × Nat) := if c = Cl.zero then [] else runsK c 256 (next c 0 true)

def hexes : Bs := [48, 49, 50, 51, 52, 53, 54, 55, 56, 57, 97, 98, 99, 100, 101, 102]

def hexDigit (n : Nat) : UInt8 := hexes.getD n 0

def marked : Bs := [91, 93, 92, 45, 94]

/-- a byte's sign in a class -/
def clSign (c : UInt8) : Bs :=
  if c = 10 then [92, 110] else if c = 13 then [92, 114] else if c = 9 then [92, 116]
  else if c < 32 ∨ 126 < c then [92, 120, hexDigit (c.toNat / 16), hexDigit (c.toNat % 16)]
  else if marked.contains c then [92, c] else [c]

def runText (r : Nat × Nat) : Bs :=
  clSign (UInt8.ofNat r.1) ++ (if r.2 - r.1 = 0 then [] else if r.2 - r.1 = 1 then clSign (UInt8.ofNat r.2) else [45] ++ clSign (UInt8.ofNat r.2))

def clText (c : Cl) : Bs := [91] ++ (runs c).flatMap runText ++ [93]

/-! ### reading a class: what is wrong has a number and a place -/

structure Flt where
  code : Int
  place : Int
  deriving DecidableEq

/-- what cannot stand there: 'n' is how long the whole is, 's' what is left -/
def clWrong (n : Nat) (s : Bs) : Flt := if s = [] then ⟨3, n⟩ else ⟨4, (n : Int) - s.length⟩

def hexVal (c : UInt8) : Option Nat := hexes.findIdx? (· == c)

/-- a sign: its byte and what is left -/
def clRead (n : Nat) (s : Bs) : Except Flt (Nat × Bs) := match s with
  | [] => .error ⟨3, n⟩
  | c :: r =>
    if c = 92 then
      match r with
      | [] => .error ⟨3, n⟩
      | d :: q =>
        if d = 110 then .ok (10, q) else if d = 114 then .ok (13, q) else if d = 116 then .ok (9, q)
        else if marked.contains d then .ok (d.toNat, q)
        else if d = 120 then
          match q with
          | [] => .error ⟨3, n⟩
          | e :: q1 => match hexVal e with
            | none => .error ⟨4, (n : Int) - (q1.length + 1 : Nat)⟩
            | some h => match q1 with
              | [] => .error ⟨3, n⟩
              | f :: q2 => match hexVal f with
                | none => .error ⟨4, (n : Int) - (q2.length + 1 : Nat)⟩
                | some l => .ok (16 * h + l, q2)
        else .error ⟨4, (n : Int) - (q.length + 1 : Nat)⟩
    else if c < 32 ∨ 126 < c ∨ marked.contains c then .error ⟨4, (n : Int) - (r.length + 1 : Nat)⟩
    else .ok (c.toNat, r)

/-- a member -/
def clMember (n : Nat) (s : Bs) : Except Flt (Cl × Bs) := match clRead n s with
  | .error e => .error e
  | .ok (lo, r) =>
    match (match r with
      | 45 :: q => clRead n q
      | _ => .ok (lo, r)) with
    | .error e => .error e
    | .ok (hi, q) => if lo ≤ hi then .ok (span lo hi, q) else .error ⟨4, (n : Int) - s.length⟩

def clMembers (n : Nat) : Nat → Cl → Bs → Except Flt (Cl × Bs)
  | 0, _, _ => .error ⟨3, n⟩
  | k + 1, c, s => match s with
    | 93 :: r => .ok (c, r)
    | _ => match clMember n s with
      | .error e => .error e
      | .ok (m, r) => clMembers n k (either c m) r

/-- class.Parse: the class and how many bytes it has -/
def clParse (s : Bs) : Except Flt (Cl × Nat) := match s with
  | 91 :: r =>
    let neg := match r with
      | 94 :: _ => true
      | _ => false
    let q := if neg then r.drop 1 else r
    match clMembers s.length (s.length + 1) Cl.zero q with
    | .error e => .error e
    | .ok (c, z) => .ok (if neg then clNot c else c, s.length - z.length)
  | _ => .error (clWrong s.length s)

/-! ### tokens -/

def letter (c : UInt8) : Bool := (decide (97 ≤ c ||| 32) && decide (c ||| 32 ≤ 122)) || c == 95
def digit (c : UInt8) : Bool := decide (48 ≤ c) && decide (c ≤ 57)

def nameTail : Bs → Nat
  | [] => 0
  | c :: r => if letter c || digit c then nameTail r + 1 else 0

/-- how many bytes of a name stand at the front -/
def nameLen : Bs → Nat
  | [] => 0
  | c :: r => if letter c then nameTail r + 1 else 0

def isName (s : Bs) : Bool := !s.isEmpty && decide (s.length ≤ 32) && nameLen s == s.length

structure Tk where
  kind : Nat
  text : Bs
  cls : Cl
  place : Nat
  deriving DecidableEq

instance : Inhabited Tk := ⟨⟨0, [], Cl.zero, 0⟩⟩

/-- what stands behind a backslash: its byte, and how much is left; 's' begins behind the backslash; 'n': how long the whole source is -/
def escape (n : Nat) (s : Bs) : Except Flt (UInt8 × Bs) := match s with
  | [] => .error ⟨3, n⟩
  | c :: r =>
    if c = 110 then .ok (10, r) else if c = 114 then .ok (13, r) else if c = 116 then .ok (9, r)
    else if c = 92 ∨ c = 34 ∨ c = 39 then .ok (c, r)
    else if c = 120 then
      match r with
      | [] => .error ⟨3, n⟩
      | e :: q1 => match hexVal e with
        | none => .error ⟨4, (n : Int) - (q1.length + 1 : Nat)⟩
        | some h => match q1 with
          | [] => .error ⟨3, n⟩
          | f :: q2 => match hexVal f with
            | none => .error ⟨4, (n : Int) - (q2.length + 1 : Nat)⟩
            | some l => .ok (UInt8.ofNat (16 * h + l), q2)
    else .error ⟨4, (n : Int) - (r.length + 1 : Nat)⟩

/-- a literal behind its first quote: its bytes and what is left. 'at0': where it began; 'acc': what it has, the last one first -/
def literalK (n at0 : Nat) (quote : UInt8) : Nat → Bs → Bs → Except Flt (Bs × Bs)
  | 0, _, _ => .error ⟨3, n⟩
  | k + 1, acc, s => match s with
    | [] => .error ⟨3, n⟩
    | c :: r =>
      if c = quote then .ok (acc.reverse, r)
      else
        match (if c = 92 then escape n r else .ok (c, r)) with
        | .error e => .error e
        | .ok (x, q) =>
          if c < 32 ∨ 126 < c then .error ⟨4, (n : Int) - s.length⟩
          else if acc.length = 255 then .error ⟨2, at0⟩
          else literalK n at0 quote k (x :: acc) q

def signs : Bs := [47, 38, 33, 63, 42, 43, 40, 41, 46]

/-- a token at a place that is no blank; 's' is what is left, not empty -/
def token (n : Nat) (s : Bs) : Except Flt (Tk × Bs) :=
  let at0 := n - s.length
  let m := nameLen s
  match s with
  | [] => .error ⟨3, n⟩
  | b :: r =>
    if 32 < m then .error ⟨2, at0⟩
    else if 0 < m then .ok (⟨1, s.take m, Cl.zero, at0⟩, s.drop m)
    else if signs.contains b then .ok (⟨5, [b], Cl.zero, at0⟩, r)
    else if b = 60 ∧ r.head? = some 45 then .ok (⟨2, [], Cl.zero, at0⟩, r.drop 1)
    else if b = 39 ∨ b = 34 then
      match literalK n at0 b (r.length + 1) [] r with
      | .error e => .error e
      | .ok (t, q) => .ok (⟨3, t, Cl.zero, at0⟩, q)
    else if b = 91 then
      match clParse s with
      | .error e => .error ⟨e.code, at0 + e.place⟩
      | .ok (c, u) => .ok (⟨4, [], c, at0⟩, s.drop u)
    else .error ⟨4, at0⟩

/-- a remark's end: from its '#' to the next line -/
def remark : Bs → Bs
  | [] => []
  | c :: r => if c = 10 then c :: r else remark r

def tokensK (n : Nat) : Nat → List Tk → Bs → Except Flt (List Tk)
  | 0, _, _ => .error ⟨3, n⟩
  | k + 1, acc, s => match s with
    | [] => .ok (acc.reverse ++ [⟨6, [], Cl.zero, n⟩])
    | c :: r =>
      if c = 35 then tokensK n k acc (remark (c :: r))
      else if c = 9 ∨ c = 10 ∨ c = 13 ∨ c = 32 then tokensK n k acc r
      else match token n s with
        | .error e => .error e
        | .ok (t, q) => tokensK n k (t :: acc) q

def tokens (s : Bs) : Except Flt (List Tk) := if 8192 < s.length then .error ⟨2, -1⟩ else tokensK s.length (s.length + 1) [] s

/-- a byte in a literal -/
def quoteB (c : UInt8) : Bs :=
  if c = 10 then [92, 110] else if c = 13 then [92, 114] else if c = 9 then [92, 116] else if c = 39 then [92, 39] else if c = 92 then [92, 92]
  else if c < 32 ∨ 126 < c then [92, 120, hexDigit (c.toNat / 16), hexDigit (c.toNat % 16)] else [c]

def quote (p : Bs) : Bs := [39] ++ p.flatMap quoteB ++ [39]

/-! ### trees -/

inductive Nd where
  | mk (kind : Int) (text : Bs) (cls : Cl) (subs : List Nd) (place : Int)

instance : Inhabited Nd := ⟨.mk 0 [] Cl.zero [] 0⟩

def Nd.kind : Nd → Int | .mk k _ _ _ _ => k
def Nd.text : Nd → Bs | .mk _ t _ _ _ => t
def Nd.cls : Nd → Cl | .mk _ _ c _ _ => c
def Nd.subs : Nd → List Nd | .mk _ _ _ l _ => l
def Nd.place : Nd → Int | .mk _ _ _ _ p => p

structure Ru where
  name : Bs
  body : Nd
  place : Int

instance : Inhabited Ru := ⟨⟨[], default, 0⟩⟩

abbrev Gr := List Ru

/-! ### reading tokens -/

def tk0 (l : List Tk) : Tk := l.headD default

def stop (code : Int) (l : List Tk) : Flt := ⟨code, (tk0 l).place⟩

/-- what cannot stand there -/
def wrong (l : List Tk) : Flt := if (tk0 l).kind = 6 then stop 3 l else stop 4 l

def signOf (l : List Tk) : Bs := if (tk0 l).kind = 5 then (tk0 l).text else []

def joined (kind : Int) (l : List Nd) : Nd := match l with
  | [n] => n
  | _ => .mk kind [] Cl.zero l (l.headD default).place

/-- one, if one comes; 'within' reads what stands in parentheses -/
def oneWith (within : List Tk → Except Flt (Nd × List Tk)) (l : List Tk) : Except Flt (Option Nd × List Tk) :=
  let t := tk0 l
  if t.kind = 1 then (if (tk0 l.tail).kind = 2 then .ok (none, l) else .ok (some (.mk 5 t.text t.cls [] t.place), l.tail))
  else if t.kind = 3 then .ok (some (.mk 2 t.text t.cls [] t.place), l.tail)
  else if t.kind = 4 then .ok (some (.mk 3 t.text t.cls [] t.place), l.tail)
  else if t.kind = 5 then
    if t.text = [46] then .ok (some (.mk 4 [] t.cls [] t.place), l.tail)
    else if t.text = [40] then
      match within l with
      | .error e => .error e
      | .ok (n, q) => .ok (some n, q)
    else .ok (none, l)
  else .ok (none, l)

def kindOf (s : Bs) : Int := if s = [38] then 11 else if s = [33] then 12 else 0

/-- a repetition's sign behind it -/
def after (n : Nd) (l : List Tk) : Nd × List Tk :=
  if signOf l = [43] then (.mk 10 [] Cl.zero [n] n.place, l.tail)
  else if signOf l = [42] then (.mk 9 [] Cl.zero [n] n.place, l.tail)
  else if signOf l = [63] then (.mk 8 [] Cl.zero [n] n.place, l.tail)
  else (n, l)

/-- a part, if one comes -/
def partWith (one : List Tk → Except Flt (Option Nd × List Tk)) (l : List Tk) : Except Flt (Option Nd × List Tk) :=
  let k := kindOf (signOf l)
  let l1 := if k = 0 then l else l.tail
  match one l1 with
  | .error e => .error e
  | .ok (none, q) => if k = 0 then .ok (none, q) else .error (wrong q)
  | .ok (some n, q) =>
    let m := (after n q).1
    .ok (some (if k = 0 then m else .mk k [] Cl.zero [m] (tk0 l).place), (after n q).2)

/-- the parts of a row; 'acc': those that were read, the last one first -/
def partsK (part : List Tk → Except Flt (Option Nd × List Tk)) : Nat → List Nd → List Tk → Except Flt (List Nd × List Tk)
  | 0, _, l => .error (stop 4 l)
  | k + 1, acc, l => match part l with
    | .error e => .error e
    | .ok (none, q) => .ok (acc.reverse, q)
    | .ok (some n, q) => partsK part k (n :: acc) q

def rowWith (part : List Tk → Except Flt (Option Nd × List Tk)) (l : List Tk) : Except Flt (Nd × List Tk) :=
  match partsK part (l.length + 1) [] l with
  | .error e => .error e
  | .ok ([], q) => .ok (.mk 1 [] Cl.zero [] (tk0 q).place, q)
  | .ok (ns, q) => .ok (joined 6 ns, q)

/-- the rows behind the first one -/
def rowsK (row : List Tk → Except Flt (Nd × List Tk)) : Nat → List Nd → List Tk → Except Flt (List Nd × List Tk)
  | 0, _, l => .error (stop 4 l)
  | k + 1, acc, l => if signOf l = [47] then
      match row l.tail with
      | .error e => .error e
      | .ok (n, q) => rowsK row k (n :: acc) q
    else .ok (acc.reverse, l)

def choiceWith (row : List Tk → Except Flt (Nd × List Tk)) (l : List Tk) : Except Flt (Nd × List Tk) :=
  match row l with
  | .error e => .error e
  | .ok (n, q) => match rowsK row (q.length + 1) [n] q with
    | .error e => .error e
    | .ok (ns, q2) => .ok (joined 7 ns, q2)

/-- a choice; so many parentheses more may be opened -/
def choiceD : Nat → List Tk → Except Flt (Nd × List Tk)
  | 0 => choiceWith (rowWith (partWith (oneWith fun l => .error (stop 2 l))))
  | d + 1 => choiceWith (rowWith (partWith (oneWith fun l => match choiceD d l.tail with
    | .error e => .error e
    | .ok (n, q) => if signOf q = [41] then .ok (n, q.tail) else .error (wrong q))))

def must (kind : Nat) (l : List Tk) : Except Flt (Tk × List Tk) := if (tk0 l).kind = kind then .ok (tk0 l, l.tail) else .error (wrong l)

def ruleOf (l : List Tk) : Except Flt (Ru × List Tk) := match must 1 l with
  | .error e => .error e
  | .ok (t, l1) => match must 2 l1 with
    | .error e => .error e
    | .ok (_, l2) => match choiceD 24 l2 with
      | .error e => .error e
      | .ok (n, q) => .ok (⟨t.text, n, t.place⟩, q)

def rulesK : Nat → Gr → List Tk → Except Flt Gr
  | 0, _, l => .error (stop 4 l)
  | k + 1, acc, l =>
    if acc.length ≠ 0 ∧ (tk0 l).kind = 6 then .ok acc.reverse
    else if acc.length = 64 ∧ (tk0 l).kind = 1 then .error (stop 2 l)
    else match ruleOf l with
      | .error e => .error e
      | .ok (r, q) => rulesK k (r :: acc) q

/-- syntax.Parse -/
def parse (s : Bs) : Except Flt Gr := match tokens s with
  | .error e => .error e
  | .ok l => rulesK (l.length + 1) [] l

/-! ### a tree's text -/

mutual
def nodeOk : Nd → Bool
  | .mk k t c l _ =>
    if k ≠ 3 ∧ c ≠ Cl.zero then false
    else (if k = 5 then isName t && l.isEmpty
      else if k = 2 then decide (t.length ≤ 255) && l.isEmpty
      else if k = 1 ∨ k = 4 ∨ k = 3 then t.isEmpty && l.isEmpty
      else if k = 6 ∨ k = 7 then t.isEmpty && decide (1 < l.length)
      else if k = 8 ∨ k = 9 ∨ k = 10 ∨ k = 11 ∨ k = 12 then t.isEmpty && decide (l.length = 1)
      else false) && nodesOk l
def nodesOk : List Nd → Bool
  | [] => true
  | n :: l => nodeOk n && nodesOk l
end

def ruleOk (r : Ru) : Bool := isName r.name && nodeOk r.body

def rank (k : Int) : Nat := if k = 7 then 0 else if k = 6 then 1 else if k = 11 ∨ k = 12 then 2 else if k = 8 ∨ k = 9 ∨ k = 10 then 3 else 4

def wide (p : Bs) : Bool := decide (8192 < p.length)

/-- what stands between an expression's parts, and their rank at least -/
def between (k : Int) : Bs := if k = 7 then [32, 47, 32] else if k = 6 then [32] else []
def least (k : Int) : Nat := if k = 7 then 1 else if k = 6 then 2 else if k = 11 ∨ k = 12 then 3 else 4
/-- the sign ahead of them, and behind them -/
def ahead (k : Int) : Bs := if k = 11 then [38] else if k = 12 then [33] else []
def behindS (k : Int) : Bs := if k = 8 then [63] else if k = 9 then [42] else if k = 10 then [43] else []

mutual
/-- a text, and an expression behind it: nothing, once it is too long -/
def exprT : Nd → Bs → Bs
  | .mk k t c l _, p =>
    if 8192 < p.length then p
    else if k = 1 then p ++ [40, 41]
    else if k = 2 then p ++ quote t
    else if k = 3 then p ++ clText c
    else if k = 4 then p ++ [46]
    else if k = 5 then p ++ t
    else partsT (between k) (least k) true l (p ++ ahead k) ++ behindS k
def partsT : Bs → Nat → Bool → List Nd → Bs → Bs
  | _, _, _, [], p => p
  | b, m, f, n :: l, p => partsT b m false l (partT m n (if f then p else p ++ b))
def partT : Nat → Nd → Bs → Bs
  | m, n, p => if m ≤ rank n.kind then exprT n p else exprT n (p ++ [40]) ++ [41]
end

/-- the rules' text; none: it is too long -/
def rulesT : Gr → Bs → Option Bs
  | [], p => some p
  | r :: g, p =>
    let q := exprT r.body (p ++ (r.name ++ [32, 60, 45, 32])) ++ [10]
    if 8192 < q.length then none else rulesT g q

/-- printer.Print: the text, or the error's number -/
def print (g : Gr) : Except Int Bs :=
  if g.length < 1 ∨ 64 < g.length ∨ g.any (fun r => !ruleOk r) then .error 20
  else match rulesT g [] with
    | none => .error 2
    | some s => match parse s with
      | .error _ => .error 20
      | .ok _ => .ok s

/-- printer.Expr -/
def exprText (n : Nd) : Bs := match print [⟨[97], n, 0⟩] with
  | .error _ => []
  | .ok s => (s.drop 5).take (s.length - 6)

/-! ### names -/

/-- an error: a number, or one with a place -/
inductive Er where
  | no (code : Int)
  | at (f : Flt)
  deriving DecidableEq

def find (g : Gr) (name : Bs) : Option Nat := g.findIdx? (fun r => r.name == name)

mutual
/-- the Refs of a tree, from the front: their names and places -/
def refs : Nd → List (Bs × Int)
  | .mk k t _ l p => (if k = 5 then [(t, p)] else []) ++ refsL l
def refsL : List Nd → List (Bs × Int)
  | [] => []
  | n :: l => refs n ++ refsL l
end

/-- the first rule whose name is an earlier one's, too -/
def double (g : Gr) : Gr → Nat → Option Ru
  | [], _ => none
  | r :: l, i => if find g r.name = some i then double g l (i + 1) else some r

/-- the first Ref that means no rule -/
def lost (g : Gr) (n : Nd) : Option (Bs × Int) := (refs n).find? (fun x => (find g x.1).isNone)

def lostIn (g : Gr) : Gr → Option (Bs × Int)
  | [] => none
  | r :: l => match lost g r.body with
    | some x => some x
    | none => lostIn g l

/-- scope.Check -/
def check (g : Gr) : Option Er := match print g with
  | .error e => some (.no e)
  | .ok _ => match double g g 0 with
    | some r => some (.at ⟨30, r.place⟩)
    | none => match lostIn g g with
      | some x => some (.at ⟨31, x.2⟩)
      | none => none

def uses (g : Gr) (n : Nd) : List Nat := (List.range g.length).filter fun i => (refs n).any fun x => find g x.1 == some i

def usesAll (g : Gr) : List (List Nat) := g.map fun r => uses g r.body

/-- those seen, once one goes on from a rule -/
def visitK (all : List (List Nat)) : Nat → Nat → List Nat → List Nat
  | 0, _, seen => seen
  | k + 1, i, seen => if seen.contains i then seen else (all.getD i []).foldl (fun s j => visitK all k j s) (seen ++ [i])

def reach (all : List (List Nat)) (i : Nat) : List Nat := (List.range all.length).filter fun j => (visitK all (all.length + 1) i []).contains j

/-! ### what rules may come to -/

structure Out where
  zero : Bool
  some : Bool
  fail : Bool
  deriving DecidableEq

instance : Inhabited Out := ⟨⟨false, false, false⟩⟩
def Out.none : Out := ⟨false, false, false⟩

def behind (a b : Out) : Out := ⟨a.zero && b.zero, (a.some && (b.zero || b.some)) || ((a.zero || a.some) && b.some), a.fail || ((a.zero || a.some) && b.fail)⟩
def instead (a b : Out) : Out := if a.fail then ⟨a.zero || b.zero, a.some || b.some, b.fail⟩ else a
def alone (k : Int) (a : Out) : Out :=
  if k = 8 then ⟨a.zero || a.fail, a.some, false⟩
  else if k = 9 then ⟨a.fail, a.some, false⟩
  else if k = 10 then ⟨a.zero && a.fail, a.some, a.fail⟩
  else if k = 11 then ⟨a.zero || a.some, false, a.fail⟩
  else if k = 12 then ⟨a.fail, false, a.zero || a.some⟩
  else Out.none

mutual
/-- what an expression may come to, if the rules come to that -/
def outOf (t : Bs → Out) : Nd → Out
  | .mk k x c l _ =>
    if k = 1 then ⟨true, false, false⟩
    else if k = 5 then t x
    else if k = 2 then ⟨x.isEmpty, !x.isEmpty, !x.isEmpty⟩
    else if k = 3 then ⟨false, decide (c ≠ Cl.zero), true⟩
    else if k = 4 then ⟨false, true, true⟩
    else if k = 6 then outSeq t l ⟨true, false, false⟩
    else if k = 7 then outAlt t l ⟨false, false, true⟩
    else alone k (outHead t l)
def outSeq (t : Bs → Out) : List Nd → Out → Out
  | [], o => o
  | n :: l, o => outSeq t l (behind o (outOf t n))
def outAlt (t : Bs → Out) : List Nd → Out → Out
  | [], o => o
  | n :: l, o => outAlt t l (instead o (outOf t n))
def outHead (t : Bs → Out) : List Nd → Out
  | [] => Out.none
  | n :: _ => outOf t n
end

def put {A : Type} (t : Bs → A) (name : Bs) (o : A) : Bs → A := fun x => if x = name then o else t x

/-- one round: what is known behind it, and whether something is new -/
def roundO : Gr → (Bs → Out) → Bool → (Bs → Out) × Bool
  | [], t, b => (t, b)
  | r :: g, t, b => if outOf t r.body = t r.name then roundO g t b else roundO g (put t r.name (outOf t r.body)) true

def fixO (g : Gr) : Nat → (Bs → Out) → (Bs → Out)
  | 0, t => t
  | k + 1, t => if (roundO g t false).2 then fixO g k (roundO g t false).1 else (roundO g t false).1

/-- what the rules come to, by their names -/
def outs (g : Gr) : Bs → Out := fixO g (3 * g.length + 1) fun _ => Out.none

def known (g : Gr) (n : Nd) : Bool := (refs n).all fun x => (find g x.1).isSome

/-! ### with what they may begin -/

structure Ah where
  cls : Cl
  fin : Bool
  deriving DecidableEq

instance : Inhabited Ah := ⟨⟨Cl.zero, false⟩⟩
def Ah.none : Ah := ⟨Cl.zero, false⟩

def anything : Ah := ⟨clNot Cl.zero, true⟩

def byteOf (c : UInt8) : Cl := span c.toNat c.toNat

/-- a Not's -/
def notAh (n : Nd) : Ah :=
  if n.kind = 4 then ⟨Cl.zero, true⟩
  else if n.kind = 3 then ⟨clNot n.cls, true⟩
  else if n.kind = 2 then (match n.text with
    | [c] => ⟨clNot (byteOf c), true⟩
    | _ => anything)
  else anything

/-- a row's, of the one part's and that of those behind it -/
def rowAh (some : Bool) (b a : Ah) : Ah := ⟨if some then b.cls else both b.cls a.cls, b.fin && a.fin⟩

mutual
def ahOf (t : Bs → Out) (u : Bs → Ah) : Nd → Ah
  | .mk k x c l _ =>
    if k = 5 then u x
    else if k = 3 then ⟨c, false⟩
    else if k = 4 then ⟨clNot Cl.zero, false⟩
    else if k = 6 then ahSeq t u l
    else if k = 7 then ahAlt t u l Ah.none
    else if k = 10 ∨ k = 11 then ahHead t u l
    else if k = 12 then (match l with
      | [] => Ah.none
      | n :: _ => notAh n)
    else if k = 2 then (match x with
      | [] => anything
      | b :: _ => ⟨byteOf b, false⟩)
    else anything
def ahSeq (t : Bs → Out) (u : Bs → Ah) : List Nd → Ah
  | [] => Ah.none
  | n :: l => if l.isEmpty then ahOf t u n else rowAh (outOf t n).some (ahOf t u n) (ahSeq t u l)
def ahAlt (t : Bs → Out) (u : Bs → Ah) : List Nd → Ah → Ah
  | [], a => a
  | n :: l, a => ahAlt t u l ⟨either a.cls (ahOf t u n).cls, a.fin || (ahOf t u n).fin⟩
def ahHead (t : Bs → Out) (u : Bs → Ah) : List Nd → Ah
  | [] => Ah.none
  | n :: _ => ahOf t u n
end

def roundA (t : Bs → Out) : Gr → (Bs → Ah) → Bool → (Bs → Ah) × Bool
  | [], u, b => (u, b)
  | r :: g, u, b => if ahOf t u r.body = u r.name then roundA t g u b else roundA t g (put u r.name (ahOf t u r.body)) true

def fixA (t : Bs → Out) (g : Gr) : Nat → (Bs → Ah) → (Bs → Ah)
  | 0, u => u
  | k + 1, u => if (roundA t g u false).2 then fixA t g k (roundA t g u false).1 else (roundA t g u false).1

/-- with what the rules begin, by their names -/
def ahs (g : Gr) : Bs → Ah := fixA (outs g) g (257 * g.length + 1) fun _ => Ah.none

end Go.Proofs.YtdmhjnnogcpccaaGreatDoor.Mu
end

section
namespace Go.Proofs.YtdmhjnnogcpccaaGreatDoor.Mu

/-- one place leads to another -/
inductive Path (all : List (List Nat)) : Nat → Nat → Prop
  | refl (i : Nat) : Path all i i
  | step {i j k : Nat} : Path all i j → k ∈ all.getD j [] → Path all i k

theorem Path.trans {all : List (List Nat)} {i j k : Nat} (h : Path all i j) (h2 : Path all j k) : Path all i k := by
  induction h2 with
  | refl => exact h
  | step _ hk ih => exact .step ih hk

theorem Path.ahead {all : List (List Nat)} {i j k : Nat} (hj : j ∈ all.getD i []) (h : Path all j k) : Path all i k := (Path.step (.refl i) hj).trans h

def Good (all : List (List Nat)) : Prop := ∀ i j, j ∈ all.getD i [] → j < all.length

/-- what a step from 'seen' to 's' keeps -/
structure Vs (all : List (List Nat)) (seen s : List Nat) : Prop where
  nodup : s.Nodup
  lt : ∀ x ∈ s, x < all.length
  more : ∀ x ∈ seen, x ∈ s
  len : seen.length ≤ s.length
  closed : ∀ x ∈ s, x ∉ seen → ∀ y ∈ all.getD x [], y ∈ s

theorem nodup_len : ∀ (n : Nat) (l : List Nat), l.Nodup → (∀ x ∈ l, x < n) → l.length ≤ n
  | 0, l, _, h => by
    cases l with
    | nil => simp
    | cons x l => exact absurd (h x (by simp)) (by omega)
  | n + 1, l, hn, h => by
    have h1 : (l.filter (· ≠ n)).length ≤ n := nodup_len n _ (hn.filter _) (fun x hx => by
      have h2 := List.mem_filter.1 hx
      have h3 := h x h2.1
      have h4 : x ≠ n := by simpa using h2.2
      omega)
    have h2 : l.length = (l.filter (· ≠ n)).length + (l.filter (· = n)).length := by
      clear h1 hn h
      induction l with
      | nil => rfl
      | cons x l ih =>
        by_cases hx : x = n
        · simp [hx] at *; omega
        · simp [hx] at *; omega
    have h3 : (l.filter (· = n)).length ≤ 1 := by
      clear h1 h2 h
      induction l with
      | nil => simp
      | cons x l ih =>
        have h5 := List.nodup_cons.1 hn
        by_cases hx : x = n
        · subst hx
          have h6 : l.filter (· = x) = [] := List.filter_eq_nil_iff.2 (fun y hy => by
            simp only [decide_eq_true_eq]
            rintro rfl
            exact h5.1 hy)
          simp [h6]
        · simpa [hx] using ih h5.2
    omega

theorem visit_all (all : List (List Nat)) (hg : Good all) : ∀ (k i : Nat) (seen : List Nat), i < all.length → seen.Nodup → (∀ x ∈ seen, x < all.length) → all.length < k + seen.length →
    Vs all seen (visitK all k i seen) ∧ i ∈ visitK all k i seen ∧ ∀ x ∈ visitK all k i seen, x ∈ seen ∨ Path all i x
  | 0, i, seen, hi, hn, hl, hk => absurd (nodup_len _ _ hn hl) (by omega)
  | k + 1, i, seen, hi, hn, hl, hk => by
    unfold visitK
    by_cases hc : seen.contains i = true
    · rw [if_pos hc]
      have hm : i ∈ seen := by simpa using hc
      exact ⟨⟨hn, hl, fun x h => h, Nat.le_refl _, fun x h h2 => absurd h h2⟩, hm, fun x h => .inl h⟩
    · rw [if_neg hc]
      have hm : i ∉ seen := by simpa using hc
      have hfold : ∀ (l s0 : List Nat), (∀ j ∈ l, j < all.length) → s0.Nodup → (∀ x ∈ s0, x < all.length) → all.length < k + s0.length →
          Vs all s0 (l.foldl (fun s j => visitK all k j s) s0) ∧ (∀ j ∈ l, j ∈ l.foldl (fun s j => visitK all k j s) s0) ∧ ∀ x ∈ l.foldl (fun s j => visitK all k j s) s0, x ∈ s0 ∨ ∃ j ∈ l, Path all j x := by
        intro l
        induction l with
        | nil => exact fun s0 _ h2 h3 _ => ⟨⟨h2, h3, fun x h => h, Nat.le_refl _, fun x h h2 => absurd h h2⟩, by simp, fun x h => .inl h⟩
        | cons j l ih =>
          intro s0 h1 h2 h3 h4
          obtain ⟨a1, a2, a3⟩ := visit_all all hg k j s0 (h1 j (by simp)) h2 h3 h4
          obtain ⟨b1, b2, b3⟩ := ih (visitK all k j s0) (fun x hx => h1 x (by simp [hx])) a1.nodup a1.lt (by have := a1.len; omega)
          rw [List.foldl_cons]
          refine ⟨⟨b1.nodup, b1.lt, fun x hx => b1.more x (a1.more x hx), Nat.le_trans a1.len b1.len, fun x hx hx0 y hy => ?_⟩, fun x hx => ?_, fun x hx => ?_⟩
          · by_cases hxs : x ∈ visitK all k j s0
            · exact b1.more y (a1.closed x hxs hx0 y hy)
            · exact b1.closed x hx hxs y hy
          · rcases List.mem_cons.1 hx with rfl | hx
            · exact b1.more _ a2
            · exact b2 x hx
          · rcases b3 x hx with h | ⟨q, hq, hp⟩
            · rcases a3 x h with h | h
              · exact .inl h
              · exact .inr ⟨j, by simp, h⟩
            · exact .inr ⟨q, by simp [hq], hp⟩
      have hn1 : (seen ++ [i]).Nodup := by
        rw [List.nodup_append]
        refine ⟨hn, by simp, fun a ha b hb => ?_⟩
        have : b = i := by simpa using hb
        rintro rfl
        exact hm (this ▸ ha)
      have hl1 : ∀ x ∈ seen ++ [i], x < all.length := fun x hx => by
        rcases List.mem_append.1 hx with h | h
        · exact hl x h
        · have : x = i := by simpa using h
          omega
      obtain ⟨a1, a2, a3⟩ := hfold (all.getD i []) (seen ++ [i]) (fun j hj => hg i j hj) hn1 hl1 (by simp; omega)
      refine ⟨⟨a1.nodup, a1.lt, fun x hx => a1.more x (by simp [hx]), Nat.le_trans (by simp) a1.len, fun x hx hx0 y hy => ?_⟩, a1.more i (by simp), fun x hx => ?_⟩
      · by_cases hxi : x = i
        · subst hxi
          exact a2 y hy
        · exact a1.closed x hx (by simp [hx0, hxi]) y hy
      · rcases a3 x hx with h | ⟨q, hq, hp⟩
        · rcases List.mem_append.1 h with h | h
          · exact .inl h
          · have : x = i := by simpa using h
            subst this
            exact .inr (.refl _)
        · exact .inr (.ahead hq hp)

theorem fold_all (all : List (List Nat)) (hg : Good all) (k : Nat) : ∀ (l s0 : List Nat), (∀ j ∈ l, j < all.length) → s0.Nodup → (∀ x ∈ s0, x < all.length) → all.length < k + s0.length → Vs all s0 (l.foldl (fun s j => visitK all k j s) s0)
  | [], s0, _, h2, h3, _ => ⟨h2, h3, fun x h => h, Nat.le_refl _, fun x h h2 => absurd h h2⟩
  | j :: l, s0, h1, h2, h3, h4 => by
    obtain ⟨a1, a2, a3⟩ := visit_all all hg k j s0 (h1 j (by simp)) h2 h3 h4
    have b1 := fold_all all hg k l (visitK all k j s0) (fun x hx => h1 x (by simp [hx])) a1.nodup a1.lt (by have := a1.len; omega)
    rw [List.foldl_cons]
    refine ⟨b1.nodup, b1.lt, fun x hx => b1.more x (a1.more x hx), Nat.le_trans a1.len b1.len, fun x hx hx0 y hy => ?_⟩
    by_cases hxs : x ∈ visitK all k j s0
    · exact b1.more y (a1.closed x hxs hx0 y hy)
    · exact b1.closed x hx hxs y hy

theorem Path.lt {all : List (List Nat)} (hg : Good all) {i j : Nat} (hi : i < all.length) (h : Path all i j) : j < all.length := by
  cases h with
  | refl => exact hi
  | step _ hk => exact hg _ _ hk

theorem mem_reach (all : List (List Nat)) (hg : Good all) (i : Nat) (hi : i < all.length) (j : Nat) : j ∈ reach all i ↔ Path all i j := by
  obtain ⟨a1, a2, a3⟩ := visit_all all hg (all.length + 1) i [] hi (by simp) (by simp) (by simp)
  unfold reach
  rw [List.mem_filter]
  constructor
  · rintro ⟨_, h⟩
    rcases a3 j (by simpa using h) with h | h
    · simp at h
    · exact h
  · intro h
    refine ⟨by simpa using h.lt hg hi, ?_⟩
    have : j ∈ visitK all (all.length + 1) i [] := by
      induction h with
      | refl => exact a2
      | step _ hk ih => exact a1.closed _ ih (by simp) _ hk
    simpa using this

/-! ### what rules use -/

theorem find_lt {g : Gr} {s : Bs} {i : Nat} (h : find g s = some i) : i < g.length := (List.findIdx?_eq_some_iff_findIdx_eq.1 h).1

theorem good_uses (g : Gr) : Good (usesAll g) := by
  intro i j hj
  unfold usesAll at *
  rw [List.getD_eq_getElem?_getD, List.getElem?_map] at hj
  cases h : g[i]? with
  | none => simp [h] at hj
  | some r =>
    simp [h] at hj
    unfold uses at hj
    have := (List.mem_filter.1 hj).1
    simpa using this

theorem usesAll_length (g : Gr) : (usesAll g).length = g.length := by simp [usesAll]

theorem find_more {g : Gr} {s : Bs} {i : Nat} (h : find g s = some i) (r : Ru) : find (g ++ [r]) s = some i := by
  unfold find at *
  rw [List.findIdx?_append, h]
  rfl

theorem lostIn_none (g : Gr) : ∀ l : Gr, lostIn g l = none → ∀ r ∈ l, ∀ x ∈ refs r.body, ∃ i, find g x.1 = some i
  | [], _, r, hr, _, _ => by simp at hr
  | q :: l, h, r, hr, x, hx => by
    unfold lostIn at h
    cases hq : lost g q.body with
    | some y => simp [hq] at h
    | none =>
      simp only [hq] at h
      rcases List.mem_cons.1 hr with rfl | hr
      · unfold lost at hq
        have := List.find?_eq_none.1 hq x hx
        cases hf : find g x.1 with
        | none => simp [hf] at this
        | some i => exact ⟨i, rfl⟩
      · exact lostIn_none g l h r hr x hx

theorem check_refs {g : Gr} (h : check g = none) : ∀ r ∈ g, ∀ x ∈ refs r.body, ∃ i, find g x.1 = some i := by
  unfold check at h
  split at h
  · cases h
  · split at h
    · cases h
    · split at h
      · cases h
      · rename_i hl
        exact lostIn_none g g hl

theorem uses_more {g : Gr} {n : Nd} (r : Ru) (h : ∀ x ∈ refs n, ∃ i, find g x.1 = some i) : uses (g ++ [r]) n = uses g n := by
  unfold uses
  have e : ∀ i, ((refs n).any fun x => find (g ++ [r]) x.1 == some i) = ((refs n).any fun x => find g x.1 == some i) := by
    intro i
    rw [Bool.eq_iff_iff, List.any_eq_true, List.any_eq_true]
    constructor
    · rintro ⟨x, hx, hi⟩
      obtain ⟨k, hk⟩ := h x hx
      rw [find_more hk] at hi
      exact ⟨x, hx, by rw [hk]; exact hi⟩
    · rintro ⟨x, hx, hi⟩
      obtain ⟨k, hk⟩ := h x hx
      rw [hk] at hi
      exact ⟨x, hx, by rw [find_more hk]; exact hi⟩
  simp only [e, List.length_append, List.length_cons, List.length_nil, Nat.zero_add, List.range_succ, List.filter_append]
  have : ((refs n).any fun x => find g x.1 == some g.length) = false := by
    rw [List.any_eq_false]
    intro x hx hi
    obtain ⟨k, hk⟩ := h x hx
    rw [hk] at hi
    have := find_lt hk
    simp at hi
    omega
  simp [this]

theorem usesAll_more {g : Gr} (h : check g = none) (r : Ru) : usesAll (g ++ [r]) = usesAll g ++ [uses (g ++ [r]) r.body] := by
  unfold usesAll
  rw [List.map_append]
  congr 1
  refine List.map_congr_left fun q hq => uses_more r (check_refs h q hq)

theorem path_more {all : List (List Nat)} (hg : Good all) (u : List Nat) {i : Nat} (hi : i < all.length) {j : Nat} : Path (all ++ [u]) i j ↔ Path all i j := by
  have hget : ∀ k, k < all.length → (all ++ [u]).getD k [] = all.getD k [] := fun k hk => by
    rw [List.getD_eq_getElem?_getD, List.getD_eq_getElem?_getD, List.getElem?_append_left hk]
  constructor
  · intro h
    have h2 : Path all i j ∧ j < all.length := by
      induction h with
      | refl => exact ⟨.refl _, hi⟩
      | step _ hk ih =>
        rw [hget _ ih.2] at hk
        exact ⟨.step ih.1 hk, hg _ _ hk⟩
    exact h2.1
  · intro h
    induction h with
    | refl => exact .refl _
    | step h1 hk ih =>
      refine .step ih ?_
      rw [hget _ (h1.lt hg hi)]
      exact hk

theorem good_more {all : List (List Nat)} (hg : Good all) (u : List Nat) (hu : ∀ x ∈ u, x < all.length + 1) : Good (all ++ [u]) := by
  intro i j hj
  rw [List.getD_eq_getElem?_getD] at hj
  simp only [List.length_append, List.length_cons, List.length_nil]
  rcases Nat.lt_or_ge i all.length with h | h
  · rw [List.getElem?_append_left h, ← List.getD_eq_getElem?_getD] at hj
    have := hg i j hj
    omega
  · rw [List.getElem?_append_right h] at hj
    cases h2 : i - all.length with
    | zero =>
      simp [h2] at hj
      have := hu j hj
      omega
    | succ k => simp [h2] at hj

/-- the law of ScopeMore -/
theorem reach_more {g : Gr} (h : check g = none) (r : Ru) {i : Nat} (hi : i < g.length) : reach (usesAll (g ++ [r])) i = reach (usesAll g) i := by
  have hl := usesAll_length g
  have hG := good_uses g
  have hG2 := good_uses (g ++ [r])
  have hm1 := mem_reach (usesAll g) hG i (by omega)
  have hm2 := mem_reach (usesAll (g ++ [r])) hG2 i (by rw [usesAll_length]; simp; omega)
  rw [usesAll_more h r] at *
  generalize uses (g ++ [r]) r.body = u at *
  generalize usesAll g = all at *
  have e : ∀ j, (visitK (all ++ [u]) ((all ++ [u]).length + 1) i []).contains j = true ∧ j < all.length + 1 ↔ (visitK all (all.length + 1) i []).contains j = true ∧ j < all.length := by
    intro j
    have h1 := hm1 j
    have h2 := hm2 j
    rw [path_more hG u (by omega), ← h1] at h2
    unfold reach at h2
    rw [List.mem_filter, List.mem_filter] at h2
    simpa [and_comm] using h2
  unfold reach
  rw [show (all ++ [u]).length = all.length + 1 by simp, List.range_succ, List.filter_append]
  have hz : (visitK (all ++ [u]) (all.length + 1 + 1) i []).contains all.length = false := by
    have := e all.length
    rw [show (all ++ [u]).length = all.length + 1 by simp] at this
    cases hc : (visitK (all ++ [u]) (all.length + 1 + 1) i []).contains all.length with
    | false => rfl
    | true => have := this.1 ⟨hc, by omega⟩; omega
  rw [show [all.length].filter (fun j => (visitK (all ++ [u]) (all.length + 1 + 1) i []).contains j) = [] by simp [List.filter_cons]; simpa using hz, List.append_nil]
  refine List.filter_congr fun j hj => ?_
  have hj : j < all.length := by simpa using hj
  have := e j
  rw [show (all ++ [u]).length = all.length + 1 by simp] at this
  rw [Bool.eq_iff_iff]
  exact ⟨fun h => (this.1 ⟨h, by omega⟩).1, fun h => (this.2 ⟨h, hj⟩).1⟩

theorem reach_ne {g : Gr} {i : Nat} (hi : i < g.length) : reach (usesAll g) i ≠ [] := by
  intro h
  have := (mem_reach (usesAll g) (good_uses g) i (by rw [usesAll_length]; omega) i).2 (.refl i)
  rw [h] at this
  simp at this

end Go.Proofs.YtdmhjnnogcpccaaGreatDoor.Mu
end

section
namespace Go.Proofs.YtdmhjnnogcpccaaGreatDoor.Mu

def smallA : Bs := [97, 32, 60, 45, 32, 98, 32, 99, 32, 98, 32, 60, 45, 32, 99, 32, 99, 32, 60, 45, 32, 46, 32, 100, 32, 60, 45, 32, 97]
def smallB : Bs := [97, 32, 60, 45, 32, 120, 32, 47, 32, 121]
def smallG : Gr := [⟨[97], .mk 6 [] Cl.zero [.mk 5 [98] Cl.zero [] 5, .mk 5 [99] Cl.zero [] 7] 5, 0⟩, ⟨[98], .mk 5 [99] Cl.zero [] 14, 9⟩, ⟨[99], .mk 4 [] Cl.zero [] 21, 16⟩, ⟨[100], .mk 5 [97] Cl.zero [] 28, 23⟩]
def smallH : Gr := [⟨[97], .mk 7 [] Cl.zero [.mk 5 [120] Cl.zero [] 5, .mk 5 [121] Cl.zero [] 9] 5, 0⟩]

set_option maxRecDepth 100000 in
theorem smallA_parse : parse smallA = .ok smallG := by kernel_rfl
set_option maxRecDepth 100000 in
theorem smallB_parse : parse smallB = .ok smallH := by kernel_rfl

def textG : Bs := [97, 32, 60, 45, 32, 98, 32, 99, 10, 98, 32, 60, 45, 32, 99, 10, 99, 32, 60, 45, 32, 46, 10, 100, 32, 60, 45, 32, 97, 10]
def textH : Bs := [97, 32, 60, 45, 32, 120, 32, 47, 32, 121, 10]
def againG : Gr := [⟨[97], .mk 6 [] Cl.zero [.mk 5 [98] Cl.zero [] 5, .mk 5 [99] Cl.zero [] 7] 5, 0⟩, ⟨[98], .mk 5 [99] Cl.zero [] 14, 9⟩, ⟨[99], .mk 4 [] Cl.zero [] 21, 16⟩, ⟨[100], .mk 5 [97] Cl.zero [] 28, 23⟩]
def againH : Gr := [⟨[97], .mk 7 [] Cl.zero [.mk 5 [120] Cl.zero [] 5, .mk 5 [121] Cl.zero [] 9] 5, 0⟩]

theorem textG_rules : rulesT smallG [] = some textG := by
  simp [rulesT, smallG, exprT, partsT, partT, between, least, ahead, behindS, rank, Nd.kind, textG]
theorem textH_rules : rulesT smallH [] = some textH := by
  simp [rulesT, smallH, exprT, partsT, partT, between, least, ahead, behindS, rank, Nd.kind, textH]
set_option maxRecDepth 100000 in
theorem textG_parse : parse textG = .ok againG := by kernel_rfl
set_option maxRecDepth 100000 in
theorem textH_parse : parse textH = .ok againH := by kernel_rfl
theorem smallG_ok : (smallG.any fun r => !ruleOk r) = false := by
  simp [smallG, ruleOk, nodeOk, nodesOk, show isName [97] = true by decide, show isName [98] = true by decide, show isName [99] = true by decide, show isName [100] = true by decide]
theorem smallH_ok : (smallH.any fun r => !ruleOk r) = false := by
  simp [smallH, ruleOk, nodeOk, nodesOk, show isName [97] = true by decide, show isName [120] = true by decide, show isName [121] = true by decide]
theorem smallG_print : print smallG = .ok textG := by
  unfold print
  rw [if_neg (by rw [smallG_ok]; decide), textG_rules]
  simp only [textG_parse]
theorem smallH_print : print smallH = .ok textH := by
  unfold print
  rw [if_neg (by rw [smallH_ok]; decide), textH_rules]
  simp only [textH_parse]
theorem smallG_refs : smallG.map (fun r => refs r.body) = [[([98], 5), ([99], 7)], [([99], 14)], [], [([97], 28)]] := by
  simp [smallG, refs, refsL]
theorem smallH_refs : smallH.map (fun r => refs r.body) = [[([120], 5), ([121], 9)]] := by
  simp [smallH, refs, refsL]
theorem smallG_lost : lostIn smallG smallG = none := by
  simp [lostIn, lost, smallG, refs, refsL, find, List.findIdx?_cons]
theorem smallH_lost : lostIn smallH smallH = some ([120], 5) := by
  simp [lostIn, lost, smallH, refs, refsL, find, List.findIdx?_cons]
theorem smallG_double : double smallG smallG 0 = none := by
  simp [double, smallG, find, List.findIdx?_cons]
theorem smallH_double : double smallH smallH 0 = none := by
  simp [double, smallH, find, List.findIdx?_cons]
theorem smallG_check : check smallG = none := by
  unfold check
  simp only [smallG_print, smallG_double, smallG_lost]
theorem smallH_check : check smallH = some (.at ⟨31, 5⟩) := by
  unfold check
  simp only [smallH_print, smallH_double, smallH_lost]
theorem smallG_uses : usesAll smallG = [[1, 2], [2], [], [0]] := by
  simp [usesAll, smallG, uses, refs, refsL, find, List.findIdx?_cons, List.range, List.range.loop]
theorem smallG_reach : reach (usesAll smallG) 0 = [0, 1, 2] := by
  rw [smallG_uses]
  kernel_rfl
end Go.Proofs.YtdmhjnnogcpccaaGreatDoor.Mu
end
