/- Conditions as trees; the tokens of a text; what tokens say: a condition, or where it is wrong. No program in sight. -/
import Derived.Test.YtfhdecdlkmibmaaDoorStr
namespace Go.Proofs.YtfhdecdlkmibmaaDoor
inductive CT where
  | node (kind n : Int) (s : List UInt8) (parts : List CT)
def CT.kind : CT → Int | .node k _ _ _ => k
def CT.num : CT → Int | .node _ n _ _ => n
def CT.str : CT → List UInt8 | .node _ _ s _ => s
def CT.parts : CT → List CT | .node _ _ _ p => p
/-- a token: its sort, its text, where it begins; is it a minus that a digit stands right behind? -/
structure Tok where
  sort : Nat
  text : List UInt8
  pos : Nat
  dig : Bool
abbrev Toks := List Tok
def isDig (c : UInt8) : Bool := 48 ≤ c && c ≤ 57
def isLet (c : UInt8) : Bool := c == 95 || (97 ≤ c && c ≤ 122)
def isWrd (c : UInt8) : Bool := isDig c || isLet c
def isQuo (c : UInt8) : Bool := 32 ≤ c && c ≤ 126 && !(c == 39)
def spanN (p : UInt8 → Bool) (l : List UInt8) : Nat := (l.takeWhile p).length
def marks1 : List UInt8 := [61, 60, 62, 43, 45, 42, 40, 41, 91, 93, 44]
def two (t : List UInt8) : Bool := t.take 2 == [60, 61] || t.take 2 == [62, 61] || t.take 2 == [33, 61]
/-- the token at the head of a text that begins with no blank: its sort, its text, how many bytes it takes -/
def tokH (t : List UInt8) : Nat × List UInt8 × Nat := match t with
  | [] => (1, [], 0)
  | c :: r =>
    if isDig c then (4, t.take (spanN isDig t), spanN isDig t)
    else if isLet c then (3, t.take (spanN isWrd t), spanN isWrd t)
    else if c == 39 then
      if r[spanN isQuo r]? = some 39 then (5, r.take (spanN isQuo r), spanN isQuo r + 2) else (0, [], 1)
    else if two t then (2, t.take 2, 2)
    else if marks1.contains c then (2, [c], 1)
    else (0, [], 1)
def blankN (t : List UInt8) : Nat := spanN (fun c => c == 32) t
def minusL : List UInt8 := [45]
def digAt (t : List UInt8) : Bool := match t with | c :: _ => isDig c | [] => false
/-- the token that comes at a place -/
def tokAt (p : Nat) (t : List UInt8) : Tok :=
  ⟨(tokH (t.drop (blankN t))).1, (tokH (t.drop (blankN t))).2.1, p + blankN t, (tokH (t.drop (blankN t))).1 == 2 && (tokH (t.drop (blankN t))).2.1 == minusL && digAt ((t.drop (blankN t)).drop (tokH (t.drop (blankN t))).2.2)⟩
/-- how many bytes it takes, the blanks ahead of it, too -/
def tokN (t : List UInt8) : Nat := blankN t + (tokH (t.drop (blankN t))).2.2
/-- the tokens from a place on, up to the end or a sign that is none -/
def lexF : Nat → Nat → List UInt8 → Toks
  | 0, _, _ => []
  | f + 1, p, t => tokAt p t :: if (tokAt p t).sort ≤ 1 then [] else lexF f (p + tokN t) (t.drop (tokN t))
def lex (p : Nat) (t : List UInt8) : Toks := lexF (t.length + 1) p t
/-- the words that are no names -/
def wordsL : List (List UInt8) := [[97, 110, 100], [111, 114], [110, 111, 116], [105, 110], [116, 114, 117, 101], [102, 97, 108, 115, 101]]
def isNameC (t : List UInt8) : Bool := isName t && !digAt t && !t.contains 45 && !wordsL.contains t
def decVal (t : List UInt8) : Nat := t.foldl (fun a c => a * 10 + (c.toNat - 48)) 0
def mostN : Nat := 1000000000000000
def numG (t : List UInt8) (least : Nat) : Option Nat := if least ≤ decVal t ∧ decVal t ≤ mostN ∧ (t.length = 1 ∨ t.head? ≠ some 48) then some (decVal t) else none
/-- what tokens say: a condition and the tokens behind it; or the place at which they are wrong -/
abbrev Res := Except Nat (CT × Toks)
def posT (l : Toks) : Nat := match l with | t :: _ => t.pos | [] => 0
/-- does a sign or a word come? -/
def isT (l : Toks) (s : List UInt8) : Bool := match l with | t :: _ => (t.sort == 2 || t.sort == 3) && t.text == s | [] => false
def isW (l : Toks) (s : List UInt8) : Bool := match l with | t :: _ => t.sort == 3 && t.text == s | [] => false
def leaf (k n : Int) (s : List UInt8) : CT := .node k n s []
def pairC (k : Int) (a b : CT) : CT := .node k 0 [] [a, b]
def notC (a : CT) : CT := .node 6 0 [] [a]
def openL : List UInt8 := [40]
def closeL : List UInt8 := [41]
def trueL : List UInt8 := [116, 114, 117, 101]
def falseL : List UInt8 := [102, 97, 108, 115, 101]
def notL : List UInt8 := [110, 111, 116]
def inL : List UInt8 := [105, 110]
def andL : List UInt8 := [97, 110, 100]
def orL : List UInt8 := [111, 114]
/-- a unit; sub: what stands in brackets, if there may be any -/
def gUnit (sub : Option (Toks → Res)) (l : Toks) : Res := match l with
  | [] => .error 0
  | t :: r =>
    if t.sort = 4 then match numG t.text 0 with | some n => .ok (leaf 3 n [], r) | none => .error t.pos
    else if t.sort = 5 then .ok (leaf 4 0 t.text, r)
    else if t.sort = 2 ∧ t.text = minusL ∧ t.dig = true then match numG (r.headD ⟨0, [], 0, false⟩).text 1 with | some n => .ok (leaf 3 (-n) [], r.tail) | none => .error (posT r)
    else if isT l trueL then .ok (leaf 1 0 [], r)
    else if isT l falseL then .ok (leaf 2 0 [], r)
    else if t.sort = 3 ∧ isNameC t.text = true then .ok (leaf 5 0 t.text, r)
    else match sub with
      | none => .error t.pos
      | some G => if isT l openL then match G r with
          | .error e => .error e
          | .ok (c, m) => if isT m closeL then .ok (c, m.tail) else .error (posT m)
        else .error t.pos
def timesL (unit : Toks → Res) : Nat → CT → Toks → Res
  | 0, a, l => .ok (a, l)
  | f + 1, a, l => if isT l [42] then match unit l.tail with
      | .error e => .error e
      | .ok (b, m) => timesL unit f (pairC 14 a b) m
    else .ok (a, l)
def gTimes (unit : Toks → Res) (l : Toks) : Res := match unit l with
  | .error e => .error e
  | .ok (a, m) => timesL unit (m.length + 1) a m
def sumL (times : Toks → Res) : Nat → CT → Toks → Res
  | 0, a, l => .ok (a, l)
  | f + 1, a, l => if isT l [43] then match times l.tail with
      | .error e => .error e
      | .ok (b, m) => sumL times f (pairC 12 a b) m
    else if isT l [45] then match times l.tail with
      | .error e => .error e
      | .ok (b, m) => sumL times f (pairC 13 a b) m
    else .ok (a, l)
def gSum (times : Toks → Res) (l : Toks) : Res := match times l with
  | .error e => .error e
  | .ok (a, m) => sumL times (m.length + 1) a m
/-- the parts of a list, in square brackets -/
def inLp (sum : Toks → Res) : Nat → List CT → Toks → Except Nat (List CT × Toks)
  | 0, acc, l => .ok (acc, l)
  | f + 1, acc, l => match sum l with
    | .error e => .error e
    | .ok (b, m) => if isT m [44] then inLp sum f (acc ++ [b]) m.tail else .ok (acc ++ [b], m)
def heldB (sum : Toks → Res) (l : Toks) (mk : CT → CT) : Res := match sum l with
  | .error e => .error e
  | .ok (b, m) => .ok (mk b, m)
def gHeld (sum : Toks → Res) (l : Toks) : Res := match sum l with
  | .error e => .error e
  | .ok (a, m) =>
    if isT m [61] then heldB sum m.tail fun b => pairC 9 a b
    else if isT m [33, 61] then heldB sum m.tail fun b => notC (pairC 9 a b)
    else if isT m [60] then heldB sum m.tail fun b => pairC 10 a b
    else if isT m [60, 61] then heldB sum m.tail fun b => pairC 11 a b
    else if isT m [62] then heldB sum m.tail fun b => pairC 10 b a
    else if isT m [62, 61] then heldB sum m.tail fun b => pairC 11 b a
    else if isT m inL then
      if isT m.tail [91] then match inLp sum (m.length + 1) [a] m.tail.tail with
        | .error e => .error e
        | .ok (ps, q) => if isT q [93] then .ok (.node 15 0 [] ps, q.tail) else .error (posT q)
      else .error (posT m.tail)
    else .ok (a, m)
def gNo (held : Toks → Res) : Nat → Toks → Res
  | 0, l => held l
  | f + 1, l => if isT l notL then match gNo held f l.tail with
      | .error e => .error e
      | .ok (c, m) => .ok (notC c, m)
    else held l
def flatC (k : Int) (c : CT) : List CT := if c.kind = k then c.parts else [c]
def rowL (one : Toks → Res) (w : List UInt8) (k : Int) : Nat → List CT → Toks → Res
  | 0, acc, l => .ok (.node k 0 [] acc, l)
  | f + 1, acc, l => if isT l w then match one l.tail with
      | .error e => .error e
      | .ok (c, m) => rowL one w k f (acc ++ flatC k c) m
    else .ok (.node k 0 [] acc, l)
def gRow (one : Toks → Res) (w : List UInt8) (k : Int) (l : Toks) : Res := match one l with
  | .error e => .error e
  | .ok (c, m) => if isW m w then rowL one w k (m.length + 1) (flatC k c) m else .ok (c, m)
def gCondOf (unit : Toks → Res) : Toks → Res :=
  gRow (gRow (fun l => gNo (gHeld (gSum (gTimes unit))) l.length l) andL 7) orL 8
/-- d brackets may stand within one another -/
def gUnitD : Nat → Toks → Res
  | 0 => gUnit none
  | d + 1 => gUnit (some (gCondOf (gUnitD d)))
def gCond (d : Nat) : Toks → Res := gCondOf (gUnitD d)
mutual
def CT.size : CT → Nat
  | .node _ _ _ ps => 1 + sizeLc ps
def sizeLc : List CT → Nat
  | [] => 0
  | c :: l => c.size + sizeLc l
end
/-- a text's condition: (condition, place, error) -/
def parseC (s : List UInt8) : CT × Nat × Int :=
  if 4096 < s.length then (leaf 0 0 [], 0, 10)
  else match gCond 8 (lex 0 s) with
    | .error e => (leaf 0 0 [], e, 9)
    | .ok (c, l) => match l with
      | t :: _ => if t.sort = 1 then (if 256 < c.size then (leaf 0 0 [], 0, 10) else (c, 0, 0)) else (leaf 0 0 [], t.pos, 9)
      | [] => (leaf 0 0 [], 0, 9)
end Go.Proofs.YtfhdecdlkmibmaaDoor
