/- How a condition is written: pieces, tokens and blanks between. No program in sight. -/
import Derived.Test.YtfhdecdlkmibmaaDoorC1
import Derived.Lib.ItoaNum
namespace Go.Proofs.YtfhdecdlkmibmaaDoor
/-- what a token is, wherever it stands -/
abbrev Key := Nat × List UInt8 × Bool
def Tok.key (t : Tok) : Key := (t.sort, t.text, t.dig)
/-- a piece of a text: a token, or a blank -/
abbrev Piece := Option Key
def pieceT : Piece → List UInt8
  | none => [32]
  | some (k, x, _) => if k = 5 then 39 :: x ++ [39] else x
def textP (l : List Piece) : List UInt8 := l.flatMap pieceT
def keysP (l : List Piece) : List Key := l.filterMap id
def mk (s : List UInt8) : Piece := some (2, s, false)
def wd (s : List UInt8) : Piece := some (3, s, false)
def rankC (c : CT) : Nat :=
  if c.kind = 8 then 1 else if c.kind = 7 then 2
  else if c.kind = 6 then (match c.parts with | [p] => if p.kind = 9 then 4 else 3 | _ => 3)
  else if c.kind = 9 ∨ c.kind = 10 ∨ c.kind = 11 ∨ c.kind = 15 then 4
  else if c.kind = 12 ∨ c.kind = 13 then 5 else if c.kind = 14 then 6 else 7
def plainC (c : CT) : Bool := c.num == 0 && c.str.isEmpty
def rightC (c : CT) : Bool :=
  if c.kind = 1 ∨ c.kind = 2 then c.parts.isEmpty && plainC c
  else if c.kind = 3 then c.parts.isEmpty && c.str.isEmpty && decide (-1000000000000000 ≤ c.num) && decide (c.num ≤ 1000000000000000)
  else if c.kind = 4 then c.parts.isEmpty && c.num == 0 && c.str.all isQuo
  else if c.kind = 5 then c.parts.isEmpty && c.num == 0 && isNameC c.str
  else if c.kind = 6 then decide (c.parts.length = 1) && plainC c
  else if c.kind = 7 ∨ c.kind = 8 then decide (2 ≤ c.parts.length) && plainC c && !c.parts.any fun p => p.kind == c.kind
  else if c.kind = 15 then decide (2 ≤ c.parts.length) && plainC c
  else if 9 ≤ c.kind ∧ c.kind ≤ 14 then decide (c.parts.length = 2) && plainC c
  else false
def unlikeC (c : CT) : Bool := c.kind == 6 && match c.parts with | [p] => p.kind == 9 && decide (p.parts.length = 2) && plainC p | _ => false
abbrev Wr := Nat → CT → Option (List Piece)
/-- a part, in brackets if it holds together more loosely than it has to; d brackets may still be opened -/
def partW (cond : Wr) (d least : Nat) (c : CT) : Option (List Piece) :=
  if least ≤ rankC c then cond d c else match d with
    | 0 => none
    | d + 1 => (cond d c).map fun x => mk openL :: x ++ [mk closeL]
/-- parts with something between -/
def partsW (cond : Wr) (d least : Nat) (sep : List Piece) : List CT → Option (List Piece)
  | [] => some []
  | [c] => partW cond d least c
  | c :: l => match partW cond d least c with
    | none => none
    | some x => (partsW cond d least sep l).map fun y => x ++ sep ++ y
def twoW (cond : Wr) (d l1 l2 : Nat) (sep : List Piece) (ps : List CT) : Option (List Piece) := match ps with
  | [a, b] => match partW cond d l1 a with
    | none => none
    | some x => (partW cond d l2 b).map fun y => x ++ sep ++ y
  | _ => none
def spc (s : Piece) : List Piece := [none, s, none]
def decL (n : Nat) : List UInt8 := Lib.decDigits n
def numP (n : Int) : List Piece := if n < 0 then [some (2, minusL, true), some (4, decL n.natAbs, false)] else [some (4, decL n.natAbs, false)]
def stepW (cond : Wr) (d : Nat) (c : CT) : Option (List Piece) :=
  if rightC c = false then none
  else if unlikeC c = true then partsW cond d 5 (spc (mk [33, 61])) (c.parts.headD (leaf 0 0 [])).parts
  else if c.kind = 1 then some [wd trueL]
  else if c.kind = 2 then some [wd falseL]
  else if c.kind = 3 then some (numP c.num)
  else if c.kind = 4 then some [some (5, c.str, false)]
  else if c.kind = 5 then some [wd c.str]
  else if c.kind = 6 then (partW cond d 3 (c.parts.headD (leaf 0 0 []))).map fun x => wd notL :: none :: x
  else if c.kind = 8 then partsW cond d 2 (spc (wd orL)) c.parts
  else if c.kind = 7 then partsW cond d 3 (spc (wd andL)) c.parts
  else if c.kind = 15 then match partW cond d 5 (c.parts.headD (leaf 0 0 [])) with
    | none => none
    | some x => (partsW cond d 5 [mk [44], none] c.parts.tail).map fun y => x ++ [none, wd inL, none, mk [91]] ++ y ++ [mk [93]]
  else if c.kind = 9 then partsW cond d 5 (spc (mk [61])) c.parts
  else if c.kind = 10 then partsW cond d 5 (spc (mk [60])) c.parts
  else if c.kind = 11 then partsW cond d 5 (spc (mk [60, 61])) c.parts
  else if c.kind = 13 then twoW cond d 5 6 (spc (mk minusL)) c.parts
  else if c.kind = 14 then twoW cond d 6 7 (spc (mk [42])) c.parts
  else twoW cond d 5 6 (spc (mk [43])) c.parts
/-- a condition's pieces -/
def condW : Nat → Wr
  | 0 => fun _ _ => none
  | f + 1 => stepW (condW f)
def printP (c : CT) : Option (List Piece) := partW (condW c.size) 8 0 c
/-- a condition's text: (text, error) -/
def printC (c : CT) : List UInt8 × Int :=
  if 256 < c.size then ([], 9) else match printP c with
    | none => ([], 9)
    | some ps => if 4096 < (textP ps).length then ([], 9) else (textP ps, 0)
end Go.Proofs.YtfhdecdlkmibmaaDoor
