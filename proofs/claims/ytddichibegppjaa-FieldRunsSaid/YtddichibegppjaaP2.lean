/- The reference's reader of expressions, as functions. -/
import Derived.Test.YtddichibegppjaaVn
set_option linter.unusedSimpArgs false
set_option linter.unusedVariables false
namespace Go.Proofs.Ytddichibegppjaa
open Go Go.VC

/-- A tree. -/
inductive Re where
  | node (op set : List UInt8) (kids : List Re) (lo hi : Int)
def Re.zero : Re := .node [] [] [] 0 0
def opSet : List UInt8 := [115, 101, 116]
def opBol : List UInt8 := [98, 111, 108]
def opEol : List UInt8 := [101, 111, 108]
def opCat : List UInt8 := [99, 97, 116]
def opAlt : List UInt8 := [97, 108, 116]
def opRep : List UInt8 := [114, 101, 112]

/-- Where the reader stands. -/
structure S3 where
  i : Nat
  f : Int
  d : Int

def more3 (l : List UInt8) (s : S3) : Bool := s.f == 0 && decide ((s.i : Int) < (l.length : Int))
def S3.fail (s : S3) (k : Int) : S3 := if s.f = 0 then { s with f := k } else s
def S3.on (s : S3) (n : Nat := 1) : S3 := { s with i := s.i + n }
abbrev byteAt (l : List UInt8) (i : Nat) : UInt8 := l.getD i 0

def digs (a b : UInt8) (c : UInt8) : Bool := decide (a.toNat ≤ c.toNat) && decide (c.toNat ≤ b.toNat)
/-- Up to k octal digits. -/
def oct3 (l : List UInt8) : Nat → Nat → Nat → Nat × Nat
  | 0, i, n => (n, i)
  | k + 1, i, n => if decide (i < l.length) && digs 48 55 (byteAt l i) then oct3 l k (i + 1) (8 * n + ((byteAt l i).toNat - 48)) else (n, i)
def escMap (c : UInt8) : UInt8 := if c == 97 then 7 else if c == 98 then 8 else if c == 102 then 12 else if c == 110 then 10 else if c == 114 then 13 else if c == 116 then 9 else if c == 118 then 11 else c
def escape3 (l : List UInt8) (s : S3) : UInt8 × S3 :=
  if more3 l s.on then
    if digs 48 55 (byteAt l (s.i + 1)) then (UInt8.ofNat ((oct3 l 3 (s.i + 1) 0).1 % 256), { s with i := (oct3 l 3 (s.i + 1) 0).2 })
    else (escMap (byteAt l (s.i + 1)), s.on 2)
  else (0, (s.on).fail 4)

def up3 (c : Int) : Bool := decide (c ≥ 65) && decide (c ≤ 90)
def low3 (c : Int) : Bool := decide (c ≥ 97) && decide (c ≤ 122)
def dig3 (c : Int) : Bool := decide (c ≥ 48) && decide (c ≤ 57)
def nAlpha : List UInt8 := [97, 108, 112, 104, 97]
def nDigit : List UInt8 := [100, 105, 103, 105, 116]
def nAlnum : List UInt8 := [97, 108, 110, 117, 109]
def nUpper : List UInt8 := [117, 112, 112, 101, 114]
def nLower : List UInt8 := [108, 111, 119, 101, 114]
def nSpace : List UInt8 := [115, 112, 97, 99, 101]
def nBlank : List UInt8 := [98, 108, 97, 110, 107]
def nPunct : List UInt8 := [112, 117, 110, 99, 116]
def nPrint : List UInt8 := [112, 114, 105, 110, 116]
def nGraph : List UInt8 := [103, 114, 97, 112, 104]
def nCntrl : List UInt8 := [99, 110, 116, 114, 108]
def nXdigit : List UInt8 := [120, 100, 105, 103, 105, 116]
/-- Is a byte of a class? -/
def in3 (n : List UInt8) (c : Int) : Bool × Bool :=
  if n == nAlpha then (up3 c || low3 c, true) else if n == nDigit then (dig3 c, true) else if n == nAlnum then (up3 c || low3 c || dig3 c, true)
  else if n == nUpper then (up3 c, true) else if n == nLower then (low3 c, true) else if n == nSpace then ((decide (c ≥ 9) && decide (c ≤ 13)) || c == 32, true)
  else if n == nBlank then (c == 9 || c == 32, true) else if n == nPunct then (decide (c ≥ 33) && decide (c ≤ 126) && !up3 c && !low3 c && !dig3 c, true)
  else if n == nPrint then (decide (c ≥ 32) && decide (c ≤ 126), true) else if n == nGraph then (decide (c ≥ 33) && decide (c ≤ 126), true)
  else if n == nCntrl then (decide (c ≤ 31) || c == 127, true)
  else if n == nXdigit then (dig3 c || (decide (c ≥ 97) && decide (c ≤ 102)) || (decide (c ≥ 65) && decide (c ≤ 70)), true)
  else (false, false)

/-- A class's end: where ":]" stands. -/
def clEnd (l : List UInt8) : Nat → Nat → Nat
  | 0, e => e
  | k + 1, e => if decide (e + 1 < l.length) && !(byteAt l e == 58 && byteAt l (e + 1) == 93) then clEnd l k (e + 1) else e
/-- A class, put into a set. -/
def clPut (n : List UInt8) (set : List Bool) : List Bool := set.zipIdx.map fun (b, k) => b || (in3 n k).1
/-- An item of a set. -/
def item3 (l : List UInt8) (s : S3) (set : List Bool) : (UInt8 × Bool) × List Bool × S3 :=
  if byteAt l s.i == 91 && decide (s.i + 1 < l.length) && byteAt l (s.i + 1) == 58 then
    let e := clEnd l l.length (s.i + 2)
    if e + 1 ≥ l.length then ((0, false), set, s.fail 2)
    else
      let n := (l.drop (s.i + 2)).take (e - (s.i + 2))
      if (in3 n 0).2 then ((0, false), clPut n set, { s with i := e + 2 }) else ((0, false), set, s.fail 2)
  else if byteAt l s.i == 92 then (((escape3 l s).1, true), set, (escape3 l s).2)
  else ((byteAt l s.i, true), set, s.on)

/-- From one to another one. -/
def putR (set : List Bool) (lo hi : Nat) : List Bool := set.zipIdx.map fun (b, k) => b || (decide (lo ≤ k) && decide (k ≤ hi))
def noSet : List Bool := List.replicate 256 false
/-- The items: the set, or none and a fault; nothing where the fuel is out. -/
def items3 (l : List UInt8) : Nat → Bool → List Bool → S3 → Option (Option (List Bool) × S3)
  | 0, _, _, _ => none
  | k + 1, first, set, s =>
    if s.f ≠ 0 then some (none, s)
    else if (s.i : Int) ≥ l.length then some (none, s.fail 2)
    else if byteAt l s.i == 93 && !first then some (some set, s.on)
    else
      let r := item3 l s set
      let s1 := r.2.2
      if s1.f ≠ 0 then some (none, s1)
      else if decide ((s1.i : Int) + 1 < l.length) && byteAt l s1.i == 45 && !(byteAt l (s1.i + 1) == 93) then
        if !r.1.2 then some (none, s1.fail 2)
        else
          let q := item3 l s1.on noSet
          let s2 := q.2.2
          if s2.f ≠ 0 then some (none, s2)
          else if !q.1.2 || decide ((r.1.1.toNat : Int) > q.1.1.toNat) then some (none, s2.fail 2)
          else items3 l k false (putR r.2.1 r.1.1.toNat q.1.1.toNat) s2
      else items3 l k false (if r.1.2 then r.2.1.set r.1.1.toNat true else r.2.1) s1

/-- What is in a set, or is not, as bytes. -/
def bytesOf (set : List Bool) (not : Bool) : List UInt8 := (List.range 256).filterMap fun k => if set.getD k false != not then some (UInt8.ofNat k) else none

/-- Digits: the number, whether there is one, where they end. -/
def num3 (l : List UInt8) : Nat → Nat → Int → Bool → (Int × Bool) × Nat
  | 0, i, n, b => ((n, b), i)
  | k + 1, i, n, b => if decide (i < l.length) && digs 48 57 (byteAt l i) then num3 l k (i + 1) (min (10 * n + ((byteAt l i).toNat - 48 : Int)) 1000) true else ((n, b), i)

def bracket3 (l : List UInt8) (s : S3) : Option (Re × S3) :=
  let s1 := s.on
  let not := more3 l s1 && byteAt l s1.i == 94
  let s2 := if not then s1.on else s1
  match items3 l (l.length + 2) true noSet s2 with
  | none => none
  | some (none, s3) => some (Re.zero, s3)
  | some (some set, s3) => some (.node opSet (bytesOf set not) [] 0 0, s3)

def digit3 (l : List UInt8) (s : S3) : (Int × Bool) × S3 := ((num3 l l.length s.i 0 false).1, { s with i := (num3 l l.length s.i 0 false).2 })
/-- The bounds of a repeat, where one stands. -/
def repeat3 (l : List UInt8) (s : S3) : (Int × Int × Bool) × S3 :=
  if !more3 l s then ((0, 0, false), s)
  else if byteAt l s.i == 42 then ((0, -1, true), s.on)
  else if byteAt l s.i == 43 then ((1, -1, true), s.on)
  else if byteAt l s.i == 63 then ((0, 1, true), s.on)
  else if byteAt l s.i == 123 then
    if decide ((s.i : Int) + 1 ≥ l.length) || !digs 48 57 (byteAt l (s.i + 1)) then ((0, 0, false), s)
    else
      let p := digit3 l s.on
      let m := p.1.1
      let s1 := p.2
      let comma := decide ((s1.i : Int) < l.length) && byteAt l s1.i == 44
      let q := digit3 l s1.on
      let n := if comma then (if q.1.2 then q.1.1 else -1) else m
      let s2 := if comma then q.2 else s1
      if decide ((s2.i : Int) ≥ l.length) || !(byteAt l s2.i == 125) || decide (m > 255) || decide (n > 255) || (decide (n ≥ 0) && decide (m > n)) then ((0, 0, false), s2.fail 3)
      else ((m, n, true), s2.on)
  else ((0, 0, false), s)

def allBytes : List UInt8 := (List.range 256).map UInt8.ofNat

/-- Repeats behind an atom. -/
def reps3 (l : List UInt8) : Nat → Re → S3 → Option (Re × S3)
  | 0, _, _ => none
  | k + 1, e, s =>
    if s.f ≠ 0 then some (e, s)
    else
      let r := repeat3 l s
      if !r.1.2.2 then some (e, r.2)
      else reps3 l k (.node opRep [] [e] r.1.1 r.1.2.1) r.2

mutual
def atom3 (l : List UInt8) : Nat → S3 → Option (Re × S3)
  | 0, _ => none
  | k + 1, s =>
    let c := byteAt l s.i
    if c == 40 then
      if s.d ≥ 100 then some (Re.zero, s.fail 1)
      else match branches3 l k { s with i := s.i + 1, d := s.d + 1 } with
        | none => none
        | some (e, s1) =>
          let s2 : S3 := { s1 with d := s1.d - 1 }
          let s3 : S3 := if s2.f == 0 && decide ((s2.i : Int) ≥ (l.length : Int)) then s2.fail 1 else s2
          some (e, s3.on)
    else if c == 46 then some (.node opSet allBytes [] 0 0, s.on)
    else if c == 94 then some (.node opBol [] [] 0 0, s.on)
    else if c == 36 then some (.node opEol [] [] 0 0, s.on)
    else if c == 91 then bracket3 l s
    else if c == 92 then some (.node opSet [(escape3 l s).1] [] 0 0, (escape3 l s).2)
    else some (.node opSet [c] [] 0 0, s.on)
def piece3 (l : List UInt8) : Nat → List Re → S3 → Option (Option (List Re) × S3)
  | 0, _, _ => none
  | k + 1, es, s =>
    if more3 l s && !(byteAt l s.i == 124) && !(byteAt l s.i == 41) then
      let r := repeat3 l s
      let s1 := if r.1.2.2 then r.2.fail 3 else r.2
      if s1.f ≠ 0 then some (none, s1)
      else match atom3 l k s1 with
        | none => none
        | some (e, s2) => match reps3 l (l.length + 2) e s2 with
          | none => none
          | some (e', s3) => piece3 l k (es ++ [e']) s3
    else some (some es, s)
def branch3 (l : List UInt8) : Nat → List Re → S3 → Option (List Re × S3)
  | 0, _, _ => none
  | k + 1, es, s =>
    if more3 l s && byteAt l s.i == 124 then
      match pieces3 l k s.on with
      | none => none
      | some (e, s1) => branch3 l k (es ++ [e]) s1
    else some (es, s)
def pieces3 (l : List UInt8) : Nat → S3 → Option (Re × S3)
  | 0, _ => none
  | k + 1, s => match piece3 l k [] s with
    | none => none
    | some (none, s1) => some (Re.zero, s1)
    | some (some [e], s1) => some (e, s1)
    | some (some es, s1) => some (.node opCat [] es 0 0, s1)
def branches3 (l : List UInt8) : Nat → S3 → Option (Re × S3)
  | 0, _ => none
  | k + 1, s => match pieces3 l k s with
    | none => none
    | some (e, s1) => match branch3 l k [e] s1 with
      | none => none
      | some ([e], s2) => some (e, s2)
      | some (es, s2) => some (.node opAlt [] es 0 0, s2)
end
end Go.Proofs.Ytddichibegppjaa
