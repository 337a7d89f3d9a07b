/-
  Rule files in plain terms: tokens, and what they are read as. No program in sight.
-/
import Derived.Test.YtblkgjdhaibhgaaRulQ
namespace Go.Proofs.Ytblkgjdhaibhgaa
open Go.RowKit

abbrev Bs := List UInt8
def isPn (c : UInt8) : Bool := decide (c.toNat = 40 ∨ c.toNat = 41 ∨ c.toNat = 59 ∨ c.toNat = 58 ∨ c.toNat = 44)
def isSp (c : UInt8) : Bool := decide (c.toNat = 32 ∨ c.toNat = 9 ∨ c.toNat = 10 ∨ c.toNat = 13)
def isLw (c : UInt8) : Bool := decide (97 ≤ c.toNat ∧ c.toNat ≤ 122)
/-- Does a comment begin here? -/
def isCm : Bs → Bool
  | a :: b :: _ => decide (a.toNat = 47 ∧ b.toNat = 47)
  | _ => false
def wordCh (c : UInt8) : Bool := decide (33 ≤ c.toNat ∧ c.toNat ≤ 126) && !isPn c
/-- The length of the word, of the comment that begins here. -/
def wlen : Bs → Nat
  | [] => 0
  | c :: r => if wordCh c && !isCm (c :: r) then wlen r + 1 else 0
def clen : Bs → Nat
  | [] => 0
  | c :: r => if c.toNat = 10 then 0 else clen r + 1
/-- A token: its bytes, where it begins, whether it is none. -/
structure Tok where
  s : Bs
  pos : Nat
  bad : Bool
def tokL : Nat → Bs → Nat → List Tok
  | 0, _, o => [⟨[], o, true⟩]
  | _ + 1, [], o => [⟨[], o, true⟩]
  | f + 1, c :: r, o =>
    if isSp c then tokL f r (o + 1)
    else if isCm (c :: r) then tokL f ((c :: r).drop (clen (c :: r))) (o + clen (c :: r))
    else if isPn c || decide (c.toNat < 33) || decide (126 < c.toNat) then ⟨[c], o, !isPn c⟩ :: tokL f r (o + 1)
    else ⟨(c :: r).take (wlen (c :: r)), o, false⟩ :: tokL f ((c :: r).drop (wlen (c :: r))) (o + wlen (c :: r))
def toksF (s : Bs) : List Tok := tokL (s.length + 1) s 0
/-- The tokens ahead of the first that is none; where that one begins. -/
def goodT : List Tok → List (Bs × Nat)
  | [] => []
  | t :: l => if t.bad then [] else (t.s, t.pos) :: goodT l
def finT : List Tok → Nat
  | [] => 0
  | t :: l => if t.bad then t.pos else finT l

/-! Words -/
def findB : Bs → UInt8 → Nat → Option Nat
  | [], _, _ => none
  | x :: l, c, i => if x = c then some i else findB l c (i + 1)
/-- The number of a variable; new ones are added on the left side only. -/
def lookF (l : Bs) (c : UInt8) (left : Bool) : Nat × Bs :=
  match findB l c 0 with
  | some i => (i + 1, l)
  | none => if left then (l.length + 1, l ++ [c]) else (0, l)
def varF (s : Bs) (c : Nat) (l : Bs) (left : Bool) : Nat × Bs :=
  match s with
  | [a, b] => if a.toNat = c ∧ isLw b = true then lookF l b left else (0, l)
  | _ => (0, l)
def isDg (c : UInt8) : Bool := decide (48 ≤ c.toNat ∧ c.toNat ≤ 57)
def digF (l : Bs) (n : Nat) : Nat := l.foldl (fun n c => 10 * n + (c.toNat - 48)) n
/-- A number. -/
def decF (s : Bs) : Option Int :=
  let neg := decide (s.head? = some 45)
  let t := if neg then s.tail else s
  if t.length < 1 ∨ t.length > 19 ∨ (t.head? = some 48 ∧ (t.length > 1 ∨ neg = true)) then none
  else if t.all isDg then
    if digF t 0 > (if neg then 9223372036854775808 else 9223372036854775807) then none else some (if neg then -(digF t 0 : Int) else digF t 0)
  else none
def nameL : List Bs :=
  [[97, 100, 100],
  [115, 117, 98],
  [109, 117, 108],
  [100, 105, 118],
  [114, 101, 109],
  [97, 110, 100],
  [111, 114],
  [120, 111, 114],
  [115, 104, 108],
  [115, 104, 114],
  [115, 97, 114],
  [101, 113],
  [110, 101],
  [108, 116],
  [108, 101],
  [108, 116, 117],
  [110, 101, 103],
  [110, 111, 116],
  [115, 101, 108],
  [108, 111, 97, 100],
  [114, 101, 116],
  [102, 105, 110],
  [115, 116, 97, 114, 116],
  [110, 101, 101, 100],
  [115, 116, 111, 114, 101],
  [111, 117, 116],
  [99, 97, 108, 108],
  [108, 111, 111, 112]]
def findL {α : Type} [DecidableEq α] : List α → α → Nat → Option Nat
  | [], _, _ => none
  | x :: l, s, i => if x = s then some i else findL l s (i + 1)
def opF (s : Bs) : Option Nat := (findL nameL s 0).map (4 + ·)
def arF (op : Int) : Option Nat :=
  if op = 24 ∨ op = 20 ∨ op = 21 then some 1 else if op = 22 ∨ op = 28 then some 3 else if (4 ≤ op ∧ op ≤ 23) ∨ op = 27 ∨ op = 29 then some 2 else none
def immOp (op : Int) : Bool := decide (op = 23 ∨ op = 27 ∨ op = 28)

/-! The parser: an error's kind and place, or what was read and the state behind it -/
abbrev Er := Int × Int
structure PS where
  i : Nat
  vs : Bs
  ms : Bs
section
variable (T : List (Bs × Nat)) (fin : Nat)
def offF (i : Nat) : Nat := match T[i]? with | some t => t.2 | none => fin
def tkF (i : Nat) : Option Bs := (T[i]?).map (·.1)
def serr (i : Nat) : Er := (2, (offF T fin i : Int))
def expF (s : Bs) (x : PS) : Except Er PS := if tkF T x.i = some s then .ok { x with i := x.i + 1 } else .error (serr T fin x.i)
def wrdF {α : Type} (f : Bs → PS → Option (α × PS)) (x : PS) : Except Er (α × PS) :=
  match tkF T x.i with
  | some s => if isPn (s.headD 0) then .error (serr T fin x.i) else match f s x with
    | some (a, y) => .ok (a, { y with i := x.i + 1 })
    | none => .error (serr T fin x.i)
  | none => .error (serr T fin x.i)
/-- What a word inside a term is. -/
def atomF (left : Bool) (s : Bs) (x : PS) : Option (Pt × PS) :=
  match decF s with
  | some n => some (.mk 0 1 n 0 [], x)
  | none =>
    if 0 < (varF s 63 x.vs left).1 then some (.mk (varF s 63 x.vs left).1 0 0 0 [], { x with vs := (varF s 63 x.vs left).2 })
    else if 0 < (varF s 36 x.ms left).1 then some (.mk 0 1 0 (varF s 36 x.ms left).1 [], { x with ms := (varF s 36 x.ms left).2 })
    else none
/-- An operation with its immediate operand. -/
def operF (left : Bool) (s : Bs) (x : PS) : Option (Pt × PS) :=
  let a := s.takeWhile (fun c => decide (c.toNat ≠ 46))
  let r := s.drop a.length
  match opF a with
  | none => none
  | some op =>
    if (arF op).isNone ∨ immOp op ≠ decide (a.length < s.length) then none
    else if immOp op = false then some (.mk 0 op 0 0 [], x)
    else match decF r.tail with
      | some n => some (.mk 0 op n 0 [], x)
      | none => match r.tail with
        | [c] => if isLw c = true ∧ 0 < (lookF x.ms c left).1 then some (.mk 0 op 0 (lookF x.ms c left).1 [], { x with ms := (lookF x.ms c left).2 }) else none
        | _ => none
def kidsF (g : PS → Except Er (Pt × PS)) : Nat → PS → Except Er (List Pt × PS)
  | 0, x => .ok ([], x)
  | k + 1, x => match g x with
    | .error e => .error e
    | .ok (p, y) => match kidsF g k y with
      | .error e => .error e
      | .ok (l, z) => .ok (p :: l, z)
def termF (left : Bool) : Nat → PS → Except Er (Pt × PS)
  | 0, x => .error (serr T fin x.i)
  | f + 1, x =>
    if tkF T x.i = some [40] then
      match wrdF T fin (operF left) { x with i := x.i + 1 } with
      | .error e => .error e
      | .ok (p, y) => match kidsF (termF left f) ((arF p.op).getD 0) y with
        | .error e => .error e
        | .ok (l, z) => match expF T fin [41] z with
          | .error e => .error e
          | .ok u => .ok (.mk 0 p.op p.imm p.iv l, u)
    else wrdF T fin (atomF left) x
def pvarF : PS → Except Er (Nat × PS) := wrdF T fin fun s x => if 0 < (varF s 63 x.vs false).1 then some ((varF s 63 x.vs false).1, x) else none
def ivarF : PS → Except Er (Nat × PS) := wrdF T fin fun s x => match s with
  | [c] => if isLw c = true ∧ 0 < (lookF x.ms c false).1 then some ((lookF x.ms c false).1, x) else none
  | _ => none
def numbF : PS → Except Er (Int × PS) := wrdF T fin fun s x => (decF s).map fun n => (n, x)
def condL : List Bs := [[110, 111, 110, 122, 101, 114, 111], [108, 101, 97, 115, 116], [109, 111, 115, 116], [97, 112, 97, 114, 116], [105, 110, 115, 105, 100, 101], [117, 110, 108, 105, 107, 101]]
def kindF : PS → Except Er (Nat × PS) := wrdF T fin fun s x => (findL condL s 0).map fun i => (i + 1, x)
def pcondF (x : PS) : Except Er (Cd × PS) :=
  match kindF T fin x with
  | .error e => .error e
  | .ok (k, y) => match (if k = 6 then ivarF T fin y else pvarF T fin y) with
    | .error e => .error e
    | .ok (a, z) =>
      if k = 1 then .ok (⟨1, a, 0, 0⟩, z)
      else if k = 2 ∨ k = 3 then match numbF T fin z with
        | .error e => .error e
        | .ok (n, u) => .ok (⟨k, a, 0, n⟩, u)
      else if k = 4 then match pvarF T fin z with
        | .error e => .error e
        | .ok (b, u) => .ok (⟨4, a, b, 0⟩, u)
      else match ivarF T fin z with
        | .error e => .error e
        | .ok (b, u) => .ok (⟨k, a, b, 0⟩, u)
/-- The conditions behind the first. -/
def condsF : Nat → PS → Except Er (List Cd × PS)
  | 0, x => .ok ([], x)
  | f + 1, x =>
    if tkF T x.i = some [44] then
      match pcondF T fin { x with i := x.i + 1 } with
      | .error e => .error e
      | .ok (c, y) => match condsF f y with
        | .error e => .error e
        | .ok (l, z) => .ok (c :: l, z)
    else .ok ([], x)
def ifF (f : Nat) (x : PS) : Except Er (List Cd × PS) :=
  if tkF T x.i = some [105, 102] then
    match pcondF T fin { x with i := x.i + 1 } with
    | .error e => .error e
    | .ok (c, y) => match condsF T fin f y with
      | .error e => .error e
      | .ok (l, z) => .ok (c :: l, z)
  else .ok ([], x)
/-- Any word. -/
def anyF : PS → Except Er (Bs × PS) := wrdF T fin fun s x => some (s, x)
/-- A rule behind the word rule. -/
def ruleF (x : PS) : Except Er (Rl × PS) :=
  match anyF T fin { x with vs := [], ms := [] } with
  | .error e => .error e
  | .ok (s, x1) => match expF T fin [58] x1 with
    | .error e => .error e
    | .ok x2 => match termF T fin true (T.length + 1) x2 with
      | .error e => .error e
      | .ok (l, x3) => match expF T fin [61, 62] x3 with
        | .error e => .error e
        | .ok x4 => match termF T fin false (T.length + 1) x4 with
          | .error e => .error e
          | .ok (r, x5) => match ifF T fin (T.length + 1) x5 with
            | .error e => .error e
            | .ok (cs, x6) => match expF T fin [59] x6 with
              | .error e => .error e
              | .ok x7 => .ok (⟨⟨s.toArray⟩, l, r, cs, x7.vs.length, x7.ms.length⟩, x7)
/-- An item: the rule, if there is one of that name, and the name's place. -/
def itemF (ax : Bs → Option Rl) (x : PS) : Except Er ((Option Rl × Nat) × PS) :=
  if tkF T x.i = some [97, 120, 105, 111, 109] then
    match anyF T fin { x with i := x.i + 1 } with
    | .error e => .error e
    | .ok (s, y) => match expF T fin [59] y with
      | .error e => .error e
      | .ok z => .ok ((ax s, offF T fin (x.i + 1)), z)
  else match expF T fin [114, 117, 108, 101] x with
    | .error e => .error e
    | .ok y => match ruleF T fin y with
      | .error e => .error e
      | .ok (r, z) => .ok ((some r, offF T fin y.i), z)
def loopF (ax : Bs → Option Rl) (n : Nat) : Nat → PS → List Rl → Except Er (List Rl)
  | 0, x, _ => .error (serr T fin x.i)
  | f + 1, x, out =>
    if offF T fin x.i < n then
      match itemF T fin ax x with
      | .error e => .error e
      | .ok ((o, pos), y) => match o with
        | none => .error (3, pos)
        | some r =>
          if implF r = false then .error (1, pos)
          else if out.any (fun q => decide (q.name = r.name)) then .error (4, pos)
          else if out.length = 160 then .error (6, pos)
          else loopF ax n f y (out ++ [r])
    else .ok out
end
def parseG (ax : Bs → Option Rl) (s : Bs) : Except Er (List Rl) :=
  if 20000 < s.length then .error (6, 20000)
  else loopF (goodT (toksF s)) (finT (toksF s)) ax s.length (s.length + 1) ⟨0, [], []⟩ []
/-- The axioms: names and texts. -/
def axL : List (Bs × Bs) :=
  [([100, 105, 118, 45, 111, 110, 101], [40, 100, 105, 118, 32, 63, 97, 32, 49, 41, 32, 61, 62, 32, 63, 97]),
  ([100, 105, 118, 45, 115, 101, 108, 102], [40, 100, 105, 118, 32, 63, 97, 32, 63, 97, 41, 32, 61, 62, 32, 49, 32, 105, 102, 32, 110, 111, 110, 122, 101, 114, 111, 32, 63, 97]),
  ([100, 105, 118, 45, 109, 105, 110, 117, 115], [40, 100, 105, 118, 32, 63, 97, 32, 45, 49, 41, 32, 61, 62, 32, 40, 110, 101, 103, 32, 63, 97, 41]),
  ([100, 105, 118, 45, 122, 101, 114, 111], [40, 100, 105, 118, 32, 48, 32, 63, 97, 41, 32, 61, 62, 32, 48]),
  ([114, 101, 109, 45, 111, 110, 101], [40, 114, 101, 109, 32, 63, 97, 32, 49, 41, 32, 61, 62, 32, 48]),
  ([114, 101, 109, 45, 115, 101, 108, 102], [40, 114, 101, 109, 32, 63, 97, 32, 63, 97, 41, 32, 61, 62, 32, 48]),
  ([114, 101, 109, 45, 100, 105, 118], [40, 114, 101, 109, 32, 63, 97, 32, 63, 98, 41, 32, 61, 62, 32, 40, 115, 117, 98, 32, 63, 97, 32, 40, 109, 117, 108, 32, 40, 100, 105, 118, 32, 63, 97, 32, 63, 98, 41, 32, 63, 98, 41, 41, 32, 105, 102, 32, 110, 111, 110, 122, 101, 114, 111, 32, 63, 98]),
  ([110, 101, 101, 100, 45, 116, 114, 117, 101], [40, 110, 101, 101, 100, 46, 107, 32, 63, 97, 32, 63, 98, 41, 32, 61, 62, 32, 63, 97, 32, 105, 102, 32, 110, 111, 110, 122, 101, 114, 111, 32, 63, 98]),
  ([110, 101, 101, 100, 45, 116, 119, 105, 99, 101], [40, 110, 101, 101, 100, 46, 107, 32, 40, 110, 101, 101, 100, 46, 107, 32, 63, 97, 32, 63, 98, 41, 32, 63, 98, 41, 32, 61, 62, 32, 40, 110, 101, 101, 100, 46, 107, 32, 63, 97, 32, 63, 98, 41]),
  ([108, 111, 97, 100, 45, 115, 116, 111, 114, 101], [40, 108, 111, 97, 100, 46, 107, 32, 40, 115, 116, 111, 114, 101, 46, 107, 32, 63, 97, 32, 63, 98, 32, 63, 99, 41, 32, 63, 98, 41, 32, 61, 62, 32, 63, 99, 32, 105, 102, 32, 105, 110, 115, 105, 100, 101, 32, 63, 98, 32, 107]),
  ([108, 111, 97, 100, 45, 97, 112, 97, 114, 116], [40, 108, 111, 97, 100, 46, 107, 32, 40, 115, 116, 111, 114, 101, 46, 107, 32, 63, 97, 32, 63, 98, 32, 63, 99, 41, 32, 63, 100, 41, 32, 61, 62, 32, 40, 108, 111, 97, 100, 46, 107, 32, 63, 97, 32, 63, 100, 41, 32, 105, 102, 32, 97, 112, 97, 114, 116, 32, 63, 98, 32, 63, 100]),
  ([108, 111, 97, 100, 45, 111, 116, 104, 101, 114], [40, 108, 111, 97, 100, 46, 107, 32, 40, 115, 116, 111, 114, 101, 46, 108, 32, 63, 97, 32, 63, 98, 32, 63, 99, 41, 32, 63, 100, 41, 32, 61, 62, 32, 40, 108, 111, 97, 100, 46, 107, 32, 63, 97, 32, 63, 100, 41, 32, 105, 102, 32, 117, 110, 108, 105, 107, 101, 32, 107, 32, 108]),
  ([108, 111, 97, 100, 45, 110, 101, 101, 100], [40, 108, 111, 97, 100, 46, 107, 32, 40, 110, 101, 101, 100, 46, 108, 32, 63, 97, 32, 63, 98, 41, 32, 63, 99, 41, 32, 61, 62, 32, 40, 108, 111, 97, 100, 46, 107, 32, 63, 97, 32, 63, 99, 41]),
  ([108, 111, 97, 100, 45, 111, 117, 116], [40, 108, 111, 97, 100, 46, 107, 32, 40, 111, 117, 116, 32, 63, 97, 32, 63, 98, 41, 32, 63, 99, 41, 32, 61, 62, 32, 40, 108, 111, 97, 100, 46, 107, 32, 63, 97, 32, 63, 99, 41]),
  ([115, 116, 111, 114, 101, 45, 115, 116, 111, 114, 101], [40, 115, 116, 111, 114, 101, 46, 107, 32, 40, 115, 116, 111, 114, 101, 46, 107, 32, 63, 97, 32, 63, 98, 32, 63, 99, 41, 32, 63, 98, 32, 63, 100, 41, 32, 61, 62, 32, 40, 115, 116, 111, 114, 101, 46, 107, 32, 63, 97, 32, 63, 98, 32, 63, 100, 41]),
  ([115, 116, 111, 114, 101, 45, 115, 119, 97, 112], [40, 115, 116, 111, 114, 101, 46, 107, 32, 40, 115, 116, 111, 114, 101, 46, 107, 32, 63, 97, 32, 63, 98, 32, 63, 99, 41, 32, 63, 100, 32, 63, 101, 41, 32, 61, 62, 32, 40, 115, 116, 111, 114, 101, 46, 107, 32, 40, 115, 116, 111, 114, 101, 46, 107, 32, 63, 97, 32, 63, 100, 32, 63, 101, 41, 32, 63, 98, 32, 63, 99, 41, 32, 105, 102, 32, 97, 112, 97, 114, 116, 32, 63, 98, 32, 63, 100]),
  ([115, 116, 111, 114, 101, 45, 108, 111, 97, 100], [40, 115, 116, 111, 114, 101, 46, 107, 32, 63, 97, 32, 63, 98, 32, 40, 108, 111, 97, 100, 46, 107, 32, 63, 97, 32, 63, 98, 41, 41, 32, 61, 62, 32, 63, 97]),
  ([115, 116, 111, 114, 101, 45, 110, 101, 101, 100], [40, 110, 101, 101, 100, 46, 108, 32, 40, 115, 116, 111, 114, 101, 46, 107, 32, 63, 97, 32, 63, 98, 32, 63, 99, 41, 32, 63, 100, 41, 32, 61, 62, 32, 40, 115, 116, 111, 114, 101, 46, 107, 32, 40, 110, 101, 101, 100, 46, 108, 32, 63, 97, 32, 63, 100, 41, 32, 63, 98, 32, 63, 99, 41]),
  ([115, 116, 111, 114, 101, 45, 111, 117, 116], [40, 111, 117, 116, 32, 40, 115, 116, 111, 114, 101, 46, 107, 32, 63, 97, 32, 63, 98, 32, 63, 99, 41, 32, 63, 100, 41, 32, 61, 62, 32, 40, 115, 116, 111, 114, 101, 46, 107, 32, 40, 111, 117, 116, 32, 63, 97, 32, 63, 100, 41, 32, 63, 98, 32, 63, 99, 41]),
  ([114, 101, 116, 45, 110, 101, 101, 100], [40, 114, 101, 116, 32, 40, 110, 101, 101, 100, 46, 107, 32, 63, 97, 32, 63, 98, 41, 41, 32, 61, 62, 32, 40, 114, 101, 116, 32, 63, 97, 41]),
  ([114, 101, 116, 45, 111, 117, 116], [40, 114, 101, 116, 32, 40, 111, 117, 116, 32, 63, 97, 32, 63, 98, 41, 41, 32, 61, 62, 32, 40, 114, 101, 116, 32, 63, 97, 41]),
  ([114, 101, 116, 45, 115, 116, 111, 114, 101], [40, 114, 101, 116, 32, 40, 115, 116, 111, 114, 101, 46, 107, 32, 63, 97, 32, 63, 98, 32, 63, 99, 41, 41, 32, 61, 62, 32, 40, 114, 101, 116, 32, 63, 97, 41])]
def axText (s : Bs) : Option Bs := (axL.find? fun x => decide (x.1 = s)).map (·.2)
def axiomF (s : Bs) : Option Rl :=
  match axText s with
  | none => none
  | some t => match parseG (fun _ => none) ([114, 117, 108, 101, 32] ++ s ++ [58, 32] ++ t ++ [59]) with
    | .ok [r] => some r
    | _ => none
def parseF (s : Bs) : Except Er (List Rl) := parseG axiomF s
end Go.Proofs.Ytblkgjdhaibhgaa
