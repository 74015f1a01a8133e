/- The plain words of the chapter on the lexer: a document's pieces, on lists of bytes; no program in sight. -/
import Derived.Test.YtpfalkdkiffipaaS11
namespace Go.Proofs.Ytpfalkdkiffipaa
namespace S
/-- a piece of a document -/
structure Tok where
  kind : Int
  from_ : Int
  to_ : Int
  name : B
  value : B

/-- entities put in their place; none: an & is none's -/
def decodeF : Nat → B → Option B
  | _, [] => some []
  | 0, _ :: _ => none
  | k + 1, c :: l => if Lib.indexByte (c :: l) 38 < 0 then some (c :: l) else
    if (entity ((c :: l).drop (Lib.indexByte (c :: l) 38).toNat)).2 = 0 then none else
    (decodeF k ((c :: l).drop ((Lib.indexByte (c :: l) 38).toNat + (entity ((c :: l).drop (Lib.indexByte (c :: l) 38).toNat)).2))).map
      fun r => (c :: l).take (Lib.indexByte (c :: l) 38).toNat ++ (entity ((c :: l).drop (Lib.indexByte (c :: l) 38).toNat)).1 ++ r
def decode (l : B) : Option B := decodeF l.length l

def nameEnd (d : B) (i : Nat) : Nat := i + nameLen (d.drop i)
def skip (d : B) (i : Nat) : Nat := i + skipLen (d.drop i)
def part (d : B) (i j : Nat) : B := (d.drop i).take (j - i)

/-- the pieces told and the place behind them; none: there are none -/
def comment (d : B) (p : Nat) : Option (List Tok × Nat) :=
  if Lib.index (d.drop (p + 4)) [45, 45] < 0 then none else
  if Lib.hasPrefix ((d.drop (p + 4)).drop (Lib.index (d.drop (p + 4)) [45, 45]).toNat) [45, 45, 62] = false then none else
  some ([⟨7, p, p + 7 + (Lib.index (d.drop (p + 4)) [45, 45]).toNat, [], (d.drop (p + 4)).take (Lib.index (d.drop (p + 4)) [45, 45]).toNat⟩], p + 7 + (Lib.index (d.drop (p + 4)) [45, 45]).toNat)
def plain (d : B) (p : Nat) : Option (List Tok × Nat) :=
  if (Lib.cut (d.drop (p + 9)) [93, 93, 62]).2.2 = false then none else
  some ([⟨6, p, p + 12 + (Lib.cut (d.drop (p + 9)) [93, 93, 62]).1.length, [], (Lib.cut (d.drop (p + 9)) [93, 93, 62]).1⟩], p + 12 + (Lib.cut (d.drop (p + 9)) [93, 93, 62]).1.length)
def text (d : B) (p : Nat) : Option (List Tok × Nat) :=
  (decode (Lib.cut (d.drop p) [60]).1).map fun v => ([⟨6, p, p + (Lib.cut (d.drop p) [60]).1.length, [], v⟩], p + (Lib.cut (d.drop p) [60]).1.length)
def closing (d : B) (p : Nat) : Option (List Tok × Nat) :=
  if nameEnd d (p + 2) = p + 2 then none else
  if Lib.hasPrefix (d.drop (skip d (nameEnd d (p + 2)))) [62] = false then none else
  some ([⟨5, p, skip d (nameEnd d (p + 2)) + 1, part d (p + 2) (nameEnd d (p + 2)), []⟩], skip d (nameEnd d (p + 2)) + 1)
/-- an attribute, behind spaces: its name's begin and end, its =, its quote -/
def attrFrom (d : B) (p : Nat) : Nat := skip d p
def attrEnd (d : B) (p : Nat) : Nat := nameEnd d (attrFrom d p)
def attrEq (d : B) (p : Nat) : Nat := skip d (attrEnd d p)
def attrOpen (d : B) (p : Nat) : Nat := skip d (attrEq d p + 1)
def attrRaw (d : B) (p : Nat) : B × B × Bool := Lib.cut (d.drop (attrOpen d p + 1)) ((d.drop (attrOpen d p)).take 1)
def attr (d : B) (p : Nat) : Option (List Tok × Nat) :=
  if attrFrom d p = p then none else if attrEnd d p = attrFrom d p then none else
  if Lib.hasPrefix (d.drop (attrEq d p)) [61] = false then none else
  if Lib.hasPrefix (d.drop (attrOpen d p)) [34] = false ∧ Lib.hasPrefix (d.drop (attrOpen d p)) [39] = false then none else
  if (attrRaw d p).2.2 = false then none else if Lib.contains (attrRaw d p).1 [60] then none else
  (decode (attrRaw d p).1).map fun v => ([⟨2, attrFrom d p, attrOpen d p + (attrRaw d p).1.length + 2, part d (attrFrom d p) (attrEnd d p), v⟩], attrOpen d p + (attrRaw d p).1.length + 2)
/-- what is in a tag behind its name -/
def attrsF : Nat → B → Nat → Option (List Tok × Nat)
  | 0, _, _ => none
  | k + 1, d, p =>
    if Lib.hasPrefix (d.drop (skip d p)) [62] then some ([⟨3, skip d p, skip d p + 1, [], []⟩], skip d p + 1) else
    if Lib.hasPrefix (d.drop (skip d p)) [47, 62] then some ([⟨4, skip d p, skip d p + 2, [], []⟩], skip d p + 2) else
    match attr d p with
    | none => none
    | some (l, q) => (attrsF k d q).map fun x => (l ++ x.1, x.2)
def tag (d : B) (p : Nat) : Option (List Tok × Nat) :=
  if nameEnd d (p + 1) = p + 1 then none else
  (attrsF (d.length + 1) d (nameEnd d (p + 1))).map fun x => (⟨1, p, nameEnd d (p + 1), part d (p + 1) (nameEnd d (p + 1)), []⟩ :: x.1, x.2)
def next (d : B) (p : Nat) : Option (List Tok × Nat) :=
  if Lib.hasPrefix (d.drop p) [60, 33, 45, 45] then comment d p else
  if Lib.hasPrefix (d.drop p) [60, 33, 91, 67, 68, 65, 84, 65, 91] then plain d p else
  if Lib.hasPrefix (d.drop p) [60, 47] then closing d p else
  if Lib.hasPrefix (d.drop p) [60] then tag d p else text d p
def lexF : Nat → B → Nat → Option (List Tok)
  | 0, _, _ => none
  | k + 1, d, p => if d.length ≤ p then some [] else
    match next d p with
    | none => none
    | some (l, q) => (lexF k d q).map fun x => l ++ x
/-- a document's pieces, or an error's number -/
def lex (d : B) : Except Int (List Tok) :=
  if 65536 < d.length then .error 18 else if valid d = false then .error 15 else
  match lexF (d.length + 1) d 0 with
  | none => .error 15
  | some l => .ok l
end S
end Go.Proofs.Ytpfalkdkiffipaa
