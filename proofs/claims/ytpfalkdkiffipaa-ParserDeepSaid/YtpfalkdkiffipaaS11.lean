/- The plain words of the chapter on characters: bytes, names, entities, on lists of bytes; no program in sight. -/
import Derived.Lib.IndexLaws
import Derived.Lib.CutLaws
import Derived.Lib.IndexMore
import Derived.Lib.Strings
namespace Go.Proofs.Ytpfalkdkiffipaa
namespace S

abbrev B := List UInt8

def isSpace (c : UInt8) : Bool := c == 32 || c == 9 || c == 10 || c == 13
def isFirst (c : UInt8) : Bool := (decide (97 ≤ c.toNat) && decide (c.toNat ≤ 122)) || (decide (65 ≤ c.toNat) && decide (c.toNat ≤ 90)) || c == 95
def isMore (c : UInt8) : Bool := (decide (48 ≤ c.toNat) && decide (c.toNat ≤ 57)) || c == 45 || c == 46
def isName (c : UInt8) : Bool := isFirst c || isMore c

/-- how many bytes of a list are so, from its head on -/
def runLen (p : UInt8 → Bool) : B → Nat
  | [] => 0
  | c :: l => if p c then runLen p l + 1 else 0

def skipLen (l : B) : Nat := runLen isSpace l
def nameLen : B → Nat
  | [] => 0
  | c :: l => if isFirst c then runLen isName l + 1 else 0

theorem runLen_le (p : UInt8 → Bool) (l : B) : runLen p l ≤ l.length := by
  induction l with
  | nil => simp [runLen]
  | cons c l ih => simp only [runLen]; split <;> simp <;> omega
theorem nameLen_le (l : B) : nameLen l ≤ l.length := by
  cases l with
  | nil => simp [nameLen]
  | cons c l => simp only [nameLen]; split <;> simp; exact runLen_le _ _

def point (n : Int) : Bool := decide (0 ≤ n) && decide (n ≤ 1114111) && (decide (n < 55296) || decide (57343 < n))
def allowed (n : Int) : Bool := decide (n = 9) || decide (n = 10) || decide (n = 13) || (decide (32 ≤ n) && !decide (n = 65534) && !decide (n = 65535) && point n)
def sizeOf (n : Int) : Int := if n < 128 then 1 else if n < 2048 then 2 else if n < 65536 then 3 else 4
def lead (n : Int) : Int := if n = 1 then 0 else if n = 2 then 192 else if n = 3 then 224 else if n = 4 then 240 else 248

/-- how many bytes a first byte speaks of; 0: none -/
def runeLen (c : UInt8) : Nat := if 248 ≤ c.toNat then 0 else if 240 ≤ c.toNat then 4 else if 224 ≤ c.toNat then 3 else if 192 ≤ c.toNat then 2 else if 128 ≤ c.toNat then 0 else 1

/-- the bytes behind the first one, read on -/
def restCode : B → Int → Int
  | [], n => n
  | c :: l, n => if 128 ≤ c.toNat ∧ c.toNat < 192 then restCode l (n * 64 + (c.toNat - 128)) else -1

def rune : B → Int × Nat
  | [] => (-1, 0)
  | c :: l =>
    let n := runeLen c
    if n = 0 then (-1, 0) else if l.length + 1 < n then (-1, 0) else
    let code := restCode (l.take (n - 1)) (c.toNat - lead n)
    if point code && decide (sizeOf code = n) then (code, n) else (-1, 0)

theorem rune_le (l : B) : (rune l).2 ≤ l.length := by
  cases l with
  | nil => simp [rune]
  | cons c l => simp only [rune]; (repeat' split) <;> simp <;> omega

def validF : Nat → B → Bool
  | _, [] => true
  | 0, _ :: _ => false
  | k + 1, c :: l => if (rune (c :: l)).2 = 0 || !allowed (rune (c :: l)).1 then false else validF k ((c :: l).drop (rune (c :: l)).2)
def valid (l : B) : Bool := validF l.length l

/-- a byte of that number -/
def u8 (n : Int) : UInt8 := n.toNat.toUInt8
/-- a code point's bytes -/
def encode (n : Int) : B :=
  if !point n then [] else if n < 128 then [u8 n] else if n < 2048 then [u8 (192 + n / 64), u8 (128 + n % 64)]
  else if n < 65536 then [u8 (224 + n / 64 / 64), u8 (128 + n / 64 % 64), u8 (128 + n % 64)]
  else [u8 (240 + n / 64 / 64 / 64), u8 (128 + n / 64 / 64 % 64), u8 (128 + n / 64 % 64), u8 (128 + n % 64)]

/-- a digit's worth; below 0: it is none -/
def digit (c : UInt8) : Int :=
  if 48 ≤ c.toNat ∧ c.toNat ≤ 57 then c.toNat - 48 else if 97 ≤ c.toNat ∧ c.toNat ≤ 102 then c.toNat - 87 else if 65 ≤ c.toNat ∧ c.toNat ≤ 70 then c.toNat - 55 else -1
def digitsF (base : Int) : B → Int → Option Int
  | [], n => some n
  | c :: l, n => if digit c < 0 ∨ base ≤ digit c then none else digitsF base l (n * base + digit c)
def numbered (l : B) (base : Int) : B :=
  if l = [] ∨ 8 < l.length then [] else match digitsF base l 0 with
    | none => []
    | some n => if allowed n then encode n else []
def named (l : B) : B :=
  if l = [108, 116] then [60] else if l = [103, 116] then [62] else if l = [97, 109, 112] then [38] else if l = [113, 117, 111, 116] then [34] else if l = [97, 112, 111, 115] then [39] else []
/-- what the bytes between & and ; stand for -/
def body (l : B) : B := if Lib.hasPrefix l [35, 120] then numbered (l.drop 2) 16 else if Lib.hasPrefix l [35] then numbered (l.drop 1) 10 else named l
/-- what stands for a character at the head of a list, its first byte being &: the character, how many bytes -/
def entity (l : B) : B × Nat :=
  if (Lib.cut (l.drop 1) [59]).2.2 = false then ([], 0) else if body (Lib.cut (l.drop 1) [59]).1 = [] then ([], 0) else (body (Lib.cut (l.drop 1) [59]).1, (Lib.cut (l.drop 1) [59]).1.length + 2)

/-- a byte, escaped -/
def esc1 (c : UInt8) : B := if c = 38 then [38, 97, 109, 112, 59] else if c = 60 then [38, 108, 116, 59] else if c = 62 then [38, 103, 116, 59] else if c = 34 then [38, 113, 117, 111, 116, 59] else [c]
def escape (l : B) : B := l.flatMap esc1
theorem esc1_len (c : UInt8) : (esc1 c).length ≤ 6 := by unfold esc1; (repeat' split) <;> simp

theorem digit_hi (c : UInt8) : digit c ≤ 15 := by unfold digit; (repeat' split) <;> omega
theorem encode_len (n : Int) : (encode n).length ≤ 4 := by unfold encode; (repeat' split) <;> simp
theorem numbered_len (l : B) (b : Int) : (numbered l b).length ≤ 4 := by
  unfold numbered; split; simp; split; simp; split; exact encode_len _; simp
theorem named_len (l : B) : (named l).length ≤ 4 := by unfold named; (repeat' split) <;> simp
theorem body_len (l : B) : (body l).length ≤ 4 := by unfold body; split; exact numbered_len _ _; split; exact numbered_len _ _; exact named_len _
end S
end Go.Proofs.Ytpfalkdkiffipaa
