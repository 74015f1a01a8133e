/- The parser, plain: what parser.Parse computes of a document. -/
import Derived.Test.YtpfalkdkiffipaaS12
namespace Go.Proofs.Ytpfalkdkiffipaa
namespace S
structure Node where
  kind : Int
  name : Int
  parent : Int
  value : B
/-- the builder's state; opn: the elements that are open, the last is the top -/
structure St where
  nodes : List Node
  names : List B
  opn : List Int
  text : B
  deep : Bool
  wrong : Bool
def St.new : St := ⟨[], [], [], [], false, false⟩
def St.top (s : St) : Int := s.opn.getLast?.getD (-1)
def St.put (s : St) (kind name : Int) (value nm : B) : St := { s with nodes := s.nodes ++ [⟨kind, name, s.top, value⟩], names := s.names ++ [nm] }
def St.flush (s : St) : St :=
  if s.text = [] then { s with text := [] }
  else if s.top < 0 then { s with text := [], wrong := s.wrong || decide (skip s.text 0 < s.text.length) }
  else ({ s with text := [] } : St).put 3 (-1) s.text []
def St.begin (s : St) (nm : B) : St :=
  let s := s.flush
  let s := { s with wrong := s.wrong || (decide (s.top < 0) && decide (0 < s.nodes.length)), deep := s.deep || decide (64 < s.opn.length) }
  let s := s.put 1 0 [] nm
  { s with opn := s.opn ++ [(s.nodes.length : Int) - 1] }
def St.attr (s : St) (nm value : B) : St :=
  ({ s with wrong := s.wrong || (s.names.drop (s.top + 1).toNat).contains nm } : St).put 2 0 value nm
def St.end_ (s : St) (nm : B) : St :=
  let s := s.flush
  if s.top < 0 ∨ s.names.getD s.top.toNat [] ≠ nm then { s with wrong := true } else { s with opn := s.opn.dropLast }
/-- a piece without its places -/
structure Pc where
  kind : Int
  name : B
  value : B
def Tok.pc (t : Tok) : Pc := ⟨t.kind, t.name, t.value⟩
def St.stepP (s : St) (t : Pc) : St :=
  if t.kind = 7 then s
  else if t.kind = 6 then { s with text := s.text ++ t.value }
  else if t.kind = 1 then s.begin t.name
  else if t.kind = 2 then s.attr t.name t.value
  else if t.kind = 4 then s.end_ (s.names.getD s.top.toNat [])
  else if t.kind = 5 then s.end_ t.name
  else s
def St.step (s : St) (t : Tok) : St := s.stepP t.pc
/-- the names of the nodes that are no texts, each once, rising -/
def St.keys (s : St) : List B := ((((s.nodes.zip s.names).filter fun x => x.1.kind != 3).map (·.2)).eraseDups).mergeSort (fun x y => decide (x ≤ y))
def St.tree (s : St) : Except Int (List B × List Node) :=
  if s.wrong = true ∨ s.opn ≠ [] ∨ s.nodes = [] then .error 15
  else if s.deep = true ∨ 5000 < s.nodes.length ∨ 1000 < s.keys.length then .error 18
  else .ok (s.keys, (s.nodes.zip s.names).map fun x => if x.1.kind = 3 then x.1 else { x.1 with name := s.keys.idxOf x.2 })
/-- what Parse tells -/
def parse (d : B) : Except Int (List B × List Node) :=
  match lex d with
  | .error n => .error n
  | .ok ts => ((ts.foldl St.step St.new).flush).tree
end S
end Go.Proofs.Ytpfalkdkiffipaa
