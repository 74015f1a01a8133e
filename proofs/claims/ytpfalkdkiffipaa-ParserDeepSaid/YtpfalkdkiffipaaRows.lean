/-
  No cell of these rows narrows 'for every input' (looked for: loops, veiled, ifaces, maps, wideKeys, modest, calm, conditions, laid).
  DERIVED. THE GIVEN ROWS OF THIS SEAT. 3 by the template 'for every input the law returns true; each argument reads behind the call as it read before'; 0 by the template 'total and deterministic' (their statements: YtpfalkdkiffipaaTotals.lean).
  GIVEN WITH THE SEED: the statements are not yours to turn. If you find one false, say at which input.
  Laid BY PROGRAM, IN A SANDBOX (cutbox-rows.mjs): the forced cells as the released guide's own fill.sh prints them over the translation 281850569a5a7541… (all of the seat's roots in one cut). By AI agents, Wed Nov 11 2026. No macro, syntax, notation, axiom, sorry.
-/
import Derived.Test.YtpfalkdkiffipaaChecked
import GoSem.Claim
import GoSem.ClaimJoined
import GoSem.ClaimMapViews
import Derived.JoinedTies
import Derived.KernelRfl
namespace Go.Proofs.Ytpfalkdkiffipaa
/- THE CELL 'sum', in the pinned program and in every row, IS THE sha256 OF THE DUMP (.gsa) THAT YtpfalkdkiffipaaProg.lean LOADS. Nothing in Lean hashes anything: it is a label: what it is worth is what the hold of that sum in a sandbox is worth. -/
noncomputable def Try.pinned : Pinned := { name := "ytpfalkdkiffipaa", sum := "281850569a5a754131a9da5fdcd596975bcc73bf711b4a092bd5930db147a758", checked := Try.checked }
namespace Rows
def none {H : Type} : Left H := { results := [], args := [] }

/-- 'topiarylaw12.LexerWrites': WHATEVER THE INPUT: true; the input reads as it did. -/
def lexerWritesSpec : ChangeSpec := { name := "lexerWrites", fn := fun _ => fun
  | [d1, d2, d3] => { results := [.lit (.bool true)], args := [d1, d2, d3] }
  | _ => none }
def lexerWritesRow : OpenClaim := { program := "ytpfalkdkiffipaa", sum := "281850569a5a754131a9da5fdcd596975bcc73bf711b4a092bd5930db147a758", func := "topiary/topiarylaw12.LexerWrites", spec := "lexerWrites", inPlace := ["internal/bytealg.IndexByteString", "internal/bytealg.IndexString", "internal/abi.NoEscape"], unfollowed := true, recurses := true, named := ["internal/bytealg.MaxLen"], apart := false }
def LexerWritesSaid : Prop := lexerWritesRow.holds Try.pinned (OpenSpec.ofChange lexerWritesSpec)

/-- ITS FALSE NEIGHBOUR: 'it returns false'. Refute it at one input. -/
def lexerWritesWrong : ChangeSpec := { name := "lexerWrites", fn := fun _ => fun
  | [d1, d2, d3] => { results := [.lit (.bool false)], args := [d1, d2, d3] }
  | _ => none }
def LexerWritesWrongFalsely : Prop := lexerWritesRow.holds Try.pinned (OpenSpec.ofChange lexerWritesWrong)

/-- 'topiarylaw13.ParserPasses': WHATEVER THE INPUT: true; the input reads as it did. -/
def parserPassesSpec : ChangeSpec := { name := "parserPasses", fn := fun _ => fun
  | [d1, d2, d3] => { results := [.lit (.bool true)], args := [d1, d2, d3] }
  | _ => none }
def parserPassesRow : OpenClaim := { program := "ytpfalkdkiffipaa", sum := "281850569a5a754131a9da5fdcd596975bcc73bf711b4a092bd5930db147a758", func := "topiary/topiarylaw13.ParserPasses", spec := "parserPasses", inPlace := ["internal/bytealg.IndexByteString", "internal/bytealg.IndexString", "internal/abi.NoEscape"], unfollowed := true, recurses := true, named := ["internal/bytealg.MaxLen"], apart := false }
def ParserPassesSaid : Prop := parserPassesRow.holds Try.pinned (OpenSpec.ofChange parserPassesSpec)

/-- ITS FALSE NEIGHBOUR: 'it returns false'. Refute it at one input. -/
def parserPassesWrong : ChangeSpec := { name := "parserPasses", fn := fun _ => fun
  | [d1, d2, d3] => { results := [.lit (.bool false)], args := [d1, d2, d3] }
  | _ => none }
def ParserPassesWrongFalsely : Prop := parserPassesRow.holds Try.pinned (OpenSpec.ofChange parserPassesWrong)

/-- 'topiarylaw13.ParserDeep': WHATEVER THE INPUT: true; the input reads as it did. -/
def parserDeepSpec : ChangeSpec := { name := "parserDeep", fn := fun _ => fun
  | [d1, d2] => { results := [.lit (.bool true)], args := [d1, d2] }
  | _ => none }
def parserDeepRow : OpenClaim := { program := "ytpfalkdkiffipaa", sum := "281850569a5a754131a9da5fdcd596975bcc73bf711b4a092bd5930db147a758", func := "topiary/topiarylaw13.ParserDeep", spec := "parserDeep", inPlace := ["internal/bytealg.IndexByteString", "internal/bytealg.IndexString", "internal/abi.NoEscape"], unfollowed := true, recurses := true, named := ["internal/bytealg.MaxLen"], apart := false }
def ParserDeepSaid : Prop := parserDeepRow.holds Try.pinned (OpenSpec.ofChange parserDeepSpec)

/-- ITS FALSE NEIGHBOUR: 'it returns false'. Refute it at one input. -/
def parserDeepWrong : ChangeSpec := { name := "parserDeep", fn := fun _ => fun
  | [d1, d2] => { results := [.lit (.bool false)], args := [d1, d2] }
  | _ => none }
def ParserDeepWrongFalsely : Prop := parserDeepRow.holds Try.pinned (OpenSpec.ofChange parserDeepWrong)

/- THE SECOND FORM. 'bulk': how many values and letters a reading holds, each counted each time it is reached (what is shared counts as often as it is met; a slice's spare places count too). A statement '..UptoSaid' is the law's where the arguments, and the package variables that the reading takes, are together of bulk at most 1048576: NARROWER than '..Said'. Prove '..Said' where nothing that the law and all that it calls make is longer than what came in: it says more and counts as full. Else prove '..UptoSaid'. A law counts once. -/
mutual
def uptoBulk {H : Type} : DataW H → Nat
  | .lit (.string bytes) => bytes.length + 1
  | .lit _ => 1
  | .nil => 1
  | .ptr d => uptoBulk d + 1
  | .slice elems spare => uptoBulkAll elems + uptoBulkAll spare + 1
  | .agg parts => uptoBulkAll parts + 1
  | .iface _ d => uptoBulk d + 1
  | .map entries => uptoBulkEntries entries + 1
  | .held _ => 1
def uptoBulkAll {H : Type} : List (DataW H) → Nat
  | [] => 0
  | d :: r => uptoBulk d + uptoBulkAll r
def uptoBulkEntries {H : Type} : List (Lit × DataW H) → Nat
  | [] => 0
  | x :: r => uptoBulkEntry x + uptoBulkEntries r
def uptoBulkEntry {H : Type} : Lit × DataW H → Nat
  | (.string bytes, d) => bytes.length + uptoBulk d + 1
  | (_, d) => uptoBulk d + 1
 end
def uptoSmall : (H : Type) → List (DataW H) → Bool := fun _ ds => decide (uptoBulkAll ds ≤ 1048576)
def OpenSpec.upto (s : _root_.Go.ChangeSpec) : _root_.Go.OpenSpec := { _root_.Go.OpenSpec.ofChange s with cond := some uptoSmall }

/-- 'topiarylaw12.LexerWrites', WHERE WHAT IT READS IS OF BULK AT MOST 1048576: true; the input reads as it did. -/
def lexerWritesUptoRow : OpenClaim := { program := "ytpfalkdkiffipaa", sum := "281850569a5a754131a9da5fdcd596975bcc73bf711b4a092bd5930db147a758", func := "topiary/topiarylaw12.LexerWrites", spec := "lexerWrites", inPlace := ["internal/bytealg.IndexByteString", "internal/bytealg.IndexString", "internal/abi.NoEscape"], unfollowed := true, recurses := true, named := ["internal/bytealg.MaxLen"], apart := false, narrowed := true }
def LexerWritesUptoSaid : Prop := lexerWritesUptoRow.holds Try.pinned (OpenSpec.upto lexerWritesSpec)

/-- 'topiarylaw13.ParserPasses', WHERE WHAT IT READS IS OF BULK AT MOST 1048576: true; the input reads as it did. -/
def parserPassesUptoRow : OpenClaim := { program := "ytpfalkdkiffipaa", sum := "281850569a5a754131a9da5fdcd596975bcc73bf711b4a092bd5930db147a758", func := "topiary/topiarylaw13.ParserPasses", spec := "parserPasses", inPlace := ["internal/bytealg.IndexByteString", "internal/bytealg.IndexString", "internal/abi.NoEscape"], unfollowed := true, recurses := true, named := ["internal/bytealg.MaxLen"], apart := false, narrowed := true }
def ParserPassesUptoSaid : Prop := parserPassesUptoRow.holds Try.pinned (OpenSpec.upto parserPassesSpec)

/-- 'topiarylaw13.ParserDeep', WHERE WHAT IT READS IS OF BULK AT MOST 1048576: true; the input reads as it did. -/
def parserDeepUptoRow : OpenClaim := { program := "ytpfalkdkiffipaa", sum := "281850569a5a754131a9da5fdcd596975bcc73bf711b4a092bd5930db147a758", func := "topiary/topiarylaw13.ParserDeep", spec := "parserDeep", inPlace := ["internal/bytealg.IndexByteString", "internal/bytealg.IndexString", "internal/abi.NoEscape"], unfollowed := true, recurses := true, named := ["internal/bytealg.MaxLen"], apart := false, narrowed := true }
def ParserDeepUptoSaid : Prop := parserDeepUptoRow.holds Try.pinned (OpenSpec.upto parserDeepSpec)

end Rows
end Go.Proofs.Ytpfalkdkiffipaa
