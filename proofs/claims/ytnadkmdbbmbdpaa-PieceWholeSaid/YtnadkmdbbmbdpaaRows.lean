/-
  No cell of these rows narrows 'for every input' (looked for: loops, veiled, ifaces, maps, wideKeys, modest, calm, conditions, laid).
  DERIVED. THE GIVEN ROWS OF THIS SEAT. 4 by the template 'for every input the law returns true; each argument reads behind the call as it read before'; 0 by the template 'total and deterministic' (their statements: YtnadkmdbbmbdpaaTotals.lean).
  GIVEN WITH THE SEED: the statements are not yours to turn. If you find one false, say at which input.
  Laid BY PROGRAM, IN A SANDBOX (cutbox-rows.mjs): the forced cells as the released guide's own fill.sh prints them over the translation 131dd85308e7d25c… (all of the seat's roots in one cut). By AI agents, Wed Nov 11 2026. No macro, syntax, notation, axiom, sorry.
-/
import Derived.Test.YtnadkmdbbmbdpaaChecked
import GoSem.Claim
import GoSem.ClaimJoined
import GoSem.ClaimMapViews
import Derived.JoinedTies
import Derived.KernelRfl
namespace Go.Proofs.Ytnadkmdbbmbdpaa
/- THE CELL 'sum', in the pinned program and in every row, IS THE sha256 OF THE DUMP (.gsa) THAT YtnadkmdbbmbdpaaProg.lean LOADS. Nothing in Lean hashes anything: it is a label: what it is worth is what the hold of that sum in a sandbox is worth. -/
noncomputable def Try.pinned : Pinned := { name := "ytnadkmdbbmbdpaa", sum := "131dd85308e7d25c22bbfffe0a87054d550d77767ec215bd0d2c8ac03386eb49", checked := Try.checked }
namespace Rows
def none {H : Type} : Left H := { results := [], args := [] }

/-- 'fretsawlaw08.DfaRuns': WHATEVER THE INPUT: true; the input reads as it did. -/
def dfaRunsSpec : ChangeSpec := { name := "dfaRuns", fn := fun _ => fun
  | [d1, d2, d3] => { results := [.lit (.bool true)], args := [d1, d2, d3] }
  | _ => none }
def dfaRunsRow : OpenClaim := { program := "ytnadkmdbbmbdpaa", sum := "131dd85308e7d25c22bbfffe0a87054d550d77767ec215bd0d2c8ac03386eb49", func := "fretsaw/fretsawlaw08.DfaRuns", spec := "dfaRuns", unfollowed := true, recurses := true, apart := false }
def DfaRunsSaid : Prop := dfaRunsRow.holds Try.pinned (OpenSpec.ofChange dfaRunsSpec)

/-- ITS FALSE NEIGHBOUR: 'it returns false'. Refute it at one input. -/
def dfaRunsWrong : ChangeSpec := { name := "dfaRuns", fn := fun _ => fun
  | [d1, d2, d3] => { results := [.lit (.bool false)], args := [d1, d2, d3] }
  | _ => none }
def DfaRunsWrongFalsely : Prop := dfaRunsRow.holds Try.pinned (OpenSpec.ofChange dfaRunsWrong)

/-- 'fretsawlaw08.DfaBegins': WHATEVER THE INPUT: true; the input reads as it did. -/
def dfaBeginsSpec : ChangeSpec := { name := "dfaBegins", fn := fun _ => fun
  | [d1, d2, d3] => { results := [.lit (.bool true)], args := [d1, d2, d3] }
  | _ => none }
def dfaBeginsRow : OpenClaim := { program := "ytnadkmdbbmbdpaa", sum := "131dd85308e7d25c22bbfffe0a87054d550d77767ec215bd0d2c8ac03386eb49", func := "fretsaw/fretsawlaw08.DfaBegins", spec := "dfaBegins", unfollowed := true, recurses := true, apart := false }
def DfaBeginsSaid : Prop := dfaBeginsRow.holds Try.pinned (OpenSpec.ofChange dfaBeginsSpec)

/-- ITS FALSE NEIGHBOUR: 'it returns false'. Refute it at one input. -/
def dfaBeginsWrong : ChangeSpec := { name := "dfaBegins", fn := fun _ => fun
  | [d1, d2, d3] => { results := [.lit (.bool false)], args := [d1, d2, d3] }
  | _ => none }
def DfaBeginsWrongFalsely : Prop := dfaBeginsRow.holds Try.pinned (OpenSpec.ofChange dfaBeginsWrong)

/-- 'fretsawlaw10.PieceSplits': WHATEVER THE INPUT: true; the input reads as it did. -/
def pieceSplitsSpec : ChangeSpec := { name := "pieceSplits", fn := fun _ => fun
  | [d1, d2] => { results := [.lit (.bool true)], args := [d1, d2] }
  | _ => none }
def pieceSplitsRow : OpenClaim := { program := "ytnadkmdbbmbdpaa", sum := "131dd85308e7d25c22bbfffe0a87054d550d77767ec215bd0d2c8ac03386eb49", func := "fretsaw/fretsawlaw10.PieceSplits", spec := "pieceSplits", unfollowed := true, recurses := true, apart := false }
def PieceSplitsSaid : Prop := pieceSplitsRow.holds Try.pinned (OpenSpec.ofChange pieceSplitsSpec)

/-- ITS FALSE NEIGHBOUR: 'it returns false'. Refute it at one input. -/
def pieceSplitsWrong : ChangeSpec := { name := "pieceSplits", fn := fun _ => fun
  | [d1, d2] => { results := [.lit (.bool false)], args := [d1, d2] }
  | _ => none }
def PieceSplitsWrongFalsely : Prop := pieceSplitsRow.holds Try.pinned (OpenSpec.ofChange pieceSplitsWrong)

/-- 'fretsawlaw10.PieceWhole': WHATEVER THE INPUT: true; the input reads as it did. -/
def pieceWholeSpec : ChangeSpec := { name := "pieceWhole", fn := fun _ => fun
  | [d1, d2, d3] => { results := [.lit (.bool true)], args := [d1, d2, d3] }
  | _ => none }
def pieceWholeRow : OpenClaim := { program := "ytnadkmdbbmbdpaa", sum := "131dd85308e7d25c22bbfffe0a87054d550d77767ec215bd0d2c8ac03386eb49", func := "fretsaw/fretsawlaw10.PieceWhole", spec := "pieceWhole", inPlace := ["internal/abi.NoEscape", "internal/bytealg.MakeNoZero"], unfollowed := true, recurses := true, apart := false }
def PieceWholeSaid : Prop := pieceWholeRow.holds Try.pinned (OpenSpec.ofChange pieceWholeSpec)

/-- ITS FALSE NEIGHBOUR: 'it returns false'. Refute it at one input. -/
def pieceWholeWrong : ChangeSpec := { name := "pieceWhole", fn := fun _ => fun
  | [d1, d2, d3] => { results := [.lit (.bool false)], args := [d1, d2, d3] }
  | _ => none }
def PieceWholeWrongFalsely : Prop := pieceWholeRow.holds Try.pinned (OpenSpec.ofChange pieceWholeWrong)

/- THE SECOND FORM. 'bulk': how many values and letters a reading holds, each counted each time it is reached (what is shared counts as often as it is met; a slice's spare places count too). A statement '..UptoSaid' is the law's where the arguments, and the package variables that the reading takes, are together of bulk at most 1048576: NARROWER than '..Said'. Prove '..Said' where nothing that the law and all that it calls make is longer than what came in: it says more and counts as full. Else prove '..UptoSaid'. A law counts once. -/
mutual
def uptoBulk {H : Type} : DataW H → Nat
  | .lit (.string bytes) => bytes.length + 1
  | .lit _ => 1
  | .nil => 1
  | .ptr d => uptoBulk d + 1
  | .slice elems spare => uptoBulkAll elems + uptoBulkAll spare + 1
  | .agg parts => uptoBulkAll parts + 1
  | .iface _ d => uptoBulk d + 1
  | .map entries => uptoBulkEntries entries + 1
  | .held _ => 1
def uptoBulkAll {H : Type} : List (DataW H) → Nat
  | [] => 0
  | d :: r => uptoBulk d + uptoBulkAll r
def uptoBulkEntries {H : Type} : List (Lit × DataW H) → Nat
  | [] => 0
  | x :: r => uptoBulkEntry x + uptoBulkEntries r
def uptoBulkEntry {H : Type} : Lit × DataW H → Nat
  | (.string bytes, d) => bytes.length + uptoBulk d + 1
  | (_, d) => uptoBulk d + 1
 end
def uptoSmall : (H : Type) → List (DataW H) → Bool := fun _ ds => decide (uptoBulkAll ds ≤ 1048576)
def OpenSpec.upto (s : _root_.Go.ChangeSpec) : _root_.Go.OpenSpec := { _root_.Go.OpenSpec.ofChange s with cond := some uptoSmall }

/-- 'fretsawlaw08.DfaRuns', WHERE WHAT IT READS IS OF BULK AT MOST 1048576: true; the input reads as it did. -/
def dfaRunsUptoRow : OpenClaim := { program := "ytnadkmdbbmbdpaa", sum := "131dd85308e7d25c22bbfffe0a87054d550d77767ec215bd0d2c8ac03386eb49", func := "fretsaw/fretsawlaw08.DfaRuns", spec := "dfaRuns", unfollowed := true, recurses := true, apart := false, narrowed := true }
def DfaRunsUptoSaid : Prop := dfaRunsUptoRow.holds Try.pinned (OpenSpec.upto dfaRunsSpec)

/-- 'fretsawlaw08.DfaBegins', WHERE WHAT IT READS IS OF BULK AT MOST 1048576: true; the input reads as it did. -/
def dfaBeginsUptoRow : OpenClaim := { program := "ytnadkmdbbmbdpaa", sum := "131dd85308e7d25c22bbfffe0a87054d550d77767ec215bd0d2c8ac03386eb49", func := "fretsaw/fretsawlaw08.DfaBegins", spec := "dfaBegins", unfollowed := true, recurses := true, apart := false, narrowed := true }
def DfaBeginsUptoSaid : Prop := dfaBeginsUptoRow.holds Try.pinned (OpenSpec.upto dfaBeginsSpec)

/-- 'fretsawlaw10.PieceSplits', WHERE WHAT IT READS IS OF BULK AT MOST 1048576: true; the input reads as it did. -/
def pieceSplitsUptoRow : OpenClaim := { program := "ytnadkmdbbmbdpaa", sum := "131dd85308e7d25c22bbfffe0a87054d550d77767ec215bd0d2c8ac03386eb49", func := "fretsaw/fretsawlaw10.PieceSplits", spec := "pieceSplits", unfollowed := true, recurses := true, apart := false, narrowed := true }
def PieceSplitsUptoSaid : Prop := pieceSplitsUptoRow.holds Try.pinned (OpenSpec.upto pieceSplitsSpec)

/-- 'fretsawlaw10.PieceWhole', WHERE WHAT IT READS IS OF BULK AT MOST 1048576: true; the input reads as it did. -/
def pieceWholeUptoRow : OpenClaim := { program := "ytnadkmdbbmbdpaa", sum := "131dd85308e7d25c22bbfffe0a87054d550d77767ec215bd0d2c8ac03386eb49", func := "fretsaw/fretsawlaw10.PieceWhole", spec := "pieceWhole", inPlace := ["internal/abi.NoEscape", "internal/bytealg.MakeNoZero"], unfollowed := true, recurses := true, apart := false, narrowed := true }
def PieceWholeUptoSaid : Prop := pieceWholeUptoRow.holds Try.pinned (OpenSpec.upto pieceWholeSpec)

end Rows
end Go.Proofs.Ytnadkmdbbmbdpaa
