/-
  NARROWER THAN 'FOR EVERY INPUT', by the rows' own cells (each row's printed sentence says how): PieceWords: loops · DfaAgrees: loops · MiniOne: loops.
  DERIVED. THE GIVEN ROWS OF THIS SEAT. 5 by the template 'for every input the law returns true; each argument reads behind the call as it read before'; 0 by the template 'total and deterministic' (their statements: YtfjhcoeehjephaaTotals.lean).
  GIVEN WITH THE SEED: the statements are not yours to turn. If you find one false, say at which input.
  Laid BY PROGRAM, IN A SANDBOX (cutbox-rows.mjs): the forced cells as the released guide's own fill.sh prints them over the translation bd19dab2a49eaddd… (all of the seat's roots in one cut). By AI agents, Wed Nov 11 2026. No macro, syntax, notation, axiom, sorry.
-/
import Derived.Test.YtfjhcoeehjephaaChecked
import GoSem.Claim
import GoSem.ClaimJoined
import GoSem.ClaimMapViews
import Derived.JoinedTies
import Derived.KernelRfl
namespace Go.Proofs.Ytfjhcoeehjephaa
/- THE CELL 'sum', in the pinned program and in every row, IS THE sha256 OF THE DUMP (.gsa) THAT YtfjhcoeehjephaaProg.lean LOADS. Nothing in Lean hashes anything: it is a label: what it is worth is what the hold of that sum in a sandbox is worth. -/
noncomputable def Try.pinned : Pinned := { name := "ytfjhcoeehjephaa", sum := "bd19dab2a49eaddd8636ee5496f26b4957cac003a17aae88adf92224a5025f37", checked := Try.checked }
namespace Rows
def none {H : Type} : Left H := { results := [], args := [] }

/-- 'fretsawlaw08.DfaBuilds': WHATEVER THE INPUT: true; the input reads as it did. -/
def dfaBuildsSpec : ChangeSpec := { name := "dfaBuilds", fn := fun _ => fun
  | [d] => { results := [.lit (.bool true)], args := [d] }
  | _ => none }
def dfaBuildsRow : OpenClaim := { program := "ytfjhcoeehjephaa", sum := "bd19dab2a49eaddd8636ee5496f26b4957cac003a17aae88adf92224a5025f37", func := "fretsaw/fretsawlaw08.DfaBuilds", spec := "dfaBuilds", unfollowed := true, recurses := true, plainKeys := false, apart := false }
def DfaBuildsSaid : Prop := dfaBuildsRow.holds Try.pinned (OpenSpec.ofChange dfaBuildsSpec)

/-- ITS FALSE NEIGHBOUR: 'it returns false'. Refute it at one input. -/
def dfaBuildsWrong : ChangeSpec := { name := "dfaBuilds", fn := fun _ => fun
  | [d] => { results := [.lit (.bool false)], args := [d] }
  | _ => none }
def DfaBuildsWrongFalsely : Prop := dfaBuildsRow.holds Try.pinned (OpenSpec.ofChange dfaBuildsWrong)

/-- 'fretsawlaw08.DfaTakes': WHATEVER THE INPUT: true; the input reads as it did. -/
def dfaTakesSpec : ChangeSpec := { name := "dfaTakes", fn := fun _ => fun
  | [d1, d2, d3] => { results := [.lit (.bool true)], args := [d1, d2, d3] }
  | _ => none }
def dfaTakesRow : OpenClaim := { program := "ytfjhcoeehjephaa", sum := "bd19dab2a49eaddd8636ee5496f26b4957cac003a17aae88adf92224a5025f37", func := "fretsaw/fretsawlaw08.DfaTakes", spec := "dfaTakes", unfollowed := true, recurses := true, plainKeys := false, apart := false }
def DfaTakesSaid : Prop := dfaTakesRow.holds Try.pinned (OpenSpec.ofChange dfaTakesSpec)

/-- ITS FALSE NEIGHBOUR: 'it returns false'. Refute it at one input. -/
def dfaTakesWrong : ChangeSpec := { name := "dfaTakes", fn := fun _ => fun
  | [d1, d2, d3] => { results := [.lit (.bool false)], args := [d1, d2, d3] }
  | _ => none }
def DfaTakesWrongFalsely : Prop := dfaTakesRow.holds Try.pinned (OpenSpec.ofChange dfaTakesWrong)

/-- 'fretsawlaw10.PieceWords': WHATEVER THE INPUT: true; the input reads as it did. -/
def pieceWordsSpec : ChangeSpec := { name := "pieceWords", fn := fun _ => fun
  | [d1, d2] => { results := [.lit (.bool true)], args := [d1, d2] }
  | _ => none }
def pieceWordsRow : OpenClaim := { program := "ytfjhcoeehjephaa", sum := "bd19dab2a49eaddd8636ee5496f26b4957cac003a17aae88adf92224a5025f37", func := "fretsaw/fretsawlaw10.PieceWords", spec := "pieceWords", unfollowed := true, recurses := true, loops := true, plainKeys := false, apart := false }
def PieceWordsSaid : Prop := pieceWordsRow.holds Try.pinned (OpenSpec.ofChange pieceWordsSpec)

/-- ITS FALSE NEIGHBOUR: 'it returns false'. Refute it at one input. -/
def pieceWordsWrong : ChangeSpec := { name := "pieceWords", fn := fun _ => fun
  | [d1, d2] => { results := [.lit (.bool false)], args := [d1, d2] }
  | _ => none }
def PieceWordsWrongFalsely : Prop := pieceWordsRow.holds Try.pinned (OpenSpec.ofChange pieceWordsWrong)

/-- 'fretsawlaw08.DfaAgrees': WHATEVER THE INPUT: true; the input reads as it did. -/
def dfaAgreesSpec : ChangeSpec := { name := "dfaAgrees", fn := fun _ => fun
  | [d1, d2, d3] => { results := [.lit (.bool true)], args := [d1, d2, d3] }
  | _ => none }
def dfaAgreesRow : OpenClaim := { program := "ytfjhcoeehjephaa", sum := "bd19dab2a49eaddd8636ee5496f26b4957cac003a17aae88adf92224a5025f37", func := "fretsaw/fretsawlaw08.DfaAgrees", spec := "dfaAgrees", unfollowed := true, recurses := true, loops := true, plainKeys := false, apart := false }
def DfaAgreesSaid : Prop := dfaAgreesRow.holds Try.pinned (OpenSpec.ofChange dfaAgreesSpec)

/-- ITS FALSE NEIGHBOUR: 'it returns false'. Refute it at one input. -/
def dfaAgreesWrong : ChangeSpec := { name := "dfaAgrees", fn := fun _ => fun
  | [d1, d2, d3] => { results := [.lit (.bool false)], args := [d1, d2, d3] }
  | _ => none }
def DfaAgreesWrongFalsely : Prop := dfaAgreesRow.holds Try.pinned (OpenSpec.ofChange dfaAgreesWrong)

/-- 'fretsawlaw09.MiniOne': WHATEVER THE INPUT: true; the input reads as it did. -/
def miniOneSpec : ChangeSpec := { name := "miniOne", fn := fun _ => fun
  | [d1, d2] => { results := [.lit (.bool true)], args := [d1, d2] }
  | _ => none }
def miniOneRow : OpenClaim := { program := "ytfjhcoeehjephaa", sum := "bd19dab2a49eaddd8636ee5496f26b4957cac003a17aae88adf92224a5025f37", func := "fretsaw/fretsawlaw09.MiniOne", spec := "miniOne", unfollowed := true, recurses := true, loops := true, plainKeys := false, apart := false }
def MiniOneSaid : Prop := miniOneRow.holds Try.pinned (OpenSpec.ofChange miniOneSpec)

/-- ITS FALSE NEIGHBOUR: 'it returns false'. Refute it at one input. -/
def miniOneWrong : ChangeSpec := { name := "miniOne", fn := fun _ => fun
  | [d1, d2] => { results := [.lit (.bool false)], args := [d1, d2] }
  | _ => none }
def MiniOneWrongFalsely : Prop := miniOneRow.holds Try.pinned (OpenSpec.ofChange miniOneWrong)

/- THE SECOND FORM. 'bulk': how many values and letters a reading holds, each counted each time it is reached (what is shared counts as often as it is met; a slice's spare places count too). A statement '..UptoSaid' is the law's where the arguments, and the package variables that the reading takes, are together of bulk at most 1048576: NARROWER than '..Said'. Prove '..Said' where nothing that the law and all that it calls make is longer than what came in: it says more and counts as full. Else prove '..UptoSaid'. A law counts once. -/
mutual
def uptoBulk {H : Type} : DataW H → Nat
  | .lit (.string bytes) => bytes.length + 1
  | .lit _ => 1
  | .nil => 1
  | .ptr d => uptoBulk d + 1
  | .slice elems spare => uptoBulkAll elems + uptoBulkAll spare + 1
  | .agg parts => uptoBulkAll parts + 1
  | .iface _ d => uptoBulk d + 1
  | .map entries => uptoBulkEntries entries + 1
  | .held _ => 1
def uptoBulkAll {H : Type} : List (DataW H) → Nat
  | [] => 0
  | d :: r => uptoBulk d + uptoBulkAll r
def uptoBulkEntries {H : Type} : List (Lit × DataW H) → Nat
  | [] => 0
  | x :: r => uptoBulkEntry x + uptoBulkEntries r
def uptoBulkEntry {H : Type} : Lit × DataW H → Nat
  | (.string bytes, d) => bytes.length + uptoBulk d + 1
  | (_, d) => uptoBulk d + 1
 end
def uptoSmall : (H : Type) → List (DataW H) → Bool := fun _ ds => decide (uptoBulkAll ds ≤ 1048576)
def OpenSpec.upto (s : _root_.Go.ChangeSpec) : _root_.Go.OpenSpec := { _root_.Go.OpenSpec.ofChange s with cond := some uptoSmall }

/-- 'fretsawlaw08.DfaBuilds', WHERE WHAT IT READS IS OF BULK AT MOST 1048576: true; the input reads as it did. -/
def dfaBuildsUptoRow : OpenClaim := { program := "ytfjhcoeehjephaa", sum := "bd19dab2a49eaddd8636ee5496f26b4957cac003a17aae88adf92224a5025f37", func := "fretsaw/fretsawlaw08.DfaBuilds", spec := "dfaBuilds", unfollowed := true, recurses := true, plainKeys := false, apart := false, narrowed := true }
def DfaBuildsUptoSaid : Prop := dfaBuildsUptoRow.holds Try.pinned (OpenSpec.upto dfaBuildsSpec)

/-- 'fretsawlaw08.DfaTakes', WHERE WHAT IT READS IS OF BULK AT MOST 1048576: true; the input reads as it did. -/
def dfaTakesUptoRow : OpenClaim := { program := "ytfjhcoeehjephaa", sum := "bd19dab2a49eaddd8636ee5496f26b4957cac003a17aae88adf92224a5025f37", func := "fretsaw/fretsawlaw08.DfaTakes", spec := "dfaTakes", unfollowed := true, recurses := true, plainKeys := false, apart := false, narrowed := true }
def DfaTakesUptoSaid : Prop := dfaTakesUptoRow.holds Try.pinned (OpenSpec.upto dfaTakesSpec)

/-- 'fretsawlaw10.PieceWords', WHERE WHAT IT READS IS OF BULK AT MOST 1048576: true; the input reads as it did. -/
def pieceWordsUptoRow : OpenClaim := { program := "ytfjhcoeehjephaa", sum := "bd19dab2a49eaddd8636ee5496f26b4957cac003a17aae88adf92224a5025f37", func := "fretsaw/fretsawlaw10.PieceWords", spec := "pieceWords", unfollowed := true, recurses := true, loops := true, plainKeys := false, apart := false, narrowed := true }
def PieceWordsUptoSaid : Prop := pieceWordsUptoRow.holds Try.pinned (OpenSpec.upto pieceWordsSpec)

/-- 'fretsawlaw08.DfaAgrees', WHERE WHAT IT READS IS OF BULK AT MOST 1048576: true; the input reads as it did. -/
def dfaAgreesUptoRow : OpenClaim := { program := "ytfjhcoeehjephaa", sum := "bd19dab2a49eaddd8636ee5496f26b4957cac003a17aae88adf92224a5025f37", func := "fretsaw/fretsawlaw08.DfaAgrees", spec := "dfaAgrees", unfollowed := true, recurses := true, loops := true, plainKeys := false, apart := false, narrowed := true }
def DfaAgreesUptoSaid : Prop := dfaAgreesUptoRow.holds Try.pinned (OpenSpec.upto dfaAgreesSpec)

/-- 'fretsawlaw09.MiniOne', WHERE WHAT IT READS IS OF BULK AT MOST 1048576: true; the input reads as it did. -/
def miniOneUptoRow : OpenClaim := { program := "ytfjhcoeehjephaa", sum := "bd19dab2a49eaddd8636ee5496f26b4957cac003a17aae88adf92224a5025f37", func := "fretsaw/fretsawlaw09.MiniOne", spec := "miniOne", unfollowed := true, recurses := true, loops := true, plainKeys := false, apart := false, narrowed := true }
def MiniOneUptoSaid : Prop := miniOneUptoRow.holds Try.pinned (OpenSpec.upto miniOneSpec)

end Rows
end Go.Proofs.Ytfjhcoeehjephaa
