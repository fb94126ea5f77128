/-
  No cell of these rows narrows 'for every input' (looked for: loops, veiled, ifaces, maps, wideKeys, modest, calm, conditions, laid).
  DERIVED. THE GIVEN ROWS OF THIS SEAT. 3 by the template 'for every input the law returns true; each argument reads behind the call as it read before'; 0 by the template 'total and deterministic' (their statements: YtjpifofnlcajfaaTotals.lean).
  GIVEN WITH THE SEED: the statements are not yours to turn. If you find one false, say at which input.
  Laid BY PROGRAM, IN A SANDBOX (cutbox-rows.mjs): the forced cells as the released guide's own fill.sh prints them over the translation 9fde958c1248b8e6… (all of the seat's roots in one cut). By AI agents, Wed Nov 11 2026. No macro, syntax, notation, axiom, sorry.
-/
import Derived.Test.YtjpifofnlcajfaaChecked
import GoSem.Claim
import GoSem.ClaimJoined
import GoSem.ClaimMapViews
import Derived.JoinedTies
import Derived.KernelRfl
namespace Go.Proofs.Ytjpifofnlcajfaa
/- THE CELL 'sum', in the pinned program and in every row, IS THE sha256 OF THE DUMP (.gsa) THAT YtjpifofnlcajfaaProg.lean LOADS. Nothing in Lean hashes anything: it is a label: what it is worth is what the hold of that sum in a sandbox is worth. -/
noncomputable def Try.pinned : Pinned := { name := "ytjpifofnlcajfaa", sum := "9fde958c1248b8e6764c11b3e77139567f17c2c5198c90a3d59ca702130bb548", checked := Try.checked }
namespace Rows
def none {H : Type} : Left H := { results := [], args := [] }

/-- 'fretsawlaw07.NfaFree': WHATEVER THE INPUT: true; the input reads as it did. -/
def nfaFreeSpec : ChangeSpec := { name := "nfaFree", fn := fun _ => fun
  | [d1, d2] => { results := [.lit (.bool true)], args := [d1, d2] }
  | _ => none }
def nfaFreeRow : OpenClaim := { program := "ytjpifofnlcajfaa", sum := "9fde958c1248b8e6764c11b3e77139567f17c2c5198c90a3d59ca702130bb548", func := "fretsaw/fretsawlaw07.NfaFree", spec := "nfaFree", unfollowed := true, recurses := true, apart := false }
def NfaFreeSaid : Prop := nfaFreeRow.holds Try.pinned (OpenSpec.ofChange nfaFreeSpec)

/-- ITS FALSE NEIGHBOUR: 'it returns false'. Refute it at one input. -/
def nfaFreeWrong : ChangeSpec := { name := "nfaFree", fn := fun _ => fun
  | [d1, d2] => { results := [.lit (.bool false)], args := [d1, d2] }
  | _ => none }
def NfaFreeWrongFalsely : Prop := nfaFreeRow.holds Try.pinned (OpenSpec.ofChange nfaFreeWrong)

/-- 'fretsawlaw07.NfaRuns': WHATEVER THE INPUT: true; the input reads as it did. -/
def nfaRunsSpec : ChangeSpec := { name := "nfaRuns", fn := fun _ => fun
  | [d1, d2, d3] => { results := [.lit (.bool true)], args := [d1, d2, d3] }
  | _ => none }
def nfaRunsRow : OpenClaim := { program := "ytjpifofnlcajfaa", sum := "9fde958c1248b8e6764c11b3e77139567f17c2c5198c90a3d59ca702130bb548", func := "fretsaw/fretsawlaw07.NfaRuns", spec := "nfaRuns", unfollowed := true, recurses := true, apart := false }
def NfaRunsSaid : Prop := nfaRunsRow.holds Try.pinned (OpenSpec.ofChange nfaRunsSpec)

/-- ITS FALSE NEIGHBOUR: 'it returns false'. Refute it at one input. -/
def nfaRunsWrong : ChangeSpec := { name := "nfaRuns", fn := fun _ => fun
  | [d1, d2, d3] => { results := [.lit (.bool false)], args := [d1, d2, d3] }
  | _ => none }
def NfaRunsWrongFalsely : Prop := nfaRunsRow.holds Try.pinned (OpenSpec.ofChange nfaRunsWrong)

/-- 'fretsawlaw07.NfaEmpty': WHATEVER THE INPUT: true; the input reads as it did. -/
def nfaEmptySpec : ChangeSpec := { name := "nfaEmpty", fn := fun _ => fun
  | [d] => { results := [.lit (.bool true)], args := [d] }
  | _ => none }
def nfaEmptyRow : OpenClaim := { program := "ytjpifofnlcajfaa", sum := "9fde958c1248b8e6764c11b3e77139567f17c2c5198c90a3d59ca702130bb548", func := "fretsaw/fretsawlaw07.NfaEmpty", spec := "nfaEmpty", unfollowed := true, recurses := true, apart := false }
def NfaEmptySaid : Prop := nfaEmptyRow.holds Try.pinned (OpenSpec.ofChange nfaEmptySpec)

/-- ITS FALSE NEIGHBOUR: 'it returns false'. Refute it at one input. -/
def nfaEmptyWrong : ChangeSpec := { name := "nfaEmpty", fn := fun _ => fun
  | [d] => { results := [.lit (.bool false)], args := [d] }
  | _ => none }
def NfaEmptyWrongFalsely : Prop := nfaEmptyRow.holds Try.pinned (OpenSpec.ofChange nfaEmptyWrong)

/- THE SECOND FORM. 'bulk': how many values and letters a reading holds, each counted each time it is reached (what is shared counts as often as it is met; a slice's spare places count too). A statement '..UptoSaid' is the law's where the arguments, and the package variables that the reading takes, are together of bulk at most 1048576: NARROWER than '..Said'. Prove '..Said' where nothing that the law and all that it calls make is longer than what came in: it says more and counts as full. Else prove '..UptoSaid'. A law counts once. -/
mutual
def uptoBulk {H : Type} : DataW H → Nat
  | .lit (.string bytes) => bytes.length + 1
  | .lit _ => 1
  | .nil => 1
  | .ptr d => uptoBulk d + 1
  | .slice elems spare => uptoBulkAll elems + uptoBulkAll spare + 1
  | .agg parts => uptoBulkAll parts + 1
  | .iface _ d => uptoBulk d + 1
  | .map entries => uptoBulkEntries entries + 1
  | .held _ => 1
def uptoBulkAll {H : Type} : List (DataW H) → Nat
  | [] => 0
  | d :: r => uptoBulk d + uptoBulkAll r
def uptoBulkEntries {H : Type} : List (Lit × DataW H) → Nat
  | [] => 0
  | x :: r => uptoBulkEntry x + uptoBulkEntries r
def uptoBulkEntry {H : Type} : Lit × DataW H → Nat
  | (.string bytes, d) => bytes.length + uptoBulk d + 1
  | (_, d) => uptoBulk d + 1
 end
def uptoSmall : (H : Type) → List (DataW H) → Bool := fun _ ds => decide (uptoBulkAll ds ≤ 1048576)
def OpenSpec.upto (s : _root_.Go.ChangeSpec) : _root_.Go.OpenSpec := { _root_.Go.OpenSpec.ofChange s with cond := some uptoSmall }

/-- 'fretsawlaw07.NfaFree', WHERE WHAT IT READS IS OF BULK AT MOST 1048576: true; the input reads as it did. -/
def nfaFreeUptoRow : OpenClaim := { program := "ytjpifofnlcajfaa", sum := "9fde958c1248b8e6764c11b3e77139567f17c2c5198c90a3d59ca702130bb548", func := "fretsaw/fretsawlaw07.NfaFree", spec := "nfaFree", unfollowed := true, recurses := true, apart := false, narrowed := true }
def NfaFreeUptoSaid : Prop := nfaFreeUptoRow.holds Try.pinned (OpenSpec.upto nfaFreeSpec)

/-- 'fretsawlaw07.NfaRuns', WHERE WHAT IT READS IS OF BULK AT MOST 1048576: true; the input reads as it did. -/
def nfaRunsUptoRow : OpenClaim := { program := "ytjpifofnlcajfaa", sum := "9fde958c1248b8e6764c11b3e77139567f17c2c5198c90a3d59ca702130bb548", func := "fretsaw/fretsawlaw07.NfaRuns", spec := "nfaRuns", unfollowed := true, recurses := true, apart := false, narrowed := true }
def NfaRunsUptoSaid : Prop := nfaRunsUptoRow.holds Try.pinned (OpenSpec.upto nfaRunsSpec)

/-- 'fretsawlaw07.NfaEmpty', WHERE WHAT IT READS IS OF BULK AT MOST 1048576: true; the input reads as it did. -/
def nfaEmptyUptoRow : OpenClaim := { program := "ytjpifofnlcajfaa", sum := "9fde958c1248b8e6764c11b3e77139567f17c2c5198c90a3d59ca702130bb548", func := "fretsaw/fretsawlaw07.NfaEmpty", spec := "nfaEmpty", unfollowed := true, recurses := true, apart := false, narrowed := true }
def NfaEmptyUptoSaid : Prop := nfaEmptyUptoRow.holds Try.pinned (OpenSpec.upto nfaEmptySpec)

end Rows
end Go.Proofs.Ytjpifofnlcajfaa
