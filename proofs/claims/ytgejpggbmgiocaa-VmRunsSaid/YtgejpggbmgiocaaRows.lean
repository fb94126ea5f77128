/-
  No cell of these rows narrows 'for every input' (looked for: loops, veiled, ifaces, maps, wideKeys, modest, calm, conditions, laid).
  DERIVED. THE GIVEN ROWS OF THIS SEAT. 4 by the template 'for every input the law returns true; each argument reads behind the call as it read before'; 0 by the template 'total and deterministic' (their statements: YtgejpggbmgiocaaTotals.lean).
  GIVEN WITH THE SEED: the statements are not yours to turn. If you find one false, say at which input.
  Laid BY PROGRAM, IN A SANDBOX (cutbox-rows.mjs): the forced cells as the released guide's own fill.sh prints them over the translation 51d911e7e08d7f6b… (all of the seat's roots in one cut). By AI agents, Wed Nov 11 2026. No macro, syntax, notation, axiom, sorry.
-/
import Derived.Test.YtgejpggbmgiocaaChecked
import GoSem.Claim
import GoSem.ClaimJoined
import GoSem.ClaimMapViews
import Derived.JoinedTies
import Derived.KernelRfl
namespace Go.Proofs.Ytgejpggbmgiocaa
/- THE CELL 'sum', in the pinned program and in every row, IS THE sha256 OF THE DUMP (.gsa) THAT YtgejpggbmgiocaaProg.lean LOADS. Nothing in Lean hashes anything: it is a label: what it is worth is what the hold of that sum in a sandbox is worth. -/
noncomputable def Try.pinned : Pinned := { name := "ytgejpggbmgiocaa", sum := "51d911e7e08d7f6bb106ba13d3529446c485e024b187ff6dd7ce11ac42501eb6", checked := Try.checked }
namespace Rows
def none {H : Type} : Left H := { results := [], args := [] }

/-- 'fretsawlaw22.VmMerges': WHATEVER THE INPUT: true; the input reads as it did. -/
def vmMergesSpec : ChangeSpec := { name := "vmMerges", fn := fun _ => fun
  | [d1, d2, d3] => { results := [.lit (.bool true)], args := [d1, d2, d3] }
  | _ => none }
def vmMergesRow : OpenClaim := { program := "ytgejpggbmgiocaa", sum := "51d911e7e08d7f6bb106ba13d3529446c485e024b187ff6dd7ce11ac42501eb6", func := "fretsaw/fretsawlaw22.VmMerges", spec := "vmMerges", unfollowed := true, recurses := true, apart := false }
def VmMergesSaid : Prop := vmMergesRow.holds Try.pinned (OpenSpec.ofChange vmMergesSpec)

/-- ITS FALSE NEIGHBOUR: 'it returns false'. Refute it at one input. -/
def vmMergesWrong : ChangeSpec := { name := "vmMerges", fn := fun _ => fun
  | [d1, d2, d3] => { results := [.lit (.bool false)], args := [d1, d2, d3] }
  | _ => none }
def VmMergesWrongFalsely : Prop := vmMergesRow.holds Try.pinned (OpenSpec.ofChange vmMergesWrong)

/-- 'fretsawlaw22.VmRuns': WHATEVER THE INPUT: true; the input reads as it did. -/
def vmRunsSpec : ChangeSpec := { name := "vmRuns", fn := fun _ => fun
  | [d1, d2, d3] => { results := [.lit (.bool true)], args := [d1, d2, d3] }
  | _ => none }
def vmRunsRow : OpenClaim := { program := "ytgejpggbmgiocaa", sum := "51d911e7e08d7f6bb106ba13d3529446c485e024b187ff6dd7ce11ac42501eb6", func := "fretsaw/fretsawlaw22.VmRuns", spec := "vmRuns", unfollowed := true, recurses := true, apart := false }
def VmRunsSaid : Prop := vmRunsRow.holds Try.pinned (OpenSpec.ofChange vmRunsSpec)

/-- ITS FALSE NEIGHBOUR: 'it returns false'. Refute it at one input. -/
def vmRunsWrong : ChangeSpec := { name := "vmRuns", fn := fun _ => fun
  | [d1, d2, d3] => { results := [.lit (.bool false)], args := [d1, d2, d3] }
  | _ => none }
def VmRunsWrongFalsely : Prop := vmRunsRow.holds Try.pinned (OpenSpec.ofChange vmRunsWrong)

/-- 'fretsawlaw22.VmEchoes': WHATEVER THE INPUT: true; the input reads as it did. -/
def vmEchoesSpec : ChangeSpec := { name := "vmEchoes", fn := fun _ => fun
  | [d1, d2] => { results := [.lit (.bool true)], args := [d1, d2] }
  | _ => none }
def vmEchoesRow : OpenClaim := { program := "ytgejpggbmgiocaa", sum := "51d911e7e08d7f6bb106ba13d3529446c485e024b187ff6dd7ce11ac42501eb6", func := "fretsaw/fretsawlaw22.VmEchoes", spec := "vmEchoes", unfollowed := true, recurses := true, apart := false }
def VmEchoesSaid : Prop := vmEchoesRow.holds Try.pinned (OpenSpec.ofChange vmEchoesSpec)

/-- ITS FALSE NEIGHBOUR: 'it returns false'. Refute it at one input. -/
def vmEchoesWrong : ChangeSpec := { name := "vmEchoes", fn := fun _ => fun
  | [d1, d2] => { results := [.lit (.bool false)], args := [d1, d2] }
  | _ => none }
def VmEchoesWrongFalsely : Prop := vmEchoesRow.holds Try.pinned (OpenSpec.ofChange vmEchoesWrong)

/-- 'fretsawlaw22.VmLess': WHATEVER THE INPUT: true; the input reads as it did. -/
def vmLessSpec : ChangeSpec := { name := "vmLess", fn := fun _ => fun
  | [d1, d2, d3, d4] => { results := [.lit (.bool true)], args := [d1, d2, d3, d4] }
  | _ => none }
def vmLessRow : OpenClaim := { program := "ytgejpggbmgiocaa", sum := "51d911e7e08d7f6bb106ba13d3529446c485e024b187ff6dd7ce11ac42501eb6", func := "fretsaw/fretsawlaw22.VmLess", spec := "vmLess", unfollowed := true, recurses := true, apart := false }
def VmLessSaid : Prop := vmLessRow.holds Try.pinned (OpenSpec.ofChange vmLessSpec)

/-- ITS FALSE NEIGHBOUR: 'it returns false'. Refute it at one input. -/
def vmLessWrong : ChangeSpec := { name := "vmLess", fn := fun _ => fun
  | [d1, d2, d3, d4] => { results := [.lit (.bool false)], args := [d1, d2, d3, d4] }
  | _ => none }
def VmLessWrongFalsely : Prop := vmLessRow.holds Try.pinned (OpenSpec.ofChange vmLessWrong)

/- THE SECOND FORM. 'bulk': how many values and letters a reading holds, each counted each time it is reached (what is shared counts as often as it is met; a slice's spare places count too). A statement '..UptoSaid' is the law's where the arguments, and the package variables that the reading takes, are together of bulk at most 1048576: NARROWER than '..Said'. Prove '..Said' where nothing that the law and all that it calls make is longer than what came in: it says more and counts as full. Else prove '..UptoSaid'. A law counts once. -/
mutual
def uptoBulk {H : Type} : DataW H → Nat
  | .lit (.string bytes) => bytes.length + 1
  | .lit _ => 1
  | .nil => 1
  | .ptr d => uptoBulk d + 1
  | .slice elems spare => uptoBulkAll elems + uptoBulkAll spare + 1
  | .agg parts => uptoBulkAll parts + 1
  | .iface _ d => uptoBulk d + 1
  | .map entries => uptoBulkEntries entries + 1
  | .held _ => 1
def uptoBulkAll {H : Type} : List (DataW H) → Nat
  | [] => 0
  | d :: r => uptoBulk d + uptoBulkAll r
def uptoBulkEntries {H : Type} : List (Lit × DataW H) → Nat
  | [] => 0
  | x :: r => uptoBulkEntry x + uptoBulkEntries r
def uptoBulkEntry {H : Type} : Lit × DataW H → Nat
  | (.string bytes, d) => bytes.length + uptoBulk d + 1
  | (_, d) => uptoBulk d + 1
 end
def uptoSmall : (H : Type) → List (DataW H) → Bool := fun _ ds => decide (uptoBulkAll ds ≤ 1048576)
def OpenSpec.upto (s : _root_.Go.ChangeSpec) : _root_.Go.OpenSpec := { _root_.Go.OpenSpec.ofChange s with cond := some uptoSmall }

/-- 'fretsawlaw22.VmMerges', WHERE WHAT IT READS IS OF BULK AT MOST 1048576: true; the input reads as it did. -/
def vmMergesUptoRow : OpenClaim := { program := "ytgejpggbmgiocaa", sum := "51d911e7e08d7f6bb106ba13d3529446c485e024b187ff6dd7ce11ac42501eb6", func := "fretsaw/fretsawlaw22.VmMerges", spec := "vmMerges", unfollowed := true, recurses := true, apart := false, narrowed := true }
def VmMergesUptoSaid : Prop := vmMergesUptoRow.holds Try.pinned (OpenSpec.upto vmMergesSpec)

/-- 'fretsawlaw22.VmRuns', WHERE WHAT IT READS IS OF BULK AT MOST 1048576: true; the input reads as it did. -/
def vmRunsUptoRow : OpenClaim := { program := "ytgejpggbmgiocaa", sum := "51d911e7e08d7f6bb106ba13d3529446c485e024b187ff6dd7ce11ac42501eb6", func := "fretsaw/fretsawlaw22.VmRuns", spec := "vmRuns", unfollowed := true, recurses := true, apart := false, narrowed := true }
def VmRunsUptoSaid : Prop := vmRunsUptoRow.holds Try.pinned (OpenSpec.upto vmRunsSpec)

/-- 'fretsawlaw22.VmEchoes', WHERE WHAT IT READS IS OF BULK AT MOST 1048576: true; the input reads as it did. -/
def vmEchoesUptoRow : OpenClaim := { program := "ytgejpggbmgiocaa", sum := "51d911e7e08d7f6bb106ba13d3529446c485e024b187ff6dd7ce11ac42501eb6", func := "fretsaw/fretsawlaw22.VmEchoes", spec := "vmEchoes", unfollowed := true, recurses := true, apart := false, narrowed := true }
def VmEchoesUptoSaid : Prop := vmEchoesUptoRow.holds Try.pinned (OpenSpec.upto vmEchoesSpec)

/-- 'fretsawlaw22.VmLess', WHERE WHAT IT READS IS OF BULK AT MOST 1048576: true; the input reads as it did. -/
def vmLessUptoRow : OpenClaim := { program := "ytgejpggbmgiocaa", sum := "51d911e7e08d7f6bb106ba13d3529446c485e024b187ff6dd7ce11ac42501eb6", func := "fretsaw/fretsawlaw22.VmLess", spec := "vmLess", unfollowed := true, recurses := true, apart := false, narrowed := true }
def VmLessUptoSaid : Prop := vmLessUptoRow.holds Try.pinned (OpenSpec.upto vmLessSpec)

end Rows
end Go.Proofs.Ytgejpggbmgiocaa
