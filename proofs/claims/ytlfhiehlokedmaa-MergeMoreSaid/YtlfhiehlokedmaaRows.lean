/-
  No cell of these rows narrows 'for every input' (looked for: loops, veiled, ifaces, maps, wideKeys, modest, calm, conditions, laid).
  DERIVED. THE GIVEN ROWS OF THIS SEAT. 5 by the template 'for every input the law returns true; each argument reads behind the call as it read before'; 0 by the template 'total and deterministic' (their statements: YtlfhiehlokedmaaTotals.lean).
  GIVEN WITH THE SEED: the statements are not yours to turn. If you find one false, say at which input.
  Laid BY PROGRAM, IN A SANDBOX (cutbox-rows.mjs): the forced cells as the released guide's own fill.sh prints them over the translation 4d5c733df38f023a… (all of the seat's roots in one cut). By AI agents, Wed Nov 11 2026. No macro, syntax, notation, axiom, sorry.
-/
import Derived.Test.YtlfhiehlokedmaaChecked
import GoSem.Claim
import GoSem.ClaimJoined
import GoSem.ClaimMapViews
import Derived.JoinedTies
import Derived.KernelRfl
namespace Go.Proofs.Ytlfhiehlokedmaa
/- THE CELL 'sum', in the pinned program and in every row, IS THE sha256 OF THE DUMP (.gsa) THAT YtlfhiehlokedmaaProg.lean LOADS. Nothing in Lean hashes anything: it is a label: what it is worth is what the hold of that sum in a sandbox is worth. -/
noncomputable def Try.pinned : Pinned := { name := "ytlfhiehlokedmaa", sum := "4d5c733df38f023af219fe0e16e507a4dd1d16acf13482efda5ef90e265afc01", checked := Try.checked }
namespace Rows
def none {H : Type} : Left H := { results := [], args := [] }

/-- 'fretsawlaw13.MergeTexts': WHATEVER THE INPUT: true; the input reads as it did. -/
def mergeTextsSpec : ChangeSpec := { name := "mergeTexts", fn := fun _ => fun
  | [d] => { results := [.lit (.bool true)], args := [d] }
  | _ => none }
def mergeTextsRow : OpenClaim := { program := "ytlfhiehlokedmaa", sum := "4d5c733df38f023af219fe0e16e507a4dd1d16acf13482efda5ef90e265afc01", func := "fretsaw/fretsawlaw13.MergeTexts", spec := "mergeTexts", plainKeys := false, apart := false }
def MergeTextsSaid : Prop := mergeTextsRow.holds Try.pinned (OpenSpec.ofChange mergeTextsSpec)

/-- ITS FALSE NEIGHBOUR: 'it returns false'. Refute it at one input. -/
def mergeTextsWrong : ChangeSpec := { name := "mergeTexts", fn := fun _ => fun
  | [d] => { results := [.lit (.bool false)], args := [d] }
  | _ => none }
def MergeTextsWrongFalsely : Prop := mergeTextsRow.holds Try.pinned (OpenSpec.ofChange mergeTextsWrong)

/-- 'fretsawlaw13.MergeApplies': WHATEVER THE INPUT: true; the input reads as it did. -/
def mergeAppliesSpec : ChangeSpec := { name := "mergeApplies", fn := fun _ => fun
  | [d1, d2] => { results := [.lit (.bool true)], args := [d1, d2] }
  | _ => none }
def mergeAppliesRow : OpenClaim := { program := "ytlfhiehlokedmaa", sum := "4d5c733df38f023af219fe0e16e507a4dd1d16acf13482efda5ef90e265afc01", func := "fretsaw/fretsawlaw13.MergeApplies", spec := "mergeApplies", unfollowed := true, recurses := true, plainKeys := false, apart := false }
def MergeAppliesSaid : Prop := mergeAppliesRow.holds Try.pinned (OpenSpec.ofChange mergeAppliesSpec)

/-- ITS FALSE NEIGHBOUR: 'it returns false'. Refute it at one input. -/
def mergeAppliesWrong : ChangeSpec := { name := "mergeApplies", fn := fun _ => fun
  | [d1, d2] => { results := [.lit (.bool false)], args := [d1, d2] }
  | _ => none }
def MergeAppliesWrongFalsely : Prop := mergeAppliesRow.holds Try.pinned (OpenSpec.ofChange mergeAppliesWrong)

/-- 'fretsawlaw13.MergeKeeps': WHATEVER THE INPUT: true; the input reads as it did. -/
def mergeKeepsSpec : ChangeSpec := { name := "mergeKeeps", fn := fun _ => fun
  | [d1, d2] => { results := [.lit (.bool true)], args := [d1, d2] }
  | _ => none }
def mergeKeepsRow : OpenClaim := { program := "ytlfhiehlokedmaa", sum := "4d5c733df38f023af219fe0e16e507a4dd1d16acf13482efda5ef90e265afc01", func := "fretsaw/fretsawlaw13.MergeKeeps", spec := "mergeKeeps", unfollowed := true, recurses := true, plainKeys := false, apart := false }
def MergeKeepsSaid : Prop := mergeKeepsRow.holds Try.pinned (OpenSpec.ofChange mergeKeepsSpec)

/-- ITS FALSE NEIGHBOUR: 'it returns false'. Refute it at one input. -/
def mergeKeepsWrong : ChangeSpec := { name := "mergeKeeps", fn := fun _ => fun
  | [d1, d2] => { results := [.lit (.bool false)], args := [d1, d2] }
  | _ => none }
def MergeKeepsWrongFalsely : Prop := mergeKeepsRow.holds Try.pinned (OpenSpec.ofChange mergeKeepsWrong)

/-- 'fretsawlaw13.MergeTokens': WHATEVER THE INPUT: true; the input reads as it did. -/
def mergeTokensSpec : ChangeSpec := { name := "mergeTokens", fn := fun _ => fun
  | [d1, d2] => { results := [.lit (.bool true)], args := [d1, d2] }
  | _ => none }
def mergeTokensRow : OpenClaim := { program := "ytlfhiehlokedmaa", sum := "4d5c733df38f023af219fe0e16e507a4dd1d16acf13482efda5ef90e265afc01", func := "fretsaw/fretsawlaw13.MergeTokens", spec := "mergeTokens", unfollowed := true, recurses := true, plainKeys := false, apart := false }
def MergeTokensSaid : Prop := mergeTokensRow.holds Try.pinned (OpenSpec.ofChange mergeTokensSpec)

/-- ITS FALSE NEIGHBOUR: 'it returns false'. Refute it at one input. -/
def mergeTokensWrong : ChangeSpec := { name := "mergeTokens", fn := fun _ => fun
  | [d1, d2] => { results := [.lit (.bool false)], args := [d1, d2] }
  | _ => none }
def MergeTokensWrongFalsely : Prop := mergeTokensRow.holds Try.pinned (OpenSpec.ofChange mergeTokensWrong)

/-- 'fretsawlaw13.MergeMore': WHATEVER THE INPUT: true; the input reads as it did. -/
def mergeMoreSpec : ChangeSpec := { name := "mergeMore", fn := fun _ => fun
  | [d1, d2, d3] => { results := [.lit (.bool true)], args := [d1, d2, d3] }
  | _ => none }
def mergeMoreRow : OpenClaim := { program := "ytlfhiehlokedmaa", sum := "4d5c733df38f023af219fe0e16e507a4dd1d16acf13482efda5ef90e265afc01", func := "fretsaw/fretsawlaw13.MergeMore", spec := "mergeMore", unfollowed := true, recurses := true, plainKeys := false, apart := false }
def MergeMoreSaid : Prop := mergeMoreRow.holds Try.pinned (OpenSpec.ofChange mergeMoreSpec)

/-- ITS FALSE NEIGHBOUR: 'it returns false'. Refute it at one input. -/
def mergeMoreWrong : ChangeSpec := { name := "mergeMore", fn := fun _ => fun
  | [d1, d2, d3] => { results := [.lit (.bool false)], args := [d1, d2, d3] }
  | _ => none }
def MergeMoreWrongFalsely : Prop := mergeMoreRow.holds Try.pinned (OpenSpec.ofChange mergeMoreWrong)

/- THE SECOND FORM. 'bulk': how many values and letters a reading holds, each counted each time it is reached (what is shared counts as often as it is met; a slice's spare places count too). A statement '..UptoSaid' is the law's where the arguments, and the package variables that the reading takes, are together of bulk at most 1048576: NARROWER than '..Said'. Prove '..Said' where nothing that the law and all that it calls make is longer than what came in: it says more and counts as full. Else prove '..UptoSaid'. A law counts once. -/
mutual
def uptoBulk {H : Type} : DataW H → Nat
  | .lit (.string bytes) => bytes.length + 1
  | .lit _ => 1
  | .nil => 1
  | .ptr d => uptoBulk d + 1
  | .slice elems spare => uptoBulkAll elems + uptoBulkAll spare + 1
  | .agg parts => uptoBulkAll parts + 1
  | .iface _ d => uptoBulk d + 1
  | .map entries => uptoBulkEntries entries + 1
  | .held _ => 1
def uptoBulkAll {H : Type} : List (DataW H) → Nat
  | [] => 0
  | d :: r => uptoBulk d + uptoBulkAll r
def uptoBulkEntries {H : Type} : List (Lit × DataW H) → Nat
  | [] => 0
  | x :: r => uptoBulkEntry x + uptoBulkEntries r
def uptoBulkEntry {H : Type} : Lit × DataW H → Nat
  | (.string bytes, d) => bytes.length + uptoBulk d + 1
  | (_, d) => uptoBulk d + 1
 end
def uptoSmall : (H : Type) → List (DataW H) → Bool := fun _ ds => decide (uptoBulkAll ds ≤ 1048576)
def OpenSpec.upto (s : _root_.Go.ChangeSpec) : _root_.Go.OpenSpec := { _root_.Go.OpenSpec.ofChange s with cond := some uptoSmall }

/-- 'fretsawlaw13.MergeTexts', WHERE WHAT IT READS IS OF BULK AT MOST 1048576: true; the input reads as it did. -/
def mergeTextsUptoRow : OpenClaim := { program := "ytlfhiehlokedmaa", sum := "4d5c733df38f023af219fe0e16e507a4dd1d16acf13482efda5ef90e265afc01", func := "fretsaw/fretsawlaw13.MergeTexts", spec := "mergeTexts", plainKeys := false, apart := false, narrowed := true }
def MergeTextsUptoSaid : Prop := mergeTextsUptoRow.holds Try.pinned (OpenSpec.upto mergeTextsSpec)

/-- 'fretsawlaw13.MergeApplies', WHERE WHAT IT READS IS OF BULK AT MOST 1048576: true; the input reads as it did. -/
def mergeAppliesUptoRow : OpenClaim := { program := "ytlfhiehlokedmaa", sum := "4d5c733df38f023af219fe0e16e507a4dd1d16acf13482efda5ef90e265afc01", func := "fretsaw/fretsawlaw13.MergeApplies", spec := "mergeApplies", unfollowed := true, recurses := true, plainKeys := false, apart := false, narrowed := true }
def MergeAppliesUptoSaid : Prop := mergeAppliesUptoRow.holds Try.pinned (OpenSpec.upto mergeAppliesSpec)

/-- 'fretsawlaw13.MergeKeeps', WHERE WHAT IT READS IS OF BULK AT MOST 1048576: true; the input reads as it did. -/
def mergeKeepsUptoRow : OpenClaim := { program := "ytlfhiehlokedmaa", sum := "4d5c733df38f023af219fe0e16e507a4dd1d16acf13482efda5ef90e265afc01", func := "fretsaw/fretsawlaw13.MergeKeeps", spec := "mergeKeeps", unfollowed := true, recurses := true, plainKeys := false, apart := false, narrowed := true }
def MergeKeepsUptoSaid : Prop := mergeKeepsUptoRow.holds Try.pinned (OpenSpec.upto mergeKeepsSpec)

/-- 'fretsawlaw13.MergeTokens', WHERE WHAT IT READS IS OF BULK AT MOST 1048576: true; the input reads as it did. -/
def mergeTokensUptoRow : OpenClaim := { program := "ytlfhiehlokedmaa", sum := "4d5c733df38f023af219fe0e16e507a4dd1d16acf13482efda5ef90e265afc01", func := "fretsaw/fretsawlaw13.MergeTokens", spec := "mergeTokens", unfollowed := true, recurses := true, plainKeys := false, apart := false, narrowed := true }
def MergeTokensUptoSaid : Prop := mergeTokensUptoRow.holds Try.pinned (OpenSpec.upto mergeTokensSpec)

/-- 'fretsawlaw13.MergeMore', WHERE WHAT IT READS IS OF BULK AT MOST 1048576: true; the input reads as it did. -/
def mergeMoreUptoRow : OpenClaim := { program := "ytlfhiehlokedmaa", sum := "4d5c733df38f023af219fe0e16e507a4dd1d16acf13482efda5ef90e265afc01", func := "fretsaw/fretsawlaw13.MergeMore", spec := "mergeMore", unfollowed := true, recurses := true, plainKeys := false, apart := false, narrowed := true }
def MergeMoreUptoSaid : Prop := mergeMoreUptoRow.holds Try.pinned (OpenSpec.upto mergeMoreSpec)

end Rows
end Go.Proofs.Ytlfhiehlokedmaa
