/-
  No cell of these rows narrows 'for every input' (looked for: loops, veiled, ifaces, maps, wideKeys, modest, calm, conditions, laid).
  DERIVED. THE GIVEN ROWS OF THIS SEAT. 10 by the template 'for every input the law returns true; each argument reads behind the call as it read before'; 0 by the template 'total and deterministic' (their statements: YthjnkpoalbddkaaTotals.lean).
  GIVEN WITH THE SEED: the statements are not yours to turn. If you find one false, say at which input.
  Laid BY PROGRAM, IN A SANDBOX (cutbox-rows.mjs): the forced cells as the released guide's own fill.sh prints them over the translation 4727fd9a6dc588a0… (all of the seat's roots in one cut). By AI agents, Wed Nov 11 2026. No macro, syntax, notation, axiom, sorry.
-/
import Derived.Test.YthjnkpoalbddkaaChecked
import GoSem.Claim
import GoSem.ClaimJoined
import GoSem.ClaimMapViews
import Derived.JoinedTies
import Derived.KernelRfl
namespace Go.Proofs.Ythjnkpoalbddkaa
/- THE CELL 'sum', in the pinned program and in every row, IS THE sha256 OF THE DUMP (.gsa) THAT YthjnkpoalbddkaaProg.lean LOADS. Nothing in Lean hashes anything: it is a label: what it is worth is what the hold of that sum in a sandbox is worth. -/
noncomputable def Try.pinned : Pinned := { name := "ythjnkpoalbddkaa", sum := "4727fd9a6dc588a051dbb870648c2497d2da9aec502a277ba9596326ccd4bb96", checked := Try.checked }
namespace Rows
def none {H : Type} : Left H := { results := [], args := [] }

/-- 'fretsawlaw11.RuleRewrites': WHATEVER THE INPUT: true; the input reads as it did. -/
def ruleRewritesSpec : ChangeSpec := { name := "ruleRewrites", fn := fun _ => fun
  | [d1, d2] => { results := [.lit (.bool true)], args := [d1, d2] }
  | _ => none }
def ruleRewritesRow : OpenClaim := { program := "ythjnkpoalbddkaa", sum := "4727fd9a6dc588a051dbb870648c2497d2da9aec502a277ba9596326ccd4bb96", func := "fretsaw/fretsawlaw11.RuleRewrites", spec := "ruleRewrites", inPlace := ["internal/abi.NoEscape"], plainKeys := false, apart := false }
def RuleRewritesSaid : Prop := ruleRewritesRow.holds Try.pinned (OpenSpec.ofChange ruleRewritesSpec)

/-- ITS FALSE NEIGHBOUR: 'it returns false'. Refute it at one input. -/
def ruleRewritesWrong : ChangeSpec := { name := "ruleRewrites", fn := fun _ => fun
  | [d1, d2] => { results := [.lit (.bool false)], args := [d1, d2] }
  | _ => none }
def RuleRewritesWrongFalsely : Prop := ruleRewritesRow.holds Try.pinned (OpenSpec.ofChange ruleRewritesWrong)

/-- 'fretsawlaw11.RuleBehind': WHATEVER THE INPUT: true; the input reads as it did. -/
def ruleBehindSpec : ChangeSpec := { name := "ruleBehind", fn := fun _ => fun
  | [d1, d2, d3] => { results := [.lit (.bool true)], args := [d1, d2, d3] }
  | _ => none }
def ruleBehindRow : OpenClaim := { program := "ythjnkpoalbddkaa", sum := "4727fd9a6dc588a051dbb870648c2497d2da9aec502a277ba9596326ccd4bb96", func := "fretsaw/fretsawlaw11.RuleBehind", spec := "ruleBehind", inPlace := ["internal/abi.NoEscape"], plainKeys := false, apart := false }
def RuleBehindSaid : Prop := ruleBehindRow.holds Try.pinned (OpenSpec.ofChange ruleBehindSpec)

/-- ITS FALSE NEIGHBOUR: 'it returns false'. Refute it at one input. -/
def ruleBehindWrong : ChangeSpec := { name := "ruleBehind", fn := fun _ => fun
  | [d1, d2, d3] => { results := [.lit (.bool false)], args := [d1, d2, d3] }
  | _ => none }
def RuleBehindWrongFalsely : Prop := ruleBehindRow.holds Try.pinned (OpenSpec.ofChange ruleBehindWrong)

/-- 'fretsawlaw11.RuleGrows': WHATEVER THE INPUT: true; the input reads as it did. -/
def ruleGrowsSpec : ChangeSpec := { name := "ruleGrows", fn := fun _ => fun
  | [d1, d2] => { results := [.lit (.bool true)], args := [d1, d2] }
  | _ => none }
def ruleGrowsRow : OpenClaim := { program := "ythjnkpoalbddkaa", sum := "4727fd9a6dc588a051dbb870648c2497d2da9aec502a277ba9596326ccd4bb96", func := "fretsaw/fretsawlaw11.RuleGrows", spec := "ruleGrows", inPlace := ["internal/abi.NoEscape"], plainKeys := false, apart := false }
def RuleGrowsSaid : Prop := ruleGrowsRow.holds Try.pinned (OpenSpec.ofChange ruleGrowsSpec)

/-- ITS FALSE NEIGHBOUR: 'it returns false'. Refute it at one input. -/
def ruleGrowsWrong : ChangeSpec := { name := "ruleGrows", fn := fun _ => fun
  | [d1, d2] => { results := [.lit (.bool false)], args := [d1, d2] }
  | _ => none }
def RuleGrowsWrongFalsely : Prop := ruleGrowsRow.holds Try.pinned (OpenSpec.ofChange ruleGrowsWrong)

/-- 'fretsawlaw11.RuleOrder': WHATEVER THE INPUT: true; the input reads as it did. -/
def ruleOrderSpec : ChangeSpec := { name := "ruleOrder", fn := fun _ => fun
  | [d1, d2, d3, d4] => { results := [.lit (.bool true)], args := [d1, d2, d3, d4] }
  | _ => none }
def ruleOrderRow : OpenClaim := { program := "ythjnkpoalbddkaa", sum := "4727fd9a6dc588a051dbb870648c2497d2da9aec502a277ba9596326ccd4bb96", func := "fretsaw/fretsawlaw11.RuleOrder", spec := "ruleOrder", inPlace := ["internal/abi.NoEscape", "internal/bytealg.IndexByteString", "internal/bytealg.IndexString"], named := ["internal/bytealg.MaxLen"], plainKeys := false, apart := false }
def RuleOrderSaid : Prop := ruleOrderRow.holds Try.pinned (OpenSpec.ofChange ruleOrderSpec)

/-- ITS FALSE NEIGHBOUR: 'it returns false'. Refute it at one input. -/
def ruleOrderWrong : ChangeSpec := { name := "ruleOrder", fn := fun _ => fun
  | [d1, d2, d3, d4] => { results := [.lit (.bool false)], args := [d1, d2, d3, d4] }
  | _ => none }
def RuleOrderWrongFalsely : Prop := ruleOrderRow.holds Try.pinned (OpenSpec.ofChange ruleOrderWrong)

/-- 'fretsawlaw12.TransRuns': WHATEVER THE INPUT: true; the input reads as it did. -/
def transRunsSpec : ChangeSpec := { name := "transRuns", fn := fun _ => fun
  | [d1, d2] => { results := [.lit (.bool true)], args := [d1, d2] }
  | _ => none }
def transRunsRow : OpenClaim := { program := "ythjnkpoalbddkaa", sum := "4727fd9a6dc588a051dbb870648c2497d2da9aec502a277ba9596326ccd4bb96", func := "fretsaw/fretsawlaw12.TransRuns", spec := "transRuns", inPlace := ["internal/abi.NoEscape"], unfollowed := true, recurses := true, plainKeys := false, apart := false }
def TransRunsSaid : Prop := transRunsRow.holds Try.pinned (OpenSpec.ofChange transRunsSpec)

/-- ITS FALSE NEIGHBOUR: 'it returns false'. Refute it at one input. -/
def transRunsWrong : ChangeSpec := { name := "transRuns", fn := fun _ => fun
  | [d1, d2] => { results := [.lit (.bool false)], args := [d1, d2] }
  | _ => none }
def TransRunsWrongFalsely : Prop := transRunsRow.holds Try.pinned (OpenSpec.ofChange transRunsWrong)

/-- 'fretsawlaw12.TransGrows': WHATEVER THE INPUT: true; the input reads as it did. -/
def transGrowsSpec : ChangeSpec := { name := "transGrows", fn := fun _ => fun
  | [d1, d2] => { results := [.lit (.bool true)], args := [d1, d2] }
  | _ => none }
def transGrowsRow : OpenClaim := { program := "ythjnkpoalbddkaa", sum := "4727fd9a6dc588a051dbb870648c2497d2da9aec502a277ba9596326ccd4bb96", func := "fretsaw/fretsawlaw12.TransGrows", spec := "transGrows", inPlace := ["internal/abi.NoEscape"], unfollowed := true, recurses := true, plainKeys := false, apart := false }
def TransGrowsSaid : Prop := transGrowsRow.holds Try.pinned (OpenSpec.ofChange transGrowsSpec)

/-- ITS FALSE NEIGHBOUR: 'it returns false'. Refute it at one input. -/
def transGrowsWrong : ChangeSpec := { name := "transGrows", fn := fun _ => fun
  | [d1, d2] => { results := [.lit (.bool false)], args := [d1, d2] }
  | _ => none }
def TransGrowsWrongFalsely : Prop := transGrowsRow.holds Try.pinned (OpenSpec.ofChange transGrowsWrong)

/-- 'fretsawlaw12.TransBytes': WHATEVER THE INPUT: true; the input reads as it did. -/
def transBytesSpec : ChangeSpec := { name := "transBytes", fn := fun _ => fun
  | [d1, d2] => { results := [.lit (.bool true)], args := [d1, d2] }
  | _ => none }
def transBytesRow : OpenClaim := { program := "ythjnkpoalbddkaa", sum := "4727fd9a6dc588a051dbb870648c2497d2da9aec502a277ba9596326ccd4bb96", func := "fretsaw/fretsawlaw12.TransBytes", spec := "transBytes", inPlace := ["internal/abi.NoEscape"], unfollowed := true, recurses := true, plainKeys := false, apart := false }
def TransBytesSaid : Prop := transBytesRow.holds Try.pinned (OpenSpec.ofChange transBytesSpec)

/-- ITS FALSE NEIGHBOUR: 'it returns false'. Refute it at one input. -/
def transBytesWrong : ChangeSpec := { name := "transBytes", fn := fun _ => fun
  | [d1, d2] => { results := [.lit (.bool false)], args := [d1, d2] }
  | _ => none }
def TransBytesWrongFalsely : Prop := transBytesRow.holds Try.pinned (OpenSpec.ofChange transBytesWrong)

/-- 'fretsawlaw12.TransThen': WHATEVER THE INPUT: true; the input reads as it did. -/
def transThenSpec : ChangeSpec := { name := "transThen", fn := fun _ => fun
  | [d1, d2, d3] => { results := [.lit (.bool true)], args := [d1, d2, d3] }
  | _ => none }
def transThenRow : OpenClaim := { program := "ythjnkpoalbddkaa", sum := "4727fd9a6dc588a051dbb870648c2497d2da9aec502a277ba9596326ccd4bb96", func := "fretsaw/fretsawlaw12.TransThen", spec := "transThen", inPlace := ["internal/abi.NoEscape"], unfollowed := true, recurses := true, plainKeys := false, apart := false }
def TransThenSaid : Prop := transThenRow.holds Try.pinned (OpenSpec.ofChange transThenSpec)

/-- ITS FALSE NEIGHBOUR: 'it returns false'. Refute it at one input. -/
def transThenWrong : ChangeSpec := { name := "transThen", fn := fun _ => fun
  | [d1, d2, d3] => { results := [.lit (.bool false)], args := [d1, d2, d3] }
  | _ => none }
def TransThenWrongFalsely : Prop := transThenRow.holds Try.pinned (OpenSpec.ofChange transThenWrong)

/-- 'fretsawlaw12.TransRules': WHATEVER THE INPUT: true; the input reads as it did. -/
def transRulesSpec : ChangeSpec := { name := "transRules", fn := fun _ => fun
  | [d1, d2] => { results := [.lit (.bool true)], args := [d1, d2] }
  | _ => none }
def transRulesRow : OpenClaim := { program := "ythjnkpoalbddkaa", sum := "4727fd9a6dc588a051dbb870648c2497d2da9aec502a277ba9596326ccd4bb96", func := "fretsaw/fretsawlaw12.TransRules", spec := "transRules", inPlace := ["internal/abi.NoEscape"], unfollowed := true, recurses := true, plainKeys := false, apart := false }
def TransRulesSaid : Prop := transRulesRow.holds Try.pinned (OpenSpec.ofChange transRulesSpec)

/-- ITS FALSE NEIGHBOUR: 'it returns false'. Refute it at one input. -/
def transRulesWrong : ChangeSpec := { name := "transRules", fn := fun _ => fun
  | [d1, d2] => { results := [.lit (.bool false)], args := [d1, d2] }
  | _ => none }
def TransRulesWrongFalsely : Prop := transRulesRow.holds Try.pinned (OpenSpec.ofChange transRulesWrong)

/-- 'fretsawlaw12.TransJoins': WHATEVER THE INPUT: true; the input reads as it did. -/
def transJoinsSpec : ChangeSpec := { name := "transJoins", fn := fun _ => fun
  | [d1, d2, d3] => { results := [.lit (.bool true)], args := [d1, d2, d3] }
  | _ => none }
def transJoinsRow : OpenClaim := { program := "ythjnkpoalbddkaa", sum := "4727fd9a6dc588a051dbb870648c2497d2da9aec502a277ba9596326ccd4bb96", func := "fretsaw/fretsawlaw12.TransJoins", spec := "transJoins", inPlace := ["internal/abi.NoEscape"], unfollowed := true, recurses := true, plainKeys := false, apart := false }
def TransJoinsSaid : Prop := transJoinsRow.holds Try.pinned (OpenSpec.ofChange transJoinsSpec)

/-- ITS FALSE NEIGHBOUR: 'it returns false'. Refute it at one input. -/
def transJoinsWrong : ChangeSpec := { name := "transJoins", fn := fun _ => fun
  | [d1, d2, d3] => { results := [.lit (.bool false)], args := [d1, d2, d3] }
  | _ => none }
def TransJoinsWrongFalsely : Prop := transJoinsRow.holds Try.pinned (OpenSpec.ofChange transJoinsWrong)

/- THE SECOND FORM. 'bulk': how many values and letters a reading holds, each counted each time it is reached (what is shared counts as often as it is met; a slice's spare places count too). A statement '..UptoSaid' is the law's where the arguments, and the package variables that the reading takes, are together of bulk at most 1048576: NARROWER than '..Said'. Prove '..Said' where nothing that the law and all that it calls make is longer than what came in: it says more and counts as full. Else prove '..UptoSaid'. A law counts once. -/
mutual
def uptoBulk {H : Type} : DataW H → Nat
  | .lit (.string bytes) => bytes.length + 1
  | .lit _ => 1
  | .nil => 1
  | .ptr d => uptoBulk d + 1
  | .slice elems spare => uptoBulkAll elems + uptoBulkAll spare + 1
  | .agg parts => uptoBulkAll parts + 1
  | .iface _ d => uptoBulk d + 1
  | .map entries => uptoBulkEntries entries + 1
  | .held _ => 1
def uptoBulkAll {H : Type} : List (DataW H) → Nat
  | [] => 0
  | d :: r => uptoBulk d + uptoBulkAll r
def uptoBulkEntries {H : Type} : List (Lit × DataW H) → Nat
  | [] => 0
  | x :: r => uptoBulkEntry x + uptoBulkEntries r
def uptoBulkEntry {H : Type} : Lit × DataW H → Nat
  | (.string bytes, d) => bytes.length + uptoBulk d + 1
  | (_, d) => uptoBulk d + 1
 end
def uptoSmall : (H : Type) → List (DataW H) → Bool := fun _ ds => decide (uptoBulkAll ds ≤ 1048576)
def OpenSpec.upto (s : _root_.Go.ChangeSpec) : _root_.Go.OpenSpec := { _root_.Go.OpenSpec.ofChange s with cond := some uptoSmall }

/-- 'fretsawlaw11.RuleRewrites', WHERE WHAT IT READS IS OF BULK AT MOST 1048576: true; the input reads as it did. -/
def ruleRewritesUptoRow : OpenClaim := { program := "ythjnkpoalbddkaa", sum := "4727fd9a6dc588a051dbb870648c2497d2da9aec502a277ba9596326ccd4bb96", func := "fretsaw/fretsawlaw11.RuleRewrites", spec := "ruleRewrites", inPlace := ["internal/abi.NoEscape"], plainKeys := false, apart := false, narrowed := true }
def RuleRewritesUptoSaid : Prop := ruleRewritesUptoRow.holds Try.pinned (OpenSpec.upto ruleRewritesSpec)

/-- 'fretsawlaw11.RuleBehind', WHERE WHAT IT READS IS OF BULK AT MOST 1048576: true; the input reads as it did. -/
def ruleBehindUptoRow : OpenClaim := { program := "ythjnkpoalbddkaa", sum := "4727fd9a6dc588a051dbb870648c2497d2da9aec502a277ba9596326ccd4bb96", func := "fretsaw/fretsawlaw11.RuleBehind", spec := "ruleBehind", inPlace := ["internal/abi.NoEscape"], plainKeys := false, apart := false, narrowed := true }
def RuleBehindUptoSaid : Prop := ruleBehindUptoRow.holds Try.pinned (OpenSpec.upto ruleBehindSpec)

/-- 'fretsawlaw11.RuleGrows', WHERE WHAT IT READS IS OF BULK AT MOST 1048576: true; the input reads as it did. -/
def ruleGrowsUptoRow : OpenClaim := { program := "ythjnkpoalbddkaa", sum := "4727fd9a6dc588a051dbb870648c2497d2da9aec502a277ba9596326ccd4bb96", func := "fretsaw/fretsawlaw11.RuleGrows", spec := "ruleGrows", inPlace := ["internal/abi.NoEscape"], plainKeys := false, apart := false, narrowed := true }
def RuleGrowsUptoSaid : Prop := ruleGrowsUptoRow.holds Try.pinned (OpenSpec.upto ruleGrowsSpec)

/-- 'fretsawlaw11.RuleOrder', WHERE WHAT IT READS IS OF BULK AT MOST 1048576: true; the input reads as it did. -/
def ruleOrderUptoRow : OpenClaim := { program := "ythjnkpoalbddkaa", sum := "4727fd9a6dc588a051dbb870648c2497d2da9aec502a277ba9596326ccd4bb96", func := "fretsaw/fretsawlaw11.RuleOrder", spec := "ruleOrder", inPlace := ["internal/abi.NoEscape", "internal/bytealg.IndexByteString", "internal/bytealg.IndexString"], named := ["internal/bytealg.MaxLen"], plainKeys := false, apart := false, narrowed := true }
def RuleOrderUptoSaid : Prop := ruleOrderUptoRow.holds Try.pinned (OpenSpec.upto ruleOrderSpec)

/-- 'fretsawlaw12.TransRuns', WHERE WHAT IT READS IS OF BULK AT MOST 1048576: true; the input reads as it did. -/
def transRunsUptoRow : OpenClaim := { program := "ythjnkpoalbddkaa", sum := "4727fd9a6dc588a051dbb870648c2497d2da9aec502a277ba9596326ccd4bb96", func := "fretsaw/fretsawlaw12.TransRuns", spec := "transRuns", inPlace := ["internal/abi.NoEscape"], unfollowed := true, recurses := true, plainKeys := false, apart := false, narrowed := true }
def TransRunsUptoSaid : Prop := transRunsUptoRow.holds Try.pinned (OpenSpec.upto transRunsSpec)

/-- 'fretsawlaw12.TransGrows', WHERE WHAT IT READS IS OF BULK AT MOST 1048576: true; the input reads as it did. -/
def transGrowsUptoRow : OpenClaim := { program := "ythjnkpoalbddkaa", sum := "4727fd9a6dc588a051dbb870648c2497d2da9aec502a277ba9596326ccd4bb96", func := "fretsaw/fretsawlaw12.TransGrows", spec := "transGrows", inPlace := ["internal/abi.NoEscape"], unfollowed := true, recurses := true, plainKeys := false, apart := false, narrowed := true }
def TransGrowsUptoSaid : Prop := transGrowsUptoRow.holds Try.pinned (OpenSpec.upto transGrowsSpec)

/-- 'fretsawlaw12.TransBytes', WHERE WHAT IT READS IS OF BULK AT MOST 1048576: true; the input reads as it did. -/
def transBytesUptoRow : OpenClaim := { program := "ythjnkpoalbddkaa", sum := "4727fd9a6dc588a051dbb870648c2497d2da9aec502a277ba9596326ccd4bb96", func := "fretsaw/fretsawlaw12.TransBytes", spec := "transBytes", inPlace := ["internal/abi.NoEscape"], unfollowed := true, recurses := true, plainKeys := false, apart := false, narrowed := true }
def TransBytesUptoSaid : Prop := transBytesUptoRow.holds Try.pinned (OpenSpec.upto transBytesSpec)

/-- 'fretsawlaw12.TransThen', WHERE WHAT IT READS IS OF BULK AT MOST 1048576: true; the input reads as it did. -/
def transThenUptoRow : OpenClaim := { program := "ythjnkpoalbddkaa", sum := "4727fd9a6dc588a051dbb870648c2497d2da9aec502a277ba9596326ccd4bb96", func := "fretsaw/fretsawlaw12.TransThen", spec := "transThen", inPlace := ["internal/abi.NoEscape"], unfollowed := true, recurses := true, plainKeys := false, apart := false, narrowed := true }
def TransThenUptoSaid : Prop := transThenUptoRow.holds Try.pinned (OpenSpec.upto transThenSpec)

/-- 'fretsawlaw12.TransRules', WHERE WHAT IT READS IS OF BULK AT MOST 1048576: true; the input reads as it did. -/
def transRulesUptoRow : OpenClaim := { program := "ythjnkpoalbddkaa", sum := "4727fd9a6dc588a051dbb870648c2497d2da9aec502a277ba9596326ccd4bb96", func := "fretsaw/fretsawlaw12.TransRules", spec := "transRules", inPlace := ["internal/abi.NoEscape"], unfollowed := true, recurses := true, plainKeys := false, apart := false, narrowed := true }
def TransRulesUptoSaid : Prop := transRulesUptoRow.holds Try.pinned (OpenSpec.upto transRulesSpec)

/-- 'fretsawlaw12.TransJoins', WHERE WHAT IT READS IS OF BULK AT MOST 1048576: true; the input reads as it did. -/
def transJoinsUptoRow : OpenClaim := { program := "ythjnkpoalbddkaa", sum := "4727fd9a6dc588a051dbb870648c2497d2da9aec502a277ba9596326ccd4bb96", func := "fretsaw/fretsawlaw12.TransJoins", spec := "transJoins", inPlace := ["internal/abi.NoEscape"], unfollowed := true, recurses := true, plainKeys := false, apart := false, narrowed := true }
def TransJoinsUptoSaid : Prop := transJoinsUptoRow.holds Try.pinned (OpenSpec.upto transJoinsSpec)

end Rows
end Go.Proofs.Ythjnkpoalbddkaa
