/-
  No cell of these rows narrows 'for every input' (looked for: loops, veiled, ifaces, maps, wideKeys, modest, calm, conditions, laid).
  DERIVED. THE GIVEN ROWS OF THIS SEAT. 4 by the template 'for every input the law returns true; each argument reads behind the call as it read before'; 0 by the template 'total and deterministic' (their statements: YtiaigdedkdeeoaaTotals.lean).
  GIVEN WITH THE SEED: the statements are not yours to turn. If you find one false, say at which input.
  Laid BY PROGRAM, IN A SANDBOX (cutbox-rows.mjs): the forced cells as the released guide's own fill.sh prints them over the translation 1df2ccdd59a79132… (all of the seat's roots in one cut). By AI agents, Wed Nov 11 2026. No macro, syntax, notation, axiom, sorry.
-/
import Derived.Test.YtiaigdedkdeeoaaChecked
import GoSem.Claim
import GoSem.ClaimJoined
import GoSem.ClaimMapViews
import Derived.JoinedTies
import Derived.KernelRfl
namespace Go.Proofs.Ytiaigdedkdeeoaa
/- THE CELL 'sum', in the pinned program and in every row, IS THE sha256 OF THE DUMP (.gsa) THAT YtiaigdedkdeeoaaProg.lean LOADS. Nothing in Lean hashes anything: it is a label: what it is worth is what the hold of that sum in a sandbox is worth. -/
noncomputable def Try.pinned : Pinned := { name := "ytiaigdedkdeeoaa", sum := "1df2ccdd59a791324cf079e062283e164441ebd0c6ee4845181d5cec6a90c2b7", checked := Try.checked }
namespace Rows
def none {H : Type} : Left H := { results := [], args := [] }

/-- 'fretsawlaw09.MiniLeast': WHATEVER THE INPUT: true; the input reads as it did. -/
def miniLeastSpec : ChangeSpec := { name := "miniLeast", fn := fun _ => fun
  | [d] => { results := [.lit (.bool true)], args := [d] }
  | _ => none }
def miniLeastRow : OpenClaim := { program := "ytiaigdedkdeeoaa", sum := "1df2ccdd59a791324cf079e062283e164441ebd0c6ee4845181d5cec6a90c2b7", func := "fretsaw/fretsawlaw09.MiniLeast", spec := "miniLeast", unfollowed := true, recurses := true, plainKeys := false, apart := false }
def MiniLeastSaid : Prop := miniLeastRow.holds Try.pinned (OpenSpec.ofChange miniLeastSpec)

/-- ITS FALSE NEIGHBOUR: 'it returns false'. Refute it at one input. -/
def miniLeastWrong : ChangeSpec := { name := "miniLeast", fn := fun _ => fun
  | [d] => { results := [.lit (.bool false)], args := [d] }
  | _ => none }
def MiniLeastWrongFalsely : Prop := miniLeastRow.holds Try.pinned (OpenSpec.ofChange miniLeastWrong)

/-- 'fretsawlaw09.MiniOnce': WHATEVER THE INPUT: true; the input reads as it did. -/
def miniOnceSpec : ChangeSpec := { name := "miniOnce", fn := fun _ => fun
  | [d] => { results := [.lit (.bool true)], args := [d] }
  | _ => none }
def miniOnceRow : OpenClaim := { program := "ytiaigdedkdeeoaa", sum := "1df2ccdd59a791324cf079e062283e164441ebd0c6ee4845181d5cec6a90c2b7", func := "fretsaw/fretsawlaw09.MiniOnce", spec := "miniOnce", unfollowed := true, recurses := true, plainKeys := false, apart := false }
def MiniOnceSaid : Prop := miniOnceRow.holds Try.pinned (OpenSpec.ofChange miniOnceSpec)

/-- ITS FALSE NEIGHBOUR: 'it returns false'. Refute it at one input. -/
def miniOnceWrong : ChangeSpec := { name := "miniOnce", fn := fun _ => fun
  | [d] => { results := [.lit (.bool false)], args := [d] }
  | _ => none }
def MiniOnceWrongFalsely : Prop := miniOnceRow.holds Try.pinned (OpenSpec.ofChange miniOnceWrong)

/-- 'fretsawlaw09.MiniMaps': WHATEVER THE INPUT: true; the input reads as it did. -/
def miniMapsSpec : ChangeSpec := { name := "miniMaps", fn := fun _ => fun
  | [d1, d2] => { results := [.lit (.bool true)], args := [d1, d2] }
  | _ => none }
def miniMapsRow : OpenClaim := { program := "ytiaigdedkdeeoaa", sum := "1df2ccdd59a791324cf079e062283e164441ebd0c6ee4845181d5cec6a90c2b7", func := "fretsaw/fretsawlaw09.MiniMaps", spec := "miniMaps", unfollowed := true, recurses := true, plainKeys := false, apart := false }
def MiniMapsSaid : Prop := miniMapsRow.holds Try.pinned (OpenSpec.ofChange miniMapsSpec)

/-- ITS FALSE NEIGHBOUR: 'it returns false'. Refute it at one input. -/
def miniMapsWrong : ChangeSpec := { name := "miniMaps", fn := fun _ => fun
  | [d1, d2] => { results := [.lit (.bool false)], args := [d1, d2] }
  | _ => none }
def MiniMapsWrongFalsely : Prop := miniMapsRow.holds Try.pinned (OpenSpec.ofChange miniMapsWrong)

/-- 'fretsawlaw09.MiniSame': WHATEVER THE INPUT: true; the input reads as it did. -/
def miniSameSpec : ChangeSpec := { name := "miniSame", fn := fun _ => fun
  | [d1, d2, d3, d4] => { results := [.lit (.bool true)], args := [d1, d2, d3, d4] }
  | _ => none }
def miniSameRow : OpenClaim := { program := "ytiaigdedkdeeoaa", sum := "1df2ccdd59a791324cf079e062283e164441ebd0c6ee4845181d5cec6a90c2b7", func := "fretsaw/fretsawlaw09.MiniSame", spec := "miniSame", unfollowed := true, recurses := true, plainKeys := false, apart := false }
def MiniSameSaid : Prop := miniSameRow.holds Try.pinned (OpenSpec.ofChange miniSameSpec)

/-- ITS FALSE NEIGHBOUR: 'it returns false'. Refute it at one input. -/
def miniSameWrong : ChangeSpec := { name := "miniSame", fn := fun _ => fun
  | [d1, d2, d3, d4] => { results := [.lit (.bool false)], args := [d1, d2, d3, d4] }
  | _ => none }
def MiniSameWrongFalsely : Prop := miniSameRow.holds Try.pinned (OpenSpec.ofChange miniSameWrong)

/- THE SECOND FORM. 'bulk': how many values and letters a reading holds, each counted each time it is reached (what is shared counts as often as it is met; a slice's spare places count too). A statement '..UptoSaid' is the law's where the arguments, and the package variables that the reading takes, are together of bulk at most 1048576: NARROWER than '..Said'. Prove '..Said' where nothing that the law and all that it calls make is longer than what came in: it says more and counts as full. Else prove '..UptoSaid'. A law counts once. -/
mutual
def uptoBulk {H : Type} : DataW H → Nat
  | .lit (.string bytes) => bytes.length + 1
  | .lit _ => 1
  | .nil => 1
  | .ptr d => uptoBulk d + 1
  | .slice elems spare => uptoBulkAll elems + uptoBulkAll spare + 1
  | .agg parts => uptoBulkAll parts + 1
  | .iface _ d => uptoBulk d + 1
  | .map entries => uptoBulkEntries entries + 1
  | .held _ => 1
def uptoBulkAll {H : Type} : List (DataW H) → Nat
  | [] => 0
  | d :: r => uptoBulk d + uptoBulkAll r
def uptoBulkEntries {H : Type} : List (Lit × DataW H) → Nat
  | [] => 0
  | x :: r => uptoBulkEntry x + uptoBulkEntries r
def uptoBulkEntry {H : Type} : Lit × DataW H → Nat
  | (.string bytes, d) => bytes.length + uptoBulk d + 1
  | (_, d) => uptoBulk d + 1
 end
def uptoSmall : (H : Type) → List (DataW H) → Bool := fun _ ds => decide (uptoBulkAll ds ≤ 1048576)
def OpenSpec.upto (s : _root_.Go.ChangeSpec) : _root_.Go.OpenSpec := { _root_.Go.OpenSpec.ofChange s with cond := some uptoSmall }

/-- 'fretsawlaw09.MiniLeast', WHERE WHAT IT READS IS OF BULK AT MOST 1048576: true; the input reads as it did. -/
def miniLeastUptoRow : OpenClaim := { program := "ytiaigdedkdeeoaa", sum := "1df2ccdd59a791324cf079e062283e164441ebd0c6ee4845181d5cec6a90c2b7", func := "fretsaw/fretsawlaw09.MiniLeast", spec := "miniLeast", unfollowed := true, recurses := true, plainKeys := false, apart := false, narrowed := true }
def MiniLeastUptoSaid : Prop := miniLeastUptoRow.holds Try.pinned (OpenSpec.upto miniLeastSpec)

/-- 'fretsawlaw09.MiniOnce', WHERE WHAT IT READS IS OF BULK AT MOST 1048576: true; the input reads as it did. -/
def miniOnceUptoRow : OpenClaim := { program := "ytiaigdedkdeeoaa", sum := "1df2ccdd59a791324cf079e062283e164441ebd0c6ee4845181d5cec6a90c2b7", func := "fretsaw/fretsawlaw09.MiniOnce", spec := "miniOnce", unfollowed := true, recurses := true, plainKeys := false, apart := false, narrowed := true }
def MiniOnceUptoSaid : Prop := miniOnceUptoRow.holds Try.pinned (OpenSpec.upto miniOnceSpec)

/-- 'fretsawlaw09.MiniMaps', WHERE WHAT IT READS IS OF BULK AT MOST 1048576: true; the input reads as it did. -/
def miniMapsUptoRow : OpenClaim := { program := "ytiaigdedkdeeoaa", sum := "1df2ccdd59a791324cf079e062283e164441ebd0c6ee4845181d5cec6a90c2b7", func := "fretsaw/fretsawlaw09.MiniMaps", spec := "miniMaps", unfollowed := true, recurses := true, plainKeys := false, apart := false, narrowed := true }
def MiniMapsUptoSaid : Prop := miniMapsUptoRow.holds Try.pinned (OpenSpec.upto miniMapsSpec)

/-- 'fretsawlaw09.MiniSame', WHERE WHAT IT READS IS OF BULK AT MOST 1048576: true; the input reads as it did. -/
def miniSameUptoRow : OpenClaim := { program := "ytiaigdedkdeeoaa", sum := "1df2ccdd59a791324cf079e062283e164441ebd0c6ee4845181d5cec6a90c2b7", func := "fretsaw/fretsawlaw09.MiniSame", spec := "miniSame", unfollowed := true, recurses := true, plainKeys := false, apart := false, narrowed := true }
def MiniSameUptoSaid : Prop := miniSameUptoRow.holds Try.pinned (OpenSpec.upto miniSameSpec)

end Rows
end Go.Proofs.Ytiaigdedkdeeoaa
