/-
  No cell of these rows narrows 'for every input' (looked for: loops, veiled, ifaces, maps, wideKeys, modest, calm, conditions, laid).
  DERIVED. THE GIVEN ROWS OF THIS SEAT. 4 by the template 'for every input the law returns true; each argument reads behind the call as it read before'; 0 by the template 'total and deterministic' (their statements: YtklklmaclaohaaaTotals.lean).
  GIVEN WITH THE SEED: the statements are not yours to turn. If you find one false, say at which input.
  Laid BY PROGRAM, IN A SANDBOX (cutbox-rows.mjs): the forced cells as the released guide's own fill.sh prints them over the translation 48a50c91d9ffc739… (all of the seat's roots in one cut). By AI agents, Wed Nov 11 2026. No macro, syntax, notation, axiom, sorry.
-/
import Derived.Test.YtklklmaclaohaaaChecked
import GoSem.Claim
import GoSem.ClaimJoined
import GoSem.ClaimMapViews
import Derived.JoinedTies
import Derived.KernelRfl
namespace Go.Proofs.Ytklklmaclaohaaa
/- THE CELL 'sum', in the pinned program and in every row, IS THE sha256 OF THE DUMP (.gsa) THAT YtklklmaclaohaaaProg.lean LOADS. Nothing in Lean hashes anything: it is a label: what it is worth is what the hold of that sum in a sandbox is worth. -/
noncomputable def Try.pinned : Pinned := { name := "ytklklmaclaohaaa", sum := "48a50c91d9ffc739516e769184408625aad8f5d108bf27cb0b7b04be9377e620", checked := Try.checked }
namespace Rows
def none {H : Type} : Left H := { results := [], args := [] }

/-- 'fretsawlaw14.HeapTokens': WHATEVER THE INPUT: true; the input reads as it did. -/
def heapTokensSpec : ChangeSpec := { name := "heapTokens", fn := fun _ => fun
  | [d1, d2, d3] => { results := [.lit (.bool true)], args := [d1, d2, d3] }
  | _ => none }
def heapTokensRow : OpenClaim := { program := "ytklklmaclaohaaa", sum := "48a50c91d9ffc739516e769184408625aad8f5d108bf27cb0b7b04be9377e620", func := "fretsaw/fretsawlaw14.HeapTokens", spec := "heapTokens", inPlace := ["(*internal/sync.Mutex).Lock", "internal/race.Disable", "sync/atomic.CompareAndSwapInt32", "internal/race.Enable", "internal/race.Acquire", "(*internal/sync.Mutex).lockSlow", "internal/sync.runtime_canSpin", "internal/sync.runtime_doSpin", "internal/sync.throw", "internal/sync.runtime_nanotime", "internal/sync.runtime_SemacquireMutex", "sync/atomic.AddInt32", "(*internal/sync.Mutex).Unlock", "internal/race.ReleaseMerge", "(*internal/sync.Mutex).unlockSlow", "internal/sync.fatal", "internal/sync.runtime_Semrelease"], unfollowed := true, recurses := true, plainKeys := false, apart := false }
def HeapTokensSaid : Prop := heapTokensRow.holds Try.pinned (OpenSpec.ofChange heapTokensSpec)

/-- ITS FALSE NEIGHBOUR: 'it returns false'. Refute it at one input. -/
def heapTokensWrong : ChangeSpec := { name := "heapTokens", fn := fun _ => fun
  | [d1, d2, d3] => { results := [.lit (.bool false)], args := [d1, d2, d3] }
  | _ => none }
def HeapTokensWrongFalsely : Prop := heapTokensRow.holds Try.pinned (OpenSpec.ofChange heapTokensWrong)

/-- 'fretsawlaw14.HeapRefuses': WHATEVER THE INPUT: true; the input reads as it did. -/
def heapRefusesSpec : ChangeSpec := { name := "heapRefuses", fn := fun _ => fun
  | [d1, d2] => { results := [.lit (.bool true)], args := [d1, d2] }
  | _ => none }
def heapRefusesRow : OpenClaim := { program := "ytklklmaclaohaaa", sum := "48a50c91d9ffc739516e769184408625aad8f5d108bf27cb0b7b04be9377e620", func := "fretsaw/fretsawlaw14.HeapRefuses", spec := "heapRefuses", inPlace := ["(*internal/sync.Mutex).Lock", "internal/race.Disable", "sync/atomic.CompareAndSwapInt32", "internal/race.Enable", "internal/race.Acquire", "(*internal/sync.Mutex).lockSlow", "internal/sync.runtime_canSpin", "internal/sync.runtime_doSpin", "internal/sync.throw", "internal/sync.runtime_nanotime", "internal/sync.runtime_SemacquireMutex", "sync/atomic.AddInt32", "(*internal/sync.Mutex).Unlock", "internal/race.ReleaseMerge", "(*internal/sync.Mutex).unlockSlow", "internal/sync.fatal", "internal/sync.runtime_Semrelease"], unfollowed := true, recurses := true, plainKeys := false, apart := false }
def HeapRefusesSaid : Prop := heapRefusesRow.holds Try.pinned (OpenSpec.ofChange heapRefusesSpec)

/-- ITS FALSE NEIGHBOUR: 'it returns false'. Refute it at one input. -/
def heapRefusesWrong : ChangeSpec := { name := "heapRefuses", fn := fun _ => fun
  | [d1, d2] => { results := [.lit (.bool false)], args := [d1, d2] }
  | _ => none }
def HeapRefusesWrongFalsely : Prop := heapRefusesRow.holds Try.pinned (OpenSpec.ofChange heapRefusesWrong)

/-- 'fretsawlaw14.HeapAgain': WHATEVER THE INPUT: true; the input reads as it did. -/
def heapAgainSpec : ChangeSpec := { name := "heapAgain", fn := fun _ => fun
  | [d1, d2, d3] => { results := [.lit (.bool true)], args := [d1, d2, d3] }
  | _ => none }
def heapAgainRow : OpenClaim := { program := "ytklklmaclaohaaa", sum := "48a50c91d9ffc739516e769184408625aad8f5d108bf27cb0b7b04be9377e620", func := "fretsaw/fretsawlaw14.HeapAgain", spec := "heapAgain", inPlace := ["(*internal/sync.Mutex).Lock", "internal/race.Disable", "sync/atomic.CompareAndSwapInt32", "internal/race.Enable", "internal/race.Acquire", "(*internal/sync.Mutex).lockSlow", "internal/sync.runtime_canSpin", "internal/sync.runtime_doSpin", "internal/sync.throw", "internal/sync.runtime_nanotime", "internal/sync.runtime_SemacquireMutex", "sync/atomic.AddInt32", "(*internal/sync.Mutex).Unlock", "internal/race.ReleaseMerge", "(*internal/sync.Mutex).unlockSlow", "internal/sync.fatal", "internal/sync.runtime_Semrelease"], unfollowed := true, recurses := true, plainKeys := false, apart := false }
def HeapAgainSaid : Prop := heapAgainRow.holds Try.pinned (OpenSpec.ofChange heapAgainSpec)

/-- ITS FALSE NEIGHBOUR: 'it returns false'. Refute it at one input. -/
def heapAgainWrong : ChangeSpec := { name := "heapAgain", fn := fun _ => fun
  | [d1, d2, d3] => { results := [.lit (.bool false)], args := [d1, d2, d3] }
  | _ => none }
def HeapAgainWrongFalsely : Prop := heapAgainRow.holds Try.pinned (OpenSpec.ofChange heapAgainWrong)

/-- 'fretsawlaw14.HeapAgrees': WHATEVER THE INPUT: true; the input reads as it did. -/
def heapAgreesSpec : ChangeSpec := { name := "heapAgrees", fn := fun _ => fun
  | [d1, d2] => { results := [.lit (.bool true)], args := [d1, d2] }
  | _ => none }
def heapAgreesRow : OpenClaim := { program := "ytklklmaclaohaaa", sum := "48a50c91d9ffc739516e769184408625aad8f5d108bf27cb0b7b04be9377e620", func := "fretsaw/fretsawlaw14.HeapAgrees", spec := "heapAgrees", inPlace := ["(*internal/sync.Mutex).Lock", "internal/race.Disable", "sync/atomic.CompareAndSwapInt32", "internal/race.Enable", "internal/race.Acquire", "(*internal/sync.Mutex).lockSlow", "internal/sync.runtime_canSpin", "internal/sync.runtime_doSpin", "internal/sync.throw", "internal/sync.runtime_nanotime", "internal/sync.runtime_SemacquireMutex", "sync/atomic.AddInt32", "(*internal/sync.Mutex).Unlock", "internal/race.ReleaseMerge", "(*internal/sync.Mutex).unlockSlow", "internal/sync.fatal", "internal/sync.runtime_Semrelease"], unfollowed := true, recurses := true, plainKeys := false, apart := false }
def HeapAgreesSaid : Prop := heapAgreesRow.holds Try.pinned (OpenSpec.ofChange heapAgreesSpec)

/-- ITS FALSE NEIGHBOUR: 'it returns false'. Refute it at one input. -/
def heapAgreesWrong : ChangeSpec := { name := "heapAgrees", fn := fun _ => fun
  | [d1, d2] => { results := [.lit (.bool false)], args := [d1, d2] }
  | _ => none }
def HeapAgreesWrongFalsely : Prop := heapAgreesRow.holds Try.pinned (OpenSpec.ofChange heapAgreesWrong)

/- THE SECOND FORM. 'bulk': how many values and letters a reading holds, each counted each time it is reached (what is shared counts as often as it is met; a slice's spare places count too). A statement '..UptoSaid' is the law's where the arguments, and the package variables that the reading takes, are together of bulk at most 1048576: NARROWER than '..Said'. Prove '..Said' where nothing that the law and all that it calls make is longer than what came in: it says more and counts as full. Else prove '..UptoSaid'. A law counts once. -/
mutual
def uptoBulk {H : Type} : DataW H → Nat
  | .lit (.string bytes) => bytes.length + 1
  | .lit _ => 1
  | .nil => 1
  | .ptr d => uptoBulk d + 1
  | .slice elems spare => uptoBulkAll elems + uptoBulkAll spare + 1
  | .agg parts => uptoBulkAll parts + 1
  | .iface _ d => uptoBulk d + 1
  | .map entries => uptoBulkEntries entries + 1
  | .held _ => 1
def uptoBulkAll {H : Type} : List (DataW H) → Nat
  | [] => 0
  | d :: r => uptoBulk d + uptoBulkAll r
def uptoBulkEntries {H : Type} : List (Lit × DataW H) → Nat
  | [] => 0
  | x :: r => uptoBulkEntry x + uptoBulkEntries r
def uptoBulkEntry {H : Type} : Lit × DataW H → Nat
  | (.string bytes, d) => bytes.length + uptoBulk d + 1
  | (_, d) => uptoBulk d + 1
 end
def uptoSmall : (H : Type) → List (DataW H) → Bool := fun _ ds => decide (uptoBulkAll ds ≤ 1048576)
def OpenSpec.upto (s : _root_.Go.ChangeSpec) : _root_.Go.OpenSpec := { _root_.Go.OpenSpec.ofChange s with cond := some uptoSmall }

/-- 'fretsawlaw14.HeapTokens', WHERE WHAT IT READS IS OF BULK AT MOST 1048576: true; the input reads as it did. -/
def heapTokensUptoRow : OpenClaim := { program := "ytklklmaclaohaaa", sum := "48a50c91d9ffc739516e769184408625aad8f5d108bf27cb0b7b04be9377e620", func := "fretsaw/fretsawlaw14.HeapTokens", spec := "heapTokens", inPlace := ["(*internal/sync.Mutex).Lock", "internal/race.Disable", "sync/atomic.CompareAndSwapInt32", "internal/race.Enable", "internal/race.Acquire", "(*internal/sync.Mutex).lockSlow", "internal/sync.runtime_canSpin", "internal/sync.runtime_doSpin", "internal/sync.throw", "internal/sync.runtime_nanotime", "internal/sync.runtime_SemacquireMutex", "sync/atomic.AddInt32", "(*internal/sync.Mutex).Unlock", "internal/race.ReleaseMerge", "(*internal/sync.Mutex).unlockSlow", "internal/sync.fatal", "internal/sync.runtime_Semrelease"], unfollowed := true, recurses := true, plainKeys := false, apart := false, narrowed := true }
def HeapTokensUptoSaid : Prop := heapTokensUptoRow.holds Try.pinned (OpenSpec.upto heapTokensSpec)

/-- 'fretsawlaw14.HeapRefuses', WHERE WHAT IT READS IS OF BULK AT MOST 1048576: true; the input reads as it did. -/
def heapRefusesUptoRow : OpenClaim := { program := "ytklklmaclaohaaa", sum := "48a50c91d9ffc739516e769184408625aad8f5d108bf27cb0b7b04be9377e620", func := "fretsaw/fretsawlaw14.HeapRefuses", spec := "heapRefuses", inPlace := ["(*internal/sync.Mutex).Lock", "internal/race.Disable", "sync/atomic.CompareAndSwapInt32", "internal/race.Enable", "internal/race.Acquire", "(*internal/sync.Mutex).lockSlow", "internal/sync.runtime_canSpin", "internal/sync.runtime_doSpin", "internal/sync.throw", "internal/sync.runtime_nanotime", "internal/sync.runtime_SemacquireMutex", "sync/atomic.AddInt32", "(*internal/sync.Mutex).Unlock", "internal/race.ReleaseMerge", "(*internal/sync.Mutex).unlockSlow", "internal/sync.fatal", "internal/sync.runtime_Semrelease"], unfollowed := true, recurses := true, plainKeys := false, apart := false, narrowed := true }
def HeapRefusesUptoSaid : Prop := heapRefusesUptoRow.holds Try.pinned (OpenSpec.upto heapRefusesSpec)

/-- 'fretsawlaw14.HeapAgain', WHERE WHAT IT READS IS OF BULK AT MOST 1048576: true; the input reads as it did. -/
def heapAgainUptoRow : OpenClaim := { program := "ytklklmaclaohaaa", sum := "48a50c91d9ffc739516e769184408625aad8f5d108bf27cb0b7b04be9377e620", func := "fretsaw/fretsawlaw14.HeapAgain", spec := "heapAgain", inPlace := ["(*internal/sync.Mutex).Lock", "internal/race.Disable", "sync/atomic.CompareAndSwapInt32", "internal/race.Enable", "internal/race.Acquire", "(*internal/sync.Mutex).lockSlow", "internal/sync.runtime_canSpin", "internal/sync.runtime_doSpin", "internal/sync.throw", "internal/sync.runtime_nanotime", "internal/sync.runtime_SemacquireMutex", "sync/atomic.AddInt32", "(*internal/sync.Mutex).Unlock", "internal/race.ReleaseMerge", "(*internal/sync.Mutex).unlockSlow", "internal/sync.fatal", "internal/sync.runtime_Semrelease"], unfollowed := true, recurses := true, plainKeys := false, apart := false, narrowed := true }
def HeapAgainUptoSaid : Prop := heapAgainUptoRow.holds Try.pinned (OpenSpec.upto heapAgainSpec)

/-- 'fretsawlaw14.HeapAgrees', WHERE WHAT IT READS IS OF BULK AT MOST 1048576: true; the input reads as it did. -/
def heapAgreesUptoRow : OpenClaim := { program := "ytklklmaclaohaaa", sum := "48a50c91d9ffc739516e769184408625aad8f5d108bf27cb0b7b04be9377e620", func := "fretsaw/fretsawlaw14.HeapAgrees", spec := "heapAgrees", inPlace := ["(*internal/sync.Mutex).Lock", "internal/race.Disable", "sync/atomic.CompareAndSwapInt32", "internal/race.Enable", "internal/race.Acquire", "(*internal/sync.Mutex).lockSlow", "internal/sync.runtime_canSpin", "internal/sync.runtime_doSpin", "internal/sync.throw", "internal/sync.runtime_nanotime", "internal/sync.runtime_SemacquireMutex", "sync/atomic.AddInt32", "(*internal/sync.Mutex).Unlock", "internal/race.ReleaseMerge", "(*internal/sync.Mutex).unlockSlow", "internal/sync.fatal", "internal/sync.runtime_Semrelease"], unfollowed := true, recurses := true, plainKeys := false, apart := false, narrowed := true }
def HeapAgreesUptoSaid : Prop := heapAgreesUptoRow.holds Try.pinned (OpenSpec.upto heapAgreesSpec)

end Rows
end Go.Proofs.Ytklklmaclaohaaa
