/-
  NARROWER THAN 'FOR EVERY INPUT', by the rows' own cells (each row's printed sentence says how): TokWrites: loops · TokPasses: loops · TokFrames: loops · TokLoses: loops.
  DERIVED. THE GIVEN ROWS OF THIS SEAT. 8 by the template 'for every input the law returns true; each argument reads behind the call as it read before'; 0 by the template 'total and deterministic' (their statements: YtfjgfabochiflaaTotals.lean).
  GIVEN WITH THE SEED: the statements are not yours to turn. If you find one false, say at which input.
  Laid BY PROGRAM, IN A SANDBOX (cutbox-rows.mjs): the forced cells as the released guide's own fill.sh prints them over the translation 73a01a1d9ee1b308… (all of the seat's roots in one cut). By AI agents, Wed Nov 11 2026. No macro, syntax, notation, axiom, sorry.
-/
import Derived.Test.YtfjgfabochiflaaChecked
import GoSem.Claim
import GoSem.ClaimJoined
import GoSem.ClaimMapViews
import Derived.JoinedTies
import Derived.KernelRfl
namespace Go.Proofs.Ytfjgfabochiflaa
/- THE CELL 'sum', in the pinned program and in every row, IS THE sha256 OF THE DUMP (.gsa) THAT YtfjgfabochiflaaProg.lean LOADS. Nothing in Lean hashes anything: it is a label: what it is worth is what the hold of that sum in a sandbox is worth. -/
noncomputable def Try.pinned : Pinned := { name := "ytfjgfabochiflaa", sum := "73a01a1d9ee1b3080d3bc56f317147babef68732c8d1b5c9510ce9e63e0d0cf5", checked := Try.checked }
namespace Rows
def none {H : Type} : Left H := { results := [], args := [] }

/-- 'fretsawlaw18.TokWrites': WHATEVER THE INPUT: true; the input reads as it did. -/
def tokWritesSpec : ChangeSpec := { name := "tokWrites", fn := fun _ => fun
  | [d1, d2] => { results := [.lit (.bool true)], args := [d1, d2] }
  | _ => none }
def tokWritesRow : OpenClaim := { program := "ytfjgfabochiflaa", sum := "73a01a1d9ee1b3080d3bc56f317147babef68732c8d1b5c9510ce9e63e0d0cf5", func := "fretsaw/fretsawlaw18.TokWrites", spec := "tokWrites", inPlace := ["internal/abi.NoEscape"], unfollowed := true, recurses := true, loops := true, plainKeys := false, apart := false }
def TokWritesSaid : Prop := tokWritesRow.holds Try.pinned (OpenSpec.ofChange tokWritesSpec)

/-- ITS FALSE NEIGHBOUR: 'it returns false'. Refute it at one input. -/
def tokWritesWrong : ChangeSpec := { name := "tokWrites", fn := fun _ => fun
  | [d1, d2] => { results := [.lit (.bool false)], args := [d1, d2] }
  | _ => none }
def TokWritesWrongFalsely : Prop := tokWritesRow.holds Try.pinned (OpenSpec.ofChange tokWritesWrong)

/-- 'fretsawlaw20.OptLive': WHATEVER THE INPUT: true; the input reads as it did. -/
def optLiveSpec : ChangeSpec := { name := "optLive", fn := fun _ => fun
  | [d] => { results := [.lit (.bool true)], args := [d] }
  | _ => none }
def optLiveRow : OpenClaim := { program := "ytfjgfabochiflaa", sum := "73a01a1d9ee1b3080d3bc56f317147babef68732c8d1b5c9510ce9e63e0d0cf5", func := "fretsaw/fretsawlaw20.OptLive", spec := "optLive", unfollowed := true, recurses := true, plainKeys := false, apart := false }
def OptLiveSaid : Prop := optLiveRow.holds Try.pinned (OpenSpec.ofChange optLiveSpec)

/-- ITS FALSE NEIGHBOUR: 'it returns false'. Refute it at one input. -/
def optLiveWrong : ChangeSpec := { name := "optLive", fn := fun _ => fun
  | [d] => { results := [.lit (.bool false)], args := [d] }
  | _ => none }
def OptLiveWrongFalsely : Prop := optLiveRow.holds Try.pinned (OpenSpec.ofChange optLiveWrong)

/-- 'fretsawlaw19.IrTells': WHATEVER THE INPUT: true; the input reads as it did. -/
def irTellsSpec : ChangeSpec := { name := "irTells", fn := fun _ => fun
  | [d1, d2] => { results := [.lit (.bool true)], args := [d1, d2] }
  | _ => none }
def irTellsRow : OpenClaim := { program := "ytfjgfabochiflaa", sum := "73a01a1d9ee1b3080d3bc56f317147babef68732c8d1b5c9510ce9e63e0d0cf5", func := "fretsaw/fretsawlaw19.IrTells", spec := "irTells", unfollowed := true, recurses := true, plainKeys := false, apart := false }
def IrTellsSaid : Prop := irTellsRow.holds Try.pinned (OpenSpec.ofChange irTellsSpec)

/-- ITS FALSE NEIGHBOUR: 'it returns false'. Refute it at one input. -/
def irTellsWrong : ChangeSpec := { name := "irTells", fn := fun _ => fun
  | [d1, d2] => { results := [.lit (.bool false)], args := [d1, d2] }
  | _ => none }
def IrTellsWrongFalsely : Prop := irTellsRow.holds Try.pinned (OpenSpec.ofChange irTellsWrong)

/-- 'fretsawlaw19.IrMaps': WHATEVER THE INPUT: true; the input reads as it did. -/
def irMapsSpec : ChangeSpec := { name := "irMaps", fn := fun _ => fun
  | [d1, d2] => { results := [.lit (.bool true)], args := [d1, d2] }
  | _ => none }
def irMapsRow : OpenClaim := { program := "ytfjgfabochiflaa", sum := "73a01a1d9ee1b3080d3bc56f317147babef68732c8d1b5c9510ce9e63e0d0cf5", func := "fretsaw/fretsawlaw19.IrMaps", spec := "irMaps", unfollowed := true, recurses := true, plainKeys := false, apart := false }
def IrMapsSaid : Prop := irMapsRow.holds Try.pinned (OpenSpec.ofChange irMapsSpec)

/-- ITS FALSE NEIGHBOUR: 'it returns false'. Refute it at one input. -/
def irMapsWrong : ChangeSpec := { name := "irMaps", fn := fun _ => fun
  | [d1, d2] => { results := [.lit (.bool false)], args := [d1, d2] }
  | _ => none }
def IrMapsWrongFalsely : Prop := irMapsRow.holds Try.pinned (OpenSpec.ofChange irMapsWrong)

/-- 'fretsawlaw20.OptDead': WHATEVER THE INPUT: true; the input reads as it did. -/
def optDeadSpec : ChangeSpec := { name := "optDead", fn := fun _ => fun
  | [d1, d2] => { results := [.lit (.bool true)], args := [d1, d2] }
  | _ => none }
def optDeadRow : OpenClaim := { program := "ytfjgfabochiflaa", sum := "73a01a1d9ee1b3080d3bc56f317147babef68732c8d1b5c9510ce9e63e0d0cf5", func := "fretsaw/fretsawlaw20.OptDead", spec := "optDead", unfollowed := true, recurses := true, plainKeys := false, apart := false }
def OptDeadSaid : Prop := optDeadRow.holds Try.pinned (OpenSpec.ofChange optDeadSpec)

/-- ITS FALSE NEIGHBOUR: 'it returns false'. Refute it at one input. -/
def optDeadWrong : ChangeSpec := { name := "optDead", fn := fun _ => fun
  | [d1, d2] => { results := [.lit (.bool false)], args := [d1, d2] }
  | _ => none }
def OptDeadWrongFalsely : Prop := optDeadRow.holds Try.pinned (OpenSpec.ofChange optDeadWrong)

/-- 'fretsawlaw18.TokPasses': WHATEVER THE INPUT: true; the input reads as it did. -/
def tokPassesSpec : ChangeSpec := { name := "tokPasses", fn := fun _ => fun
  | [d1, d2] => { results := [.lit (.bool true)], args := [d1, d2] }
  | _ => none }
def tokPassesRow : OpenClaim := { program := "ytfjgfabochiflaa", sum := "73a01a1d9ee1b3080d3bc56f317147babef68732c8d1b5c9510ce9e63e0d0cf5", func := "fretsaw/fretsawlaw18.TokPasses", spec := "tokPasses", inPlace := ["internal/abi.NoEscape", "(*internal/sync.Mutex).Lock", "internal/race.Disable", "sync/atomic.CompareAndSwapInt32", "internal/race.Enable", "internal/race.Acquire", "(*internal/sync.Mutex).lockSlow", "internal/sync.runtime_canSpin", "internal/sync.runtime_doSpin", "internal/sync.throw", "internal/sync.runtime_nanotime", "internal/sync.runtime_SemacquireMutex", "sync/atomic.AddInt32", "(*internal/sync.Mutex).Unlock", "internal/race.ReleaseMerge", "(*internal/sync.Mutex).unlockSlow", "internal/sync.fatal", "internal/sync.runtime_Semrelease"], unfollowed := true, recurses := true, loops := true, plainKeys := false, apart := false }
def TokPassesSaid : Prop := tokPassesRow.holds Try.pinned (OpenSpec.ofChange tokPassesSpec)

/-- ITS FALSE NEIGHBOUR: 'it returns false'. Refute it at one input. -/
def tokPassesWrong : ChangeSpec := { name := "tokPasses", fn := fun _ => fun
  | [d1, d2] => { results := [.lit (.bool false)], args := [d1, d2] }
  | _ => none }
def TokPassesWrongFalsely : Prop := tokPassesRow.holds Try.pinned (OpenSpec.ofChange tokPassesWrong)

/-- 'fretsawlaw18.TokFrames': WHATEVER THE INPUT: true; the input reads as it did. -/
def tokFramesSpec : ChangeSpec := { name := "tokFrames", fn := fun _ => fun
  | [d1, d2] => { results := [.lit (.bool true)], args := [d1, d2] }
  | _ => none }
def tokFramesRow : OpenClaim := { program := "ytfjgfabochiflaa", sum := "73a01a1d9ee1b3080d3bc56f317147babef68732c8d1b5c9510ce9e63e0d0cf5", func := "fretsaw/fretsawlaw18.TokFrames", spec := "tokFrames", inPlace := ["internal/abi.NoEscape", "(*internal/sync.Mutex).Lock", "internal/race.Disable", "sync/atomic.CompareAndSwapInt32", "internal/race.Enable", "internal/race.Acquire", "(*internal/sync.Mutex).lockSlow", "internal/sync.runtime_canSpin", "internal/sync.runtime_doSpin", "internal/sync.throw", "internal/sync.runtime_nanotime", "internal/sync.runtime_SemacquireMutex", "sync/atomic.AddInt32", "(*internal/sync.Mutex).Unlock", "internal/race.ReleaseMerge", "(*internal/sync.Mutex).unlockSlow", "internal/sync.fatal", "internal/sync.runtime_Semrelease"], unfollowed := true, recurses := true, loops := true, plainKeys := false, apart := false }
def TokFramesSaid : Prop := tokFramesRow.holds Try.pinned (OpenSpec.ofChange tokFramesSpec)

/-- ITS FALSE NEIGHBOUR: 'it returns false'. Refute it at one input. -/
def tokFramesWrong : ChangeSpec := { name := "tokFrames", fn := fun _ => fun
  | [d1, d2] => { results := [.lit (.bool false)], args := [d1, d2] }
  | _ => none }
def TokFramesWrongFalsely : Prop := tokFramesRow.holds Try.pinned (OpenSpec.ofChange tokFramesWrong)

/-- 'fretsawlaw18.TokLoses': WHATEVER THE INPUT: true; the input reads as it did. -/
def tokLosesSpec : ChangeSpec := { name := "tokLoses", fn := fun _ => fun
  | [d1, d2] => { results := [.lit (.bool true)], args := [d1, d2] }
  | _ => none }
def tokLosesRow : OpenClaim := { program := "ytfjgfabochiflaa", sum := "73a01a1d9ee1b3080d3bc56f317147babef68732c8d1b5c9510ce9e63e0d0cf5", func := "fretsaw/fretsawlaw18.TokLoses", spec := "tokLoses", inPlace := ["internal/abi.NoEscape", "(*internal/sync.Mutex).Lock", "internal/race.Disable", "sync/atomic.CompareAndSwapInt32", "internal/race.Enable", "internal/race.Acquire", "(*internal/sync.Mutex).lockSlow", "internal/sync.runtime_canSpin", "internal/sync.runtime_doSpin", "internal/sync.throw", "internal/sync.runtime_nanotime", "internal/sync.runtime_SemacquireMutex", "sync/atomic.AddInt32", "(*internal/sync.Mutex).Unlock", "internal/race.ReleaseMerge", "(*internal/sync.Mutex).unlockSlow", "internal/sync.fatal", "internal/sync.runtime_Semrelease"], unfollowed := true, recurses := true, loops := true, plainKeys := false, apart := false }
def TokLosesSaid : Prop := tokLosesRow.holds Try.pinned (OpenSpec.ofChange tokLosesSpec)

/-- ITS FALSE NEIGHBOUR: 'it returns false'. Refute it at one input. -/
def tokLosesWrong : ChangeSpec := { name := "tokLoses", fn := fun _ => fun
  | [d1, d2] => { results := [.lit (.bool false)], args := [d1, d2] }
  | _ => none }
def TokLosesWrongFalsely : Prop := tokLosesRow.holds Try.pinned (OpenSpec.ofChange tokLosesWrong)

/- THE SECOND FORM. 'bulk': how many values and letters a reading holds, each counted each time it is reached (what is shared counts as often as it is met; a slice's spare places count too). A statement '..UptoSaid' is the law's where the arguments, and the package variables that the reading takes, are together of bulk at most 1048576: NARROWER than '..Said'. Prove '..Said' where nothing that the law and all that it calls make is longer than what came in: it says more and counts as full. Else prove '..UptoSaid'. A law counts once. -/
mutual
def uptoBulk {H : Type} : DataW H → Nat
  | .lit (.string bytes) => bytes.length + 1
  | .lit _ => 1
  | .nil => 1
  | .ptr d => uptoBulk d + 1
  | .slice elems spare => uptoBulkAll elems + uptoBulkAll spare + 1
  | .agg parts => uptoBulkAll parts + 1
  | .iface _ d => uptoBulk d + 1
  | .map entries => uptoBulkEntries entries + 1
  | .held _ => 1
def uptoBulkAll {H : Type} : List (DataW H) → Nat
  | [] => 0
  | d :: r => uptoBulk d + uptoBulkAll r
def uptoBulkEntries {H : Type} : List (Lit × DataW H) → Nat
  | [] => 0
  | x :: r => uptoBulkEntry x + uptoBulkEntries r
def uptoBulkEntry {H : Type} : Lit × DataW H → Nat
  | (.string bytes, d) => bytes.length + uptoBulk d + 1
  | (_, d) => uptoBulk d + 1
 end
def uptoSmall : (H : Type) → List (DataW H) → Bool := fun _ ds => decide (uptoBulkAll ds ≤ 1048576)
def OpenSpec.upto (s : _root_.Go.ChangeSpec) : _root_.Go.OpenSpec := { _root_.Go.OpenSpec.ofChange s with cond := some uptoSmall }

/-- 'fretsawlaw18.TokWrites', WHERE WHAT IT READS IS OF BULK AT MOST 1048576: true; the input reads as it did. -/
def tokWritesUptoRow : OpenClaim := { program := "ytfjgfabochiflaa", sum := "73a01a1d9ee1b3080d3bc56f317147babef68732c8d1b5c9510ce9e63e0d0cf5", func := "fretsaw/fretsawlaw18.TokWrites", spec := "tokWrites", inPlace := ["internal/abi.NoEscape"], unfollowed := true, recurses := true, loops := true, plainKeys := false, apart := false, narrowed := true }
def TokWritesUptoSaid : Prop := tokWritesUptoRow.holds Try.pinned (OpenSpec.upto tokWritesSpec)

/-- 'fretsawlaw20.OptLive', WHERE WHAT IT READS IS OF BULK AT MOST 1048576: true; the input reads as it did. -/
def optLiveUptoRow : OpenClaim := { program := "ytfjgfabochiflaa", sum := "73a01a1d9ee1b3080d3bc56f317147babef68732c8d1b5c9510ce9e63e0d0cf5", func := "fretsaw/fretsawlaw20.OptLive", spec := "optLive", unfollowed := true, recurses := true, plainKeys := false, apart := false, narrowed := true }
def OptLiveUptoSaid : Prop := optLiveUptoRow.holds Try.pinned (OpenSpec.upto optLiveSpec)

/-- 'fretsawlaw19.IrTells', WHERE WHAT IT READS IS OF BULK AT MOST 1048576: true; the input reads as it did. -/
def irTellsUptoRow : OpenClaim := { program := "ytfjgfabochiflaa", sum := "73a01a1d9ee1b3080d3bc56f317147babef68732c8d1b5c9510ce9e63e0d0cf5", func := "fretsaw/fretsawlaw19.IrTells", spec := "irTells", unfollowed := true, recurses := true, plainKeys := false, apart := false, narrowed := true }
def IrTellsUptoSaid : Prop := irTellsUptoRow.holds Try.pinned (OpenSpec.upto irTellsSpec)

/-- 'fretsawlaw19.IrMaps', WHERE WHAT IT READS IS OF BULK AT MOST 1048576: true; the input reads as it did. -/
def irMapsUptoRow : OpenClaim := { program := "ytfjgfabochiflaa", sum := "73a01a1d9ee1b3080d3bc56f317147babef68732c8d1b5c9510ce9e63e0d0cf5", func := "fretsaw/fretsawlaw19.IrMaps", spec := "irMaps", unfollowed := true, recurses := true, plainKeys := false, apart := false, narrowed := true }
def IrMapsUptoSaid : Prop := irMapsUptoRow.holds Try.pinned (OpenSpec.upto irMapsSpec)

/-- 'fretsawlaw20.OptDead', WHERE WHAT IT READS IS OF BULK AT MOST 1048576: true; the input reads as it did. -/
def optDeadUptoRow : OpenClaim := { program := "ytfjgfabochiflaa", sum := "73a01a1d9ee1b3080d3bc56f317147babef68732c8d1b5c9510ce9e63e0d0cf5", func := "fretsaw/fretsawlaw20.OptDead", spec := "optDead", unfollowed := true, recurses := true, plainKeys := false, apart := false, narrowed := true }
def OptDeadUptoSaid : Prop := optDeadUptoRow.holds Try.pinned (OpenSpec.upto optDeadSpec)

/-- 'fretsawlaw18.TokPasses', WHERE WHAT IT READS IS OF BULK AT MOST 1048576: true; the input reads as it did. -/
def tokPassesUptoRow : OpenClaim := { program := "ytfjgfabochiflaa", sum := "73a01a1d9ee1b3080d3bc56f317147babef68732c8d1b5c9510ce9e63e0d0cf5", func := "fretsaw/fretsawlaw18.TokPasses", spec := "tokPasses", inPlace := ["internal/abi.NoEscape", "(*internal/sync.Mutex).Lock", "internal/race.Disable", "sync/atomic.CompareAndSwapInt32", "internal/race.Enable", "internal/race.Acquire", "(*internal/sync.Mutex).lockSlow", "internal/sync.runtime_canSpin", "internal/sync.runtime_doSpin", "internal/sync.throw", "internal/sync.runtime_nanotime", "internal/sync.runtime_SemacquireMutex", "sync/atomic.AddInt32", "(*internal/sync.Mutex).Unlock", "internal/race.ReleaseMerge", "(*internal/sync.Mutex).unlockSlow", "internal/sync.fatal", "internal/sync.runtime_Semrelease"], unfollowed := true, recurses := true, loops := true, plainKeys := false, apart := false, narrowed := true }
def TokPassesUptoSaid : Prop := tokPassesUptoRow.holds Try.pinned (OpenSpec.upto tokPassesSpec)

/-- 'fretsawlaw18.TokFrames', WHERE WHAT IT READS IS OF BULK AT MOST 1048576: true; the input reads as it did. -/
def tokFramesUptoRow : OpenClaim := { program := "ytfjgfabochiflaa", sum := "73a01a1d9ee1b3080d3bc56f317147babef68732c8d1b5c9510ce9e63e0d0cf5", func := "fretsaw/fretsawlaw18.TokFrames", spec := "tokFrames", inPlace := ["internal/abi.NoEscape", "(*internal/sync.Mutex).Lock", "internal/race.Disable", "sync/atomic.CompareAndSwapInt32", "internal/race.Enable", "internal/race.Acquire", "(*internal/sync.Mutex).lockSlow", "internal/sync.runtime_canSpin", "internal/sync.runtime_doSpin", "internal/sync.throw", "internal/sync.runtime_nanotime", "internal/sync.runtime_SemacquireMutex", "sync/atomic.AddInt32", "(*internal/sync.Mutex).Unlock", "internal/race.ReleaseMerge", "(*internal/sync.Mutex).unlockSlow", "internal/sync.fatal", "internal/sync.runtime_Semrelease"], unfollowed := true, recurses := true, loops := true, plainKeys := false, apart := false, narrowed := true }
def TokFramesUptoSaid : Prop := tokFramesUptoRow.holds Try.pinned (OpenSpec.upto tokFramesSpec)

/-- 'fretsawlaw18.TokLoses', WHERE WHAT IT READS IS OF BULK AT MOST 1048576: true; the input reads as it did. -/
def tokLosesUptoRow : OpenClaim := { program := "ytfjgfabochiflaa", sum := "73a01a1d9ee1b3080d3bc56f317147babef68732c8d1b5c9510ce9e63e0d0cf5", func := "fretsaw/fretsawlaw18.TokLoses", spec := "tokLoses", inPlace := ["internal/abi.NoEscape", "(*internal/sync.Mutex).Lock", "internal/race.Disable", "sync/atomic.CompareAndSwapInt32", "internal/race.Enable", "internal/race.Acquire", "(*internal/sync.Mutex).lockSlow", "internal/sync.runtime_canSpin", "internal/sync.runtime_doSpin", "internal/sync.throw", "internal/sync.runtime_nanotime", "internal/sync.runtime_SemacquireMutex", "sync/atomic.AddInt32", "(*internal/sync.Mutex).Unlock", "internal/race.ReleaseMerge", "(*internal/sync.Mutex).unlockSlow", "internal/sync.fatal", "internal/sync.runtime_Semrelease"], unfollowed := true, recurses := true, loops := true, plainKeys := false, apart := false, narrowed := true }
def TokLosesUptoSaid : Prop := tokLosesUptoRow.holds Try.pinned (OpenSpec.upto tokLosesSpec)

end Rows
end Go.Proofs.Ytfjgfabochiflaa
