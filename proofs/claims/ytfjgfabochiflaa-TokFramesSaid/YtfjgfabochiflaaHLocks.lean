/- The numbers of sync.Mutex in this program. -/
import Derived.Test.YtfjgfabochiflaaProg
import Derived.Conc.MuLone
import Derived.KernelRfl
namespace Go.Proofs.Ytfjgfabochiflaa.H14
abbrev muLink : Go.Conc.Locks.MuLink := { lock := 127, unlock := 128, ilock := 138, iunlock := 139, lockSlow := 145, unlockSlow := 148, disable := 141, enable := 143, acquire := 144, relMerge := 146, cas32 := 142, add32 := 147, tMutex := 166, tIMutex := 164, tPMutex := 218, tPIMutex := 220, tPI32 := 222, tUP := 193, tNoCopy := 161, tU32 := 162 }
theorem muLib : Go.Conc.Locks.MuLib Try.prog muLink :=
  ⟨Try.func127, Try.func128, Try.func138, Try.func139, Try.func141, Try.func143, Try.func144, Try.func146, Try.func142, Try.func147, Try.underlying164, Try.runUnderlying164, Try.sizeOf164, Try.isAgg164, Try.zeroValue164, Try.underlying166, Try.runUnderlying166, Try.sizeOf166, Try.isAgg166, Try.zeroValue166, Try.underlying218, Try.runUnderlying218, Try.sizeOf218, Try.isAgg218, Try.zeroValue218, Try.underlying220, Try.runUnderlying220, Try.sizeOf220, Try.isAgg220, Try.zeroValue220, Try.underlying222, Try.runUnderlying222, Try.sizeOf222, Try.isAgg222, Try.zeroValue222, Try.underlying193, Try.runUnderlying193, Try.sizeOf193, Try.isAgg193, Try.zeroValue193, Try.underlying161, Try.runUnderlying161, Try.sizeOf161, Try.isAgg161, Try.zeroValue161, Try.underlying21, Try.runUnderlying21, Try.sizeOf21, Try.isAgg21, Try.zeroValue21, (by kernel_rfl)⟩
end Go.Proofs.Ytfjgfabochiflaa.H14
