/- The numbers of sync.Mutex in this program. -/
import Derived.Test.YtklklmaclaohaaaProg
import Derived.Conc.MuLone
import Derived.KernelRfl
namespace Go.Proofs.Ytklklmaclaohaaa
abbrev muLink : Go.Conc.Locks.MuLink := { lock := 33, unlock := 34, ilock := 42, iunlock := 43, lockSlow := 49, unlockSlow := 52, disable := 45, enable := 47, acquire := 48, relMerge := 50, cas32 := 46, add32 := 51, tMutex := 53, tIMutex := 51, tPMutex := 93, tPIMutex := 95, tPI32 := 97, tUP := 99, tNoCopy := 48, tU32 := 49 }
theorem muLib : Go.Conc.Locks.MuLib Try.prog muLink :=
  ⟨Try.func33, Try.func34, Try.func42, Try.func43, Try.func45, Try.func47, Try.func48, Try.func50, Try.func46, Try.func51, Try.underlying51, Try.runUnderlying51, Try.sizeOf51, Try.isAgg51, Try.zeroValue51, Try.underlying53, Try.runUnderlying53, Try.sizeOf53, Try.isAgg53, Try.zeroValue53, Try.underlying93, Try.runUnderlying93, Try.sizeOf93, Try.isAgg93, Try.zeroValue93, Try.underlying95, Try.runUnderlying95, Try.sizeOf95, Try.isAgg95, Try.zeroValue95, Try.underlying97, Try.runUnderlying97, Try.sizeOf97, Try.isAgg97, Try.zeroValue97, Try.underlying99, Try.runUnderlying99, Try.sizeOf99, Try.isAgg99, Try.zeroValue99, Try.underlying48, Try.runUnderlying48, Try.sizeOf48, Try.isAgg48, Try.zeroValue48, Try.underlying21, Try.runUnderlying21, Try.sizeOf21, Try.isAgg21, Try.zeroValue21, (by kernel_rfl)⟩
end Go.Proofs.Ytklklmaclaohaaa
