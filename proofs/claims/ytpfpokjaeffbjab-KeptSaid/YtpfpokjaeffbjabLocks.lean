/- The numbers under which this program holds sync.Mutex, and that it holds it: checked by the kernel. -/
import Derived.Test.YtpfpokjaeffbjabProg
import Derived.Conc.MuLone
import Derived.Conc.MuData
import Derived.KernelRfl
namespace Go.Proofs.Ytpfpokjaeffbjab.Lck

abbrev muLink : Go.Conc.Locks.MuLink := { lock := 28, unlock := 29, ilock := 71, iunlock := 72, lockSlow := 105, unlockSlow := 107, disable := 80, enable := 81, acquire := 94, relMerge := 79, cas32 := 104, add32 := 106, tMutex := 80, tIMutex := 78, tPMutex := 144, tPIMutex := 177, tPI32 := 179, tUP := 157, tNoCopy := 75, tU32 := 76 }
theorem muLib : Go.Conc.Locks.MuLib Try.prog muLink :=
  ⟨Try.func28, Try.func29, Try.func71, Try.func72, Try.func80, Try.func81, Try.func94, Try.func79, Try.func104, Try.func106, Try.underlying78, Try.runUnderlying78, Try.sizeOf78, Try.isAgg78, Try.zeroValue78, Try.underlying80, Try.runUnderlying80, Try.sizeOf80, Try.isAgg80, Try.zeroValue80, Try.underlying144, Try.runUnderlying144, Try.sizeOf144, Try.isAgg144, Try.zeroValue144, Try.underlying177, Try.runUnderlying177, Try.sizeOf177, Try.isAgg177, Try.zeroValue177, Try.underlying179, Try.runUnderlying179, Try.sizeOf179, Try.isAgg179, Try.zeroValue179, Try.underlying157, Try.runUnderlying157, Try.sizeOf157, Try.isAgg157, Try.zeroValue157, Try.underlying75, Try.runUnderlying75, Try.sizeOf75, Try.isAgg75, Try.zeroValue75, Try.underlying21, Try.runUnderlying21, Try.sizeOf21, Try.isAgg21, Try.zeroValue21, (by kernel_rfl)⟩
end Go.Proofs.Ytpfpokjaeffbjab.Lck
