/- The numbers under which this program holds sync.Mutex, and that it holds it: checked by the kernel. -/
import Derived.Test.YtpfpokjaeffbjaaProg
import Derived.Conc.MuLone
import Derived.Conc.MuData
import Derived.KernelRfl
namespace Go.Proofs.Ytpfpokjaeffbjaa.Lck

abbrev muLink : Go.Conc.Locks.MuLink := { lock := 82, unlock := 83, ilock := 119, iunlock := 120, lockSlow := 133, unlockSlow := 135, disable := 91, enable := 92, acquire := 105, relMerge := 90, cas32 := 132, add32 := 134, tMutex := 132, tIMutex := 130, tPMutex := 195, tPIMutex := 215, tPI32 := 217, tUP := 174, tNoCopy := 109, tU32 := 114 }
theorem muLib : Go.Conc.Locks.MuLib Try.prog muLink :=
  ⟨Try.func82, Try.func83, Try.func119, Try.func120, Try.func91, Try.func92, Try.func105, Try.func90, Try.func132, Try.func134, Try.underlying130, Try.runUnderlying130, Try.sizeOf130, Try.isAgg130, Try.zeroValue130, Try.underlying132, Try.runUnderlying132, Try.sizeOf132, Try.isAgg132, Try.zeroValue132, Try.underlying195, Try.runUnderlying195, Try.sizeOf195, Try.isAgg195, Try.zeroValue195, Try.underlying215, Try.runUnderlying215, Try.sizeOf215, Try.isAgg215, Try.zeroValue215, Try.underlying217, Try.runUnderlying217, Try.sizeOf217, Try.isAgg217, Try.zeroValue217, Try.underlying174, Try.runUnderlying174, Try.sizeOf174, Try.isAgg174, Try.zeroValue174, Try.underlying109, Try.runUnderlying109, Try.sizeOf109, Try.isAgg109, Try.zeroValue109, Try.underlying21, Try.runUnderlying21, Try.sizeOf21, Try.isAgg21, Try.zeroValue21, (by kernel_rfl)⟩
end Go.Proofs.Ytpfpokjaeffbjaa.Lck
