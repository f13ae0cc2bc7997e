/- The numbers under which this program holds sync.Mutex's functions and types, and that it holds them. -/
import Derived.Test.YtopobangjpehnaaProg
import Derived.Conc.MuLone
import Derived.KernelRfl
namespace Go.Proofs.Ytopobangjpehnaa
open Go.Conc.Locks
abbrev muLink : MuLink := { lock := 60, unlock := 61, ilock := 88, iunlock := 89, lockSlow := 101, unlockSlow := 104, disable := 97, enable := 99, acquire := 100, relMerge := 102, cas32 := 98, add32 := 103, tMutex := 82, tIMutex := 80, tPMutex := 115, tPIMutex := 121, tPI32 := 123, tUP := 125, tNoCopy := 77, tU32 := 78 }
theorem muLib : MuLib Try.prog muLink :=
  ⟨Try.func60, Try.func61, Try.func88, Try.func89, Try.func97, Try.func99, Try.func100, Try.func102, Try.func98, Try.func103,
    Try.underlying80, Try.runUnderlying80, Try.sizeOf80, Try.isAgg80, Try.zeroValue80, Try.underlying82, Try.runUnderlying82, Try.sizeOf82, Try.isAgg82, Try.zeroValue82,
    Try.underlying115, Try.runUnderlying115, Try.sizeOf115, Try.isAgg115, Try.zeroValue115, Try.underlying121, Try.runUnderlying121, Try.sizeOf121, Try.isAgg121, Try.zeroValue121,
    Try.underlying123, Try.runUnderlying123, Try.sizeOf123, Try.isAgg123, Try.zeroValue123, Try.underlying125, Try.runUnderlying125, Try.sizeOf125, Try.isAgg125, Try.zeroValue125,
    Try.underlying77, Try.runUnderlying77, Try.sizeOf77, Try.isAgg77, Try.zeroValue77, Try.underlying21, Try.runUnderlying21, Try.sizeOf21, Try.isAgg21, Try.zeroValue21, by kernel_rfl⟩
end Go.Proofs.Ytopobangjpehnaa
