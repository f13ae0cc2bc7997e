/- The numbers under which this program holds sync.Mutex's functions and types, and that it holds them. -/
import Derived.Test.YtopobangjpehnaaGreatProg
import Derived.Conc.MuLone
import Derived.KernelRfl
namespace Go.Proofs.YtopobangjpehnaaGreat
open Go.Conc.Locks
abbrev muLink : MuLink := { lock := 20, unlock := 21, ilock := 33, iunlock := 34, lockSlow := 53, unlockSlow := 56, disable := 49, enable := 51, acquire := 52, relMerge := 54, cas32 := 50, add32 := 55, tMutex := 51, tIMutex := 49, tPMutex := 74, tPIMutex := 88, tPI32 := 90, tUP := 92, tNoCopy := 46, tU32 := 47 }
theorem muLib : MuLib Tryz.prog muLink :=
  ⟨Tryz.func20, Tryz.func21, Tryz.func33, Tryz.func34, Tryz.func49, Tryz.func51, Tryz.func52, Tryz.func54, Tryz.func50, Tryz.func55,
    Tryz.underlying49, Tryz.runUnderlying49, Tryz.sizeOf49, Tryz.isAgg49, Tryz.zeroValue49, Tryz.underlying51, Tryz.runUnderlying51, Tryz.sizeOf51, Tryz.isAgg51, Tryz.zeroValue51,
    Tryz.underlying74, Tryz.runUnderlying74, Tryz.sizeOf74, Tryz.isAgg74, Tryz.zeroValue74, Tryz.underlying88, Tryz.runUnderlying88, Tryz.sizeOf88, Tryz.isAgg88, Tryz.zeroValue88,
    Tryz.underlying90, Tryz.runUnderlying90, Tryz.sizeOf90, Tryz.isAgg90, Tryz.zeroValue90, Tryz.underlying92, Tryz.runUnderlying92, Tryz.sizeOf92, Tryz.isAgg92, Tryz.zeroValue92,
    Tryz.underlying46, Tryz.runUnderlying46, Tryz.sizeOf46, Tryz.isAgg46, Tryz.zeroValue46, Tryz.underlying21, Tryz.runUnderlying21, Tryz.sizeOf21, Tryz.isAgg21, Tryz.zeroValue21, by kernel_rfl⟩
end Go.Proofs.YtopobangjpehnaaGreat
