import Derived.Test.YtofaicocdijjgaaDoorProg
import Derived.Conc.RwLib
import Derived.Conc.MuLone
import Derived.KernelRfl
namespace Go.Proofs
abbrev Tryd.muLink : Go.Conc.Locks.MuLink := { lock := 58, unlock := 59, ilock := 61, iunlock := 62, lockSlow := 69, unlockSlow := 72, disable := 65, enable := 67, acquire := 68, relMerge := 70, cas32 := 66, add32 := 71, tMutex := 77, tIMutex := 75, tPMutex := 116, tPIMutex := 119, tPI32 := 121, tUP := 123, tNoCopy := 70, tU32 := 39 }
theorem Tryd.muLib : Go.Conc.Locks.MuLib Tryd.prog Tryd.muLink :=
  ⟨Tryd.func58, Tryd.func59, Tryd.func61, Tryd.func62, Tryd.func65, Tryd.func67, Tryd.func68, Tryd.func70, Tryd.func66, Tryd.func71,
   Tryd.underlying75, Tryd.runUnderlying75, Tryd.sizeOf75, Tryd.isAgg75, Tryd.zeroValue75,
   Tryd.underlying77, Tryd.runUnderlying77, Tryd.sizeOf77, Tryd.isAgg77, Tryd.zeroValue77,
   Tryd.underlying116, Tryd.runUnderlying116, Tryd.sizeOf116, Tryd.isAgg116, Tryd.zeroValue116,
   Tryd.underlying119, Tryd.runUnderlying119, Tryd.sizeOf119, Tryd.isAgg119, Tryd.zeroValue119,
   Tryd.underlying121, Tryd.runUnderlying121, Tryd.sizeOf121, Tryd.isAgg121, Tryd.zeroValue121,
   Tryd.underlying123, Tryd.runUnderlying123, Tryd.sizeOf123, Tryd.isAgg123, Tryd.zeroValue123,
   Tryd.underlying70, Tryd.runUnderlying70, Tryd.sizeOf70, Tryd.isAgg70, Tryd.zeroValue70,
   Tryd.underlying21, Tryd.runUnderlying21, Tryd.sizeOf21, Tryd.isAgg21, Tryd.zeroValue21, (by kernel_rfl)⟩
end Go.Proofs
