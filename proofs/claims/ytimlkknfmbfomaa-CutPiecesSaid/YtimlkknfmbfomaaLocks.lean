import Derived.Test.YtimlkknfmbfomaaProg
import Derived.Conc.RwLib
import Derived.Conc.MuLone
import Derived.KernelRfl
namespace Go.Proofs
abbrev Try.muLink : Go.Conc.Locks.MuLink := { lock := 42, unlock := 43, ilock := 45, iunlock := 46, lockSlow := 53, unlockSlow := 56, disable := 49, enable := 51, acquire := 52, relMerge := 54, cas32 := 50, add32 := 55, tMutex := 72, tIMutex := 70, tPMutex := 94, tPIMutex := 97, tPI32 := 99, tUP := 101, tNoCopy := 65, tU32 := 47 }
theorem Try.muLib : Go.Conc.Locks.MuLib Try.prog Try.muLink :=
  ⟨Try.func42, Try.func43, Try.func45, Try.func46, Try.func49, Try.func51, Try.func52, Try.func54, Try.func50, Try.func55,
   Try.underlying70, Try.runUnderlying70, Try.sizeOf70, Try.isAgg70, Try.zeroValue70,
   Try.underlying72, Try.runUnderlying72, Try.sizeOf72, Try.isAgg72, Try.zeroValue72,
   Try.underlying94, Try.runUnderlying94, Try.sizeOf94, Try.isAgg94, Try.zeroValue94,
   Try.underlying97, Try.runUnderlying97, Try.sizeOf97, Try.isAgg97, Try.zeroValue97,
   Try.underlying99, Try.runUnderlying99, Try.sizeOf99, Try.isAgg99, Try.zeroValue99,
   Try.underlying101, Try.runUnderlying101, Try.sizeOf101, Try.isAgg101, Try.zeroValue101,
   Try.underlying65, Try.runUnderlying65, Try.sizeOf65, Try.isAgg65, Try.zeroValue65,
   Try.underlying21, Try.runUnderlying21, Try.sizeOf21, Try.isAgg21, Try.zeroValue21, (by kernel_rfl)⟩
end Go.Proofs
