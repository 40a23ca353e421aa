import Derived.Test.YtofaicocdijjgaaDoorHash
import Derived.Test.YtofaicocdijjgaaDoorShelf
import Derived.Deep.RegionHeld3
namespace Go.Proofs.YtofaicocdijjgaaDoor
open Go.RowKit Go.Proofs.YtofaicocdijjgaaDoorW.PrintWords

/-- the cells of a Roll without bytes -/
def rollZ : Array Value := #[.int .u32 0, .int .i32 0, .int .u32 0] ++ Array.replicate 256 (.int .u32 0) ++ Array.replicate 16 (.int .u8 0) ++ #[.int .i64 0, .int .u32 0]
theorem zero_roll (w : World) : (zeroValue 85).run Tryd.prog w = .ok (.agg rollZ) w := by kernel_rfl

theorem roll_new (w : World) : Calls Tryd.prog 21 #[] w fun e w' => e = .returned (.pointer (some ⟨w.heap.size, 0, none⟩)) ∧ w' = w.alloc (.cells rollZ 85) := by
  have hz := zero_roll
  go_enter Tryd.func21, Tryd.ntmps21
  go_wp2
  go_ret
  exact ⟨rfl, rfl⟩
theorem rollZ_at : RollAt rollZ [] where
  size := by kernel_rfl
  tab := .inl ⟨⟨by kernel_rfl, by kernel_rfl⟩, rfl⟩
  n := by kernel_rfl
  sum := by kernel_rfl
  last := fun i x h => by simp at h
  any := fun j hj => ⟨0, by omega, by omega, by
    rcases j with _ | _ | _ | _ | _ | _ | _ | _ | _ | _ | _ | _ | _ | _ | _ | _ | j
    all_goals first | (exfalso; omega) | kernel_rfl⟩

theorem reset_calls (g T : Nat) (b : List Int) (w : World) (cs : Array Value) (hb : w.heap[g]? = some (.cells cs T (0, 0))) (hr : RollAt cs b) :
    Calls Tryd.prog 42 #[.pointer (some ⟨g, 0, none⟩)] w fun e w' =>
      e = .returned (.tuple #[]) ∧ w.grownBy w' (some g) ∧ ∃ cs', w'.heap[g]? = some (.cells cs' T (0, 0)) ∧ RollAt cs' [] := by
  have c275 : w.cell? ⟨g, 275, none⟩ = some (.int .i64 b.length) := by rw [blk_cell hb]; exact hr.n
  have c276 : w.cell? ⟨g, 276, none⟩ = some (.int .u32 (hash b)) := by rw [blk_cell hb]; exact hr.sum
  have f1 : ∀ j, w.frozen? ⟨g, j, none⟩ = false := fun j => blk_frozen hb j
  have HB := Aside0.mk hb; have HR := Aside0.mk hr
  clear hb hr
  go_enter Tryd.func42, Tryd.ntmps42
  go_wp2
  go_end0
  refine ⟨rfl, grownBy_set (grownBy_set (World.grownBy.refl w _) _ _) _ _, _, blk_set (blk_set HB.out _ _) _ _, ?_⟩
  have hr := HR.out
  have hs := hr.size
  refine { size := by simp [hs], tab := ?_, n := ?_, sum := ?_, last := fun i x h => by simp at h, any := fun j hj => ?_ }
  · rcases hr.tab with ⟨⟨h0, h1⟩, _⟩ | h
    · exact .inl ⟨⟨by simp [h0], by simp [h1]⟩, rfl⟩
    · exact .inr (filled_set (filled_set h _ (by omega) _) _ (by omega) _)
  · rw [Array.getElem?_setIfInBounds, if_neg (by omega), Array.getElem?_setIfInBounds, if_pos rfl, if_pos (by omega)]; rfl
  · rw [Array.getElem?_setIfInBounds, if_pos rfl, if_pos (by simp; omega)]; rfl
  · rw [Array.getElem?_setIfInBounds, if_neg (by omega), Array.getElem?_setIfInBounds, if_neg (by omega)]; exact hr.any j hj

/-- may the parameters be? -/
def mayB (a b c : Int) : Bool := decide (1 ≤ a ∧ a ≤ b ∧ b ≤ c ∧ c ≤ 4096)
theorem may_calls (a b c : Int) (w : World) :
    Calls Tryd.prog 12 #[.agg #[.int .i64 a, .int .i64 b, .int .i64 c]] w fun e w' => e = .returned (.bool (mayB a b c)) ∧ w' = w.alloc (.cells #[.int .i64 a, .int .i64 b, .int .i64 c] 23) := by
  have fin : ∀ v : Bool, v = mayB a b c → Ending.returned (.bool v) = .returned (.bool (mayB a b c)) := by rintro v rfl; rfl
  by_cases h1 : 1 ≤ a
  · by_cases h2 : a ≤ b
    · by_cases h3 : b ≤ c
      · have e : decide (c ≤ 4096) = mayB a b c := by simp [mayB, h1, h2, h3]
        have E := Aside0.mk e
        clear e
        go_enter Tryd.func12, Tryd.ntmps12
        go_wp2
        go_ret
        exact ⟨fin _ E.out, rfl⟩
      · have e : false = mayB a b c := by simp [mayB, h3]
        have E := Aside0.mk e
        clear e
        go_enter Tryd.func12, Tryd.ntmps12
        go_wp2
        go_ret
        exact ⟨fin _ E.out, rfl⟩
    · have e : false = mayB a b c := by simp [mayB, h2]
      have E := Aside0.mk e
      clear e
      go_enter Tryd.func12, Tryd.ntmps12
      go_wp2
      go_ret
      exact ⟨fin _ E.out, rfl⟩
  · have e : false = mayB a b c := by simp [mayB, h1]
    have E := Aside0.mk e
    clear e
    go_enter Tryd.func12, Tryd.ntmps12
    go_wp2
    go_ret
    exact ⟨fin _ E.out, rfl⟩
end Go.Proofs.YtofaicocdijjgaaDoor
