import Derived.Test.YtofaicocdijjgaaDoorBase
namespace Go.Proofs.YtofaicocdijjgaaDoor
open Go.RowKit Go.Proofs.YtofaicocdijjgaaDoorW.PrintWords Go.Proofs.YtofaicocdijjgaaDoorW.PrintLast Go.Proofs.YtofaicocdijjgaaDoorW.PrintMore
attribute [local go_sem] max2_int min2_int max_two min_two max_three min_three max_four min_four
theorem infoU8 : (Tryd.prog.info? 5).map (fun i => (i.zero, i.size, i.bytes)) = some (some (.int .u8 0), 1, 1) := by kernel_rfl

theorem take_C {k : Kd Int} {w : World} {A : Option Addr} {l : List Int} {m : Nat} (h : k.C w A l.length l) (hm : m ≤ l.length) : k.C w A m (l.take m) := by
  have := Kd.C_take h hm
  rwa [List.length_take, Nat.min_eq_left hm] at this

theorem few_calls (A : Option Addr) (c : Nat) (l : List Int) (most : Nat) (w : World) (hC : (Kd.int .u8).C w A l.length l) (hc : l.length ≤ c) (hl : most ≤ 140737488355328) :
    Calls Tryd.prog 16 #[.slice A l.length c, .int .i64 (most : Int)] w fun e w' => ∃ v, e = .returned v ∧ (Kd.int .u8).R 5 w' w.heap.size (fun _ => True) v (l.take most) ∧ Below w.heap.size w w' := by
  by_cases hm : most < l.length
  · have hm1 : (most : Int) < (l.length : Int) := by omega
    have hC2 := Aside0.mk (take_C hC (Nat.le_of_lt hm))
    have hL := Aside0.mk hl
    go_enter Tryd.func16, Tryd.ntmps16
    go_wp2_with (at_builtin; go_loud (refine Kd.R_append_rows (Kd.int .u8) (w0 := w) w.heap.size rfl (.tmp 6) (.tmp 12) 35 5 (.int .u8 0) 1 rfl Tryd.underlying35 infoU8 rfl (by decide) (by omega) (.slice none 0 0) ([] : List Int) (l.take most) A most c (fun _ => True) (fun _ => False) rfl rfl (Kd.R_nil _ _ _ _ _) hC2.out (fun _ _ h => h) (fun _ h => h.elim) (fun _ _ => trivial) (Below.refl _ _) (Nat.le_refl _) ?aL ?_); (case aL => (have := hL.out; simp; omega)); intro v w1 hO hB _ _; have HO := Aside0.mk hO; have HB := Aside0.mk hB; clear hO hB)
    go_ret
    exact ⟨_, rfl, HO.out, HB.out⟩
  · have hm1 : ¬ (most : Int) < (l.length : Int) := by omega
    have e : l.take most = l := List.take_of_length_le (by omega)
    have HE := Aside0.mk e
    clear e hm
    have hC2 := Aside0.mk hC
    have hL := Aside0.mk hl
    go_enter Tryd.func16, Tryd.ntmps16
    go_wp2_with (at_builtin; go_loud (refine Kd.R_append_rows (Kd.int .u8) (w0 := w) w.heap.size rfl (.tmp 6) (.tmp 12) 35 5 (.int .u8 0) 1 rfl Tryd.underlying35 infoU8 rfl (by decide) (by omega) (.slice none 0 0) ([] : List Int) l A l.length c (fun _ => True) (fun _ => False) rfl rfl (Kd.R_nil _ _ _ _ _) hC2.out (fun _ _ h => h) (fun _ h => h.elim) (fun _ _ => trivial) (Below.refl _ _) (Nat.le_refl _) ?aL ?_); (case aL => (have := hL.out; simp; omega)); intro v w1 hO hB _ _; have HO := Aside0.mk hO; have HB := Aside0.mk hB; clear hO hB)
    go_ret
    exact ⟨_, rfl, by rw [HE.out]; exact HO.out, HB.out⟩
end Go.Proofs.YtofaicocdijjgaaDoor
