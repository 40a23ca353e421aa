import Derived.Test.YtofaicocdijjgaaDoorBase
import Derived.Handy
namespace Go.Proofs.YtofaicocdijjgaaDoor
open Go.RowKit Go.Proofs.YtofaicocdijjgaaDoorW.PrintWords Go.Proofs.YtofaicocdijjgaaDoorW.PrintLast Go.Proofs.YtofaicocdijjgaaDoorW.PrintMore

def arnd (n m : Int) : Int := (if n < 0 then -(n + 1) else n) % m
theorem arnd_nonneg (n : Int) {m : Int} (hm : 0 < m) : 0 ≤ arnd n m := Int.emod_nonneg _ (by omega)
theorem arnd_lt (n : Int) {m : Int} (hm : 0 < m) : arnd n m < m := Int.emod_lt_of_pos _ hm

theorem around_calls (n m : Int) (w : World) (h1 : -9223372036854775808 ≤ n) (h2 : n ≤ 9223372036854775807) (hm : 0 < m) :
    Calls Tryd.prog 6 #[.int .i64 n, .int .i64 m] w fun e w' => e = .returned (.int .i64 (arnd n m)) ∧ w = w' := by
  by_cases h : n < 0
  · have e1 : wrap64 (n + 1) = n + 1 := by unfold wrap64; omega
    have e2 : wrap64 (-(n + 1)) = -(n + 1) := by unfold wrap64; omega
    have e3 : Int.tmod (-(n + 1)) m = arnd n m := by unfold arnd; rw [if_pos h, Int.tmod_eq_emod_of_nonneg (by omega)]
    have hm0 : ¬ m = 0 := by omega
    have E1 := Aside0.mk e1; have E2 := Aside0.mk e2; have E3 := Aside0.mk e3
    clear e1 e2 e3 h1 h2
    go_enter Tryd.func6, Tryd.ntmps6
    go_wp2
    all_goals (go_ret; refine ⟨?_, rfl⟩; try simp only [E1.out, E2.out, E3.out])
    all_goals rfl
  · have e3 : n % m = arnd n m := by unfold arnd; rw [if_neg h]
    have hm0 : ¬ m = 0 := by omega
    have E3 := Aside0.mk e3
    clear e3 h1 h2
    go_enter Tryd.func6, Tryd.ntmps6
    go_wp2
    all_goals (go_ret; refine ⟨?_, rfl⟩; try simp only [E3.out])
    all_goals rfl

def gMin (a : Int) : Int := 1 + arnd a 12
def gAvg (a b : Int) : Int := gMin a + arnd b 20
def gMax (a b c : Int) : Int := gAvg a b + arnd c 40
theorem g_bounds (a b c : Int) : 1 ≤ gMin a ∧ gMin a ≤ 12 ∧ gMin a ≤ gAvg a b ∧ gAvg a b ≤ gMin a + 19 ∧ gAvg a b ≤ gMax a b c ∧ gMax a b c ≤ gAvg a b + 39 := by
  unfold gMax gAvg gMin
  have h1 := arnd_nonneg a (m := 12) (by omega); have h2 := arnd_lt a (m := 12) (by omega)
  have h3 := arnd_nonneg b (m := 20) (by omega); have h4 := arnd_lt b (m := 20) (by omega)
  have h5 := arnd_nonneg c (m := 40) (by omega); have h6 := arnd_lt c (m := 40) (by omega)
  omega

def I64 (n : Int) : Prop := -9223372036854775808 ≤ n ∧ n ≤ 9223372036854775807

theorem good_calls (a b c : Int) (w : World) (ha : I64 a) (hb : I64 b) (hc : I64 c) :
    Calls Tryd.prog 5 #[.agg #[.int .i64 a, .int .i64 b, .int .i64 c]] w fun e w' => e = .returned (.agg #[.int .i64 (gMin a), .int .i64 (gAvg a b), .int .i64 (gMax a b c)]) ∧ Below w.heap.size w w' := by
  have g1 := arnd_nonneg a (m := 12) (by omega); have g2 := arnd_lt a (m := 12) (by omega)
  have g3 := arnd_nonneg b (m := 20) (by omega); have g4 := arnd_lt b (m := 20) (by omega)
  have g5 := arnd_nonneg c (m := 40) (by omega); have g6 := arnd_lt c (m := 40) (by omega)
  have HA := Aside0.mk ha; have HB := Aside0.mk hb; have HC := Aside0.mk hc
  clear ha hb hc
  go_enter Tryd.func5, Tryd.ntmps5
  go_wp2_with fail
  refine (around_calls a 12 _ HA.out.1 HA.out.2 (by omega)).mono ?_; rintro e w' ⟨rfl, rfl⟩
  go_wp2_with fail
  refine (around_calls b 20 _ HB.out.1 HB.out.2 (by omega)).mono ?_; rintro e w' ⟨rfl, rfl⟩
  go_wp2_with fail
  refine (around_calls c 40 _ HC.out.1 HC.out.2 (by omega)).mono ?_; rintro e w' ⟨rfl, rfl⟩
  go_wp2_with fail
  refine bodyPost_ret (v := .agg #[.int .i64 (gMin a), .int .i64 (gAvg a b), .int .i64 (gMax a b c)]) (by simp [results, Tryd.results5, go_sem]; exact ⟨rfl, rfl, rfl⟩) rfl ⟨rfl, ?_⟩
  go_grown
end Go.Proofs.YtofaicocdijjgaaDoor
