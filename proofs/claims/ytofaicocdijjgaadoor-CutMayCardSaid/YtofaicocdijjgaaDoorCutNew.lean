import Derived.Test.YtofaicocdijjgaaDoorNew
namespace Go.Proofs.YtofaicocdijjgaaDoor
open Go.RowKit Go.Proofs.YtofaicocdijjgaaDoorW.PrintWords

/-- the mask of parameters that may be -/
def maskN (b : Int) : Int := 2 ^ (Lib.bitLen b.toNat - 1) - 1
theorem bitLen_pos (n : Nat) (h : 1 ≤ n) : 1 ≤ Lib.bitLen n := by
  show 1 ≤ Lib.bitLenAux 64 n
  unfold Lib.bitLenAux
  rw [if_neg (by omega)]
  omega
theorem mask_fin : ∀ n : Fin 13, ((2 : Int) ^ n.val % 4294967296 - 1) % 4294967296 = 2 ^ n.val - 1 := by decide
theorem mask_calls (a b c : Int) (w : World) (h : 1 ≤ a ∧ a ≤ b ∧ b ≤ c ∧ c ≤ 4096) :
    Calls Tryd.prog 13 #[.agg #[.int .i64 a, .int .i64 b, .int .i64 c]] w fun e w' => e = .returned (.int .u32 (maskN b)) ∧ Below w.heap.size w w' := by
  have hm : mayB a b c = true := by simp [mayB, h]
  have hp : 1 ≤ Lib.bitLen b.toNat := bitLen_pos _ (by omega)
  have hl : Lib.bitLen b.toNat ≤ 13 := Lib.bitLen_le _ 13 (by omega) (by omega)
  obtain ⟨n, hn⟩ : ∃ n, Lib.bitLen b.toNat = n + 1 := ⟨Lib.bitLen b.toNat - 1, by omega⟩
  have hn12 : n ≤ 12 := by omega
  have HN := Aside0.mk hn
  clear hn hp hl
  have HM := Aside0.mk hm
  have hb0 : 0 ≤ b := by omega
  have hb1 : b ≤ 4096 := by omega
  clear hm h
  go_enter Tryd.func13, Tryd.ntmps13
  go_wp2_with fail
  refine (may_calls a b c _).mono ?_
  rw [HM.out]
  rintro e w' ⟨rfl, rfl⟩
  go_wp2_with fail
  refine (Tryd.bits_Len b _ (by omega) (by omega)).mono ?_
  rw [HN.out]
  rintro e w' ⟨rfl, rfl⟩
  go_wp2
  go_ret
  have e2 := mask_fin ⟨n, by omega⟩
  have e3 : maskN b = 2 ^ n - 1 := by unfold maskN; rw [HN.out]; rfl
  refine ⟨?_, ?_⟩
  · rw [e3, ← e2]; rfl
  · exact ((Below.refl _ _).alloc (Nat.le_refl _) _).alloc (by simp) _

/-- a cutter's cells -/
def cutC (a b c m : Int) (g : Nat) (buf : Value) : Array Value := #[.int .i64 a, .int .i64 b, .int .i64 c, .int .u32 m, .pointer (some ⟨g, 0, none⟩), buf]

def CutNew (a b c : Int) (w : World) (e : Ending) (w' : World) : Prop :=
  ∃ g r, e = .returned (.tuple #[.pointer (some ⟨g, 0, none⟩), .int .i64 0]) ∧ Below w.heap.size w w' ∧ w.heap.size ≤ g ∧ w.heap.size ≤ r ∧ g ≠ r ∧
    w'.heap[g]? = some (.cells (cutC a b c (maskN b) r (.slice none 0 0)) 54 (0, 0)) ∧ w'.heap[r]? = some (.cells rollZ 85 (0, 0))

set_option maxRecDepth 100000 in
set_option maxHeartbeats 1600000 in
theorem new_calls (a b c : Int) (w : World) (h : 1 ≤ a ∧ a ≤ b ∧ b ≤ c ∧ c ≤ 4096) :
    Calls Tryd.prog 8 #[.agg #[.int .i64 a, .int .i64 b, .int .i64 c]] w (CutNew a b c w) := by
  have hm : mayB a b c = true := by simp [mayB, h]
  have HM := Aside0.mk hm; have HH := Aside0.mk h
  clear hm h
  go_enter Tryd.func8, Tryd.ntmps8
  go_wp2_with fail
  refine (may_calls a b c _).mono ?_
  rw [HM.out]
  rintro e w' ⟨rfl, rfl⟩
  go_wp2_with fail
  obtain ⟨q, hq⟩ : ∃ q, q = w.heap.size := ⟨_, rfl⟩
  rw [← hq]
  have k0 : ((w.alloc (.cells #[.int .i64 a, .int .i64 b, .int .i64 c] 23)).alloc (.cells #[.int .i64 a, .int .i64 b, .int .i64 c] 23)).cell? ⟨q, 0, none⟩ = some (.int .i64 a) := by subst hq; simp
  have k1 : ((w.alloc (.cells #[.int .i64 a, .int .i64 b, .int .i64 c] 23)).alloc (.cells #[.int .i64 a, .int .i64 b, .int .i64 c] 23)).cell? ⟨q, 1, none⟩ = some (.int .i64 b) := by subst hq; simp
  have k2 : ((w.alloc (.cells #[.int .i64 a, .int .i64 b, .int .i64 c] 23)).alloc (.cells #[.int .i64 a, .int .i64 b, .int .i64 c] 23)).cell? ⟨q, 2, none⟩ = some (.int .i64 c) := by subst hq; simp
  have hB : Below w.heap.size w ((w.alloc (.cells #[.int .i64 a, .int .i64 b, .int .i64 c] 23)).alloc (.cells #[.int .i64 a, .int .i64 b, .int .i64 c] 23)) := ((Below.refl _ _).alloc (Nat.le_refl _) _).alloc (by simp) _
  have hz : q < ((w.alloc (.cells #[.int .i64 a, .int .i64 b, .int .i64 c] 23)).alloc (.cells #[.int .i64 a, .int .i64 b, .int .i64 c] 23)).heap.size := by subst hq; simp; omega
  revert k0 k1 k2 hB hz
  generalize ((w.alloc (.cells #[.int .i64 a, .int .i64 b, .int .i64 c] 23)).alloc (.cells #[.int .i64 a, .int .i64 b, .int .i64 c] 23)) = W
  intro k0 k1 k2 hB hz
  have HB := Aside0.mk hB
  have HQ := Aside0.mk hq
  clear hB hq
  go_region_held3 (fun w' => w'.cell? ⟨q, 0, none⟩ = some (.int .i64 a) ∧ w'.cell? ⟨q, 1, none⟩ = some (.int .i64 b) ∧ w'.cell? ⟨q, 2, none⟩ = some (.int .i64 c)) (first | go_keep | (go_split_ands; refine ⟨?_, ?_, ?_⟩ <;> (rw [hb1.cell (by simp; omega)]; first | assumption | (go_simp; done)))) (first | (go_at_call 13; refine (mask_calls a b c _ HH.out).mono ?_; rintro e w1 ⟨rfl, hb1⟩) | (go_at_call 21; refine (roll_new _).mono ?_; rintro e w2 ⟨rfl, rfl⟩))
  go_wp2
  go_ret2
  refine ⟨w1.heap.size + 1, w1.heap.size, rfl, ?_, ?_, ?_, by omega, ?_, ?_⟩
  · exact ((((HB.out.drew).trans (hb1.mono HB.out.size)).alloc (Nat.le_trans HB.out.size hb1.size) _).alloc (by have := HB.out.size; have := hb1.size; simp at *; omega) _)
  · have := HB.out.size; have := hb1.size; simp at *; omega
  · have := HB.out.size; have := hb1.size; simp at *; omega
  · exact heap_alloc2_new w1 _ _
  · exact heap_alloc2_old w1 _ _
end Go.Proofs.YtofaicocdijjgaaDoor
