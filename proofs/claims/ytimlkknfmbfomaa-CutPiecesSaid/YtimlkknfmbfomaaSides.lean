import Derived.Test.YtimlkknfmbfomaaLives
namespace Go.Proofs.Ytimlkknfmbfomaa
open Go.RowKit Go.Proofs.YtimlkknfmbfomaaW.PrintWords Go.Proofs.Ytimlkknfmbfomaa.Pr

theorem chunks_bytes (a c m : Int) (xs : List Int) (hb : Bytes xs) : ∀ x, x ∈ chunksOf a c m xs → Bytes x := by
  have h := told_bytes a c m [] xs (fun y hy => by simp at hy) hb
  intro x hx
  unfold chunksOf at hx
  rcases List.mem_append.1 hx with hx | hx
  · exact h.2 x hx
  · split at hx
    · simp at hx
    · rw [List.mem_singleton.1 hx]; exact h.1
theorem chunks_calls (a b c : Int) (A : Option Addr) (cap : Nat) (xs : List Int) (w : World) (hp : 1 ≤ a ∧ a ≤ b ∧ b ≤ c ∧ c ≤ 4096)
    (hl : KB.C w A xs.length xs) (hcap : xs.length ≤ cap) (hL : xs.length < 1099511627776) (hB : Bytes xs) :
    Calls Try.prog 14 #[.slice A xs.length cap, .agg #[.int .i64 a, .int .i64 b, .int .i64 c]] w fun e w' =>
      ∃ A1 c1, e = .returned (.slice A1 (chunksOf a c (maskN b) xs).length c1) ∧ (chunksOf a c (maskN b) xs).length ≤ c1 ∧ KR.C w' A1 (chunksOf a c (maskN b) xs).length (chunksOf a c (maskN b) xs) ∧ Below w.heap.size w w' := by
  refine (lighterageref10_Chunks.calls (xs.length + 301) (fun k => k < w.heap.size) A cap xs a b c _ w (Kd.V_mk hcap (Kd.C_F (Kd.heap_int _) hl)) (chunks_f a b c hp xs hB hL _ (by omega))).mono ?_
  rintro e w' ⟨v, rfl, hN, hb⟩
  obtain ⟨A1, c1, rfl, hc1, hC⟩ := Kd.N_reads hN
  exact ⟨A1, c1, rfl, hc1, hC, hb⟩
theorem same_calls (A0 : Option Addr) (c0 : Nat) (l : List (List Int)) (A1 : Option Addr) (c1 : Nat) (m : List (List Int)) (w : World) (h0 : KR.C w A0 l.length l) (hc0 : l.length ≤ c0) (h1 : KR.C w A1 m.length m) (hc1 : m.length ≤ c1)
    (hl : ∀ x, x ∈ l → Bytes x) (hm : ∀ x, x ∈ m → Bytes x) (hL : l.length < 1099511627776) :
    Calls Try.prog 13 #[.slice A0 l.length c0, .slice A1 m.length c1] w fun e w' => e = .returned (.bool (decide (l = m))) ∧ Drawn0 w w' :=
  lighteragelaw10_same.calls (l.length + 1) A0 c0 l A1 c1 m _ w h0 hc0 h1 hc1 (same_f l m hl hm hL _ (by omega))
end Go.Proofs.Ytimlkknfmbfomaa
