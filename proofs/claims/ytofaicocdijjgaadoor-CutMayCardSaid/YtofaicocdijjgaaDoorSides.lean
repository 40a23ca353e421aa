import Derived.Test.YtofaicocdijjgaaDoorLives
import Derived.Test.YtofaicocdijjgaaDoorFew
import Derived.Test.YtofaicocdijjgaaDoorGood
namespace Go.Proofs.YtofaicocdijjgaaDoor
open Go.RowKit Go.Proofs.YtofaicocdijjgaaDoorW.PrintWords Go.Proofs.YtofaicocdijjgaaDoor.Pr

theorem chunks_bytes (a c m : Int) (xs : List Int) (hb : Bytes xs) : ∀ x, x ∈ chunksOf a c m xs → Bytes x := by
  have h := told_bytes a c m [] xs (fun y hy => by simp at hy) hb
  intro x hx
  unfold chunksOf at hx
  rcases List.mem_append.1 hx with hx | hx
  · exact h.2 x hx
  · split at hx
    · simp at hx
    · rw [List.mem_singleton.1 hx]; exact h.1
theorem chunks_calls (a b c : Int) (A : Option Addr) (cap : Nat) (xs : List Int) (w : World) (hp : 1 ≤ a ∧ a ≤ b ∧ b ≤ c ∧ c ≤ 4096)
    (hl : KB.C w A xs.length xs) (hcap : xs.length ≤ cap) (hL : xs.length < 1099511627776) (hB : Bytes xs) :
    Calls Tryd.prog 17 #[.slice A xs.length cap, .agg #[.int .i64 a, .int .i64 b, .int .i64 c]] w fun e w' =>
      ∃ A1 c1, e = .returned (.slice A1 (chunksOf a c (maskN b) xs).length c1) ∧ (chunksOf a c (maskN b) xs).length ≤ c1 ∧ KR.C w' A1 (chunksOf a c (maskN b) xs).length (chunksOf a c (maskN b) xs) ∧ Below w.heap.size w w' := by
  refine (lighterageref10_Chunks.calls (xs.length + 301) (fun k => k < w.heap.size) A cap xs a b c _ w (Kd.V_mk hcap (Kd.C_F (Kd.heap_int _) hl)) (chunks_f a b c hp xs hB hL _ (by omega))).mono ?_
  rintro e w' ⟨v, rfl, hN, hb⟩
  obtain ⟨A1, c1, rfl, hc1, hC⟩ := Kd.N_reads hN
  exact ⟨A1, c1, rfl, hc1, hC, hb⟩
theorem same_calls (A0 : Option Addr) (c0 : Nat) (l : List (List Int)) (A1 : Option Addr) (c1 : Nat) (m : List (List Int)) (w : World) (h0 : KR.C w A0 l.length l) (hc0 : l.length ≤ c0) (h1 : KR.C w A1 m.length m) (hc1 : m.length ≤ c1)
    (hl : ∀ x, x ∈ l → Bytes x) (hm : ∀ x, x ∈ m → Bytes x) (hL : l.length < 1099511627776) :
    Calls Tryd.prog 20 #[.slice A0 l.length c0, .slice A1 m.length c1] w fun e w' => e = .returned (.bool (decide (l = m))) ∧ Drawn0 w w' :=
  lighteragelaw10_same.calls (l.length + 1) A0 c0 l A1 c1 m _ w h0 hc0 h1 hc1 (same_f l m hl hm hL _ (by omega))
theorem own_lt {α : Type} {d : Kd α} {e base : Nat} {ok : Nat → Prop} {w : World} {A : Option Addr} {n c : Nat} {xs : List α} (h : d.R e w base ok (.slice A n c) xs) : ∀ ad, A = some ad → ad.block < w.heap.size := fun ad e => Kd.R_lt h ad.block (by rw [e]; rfl)

theorem take_row {w : World} {A : Option Addr} {cs : List (List Int)} {m : Nat} (h : KR.C w A cs.length cs) (hm : m ≤ cs.length) : KR.C w A (cs.take m).length (cs.take m) := Kd.C_take h hm
/-- `same`, lengths said apart -/
theorem same_calls' (A0 : Option Addr) (n0 c0 : Nat) (l : List (List Int)) (A1 : Option Addr) (n1 c1 : Nat) (m : List (List Int)) (w : World) (e0 : n0 = l.length) (e1 : n1 = m.length) (h0 : KR.C w A0 l.length l) (hc0 : l.length ≤ c0) (h1 : KR.C w A1 m.length m) (hc1 : m.length ≤ c1)
    (hl : ∀ x, x ∈ l → Bytes x) (hm : ∀ x, x ∈ m → Bytes x) (hL : l.length < 1099511627776) :
    Calls Tryd.prog 20 #[.slice A0 n0 c0, .slice A1 n1 c1] w fun e w' => e = .returned (.bool (decide (l = m))) ∧ Drawn0 w w' := by
  subst e0 e1
  exact same_calls A0 c0 l A1 c1 m w h0 hc0 h1 hc1 hl hm hL

theorem few_calls' (A : Option Addr) (n c : Nat) (l : List Int) (most : Nat) (w : World) (e : n = l.length) (hC : (Kd.int .u8).C w A l.length l) (hc : l.length ≤ c) (hl : most ≤ 140737488355328) :
    Calls Tryd.prog 16 #[.slice A n c, .int .i64 (most : Int)] w fun e w' => ∃ v, e = .returned v ∧ (Kd.int .u8).R 5 w' w.heap.size (fun _ => True) v (l.take most) ∧ Below w.heap.size w w' := by
  subst e
  exact few_calls A c l most w hC hc hl

theorem collect_calls' (a b c : Int) (A : Option Addr) (n cap : Nat) (xs : List Int) (w : World) (e : n = xs.length) (hp : 1 ≤ a ∧ a ≤ b ∧ b ≤ c ∧ c ≤ 4096)
    (hl : KB.C w A xs.length xs) (hcap : xs.length ≤ cap) (hL : xs.length ≤ 1099511627776) (hB : Bytes xs) (hA : ∀ ad, A = some ad → ad.block < w.heap.size) :
    Calls Tryd.prog 14 #[.slice A n cap, .agg #[.int .i64 a, .int .i64 b, .int .i64 c]] w fun e w' =>
      ∃ o, e = .returned o ∧ KR.R 35 w' w.heap.size (fun _ => True) o (chunksOf a c (maskN b) xs) ∧ Below w.heap.size w w' := by
  subst e
  exact collect_calls a b c A cap xs w hp hl hcap hL hB hA

theorem collect_row (a b c : Int) (A : Option Addr) (cap base : Nat) (ok : Nat → Prop) (xs : List Int) (w : World) (hp : 1 ≤ a ∧ a ≤ b ∧ b ≤ c ∧ c ≤ 4096)
    (hL : xs.length ≤ 1099511627776) (hB : Bytes xs) (hR : KB.R 5 w base ok (.slice A xs.length cap) xs) :
    Calls Tryd.prog 14 #[.slice A xs.length cap, .agg #[.int .i64 a, .int .i64 b, .int .i64 c]] w fun e w' =>
      ∃ o, e = .returned o ∧ KR.R 35 w' w.heap.size (fun _ => True) o (chunksOf a c (maskN b) xs) ∧ Below w.heap.size w w' :=
  collect_calls a b c A cap xs w hp (Kd.R_reads' hR).2.2 (Kd.R_reads' hR).2.1 hL hB (own_lt hR)

end Go.Proofs.YtofaicocdijjgaaDoor
