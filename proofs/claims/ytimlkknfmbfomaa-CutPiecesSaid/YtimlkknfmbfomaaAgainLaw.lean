import Derived.Test.YtimlkknfmbfomaaPieces
import Derived.Test.YtimlkknfmbfomaaShape
namespace Go.Proofs.Ytimlkknfmbfomaa

/-! ### behind a cut, the chunks are those of what stands there -/
theorem told_heads (a c m : Int) (hp : 1 ≤ a ∧ a ≤ c) (l : List Int) : ∀ j, j ≤ (told a c m [] l).1.length → told a c m [] ((told a c m [] l).1.take j).flatten = ((told a c m [] l).1.take j, []) := by
  refine snoc_ind (P := fun l => ∀ j, j ≤ (told a c m [] l).1.length → told a c m [] ((told a c m [] l).1.take j).flatten = ((told a c m [] l).1.take j, [])) ?_ ?_ l
  · intro j _
    simp [told]
  · intro l x ih j hj
    have hs := (told_shape a c m hp [] (l ++ [x]) (by simp; omega)).2
    rw [List.nil_append] at hs
    by_cases hc : cutNow a c m ((told a c m [] l).2.length + 1) (hash ((told a c m [] l).2 ++ [x])) = true
    · have e : told a c m [] (l ++ [x]) = ((told a c m [] l).1 ++ [(told a c m [] l).2 ++ [x]], []) := by rw [told_snoc]; exact if_pos hc
      by_cases hj2 : j ≤ (told a c m [] l).1.length
      · have e2 : (told a c m [] (l ++ [x])).1.take j = (told a c m [] l).1.take j := by rw [e]; exact List.take_append_of_le_length hj2
        rw [e2]
        exact ih j hj2
      · have e2 : (told a c m [] (l ++ [x])).1.take j = (told a c m [] (l ++ [x])).1 := List.take_of_length_le (by rw [e] at hj ⊢; simp at hj ⊢; omega)
        rw [e2]
        have e3 : (told a c m [] (l ++ [x])).2 = [] := by rw [e]
        rw [e3, List.append_nil] at hs
        rw [hs]
        exact Prod.ext rfl e3
    · have e : (told a c m [] (l ++ [x])).1 = (told a c m [] l).1 := by rw [told_snoc]; unfold wrStep; rw [if_neg hc]
      rw [e] at hj ⊢
      exact ih j hj
theorem chunks_again (a c m : Int) (hp : 1 ≤ a ∧ a ≤ c) (h t : List Int) (k : Nat) (hk : k = (chunksOf a c m h).length - 1) :
    h.take ((chunksOf a c m h).take k).flatten.length = ((chunksOf a c m h).take k).flatten ∧ chunksOf a c m (((chunksOf a c m h).take k).flatten ++ t) = (chunksOf a c m h).take k ++ chunksOf a c m t := by
  have hf := chunks_flatten a c m hp h
  refine ⟨?_, ?_⟩
  · have e : h = ((chunksOf a c m h).take k).flatten ++ ((chunksOf a c m h).drop k).flatten := by rw [← List.flatten_append, List.take_append_drop, hf]
    conv => lhs; arg 2; rw [e]
    rw [List.take_left]
  · have hh : told a c m [] ((chunksOf a c m h).take k).flatten = ((chunksOf a c m h).take k, []) := by
      have e : ∃ j, j ≤ (told a c m [] h).1.length ∧ (chunksOf a c m h).take k = (told a c m [] h).1.take j := by
        unfold chunksOf at hk ⊢
        by_cases h0 : (told a c m [] h).2 = []
        · rw [if_pos h0, List.append_nil] at hk ⊢
          exact ⟨k, by omega, rfl⟩
        · rw [if_neg h0] at hk ⊢
          rw [List.length_append, List.length_singleton] at hk
          exact ⟨k, by omega, List.take_append_of_le_length (by omega)⟩
      obtain ⟨j, hj, e⟩ := e
      rw [e]
      exact told_heads a c m hp h j hj
    unfold chunksOf at hh ⊢
    rw [told_append, hh]
    simp
end Go.Proofs.Ytimlkknfmbfomaa
