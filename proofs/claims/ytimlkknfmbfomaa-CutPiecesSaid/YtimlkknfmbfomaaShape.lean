import Derived.Test.YtimlkknfmbfomaaChunk
namespace Go.Proofs.Ytimlkknfmbfomaa

/-! ### what chunks are like -/
theorem told_shape (a c m : Int) (hp : 1 ≤ a ∧ a ≤ c) (buf l : List Int) (hb : (buf.length : Int) < c) : (∀ x, x ∈ (told a c m buf l).1 → a ≤ (x.length : Int) ∧ (x.length : Int) ≤ c) ∧ (told a c m buf l).1.flatten ++ (told a c m buf l).2 = buf ++ l := by
  refine snoc_ind (P := fun l => (∀ x, x ∈ (told a c m buf l).1 → a ≤ (x.length : Int) ∧ (x.length : Int) ≤ c) ∧ (told a c m buf l).1.flatten ++ (told a c m buf l).2 = buf ++ l) ⟨fun x hx => by simp [told] at hx, by simp [told]⟩ ?_ l
  intro l x ⟨ih1, ih2⟩
  have hlt := told_len a c m buf l hb
  rw [told_snoc]
  unfold wrStep
  by_cases hc : cutNow a c m ((told a c m buf l).2.length + 1) (hash ((told a c m buf l).2 ++ [x])) = true
  · rw [if_pos hc]
    refine ⟨fun y hy => ?_, ?_⟩
    · rcases List.mem_append.1 hy with hy | hy
      · exact ih1 y hy
      · rw [List.mem_singleton.1 hy, List.length_append, List.length_singleton]
        unfold cutNow at hc
        rw [Bool.or_eq_true, Bool.and_eq_true, decide_eq_true_iff, decide_eq_true_iff] at hc
        rcases hc with hc | hc
        · omega
        · have := hc.1; omega
    · simp only [List.flatten_append, List.flatten_cons, List.flatten_nil, List.append_nil]
      rw [← List.append_assoc, ih2, List.append_assoc]
  · rw [if_neg hc]
    refine ⟨ih1, ?_⟩
    show _ ++ ((told a c m buf l).2 ++ [x]) = _
    rw [← List.append_assoc, ih2, List.append_assoc]
theorem chunks_flatten (a c m : Int) (hp : 1 ≤ a ∧ a ≤ c) (l : List Int) : (chunksOf a c m l).flatten = l := by
  have h := (told_shape a c m hp [] l (by simp; omega)).2
  unfold chunksOf
  by_cases e : (told a c m [] l).2 = []
  · rw [e] at h ⊢
    simpa using h
  · rw [if_neg e]
    simpa using h
theorem chunks_shape (a c m : Int) (hp : 1 ≤ a ∧ a ≤ c) (l : List Int) (i : Nat) (x : List Int) (hx : (chunksOf a c m l)[i]? = some x) :
    1 ≤ x.length ∧ (x.length : Int) ≤ c ∧ (i + 1 < (chunksOf a c m l).length → a ≤ (x.length : Int)) := by
  have h := (told_shape a c m hp [] l (by simp; omega)).1
  have hl := told_len a c m [] l (by simp; omega)
  unfold chunksOf at hx ⊢
  by_cases e : (told a c m [] l).2 = []
  · rw [if_pos e, List.append_nil] at hx
    have := h x (List.mem_of_getElem? hx)
    exact ⟨by omega, this.2, fun _ => this.1⟩
  · rw [if_neg e] at hx ⊢
    rcases Nat.lt_or_ge i (told a c m [] l).1.length with hi | hi
    · rw [List.getElem?_append_left hi] at hx
      have := h x (List.mem_of_getElem? hx)
      exact ⟨by omega, this.2, fun _ => this.1⟩
    · rw [List.getElem?_append_right hi] at hx
      have hmem := List.mem_of_getElem? hx
      rw [List.mem_singleton] at hmem
      subst hmem
      refine ⟨?_, by omega, fun h2 => ?_⟩
      · exact List.length_pos_iff.2 e
      · rw [List.length_append, List.length_singleton] at h2
        omega
end Go.Proofs.Ytimlkknfmbfomaa
