import Derived.Test.YtofaicocdijjgaaDoorHash
namespace Go.Proofs.YtofaicocdijjgaaDoor

/-- is there a cut behind n bytes of hash h? -/
def cutNow (a c m : Int) (n : Nat) (h : Int) : Bool := decide ((n : Int) = c) || (decide (a ≤ (n : Int)) && decide (bits .and .u32 h m = 0))
/-- one byte more: the chunks told, the bytes that were not told yet -/
def wrStep (a c m : Int) (st : List (List Int) × List Int) (x : Int) : List (List Int) × List Int :=
  if cutNow a c m (st.2.length + 1) (hash (st.2 ++ [x])) then (st.1 ++ [st.2 ++ [x]], []) else (st.1, st.2 ++ [x])
def told (a c m : Int) (buf : List Int) (l : List Int) : List (List Int) × List Int := l.foldl (wrStep a c m) ([], buf)
theorem told_nil (a c m : Int) (buf : List Int) : told a c m buf [] = ([], buf) := rfl
theorem told_snoc (a c m : Int) (buf l : List Int) (x : Int) : told a c m buf (l ++ [x]) = wrStep a c m (told a c m buf l) x := by simp [told]
theorem told_take (a c m : Int) (buf l : List Int) (k : Nat) (x : Int) (h : l[k]? = some x) : told a c m buf (l.take (k + 1)) = wrStep a c m (told a c m buf (l.take k)) x := by
  rw [List.take_add_one, h]
  exact told_snoc _ _ _ _ _ _
theorem snoc_ind {α : Type} {P : List α → Prop} (h0 : P []) (h1 : ∀ l x, P l → P (l ++ [x])) (l : List α) : P l := by
  rw [← List.reverse_reverse l]
  induction l.reverse with
  | nil => exact h0
  | cons x l ih => rw [List.reverse_cons]; exact h1 _ _ ih
theorem told_len (a c m : Int) (buf l : List Int) (h : (buf.length : Int) < c) : ((told a c m buf l).2.length : Int) < c := by
  refine snoc_ind (P := fun l => ((told a c m buf l).2.length : Int) < c) h ?_ l
  · intro l x ih
    rw [told_snoc]
    unfold wrStep
    by_cases hc : cutNow a c m ((told a c m buf l).2.length + 1) (hash ((told a c m buf l).2 ++ [x])) = true
    · rw [if_pos hc]; simp; omega
    · rw [if_neg hc]
      have : ¬ (((told a c m buf l).2.length + 1 : Nat) : Int) = c := by
        intro e
        apply hc
        unfold cutNow
        rw [decide_eq_true e, Bool.true_or]
      simp
      omega
theorem told_outs (a c m : Int) (buf l : List Int) : (told a c m buf l).1.length ≤ l.length := by
  refine snoc_ind (P := fun l => (told a c m buf l).1.length ≤ l.length) (Nat.le_refl _) ?_ l
  · intro l x ih
    rw [told_snoc]
    unfold wrStep
    split <;> simp <;> omega
theorem told_bytes (a c m : Int) (buf l : List Int) (hb : Bytes buf) (hl : Bytes l) : Bytes (told a c m buf l).2 ∧ ∀ x, x ∈ (told a c m buf l).1 → Bytes x := by
  revert hl
  refine snoc_ind (P := fun l => Bytes l → Bytes (told a c m buf l).2 ∧ ∀ x, x ∈ (told a c m buf l).1 → Bytes x) (fun _ => ⟨hb, fun x hx => by simp [told] at hx⟩) ?_ l
  · intro l x ih hl
    obtain ⟨ih1, ih2⟩ := ih (fun y hy => hl y (by simp [hy]))
    have hx := hl x (by simp)
    have h1 : Bytes ((told a c m buf l).2 ++ [x]) := fun y hy => by
      rcases List.mem_append.1 hy with hy | hy
      · exact ih1 y hy
      · rw [List.mem_singleton.1 hy]; exact hx
    rw [told_snoc]
    unfold wrStep
    split
    · exact ⟨fun y hy => by simp at hy, fun y hy => by
        rcases List.mem_append.1 hy with hy | hy
        · exact ih2 y hy
        · rw [List.mem_singleton.1 hy]; exact h1⟩
    · exact ⟨h1, ih2⟩
/-- all chunks -/
def chunksOf (a c m : Int) (b : List Int) : List (List Int) := (told a c m [] b).1 ++ if (told a c m [] b).2 = [] then [] else [(told a c m [] b).2]
theorem chunks_length (a c m : Int) (b : List Int) : (chunksOf a c m b).length ≤ b.length + 1 := by
  unfold chunksOf
  have := told_outs a c m [] b
  split <;> simp <;> omega
end Go.Proofs.YtofaicocdijjgaaDoor
