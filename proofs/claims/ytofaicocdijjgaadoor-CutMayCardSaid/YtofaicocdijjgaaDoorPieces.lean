import Derived.Test.YtofaicocdijjgaaDoorRef
namespace Go.Proofs.YtofaicocdijjgaaDoor
open Go.RowKit Go.Proofs.YtofaicocdijjgaaDoorW.PrintWords Go.Proofs.YtofaicocdijjgaaDoor.Pr

/-! ### the chunks, one by one -/
theorem told_acc (a c m : Int) (l : List Int) : ∀ (o : List (List Int)) (buf : List Int), l.foldl (wrStep a c m) (o, buf) = (o ++ (told a c m buf l).1, (told a c m buf l).2) := by
  induction l with
  | nil => intro o buf; simp [told]
  | cons x l ih =>
    intro o buf
    unfold told
    simp only [List.foldl_cons]
    by_cases hc : cutNow a c m (buf.length + 1) (hash (buf ++ [x])) = true
    · have e : ∀ o, wrStep a c m (o, buf) x = (o ++ [buf ++ [x]], []) := fun o => if_pos hc
      rw [e, e, ih, ih ([] ++ [buf ++ [x]])]
      simp
    · have e : ∀ o, wrStep a c m (o, buf) x = (o, buf ++ [x]) := fun o => if_neg hc
      rw [e, e, ih, ih []]
      simp
theorem told_append (a c m : Int) (buf l l' : List Int) : told a c m buf (l ++ l') = ((told a c m buf l).1 ++ (told a c m (told a c m buf l).2 l').1, (told a c m (told a c m buf l).2 l').2) := by
  unfold told
  rw [List.foldl_append]
  exact told_acc a c m l' _ _
theorem told_none (a c m : Int) (b : List Int) (n : Nat) (hn : n ≤ b.length) (h : ∀ i, 1 ≤ i → i ≤ n → cutNow a c m i (hash (b.take i)) = false) : told a c m [] (b.take n) = ([], b.take n) := by
  induction n with
  | zero => simp [told]
  | succ n ih =>
    have hlt : n < b.length := by omega
    have e : b.take (n + 1) = b.take n ++ [b[n]] := (List.take_append_getElem hlt).symm
    rw [e, told_snoc, ih (by omega) (fun i h1 h2 => h i h1 (by omega))]
    unfold wrStep
    have hl : (b.take n).length = n := by rw [List.length_take]; omega
    have hc := h (n + 1) (by omega) (by omega)
    rw [e] at hc
    simp only [hl]
    rw [if_neg (by rw [hc]; decide)]
theorem told_cut (a c m : Int) (b : List Int) (n : Nat) (h1 : 1 ≤ n) (hn : n ≤ b.length) (h : ∀ i, 1 ≤ i → i < n → cutNow a c m i (hash (b.take i)) = false) (hc : cutNow a c m n (hash (b.take n)) = true) : told a c m [] (b.take n) = ([b.take n], []) := by
  obtain ⟨n, rfl⟩ : ∃ k, n = k + 1 := ⟨n - 1, by omega⟩
  have hlt : n < b.length := by omega
  have e : b.take (n + 1) = b.take n ++ [b[n]] := (List.take_append_getElem hlt).symm
  have hl : (b.take n).length = n := by rw [List.length_take]; omega
  rw [e] at hc
  rw [e, told_snoc, told_none a c m b n (by omega) (fun i h1 h2 => h i h1 (by omega))]
  unfold wrStep
  simp only [hl]
  rw [if_pos hc]
  rfl
/-- a cut behind n bytes: the first chunk -/
theorem chunks_cut (a c m : Int) (b : List Int) (n : Nat) (h1 : 1 ≤ n) (hn : n ≤ b.length) (h : ∀ i, 1 ≤ i → i < n → cutNow a c m i (hash (b.take i)) = false) (hc : n = b.length ∨ cutNow a c m n (hash (b.take n)) = true) :
    chunksOf a c m b = b.take n :: chunksOf a c m (b.drop n) := by
  by_cases hcut : cutNow a c m n (hash (b.take n)) = true
  · have ht := told_cut a c m b n h1 hn h hcut
    have e : told a c m [] b = told a c m [] (b.take n ++ b.drop n) := by rw [List.take_append_drop]
    unfold chunksOf
    rw [e, told_append, ht]
    simp
  · have hnb : n = b.length := hc.resolve_right hcut
    subst hnb
    have ht := told_none a c m b b.length (Nat.le_refl _) (fun i h2 h3 => by
      by_cases e : i = b.length
      · subst e; exact Bool.eq_false_iff.2 hcut
      · exact h i h2 (by omega))
    rw [List.take_length] at ht
    have hne : b ≠ [] := fun e => by subst e; simp at h1
    unfold chunksOf
    rw [ht, List.drop_length, List.take_length]
    simp [hne, told]
theorem chunks_nil (a c m : Int) : chunksOf a c m [] = [] := rfl

/-! ### the first chunk by the reference -/
theorem cutNow_iff (a b c : Int) (hp : 1 ≤ a ∧ a ≤ b ∧ b ≤ c ∧ c ≤ 4096) (n : Nat) (h : Int) (h0 : 0 ≤ h) (hh : h < 4294967296) (ha : a ≤ (n : Int)) :
    cutNow a c (maskN b) n h = true ↔ ((n : Int) = c ∨ Int.tmod h ((topPow b : Int) % 4294967296) = 0) := by
  unfold cutNow
  rw [Bool.or_eq_true, Bool.and_eq_true, decide_eq_true_iff, decide_eq_true_iff, decide_eq_true_iff, mask_iff b h (by omega) (by omega) h0 hh]
  exact ⟨fun h => h.elim .inl (fun h => .inr h.2), fun h => h.elim .inl (fun h => .inr ⟨ha, h⟩)⟩
theorem first_l0 (a b c : Int) (hp : 1 ≤ a ∧ a ≤ b ∧ b ≤ c ∧ c ≤ 4096) (xs : List Int) (hb : Bytes xs) (hL : xs.length < 1099511627776) (h1 : 1 ≤ xs.length) :
    ∀ (d j K : Nat), xs.length ≤ j + d → d + 60 < K → a ≤ (j : Int) → (∀ i, 1 ≤ i → i < j → i < xs.length → cutNow a c (maskN b) i (hash (xs.take i)) = false) →
      ∃ n : Nat, lighterageref10_First.l0 K wordsL xs ((topPow b : Int) % 4294967296) (j : Int) a b c = some (n : Int) ∧ 1 ≤ n ∧ n ≤ xs.length ∧
        (∀ i, 1 ≤ i → i < n → cutNow a c (maskN b) i (hash (xs.take i)) = false) ∧ (n = xs.length ∨ cutNow a c (maskN b) n (hash (xs.take n)) = true) := by
  have hpos := topPow_pos b
  have hle := topPow_le b (by omega) (by omega)
  intro d
  induction d with
  | zero =>
    intro j K hj hK ha hcut
    obtain ⟨K, rfl⟩ : ∃ k, K = k + 1 := ⟨K - 1, by omega⟩
    refine ⟨xs.length, ?_, h1, Nat.le_refl _, fun i hi hi2 => hcut i hi (by omega) hi2, .inl rfl⟩
    show (if (j : Int) < xs.length then _ else _) = _
    rw [if_neg (by omega)]
  | succ d ih =>
    intro j K hj hK ha hcut
    obtain ⟨K, rfl⟩ : ∃ k, K = k + 1 := ⟨K - 1, by omega⟩
    by_cases hlt : j < xs.length
    · have hbt : Bytes (xs.take j) := fun x hx => hb x (List.mem_of_mem_take hx)
      have hr := hash_range (xs.take j)
      have hci := cutNow_iff a b c hp j (hash (xs.take j)) hr.1 hr.2 ha
      have ho := over_f (xs.take j) hbt (by rw [List.length_take]; omega) K (by omega)
      by_cases hc : (j : Int) = c
      · refine ⟨j, ?_, by omega, by omega, fun i hi hi2 => hcut i hi hi2 (by omega), .inr (hci.2 (.inl hc))⟩
        show (if (j : Int) < xs.length then _ else _) = _
        rw [if_pos (by omega), if_pos hc]
      · by_cases hm : Int.tmod (hash (xs.take j)) ((topPow b : Int) % 4294967296) = 0
        · refine ⟨j, ?_, by omega, by omega, fun i hi hi2 => hcut i hi hi2 (by omega), .inr (hci.2 (.inr hm))⟩
          show (if (j : Int) < xs.length then _ else _) = _
          rw [if_pos (by omega), if_neg hc, if_pos (by omega), if_pos (by omega), show (j : Int).toNat = j by omega, ho]
          show (if (topPow b : Int) % 4294967296 = 0 then _ else _) = _
          rw [if_neg (by omega), if_pos hm]
        · obtain ⟨n, hn, h2, h3, h4, h5⟩ := ih (j + 1) K (by omega) (by omega) (by omega) (fun i hi hi2 hi3 => by
            by_cases e : i = j
            · subst e; exact Bool.eq_false_iff.2 (fun hh => (hci.1 hh).elim hc hm)
            · exact hcut i hi (by omega) hi3)
          refine ⟨n, ?_, h2, h3, h4, h5⟩
          show (if (j : Int) < xs.length then _ else _) = _
          rw [if_pos (by omega), if_neg hc, if_pos (by omega), if_pos (by omega), show (j : Int).toNat = j by omega, ho]
          show (if (topPow b : Int) % 4294967296 = 0 then _ else _) = _
          rw [if_neg (by omega), if_neg hm, IntWalk.wrap64_in _ (by omega)]
          exact hn
    · refine ⟨xs.length, ?_, h1, Nat.le_refl _, fun i hi hi2 => hcut i hi (by omega) hi2, .inl rfl⟩
      show (if (j : Int) < xs.length then _ else _) = _
      rw [if_neg (by omega)]
theorem first_f (a b c : Int) (hp : 1 ≤ a ∧ a ≤ b ∧ b ≤ c ∧ c ≤ 4096) (xs : List Int) (hb : Bytes xs) (hL : xs.length < 1099511627776) (h1 : 1 ≤ xs.length) (K : Nat) (hK : xs.length + 60 < K) :
    ∃ n : Nat, lighterageref10_First.f K wordsL xs a b c = some (n : Int) ∧ 1 ≤ n ∧ n ≤ xs.length ∧ chunksOf a c (maskN b) xs = xs.take n :: chunksOf a c (maskN b) (xs.drop n) := by
  obtain ⟨j, rfl⟩ := Int.eq_ofNat_of_zero_le (show 0 ≤ a by omega)
  obtain ⟨n, hn, h2, h3, h4, h5⟩ := first_l0 j b c hp xs hb hL h1 xs.length j K (by omega) hK (Int.le_refl _) (fun i hi hi2 _ => by
    unfold cutNow
    rw [decide_eq_false (by omega : ¬ (i : Int) = c), decide_eq_false (by omega : ¬ (j : Int) ≤ (i : Int))]
    rfl)
  refine ⟨n, ?_, h2, h3, chunks_cut _ _ _ _ n h2 h3 h4 h5⟩
  show (lighterageref10_Power.f K b).bind _ = _
  rw [power_f b (by omega) (by omega) K (by omega)]
  exact hn
theorem chunks_l0 (a b c : Int) (hp : 1 ≤ a ∧ a ≤ b ∧ b ≤ c ∧ c ≤ 4096) : ∀ (d : Nat) (xs : List Int) (K : Nat) (out : List (List Int)), Bytes xs → xs.length ≤ d → d + out.length < 1099511627776 → d + 62 < K →
    lighterageref10_Chunks.l0 K xs wordsL out a b c = some (out ++ chunksOf a c (maskN b) xs) := by
  intro d
  induction d with
  | zero =>
    intro xs K out hb hd hL hK
    obtain ⟨K, rfl⟩ : ∃ k, K = k + 1 := ⟨K - 1, by omega⟩
    have : xs = [] := List.eq_nil_of_length_eq_zero (by omega)
    subst this
    show some out = _
    rw [chunks_nil, List.append_nil]
  | succ d ih =>
    intro xs K out hb hd hL hK
    obtain ⟨K, rfl⟩ : ∃ k, K = k + 1 := ⟨K - 1, by omega⟩
    by_cases h0 : xs.length = 0
    · have : xs = [] := List.eq_nil_of_length_eq_zero h0
      subst this
      show some out = _
      rw [chunks_nil, List.append_nil]
    · obtain ⟨n, hn, h2, h3, h4⟩ := first_f a b c hp xs hb (by omega) (by omega) K (by omega)
      show (if (xs.length : Int) > 0 then _ else _) = _
      rw [if_pos (by omega)]
      show (lighterageref10_First.f K wordsL xs a b c).bind _ = _
      rw [hn, Option.bind_some, if_pos (by omega), if_pos (by omega), if_pos (by omega), show (n : Int).toNat = n by omega]
      rw [ih (xs.drop n) K _ (fun x hx => hb x (List.mem_of_mem_drop hx)) (by rw [List.length_drop]; omega) (by simp; omega) (by omega), h4]
      simp
theorem chunks_f (a b c : Int) (hp : 1 ≤ a ∧ a ≤ b ∧ b ≤ c ∧ c ≤ 4096) (xs : List Int) (hb : Bytes xs) (hL : xs.length < 1099511627776) (K : Nat) (hK : xs.length + 300 < K) :
    lighterageref10_Chunks.f K xs a b c = some (chunksOf a c (maskN b) xs) := by
  show (lighterageref04_Words.f K).bind _ = _
  rw [words_f K (by omega)]
  exact (chunks_l0 a b c hp xs.length xs K [] hb (Nat.le_refl _) (by simpa using hL) (by omega)).trans (by rw [List.nil_append])

/-! ### lists of bytes, compared as strings -/
theorem strOfNums_inj {x y : List Int} (hx : Bytes x) (hy : Bytes y) (h : strOfNums x = strOfNums y) : x = y := by
  have h1 : (strOfNums x).data.toList = (strOfNums y).data.toList := by rw [h]
  rw [strOfNums_data, strOfNums_data] at h1
  have hl : x.length = y.length := by have := congrArg List.length h1; simpa using this
  refine List.ext_getElem hl (fun i h2 h3 => ?_)
  have h4 : (x.map fun n => UInt8.ofNat n.toNat)[i]'(by simpa using h2) = (y.map fun n => UInt8.ofNat n.toNat)[i]'(by simpa using h3) := by simp only [h1]
  rw [List.getElem_map, List.getElem_map] at h4
  have h5 := congrArg UInt8.toNat h4
  have h6 := hx x[i] (List.getElem_mem _)
  have h7 := hy y[i] (List.getElem_mem _)
  rw [UInt8.toNat_ofNat', UInt8.toNat_ofNat'] at h5
  omega
theorem same_l0 (l m : List (List Int)) (hl : ∀ x, x ∈ l → Bytes x) (hm : ∀ x, x ∈ m → Bytes x) (he : l.length = m.length) (hL : l.length < 1099511627776) : ∀ (d j K : Nat), j + d = l.length → d < K →
    lighteragelaw10_same.l0 K l m (j : Int) = some (decide (l.drop j = m.drop j)) := by
  intro d
  induction d with
  | zero =>
    intro j K hj hK
    obtain ⟨K, rfl⟩ : ∃ k, K = k + 1 := ⟨K - 1, by omega⟩
    show (if (j : Int) < l.length then _ else _) = _
    rw [if_neg (by omega), List.drop_eq_nil_of_le (by omega), List.drop_eq_nil_of_le (by omega)]
    simp
  | succ d ih =>
    intro j K hj hK
    obtain ⟨K, rfl⟩ : ∃ k, K = k + 1 := ⟨K - 1, by omega⟩
    have h1 : j < l.length := by omega
    have h2 : j < m.length := by omega
    have e1 : l.getD (j : Int).toNat [] = l[j] := by
      rw [List.getD_eq_getElem?_getD, show (j : Int).toNat = j by omega, List.getElem?_eq_getElem h1]
      rfl
    have e2 : m.getD (j : Int).toNat [] = m[j] := by
      rw [List.getD_eq_getElem?_getD, show (j : Int).toNat = j by omega, List.getElem?_eq_getElem h2]
      rfl
    show (if (j : Int) < l.length then (if 0 ≤ (j : Int) then (if (j : Int) < m.length then (if (strOfNums (l.getD (j : Int).toNat [])).toList = (strOfNums (m.getD (j : Int).toNat [])).toList then lighteragelaw10_same.l0 K l m (wrap64 ((j : Int) + 1)) else some false) else none) else none) else some true) = _
    rw [if_pos (by omega), if_pos (by omega), if_pos (by omega), e1, e2, List.drop_eq_getElem_cons h1, List.drop_eq_getElem_cons h2]
    by_cases hx : l[j] = m[j]
    · rw [if_pos (by rw [hx]), IntWalk.wrap64_in _ (by omega)]
      refine (ih (j + 1) K (by omega) (by omega)).trans ?_
      simp only [List.cons.injEq, hx, true_and]
    · rw [if_neg (fun h => hx (strOfNums_inj (hl _ (List.getElem_mem _)) (hm _ (List.getElem_mem _)) (by rw [ByteArray.toList_eq, ByteArray.toList_eq] at h; exact ByteArray.ext (Array.toList_inj.1 h))))]
      simp only [List.cons.injEq, hx, false_and, decide_false]
theorem same_f (l m : List (List Int)) (hl : ∀ x, x ∈ l → Bytes x) (hm : ∀ x, x ∈ m → Bytes x) (hL : l.length < 1099511627776) (K : Nat) (hK : l.length < K) : lighteragelaw10_same.f K l m = some (decide (l = m)) := by
  show (if (l.length : Int) = (m.length : Int) then _ else _) = _
  by_cases he : l.length = m.length
  · rw [if_pos (by omega)]
    exact same_l0 l m hl hm he hL l.length 0 K (by omega) hK
  · rw [if_neg (by omega), decide_eq_false (fun e => he (by rw [e]))]
end Go.Proofs.YtofaicocdijjgaaDoor
