import Derived.Test.YtofaicocdijjgaaDoorPr
import Derived.Test.YtofaicocdijjgaaDoorSizes
import Derived.Lib.ItoaNum
namespace Go.Proofs.YtofaicocdijjgaaDoor
open Go.RowKit Go.Proofs.YtofaicocdijjgaaDoorW.PrintWords Go.Proofs.YtofaicocdijjgaaDoor.Pr

/-! ### the words -/
def wordsL : List Int := (List.range 256).map word
theorem wordsL_len : wordsL.length = 256 := by simp [wordsL]
theorem wordsL_rd (x : Int) (h0 : 0 ≤ x) (h1 : x < 256) : rd wordsL x = wd x := by
  unfold rd wd wordsL
  rw [List.getD_eq_getElem?_getD, List.getElem?_map, List.getElem?_range (by omega)]
  rfl
theorem tdiv_u32 (y : Int) (h : 0 ≤ y) (h1 : y < 4294967296) (n : Int) (hn : 0 < n) : Int.tdiv y n % 4294967296 = y / n := by
  rw [Int.tdiv_eq_ediv_of_nonneg h]
  have h2 : 0 ≤ y / n := Int.ediv_nonneg h (by omega)
  have h3 : y / n ≤ y := Int.ediv_le_self _ h
  exact Int.emod_eq_of_lt h2 (by omega)
theorem words_l0 : ∀ (d j K : Nat), j + d = 256 → d < K → lighterageref04_Words.l0 K ((List.range j).map word) (xst j) (j : Int) = some wordsL := by
  intro d
  induction d with
  | zero =>
    intro j K hj hK
    obtain ⟨K, rfl⟩ : ∃ k, K = k + 1 := ⟨K - 1, by omega⟩
    have : j = 256 := by omega
    subst this
    rfl
  | succ d ih =>
    intro j K hj hK
    obtain ⟨K, rfl⟩ : ∃ k, K = k + 1 := ⟨K - 1, by omega⟩
    show (if (j : Int) < 256 then _ else _) = _
    rw [if_pos (by omega), if_pos (by simp; omega)]
    have hr := xst_range j
    have hx : 0 ≤ x13 (xst j) ∧ x13 (xst j) < 4294967296 := xor32_range _ _
    have e : bits .xor .u32 (xst j) ((xst j * 8192) % 4294967296) = x13 (xst j) := rfl
    rw [e, tdiv_u32 _ hx.1 hx.2 131072 (by decide)]
    have e2 : bits .xor .u32 (x13 (xst j)) (x13 (xst j) / 131072) = x17 (x13 (xst j)) := rfl
    rw [e2]
    have e3 : bits .xor .u32 (x17 (x13 (xst j))) (x17 (x13 (xst j)) * 32 % 4294967296) = xst (j + 1) := rfl
    rw [e3, IntWalk.wrap64_in _ (by omega)]
    have := ih (j + 1) K (by omega) (by omega)
    rw [List.range_succ, List.map_append] at this
    exact this
theorem words_f (K : Nat) (h : 256 < K) : lighterageref04_Words.f K = some wordsL := words_l0 256 0 K rfl h

/-! ### rotations and the hash -/
theorem rol_one_i32 (x : B32) : (((i32 x * 2) % 4294967296) + ((Int.tdiv (i32 x) 2147483648) % 4294967296)) % 4294967296 = i32 (x.rotateLeft 1) := by
  have hr := i32_range x
  rw [tdiv_u32 _ hr.1 hr.2 _ (by decide)]
  have h := rot_i32 x 1 (by omega)
  rw [← h]
  unfold rot
  have h1 : (i32 x) * 2 ^ 1 % 4294967296 = (((x.toNat * 2 ^ 1) % 4294967296 : Nat) : Int) := by unfold i32; rw [Int.natCast_emod, Int.natCast_mul, Int.natCast_pow]; rfl
  have h2 : (i32 x) / 2 ^ (32 - 1) = ((x.toNat / 2 ^ (32 - 1) : Nat) : Int) := by unfold i32; rw [Int.natCast_ediv, Int.natCast_pow]; rfl
  have hb : x.toNat / 2 ^ (32 - 1) < 2 := by have := x.isLt; omega
  have e : (x.toNat * 2 ^ 1 % 4294967296) ||| (x.toNat / 2 ^ (32 - 1)) = x.toNat * 2 ^ 1 % 4294967296 + x.toNat / 2 ^ (32 - 1) := by
    have h3 : x.toNat * 2 ^ 1 % 4294967296 = 2 ^ 1 * (x.toNat % 2147483648) := by omega
    rw [h3, Nat.two_pow_add_eq_or_of_lt hb]
  rw [h1, h2, u32_or_nat _ _ (by omega) (by omega), e]
  have h4 : i32 x * 2 % 4294967296 = ((x.toNat * 2 ^ 1 % 4294967296 : Nat) : Int) := h1
  have h5 : i32 x / 2147483648 = ((x.toNat / 2 ^ (32 - 1) : Nat) : Int) := h2
  rw [h4, h5]
  omega
theorem rol_succ' (t : B32) : ∀ n, n < 31 → (t.rotateLeft 1).rotateLeft n = t.rotateLeft (n + 1) := by
  intro n
  induction n with
  | zero => intro _; rw [rol_zero]
  | succ n ihn => intro hn; rw [← rol_succ _ n (by omega), ihn (by omega), rol_succ _ (n + 1) (by omega)]
theorem left_l0 : ∀ (d K : Nat) (x : B32) (j n : Nat), j + d = n → d < K → d ≤ 31 → n < 1000 → lighterageref04_left.l0 K (i32 x) (n : Int) (j : Int) = some (i32 (x.rotateLeft d)) := by
  intro d
  induction d with
  | zero =>
    intro K x j n hj hK _ _
    obtain ⟨K, rfl⟩ : ∃ k, K = k + 1 := ⟨K - 1, by omega⟩
    show (if (j : Int) < n then _ else _) = _
    rw [if_neg (by omega), rol_zero]
  | succ d ih =>
    intro K x j n hj hK hd hn
    obtain ⟨K, rfl⟩ : ∃ k, K = k + 1 := ⟨K - 1, by omega⟩
    show (if (j : Int) < n then _ else _) = _
    rw [if_pos (by omega), rol_one_i32, IntWalk.wrap64_in _ (by omega)]
    have := ih K (x.rotateLeft 1) (j + 1) n (by omega) (by omega) (by omega) hn
    rw [rol_succ' x d (by omega)] at this
    exact this
theorem over_l0 (b : List Int) (hb : Bytes b) (hL : b.length < 1099511627776) : ∀ (d j K : Nat) (acc : B32), j + d = b.length → d ≤ 16 → d + 32 < K →
    lighterageref04_Over.l0 K wordsL b (i32 acc) (j : Int) = some (i32 (acc ^^^ bfold 0 (b.drop j))) := by
  intro d
  induction d with
  | zero =>
    intro j K acc hj _ hK
    obtain ⟨K, rfl⟩ : ∃ k, K = k + 1 := ⟨K - 1, by omega⟩
    show (if (j : Int) < b.length then _ else _) = _
    rw [if_neg (by omega), List.drop_eq_nil_of_le (by omega)]
    simp [bfold]
  | succ d ih =>
    intro j K acc hj hd hK
    obtain ⟨K, rfl⟩ : ∃ k, K = k + 1 := ⟨K - 1, by omega⟩
    have hlt : j < b.length := by omega
    have hx := hb b[j] (List.getElem_mem _)
    have hrd : rd b (j : Int) = b[j] := by
      unfold rd
      rw [List.getD_eq_getElem?_getD, show (j : Int).toNat = j by omega, List.getElem?_eq_getElem hlt]
      rfl
    show (if (j : Int) < b.length then _ else _) = _
    rw [if_pos (by omega), if_pos (by omega), hrd, if_pos hx.1, if_pos (by rw [wordsL_len]; exact hx.2), wordsL_rd _ hx.1 hx.2, wd_wB]
    rw [IntWalk.wrap64_in ((b.length : Int) - 1) (by omega), IntWalk.wrap64_in _ (by omega)]
    have hl := left_l0 d K (wB b[j]) 0 d (by omega) (by omega) (by omega) (by omega)
    have e : (b.length : Int) - 1 - (j : Int) = ((d : Nat) : Int) := by omega
    rw [e]
    show (lighterageref04_left.l0 K (i32 (wB b[j])) (d : Int) ((0 : Nat) : Int)).bind _ = _
    rw [hl]
    show lighterageref04_Over.l0 K wordsL b (bits .xor .u32 (i32 acc) (i32 ((wB b[j]).rotateLeft d))) (wrap64 ((j : Int) + 1)) = _
    rw [xor_i32, IntWalk.wrap64_in _ (by omega)]
    have := ih (j + 1) K (acc ^^^ (wB b[j]).rotateLeft d) (by omega) (by omega) (by omega)
    refine this.trans ?_
    congr 2
    rw [List.drop_eq_getElem_cons hlt, bfold_cons]
    have e3 : (BitVec.rotateLeft (0 : B32) 1 ^^^ wB b[j]) = (0 : B32) ^^^ wB b[j] := by congr 1
    have hdl : (b.drop (j + 1)).length = d := by rw [List.length_drop]; omega
    rw [e3, bfold_xor _ (by omega), hdl, BitVec.xor_assoc, BitVec.xor_comm (BitVec.rotateLeft (wB b[j]) d)]
theorem over_f (b : List Int) (hb : Bytes b) (hL : b.length < 1099511627776) (K : Nat) (hK : 48 < K) : lighterageref04_Over.f K wordsL b = some (hash b) := by
  unfold lighterageref04_Over.f
  rw [IntWalk.wrap64_in _ (by omega)]
  have e : mx ((b.length : Int) - 16) 0 = ((b.length - 16 : Nat) : Int) := by
    unfold mx
    split <;> omega
  rw [e]
  have := over_l0 b hb hL (b.length - (b.length - 16)) (b.length - 16) K 0 (by omega) (by omega) (by omega)
  rw [hash_i32]
  refine Eq.trans ?_ (this.trans ?_)
  · rfl
  · rw [show (0 : B32) ^^^ bfold 0 (b.drop (b.length - 16)) = bfold 0 (b.drop (b.length - 16)) from BitVec.zero_xor]

/-! ### the power of two -/
def topPow (b : Int) : Nat := 2 ^ (Lib.bitLen b.toNat - 1)
theorem maskN_eq (b : Int) : maskN b = (topPow b : Int) - 1 := by
  unfold maskN topPow
  rw [Int.natCast_pow]
  rfl
theorem bitLen_bounds (n : Nat) (h0 : n ≠ 0) (h : n < 2 ^ 64) : 1 ≤ Lib.bitLen n ∧ 2 ^ (Lib.bitLen n - 1) ≤ n ∧ n < 2 ^ Lib.bitLen n := Lib.bitLenAux_bounds 64 n h h0
theorem power_l0 (b : Int) (h1 : 1 ≤ b) (h2 : b ≤ 4096) : ∀ (d j K : Nat), j + d = Lib.bitLen b.toNat - 1 → d < K → lighterageref10_Power.l0 K b ((2 ^ j : Nat) : Int) = some ((topPow b : Nat) : Int) := by
  obtain ⟨hp, hlo, hhi⟩ := bitLen_bounds b.toNat (by omega) (by omega)
  have hle : Lib.bitLen b.toNat ≤ 13 := Lib.bitLen_le _ 13 (by omega) (by omega)
  intro d
  induction d with
  | zero =>
    intro j K hj hK
    obtain ⟨K, rfl⟩ : ∃ k, K = k + 1 := ⟨K - 1, by omega⟩
    have e : j = Lib.bitLen b.toNat - 1 := by omega
    have e2 : 2 * 2 ^ j = 2 ^ Lib.bitLen b.toNat := by rw [e, Nat.mul_comm, ← Nat.pow_succ]; congr 1; omega
    have hs : 2 ^ j ≤ 2 ^ 13 := Nat.pow_le_pow_right (by omega) (by omega)
    show (if wrap64 (2 * ((2 ^ j : Nat) : Int)) ≤ b then _ else _) = _
    rw [IntWalk.wrap64_in _ (by omega), if_neg (by omega)]
    unfold topPow
    rw [e]
  | succ d ih =>
    intro j K hj hK
    obtain ⟨K, rfl⟩ : ∃ k, K = k + 1 := ⟨K - 1, by omega⟩
    have hs : 2 ^ j ≤ 2 ^ 13 := Nat.pow_le_pow_right (by omega) (by omega)
    have e2 : 2 * 2 ^ j = 2 ^ (j + 1) := by rw [Nat.mul_comm, ← Nat.pow_succ]
    have hm : 2 ^ (j + 1) ≤ 2 ^ (Lib.bitLen b.toNat - 1) := Nat.pow_le_pow_right (by omega) (by omega)
    show (if wrap64 (2 * ((2 ^ j : Nat) : Int)) ≤ b then _ else _) = _
    rw [IntWalk.wrap64_in _ (by omega), if_pos (by omega)]
    have := ih (j + 1) K (by omega) (by omega)
    rw [← e2] at this
    exact this
theorem power_f (b : Int) (h1 : 1 ≤ b) (h2 : b ≤ 4096) (K : Nat) (hK : 16 < K) : lighterageref10_Power.f K b = some ((topPow b : Nat) : Int) := by
  have hle : Lib.bitLen b.toNat ≤ 13 := Lib.bitLen_le _ 13 (by omega) (by omega)
  exact power_l0 b h1 h2 (Lib.bitLen b.toNat - 1) 0 K (by omega) (by omega)
theorem topPow_pos (b : Int) : 0 < topPow b := Nat.pow_pos (by omega)
theorem topPow_le (b : Int) (h1 : 1 ≤ b) (h2 : b ≤ 4096) : topPow b ≤ 4096 := by
  obtain ⟨hp, hlo, hhi⟩ := bitLen_bounds b.toNat (by omega) (by omega)
  unfold topPow
  omega
theorem mask_iff (b h : Int) (h1 : 1 ≤ b) (h2 : b ≤ 4096) (h0 : 0 ≤ h) (hh : h < 4294967296) : (bits .and .u32 h (maskN b) = 0) ↔ Int.tmod h ((topPow b : Int) % 4294967296) = 0 := by
  have hp := topPow_pos b
  have hl := topPow_le b h1 h2
  obtain ⟨n, rfl⟩ := Int.eq_ofNat_of_zero_le h0
  rw [Int.emod_eq_of_lt (by omega) (by omega), Int.tmod_eq_emod_of_nonneg h0, maskN_eq]
  have e : (topPow b : Int) - 1 = ((topPow b - 1 : Nat) : Int) := by omega
  rw [e, u32_and_nat _ _ (by omega) (by omega)]
  have e2 : n &&& (topPow b - 1) = n % topPow b := by unfold topPow; exact Nat.and_two_pow_sub_one_eq_mod _ _
  rw [e2]
  omega
end Go.Proofs.YtofaicocdijjgaaDoor
