import Derived.Test.YtofaicocdijjgaaDoorAdd
namespace Go.Proofs.YtofaicocdijjgaaDoor
open Go.RowKit Go.Proofs.YtofaicocdijjgaaDoorW.PrintWords

abbrev B32 := BitVec 32
def i32 (x : B32) : Int := (x.toNat : Int)
theorem i32_range (x : B32) : 0 ≤ i32 x ∧ i32 x < 4294967296 := ⟨by unfold i32; omega, by have := x.isLt; unfold i32; omega⟩
theorem i32_inj {x y : B32} (h : i32 x = i32 y) : x = y := by
  apply BitVec.eq_of_toNat_eq
  unfold i32 at h
  omega
def o32 (x : Int) : B32 := BitVec.ofNat 32 x.toNat
theorem i32_o32 (x : Int) (h0 : 0 ≤ x) (h1 : x < 4294967296) : i32 (o32 x) = x := by
  unfold i32 o32
  rw [BitVec.toNat_ofNat]
  omega
theorem xor_i32 (x y : B32) : bits .xor .u32 (i32 x) (i32 y) = i32 (x ^^^ y) := by
  unfold i32
  rw [u32_xor_nat _ _ x.isLt y.isLt, BitVec.toNat_xor]
theorem rot_i32 (x : B32) (s : Nat) (hs : s < 32) : rot (i32 x) s = i32 (x.rotateLeft s) := by
  have h1 : (i32 x) * 2 ^ s % 4294967296 = (((x.toNat * 2 ^ s) % 4294967296 : Nat) : Int) := by unfold i32; rw [Int.natCast_emod, Int.natCast_mul, Int.natCast_pow]; rfl
  have h2 : (i32 x) / 2 ^ (32 - s) = ((x.toNat / 2 ^ (32 - s) : Nat) : Int) := by unfold i32; rw [Int.natCast_ediv, Int.natCast_pow]; rfl
  unfold rot
  rw [h1, h2, u32_or_nat _ _ (by omega) (Nat.lt_of_le_of_lt (Nat.div_le_self _ _) x.isLt)]
  unfold i32
  congr 1
  rw [BitVec.rotateLeft_def, BitVec.toNat_or, BitVec.toNat_shiftLeft, BitVec.toNat_ushiftRight, Nat.mod_eq_of_lt hs, Nat.shiftLeft_eq, Nat.shiftRight_eq_div_pow]

theorem rol_xor (x y : B32) (s : Nat) : (x ^^^ y).rotateLeft s = x.rotateLeft s ^^^ y.rotateLeft s := by
  apply BitVec.eq_of_getLsbD_eq
  intro i hi
  simp only [BitVec.getLsbD_rotateLeft, BitVec.getLsbD_xor, Bool.cond_decide]
  by_cases h : i < s % 32
  · simp only [if_pos h]
  · simp only [if_neg h, decide_eq_true hi, Bool.true_and]
theorem rol_succ (x : B32) (s : Nat) (hs : s < 31) : (x.rotateLeft s).rotateLeft 1 = x.rotateLeft (s + 1) := by
  apply BitVec.eq_of_getLsbD_eq
  intro i hi
  simp only [BitVec.getLsbD_rotateLeft, Bool.cond_decide]
  rw [Nat.mod_eq_of_lt (show s < 32 by omega), Nat.mod_eq_of_lt (show s + 1 < 32 by omega)]
  by_cases h1 : i < 1
  · rw [if_pos (by omega), if_neg (by omega), if_pos (by omega)]
    rw [decide_eq_true (by omega : 32 - 1 % 32 + i < 32), Bool.true_and]
    congr 1
    omega
  · rw [if_neg (by omega), decide_eq_true hi, Bool.true_and, Bool.true_and]
    by_cases h2 : i < s + 1
    · rw [if_pos (by omega), if_pos h2]
      congr 1
      omega
    · rw [if_neg (by omega), if_neg h2, decide_eq_true (by omega : i - 1 % 32 < 32), Bool.true_and]
      congr 1
      omega
theorem rol_zero (x : B32) : x.rotateLeft 0 = x := by
  apply BitVec.eq_of_getLsbD_eq
  intro i hi
  simp [BitVec.getLsbD_rotateLeft, hi]

def wB (c : Int) : B32 := o32 (wd c)
theorem wd_wB (c : Int) : wd c = i32 (wB c) := (i32_o32 _ (word_range _).1 (word_range _).2).symm
/-- the fold over words -/
def bfold (s : B32) (l : List Int) : B32 := l.foldl (fun s c => s.rotateLeft 1 ^^^ wB c) s
theorem hfold_i32 (l : List Int) : ∀ s, hfold (i32 s) l = i32 (bfold s l) := by
  induction l with
  | nil => intro s; rfl
  | cons c l ih =>
    intro s
    show hfold (bits .xor .u32 (rot (i32 s) 1) (wd c)) l = _
    rw [rot_i32 s 1 (by omega), wd_wB, xor_i32, ih]
    rfl
theorem bfold_xor (l : List Int) (hl : l.length < 32) : ∀ s t, bfold (s ^^^ t) l = bfold s l ^^^ t.rotateLeft l.length := by
  induction l with
  | nil => intro s t; simp [bfold, rol_zero]
  | cons c l ih =>
    intro s t
    have hl' : l.length < 31 := by rw [List.length_cons] at hl; omega
    show bfold ((s ^^^ t).rotateLeft 1 ^^^ wB c) l = bfold (s.rotateLeft 1 ^^^ wB c) l ^^^ _
    have e : (s ^^^ t).rotateLeft 1 ^^^ wB c = (s.rotateLeft 1 ^^^ wB c) ^^^ t.rotateLeft 1 := by
      rw [rol_xor, BitVec.xor_assoc, BitVec.xor_assoc, BitVec.xor_comm (t.rotateLeft 1)]
    rw [e, ih (by omega), List.length_cons]
    congr 1
    have : ∀ n, n < 31 → (t.rotateLeft 1).rotateLeft n = t.rotateLeft (n + 1) := by
      intro n
      induction n with
      | zero => intro _; rw [rol_zero]
      | succ n ihn => intro hn; rw [← rol_succ _ n (by omega), ihn (by omega), rol_succ _ (n + 1) (by omega)]
    exact this _ (by omega)
theorem bfold_snoc (s : B32) (l : List Int) (c : Int) : bfold s (l ++ [c]) = (bfold s l).rotateLeft 1 ^^^ wB c := by simp [bfold]
theorem bfold_cons (s : B32) (l : List Int) (c : Int) : bfold s (c :: l) = bfold (s.rotateLeft 1 ^^^ wB c) l := rfl

theorem hash_i32 (b : List Int) : hash b = i32 (bfold 0 (b.drop (b.length - 16))) := hfold_i32 _ 0
theorem hash_range (b : List Int) : 0 ≤ hash b ∧ hash b < 4294967296 := by rw [hash_i32]; exact i32_range _
theorem hash_short (b : List Int) (c : Int) (h : b.length < 16) : hash (b ++ [c]) = bits .xor .u32 (rot (hash b) 1) (wd c) := by
  rw [hash_i32, hash_i32, rot_i32 _ 1 (by omega), wd_wB, xor_i32]
  congr 1
  rw [show (b ++ [c]).length - 16 = 0 by simp; omega, show b.length - 16 = 0 by omega, List.drop_zero, List.drop_zero, bfold_snoc]
theorem hash_long (b : List Int) (c o : Int) (h : 16 ≤ b.length) (ho : b[b.length - 16]? = some o) :
    hash (b ++ [c]) = bits .xor .u32 (bits .xor .u32 (rot (hash b) 1) (wd c)) (rot (wd o) 16) := by
  rw [hash_i32, hash_i32, rot_i32 _ 1 (by omega), wd_wB, xor_i32, wd_wB, rot_i32 _ 16 (by omega), xor_i32]
  congr 1
  obtain ⟨hlt, hg⟩ := List.getElem?_eq_some_iff.1 ho
  have e1 : b.drop (b.length - 16) = o :: b.drop (b.length - 16 + 1) := by rw [List.drop_eq_getElem_cons hlt, hg]
  have e2 : (b ++ [c]).drop ((b ++ [c]).length - 16) = b.drop (b.length - 16 + 1) ++ [c] := by
    rw [List.length_append, List.length_singleton, List.drop_append_of_le_length (by omega)]
    congr 2
    omega
  rw [e1, e2, bfold_snoc, bfold_cons]
  have hlen : (b.drop (b.length - 16 + 1)).length = 15 := by rw [List.length_drop]; omega
  have e3 : (BitVec.rotateLeft (0 : B32) 1 ^^^ wB o) = (0 : B32) ^^^ wB o := by
    congr 1
  rw [e3, bfold_xor _ (by omega), hlen, rol_xor, rol_succ _ 15 (by omega), BitVec.xor_assoc, BitVec.xor_assoc, BitVec.xor_comm (wB c) (BitVec.rotateLeft (wB o) 16)]
  rw [← BitVec.xor_assoc (BitVec.rotateLeft (wB o) (15 + 1)), BitVec.xor_self, BitVec.zero_xor]

theorem addC_size (cs : Array Value) (n : Nat) (c h : Int) : (addC cs n c h).size = cs.size := by simp [addC]
theorem addC_at (cs : Array Value) (n : Nat) (c h : Int) (hs : cs.size = 277) (i : Nat) : (addC cs n c h)[i]? = if i = 275 then some (.int .i64 (n + 1)) else if i = 259 + n % 16 then some (.int .u8 c) else if i = 276 then some (.int .u32 h) else cs[i]? := by
  unfold addC
  simp only [Array.getElem?_setIfInBounds, Array.size_setIfInBounds, hs]
  by_cases h1 : i = 275
  · rw [if_pos h1.symm, if_pos h1, if_pos (by omega)]
  · rw [if_neg (fun e => h1 e.symm), if_neg h1]
    by_cases h2 : i = 259 + n % 16
    · rw [if_pos h2.symm, if_pos h2, if_pos (by omega)]
    · rw [if_neg (fun e => h2 e.symm), if_neg h2]
      by_cases h3 : i = 276
      · rw [if_pos h3.symm, if_pos h3, if_pos (by omega)]
      · rw [if_neg (fun e => h3 e.symm), if_neg h3]
/-- the relation behind one byte more -/
theorem RollAt.snoc {cs : Array Value} {b : List Int} {c : Int} (hr : RollAt cs b) (hf : Filled cs) (hc0 : 0 ≤ c) (hc1 : c < 256) : RollAt (addC cs b.length c (hash (b ++ [c]))) (b ++ [c]) where
  size := by rw [addC_size]; exact hr.size
  tab := .inr (filled_set (filled_set (filled_set hf _ (by omega) _) _ (by omega) _) _ (by omega) _)
  n := by rw [addC_at _ _ _ _ hr.size, if_pos rfl]; simp
  sum := by rw [addC_at _ _ _ _ hr.size, if_neg (by omega), if_neg (by omega), if_pos rfl]
  last := fun i x hx hi => by
    rw [List.length_append, List.length_singleton] at hi
    rw [addC_at _ _ _ _ hr.size, if_neg (by omega)]
    by_cases hlt : i < b.length
    · rw [List.getElem?_append_left hlt] at hx
      rw [if_neg (by omega), if_neg (by omega)]
      exact hr.last i x hx (by omega)
    · obtain rfl : i = b.length := by
        have := (List.getElem?_eq_some_iff.1 hx).1
        rw [List.length_append, List.length_singleton] at this
        omega
      rw [if_pos rfl]
      rw [List.getElem?_append_right (Nat.le_refl _), Nat.sub_self] at hx
      simp at hx
      rw [hx]
  any := fun j hj => by
    rw [addC_at _ _ _ _ hr.size, if_neg (by omega)]
    by_cases h : 259 + j = 259 + b.length % 16
    · exact ⟨c, hc0, hc1, by rw [if_pos h]⟩
    · rw [if_neg h, if_neg (by omega)]
      exact hr.any j hj

theorem sameTail_roll {cs cs1 : Array Value} {b : List Int} (hr : RollAt cs b) (ht : SameTail cs cs1) (hf : Filled cs1) : RollAt cs1 b where
  size := by rw [ht.1]; exact hr.size
  tab := .inr hf
  n := by rw [ht.2 _ (by omega)]; exact hr.n
  sum := by rw [ht.2 _ (by omega)]; exact hr.sum
  last := fun i x hx hi => by rw [ht.2 _ (by omega)]; exact hr.last i x hx hi
  any := fun j hj => by rw [ht.2 _ (by omega)]; exact hr.any j hj

/-- ADD: a byte more -/
theorem add_calls (g T : Nat) (c : Int) (b : List Int) (w : World) (cs : Array Value) (hb : w.heap[g]? = some (.cells cs T (0, 0))) (hr : RollAt cs b) (hB : Bytes b) (hc0 : 0 ≤ c) (hc1 : c < 256) (hn : b.length < 1099511627776) :
    Calls Tryd.prog 41 #[.pointer (some ⟨g, 0, none⟩), .int .u8 c] w fun e w' =>
      e = .returned (.int .u32 (hash (b ++ [c]))) ∧ w.grownBy w' (some g) ∧ ∃ cs', w'.heap[g]? = some (.cells cs' T (0, 0)) ∧ RollAt cs' (b ++ [c]) ∧ Filled cs' := by
  obtain ⟨m, rfl⟩ := Int.eq_ofNat_of_zero_le hc0
  have hm : m < 256 := by omega
  have hh := hash_range b
  have hw : wd (m : Int) = word m := by simp [wd]
  rcases hr.tab with ⟨hfr, rfl⟩ | hf
  · obtain ⟨x, hx0, hx1, hx⟩ := hr.any 0 (by omega)
    have e1 := hash_short [] m (by simp)
    rw [hw] at e1
    refine (add_first g T m w cs hb hfr (by rw [hr.size]; omega) hm (hash []) hh.1 hh.2 hr.n hr.sum x hx).mono ?_
    rintro e w' ⟨rfl, hg, cs1, hf1, ht1, hb1⟩
    rw [← e1] at hb1 ⊢
    have hr1 := (sameTail_roll hr ht1 hf1).snoc hf1 hc0 hc1
    refine ⟨rfl, hg, _, hb1, hr1, ?_⟩
    rcases hr1.tab with ⟨_, h⟩ | h
    · cases h
    · exact h
  · have done : ∀ (w' : World) (h : Int), h = hash (b ++ [(m : Int)]) → w.grownBy w' (some g) → w'.heap[g]? = some (.cells (addC cs b.length m h) T (0, 0)) →
        w.grownBy w' (some g) ∧ ∃ cs', w'.heap[g]? = some (.cells cs' T (0, 0)) ∧ RollAt cs' (b ++ [(m : Int)]) ∧ Filled cs' := by
      rintro w' h rfl hg hb1
      have hr1 := hr.snoc hf hc0 hc1
      refine ⟨hg, _, hb1, hr1, ?_⟩
      rcases hr1.tab with ⟨_, h⟩ | h
      · exact absurd h (by simp)
      · exact h
    by_cases hlt : b.length < 16
    · obtain ⟨x, hx0, hx1, hx⟩ := hr.any (b.length % 16) (by omega)
      have e1 := hash_short b m hlt
      rw [hw] at e1
      refine (add_short g T b.length m w cs hb hf hm hlt (hash b) hh.1 hh.2 hr.n hr.sum x hx).mono ?_
      rintro e w' ⟨rfl, hg, hb1⟩
      exact ⟨by rw [e1], done w' _ e1.symm hg hb1⟩
    · have hi : b.length - 16 < b.length := by omega
      obtain ⟨o, ho⟩ : ∃ o, b[b.length - 16]? = some o := ⟨_, List.getElem?_eq_getElem hi⟩
      have ho' := hB o (List.mem_of_getElem? ho)
      obtain ⟨q, rfl⟩ := Int.eq_ofNat_of_zero_le ho'.1
      have e1 := hash_long b m q (by omega) ho
      rw [hw, show wd (q : Int) = word q by simp [wd]] at e1
      have hl := hr.last _ _ ho (by omega)
      rw [show (b.length - 16) % 16 = b.length % 16 by omega] at hl
      refine (add_long g T b.length m q w cs hb hf hm (by omega) (by omega) hn (hash b) hh.1 hh.2 hr.n hr.sum hl).mono ?_
      rintro e w' ⟨rfl, hg, hb1⟩
      exact ⟨by rw [e1], done w' _ e1.symm hg hb1⟩
end Go.Proofs.YtofaicocdijjgaaDoor
