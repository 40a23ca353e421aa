import Derived.Test.YtimlkknfmbfomaaWrite
import Derived.Test.YtimlkknfmbfomaaAgainLaw
namespace Go.Proofs.Ytimlkknfmbfomaa
open Go.RowKit Go.Proofs.YtimlkknfmbfomaaW.PrintWords

/-- a cutter, and the chunks got of it so far -/
structure PieceI (base g r : Nat) (x y z : Int) (wn : World) (v vg : Value) (O : List (List Int)) (B : List Int) (W : World) : Prop where
  cut : CutSt W base g r x y z v B
  got : KR.R 22 W base (fun k => True ∧ some k ≠ v.ownBlock) vg O
  below : Below base wn W
  size : base ≤ wn.heap.size
section
variable {base g r : Nat} {x y z : Int} {wn W W1 w2 : World} {v v' v1 vg o o1 : Value} {O O' : List (List Int)} {B B' : List Int}
theorem PieceI.sized (h : PieceI base g r x y z wn v vg O B W) : base ≤ W.heap.size := Nat.le_trans h.size h.below.size
/-- what was got stays, when the cutter is written -/
theorem PieceI.got_kept (h : PieceI base g r x y z wn v vg O B W) (hK : Kept (fun k => k = g ∨ k = r ∨ some k = v.ownBlock) W W1) :
    KR.R 22 W1 base (fun k => k < W.heap.size ∧ some k ≠ v.ownBlock) vg O := by
  obtain ⟨cs, hr, _⟩ := h.cut.roll
  have h0 := Kd.R_types (Kd.R_types h.got h.cut.cut (by decide)) hr (by decide)
  have h1 := hK.row (Kd.R_bound h0) (fun k hk e => by
    rcases e with e | e | e
    · exact hk.1.1.2 e
    · exact hk.1.2 e
    · exact hk.1.1.1.2 e)
  exact Kd.R_mono h1 (fun k hk => ⟨hk.2.2.1, hk.1.1.1.2⟩)
theorem PieceI.below_kept (h : PieceI base g r x y z wn v vg O B W) (hK : Kept (fun k => k = g ∨ k = r ∨ some k = v.ownBlock) W W1) : Below base wn W1 :=
  h.below.trans (hK.below h.sized (by
    rintro k hk (e | e | e)
    · have := h.cut.lo; omega
    · have := h.cut.lo; omega
    · have := Kd.R_base h.cut.row k e.symm; omega))
theorem PieceI.apart (h : PieceI base g r x y z wn v vg O B W) (hK : Kept (fun k => k = g ∨ k = r ∨ some k = v.ownBlock) W W1) (hO : OutSt W W1 base v v' o O') :
    KR.R 22 W1 base (fun k => True ∧ some k ≠ v'.ownBlock) vg O :=
  Kd.R_mono (h.got_kept hK) (fun k hk => ⟨trivial, fun e => (hO.at_ k e.symm).elim hk.2 (fun h => by have := hk.1; omega)⟩)
theorem PieceI.okp (h : PieceI base g r x y z wn v vg O B W) (hK : Kept (fun k => k = g ∨ k = r ∨ some k = v.ownBlock) W W1) :
    ∀ k, (((W.heap.size ≤ k ∨ some k = v.ownBlock) ∧ some k ≠ v'.ownBlock) ∧ some k ≠ o.ownBlock) → (True ∧ some k ≠ v'.ownBlock) ∧ some k ≠ vg.ownBlock := fun k hk =>
  ⟨⟨trivial, hk.1.2⟩, fun e => by
    have h1 := (h.got_kept hK).1 k e.symm
    rcases hk.1.1 with h2 | h2
    · have := h1.1; omega
    · exact h1.2 h2⟩
theorem PieceI.fresh (hC : CutSt W1 base g r x y z v' B') : ∀ k, W1.heap.size ≤ k → True ∧ some k ≠ v'.ownBlock := fun k hk => ⟨trivial, fun e => by have := Kd.R_lt hC.row k e.symm; omega⟩
theorem CutSt.over (hC : CutSt W1 base g r x y z v' B') {ok : Nat → Prop} (hg : KR.R 22 W1 base ok vg O) (hG : W1.grownBy w2 vg.ownBlock) : CutSt w2 base g r x y z v' B' := by
  obtain ⟨cs, hr, hra⟩ := hC.roll
  exact ⟨blk_grown hC.cut hG (Kd.R_ne hg hC.cut (by decide)), ⟨cs, blk_grown hr hG (Kd.R_ne hg hr (by decide)), hra⟩, Kd.R_over hC.row hg (by decide) hG, hC.bytes, hC.lo⟩
theorem CutSt.far (hC : CutSt W1 base g r x y z v' B') (hb : Below W1.heap.size W1 w2) : CutSt w2 base g r x y z v' B' := by
  obtain ⟨cs, hr, hra⟩ := hC.roll
  exact ⟨blk_below hC.cut hb, ⟨cs, blk_below hr hb, hra⟩, Kd.R_below hC.row hb, hC.bytes, hC.lo⟩
/-- what was got stays, when the cutter's end is told -/
theorem PieceI.got_end (h : PieceI base g r x y z wn v vg O B W) (hK : Kept (fun k => k = g ∨ k = r) W W1) : KR.R 22 W1 base (fun k => k < W.heap.size ∧ some k ≠ v.ownBlock) vg O :=
  h.got_kept (hK.mono (fun k _ e => e.elim .inl (fun e => .inr (.inl e))))
end
theorem told_next (a c m : Int) (xs : List Int) (i j : Nat) (hij : i ≤ j) :
    told a c m [] (xs.take j) = ((told a c m [] (xs.take i)).1 ++ (told a c m (told a c m [] (xs.take i)).2 ((xs.take j).drop i)).1, (told a c m (told a c m [] (xs.take i)).2 ((xs.take j).drop i)).2) := by
  rw [← told_append]
  congr 1
  have : (xs.take j).take i = xs.take i := by rw [List.take_take, Nat.min_eq_left hij]
  rw [← this, List.take_append_drop]
end Go.Proofs.Ytimlkknfmbfomaa
