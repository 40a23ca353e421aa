import Derived.Test.YtofaicocdijjgaaDoorWWords
import Derived.Test.YtofaicocdijjgaaDoorWLast
import Derived.Test.YtofaicocdijjgaaDoorWMore
namespace Go.Proofs.YtofaicocdijjgaaDoor
open Go.RowKit Go.Proofs.YtofaicocdijjgaaDoorW.PrintWords

/-- of what was there, only the blocks of S may have turned -/
structure Kept (S : Nat → Prop) (w w' : World) : Prop where
  os : w'.os = w.os
  tape : w'.tape = w.tape
  output : w'.output = w.output
  size : w.heap.size ≤ w'.heap.size
  block : ∀ k, k < w.heap.size → ¬ S k → w'.heap[k]? = w.heap[k]?
section
variable {S S' : Nat → Prop} {w w1 w2 : World}
theorem Kept.refl (S : Nat → Prop) (w : World) : Kept S w w := ⟨rfl, rfl, rfl, Nat.le_refl _, fun _ _ _ => rfl⟩
theorem Kept.trans (h : Kept S w w1) (k : Kept S' w1 w2) (hs : ∀ j, j < w.heap.size → S' j → S j) : Kept S w w2 :=
  ⟨k.os.trans h.os, k.tape.trans h.tape, k.output.trans h.output, Nat.le_trans h.size k.size, fun j hj hn => (k.block j (Nat.lt_of_lt_of_le hj h.size) (fun h2 => hn (hs j hj h2))).trans (h.block j hj hn)⟩
theorem Kept.mono (h : Kept S w w1) (hs : ∀ j, j < w.heap.size → S j → S' j) : Kept S' w w1 := ⟨h.os, h.tape, h.output, h.size, fun j hj hn => h.block j hj (fun h2 => hn (hs j hj h2))⟩
theorem Kept.of_grown {row : Option Nat} (h : w.grownBy w1 row) : Kept (fun k => some k = row) w w1 := ⟨h.os, h.tape, h.output, h.size, fun j hj hn => h.block j hj hn⟩
theorem Kept.of_below (h : Below w.heap.size w w1) (S : Nat → Prop) : Kept S w w1 := ⟨h.os, h.tape, h.output, h.size, fun j hj _ => h.block j hj⟩
theorem Kept.below {B : Nat} (h : Kept S w w1) (hB : B ≤ w.heap.size) (hs : ∀ k, k < B → ¬ S k) : Below B w w1 := ⟨h.os, h.tape, h.output, h.size, fun k hk => h.block k (by omega) (hs k hk)⟩
theorem Kept.set_ (h : Kept S w w1) {g : Nat} (hg : S g ∨ w.heap.size ≤ g) (i : Nat) (u : Value) : Kept S w (w1.setCell ⟨g, i, none⟩ u) :=
  ⟨h.os, h.tape, h.output, by simpa [World.setCell] using h.size, fun j hj hn => (Below.heap_setCell w1 ⟨g, i, none⟩ u j (by
    rintro rfl
    rcases hg with hg | hg
    · exact hn hg
    · exact absurd hj (by simpa using hg))).trans (h.block j hj hn)⟩
theorem Kept.drew (h : Kept S w w1) : Kept S w w1.drew := ⟨h.os, h.tape, h.output, h.size, h.block⟩
theorem Kept.drewN (h : Kept S w w1) (n : Nat) : Kept S w (w1.drewN n) := ⟨h.os, h.tape, h.output, h.size, h.block⟩
theorem Kept.alloc (h : Kept S w w1) (o : Obj) : Kept S w (w1.alloc o) := ⟨h.os, h.tape, h.output, Nat.le_trans h.size (by simp), fun j hj hn => (Below.heap_alloc w1 o j (Nat.lt_of_lt_of_le hj h.size)).trans (h.block j hj hn)⟩
/-- a block that is not of S -/
theorem Kept.blk (h : Kept S w w1) {g : Nat} {o : Obj} (hb : w.heap[g]? = some o) (hs : ¬ S g) : w1.heap[g]? = some o := (h.block g (blk_lt hb) hs).trans hb
theorem Kept.cell (h : Kept S w w1) {a : Addr} {v : Value} (hc : w.cell? a = some v) (hs : ¬ S a.block) : w1.cell? a = some v := by
  have hlt := World.block_lt_of_cell? w a hc
  exact (World.cell?_of_block (h.block a.block hlt hs)).trans hc
theorem Kept.row {α : Type} {d : Kd α} {e base : Nat} {ok : Nat → Prop} {v : Value} {xs : List α} (h : Kept S w w1) (hr : d.R e w base ok v xs) (hs : ∀ k, ok k → ¬ S k) : d.R e w1 base ok v xs :=
  Kd.R_step hr (fun k ho hk => h.block k hk (hs k ho))
end
end Go.Proofs.YtofaicocdijjgaaDoor
