import Derived.Test.YtofaicocdijjgaaDoorRot
import Derived.Test.YtofaicocdijjgaaDoorOnce
import Derived.StillTailTactics
namespace Go.Proofs.YtofaicocdijjgaaDoor
open Go.RowKit Go.Proofs.YtofaicocdijjgaaDoorW.PrintWords

def wd (c : Int) : Int := word c.toNat
def hfold (s : Int) (l : List Int) : Int := l.foldl (fun s c => bits .xor .u32 (rot s 1) (wd c)) s
/-- the hash of bytes: over the last 16 -/
def hash (b : List Int) : Int := hfold 0 (b.drop (b.length - 16))
def Bytes (b : List Int) : Prop := ∀ x, x ∈ b → 0 ≤ x ∧ x < 256

/-- the cells of a Roll behind bytes b -/
structure RollAt (cs : Array Value) (b : List Int) : Prop where
  size : cs.size = 277
  tab : (Fresh cs ∧ b = []) ∨ Filled cs
  n : cs[275]? = some (.int .i64 b.length)
  sum : cs[276]? = some (.int .u32 (hash b))
  last : ∀ i x, b[i]? = some x → b.length ≤ i + 16 → cs[259 + i % 16]? = some (.int .u8 x)
  any : ∀ j, j < 16 → ∃ x : Int, 0 ≤ x ∧ x < 256 ∧ cs[259 + j]? = some (.int .u8 x)

/-- the cells behind Add -/
def addC (cs : Array Value) (n : Nat) (c h : Int) : Array Value := ((cs.setIfInBounds 276 (.int .u32 h)).setIfInBounds (259 + n % 16) (.int .u8 c)).setIfInBounds 275 (.int .i64 (n + 1))

set_option maxRecDepth 100000 in
theorem add_short (g T n m : Nat) (w : World) (cs : Array Value) (hb : w.heap[g]? = some (.cells cs T (0, 0))) (hf : Filled cs) (hm : m < 256) (hn : n < 16)
    (S : Int) (hS0 : 0 ≤ S) (hS1 : S < 4294967296) (h275 : cs[275]? = some (.int .i64 n)) (h276 : cs[276]? = some (.int .u32 S)) (x : Int) (hx : cs[259 + n % 16]? = some (.int .u8 x)) :
    Calls Tryd.prog 41 #[.pointer (some ⟨g, 0, none⟩), .int .u8 (m : Int)] w fun e w' =>
      e = .returned (.int .u32 (bits .xor .u32 (rot S 1) (word m))) ∧ w.grownBy w' (some g) ∧ w'.heap[g]? = some (.cells (addC cs n m (bits .xor .u32 (rot S 1) (word m))) T (0, 0)) := by
  have c275 : w.cell? ⟨g, 275, none⟩ = some (.int .i64 n) := by rw [blk_cell hb]; exact h275
  have c276 : w.cell? ⟨g, 276, none⟩ = some (.int .u32 S) := by rw [blk_cell hb]; exact h276
  have clast : w.cell? ⟨g, 259 + n % 16, none⟩ = some (.int .u8 x) := by rw [blk_cell hb]; exact hx
  have f1 : ∀ j, w.frozen? ⟨g, j, none⟩ = false := fun j => blk_frozen hb j
  have HB := Aside0.mk hb; have HF := Aside0.mk hf
  clear hb hf hx h275 h276
  go_enter Tryd.func41, Tryd.ntmps41
  go_wp2_with (first | (go_at_call 50; refine (rot_calls S 1 1 (by omega) (by kernel_rfl) hS0 hS1 _).mono ?_; rintro e w' ⟨rfl, rfl⟩) | (go_at_call 49; refine (of_done g T m hm _ cs HB.out HF.out).mono ?_; rintro e w' ⟨rfl, rfl⟩))
  go_ret
  exact ⟨rfl, grownBy_set (grownBy_set (grownBy_set (World.grownBy.refl w _) _ _) _ _) _ _, blk_set (blk_set (blk_set HB.out _ _) _ _) _ _⟩

set_option maxRecDepth 100000 in
theorem add_first (g T m : Nat) (w : World) (cs : Array Value) (hb : w.heap[g]? = some (.cells cs T (0, 0))) (hf : Fresh cs) (hz : 259 ≤ cs.size) (hm : m < 256)
    (S : Int) (hS0 : 0 ≤ S) (hS1 : S < 4294967296) (h275 : cs[275]? = some (.int .i64 0)) (h276 : cs[276]? = some (.int .u32 S)) (x : Int) (hx : cs[259]? = some (.int .u8 x)) :
    Calls Tryd.prog 41 #[.pointer (some ⟨g, 0, none⟩), .int .u8 (m : Int)] w fun e w' =>
      e = .returned (.int .u32 (bits .xor .u32 (rot S 1) (word m))) ∧ w.grownBy w' (some g) ∧ ∃ cs1, Filled cs1 ∧ SameTail cs cs1 ∧ w'.heap[g]? = some (.cells (addC cs1 0 m (bits .xor .u32 (rot S 1) (word m))) T (0, 0)) := by
  have c275 : w.cell? ⟨g, 275, none⟩ = some (.int .i64 0) := by rw [blk_cell hb]; exact h275
  have c276 : w.cell? ⟨g, 276, none⟩ = some (.int .u32 S) := by rw [blk_cell hb]; exact h276
  have HB := Aside0.mk hb; have HF := Aside0.mk hf; have HZ := Aside0.mk hz; have HX := Aside0.mk hx; have H5 := Aside0.mk h275; have H6 := Aside0.mk h276
  clear hb hf hx h275 h276 hz
  go_enter Tryd.func41, Tryd.ntmps41
  go_wp2_with fail
  refine (rot_calls S 1 1 (by omega) (by kernel_rfl) hS0 hS1 _).mono ?_
  rintro e w' ⟨rfl, rfl⟩
  go_wp2_with fail
  refine (of_first g T m hm _ cs HB.out HZ.out HF.out).mono ?_
  rintro e w1 ⟨rfl, hg1, cs1, hb1, hf1, ht1⟩
  have d275 : w1.cell? ⟨g, 275, none⟩ = some (.int .i64 0) := by rw [blk_cell hb1, ht1.2 _ (by omega)]; exact H5.out
  have d276 : w1.cell? ⟨g, 276, none⟩ = some (.int .u32 S) := by rw [blk_cell hb1, ht1.2 _ (by omega)]; exact H6.out
  have dlast : w1.cell? ⟨g, 259, none⟩ = some (.int .u8 x) := by rw [blk_cell hb1, ht1.2 _ (by omega)]; exact HX.out
  have f1 : ∀ j, w1.frozen? ⟨g, j, none⟩ = false := fun j => blk_frozen hb1 j
  have HB1 := Aside0.mk hb1; have HF1 := Aside0.mk hf1; have HT1 := Aside0.mk ht1; have HG1 := Aside0.mk hg1
  clear hb1 hf1 ht1 hg1 c275 c276
  go_wp2
  go_ret
  exact ⟨rfl, grownBy_set (grownBy_set (grownBy_set HG1.out _ _) _ _) _ _, cs1, HF1.out, HT1.out, blk_set (blk_set (blk_set HB1.out _ _) _ _) _ _⟩

theorem filled_set {cs : Array Value} (h : Filled cs) (i : Nat) (hi : 259 ≤ i) (v : Value) : Filled (cs.setIfInBounds i v) := by
  refine ⟨?_, ?_, fun k hk => ?_⟩
  · rw [Array.getElem?_setIfInBounds, if_neg (by omega)]; exact h.c0
  · rw [Array.getElem?_setIfInBounds, if_neg (by omega)]; exact h.c1
  · rw [Array.getElem?_setIfInBounds, if_neg (by omega)]; exact h.tab k hk

set_option maxRecDepth 100000 in
set_option maxHeartbeats 1600000 in
theorem add_long (g T n m o : Nat) (w : World) (cs : Array Value) (hb : w.heap[g]? = some (.cells cs T (0, 0))) (hf : Filled cs) (hm : m < 256) (ho : o < 256) (hn : 16 ≤ n) (hn1 : n < 1099511627776)
    (S : Int) (hS0 : 0 ≤ S) (hS1 : S < 4294967296) (h275 : cs[275]? = some (.int .i64 n)) (h276 : cs[276]? = some (.int .u32 S)) (hx : cs[259 + n % 16]? = some (.int .u8 o)) :
    Calls Tryd.prog 41 #[.pointer (some ⟨g, 0, none⟩), .int .u8 (m : Int)] w fun e w' =>
      e = .returned (.int .u32 (bits .xor .u32 (bits .xor .u32 (rot S 1) (word m)) (rot (word o) 16))) ∧ w.grownBy w' (some g) ∧ w'.heap[g]? = some (.cells (addC cs n m (bits .xor .u32 (bits .xor .u32 (rot S 1) (word m)) (rot (word o) 16))) T (0, 0)) := by
  have c275 : w.cell? ⟨g, 275, none⟩ = some (.int .i64 n) := by rw [blk_cell hb]; exact h275
  have c276 : w.cell? ⟨g, 276, none⟩ = some (.int .u32 S) := by rw [blk_cell hb]; exact h276
  have clast : w.cell? ⟨g, 259 + n % 16, none⟩ = some (.int .u8 o) := by rw [blk_cell hb]; exact hx
  have f1 : ∀ j, w.frozen? ⟨g, j, none⟩ = false := fun j => blk_frozen hb j
  have HB := Aside0.mk hb; have HF := Aside0.mk hf
  clear hb hf hx h275 h276
  go_enter Tryd.func41, Tryd.ntmps41
  go_wp2_with fail
  refine (rot_calls S 1 1 (by omega) (by kernel_rfl) hS0 hS1 _).mono ?_
  rintro e w' ⟨rfl, rfl⟩
  go_wp2_with fail
  refine (of_done g T m hm _ cs HB.out HF.out).mono ?_
  rintro e w' ⟨rfl, rfl⟩
  go_wp2_with fail
  obtain ⟨W, hW⟩ : ∃ W, W = (w.setCell ⟨g, 276, none⟩ (.int .u32 (bits .xor .u32 (rot S 1) (word m)))).drew := ⟨_, rfl⟩
  have hbW : W.heap[g]? = some (.cells (cs.setIfInBounds 276 (.int .u32 (bits .xor .u32 (rot S 1) (word m)))) T (0, 0)) := by rw [hW]; exact blk_set HB.out _ _
  have hgW : w.grownBy W (some g) := by rw [hW]; exact grownBy_drew (grownBy_set (World.grownBy.refl w _) _ _)
  have d275 : W.cell? ⟨g, 275, none⟩ = some (.int .i64 n) := by rw [hW, World.cell?_drew, World.cell?_setCell_other _ _ _ _ (by simp)]; exact c275
  have d276 : W.cell? ⟨g, 276, none⟩ = some (.int .u32 (bits .xor .u32 (rot S 1) (word m))) := by rw [hW, World.cell?_drew]; exact World.cell?_setCell_same _ _ _ c276
  have dlast : W.cell? ⟨g, 259 + n % 16, none⟩ = some (.int .u8 o) := by rw [hW, World.cell?_drew, World.cell?_setCell_other _ _ _ _ (by intro h; have := congrArg Addr.off h; simp at this; omega)]; exact clast
  have e1 : ∀ j, W.frozen? ⟨g, j, none⟩ = false := fun j => blk_frozen hbW j
  have HBW := Aside0.mk hbW; have HGW := Aside0.mk hgW
  clear hbW hgW
  refine wp_region_still_tail 16 (by kernel_rfl) (by kernel_rfl) ?_
  simp only [List.take_succ_cons, List.take_zero, List.drop_succ_cons, List.drop_zero]
  change wpStill _ _ (World.drew (w.setCell ⟨g, 276, none⟩ (.int .u32 (bits .xor .u32 (rot S 1) (word m))))) _ _ _
  rw [← hW]
  have HW := Aside0.mk hW
  clear hW c275 c276 clast f1
  have q1 : 0 ≤ (n : Int) % 16 := by omega
  have q2 : (n : Int) % 16 < 16 := by omega
  have q3 : ((n : Int) % 16).toNat = n % 16 := by omega
  repeat still_step
  still_call ((of_done g T o ho _ _ HBW.out (filled_set HF.out _ (by omega) _)).mono fun _ _ ⟨h1, h2⟩ => ⟨h1, h2.symm⟩)
  repeat still_step
  still_call ((rot_calls (word o) 16 16 (by omega) (by kernel_rfl) (word_range o).1 (word_range o).2 _).mono fun _ _ ⟨h1, h2⟩ => ⟨h1, h2.symm⟩)
  repeat still_step
  refine wpStill_nil ?_
  clear q1 q2 q3
  change wpList _ _ _ _ _ (World.drew (w.setCell ⟨g, 276, none⟩ (.int .u32 (bits .xor .u32 (rot S 1) (word m)))))
  rw [← HW.out]
  go_wp2
  go_ret
  exact ⟨rfl, grownBy_set (grownBy_set (grownBy_set HGW.out _ _) _ _) _ _, blk_set (blk_set (w := W.setCell ⟨g, 276, none⟩ _) (cs := cs.setIfInBounds 276 _) (by have := blk_set HBW.out 276 (.int .u32 (bits .xor .u32 (bits .xor .u32 (rot S 1) (word m)) (rot (word o) 16))); rwa [Array.setIfInBounds_setIfInBounds] at this) _ _) _ _⟩
end Go.Proofs.YtofaicocdijjgaaDoor
