import Derived.Test.YtofaicocdijjgaaDoorWWords
import Derived.Test.YtofaicocdijjgaaDoorLocks
import Derived.Handy
namespace Go.Proofs.YtofaicocdijjgaaDoor
open Go.RowKit Go.Proofs.YtofaicocdijjgaaDoorW.PrintWords

def x13 (y : Int) : Int := bits .xor .u32 y (y * 8192 % 4294967296)
def x17 (y : Int) : Int := bits .xor .u32 y (y / 131072)
def x5 (y : Int) : Int := bits .xor .u32 y (y * 32 % 4294967296)
def xstep (y : Int) : Int := x5 (x17 (x13 y))
def xst : Nat → Int
  | 0 => 2654435769
  | k + 1 => xstep (xst k)
/-- the word of byte k -/
def word (k : Nat) : Int := xst (k + 1)
theorem xor32_range (a b : Int) : 0 ≤ bits .xor .u32 a b ∧ bits .xor .u32 a b < 4294967296 := by
  show 0 ≤ IntKind.u32.wrap _ ∧ IntKind.u32.wrap _ < 4294967296
  rw [IntKind.wrap_u32]
  omega
theorem xst_range (k : Nat) : 0 ≤ xst k ∧ xst k < 4294967296 := by
  cases k with
  | zero => exact ⟨by decide, by decide⟩
  | succ k => exact xor32_range _ _

def fillTo (cs : Array Value) : Nat → Array Value
  | 0 => cs
  | k + 1 => (fillTo cs k).setIfInBounds (3 + k) (.int .u32 (word k))
theorem fillTo_size (cs : Array Value) (k : Nat) : (fillTo cs k).size = cs.size := by
  induction k with
  | zero => rfl
  | succ k ih => simp [fillTo, ih]
theorem fillTo_at (cs : Array Value) (k : Nat) (hs : 3 + k ≤ cs.size) : ∀ j, j < k → (fillTo cs k)[3 + j]? = some (.int .u32 (word j)) := by
  induction k with
  | zero => intro j hj; omega
  | succ k ih =>
    intro j hj
    simp only [fillTo, Array.getElem?_setIfInBounds]
    by_cases e : k = j
    · subst e
      rw [if_pos rfl, if_pos (by rw [fillTo_size]; omega)]
    · rw [if_neg (by omega)]
      exact ih (by omega) j (by omega)
theorem fillTo_out (cs : Array Value) (k i : Nat) (hi : i < 3 ∨ 3 + k ≤ i) : (fillTo cs k)[i]? = cs[i]? := by
  induction k with
  | zero => rfl
  | succ k ih =>
    simp only [fillTo, Array.getElem?_setIfInBounds]
    rw [if_neg (by omega)]
    exact ih (by omega)

theorem val_u32 {a b : Int} (h : a = b) : Value.int .u32 a = .int .u32 b := by rw [h]
theorem grownBy_set {w w1 : World} {g : Nat} (h : w.grownBy w1 (some g)) (i : Nat) (u : Value) : w.grownBy (w1.setCell ⟨g, i, none⟩ u) (some g) :=
  ⟨h.os, h.tape, h.output, by simpa [World.setCell] using h.size, fun k hk hne => (Below.heap_setCell w1 ⟨g, i, none⟩ u k (by rintro rfl; exact hne rfl)).trans (h.block k hk hne)⟩
theorem grownBy_drew {w w1 : World} {r : Option Nat} (h : w.grownBy w1 r) : w.grownBy w1.drew r := ⟨h.os, h.tape, h.output, h.size, h.block⟩
theorem grownBy_drewN {w w1 : World} {r : Option Nat} (h : w.grownBy w1 r) (n : Nat) : w.grownBy (w1.drewN n) r := ⟨h.os, h.tape, h.output, h.size, h.block⟩

set_option maxRecDepth 100000 in
theorem fill_calls (g T : Nat) (w : World) (cs : Array Value) (hb : w.heap[g]? = some (.cells cs T (0, 0))) (hs : 259 ≤ cs.size) :
    Calls Tryd.prog 54 #[.pointer (some ⟨g, 0, none⟩)] w fun e w' => e = .returned (.tuple #[]) ∧ w'.heap[g]? = some (.cells (fillTo cs 256) T (0, 0)) ∧ w.grownBy w' (some g) := by
  have HB0 := Aside0.mk hb; clear hb
  have HS := Aside0.mk hs; clear hs
  go_enter Tryd.func54, Tryd.ntmps54
  go_wp2_with fail
  go_loopw [2, 3, 4, 24] (fun x i k q wr => ∃ n : Nat, n ≤ 256 ∧ k = .int .i64 n ∧ x = .int .u32 (xst n) ∧ wr.heap[g]? = some (.cells (fillTo cs n) T (0, 0)) ∧ w.grownBy wr (some g)) (fun x i k q _ => 256 - (intOf k).toNat)
  case atStart => exact ⟨0, by omega, rfl, rfl, HB0.out, World.grownBy.refl w _⟩
  case round =>
    obtain ⟨n, hn, rfl, rfl, hb', hg'⟩ := hrel
    have HG := Aside0.mk hg'; clear hg'
    by_cases hlt : n < 256
    · obtain ⟨u, hcell⟩ : ∃ u, wr.cell? ⟨g, 3 + n, none⟩ = some u := ⟨(fillTo cs n)[3 + n]'(by have := HS.out; rw [fillTo_size]; omega), by rw [blk_cell hb']; simp⟩
      have hfr : wr.frozen? ⟨g, 3 + n, none⟩ = false := blk_frozen hb' _
      have HB := Aside0.mk hb'; clear hb'
      obtain ⟨y, hy⟩ : ∃ y, xst n = y := ⟨_, rfl⟩
      have hr := xst_range n
      rw [hy] at hr ⊢
      have HY := Aside0.mk hy; clear hy
      obtain ⟨hr1, hr2⟩ := hr
      go_wp2
      go_roundw
      case rel => exact ⟨n + 1, by omega, by go_num, val_u32 (by show _ = xstep (xst n); rw [HY.out]; rfl), by rw [fillTo]; show _ = some (Obj.cells ((fillTo cs n).setIfInBounds (3 + n) (.int .u32 (xstep (xst n)))) T (0, 0)); rw [HY.out]; exact blk_set HB.out _ _, grownBy_set HG.out _ _⟩
      case measure => simp [intOf]; omega
    · obtain rfl : n = 256 := by omega
      have HB := Aside0.mk hb'; clear hb'
      go_wp2
      go_end0
      exact ⟨rfl, HB.out, HG.out⟩
end Go.Proofs.YtofaicocdijjgaaDoor
