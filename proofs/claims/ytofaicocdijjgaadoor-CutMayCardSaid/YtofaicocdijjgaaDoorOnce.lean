import Derived.Test.YtofaicocdijjgaaDoorFill
import Derived.Laws.LoneSync
import Derived.RegionCalls
import Derived.ChangeAlike
import Derived.Defers
namespace Go.Proofs.YtofaicocdijjgaaDoor
open Go.RowKit Go.Proofs.YtofaicocdijjgaaDoorW.PrintWords

/-- '(*sync/atomic.Bool).Store(true)', deferred: the cell holds 1. -/
theorem store_deferred (a : Addr) (x : Value) (u : FrameMode) (w : World) (hc : w.cell? a = some x) (hz : w.frozen? a = false) :
    CallsD Tryd.prog 60 #[.pointer (some a), .bool true] u w fun e u' w' => u' = u ∧ (e = .returned (.tuple #[]) ∧ w' = w.drew.setCell a (.int .u32 1)) := by
  have hc' : w.drew.cell? a = some x := by go_simp
  have hz' : w.drew.frozen? a = false := by go_simp
  have hst := run_call_store (P := Tryd.prog) Tryd.func63 (by kernel_rfl) (by kernel_rfl) (by kernel_rfl) (by kernel_rfl) (k := .u32) (y := 1) hc' hz'
  go_enter_d Tryd.func60, Tryd.ntmps60
  go_wp2
  go_region_calls
  all_goals (go_end0; exact ⟨rfl, rfl⟩)

/-- the cells of 'words' that are not filled yet -/
structure Fresh (cs : Array Value) : Prop where
  c0 : cs[0]? = some (.int .u32 0)
  c1 : cs[1]? = some (.int .i32 0)
/-- the cells of 'words' that are filled -/
structure Filled (cs : Array Value) : Prop where
  c0 : cs[0]? = some (.int .u32 1)
  c1 : cs[1]? = some (.int .i32 0)
  tab : ∀ k, k < 256 → cs[3 + k]? = some (.int .u32 (word k))
def SameTail (cs cs' : Array Value) : Prop := cs'.size = cs.size ∧ ∀ i, 259 ≤ i → cs'[i]? = cs[i]?

theorem after_slow (cs : Array Value) (hs : 259 ≤ cs.size) : Filled (((fillTo (cs.setIfInBounds 1 (.int .i32 1)) 256).setIfInBounds 0 (.int .u32 1)).setIfInBounds 1 (.int .i32 0)) := by
  refine ⟨?_, ?_, fun k hk => ?_⟩
  · rw [Array.getElem?_setIfInBounds, if_neg (by omega), Array.getElem?_setIfInBounds, if_pos rfl, if_pos (by rw [fillTo_size]; simp; omega)]
  · rw [Array.getElem?_setIfInBounds, if_pos rfl, if_pos (by rw [Array.size_setIfInBounds, fillTo_size]; simp; omega)]
  · rw [Array.getElem?_setIfInBounds, if_neg (by omega), Array.getElem?_setIfInBounds, if_neg (by omega)]
    exact fillTo_at _ 256 (by simp; omega) k hk
theorem after_tail (cs : Array Value) : SameTail cs (((fillTo (cs.setIfInBounds 1 (.int .i32 1)) 256).setIfInBounds 0 (.int .u32 1)).setIfInBounds 1 (.int .i32 0)) := by
  refine ⟨by simp [fillTo_size], fun i hi => ?_⟩
  rw [Array.getElem?_setIfInBounds, if_neg (by omega), Array.getElem?_setIfInBounds, if_neg (by omega), fillTo_out _ _ _ (by omega), Array.getElem?_setIfInBounds, if_neg (by omega)]

set_option maxRecDepth 100000 in
set_option maxHeartbeats 1600000 in
theorem slow_calls (g T : Nat) (w : World) (cs : Array Value) (hb : w.heap[g]? = some (.cells cs T (0, 0))) (hs : 259 ≤ cs.size) (hf : Fresh cs) :
    Calls Tryd.prog 56 #[.pointer (some ⟨g, 0, none⟩), .func (.func 54) #[.pointer (some ⟨g, 0, none⟩)] #[]] w fun e w' =>
      e = .returned (.tuple #[]) ∧ w.grownBy w' (some g) ∧ ∃ cs', w'.heap[g]? = some (.cells cs' T (0, 0)) ∧ Filled cs' ∧ SameTail cs cs' := by
  have c0 : w.cell? ⟨g, 0, none⟩ = some (.int .u32 0) := by rw [blk_cell hb]; exact hf.c0
  have c1 : w.cell? ⟨g, 1, none⟩ = some (.int .i32 0) := by rw [blk_cell hb]; exact hf.c1
  have z0 : w.frozen? ⟨g, 0, none⟩ = false := blk_frozen hb _
  have z1 : w.frozen? ⟨g, 1, none⟩ = false := blk_frozen hb _
  have hb1 := blk_set hb 1 (.int .i32 1)
  have HB := Aside0.mk hb; have HB1 := Aside0.mk hb1; have HS := Aside0.mk hs; have HF := Aside0.mk hf
  clear hb hb1 hs hf
  have hl := run_call_load (P := Tryd.prog) Tryd.func57 (by kernel_rfl) (by kernel_rfl) (by kernel_rfl) .u32 (by kernel_rfl) (w := w.setCell ⟨g, 1, none⟩ (.int .i32 1)) (a := ⟨g, 0, none⟩) (x := 0) ((World.cell?_setCell_other _ ⟨g, 1, none⟩ ⟨g, 0, none⟩ _ (by simp)).trans c0)
  have hnot : ∀ (x : Bool) (w : World), (Op.unary .not (.bool x)).run Tryd.prog w = .ok (.bool (!x)) w := fun _ _ => rfl
  go_enter_defers Tryd.func56, Tryd.ntmps56
  go_wp2_with fail
  refine (Go.MuLone.lock_free Tryd.muLib ⟨g, 1, none⟩ w c1 z1).mono ?_; rintro e w' ⟨rfl, rfl⟩
  go_wp2_with (go_at_call 55; go_in)
  refine (fill_calls g T _ _ HB1.out (by have := HS.out; simp; omega)).mono ?_
  rintro e w1 ⟨rfl, h1, g1⟩
  have H1 := Aside0.mk h1; have G1 := Aside0.mk g1
  clear h1 g1
  go_wp2
  -- THE DOOR: two deferred calls, the last laid first
  have h1 := H1.out
  have q0 : w1.cell? ⟨g, 0, none⟩ = some (.int .u32 0) := by
    rw [blk_cell h1, fillTo_out _ _ _ (by omega), Array.getElem?_setIfInBounds, if_neg (by omega)]; exact HF.out.c0
  have q1 : w1.cell? ⟨g, 1, none⟩ = some (.int .i32 1) := by
    rw [blk_cell h1, fillTo_out _ _ _ (by omega), Array.getElem?_setIfInBounds, if_pos rfl, if_pos (by have := HS.out; omega)]
  have f0 : w1.frozen? ⟨g, 0, none⟩ = false := blk_frozen h1 _
  have f1 : w1.frozen? ⟨g, 1, none⟩ = false := blk_frozen h1 _
  refine leaves_cons (f := 60) (args := #[.pointer (some ⟨g, 0, none⟩), .bool true]) (by simp) (by simp [go_sem]) ?_
  refine (store_deferred ⟨g, 0, none⟩ (.int .u32 0) .returning _ q0 f0).mono ?_
  rintro e u' w'' ⟨rfl, rfl, rfl⟩
  refine leaves_cons (f := 59) (args := #[.pointer (some ⟨g, 1, none⟩)]) (by simp [settle]) (by simp [go_sem]) ?_
  refine (Go.MuLone.unlock_deferred Tryd.muLib ⟨g, 1, none⟩ _ _ ?_ ?_).mono ?_
  · refine (World.cell?_setCell_other _ ⟨g, 0, none⟩ ⟨g, 1, none⟩ _ (by simp)).trans ?_
    rw [World.cell?_drew]; exact q1
  · simp [f1]
  rintro e u' w'' ⟨rfl, rfl, rfl⟩
  refine ⟨_, results_none rfl _ _ _, rfl, grownBy_set (grownBy_set (grownBy_drew (World.grownBy.trans (grownBy_set (World.grownBy.refl w _) 1 _) G1.out)) 0 _) 1 _, _, blk_set (blk_set (w := w1.drew) H1.out 0 _) 1 _, ?_, ?_⟩
  · exact after_slow _ HS.out
  · exact after_tail _

set_option maxRecDepth 100000 in
theorem do_first (g T : Nat) (w : World) (cs : Array Value) (hb : w.heap[g]? = some (.cells cs T (0, 0))) (hs : 259 ≤ cs.size) (hf : Fresh cs) :
    Calls Tryd.prog 53 #[.pointer (some ⟨g, 0, none⟩), .func (.func 54) #[.pointer (some ⟨g, 0, none⟩)] #[]] w fun e w' =>
      e = .returned (.tuple #[]) ∧ w.grownBy w' (some g) ∧ ∃ cs', w'.heap[g]? = some (.cells cs' T (0, 0)) ∧ Filled cs' ∧ SameTail cs cs' := by
  have c0 : w.cell? ⟨g, 0, none⟩ = some (.int .u32 0) := by rw [blk_cell hb]; exact hf.c0
  have hl := run_call_load (P := Tryd.prog) Tryd.func57 (by kernel_rfl) (by kernel_rfl) (by kernel_rfl) .u32 (by kernel_rfl) c0
  have hnot : ∀ (x : Bool) (w : World), (Op.unary .not (.bool x)).run Tryd.prog w = .ok (.bool (!x)) w := fun _ _ => rfl
  have HB := Aside0.mk hb; have HS := Aside0.mk hs; have HF := Aside0.mk hf
  clear hb hs hf
  go_enter Tryd.func53, Tryd.ntmps53
  go_wp2_with (go_at_call 55; go_in)
  refine (slow_calls g T _ cs HB.out HS.out HF.out).mono ?_
  rintro e w1 ⟨rfl, h1⟩
  have H1 := Aside0.mk h1
  clear h1
  go_wp2
  go_end0
  exact ⟨rfl, H1.out⟩

set_option maxRecDepth 100000 in
theorem do_done (g : Nat) (fv : Value) (w : World) (c0 : w.cell? ⟨g, 0, none⟩ = some (.int .u32 1)) :
    Calls Tryd.prog 53 #[.pointer (some ⟨g, 0, none⟩), fv] w fun e w' => e = .returned (.tuple #[]) ∧ w = w' := by
  have hl := run_call_load (P := Tryd.prog) Tryd.func57 (by kernel_rfl) (by kernel_rfl) (by kernel_rfl) .u32 (by kernel_rfl) c0
  have hnot : ∀ (x : Bool) (w : World), (Op.unary .not (.bool x)).run Tryd.prog w = .ok (.bool (!x)) w := fun _ _ => rfl
  go_enter Tryd.func53, Tryd.ntmps53
  go_wp2_with (go_at_call 55; go_in)
  go_end0
  exact ⟨rfl, rfl⟩

set_option maxRecDepth 100000 in
/-- a byte's word, the table not filled yet -/
theorem of_first (g T : Nat) (c : Nat) (hc : c < 256) (w : World) (cs : Array Value) (hb : w.heap[g]? = some (.cells cs T (0, 0))) (hs : 259 ≤ cs.size) (hf : Fresh cs) :
    Calls Tryd.prog 49 #[.pointer (some ⟨g, 0, none⟩), .int .u8 (c : Int)] w fun e w' =>
      e = .returned (.int .u32 (word c)) ∧ w.grownBy w' (some g) ∧ ∃ cs', w'.heap[g]? = some (.cells cs' T (0, 0)) ∧ Filled cs' ∧ SameTail cs cs' := by
  have HB := Aside0.mk hb; have HS := Aside0.mk hs; have HF := Aside0.mk hf
  clear hb hs hf
  go_enter Tryd.func49, Tryd.ntmps49
  go_wp2_with fail
  refine (do_first g T _ cs HB.out HS.out HF.out).mono ?_
  rintro e w1 ⟨rfl, h1, cs', hb, hf, ht⟩
  have hcell : w1.cell? ⟨g, 3 + c, none⟩ = some (.int .u32 (word c)) := by rw [blk_cell hb]; exact hf.tab c hc
  have H1 := Aside0.mk h1; have HB1 := Aside0.mk hb; have HF1 := Aside0.mk hf; have HT := Aside0.mk ht
  clear h1 hb hf ht
  go_wp2
  go_ret
  exact ⟨rfl, H1.out, cs', HB1.out, HF1.out, HT.out⟩

set_option maxRecDepth 100000 in
/-- a byte's word, the table filled -/
theorem of_done (g T : Nat) (c : Nat) (hc : c < 256) (w : World) (cs : Array Value) (hb : w.heap[g]? = some (.cells cs T (0, 0))) (hf : Filled cs) :
    Calls Tryd.prog 49 #[.pointer (some ⟨g, 0, none⟩), .int .u8 (c : Int)] w fun e w' =>
      e = .returned (.int .u32 (word c)) ∧ w = w' := by
  have c0 : w.cell? ⟨g, 0, none⟩ = some (.int .u32 1) := by rw [blk_cell hb]; exact hf.c0
  have hcell : w.cell? ⟨g, 3 + c, none⟩ = some (.int .u32 (word c)) := by rw [blk_cell hb]; exact hf.tab c hc
  clear hb hf
  go_enter Tryd.func49, Tryd.ntmps49
  go_wp2_with fail
  refine (do_done g _ _ c0).mono ?_
  rintro e w1 ⟨rfl, rfl⟩
  go_wp2
  go_ret
  exact ⟨rfl, rfl⟩
end Go.Proofs.YtofaicocdijjgaaDoor
