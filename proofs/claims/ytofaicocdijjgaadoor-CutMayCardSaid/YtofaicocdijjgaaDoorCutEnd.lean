import Derived.Test.YtofaicocdijjgaaDoorCutNew
import Derived.Test.YtofaicocdijjgaaDoorKept
namespace Go.Proofs.YtofaicocdijjgaaDoor
open Go.RowKit Go.Proofs.YtofaicocdijjgaaDoorW.PrintWords

abbrev KB := Kd.int .u8
/-- a cutter at block g, its roll at block r, with bytes buf that were not told yet, in the row v -/
structure CutSt (w : World) (base g r : Nat) (a b c : Int) (v : Value) (buf : List Int) : Prop where
  cut : w.heap[g]? = some (.cells (cutC a b c (maskN b) r v) 54 (0, 0))
  roll : ∃ cs, w.heap[r]? = some (.cells cs 85 (0, 0)) ∧ RollAt cs buf
  row : KB.R 5 w base (fun _ => True) v buf
  bytes : Bytes buf
  lo : base ≤ g ∧ base ≤ r
theorem CutSt.ne {w : World} {base g r : Nat} {a b c : Int} {v : Value} {buf : List Int} (h : CutSt w base g r a b c v buf) : g ≠ r := by
  obtain ⟨cs, hr, _⟩ := h.roll
  exact blk_ne h.cut hr (by decide)
theorem CutSt.row_ne {w : World} {base g r : Nat} {a b c : Int} {v : Value} {buf : List Int} (h : CutSt w base g r a b c v buf) : some g ≠ v.ownBlock ∧ some r ≠ v.ownBlock := by
  obtain ⟨cs, hr, _⟩ := h.roll
  exact ⟨Kd.R_ne h.row h.cut (by decide), Kd.R_ne h.row hr (by decide)⟩

theorem end_calls (base g r : Nat) (a b c : Int) (v : Value) (buf : List Int) (w : World) (h : CutSt w base g r a b c v buf) :
    Calls Tryd.prog 31 #[.pointer (some ⟨g, 0, none⟩)] w fun e w' =>
      e = .returned v ∧ Kept (fun k => k = g ∨ k = r) w w' ∧ CutSt w' base g r a b c (.slice none 0 0) [] ∧ KB.R 5 w' base (fun _ => True) v buf := by
  obtain ⟨cs, hr, hra⟩ := h.roll
  have c3 : w.cell? ⟨g, 5, none⟩ = some v := by rw [blk_cell h.cut]; rfl
  have c2 : w.cell? ⟨g, 4, none⟩ = some (.pointer (some ⟨r, 0, none⟩)) := by rw [blk_cell h.cut]; rfl
  have f1 : ∀ j, w.frozen? ⟨g, j, none⟩ = false := fun j => blk_frozen h.cut j
  have hne := h.ne
  have hrow := h.row
  obtain ⟨A, cap, rfl⟩ := Kd.R_slice hrow
  have H := Aside0.mk h; have HR := Aside0.mk hr; have HRA := Aside0.mk hra
  clear h hr hra hrow
  go_enter Tryd.func31, Tryd.ntmps31
  go_wp2_with fail
  have hr1 := blk_far HR.out (p := ⟨g, 5, none⟩) (fun e => hne e.symm) (.slice none 0 0)
  refine (reset_calls r _ buf _ cs hr1 HRA.out).mono ?_
  rintro e w1 ⟨rfl, hg1, cs1, hb1, hra1⟩
  have HG1 := Aside0.mk hg1; have HB1 := Aside0.mk hb1; have HRA1 := Aside0.mk hra1
  clear hg1 hb1 hra1 hr1
  go_wp2
  go_ret
  have hK : Kept (fun k => k = g ∨ k = r) w w1 := (Kept.set_ (Kept.refl _ w) (.inl (.inl rfl)) 5 (.slice none 0 0)).trans (Kept.of_grown HG1.out) (fun j _ hj => by injection hj with hj; exact .inr hj)
  have hcut := Kept.blk (Kept.of_grown HG1.out) (blk_set H.out.cut 5 (.slice none 0 0)) (fun e => hne (by injection e))
  have hrn := H.out.row_ne
  refine ⟨rfl, hK, ⟨hcut, ⟨cs1, HB1.out, HRA1.out⟩, Kd.R_nil _ _ _ _ _, fun x hx => by simp at hx, H.out.lo⟩, ?_⟩
  have hrow2 : KB.R 5 w base (fun k => k ≠ g ∧ k ≠ r) (.slice A buf.length cap) buf :=
    Kd.R_mono (Kd.R_types (Kd.R_types H.out.row H.out.cut (by decide)) HR.out (by decide)) (fun k hk => ⟨hk.1.2, hk.2⟩)
  exact Kd.R_mono (hK.row hrow2 (fun k hk => fun h => h.elim hk.1 hk.2)) (fun _ _ => trivial)
end Go.Proofs.YtofaicocdijjgaaDoor
