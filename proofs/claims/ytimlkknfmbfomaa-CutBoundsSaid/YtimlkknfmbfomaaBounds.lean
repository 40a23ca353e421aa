import Derived.Test.YtimlkknfmbfomaaStops
import Derived.Test.YtimlkknfmbfomaaShape
import Derived.Deep.QuietTactic
import Derived.BigQuiet
namespace Go.Proofs.Ytimlkknfmbfomaa
open Go.RowKit Go.Proofs.YtimlkknfmbfomaaW.PrintWords Go.Proofs.Ytimlkknfmbfomaa.Pr Go.Proofs.YtimlkknfmbfomaaW.PrintLast Go.Proofs.YtimlkknfmbfomaaW.PrintMore

attribute [local go_sem] max2_int min2_int max_two min_two
/-- what CutBounds' loop keeps -/
structure BoundI (w : World) (g : Nat) (x y z : Int) (Ao : Option Addr) (co : Nat) (xs : List Int) (Al : Option Addr) (cl : Nat) (cs : List (List Int)) (k : Nat) (v : Value) (W : World) : Prop where
  all : KB.R 5 W w.heap.size (fun _ => True) v (cs.take k).flatten
  own : KB.R 5 W w.heap.size (fun j => True ∧ some j ≠ v.ownBlock) (.slice Ao xs.length co) xs
  row : KR.R 22 W w.heap.size (fun j => True ∧ some j ≠ v.ownBlock) (.slice Al cs.length cl) cs
  box : W.heap[g]? = some (.cells #[.int .i64 x, .int .i64 y, .int .i64 z] 24 (0, 0))
  below : Below w.heap.size w W
theorem BoundI.step {w : World} {g : Nat} {x y z : Int} {Ao : Option Addr} {co : Nat} {xs : List Int} {Al : Option Addr} {cl : Nat} {cs : List (List Int)} {k : Nat} {v v1 : Value} {W w1 : World} {u : List Int} (h : BoundI w g x y z Ao co xs Al cl cs k v W) (hu : cs[k]? = some u)
    (h1 : KB.R 5 w1 w.heap.size (fun _ => True) v1 ((cs.take k).flatten ++ u)) (hb : Below w.heap.size w w1) (hg : W.grownBy w1 v.ownBlock) (hat : v1.ownBlock = v.ownBlock ∨ ∃ b, v1.ownBlock = some b ∧ W.heap.size ≤ b) : BoundI w g x y z Ao co xs Al cl cs (k + 1) v1 w1 := by
  refine ⟨?_, Kd.R_after h.own hg hat, Kd.R_after h.row hg hat, blk_grown h.box hg (Kd.R_ne h.all h.box (by decide)), hb⟩
  rw [List.take_add_one, hu]
  simpa using h1

theorem BoundI.drewN {w : World} {g : Nat} {x y z : Int} {Ao : Option Addr} {co : Nat} {xs : List Int} {Al : Option Addr} {cl : Nat} {cs : List (List Int)} {k : Nat} {v : Value} {W : World} (h : BoundI w g x y z Ao co xs Al cl cs k v W) (n : Nat) : BoundI w g x y z Ao co xs Al cl cs k v (W.drewN n) :=
  ⟨Kd.R_drewN h.all n, Kd.R_drewN h.own n, Kd.R_drewN h.row n, h.box, pw_below_drewN h.below n⟩

set_option maxRecDepth 100000 in
set_option maxHeartbeats 1600000 in
theorem cutBounds_calls (a b c : Int) (A : Option Addr) (cap : Nat) (l : List Int) (w : World) (ha : I64 a) (hb : I64 b) (hc : I64 c)
    (hl : KB.C w A l.length l) (hcap : l.length ≤ cap) (hB : Bytes l) :
    Calls Try.prog 4 #[.slice A l.length cap, .agg #[.int .i64 a, .int .i64 b, .int .i64 c]] w fun e w' => e = .returned (.bool true) ∧ Below w.heap.size w w' := by
  have HL := Aside0.mk hl; have HB := Aside0.mk hB
  clear hl hB
  go_enter Try.func4, Try.ntmps4
  go_wp2_with fail
  refine (few_calls A cap l 200 _ (Kd.C_alloc HL.out _) hcap (by decide)).mono ?_
  rintro e w1 ⟨v, rfl, hR, hb1⟩
  have hbel : Below w.heap.size w w1 := ((Below.refl _ _).alloc (Nat.le_refl _) _).trans (hb1.mono (by simp))
  have hx : (l.take 200).length ≤ 200 := by rw [List.length_take]; omega
  have hbx : Bytes (l.take 200) := fun x hx => HB.out x (List.mem_of_mem_take hx)
  obtain ⟨xs, hxs⟩ : ∃ xs, xs = l.take 200 := ⟨_, rfl⟩
  rw [← hxs] at hx hbx hR
  have HBX := Aside0.mk hbx
  clear hxs hbx
  obtain ⟨Ao, co, rfl⟩ := Kd.R_slice hR
  have k4 : w1.cell? ⟨w.heap.size, 0, none⟩ = some (.int .i64 a) := by rw [blk_cell (blk_below (heap_alloc_new w _) hb1)]; rfl
  have k5 : w1.cell? ⟨w.heap.size, 1, none⟩ = some (.int .i64 b) := by rw [blk_cell (blk_below (heap_alloc_new w _) hb1)]; rfl
  have k6 : w1.cell? ⟨w.heap.size, 2, none⟩ = some (.int .i64 c) := by rw [blk_cell (blk_below (heap_alloc_new w _) hb1)]; rfl
  have HR := Aside0.mk (Kd.R_lower hR (show w.heap.size ≤ _ by simp)); have HB1 := Aside0.mk hbel
  clear hR hb1 hbel
  go_wp2_with fail
  refine (good_calls a b c _ ha hb hc).mono ?_
  rintro e w2 ⟨rfl, hb2⟩
  clear k4 k5 k6
  have HR2 := Aside0.mk (Kd.R_below HR.out hb2); have HB2 := Aside0.mk (HB1.out.trans (hb2.mono HB1.out.size))
  clear hb2
  go_wp2_with fail
  have gb := g_bounds a b c
  obtain ⟨x, hx1⟩ : ∃ x, x = gMin a := ⟨_, rfl⟩
  obtain ⟨y, hy1⟩ : ∃ y, y = gAvg a b := ⟨_, rfl⟩
  obtain ⟨z, hz1⟩ : ∃ z, z = gMax a b c := ⟨_, rfl⟩
  rw [← hx1, ← hy1, ← hz1] at gb
  rw [← hx1, ← hy1, ← hz1]
  clear hx1 hy1 hz1
  have hz0 := HB2.out.size
  have hb3 : Below w.heap.size w (w2.alloc (.cells #[.int .i64 x, .int .i64 y, .int .i64 z] 24)) := HB2.out.alloc hz0 _
  have HR3 := Aside0.mk (Kd.R_alloc HR2.out (.cells #[.int .i64 x, .int .i64 y, .int .i64 z] 24))
  have HB3 := Aside0.mk hb3
  have kG := heap_alloc_new w2 (.cells #[.int .i64 x, .int .i64 y, .int .i64 z] 24)
  refine (collect_calls x y z Ao co xs _ (by omega) (Kd.R_reads' HR3.out).2.2 (Kd.R_reads' HR3.out).2.1 (by omega) HBX.out (own_lt HR3.out)).mono ?_
  rintro e w4 ⟨o, rfl, hRl, hb4⟩
  have hsh := chunks_shape x z (maskN y) (by omega) xs
  have hfl := chunks_flatten x z (maskN y) (by omega) xs
  have hcl := chunks_length x z (maskN y) xs
  obtain ⟨cs, hcs⟩ : ∃ cs, cs = chunksOf x z (maskN y) xs := ⟨_, rfl⟩
  rw [← hcs] at hRl hsh hfl hcl
  obtain ⟨Al, cl, rfl⟩ := Kd.R_slice hRl
  have hI : BoundI w w2.heap.size x y z Ao co xs Al cl cs 0 (.slice none 0 0) w4 := by
    refine ⟨Kd.R_nil _ _ _ _ _, ?_, ?_, blk_below kG hb4, hb3.trans (hb4.mono hb3.size)⟩
    · exact Kd.R_apart_nil (Kd.R_below HR3.out hb4)
    · exact Kd.R_apart_nil (Kd.R_lower hRl hb3.size)
  have HI := Aside0.mk hI; have HSH := Aside0.mk hsh; have HFL := Aside0.mk hfl
  clear hRl hb4 hI hsh hfl hcs hb3 kG HR HB1 HR2 HB2 HR3 HB3
  go_wp2_with fail
  go_loopw [8, 9] (fun v i W => ∃ k, k ≤ cs.length ∧ i = .int .i64 k ∧ Aside0 (BoundI w w2.heap.size x y z Ao co xs Al cl cs k v W)) (fun _ i _ => cs.length - (intOf i).toNat)
  case atStart =>
    exact ⟨0, Nat.zero_le _, rfl, HI⟩
  case round =>
    clear HI
    obtain ⟨k, hk, rfl, hI⟩ := hrel
    by_cases hlt : k < cs.length
    · obtain ⟨u, hu⟩ : ∃ u, cs[k]? = some u := ⟨_, List.getElem?_eq_getElem hlt⟩
      obtain ⟨gl, vl, rfl, _, _, hcell, hrow⟩ := KR_at hI.out.row hu
      obtain ⟨Au, cu, rfl⟩ := Kd.R_slice hrow
      have hs := HSH.out k u hu
      have hsum : (cs.take k).flatten.length + u.length ≤ 200 := by
        have hg : cs[k] = u := by rw [List.getElem?_eq_getElem hlt] at hu; exact Option.some.inj hu
        have e : cs.take k ++ u :: cs.drop (k + 1) = cs := by rw [← hg, ← List.drop_eq_getElem_cons hlt, List.take_append_drop]
        have h1 := congrArg List.length HFL.out
        rw [← e, List.flatten_append, List.flatten_cons, List.length_append, List.length_append] at h1
        omega
      have e1 : (0 : Int) ≤ (k : Int) := by omega
      have e2 : (k : Int) < (cs.length : Int) := by omega
      have HU := Aside0.mk hu; have HROW := Aside0.mk hrow; have HS := Aside0.mk hs; have HSUM := Aside0.mk hsum; have HCELL := Aside0.mk hcell
      clear hu hrow hs hsum
      go_wp2_with (at_builtin; go_must ((refine Kd.R_append_rows KB (w0 := w) w.heap.size rfl (.tmp 23) (.tmp 27) 22 5 (.int .u8 0) 1 rfl Try.underlying22 infoB rfl (by decide) (by omega) u8 ((cs.take k).flatten) u Au u.length cu (fun _ => True) (fun _ => False) rfl rfl hI.out.all (Kd.R_reads' HROW.out).2.2 (fun _ _ h => h) (fun _ h => h.elim) (fun _ _ => trivial) hI.out.below hI.out.below.size (by have := HSUM.out; omega) ?_); intro v1 w5 hO hB5 hg5 hat5; have hI5 := hI.out.step HU.out hO hB5 hg5 hat5; have HI5 := Aside0.mk hI5; clear hI5 hO hB5 hg5 hat5 hcell))
      obtain ⟨gl2, vl2, hgl, _, _, hcell2, hrow2⟩ := KR_at HI5.out.row HU.out
      cases hgl
      obtain ⟨Au2, cu2, rfl⟩ := Kd.R_slice hrow2
      have hz2 : w5.cell? ⟨w2.heap.size, 2, none⟩ = some (.int .i64 z) := by rw [blk_cell HI5.out.box]; rfl
      have hz0' : w5.cell? ⟨w2.heap.size, 0, none⟩ = some (.int .i64 x) := by rw [blk_cell HI5.out.box]; rfl
      have d1 : decide (z < (u.length : Int)) = false := decide_eq_false (by have := HS.out; omega)
      have d2 : ((u.length : Int) == 0) = false := by rw [beq_eq_false_iff_ne]; have := HS.out; omega
      have d2b : (u.length == 0) = false := by rw [beq_eq_false_iff_ne]; have := HS.out; omega
      have q1 : IntKind.i64.wrap ((k : Int) + 1) = (k : Int) + 1 := IntWalk.i64_in _ (by omega)
      clear hrow2
      by_cases hlast : k + 1 < cs.length
      · have d3 : decide ((k : Int) + 1 < (cs.length : Int)) = true := decide_eq_true (by omega)
        have d4 : decide ((u.length : Int) < x) = false := decide_eq_false (by have := HS.out.2.2 hlast; omega)
        go_quiet (fail)
        clear d1 d2 d2b q1 d3 d4
        go_wp2
        go_roundw
        case rel => exact ⟨k + 1, by omega, by go_num, ⟨HI5.out.drewN nq⟩⟩
        case measure => simp [intOf]; omega
      · have d3 : decide ((k : Int) + 1 < (cs.length : Int)) = false := decide_eq_false (by omega)
        go_quiet (fail)
        clear d1 d2 d2b q1 d3
        go_wp2
        go_roundw
        case rel => exact ⟨k + 1, by omega, by go_num, ⟨HI5.out.drewN nq⟩⟩
        case measure => simp [intOf]; omega
    · obtain rfl : k = cs.length := by omega
      have hall := hI.out.all
      rw [List.take_length, HFL.out] at hall
      obtain ⟨Aa, ca, rfl⟩ := Kd.R_slice hall
      have kc1 := Kd.C_string (P := Try.prog) (A := Aa) (c := ca) Try.underlying22 Try.underlying5 Try.underlying9 (Kd.R_reads' hall).2.2
      have kc2 := Kd.C_string (P := Try.prog) (A := Ao) (c := co) Try.underlying22 Try.underlying5 Try.underlying9 (Kd.R_reads' hI.out.own).2.2
      clear hall
      go_wp2_with fail
      refine (lives_calls wr).mono ?_
      rintro e w6 ⟨rfl, hb6⟩
      have HF := Aside0.mk (hI.out.below.trans (hb6.mono hI.out.below.size))
      clear kc1 kc2 hb6
      go_wp2
      go_ret
      exact ⟨rfl, HF.out⟩
end Go.Proofs.Ytimlkknfmbfomaa
