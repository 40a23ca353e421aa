import Derived.Test.YtofaicocdijjgaaDoorItemsNil
import Derived.Deep.Cut
import Derived.Deep.CutBlock
namespace Go.Proofs.YtofaicocdijjgaaDoor
open Go.RowKit Go.Proofs.YtofaicocdijjgaaDoorW.PrintWords Go.Proofs.YtofaicocdijjgaaDoor.Pr

set_option maxRecDepth 100000 in
set_option maxHeartbeats 3200000 in
theorem cutMay_calls (a b c which n : Int) (w : World) (ha : I64 a) (hb : I64 b) (hc : I64 c) (hwh : I64 which) (hn : I64 n) :
    Calls Tryd.prog 3 #[.agg #[.int .i64 a, .int .i64 b, .int .i64 c], .int .i64 which, .int .i64 n] w fun e w' => e = .returned (.bool true) ∧ Below w.heap.size w w' := by
  have kc := fun (w : World) (C : Array Value) (n c : Nat) => Lib.run_convert_bytes_const (P := Tryd.prog) w 35 5 C n c Tryd.underlying35 Tryd.underlying5
  go_enter Tryd.func3, Tryd.ntmps3
  go_wp2_with fail
  refine (good_calls a b c _ ha hb hc).mono ?_
  rintro e w1 ⟨rfl, hb1⟩
  have hp1 := blk_below (heap_alloc_new w (.cells #[.int .i64 a, .int .i64 b, .int .i64 c] 23)) hb1
  have hbel : Below w.heap.size w w1 := ((Below.refl _ _).alloc (Nat.le_refl _) _).trans (hb1.mono (by simp))
  have gb := g_bounds a b c
  obtain ⟨x, hx1⟩ : ∃ x, x = gMin a := ⟨_, rfl⟩
  obtain ⟨y, hy1⟩ : ∃ y, y = gAvg a b := ⟨_, rfl⟩
  obtain ⟨z, hz1⟩ : ∃ z, z = gMax a b c := ⟨_, rfl⟩
  rw [← hx1, ← hy1, ← hz1] at gb
  rw [← hx1, ← hy1, ← hz1]
  clear hx1 hy1 hz1 hb1
  have HP1 := Aside0.mk hp1; have HB1 := Aside0.mk hbel
  clear hp1 hbel
  go_wp2_with fail
  refine (around_calls which 3 _ hwh.1 hwh.2 (by decide)).mono ?_
  rintro e w2 ⟨rfl, rfl⟩
  obtain ⟨W, hW⟩ : ∃ W, W = (w1.alloc (.cells #[.int .i64 x, .int .i64 y, .int .i64 z] 23)).alloc (.cells #[.int .i64 x, .int .i64 y, .int .i64 z] 23) := ⟨_, rfl⟩
  have hlt1 := blk_lt HP1.out
  have hPW : W.heap[w.heap.size]? = some (.cells #[.int .i64 a, .int .i64 b, .int .i64 c] 23 (0, 0)) := by rw [hW, heap_alloc_old _ _ (by simp only [World.size_alloc]; omega), heap_alloc_old _ _ (by omega)]; exact HP1.out
  have hGW : W.heap[w1.heap.size]? = some (.cells #[.int .i64 x, .int .i64 y, .int .i64 z] 23 (0, 0)) := by rw [hW, heap_alloc_old _ _ (by simp only [World.size_alloc]; omega)]; exact heap_alloc_new _ _
  have hOW : W.heap[w1.heap.size + 1]? = some (.cells #[.int .i64 x, .int .i64 y, .int .i64 z] 23 (0, 0)) := by have := heap_alloc_new (w1.alloc (.cells #[.int .i64 x, .int .i64 y, .int .i64 z] 23)) (.cells #[.int .i64 x, .int .i64 y, .int .i64 z] 23); rw [hW]; simpa only [World.size_alloc] using this
  have hBW : Below w.heap.size w W := by rw [hW]; exact (HB1.out.alloc HB1.out.size _).alloc (by simp; have := HB1.out.size; omega) _
  rw [← hW]
  have hsz1 := HB1.out.size
  have t1 := arnd_nonneg which (m := 3) (by decide)
  have t2 := arnd_lt which (m := 3) (by decide)
  obtain ⟨t, ht⟩ : ∃ t, t = arnd which 3 := ⟨_, rfl⟩
  rw [← ht] at t1 t2 ⊢
  have HPW := Aside0.mk hPW; have HGW := Aside0.mk hGW; have HOW := Aside0.mk hOW; have HBW := Aside0.mk hBW
  clear ht hW hPW hGW hOW hBW HP1 HB1
  have hne1 : w.heap.size ≠ w1.heap.size + 1 := by omega
  have hne2 : w1.heap.size ≠ w1.heap.size + 1 := by omega
  go_upto_block 0 with fail
  go_cut [] from 27 to 34 (fun wx => ∃ x' y' z' : Int, (I64 x' ∧ I64 y' ∧ I64 z') ∧ Aside0 (wx.heap[w.heap.size]? = some (.cells #[.int .i64 a, .int .i64 b, .int .i64 c] 23 (0, 0))) ∧ Aside0 (wx.heap[w1.heap.size]? = some (.cells #[.int .i64 x, .int .i64 y, .int .i64 z] 23 (0, 0))) ∧ Aside0 (wx.heap[w1.heap.size + 1]? = some (.cells #[.int .i64 x', .int .i64 y', .int .i64 z'] 23 (0, 0))) ∧ Aside0 (Below w.heap.size w wx))
  case first =>
    have f0 : ∀ j, W.frozen? ⟨w1.heap.size + 1, j, none⟩ = false := fun j => blk_frozen HOW.out j
    have c0 : W.cell? ⟨w1.heap.size + 1, 0, none⟩ = some (.int .i64 x) := (blk_cell HOW.out 0).trans rfl
    have c1 : W.cell? ⟨w1.heap.size + 1, 1, none⟩ = some (.int .i64 y) := (blk_cell HOW.out 1).trans rfl
    have c2 : W.cell? ⟨w1.heap.size + 1, 2, none⟩ = some (.int .i64 z) := (blk_cell HOW.out 2).trans rfl
    have hx64 : I64 x := ⟨by omega, by omega⟩
    have hy64 : I64 y := ⟨by omega, by omega⟩
    have hz64 : I64 z := ⟨by omega, by omega⟩
    by_cases h0 : t = 0
    · have e0 : (t == 0) = true := by rw [beq_iff_eq]; exact h0
      go_wp2_with fail
      go_meet
      case rel => exact ⟨n, y, z, ⟨hn, hy64, hz64⟩, ⟨blk_far HPW.out hne1 _⟩, ⟨blk_far HGW.out hne2 _⟩, ⟨blk_set HOW.out 0 _⟩, ⟨HBW.out.setCell (p := ⟨w1.heap.size + 1, 0, none⟩) (by show w.heap.size ≤ w1.heap.size + 1; omega) _⟩⟩
    · have e0 : (t == 0) = false := by rw [beq_eq_false_iff_ne]; exact h0
      by_cases h1 : t = 1
      · have e1 : (t == 1) = true := by rw [beq_iff_eq]; exact h1
        go_wp2_with fail
        go_meet
        case rel => exact ⟨x, n, z, ⟨hx64, hn, hz64⟩, ⟨blk_far HPW.out hne1 _⟩, ⟨blk_far HGW.out hne2 _⟩, ⟨blk_set HOW.out 1 _⟩, ⟨HBW.out.setCell (p := ⟨w1.heap.size + 1, 1, none⟩) (by show w.heap.size ≤ w1.heap.size + 1; omega) _⟩⟩
      · have e1 : (t == 1) = false := by rw [beq_eq_false_iff_ne]; exact h1
        go_wp2_with fail
        go_meet
        case rel => exact ⟨x, y, n, ⟨hx64, hy64, hn⟩, ⟨blk_far HPW.out hne1 _⟩, ⟨blk_far HGW.out hne2 _⟩, ⟨blk_set HOW.out 2 _⟩, ⟨HBW.out.setCell (p := ⟨w1.heap.size + 1, 2, none⟩) (by show w.heap.size ≤ w1.heap.size + 1; omega) _⟩⟩
  case rest =>
    clear HPW HGW HOW HBW
    obtain ⟨x', y', z', ⟨hx', hy', hz'⟩, HPW, HGW, HOW, HBW⟩ := hcut
    have p0 := (blk_cell HPW.out 0).trans rfl
    have p1 := (blk_cell HPW.out 1).trans rfl
    have p2 := (blk_cell HPW.out 2).trans rfl
    have g0 := (blk_cell HGW.out 0).trans rfl
    have g1 := (blk_cell HGW.out 1).trans rfl
    have g2 := (blk_cell HGW.out 2).trans rfl
    have o0 := (blk_cell HOW.out 0).trans rfl
    have o1 := (blk_cell HOW.out 1).trans rfl
    have o2 := (blk_cell HOW.out 2).trans rfl
    go_wp2_with fail
    clear p0 p1 p2 g0 g1 g2 o0 o1 o2
    have hB9 := HBW.out.alloc HBW.out.size (.cells #[.int .i64 a, .int .i64 b, .int .i64 c, .int .i64 x, .int .i64 y, .int .i64 z, .int .i64 x', .int .i64 y', .int .i64 z'] 23)
    have h9 := heap_alloc_new wc (.cells #[.int .i64 a, .int .i64 b, .int .i64 c, .int .i64 x, .int .i64 y, .int .i64 z, .int .i64 x', .int .i64 y', .int .i64 z'] 23)
    have HB9 := Aside0.mk hB9; have H9 := Aside0.mk h9
    clear hB9 h9
    have hle := HBW.out.size
    go_loopw [10] (fun vi W => ∃ k : Nat, k ≤ 3 ∧ vi = .int .i64 (k : Int) ∧ Aside0 (W.heap[wc.heap.size]? = some (.cells #[.int .i64 a, .int .i64 b, .int .i64 c, .int .i64 x, .int .i64 y, .int .i64 z, .int .i64 x', .int .i64 y', .int .i64 z'] 23 (0, 0))) ∧ Aside0 (Below w.heap.size w W)) (fun vi _ => 3 - (intOf vi).toNat)
    case atStart => exact ⟨0, by omega, rfl, H9, HB9⟩
    case round =>
      clear HB9 H9
      obtain ⟨k, hk, rfl, H9, HBR⟩ := hrel
      by_cases hlt : k < 3
      · obtain ⟨qa, qb, qc, ⟨h1, h2, h3⟩, hcell⟩ : ∃ qa qb qc : Int, (I64 qa ∧ I64 qb ∧ I64 qc) ∧ ∀ W' : World, W'.heap[wc.heap.size]? = some (.cells #[.int .i64 a, .int .i64 b, .int .i64 c, .int .i64 x, .int .i64 y, .int .i64 z, .int .i64 x', .int .i64 y', .int .i64 z'] 23 (0, 0)) → W'.cell? ⟨wc.heap.size, k * 3, none⟩ = some (.int .i64 qa) ∧ W'.cell? ⟨wc.heap.size, k * 3 + 1, none⟩ = some (.int .i64 qb) ∧ W'.cell? ⟨wc.heap.size, k * 3 + 2, none⟩ = some (.int .i64 qc) := by
          have hk3 : k = 0 ∨ k = 1 ∨ k = 2 := by omega
          rcases hk3 with rfl | rfl | rfl
          · exact ⟨a, b, c, ⟨ha, hb, hc⟩, fun W' h => ⟨(blk_cell h 0).trans rfl, (blk_cell h 1).trans rfl, (blk_cell h 2).trans rfl⟩⟩
          · exact ⟨x, y, z, ⟨⟨by omega, by omega⟩, ⟨by omega, by omega⟩, ⟨by omega, by omega⟩⟩, fun W' h => ⟨(blk_cell h 3).trans rfl, (blk_cell h 4).trans rfl, (blk_cell h 5).trans rfl⟩⟩
          · exact ⟨x', y', z', ⟨hx', hy', hz'⟩, fun W' h => ⟨(blk_cell h 6).trans rfl, (blk_cell h 7).trans rfl, (blk_cell h 8).trans rfl⟩⟩
        have HCELL := Aside0.mk hcell
        obtain ⟨k0, k1, k2⟩ := hcell _ H9.out
        clear hcell
        go_wp2_with fail
        refine (refmay_calls qa qb qc wr).mono ?_
        rintro e v1 ⟨rfl, hv1⟩
        have hb1 : Below wr.heap.size wr v1 := by rw [hv1]; exact (Below.refl _ _).alloc (Nat.le_refl _) _
        clear hv1 k0 k1 k2
        have Hwr := H9; have Bwr := HBR
        have Hv1 := Aside0.mk (blk_below Hwr.out hb1); have Bv1 := Aside0.mk (Bwr.out.trans (hb1.mono Bwr.out.size)); obtain ⟨k0, k1, k2⟩ := HCELL.out _ Hv1.out
        clear hb1
        by_cases hm : mayB qa qb qc = true
        · have hp : 1 ≤ qa ∧ qa ≤ qb ∧ qb ≤ qc ∧ qc ≤ 4096 := of_decide_eq_true hm
          rw [hm]
          go_wp2_with fail
          refine (new_calls qa qb qc v1 hp).mono ?_
          rintro e v2 ⟨gg, rr, rfl, hb2, _, _, _, _, _⟩
          clear k0 k1 k2
          have Hv2 := Aside0.mk (blk_below Hv1.out hb2); have Bv2 := Aside0.mk (Bv1.out.trans (hb2.mono Bv1.out.size)); obtain ⟨k0, k1, k2⟩ := HCELL.out _ Hv2.out
          clear hb2
          have hl := heap_alloc_new v2 (.cells #[.int .u8 97, .int .u8 98, .int .u8 99] 5 (3, 4))
          obtain ⟨m0, m1, m2⟩ := HCELL.out (v2.alloc (.cells #[.int .u8 97, .int .u8 98, .int .u8 99] 5 (3, 4))) ((heap_alloc_old _ _ (blk_lt Hv2.out)).trans Hv2.out)
          go_wp2_with fail
          clear m0 m1 m2
          refine (sizes_calls qa qb qc _ 3 [97, 98, 99] _ hp (lit_C hl rfl (by decide)) (by decide) (by decide) (by unfold Bytes; decide) (by intro ad e; injection e with e; subst e; simp)).mono ?_
          rintro e v3 ⟨o3, rfl, _, hb3⟩
          have hb3' : Below v2.heap.size v2 v3 := ((Below.refl _ _).alloc (Nat.le_refl _) _).trans (hb3.mono (by simp))
          clear k0 k1 k2 hb3 hl
          have Hv3 := Aside0.mk (blk_below Hv2.out hb3'); have Bv3 := Aside0.mk (Bv2.out.trans (hb3'.mono Bv2.out.size)); obtain ⟨k0, k1, k2⟩ := HCELL.out _ Hv3.out
          clear hb3'
          go_wp2_with fail
          refine (items_nil qa qb qc v3 hp).mono ?_
          rintro e v4 ⟨o4, rfl, hb4⟩
          clear k0 k1 k2
          have Hv4 := Aside0.mk (blk_below Hv3.out hb4); have Bv4 := Aside0.mk (Bv3.out.trans (hb4.mono Bv3.out.size)); obtain ⟨k0, k1, k2⟩ := HCELL.out _ Hv4.out
          clear hb4
          go_wp2_with fail
          refine (lighterageref10_Power.calls 20 qb _ v4 (power_f qb (by omega) (by omega) 20 (by omega))).mono ?_
          rintro e v5 ⟨rfl, nd, hv5⟩
          have hb5 : Below v4.heap.size v4 v5 := by rw [hv5]; exact pw_below_drewN (Below.refl _ _) nd
          clear k0 k1 k2 hv5
          have Hv5 := Aside0.mk (blk_below Hv4.out hb5); have Bv5 := Aside0.mk (Bv4.out.trans (hb5.mono Bv4.out.size)); obtain ⟨k0, k1, k2⟩ := HCELL.out _ Hv5.out
          clear hb5
          have htp := topPow_pos qb
          have htl := topPow_le qb (by omega) (by omega)
          have hmk := maskN_eq qb
          obtain ⟨tp, htp0⟩ : ∃ tp, tp = topPow qb := ⟨_, rfl⟩
          rw [← htp0] at htp htl hmk ⊢
          clear htp0
          go_wp2_with fail
          refine (may_calls qa qb qc v5).mono ?_
          rintro e v6 ⟨rfl, hv6⟩
          have hb6 : Below v5.heap.size v5 v6 := by rw [hv6]; exact (Below.refl _ _).alloc (Nat.le_refl _) _
          rw [hm]
          clear k0 k1 k2 hv6
          have Hv6 := Aside0.mk (blk_below Hv5.out hb6); have Bv6 := Aside0.mk (Bv5.out.trans (hb6.mono Bv5.out.size)); obtain ⟨k0, k1, k2⟩ := HCELL.out _ Hv6.out
          clear hb6
          go_wp2_with fail
          refine (mask_calls qa qb qc v6 hp).mono ?_
          rintro e v7 ⟨rfl, hb7⟩
          rw [hmk]
          clear k0 k1 k2
          have Hv7 := Aside0.mk (blk_below Hv6.out hb7); have Bv7 := Aside0.mk (Bv6.out.trans (hb7.mono Bv6.out.size)); obtain ⟨k0, k1, k2⟩ := HCELL.out _ Hv7.out
          clear hb7
          go_wp2
          go_roundw
          case rel => exact ⟨k + 1, by omega, by go_num, Hv7, Bv7⟩
          case measure => simp [intOf]; omega
        · have hm : mayB qa qb qc = false := by simpa using hm
          rw [hm]
          go_wp2_with fail
          refine (new_not qa qb qc v1 hm).mono ?_
          rintro e v2 ⟨rfl, hb2⟩
          clear k0 k1 k2
          have Hv2 := Aside0.mk (blk_below Hv1.out hb2); have Bv2 := Aside0.mk (Bv1.out.trans (hb2.mono Bv1.out.size)); obtain ⟨k0, k1, k2⟩ := HCELL.out _ Hv2.out
          clear hb2
          have hl := heap_alloc_new v2 (.cells #[.int .u8 97, .int .u8 98, .int .u8 99] 5 (3, 4))
          obtain ⟨m0, m1, m2⟩ := HCELL.out (v2.alloc (.cells #[.int .u8 97, .int .u8 98, .int .u8 99] 5 (3, 4))) ((heap_alloc_old _ _ (blk_lt Hv2.out)).trans Hv2.out)
          go_wp2_with fail
          clear m0 m1 m2
          refine (sizes_not qa qb qc _ _ hm).mono ?_
          rintro e v3 ⟨rfl, hb3⟩
          have hb3' : Below v2.heap.size v2 v3 := ((Below.refl _ _).alloc (Nat.le_refl _) _).trans (hb3.mono (by simp))
          clear k0 k1 k2 hb3 hl
          have Hv3 := Aside0.mk (blk_below Hv2.out hb3'); have Bv3 := Aside0.mk (Bv2.out.trans (hb3'.mono Bv2.out.size)); obtain ⟨k0, k1, k2⟩ := HCELL.out _ Hv3.out
          clear hb3'
          go_wp2_with fail
          refine (items_not qa qb qc _ v3 hm).mono ?_
          rintro e v4 ⟨rfl, hb4⟩
          clear k0 k1 k2
          have Hv4 := Aside0.mk (blk_below Hv3.out hb4); have Bv4 := Aside0.mk (Bv3.out.trans (hb4.mono Bv3.out.size)); obtain ⟨k0, k1, k2⟩ := HCELL.out _ Hv4.out
          clear hb4
          go_wp2_with fail
          refine (may_calls qa qb qc v4).mono ?_
          rintro e v6 ⟨rfl, hv6⟩
          have hb6 : Below v4.heap.size v4 v6 := by rw [hv6]; exact (Below.refl _ _).alloc (Nat.le_refl _) _
          rw [hm]
          clear k0 k1 k2 hv6
          have Hv6 := Aside0.mk (blk_below Hv4.out hb6); have Bv6 := Aside0.mk (Bv4.out.trans (hb6.mono Bv4.out.size)); obtain ⟨k0, k1, k2⟩ := HCELL.out _ Hv6.out
          clear hb6
          go_wp2_with fail
          refine (mask_not qa qb qc v6 hm).mono ?_
          rintro e v7 ⟨rfl, hb7⟩
          clear k0 k1 k2
          have Hv7 := Aside0.mk (blk_below Hv6.out hb7); have Bv7 := Aside0.mk (Bv6.out.trans (hb7.mono Bv6.out.size)); obtain ⟨k0, k1, k2⟩ := HCELL.out _ Hv7.out
          clear hb7
          obtain ⟨m0, m1, m2⟩ := HCELL.out (v7.alloc (.cells #[.int .u8 97, .int .u8 98, .int .u8 99] 5 (3, 4))) ((heap_alloc_old _ _ (blk_lt Hv7.out)).trans Hv7.out)
          go_wp2_with fail
          clear m0 m1 m2
          refine (collect_not qa qb qc _ 3 3 _ hm).mono ?_
          rintro e v8 ⟨rfl, hb8⟩
          have hb8' : Below v7.heap.size v7 v8 := ((Below.refl _ _).alloc (Nat.le_refl _) _).trans (hb8.mono (by simp))
          clear k0 k1 k2 hb8
          have Hv8 := Aside0.mk (blk_below Hv7.out hb8'); have Bv8 := Aside0.mk (Bv7.out.trans (hb8'.mono Bv7.out.size)); obtain ⟨k0, k1, k2⟩ := HCELL.out _ Hv8.out
          clear hb8'
          go_wp2
          go_roundw
          case rel => exact ⟨k + 1, by omega, by go_num, Hv8, Bv8⟩
          case measure => simp [intOf]; omega
      · obtain rfl : k = 3 := by omega
        go_wp2_with fail
        refine (lives_calls wr).mono ?_
        rintro e v9 ⟨rfl, hb9⟩
        have HF := Aside0.mk (HBR.out.trans (hb9.mono HBR.out.size))
        clear hb9
        go_wp2
        go_ret
        exact ⟨rfl, HF.out⟩
end Go.Proofs.YtofaicocdijjgaaDoor
