import Derived.Test.YtimlkknfmbfomaaStops
import Derived.Test.YtimlkknfmbfomaaAgainLaw
import Derived.Deep.RegionHeld3
import Derived.Deep.RegionWith
namespace Go.Proofs.Ytimlkknfmbfomaa
open Go.RowKit Go.Proofs.YtimlkknfmbfomaaW.PrintWords Go.Proofs.Ytimlkknfmbfomaa.Pr Go.Proofs.YtimlkknfmbfomaaW.PrintLast Go.Proofs.YtimlkknfmbfomaaW.PrintMore

attribute [local go_sem] max2_int min2_int max_two min_two
theorem few_calls' (A : Option Addr) (n c : Nat) (l : List Int) (most : Nat) (w : World) (e : n = l.length) (hC : (Kd.int .u8).C w A l.length l) (hc : l.length ≤ c) (hl : most ≤ 140737488355328) :
    Calls Try.prog 7 #[.slice A n c, .int .i64 (most : Int)] w fun e w' => ∃ v, e = .returned v ∧ (Kd.int .u8).R 5 w' w.heap.size (fun _ => True) v (l.take most) ∧ Below w.heap.size w w' := by
  subst e
  exact few_calls A c l most w hC hc hl

theorem collect_calls' (a b c : Int) (A : Option Addr) (n cap : Nat) (xs : List Int) (w : World) (e : n = xs.length) (hp : 1 ≤ a ∧ a ≤ b ∧ b ≤ c ∧ c ≤ 4096)
    (hl : KB.C w A xs.length xs) (hcap : xs.length ≤ cap) (hL : xs.length ≤ 1099511627776) (hB : Bytes xs) (hA : ∀ ad, A = some ad → ad.block < w.heap.size) :
    Calls Try.prog 16 #[.slice A n cap, .agg #[.int .i64 a, .int .i64 b, .int .i64 c]] w fun e w' =>
      ∃ o, e = .returned o ∧ KR.R 22 w' w.heap.size (fun _ => True) o (chunksOf a c (maskN b) xs) ∧ Below w.heap.size w w' := by
  subst e
  exact collect_calls a b c A cap xs w hp hl hcap hL hB hA

theorem collect_row (a b c : Int) (A : Option Addr) (cap base : Nat) (ok : Nat → Prop) (xs : List Int) (w : World) (hp : 1 ≤ a ∧ a ≤ b ∧ b ≤ c ∧ c ≤ 4096)
    (hL : xs.length ≤ 1099511627776) (hB : Bytes xs) (hR : KB.R 5 w base ok (.slice A xs.length cap) xs) :
    Calls Try.prog 16 #[.slice A xs.length cap, .agg #[.int .i64 a, .int .i64 b, .int .i64 c]] w fun e w' =>
      ∃ o, e = .returned o ∧ KR.R 22 w' w.heap.size (fun _ => True) o (chunksOf a c (maskN b) xs) ∧ Below w.heap.size w w' :=
  collect_calls a b c A cap xs w hp (Kd.R_reads' hR).2.2 (Kd.R_reads' hR).2.1 hL hB (own_lt hR)

set_option maxRecDepth 100000 in
set_option maxHeartbeats 1600000 in
theorem cutAgain_calls (a b c : Int) (A : Option Addr) (cap : Nat) (l : List Int) (A' : Option Addr) (cap' : Nat) (l' : List Int) (w : World) (ha : I64 a) (hb : I64 b) (hc : I64 c)
    (hl : KB.C w A l.length l) (hcap : l.length ≤ cap) (hB : Bytes l) (hl' : KB.C w A' l'.length l') (hcap' : l'.length ≤ cap') (hB' : Bytes l') :
    Calls Try.prog 5 #[.slice A l.length cap, .slice A' l'.length cap', .agg #[.int .i64 a, .int .i64 b, .int .i64 c]] w fun e w' => e = .returned (.bool true) ∧ Below w.heap.size w w' := by
  have HL := Aside0.mk hl; have HB := Aside0.mk hB; have HL' := Aside0.mk hl'; have HB' := Aside0.mk hB'
  clear hl hB hl' hB'
  go_enter Try.func5, Try.ntmps5
  go_wp2_with fail
  refine (good_calls a b c _ ha hb hc).mono ?_
  rintro e w1 ⟨rfl, hb1⟩
  have hbel : Below w.heap.size w w1 := ((Below.refl _ _).alloc (Nat.le_refl _) _).trans (hb1.mono (by simp))
  have gb := g_bounds a b c
  obtain ⟨x, hx1⟩ : ∃ x, x = gMin a := ⟨_, rfl⟩
  obtain ⟨y, hy1⟩ : ∃ y, y = gAvg a b := ⟨_, rfl⟩
  obtain ⟨z, hz1⟩ : ∃ z, z = gMax a b c := ⟨_, rfl⟩
  rw [← hx1, ← hy1, ← hz1] at gb
  rw [← hx1, ← hy1, ← hz1]
  clear hx1 hy1 hz1 hb1
  have HB1 := Aside0.mk (hbel.alloc hbel.size (.cells #[.int .i64 x, .int .i64 y, .int .i64 z] 24))
  have HG1 := Aside0.mk (heap_alloc_new w1 (.cells #[.int .i64 x, .int .i64 y, .int .i64 z] 24))
  clear hbel
  go_wp2_with fail
  refine (few_calls A' cap' l' 80 _ (Kd.C_below HL'.out HB1.out) hcap' (by decide)).mono ?_
  rintro e w2 ⟨v, rfl, hR2, hb2⟩
  have ht : (l'.take 80).length ≤ 80 := by rw [List.length_take]; omega
  have hbt : Bytes (l'.take 80) := fun x hx => HB'.out x (List.mem_of_mem_take hx)
  obtain ⟨ts, hts⟩ : ∃ ts, ts = l'.take 80 := ⟨_, rfl⟩
  rw [← hts] at ht hbt hR2
  obtain ⟨At, ct, rfl⟩ := Kd.R_slice hR2
  have HT2 := Aside0.mk (Kd.R_lower hR2 HB1.out.size); have HBT := Aside0.mk hbt
  have HB2 := Aside0.mk (HB1.out.trans (hb2.mono HB1.out.size)); have HG2 := Aside0.mk (blk_below HG1.out hb2)
  clear hR2 hb2 hts hbt HB1 HG1
  go_wp2_with fail
  refine (few_calls A cap l 60 _ (Kd.C_below HL.out HB2.out) hcap (by decide)).mono ?_
  rintro e w3 ⟨v, rfl, hR3, hb3⟩
  have hh : (l.take 60).length ≤ 60 := by rw [List.length_take]; omega
  have hbh : Bytes (l.take 60) := fun x hx => HB.out x (List.mem_of_mem_take hx)
  obtain ⟨hs, hhs⟩ : ∃ hs, hs = l.take 60 := ⟨_, rfl⟩
  rw [← hhs] at hh hbh hR3
  obtain ⟨Ah, ch, rfl⟩ := Kd.R_slice hR3
  have HH3 := Aside0.mk (Kd.R_lower hR3 HB2.out.size); have HBH := Aside0.mk hbh
  have HB3 := Aside0.mk (HB2.out.trans (hb3.mono HB2.out.size)); have HG3 := Aside0.mk (blk_below HG2.out hb3); have HT3 := Aside0.mk (Kd.R_below HT2.out hb3)
  have j0 : w3.cell? ⟨w1.heap.size, 0, none⟩ = some (.int .i64 x) := by rw [blk_cell HG3.out]; rfl
  have j1 : w3.cell? ⟨w1.heap.size, 1, none⟩ = some (.int .i64 y) := by rw [blk_cell HG3.out]; rfl
  have j2 : w3.cell? ⟨w1.heap.size, 2, none⟩ = some (.int .i64 z) := by rw [blk_cell HG3.out]; rfl
  clear hR3 hb3 hhs hbh HB2 HG2 HT2
  go_wp2_with fail
  refine (collect_calls x y z Ah ch hs _ (by omega) (Kd.R_reads' HH3.out).2.2 (Kd.R_reads' HH3.out).2.1 (by omega) HBH.out (own_lt HH3.out)).mono ?_
  rintro e w4 ⟨o, rfl, hRl, hb4⟩
  clear j0 j1 j2
  obtain ⟨K, hK⟩ : ∃ K, K = (chunksOf x z (maskN y) hs).length - 1 := ⟨_, rfl⟩
  have hag := chunks_again x z (maskN y) (by omega) hs ts K hK
  have hcl := chunks_length x z (maskN y) hs
  have hcb := chunks_bytes x z (maskN y) hs HBH.out
  have hfl := chunks_flatten x z (maskN y) (by omega) hs
  obtain ⟨cs, hcs⟩ : ∃ cs, cs = chunksOf x z (maskN y) hs := ⟨_, rfl⟩
  rw [← hcs] at hRl hag hcl hK hcb hfl
  obtain ⟨Al, cl, rfl⟩ := Kd.R_slice hRl
  have HL4 := Aside0.mk (Kd.R_lower hRl HB3.out.size); have HB4 := Aside0.mk (HB3.out.trans (hb4.mono HB3.out.size)); have HG4 := Aside0.mk (blk_below HG3.out hb4); have HT4 := Aside0.mk (Kd.R_below HT3.out hb4); have HH4 := Aside0.mk (Kd.R_below HH3.out hb4)
  have HAG := Aside0.mk hag; have HCB := Aside0.mk hcb; have HFL := Aside0.mk hfl; have HK := Aside0.mk hK
  clear hRl hb4 hag hcs hcb hfl hK HB3 HG3 HT3 HH3
  go_wp2_with fail
  go_loopw [11, 12] (fun s i W => ∃ k, k ≤ K ∧ i = .int .i64 k ∧ s = .int .i64 ((cs.take k).flatten.length : Int) ∧ W = w4) (fun _ i _ => K - (intOf i).toNat)
  case atStart =>
    exact ⟨0, Nat.zero_le _, rfl, rfl, rfl⟩
  case round =>
    obtain ⟨k, hk, rfl, rfl, rfl⟩ := hrel
    by_cases hlt : k + 1 < cs.length
    · obtain ⟨u, hu⟩ : ∃ u, cs[k]? = some u := ⟨_, List.getElem?_eq_getElem (by omega)⟩
      obtain ⟨gl, vl, rfl, _, _, hcell, hrow⟩ := KR_at HL4.out hu
      obtain ⟨Au, cu, rfl⟩ := Kd.R_slice hrow
      have hsum : (cs.take k).flatten.length + u.length ≤ 60 := by
        have hg : cs[k] = u := by rw [List.getElem?_eq_getElem (by omega)] at hu; exact Option.some.inj hu
        have e : cs.take k ++ u :: cs.drop (k + 1) = cs := by rw [← hg, ← List.drop_eq_getElem_cons (by omega), List.take_append_drop]
        have h1 := congrArg List.length HFL.out
        rw [← e, List.flatten_append, List.flatten_cons, List.length_append, List.length_append] at h1
        omega
      have hnext : (cs.take (k + 1)).flatten.length = (cs.take k).flatten.length + u.length := by
        rw [List.take_add_one, hu]
        simp
      obtain ⟨s0, hs0⟩ : ∃ s0, s0 = (cs.take k).flatten.length := ⟨_, rfl⟩
      rw [← hs0] at hsum hnext
      rw [← hs0]
      have HN := Aside0.mk hnext
      clear hnext hrow hs0 hu
      go_wp2
      go_roundw
      case rel => exact ⟨k + 1, by have := HK.out; omega, by go_num, by rw [HN.out]; go_num, by first | rfl | trivial⟩
      case measure => have := HK.out; simp [intOf]; omega
    · obtain rfl : k = K := by have := HK.out; omega
      have hkb : k ≤ 100 := by have := HK.out; omega
      have hal := HAG.out.1
      obtain ⟨fs, hfs⟩ : ∃ fs, fs = (cs.take k).flatten := ⟨_, rfl⟩
      have hfsb : Bytes fs := by
        rw [hfs]
        intro x hx
        obtain ⟨y, hy, hxy⟩ := List.mem_flatten.1 hx
        exact HCB.out y (List.mem_of_mem_take hy) x hxy
      rw [← hfs] at hal
      have hfl : fs.length ≤ hs.length := by have := congrArg List.length hal; rw [List.length_take] at this; omega
      obtain ⟨i0, hi0, _, hsz, _⟩ := info_parts infoB
      have hcut := cut_to (P := Try.prog) 22 5 .i64 Try.underlying22 hi0 Ah hs.length ch (fs.length : Int) (by omega) (by omega) (Kd.R_reads' HH4.out).2.1
      rw [Int.toNat_natCast] at hcut
      rw [← hfs]
      have HFS := Aside0.mk hfs; have HAL := Aside0.mk hal; have HFB := Aside0.mk hfsb
      clear hfs hal hfsb hi0 hsz
      go_wp2_with fail
      refine (few_calls' Ah fs.length ch (hs.take fs.length) 60 _ (by rw [List.length_take]; omega) (by rw [HAL.out]; have := take_C (Kd.R_reads' HH4.out).2.2 hfl; rwa [HAL.out] at this) (by rw [HAL.out]; exact Nat.le_trans hfl (Kd.R_reads' HH4.out).2.1) (by decide)).mono ?_
      rintro e w5 ⟨v, rfl, hR5, hb5⟩
      rw [HAL.out, List.take_of_length_le (by omega)] at hR5
      obtain ⟨Av, cv, rfl⟩ := Kd.R_slice hR5
      have HT5 := Aside0.mk (Kd.R_elder HT4.out hR5 hb5); have HL5 := Aside0.mk (Kd.R_elder HL4.out hR5 hb5)
      have HV5 := Aside0.mk (Kd.R_lower hR5 HB4.out.size)
      have HB5 := Aside0.mk (HB4.out.trans (hb5.mono HB4.out.size)); have HG5 := Aside0.mk (blk_below HG4.out hb5)
      clear hcut hR5 hb5 HB4 HG4 HT4 HH4 HL4
      go_wp2_with (at_builtin; go_must ((refine Kd.R_append_rows KB (w0 := w) w.heap.size rfl (.tmp 42) (.tmp 43) 22 5 (.int .u8 0) 1 rfl Try.underlying22 infoB rfl (by decide) (by omega) (.slice Av fs.length cv) fs ts At ts.length ct (fun _ => True) (fun _ => False) rfl rfl HV5.out (Kd.R_reads' HT5.out).2.2 (fun _ _ h => h) (fun _ h => h.elim) (fun _ _ => trivial) HB5.out HB5.out.size (by omega) ?_); intro v6 w6 hO hB6 hg6 hat6; obtain ⟨A6, c6, hv6⟩ := Kd.R_slice hO; subst hv6; have HO6 := Aside0.mk hO; have HB6 := Aside0.mk hB6; have HT6 := Aside0.mk (Kd.R_after HT5.out hg6 hat6); have HL6 := Aside0.mk (Kd.R_after HL5.out hg6 hat6); have HG6 := Aside0.mk (blk_grown HG5.out hg6 (Kd.R_ne HV5.out HG5.out (by decide))); have j0 : w6.cell? ⟨w1.heap.size, 0, none⟩ = some (.int .i64 x) := (blk_cell HG6.out 0).trans rfl; have j1 : w6.cell? ⟨w1.heap.size, 1, none⟩ = some (.int .i64 y) := (blk_cell HG6.out 1).trans rfl; have j2 : w6.cell? ⟨w1.heap.size, 2, none⟩ = some (.int .i64 z) := (blk_cell HG6.out 2).trans rfl; clear hO hB6 hg6 hat6))
      have hbts : Bytes (fs ++ ts) := fun x hx => (List.mem_append.1 hx).elim (HFB.out x) (HBT.out x)
      have h6 := Kd.R_reads' HO6.out
      rw [List.length_append] at h6
      refine (collect_calls' x y z A6 (fs.length + ts.length) c6 (fs ++ ts) _ (by rw [List.length_append]) (by omega) (by rw [List.length_append]; exact h6.2.2) (by rw [List.length_append]; exact h6.2.1) (by rw [List.length_append]; omega) hbts (own_lt HO6.out)).mono ?_
      rintro e w7 ⟨o, rfl, hR7, hb7⟩
      clear j0 j1 j2 h6
      have hgot := HAG.out.2
      rw [← HFS.out] at hgot
      rw [hgot] at hR7
      obtain ⟨Ag, cg, rfl⟩ := Kd.R_slice hR7
      have hgl : (cs.take k ++ chunksOf x z (maskN y) ts).length = k + (chunksOf x z (maskN y) ts).length := by rw [List.length_append, List.length_take]; have := HK.out; omega
      rw [hgl]
      have HR7 := Aside0.mk hR7; have HB7 := Aside0.mk (HB6.out.trans (hb7.mono HB6.out.size)); have HG7 := Aside0.mk (blk_below HG6.out hb7); have HL7 := Aside0.mk (Kd.R_below HL6.out hb7); have HT7 := Aside0.mk (Kd.R_below HT6.out hb7); have HGL := Aside0.mk hgl
      clear hR7 hb7 hgot hgl HO6 HB6 HG6 HL6 HT6
      have hts7 := chunks_length x z (maskN y) ts
      have hcbt := chunks_bytes x z (maskN y) ts HBT.out
      obtain ⟨tcs, htcs⟩ : ∃ tcs, tcs = chunksOf x z (maskN y) ts := ⟨_, rfl⟩
      rw [← htcs] at HR7 HGL hts7 hcbt ⊢
      have HTC := Aside0.mk htcs; have HCBT := Aside0.mk hcbt
      clear htcs hcbt
      have hmx : (if (cs.length : Int) - 1 < 0 then 0 else (cs.length : Int) - 1) = (k : Int) := by have := HK.out; split <;> omega
      go_wp2_with fail
      clear hmx
      obtain ⟨i1, hi1, _, hsz1, _⟩ := info_parts infoR
      have r7 := Kd.R_reads' HR7.out
      have l7 := Kd.R_reads' HL7.out
      rw [HGL.out] at r7
      have hkl : k ≤ cs.length := by have := HK.out; omega
      obtain ⟨tk, htk⟩ : ∃ tk, tk = cs.take k := ⟨_, rfl⟩
      have htl : k = tk.length := by rw [htk, List.length_take]; omega
      have e1 : (cs.take k ++ tcs).take k = tk := by rw [← htk]; exact htl ▸ List.take_left
      have e2 : (cs.take k ++ tcs).drop k = tcs := by rw [← htk]; exact htl ▸ List.drop_left
      have hC1 : KR.C w7 Ag tk.length tk := by have := take_row (Kd.R_reads' HR7.out).2.2 (m := k) (by rw [HGL.out]; omega); rwa [e1] at this
      have hC2 : KR.C w7 Al tk.length tk := by have := take_row l7.2.2 hkl; rwa [← htk] at this
      have hC3 := Kd.C_drop (m := k) (c := cg) (Kd.R_reads' HR7.out).2.2 (by rw [HGL.out]; omega) (by rw [HGL.out]; exact r7.2.1)
      rw [e2] at hC3
      have hc1 := cut_to (P := Try.prog) 32 22 .i64 Try.underlying32 hi1 Ag (k + tcs.length) cg (k : Int) (by omega) (by omega) r7.2.1
      have hc2 := cut_to (P := Try.prog) 32 22 .i64 Try.underlying32 hi1 Al cs.length cl (k : Int) (by omega) (by omega) l7.2.1
      have hc3 := cut_from (P := Try.prog) 32 22 .i64 Try.underlying32 hi1 1 hsz1 Ag (k + tcs.length) cg (k : Int) (by omega) (by omega)
      rw [Int.toNat_natCast] at hc1 hc2 hc3
      rw [show k + tcs.length - k = tcs.length by omega] at hc3
      replace hC3 : KR.C w7 (if cg = k then Ag else Ag.map (·.add (k * 1))) tcs.length tcs := hC3
      obtain ⟨AD, hAD⟩ : ∃ AD, AD = (if cg = k then Ag else Ag.map (·.add (k * 1))) := ⟨_, rfl⟩
      rw [← hAD] at hC3 hc3
      obtain ⟨cd, hcd⟩ : ∃ cd, cd = cg - k := ⟨_, rfl⟩
      rw [← hcd] at hc3
      have p1 : tk.length ≤ cg := by have := r7.2.1; omega
      have p2 : tk.length ≤ cl := by have := l7.2.1; omega
      have p3 : tcs.length ≤ cd := by have := r7.2.1; omega
      have htb : ∀ u, u ∈ tk → Bytes u := fun u hu => HCB.out u (List.mem_of_mem_take (htk ▸ hu))
      have p4 : tk.length < 1099511627776 := by omega
      have p5 : tcs.length < 1099511627776 := by omega
      have j0 : w7.cell? ⟨w1.heap.size, 0, none⟩ = some (.int .i64 x) := (blk_cell HG7.out 0).trans rfl
      have j1 : w7.cell? ⟨w1.heap.size, 1, none⟩ = some (.int .i64 y) := (blk_cell HG7.out 1).trans rfl
      have j2 : w7.cell? ⟨w1.heap.size, 2, none⟩ = some (.int .i64 z) := (blk_cell HG7.out 2).trans rfl
      have hbound : w1.heap.size < w7.heap.size := blk_lt HG7.out
      have HC1 := Aside0.mk hC1; have HC2 := Aside0.mk hC2; have HC3 := Aside0.mk hC3; have HTL := Aside0.mk htl; have HTB := Aside0.mk htb
      have q0 : (0 : Int) ≤ (k : Int) := by omega
      have p6 : 1 ≤ x ∧ x ≤ y ∧ y ≤ z ∧ z ≤ 4096 := by omega
      have p7 : ts.length ≤ 1099511627776 := by omega
      clear hi1 hsz1 r7 l7 htk htl e1 e2 hC1 hC2 hC3 hAD hcd htb hkl hlt hk
      go_region_held3 (fun w' => w'.cell? ⟨w1.heap.size, 0, none⟩ = some (.int .i64 x) ∧ w'.cell? ⟨w1.heap.size, 1, none⟩ = some (.int .i64 y) ∧ w'.cell? ⟨w1.heap.size, 2, none⟩ = some (.int .i64 z)) (first | go_keep | (go_split_ands; refine ⟨?_, ?_, ?_⟩ <;> (rw [hbv.cell (by have := hbc.size; simp at *; omega)]; first | assumption | (go_simp; done))) | (go_split_ands; refine ⟨?_, ?_, ?_⟩ <;> (rw [hbc.cell (by simp; omega)]; first | assumption | (go_simp; done)))) (first | (go_at_call_of 13 cl; refine (same_calls' Ag _ cg tk Al _ cl tk _ HTL.out HTL.out ?h0 p1 ?h1 p2 HTB.out HTB.out p4).mono ?_; (case h0 => (with_reducible repeat (first | exact HC1.out | apply Kd.C_drew | apply Kd.C_drewN))); (case h1 => (with_reducible repeat (first | exact HC2.out | apply Kd.C_drew | apply Kd.C_drewN))); rintro e wd ⟨rfl, nd, rfl⟩; rw [decide_eq_true rfl]) | (go_at_call 16; refine (collect_row x y z At ct w.heap.size _ ts _ p6 p7 HBT.out (Kd.R_drewN HT7.out _)).mono ?_; rintro e wc ⟨oc, rfl, hRc, hbc⟩; rw [← HTC.out] at hRc; obtain ⟨Ac, cc, rfl⟩ := Kd.R_slice hRc) | (go_at_call_of 13 AD; refine (same_calls' AD _ cd tcs Ac _ cc tcs _ rfl rfl ?h5 p3 (Kd.R_reads' hRc).2.2 (Kd.R_reads' hRc).2.1 HCBT.out HCBT.out p5).mono ?_; (case h5 => (refine Kd.C_below ?_ hbc; (with_reducible repeat (first | exact HC3.out | apply Kd.C_drew | apply Kd.C_drewN)))); rintro e wd2 ⟨rfl, nd2, rfl⟩; rw [decide_eq_true rfl]) | (go_at_call 15; refine (lives_calls _).mono ?_; rintro e wv ⟨rfl, hbv⟩))
      have hb8 : Below w7.heap.size w7 wc := (pw_below_drewN (Below.refl _ _) _).trans (hbc.mono (Nat.le_refl _))
      have hb9 : Below wc.heap.size wc wv := (pw_below_drewN (Below.refl _ _) _).trans (hbv.mono (Nat.le_refl _))
      have hb10 := HB7.out.trans (hb8.mono HB7.out.size)
      have HF := Aside0.mk (hb10.trans (hb9.mono hb10.size))
      clear hb8 hb9 hb10 hbc hbv hc1 hc2 hc3
      go_wp2
      go_ret
      exact ⟨rfl, HF.out⟩
end Go.Proofs.Ytimlkknfmbfomaa
