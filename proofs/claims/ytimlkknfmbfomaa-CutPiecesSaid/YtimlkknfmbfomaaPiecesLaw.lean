import Derived.Test.YtimlkknfmbfomaaStops
import Derived.Test.YtimlkknfmbfomaaPieceMem
import Derived.Deep.Cut
namespace Go.Proofs.Ytimlkknfmbfomaa
open Go.RowKit Go.Proofs.YtimlkknfmbfomaaW.PrintWords Go.Proofs.Ytimlkknfmbfomaa.Pr Go.Proofs.YtimlkknfmbfomaaW.PrintLast Go.Proofs.YtimlkknfmbfomaaW.PrintMore

attribute [local go_sem] max2_int min2_int max_two min_two
set_option maxRecDepth 100000 in
set_option maxHeartbeats 3200000 in
theorem cutPieces_calls (a b c : Int) (A : Option Addr) (cap : Nat) (l : List Int) (As : Option Addr) (caps : Nat) (ss : List Int) (w : World) (ha : I64 a) (hb : I64 b) (hc : I64 c)
    (hl : KB.C w A l.length l) (hcap : l.length ≤ cap) (hB : Bytes l) (hss : KI.C w As ss.length ss) (hcaps : ss.length ≤ caps) (hSS : ∀ n ∈ ss, I64 n) :
    Calls Try.prog 3 #[.slice A l.length cap, .agg #[.int .i64 a, .int .i64 b, .int .i64 c], .slice As ss.length caps] w fun e w' => e = .returned (.bool true) ∧ Below w.heap.size w w' := by
  have HL := Aside0.mk hl; have HB := Aside0.mk hB; have HS := Aside0.mk hss; have HSI := Aside0.mk hSS
  clear hl hB hss hSS
  go_enter Try.func3, Try.ntmps3
  go_wp2_with fail
  refine (few_calls A cap l 150 _ (Kd.C_alloc HL.out _) hcap (by decide)).mono ?_
  rintro e w1 ⟨v, rfl, hR, hb1⟩
  have hbel : Below w.heap.size w w1 := ((Below.refl _ _).alloc (Nat.le_refl _) _).trans (hb1.mono (by simp))
  have hx : (l.take 150).length ≤ 150 := by rw [List.length_take]; omega
  have hbx : Bytes (l.take 150) := fun x hx => HB.out x (List.mem_of_mem_take hx)
  obtain ⟨xs, hxs⟩ : ∃ xs, xs = l.take 150 := ⟨_, rfl⟩
  rw [← hxs] at hx hbx hR
  have HBX := Aside0.mk hbx
  clear hxs hbx
  obtain ⟨Ao, co, rfl⟩ := Kd.R_slice hR
  have k4 : w1.cell? ⟨w.heap.size, 0, none⟩ = some (.int .i64 a) := by rw [blk_cell (blk_below (heap_alloc_new w _) hb1)]; rfl
  have k5 : w1.cell? ⟨w.heap.size, 1, none⟩ = some (.int .i64 b) := by rw [blk_cell (blk_below (heap_alloc_new w _) hb1)]; rfl
  have k6 : w1.cell? ⟨w.heap.size, 2, none⟩ = some (.int .i64 c) := by rw [blk_cell (blk_below (heap_alloc_new w _) hb1)]; rfl
  have HR := Aside0.mk (Kd.R_lower hR (show w.heap.size ≤ _ by simp)); have HB1 := Aside0.mk hbel
  clear hR hb1 hbel
  go_wp2_with fail
  refine (good_calls a b c _ ha hb hc).mono ?_
  rintro e w2 ⟨rfl, hb2⟩
  clear k4 k5 k6
  have HR2 := Aside0.mk (Kd.R_below HR.out hb2); have HB2 := Aside0.mk (HB1.out.trans (hb2.mono HB1.out.size))
  clear hb2
  go_wp2_with fail
  have gb := g_bounds a b c
  obtain ⟨x, hx1⟩ : ∃ x, x = gMin a := ⟨_, rfl⟩
  obtain ⟨y, hy1⟩ : ∃ y, y = gAvg a b := ⟨_, rfl⟩
  obtain ⟨z, hz1⟩ : ∃ z, z = gMax a b c := ⟨_, rfl⟩
  rw [← hx1, ← hy1, ← hz1] at gb
  rw [← hx1, ← hy1, ← hz1]
  clear hx1 hy1 hz1
  obtain ⟨wn, hwn⟩ : ∃ wn, wn = w2.alloc (.cells #[.int .i64 x, .int .i64 y, .int .i64 z] 24) := ⟨_, rfl⟩
  have HBn := Aside0.mk (show Below w.heap.size w wn by rw [hwn]; exact HB2.out.alloc HB2.out.size _)
  have HRn := Aside0.mk (show KB.R 5 wn w.heap.size (fun _ => True) (.slice Ao xs.length co) xs by rw [hwn]; exact Kd.R_alloc HR2.out _)
  have HGn := Aside0.mk (show wn.heap[w2.heap.size]? = some (.cells #[.int .i64 x, .int .i64 y, .int .i64 z] 24 (0, 0)) by rw [hwn]; exact heap_alloc_new w2 _)
  rw [← hwn]
  clear hwn HR2 HB2 HR HB1
  refine (new_calls x y z wn (by omega)).mono ?_
  rintro e w3 ⟨g, r, rfl, hb3, hg3, hr3, hne3, hcut3, hroll3⟩
  have hI : PieceI wn.heap.size g r x y z wn (.slice none 0 0) (.slice none 0 0) [] [] w3 :=
    ⟨⟨hcut3, ⟨_, hroll3, rollZ_at⟩, Kd.R_nil _ _ _ _ _, fun x hx => by simp at hx, hg3, hr3⟩, Kd.R_nil _ _ _ _ _, hb3, Nat.le_refl _⟩
  have HI := Aside0.mk hI
  clear hI hb3 hg3 hr3 hne3 hcut3 hroll3
  go_wp2_with fail
  have hmeas : ∀ at_ i : Nat, at_ ≤ xs.length → i + ((xs.length - at_) * 9 + (8 - i % 9)) ≤ 9 * xs.length + 8 → i ≤ 1400 := fun at_ i h1 h2 => by omega
  have HM := Aside0.mk hmeas
  clear hmeas
  go_loopw [11, 12, 13] (fun vg vat vi W => ∃ at_ i v, at_ ≤ xs.length ∧ vat = .int .i64 (at_ : Nat) ∧ vi = .int .i64 (i : Nat) ∧ i + ((xs.length - at_) * 9 + (8 - i % 9)) ≤ 9 * xs.length + 8 ∧ Aside0 (PieceI wn.heap.size g r x y z wn v vg (told x z (maskN y) [] (xs.take at_)).1 (told x z (maskN y) [] (xs.take at_)).2 W)) (fun _ vat vi _ => (xs.length - (intOf vat).toNat) * 9 + (8 - (intOf vi).toNat % 9))
  case atStart =>
    exact ⟨0, 0, _, Nat.zero_le _, rfl, rfl, by omega, by simpa [told] using HI⟩
  case round =>
    clear HI
    obtain ⟨at_, i, v, hat, rfl, rfl, hbd, hI⟩ := hrel
    have hi := HM.out at_ i hat hbd
    by_cases hlt : at_ < xs.length
    · go_upto_if 40 with fail
      go_cut [14] from 40 to 48 (fun s14 wc => ∃ N : Nat, s14 = .int .i64 N ∧ N ≤ 30 ∧ wr = wc)
      case first =>
        by_cases hz : 0 < ss.length
        · have hz1 : (0 : Int) < (ss.length : Int) := by omega
          have q1 : (0 : Int) ≤ (i : Int) % (ss.length : Int) := Int.emod_nonneg _ (by omega)
          have q2 : (i : Int) % (ss.length : Int) < (ss.length : Int) := Int.emod_lt_of_pos _ hz1
          have hS := Kd.C_below HS.out (HBn.out.trans (hI.out.below.mono HBn.out.size))
          obtain ⟨ad, rfl, hcell⟩ := Kd.at_int hS _ q1 q2
          have hin : rd ss ((i : Int) % (ss.length : Int)) ∈ ss := by
            unfold rd
            rw [List.getD_eq_getElem?_getD, List.getElem?_eq_getElem (by omega)]
            exact List.getElem_mem _
          have hI64 := HSI.out _ hin
          have e3 : ((i : Int) % (ss.length : Int)).toNat = i % ss.length := by rw [← Int.natCast_emod, Int.toNat_natCast]
          have hcell2 := hcell
          rw [e3] at hcell2
          clear hS hin e3
          go_wp2_with fail
          refine (around_calls _ 31 _ hI64.1 hI64.2 (by decide)).mono ?_
          rintro e w' ⟨rfl, rfl⟩
          have t1 := arnd_nonneg (rd ss ((i : Int) % (ss.length : Int))) (m := 31) (by decide)
          have t2 := arnd_lt (rd ss ((i : Int) % (ss.length : Int))) (m := 31) (by decide)
          go_wp2_with fail
          go_meet
          case rel => exact ⟨(arnd (rd ss ((i : Int) % (ss.length : Int))) 31).toNat, by go_num, by omega, rfl⟩
        · have hz1 : ¬ (0 : Int) < (ss.length : Int) := by omega
          go_wp2_with fail
          go_meet
          case rel => exact ⟨7, rfl, by omega, rfl⟩
      case rest =>
        obtain ⟨N, rfl, hN, rfl⟩ := hcut
        go_upto_if 51 with fail
        go_cut [14] from 50 to 53 (fun s14 wc => ∃ N : Nat, s14 = .int .i64 N ∧ N ≤ 30 ∧ (i % 9 = 8 → 1 ≤ N) ∧ wr = wc)
        case first =>
          by_cases h8 : i % 9 = 8
          · have e8 : ((i : Int) % 9 == 8) = true := by rw [beq_iff_eq]; omega
            by_cases hN1 : (N : Int) < 1
            · go_wp2_with fail
              go_meet
              case rel => exact ⟨1, by go_num, by omega, fun _ => by omega, rfl⟩
            · go_wp2_with fail
              go_meet
              case rel => exact ⟨N, by go_num, by omega, fun _ => by omega, rfl⟩
          · have e8 : ((i : Int) % 9 == 8) = false := by rw [beq_eq_false_iff_ne]; omega
            go_wp2_with fail
            go_meet
            case rel => exact ⟨N, by go_num, by omega, fun h => absurd h h8, rfl⟩
        case rest =>
          clear hN
          obtain ⟨N, rfl, hN, h8, rfl⟩ := hcut
          obtain ⟨J, hJ⟩ : ∃ J : Nat, J = min (at_ + N) xs.length := ⟨_, rfl⟩
          have hmin : (if (xs.length : Int) < (at_ : Int) + (N : Int) then (xs.length : Int) else (at_ : Int) + (N : Int)) = (J : Int) := by split <;> omega
          have hJ1 : at_ ≤ J := by omega
          have hJ2 : J ≤ xs.length := by omega
          have hJ3 : J = at_ → N = 0 := by omega
          have hN8 : i % 9 = 8 → at_ < J := by omega
          have HJ := Aside0.mk hJ
          have H8 := Aside0.mk hN8
          clear hJ h8 hJ3 hN8
          have rn := Kd.R_reads' HRn.out
          have hCn : KB.C wr Ao xs.length xs := Kd.C_below rn.2.2 hI.out.below
          have hpc := Kd.C_mid (c := co) hCn hJ1 hJ2 rn.2.1
          obtain ⟨i0, hi0, _, hsz, _⟩ := info_parts infoB
          have hcm := cut_mid (P := Try.prog) 22 5 .i64 .i64 Try.underlying22 hi0 1 hsz Ao xs.length co (at_ : Int) (J : Int) (by omega) (by omega) (by omega) rn.2.1
          rw [Int.toNat_natCast, Int.toNat_natCast] at hcm
          have hAP : ∀ ad, (if co = at_ then Ao else Ao.map (·.add (at_ * 1))) = some ad → ad.block < wn.heap.size := by
            intro ad e
            have ho := own_lt HRn.out
            split at e
            · exact ho ad e
            · obtain ⟨a0, ha0, rfl⟩ := Option.map_eq_some_iff.1 e
              rw [add_block]
              exact ho a0 ha0
          replace hpc : KB.C wr (if co = at_ then Ao else Ao.map (·.add (at_ * 1))) ((xs.take J).drop at_).length ((xs.take J).drop at_) := hpc
          obtain ⟨AP, hAPe⟩ : ∃ AP, AP = (if co = at_ then Ao else Ao.map (·.add (at_ * 1))) := ⟨_, rfl⟩
          rw [← hAPe] at hcm hAP hpc
          obtain ⟨cp, hcp⟩ : ∃ cp, cp = co - at_ := ⟨_, rfl⟩
          rw [← hcp] at hcm
          obtain ⟨ps, hps⟩ : ∃ ps, ps = (xs.take J).drop at_ := ⟨_, rfl⟩
          have hpl : ps.length = J - at_ := by rw [hps, List.length_drop, List.length_take]; omega
          have hpb : Bytes ps := by rw [hps]; exact fun y hy => HBX.out y (List.mem_of_mem_take (List.mem_of_mem_drop hy))
          have hpcap : ps.length ≤ cp := by have := rn.2.1; omega
          have hnx := told_next x z (maskN y) xs at_ J hJ1
          have hol := told_outs x z (maskN y) [] (xs.take at_)
          have hol2 : ∀ B, (told x z (maskN y) B ps).1.length ≤ ps.length := fun B => told_outs x z (maskN y) B ps
          have htl := told_len x z (maskN y) [] (xs.take at_) (by simp; omega)
          rw [← hps] at hpc hnx
          rw [← hpl] at hcm
          obtain ⟨O, hO⟩ : ∃ O, O = (told x z (maskN y) [] (xs.take at_)).1 := ⟨_, rfl⟩
          obtain ⟨B, hB⟩ : ∃ B, B = (told x z (maskN y) [] (xs.take at_)).2 := ⟨_, rfl⟩
          rw [← hO] at hol hI hnx
          rw [← hB] at hI htl hnx
          have hol1 : O.length ≤ 150 := by rw [List.length_take] at hol; omega
          have HPC := Aside0.mk hpc; have HAP := Aside0.mk hAP; have HPB := Aside0.mk hpb; have HNX := Aside0.mk hnx; have HTL := Aside0.mk htl; have HOL2 := Aside0.mk (hol2 B)
          have hps150 : ps.length ≤ 150 := by omega
          clear hpl hpc hAP hpb hnx hol hol2 htl hAPe hcp hps hO hB hCn rn hi0 hsz
          go_wp2_with fail
          refine (write_calls wn.heap.size g r x y z v B AP cp ps _ hI.out.cut (by omega) HTL.out HPC.out hpcap (by omega) HPB.out HAP.out hI.out.sized).mono ?_
          rintro e w5 ⟨o, v', rfl, hK, hC, hOs⟩
          have hap := hI.out.apart hK hOs
          have hokp := hI.out.okp (o := o) (v' := v') hK
          have hbk := hI.out.below_kept hK
          have hfr := PieceI.fresh hC
          obtain ⟨A5, c5, rfl, hc5, hrd⟩ := OwnRow.reads hOs.row.2
          have HAPT := Aside0.mk hap; have HOKP := Aside0.mk hokp; have HBK := Aside0.mk hbk; have HFR := Aside0.mk hfr; have HRD := Aside0.mk hrd; have HC := Aside0.mk hC
          have hsz5 : wn.heap.size ≤ w5.heap.size := hbk.size
          have hO150 := HOL2.out
          clear hap hokp hbk hfr hrd hC hK hOs hcm
          go_wp2_with (at_builtin; go_must ((refine Kd.R_append_rows KR (w0 := wn) wn.heap.size rfl (.tmp 60) (.tmp 66) 32 22 (.slice none 0 0) 24 rfl Try.underlying32 infoR rfl (by decide) (by omega) u11 O (told x z (maskN y) B ps).1 A5 (told x z (maskN y) B ps).1.length c5 (fun k => True ∧ some k ≠ v'.ownBlock) _ rfl rfl HAPT.out HRD.out (fun _ _ h => h) HOKP.out HFR.out HBK.out hsz5 (by omega) ?_); intro v1 w6 hR6 hB6 hg6 _; have hI6 : PieceI wn.heap.size g r x y z wn v' v1 (O ++ (told x z (maskN y) B ps).1) (told x z (maskN y) B ps).2 w6 := ⟨HC.out.over HAPT.out hg6, hR6, hB6, Nat.le_refl _⟩; have HI6 := Aside0.mk hI6; clear hR6 hB6 hg6 hI6))
          go_roundw
          case rel =>
            refine ⟨J, i + 1, v', hJ2, rfl, by go_num, ?_, ?_⟩
            · have := H8.out; omega
            · rw [HNX.out]; exact HI6
          case measure => have := H8.out; simp [intOf]; omega
    · obtain rfl : at_ = xs.length := by omega
      rw [List.take_length] at hI
      have hch : chunksOf x z (maskN y) xs = (told x z (maskN y) [] xs).1 ++ if (told x z (maskN y) [] xs).2 = [] then [] else [(told x z (maskN y) [] xs).2] := rfl
      have hol := told_outs x z (maskN y) [] xs
      obtain ⟨O, hO⟩ : ∃ O, O = (told x z (maskN y) [] xs).1 := ⟨_, rfl⟩
      obtain ⟨B, hB⟩ : ∃ B, B = (told x z (maskN y) [] xs).2 := ⟨_, rfl⟩
      obtain ⟨cs, hcs⟩ : ∃ cs, cs = chunksOf x z (maskN y) xs := ⟨_, rfl⟩
      have hcb : ∀ u, u ∈ cs → Bytes u := by rw [hcs]; exact chunks_bytes _ _ _ _ HBX.out
      have hcl : cs.length ≤ 151 := by rw [hcs]; have := chunks_length x z (maskN y) xs; omega
      rw [← hO, ← hB, ← hcs] at hch
      rw [← hO, ← hB] at hI
      rw [← hO] at hol
      have hRB := hI.out.cut.row
      obtain ⟨Av, cv, rfl⟩ := Kd.R_slice hRB
      have HCH := Aside0.mk hch; have HCB := Aside0.mk hcb; have HCS := Aside0.mk hcs
      clear hO hB hcs hcb hch hRB
      go_wp2_with fail
      refine (end_calls wn.heap.size g r x y z _ B _ hI.out.cut).mono ?_
      rintro e w5 ⟨rfl, hK, hC, hRv⟩
      have hG := hI.out.got_end hK
      have hB5 := hI.out.below_kept (hK.mono (fun k _ e => e.elim .inl (fun e => .inr (.inl e))))
      have hsz5 : wn.heap.size ≤ w5.heap.size := hB5.size
      have HG := Aside0.mk hG; have HB5 := Aside0.mk hB5; have HC := Aside0.mk hC; have HRV := Aside0.mk hRv
      clear hG hB5 hC hRv hK
      go_upto_if 73 with fail
      go_cut [11] from 73 to 77 (fun s11 wc => ∃ Ag cg, s11 = .slice Ag cs.length cg ∧ Aside0 (KR.R 22 wc wn.heap.size (fun _ => True) (.slice Ag cs.length cg) cs) ∧ Aside0 (CutSt wc wn.heap.size g r x y z (.slice none 0 0) []) ∧ Aside0 (Below wn.heap.size wn wc))
      case first =>
        by_cases hB0 : B = []
        · subst hB0
          have hcsO : cs = O := by rw [HCH.out]; simp
          subst hcsO
          obtain ⟨Ag, cg, rfl⟩ := Kd.R_slice HG.out
          go_wp2_with fail
          go_meet
          case rel => exact ⟨Ag, cg, rfl, ⟨Kd.R_mono HG.out (fun _ _ => trivial)⟩, HC, HB5⟩
        · have hcsO : cs = O ++ [B] := by rw [HCH.out, if_neg hB0]
          have hB1 : 0 < B.length := List.length_pos_iff.2 hB0
          have hB2 : (0 : Int) < (B.length : Int) := by omega
          have HCO := Aside0.mk hcsO
          have HM1 := Aside0.mk (KB_ok (ok' := fun k => some k = (Value.slice Av B.length cv).ownBlock) HRV.out (fun k hk => hk.symm))
          have HOK := Aside0.mk (show ∀ k, some k = (Value.slice Av B.length cv).ownBlock → True ∧ some k ≠ u11.ownBlock from fun k hk => ⟨trivial, fun e => (HG.out.1 k e.symm).2 hk⟩)
          clear hcsO hB0
          go_wp2_with (at_builtin; go_must ((refine Kd.R_append KR (w0 := wn) wn.heap.size rfl (.tmp 74) (.tmp 76) 32 22 (.slice none 0 0) 24 rfl Try.underlying32 infoR rfl (by decide) (by omega) u11 O B [.slice Av B.length cv] (fun _ => True) (fun k => some k = (Value.slice Av B.length cv).ownBlock) rfl rfl (Kd.M_row HM1.out) HOK.out (fun _ _ => trivial) (Kd.R_mono HG.out (fun _ _ => trivial)) HB5.out hsz5 (by omega) ?_); intro v1 w6 hR6 hB6 hg6 _; rw [← HCO.out] at hR6; have HR6 := Aside0.mk hR6; have HC6 := Aside0.mk (HC.out.over HG.out hg6); have HB6 := Aside0.mk hB6; obtain ⟨Ag, cg, hv1⟩ := Kd.R_slice hR6; subst hv1; clear hR6 hB6 hg6))
          go_meet
          case rel => exact ⟨Ag, cg, rfl, HR6, HC6, HB6⟩
      case rest =>
        obtain ⟨Ag, cg, rfl, HR7, HC7, HB7⟩ := hcut
        clear HG HB5 HC HRV hI HM HS HSI HCH
        have hG7 := blk_below HGn.out HB7.out
        have hg0 := (blk_cell hG7 0).trans rfl
        have hg1 := (blk_cell hG7 1).trans rfl
        have hg2 := (blk_cell hG7 2).trans rfl
        clear hG7
        have rn := Kd.R_reads' HRn.out
        go_wp2_with fail
        refine (chunks_calls x y z Ao co xs _ (by omega) (Kd.C_below rn.2.2 HB7.out) rn.2.1 (by omega) HBX.out).mono ?_
        rintro e w8 ⟨A2, c2, rfl, hc2, hC2, hb8⟩
        rw [← HCS.out] at hc2 hC2 ⊢
        have HR8 := Aside0.mk (Kd.R_below HR7.out hb8); have HC8 := Aside0.mk (HC7.out.far hb8); have HB8 := Aside0.mk (HB7.out.trans (hb8.mono HB7.out.size)); have HK2 := Aside0.mk hC2
        clear hg0 hg1 hg2 hb8 hC2 rn
        go_wp2_with fail
        refine (same_calls' Ag _ cg cs A2 _ c2 cs _ rfl rfl (Kd.R_reads' HR8.out).2.2 (Kd.R_reads' HR8.out).2.1 HK2.out hc2 HCB.out HCB.out (by omega)).mono ?_
        rintro e w9 ⟨rfl, nd, rfl⟩
        rw [decide_eq_true rfl]
        have hB9 : Below w8.heap.size w8 (w8.drewN nd) := pw_below_drewN (Below.refl _ _) nd
        have HC9 := Aside0.mk (HC8.out.far hB9); have HB9 := Aside0.mk (HB8.out.trans (hB9.mono HB8.out.size))
        clear hB9
        go_wp2_with fail
        refine (end_calls wn.heap.size g r x y z _ [] _ HC9.out).mono ?_
        rintro e w10 ⟨rfl, hK10, hC10, _⟩
        have HB10 := Aside0.mk (HB9.out.trans (hK10.below HB9.out.size (by rintro k hk (e | e) <;> (have := HC9.out.lo; omega))))
        clear hK10 hC10
        go_wp2_with fail
        refine (lives_calls w10).mono ?_
        rintro e w11 ⟨rfl, hb11⟩
        have hB11 := HB10.out.trans (hb11.mono HB10.out.size)
        have HF := Aside0.mk (HBn.out.trans (hB11.mono HBn.out.size))
        clear hb11 hB11
        go_wp2
        go_ret
        exact ⟨rfl, HF.out⟩
end Go.Proofs.Ytimlkknfmbfomaa
