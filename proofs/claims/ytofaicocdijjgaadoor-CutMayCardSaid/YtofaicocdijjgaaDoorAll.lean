import Derived.Test.YtofaicocdijjgaaDoorRange
namespace Go.Proofs.YtofaicocdijjgaaDoor
open Go.RowKit Go.Proofs.YtofaicocdijjgaaDoorW.PrintWords

theorem KR_at {W : World} {base n cap : Nat} {ok : Nat → Prop} {A : Option Addr} {outs : List (List Int)} (h : KR.R 35 W base ok (.slice A n cap) outs) {k : Nat} {x : List Int} (hx : outs[k]? = some x) :
    ∃ g v, A = some ⟨g, 0, none⟩ ∧ base ≤ g ∧ g < W.heap.size ∧ W.cell? ⟨g, k, none⟩ = some v ∧ KB.R 5 W base (fun j => ok j ∧ j ≠ g) v x := by
  have hk : k < outs.length := (List.getElem?_eq_some_iff.1 hx).1
  obtain ⟨hn, _, _⟩ := Kd.R_reads' h
  obtain ⟨inner, ho⟩ := Kd.R_own h
  obtain ⟨g, cap', hv, hb, hlt⟩ := ho.form (by omega)
  injection hv with hA _ _
  subst hA
  obtain ⟨c, hcl, hM, hcell, _⟩ := Kd.R_elem h [] (k : Int) (by omega) (by omega)
  obtain ⟨v, rfl, hR⟩ := hM
  refine ⟨g, v, rfl, hb, hlt, ?_, ?_⟩
  · simpa [KR, Kd.slice] using hcell 0 v rfl
  · rw [List.getD_eq_getElem?_getD, Int.toNat_natCast, hx] at hR
    exact hR
theorem KB_cells {w : World} {A : Option Addr} {l : List Int} (h : KB.C w A l.length l) (hp : 0 < l.length) : ∃ ad, A = some ad ∧ ∀ i, i < l.length → w.cell? (ad.add i) = some (.int .u8 (l.getD i 0)) := by
  obtain ⟨ad, e, _⟩ := h.2.2 hp
  subst e
  refine ⟨ad, rfl, fun i hi => ?_⟩
  obtain ⟨ad', e, hc⟩ := KB_at h (List.getElem?_eq_getElem hi)
  injection e with e
  subst e
  rw [hc, List.getD_eq_getElem?_getD, List.getElem?_eq_getElem hi]
  rfl
theorem take_pre {α : Type} (l r : List α) (k : Nat) (x : α) (h : l[k]? = some x) : l.take k ++ [x] <+: l ++ r := by
  have e : l.take k ++ [x] = l.take (k + 1) := by rw [List.take_add_one, h]; rfl
  rw [e]
  exact (List.take_prefix _ _).trans (List.prefix_append _ _)

theorem take_snoc' {α : Type} (l : List α) (k : Nat) (x : α) (h : l[k]? = some x) : l.take k ++ [x] = l.take (k + 1) := by rw [List.take_add_one, h]; rfl
/-- what lies in [lo, n1) is as it was: the cutter too -/
theorem CutSt.range {w w' : World} {base g r : Nat} {a b c : Int} {v : Value} {buf : List Int} (h : CutSt w base g r a b c v buf) {n1 : Nat} (hn : n1 = w.heap.size) (hs : ∀ j, base ≤ j → j < n1 → w'.heap[j]? = w.heap[j]?) : CutSt w' base g r a b c v buf := by
  obtain ⟨cs, hr, hra⟩ := h.roll
  exact ⟨(hs g h.lo.1 (by have := blk_lt h.cut; omega)).trans h.cut, ⟨cs, (hs r h.lo.2 (by have := blk_lt hr; omega)).trans hr, hra⟩,
    Kd.R_mono (Kd.R_step (Kd.R_bound h.row) (fun k hk hlt => hs k hk.2.1 (by omega))) (fun _ _ => trivial), h.bytes, h.lo⟩

set_option maxRecDepth 100000 in
set_option maxHeartbeats 1600000 in
theorem all1_iter (a b c : Int) (bp bb : Nat) (A : Option Addr) (cap : Nat) (xs : List Int) (W0 : World) (hp : 1 ≤ a ∧ a ≤ b ∧ b ≤ c ∧ c ≤ 4096)
    (hl : KB.C W0 A xs.length xs) (hcap : xs.length ≤ cap) (hL : xs.length ≤ 1099511627776) (hB : Bytes xs) (hA : ∀ ad, A = some ad → ad.block < W0.heap.size)
    (k0 : W0.cell? ⟨bp, 0, none⟩ = some (.int .i64 a)) (k1 : W0.cell? ⟨bp, 1, none⟩ = some (.int .i64 b)) (k2 : W0.cell? ⟨bp, 2, none⟩ = some (.int .i64 c)) (kb : W0.cell? ⟨bb, 0, none⟩ = some (.slice A xs.length cap)) :
    IterAt 29 #[.pointer (some ⟨bp, 0, none⟩), .pointer (some ⟨bb, 0, none⟩)] W0 (chunksOf a c (maskN b) xs) := by
  intro l J Jx W hW hS hAb hY
  have p0 := pw_cell_below hW k0
  have p1 := pw_cell_below hW k1
  have p2 := pw_cell_below hW k2
  have pb := pw_cell_below hW kb
  have hl' := Kd.C_below hl hW
  have HL := Aside0.mk hl'; have HB := Aside0.mk hB; have HA := Aside0.mk hA; have HP := Aside0.mk hp; have HS := Aside0.mk hS; have HAb := Aside0.mk hAb; have HY := Aside0.mk hY; have HW := Aside0.mk hW
  clear hl hl' hB hA hp hS hAb hY hW k0 k1 k2 kb
  refine callsIn_of_wp Tryd.func29 rfl trivial ?_ rfl
  simp only [Tryd.ntmps29, List.size_toArray, List.length_cons, List.length_nil, Nat.reduceAdd, Nat.reduceSub, Array.replicate_succ, Array.replicate_zero, List.push_toArray, List.append_toArray, List.nil_append, List.cons_append]
  gi_wp2_with fail
  refine ⟨trivial, rfl, (callsIn_wide.2 (new_calls a b c _ HP.out)).mono ?_⟩
  rintro e w1 ⟨g, r, rfl, hb1, hg, hr, hgr, hcut, hroll⟩
  have hC1 : CutSt w1 W.heap.size g r a b c (.slice none 0 0) [] := ⟨hcut, ⟨rollZ, hroll, rollZ_at⟩, Kd.R_nil _ _ _ _ _, fun x hx => by simp at hx, ⟨hg, hr⟩⟩
  have pb1 := pw_cell_below hb1 pb
  have HC1 := Aside0.mk hC1; have HL1 := Aside0.mk (Kd.C_below HL.out hb1); have HB1 := Aside0.mk hb1
  clear hb1 hcut hroll hC1 hg hr hgr p0 p1 p2 pb
  gi_wp2_with fail
  refine ⟨trivial, rfl, (callsIn_wide.2 (write_calls W.heap.size g r a b c _ [] A cap xs _ HC1.out HP.out (by simp; have := HP.out; omega) HL1.out hcap hL HB.out (fun ad e => Nat.lt_of_lt_of_le (HA.out ad e) HW.out.size) HB1.out.size)).mono ?_⟩
  rintro e w2 ⟨o, v2, rfl, hK2, hC2, hO2⟩
  have hbel2 : Below W.heap.size W w2 := HB1.out.trans (hK2.below HB1.out.size (by
    rintro k hk (e | e | e)
    · have := HC1.out.lo; omega
    · have := HC1.out.lo; omega
    · simp [Value.ownBlock] at e))
  have hJ0 := HS.out w2 hbel2
  have hch : chunksOf a c (maskN b) xs = (told a c (maskN b) [] xs).1 ++ if (told a c (maskN b) [] xs).2 = [] then [] else [(told a c (maskN b) [] xs).2] := rfl
  have hol := told_outs a c (maskN b) [] xs
  have htl := told_len a c (maskN b) [] xs (by simp; have := HP.out; omega)
  revert hK2 hC2 hO2 hch hol htl
  generalize (told a c (maskN b) [] xs) = st
  obtain ⟨O, B⟩ := st
  intro hK2 hC2 hO2 hch hol htl
  have hch : chunksOf a c (maskN b) xs = O ++ if B = [] then [] else [B] := hch
  have hol : O.length ≤ xs.length := hol
  have htl : (B.length : Int) < c := htl
  have hrow2 := hO2.row
  obtain ⟨Ao, co, rfl⟩ := Kd.R_slice hrow2
  have HC2 := Aside0.mk hC2; have HO2 := Aside0.mk hO2; have HBel2 := Aside0.mk hbel2; have HCh := Aside0.mk hch; have HTL := Aside0.mk htl; have HJ0 := Aside0.mk hJ0
  clear hK2 hC2 hO2 hch hbel2 hrow2 pb1 htl hJ0
  gi_wp2_with fail
  obtain ⟨n1, hn1⟩ : ∃ n1, n1 = w2.heap.size := ⟨_, rfl⟩
  have HN1 := Aside0.mk hn1
  clear hn1
  gi_loopw [20] (fun i wr => ∃ k, k ≤ O.length ∧ i = .int .i64 k ∧ J n1 (O.take k) wr ∧ (∀ j, W.heap.size ≤ j → j < n1 → wr.heap[j]? = w2.heap[j]?) ∧ n1 ≤ wr.heap.size) (fun i _ => O.length - (intOf i).toNat)
  case atStart =>
    exact ⟨0, Nat.zero_le _, rfl, by rw [HN1.out]; exact HJ0.out, fun _ _ _ => rfl, by rw [HN1.out]; exact Nat.le_refl _⟩
  case round =>
    obtain ⟨k, hk, rfl, hJ, hsame, hsz⟩ := hrel
    by_cases hlt : k < O.length
    · obtain ⟨x, hx⟩ : ∃ x, O[k]? = some x := ⟨_, List.getElem?_eq_getElem hlt⟩
      obtain ⟨go, v, rfl, hgo, hgl, hcell, hRx⟩ := KR_at HO2.out.row hx
      have hcell' : wr.cell? ⟨go, k, none⟩ = some v := by rw [← hcell]; exact World.cell?_of_block (hsame go hgo (by rw [HN1.out]; exact hgl))
      have hRx' : KB.R 5 wr W.heap.size (fun _ => True) v x := Kd.R_mono (Kd.R_step (Kd.R_bound hRx) (fun j hj hjl => hsame j hj.2.1 (by rw [HN1.out]; exact hjl))) (fun _ _ => trivial)
      obtain ⟨fn, tmps, assign, body, hy, hR⟩ := HY.out n1 (O.take k) x v wr hJ (by rw [HCh.out]; exact take_pre O _ k x hx) hRx' (by rw [HN1.out]; exact HBel2.out.size)
      have HR := Aside0.mk hR; have HSame := Aside0.mk hsame; have HX := Aside0.mk hx
      obtain ⟨Av, cv, rfl⟩ := Kd.R_slice hRx'
      clear hR hsame hJ hRx hRx' hcell hx
      gi_wp2_with fail
      refine ⟨rfl, HR.out.mono ?_⟩
      rintro e W' (⟨rfl, hJ', hsz', hk'⟩ | ⟨rfl, hJx⟩)
      · have HJ' := Aside0.mk hJ'; have HK' := Aside0.mk hk'; have HSZ' := Aside0.mk hsz'
        clear hJ' hk' hsz'
        gi_wp2
        go_roundw
        case rel => exact ⟨k + 1, by omega, by go_num, by rw [← take_snoc' O k x HX.out]; exact HJ'.out, fun j h1 h2 => (HK'.out j h1 h2).trans (HSame.out j h1 h2), Nat.le_trans hsz HSZ'.out⟩
        case measure => simp [intOf]; omega
      · have HJx := Aside0.mk hJx
        clear hJx
        gi_wp2
        refine bodyPost_ret (results_none rfl _ _ _) rfl ?_
        exact ⟨⟨_, rfl⟩, .inr ⟨n1, O.take k ++ [x], by rw [HCh.out]; exact take_pre O _ k x HX.out, HJx.out⟩⟩
    · obtain rfl : k = O.length := by omega
      rw [List.take_length] at hJ
      have hC3 := HC2.out.range HN1.out hsame
      have HJ := Aside0.mk hJ; have HC3 := Aside0.mk hC3; have HSame := Aside0.mk hsame
      clear hJ hC3 hsame
      gi_wp2_with fail
      refine ⟨trivial, rfl, (callsIn_wide.2 (end_calls W.heap.size g r a b c v2 B _ HC3.out)).mono ?_⟩
      rintro e w3 ⟨rfl, hK3, hC4, hR4⟩
      have hJ3 := HAb.out n1 O wr w3 HJ.out (hK3.mono (by
        rintro j _ (rfl | rfl)
        · exact ⟨HC3.out.lo.1, _, _, HC3.out.cut, .inl rfl⟩
        · obtain ⟨cs, hr, _⟩ := HC3.out.roll
          exact ⟨HC3.out.lo.2, _, _, hr, .inr rfl⟩))
      have HJ3 := Aside0.mk hJ3
      have hsz3 := hK3.size
      obtain ⟨Ab, cb, rfl⟩ := Kd.R_slice hR4
      obtain ⟨_, hbc, hBC⟩ := Kd.R_reads' hR4
      have HBC := Aside0.mk hBC; have HR4 := Aside0.mk hR4
      clear hK3 hC4 hR4 hBC hJ3
      by_cases hB0 : B = []
      · subst hB0
        gi_wp2
        go_end0
        exact ⟨⟨_, rfl⟩, .inl ⟨n1, by rw [show chunksOf a c (maskN b) xs = O by rw [HCh.out]; simp]; exact HJ3.out⟩⟩
      · have hpos : 0 < B.length := List.length_pos_iff.2 hB0
        have HB0 := Aside0.mk hB0
        clear hB0
        obtain ⟨ad, rfl, hcells⟩ := KB_cells HBC.out hpos
        have HCells := Aside0.mk hcells
        clear hcells
        gi_wp2_with fail
        refine ⟨trivial, rfl, (callsIn_wide.2 (Tryd.bytes_Clone_at ad B.length cb B _ rfl (by have := HTL.out; have := HP.out; omega) HCells.out)).mono ?_⟩
        rintro e w4 ⟨v4, rfl, ho4, hnil4, hb4⟩
        have hK34 := Kept.of_below hb4 (fun k => W.heap.size ≤ k ∧ Turned w3 k)
        have hJ4 := HAb.out n1 O w3 w4 HJ3.out hK34
        have hlow : W.heap.size ≤ w3.heap.size := by
          have h1 := HBel2.out.size
          have h2 := HN1.out
          omega
        have hR5 : KB.R 5 w4 W.heap.size (fun _ => True) v4 B := ⟨fun _ _ => trivial, _, own_weaken ho4 hlow, Kd.reps_scalar B⟩
        obtain ⟨fn, tmps, assign, body, hy, hR⟩ := HY.out n1 O B v4 w4 hJ4 (by rw [HCh.out, if_neg HB0.out]; exact List.prefix_refl _) hR5 (by rw [HN1.out]; exact HBel2.out.size)
        have HR := Aside0.mk hR
        obtain ⟨Av, cv, rfl⟩ := Kd.R_slice hR5
        clear hR hR5 hJ4 hK34 ho4 hnil4 hb4
        gi_wp2_with fail
        refine ⟨rfl, HR.out.mono ?_⟩
        rintro e W' (⟨rfl, hJ', _, _⟩ | ⟨rfl, hJx⟩)
        · have HJ' := Aside0.mk hJ'
          clear hJ'
          gi_wp2
          go_end0
          exact ⟨⟨_, rfl⟩, .inl ⟨n1, by rw [HCh.out, if_neg HB0.out]; exact HJ'.out⟩⟩
        · have HJx := Aside0.mk hJx
          clear hJx
          gi_wp2
          go_end0
          exact ⟨⟨_, rfl⟩, .inr ⟨n1, O ++ [B], by rw [HCh.out, if_neg HB0.out]; exact List.prefix_refl _, HJx.out⟩⟩
end Go.Proofs.YtofaicocdijjgaaDoor
