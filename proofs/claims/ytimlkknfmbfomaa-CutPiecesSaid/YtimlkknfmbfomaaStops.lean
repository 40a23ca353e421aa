import Derived.Test.YtimlkknfmbfomaaSides
import Derived.Test.YtimlkknfmbfomaaFew
import Derived.Test.YtimlkknfmbfomaaGood
import Derived.Deep.RegionHeld3
namespace Go.Proofs.Ytimlkknfmbfomaa
open Go.RowKit Go.Proofs.YtimlkknfmbfomaaW.PrintWords Go.Proofs.Ytimlkknfmbfomaa.Pr Go.Proofs.YtimlkknfmbfomaaW.PrintLast Go.Proofs.YtimlkknfmbfomaaW.PrintMore

attribute [local go_sem] Oper.semAt_some max2_int min2_int max_two min_two
theorem own_lt {α : Type} {d : Kd α} {e base : Nat} {ok : Nat → Prop} {w : World} {A : Option Addr} {n c : Nat} {xs : List α} (h : d.R e w base ok (.slice A n c) xs) : ∀ ad, A = some ad → ad.block < w.heap.size := fun ad e => Kd.R_lt h ad.block (by rw [e]; rfl)

theorem take_row {w : World} {A : Option Addr} {cs : List (List Int)} {m : Nat} (h : KR.C w A cs.length cs) (hm : m ≤ cs.length) : KR.C w A (cs.take m).length (cs.take m) := Kd.C_take h hm
/-- `same`, lengths said apart -/
theorem same_calls' (A0 : Option Addr) (n0 c0 : Nat) (l : List (List Int)) (A1 : Option Addr) (n1 c1 : Nat) (m : List (List Int)) (w : World) (e0 : n0 = l.length) (e1 : n1 = m.length) (h0 : KR.C w A0 l.length l) (hc0 : l.length ≤ c0) (h1 : KR.C w A1 m.length m) (hc1 : m.length ≤ c1)
    (hl : ∀ x, x ∈ l → Bytes x) (hm : ∀ x, x ∈ m → Bytes x) (hL : l.length < 1099511627776) :
    Calls Try.prog 13 #[.slice A0 n0 c0, .slice A1 n1 c1] w fun e w' => e = .returned (.bool (decide (l = m))) ∧ Drawn0 w w' := by
  subst e0 e1
  exact same_calls A0 c0 l A1 c1 m w h0 hc0 h1 hc1 hl hm hL

/-- what CutStops' loop keeps -/
structure StopI (w : World) (g : Nat) (k : Nat) (x y z : Int) (Ao : Option Addr) (co : Nat) (xs : List Int) (n1 : Nat) (pre : List (List Int)) (V : World) : Prop where
  coll : Coll KR 22 32 w (g + 1 + 1) n1 pre V
  own : KB.R 5 V w.heap.size (fun _ => True) (.slice Ao xs.length co) xs
  kbox : V.heap[g + 1]? = some (.cells #[.int .i64 k] 3 (0, 0))
  gbox : V.heap[g]? = some (.cells #[.int .i64 x, .int .i64 y, .int .i64 z] 24 (0, 0))
theorem StopI.kept {w : World} {g k : Nat} {x y z : Int} {Ao : Option Addr} {co : Nat} {xs : List Int} {n0 n1 : Nat} {pre : List (List Int)} {V V2 : World} (h : StopI w g k x y z Ao co xs n1 pre V) (hn : w.heap.size ≤ n0) (hg : g + 1 < n0)
    (hk : Kept (fun i => n0 ≤ i ∧ (Turned V i ∨ NoCells V i)) V V2) : StopI w g k x y z Ao co xs n1 pre V2 :=
  ⟨h.coll.kept hn hk (by decide) (by decide), kept_row h.own hk (by decide), hk.blk h.kbox (fun e => by have := e.1; omega), hk.blk h.gbox (fun e => by have := e.1; omega)⟩

/-- how a round may be broken off -/
def StopX (w : World) (g : Nat) (k : Nat) (x y z : Int) (Ao : Option Addr) (co : Nat) (xs : List Int) (c : Code) (n1 : Nat) (P : List (List Int)) (V : World) : Prop :=
  c = .exit 0 ∧ ∃ pre u, P = pre ++ [u] ∧ pre.length = k ∧ StopI w g k x y z Ao co xs n1 pre V

set_option maxRecDepth 100000 in
set_option maxHeartbeats 1600000 in
theorem cutStops_calls (a b c n : Int) (A : Option Addr) (cap : Nat) (l : List Int) (w : World) (ha : I64 a) (hb : I64 b) (hc : I64 c) (hn : I64 n)
    (hl : KB.C w A l.length l) (hcap : l.length ≤ cap) (hB : Bytes l) :
    Calls Try.prog 6 #[.slice A l.length cap, .agg #[.int .i64 a, .int .i64 b, .int .i64 c], .int .i64 n] w fun e w' => e = .returned (.bool true) ∧ Below w.heap.size w w' := by
  have HL := Aside0.mk hl; have HB := Aside0.mk hB
  clear hl hB
  refine (callsIn_wide (n := 0)).1 (callsIn_of_wp_marks Try.func6 rfl trivial ?_ rfl)
  simp only [Try.ntmps6, List.size_toArray, List.length_cons, List.length_nil, Nat.reduceAdd, Nat.reduceSub, Array.replicate_succ, Array.replicate_zero, List.push_toArray, List.append_toArray, List.nil_append, List.cons_append]
  refine wpIn_wide.2 ?_
  have heq := eql_nilFunc
  go_wp2_with fail
  refine (few_calls A cap l 100 _ (Kd.C_alloc HL.out _) hcap (by decide)).mono ?_
  rintro e w1 ⟨v, rfl, hR, hb1⟩
  have hbel : Below w.heap.size w w1 := ((Below.refl _ _).alloc (Nat.le_refl _) _).trans (hb1.mono (by simp))
  have hx : (l.take 100).length ≤ 100 := by rw [List.length_take]; omega
  have hbx : Bytes (l.take 100) := fun x hx => HB.out x (List.mem_of_mem_take hx)
  obtain ⟨xs, hxs⟩ : ∃ xs, xs = l.take 100 := ⟨_, rfl⟩
  rw [← hxs] at hx hbx hR
  have HBX := Aside0.mk hbx
  clear hxs hbx
  obtain ⟨Ao, co, rfl⟩ := Kd.R_slice hR
  have k4 : w1.cell? ⟨w.heap.size, 0, none⟩ = some (.int .i64 a) := by rw [blk_cell (blk_below (heap_alloc_new w _) hb1)]; rfl
  have k5 : w1.cell? ⟨w.heap.size, 1, none⟩ = some (.int .i64 b) := by rw [blk_cell (blk_below (heap_alloc_new w _) hb1)]; rfl
  have k6 : w1.cell? ⟨w.heap.size, 2, none⟩ = some (.int .i64 c) := by rw [blk_cell (blk_below (heap_alloc_new w _) hb1)]; rfl
  have HR := Aside0.mk (Kd.R_lower hR (show w.heap.size ≤ _ by simp)); have HB1 := Aside0.mk hbel
  clear hR hb1 hbel
  go_wp2_with fail
  refine (good_calls a b c _ ha hb hc).mono ?_
  rintro e w2 ⟨rfl, hb2⟩
  clear k4 k5 k6
  have HR2 := Aside0.mk (Kd.R_below HR.out hb2); have HB2 := Aside0.mk (HB1.out.trans (hb2.mono HB1.out.size))
  clear hb2
  go_wp2_with fail
  refine (around_calls n 7 _ hn.1 hn.2 (by decide)).mono ?_
  rintro e w3 ⟨rfl, rfl⟩
  go_wp2_with fail
  have gb := g_bounds a b c
  have hk0 := arnd_nonneg n (m := 7) (by decide)
  have hk7 := arnd_lt n (m := 7) (by decide)
  obtain ⟨k, hk⟩ := Int.eq_ofNat_of_zero_le hk0
  rw [hk] at hk7 ⊢
  obtain ⟨x, hx1⟩ : ∃ x, x = gMin a := ⟨_, rfl⟩
  obtain ⟨y, hy1⟩ : ∃ y, y = gAvg a b := ⟨_, rfl⟩
  obtain ⟨z, hz1⟩ : ∃ z, z = gMax a b c := ⟨_, rfl⟩
  rw [← hx1, ← hy1, ← hz1] at gb
  rw [← hx1, ← hy1, ← hz1]
  clear hx1 hy1 hz1 hk0 hk
  refine (all_calls x y z _ Ao xs.length co rfl _).mono ?_
  rintro e w' ⟨rfl, rfl⟩
  go_wp2_with fail
  obtain ⟨W, hW⟩ : ∃ W, W = (((((w2.alloc (.cells #[.int .i64 x, .int .i64 y, .int .i64 z] 24)).alloc (.cells #[.int .i64 k] 3)).alloc (.cells #[.slice none 0 0] 32)).alloc (.cells #[.slice Ao xs.length co] 22)).alloc (.cells #[.int .i64 x, .int .i64 y, .int .i64 z] 24)) := ⟨_, rfl⟩
  have hz : W.heap.size = w2.heap.size + 5 := by rw [hW]; simp
  have hb5 : Below w2.heap.size w2 W := by rw [hW]; exact (((((Below.refl _ _).alloc (Nat.le_refl _) _).alloc (by simp) _).alloc (by simp; omega) _).alloc (by simp; omega) _).alloc (by simp; omega) _
  have hbel : Below w.heap.size w W := HB2.out.trans (hb5.mono HB2.out.size)
  have kk := alloc4 (w2.alloc (.cells #[.int .i64 x, .int .i64 y, .int .i64 z] 24)) (.cells #[.int .i64 k] 3) (.cells #[.slice none 0 0] 32) (.cells #[.slice Ao xs.length co] 22) (.cells #[.int .i64 x, .int .i64 y, .int .i64 z] 24)
  rw [← hW] at kk
  simp only [World.size_alloc] at kk
  have kG : W.heap[w2.heap.size]? = some (.cells #[.int .i64 x, .int .i64 y, .int .i64 z] 24 (0, 0)) := by
    rw [hW, heap_alloc_old _ _ (by simp only [World.size_alloc]; omega), heap_alloc_old _ _ (by simp only [World.size_alloc]; omega), heap_alloc_old _ _ (by simp only [World.size_alloc]; omega), heap_alloc_old _ _ (by simp only [World.size_alloc]; omega)]
    exact heap_alloc_new w2 _
  have k0 : W.cell? ⟨w2.heap.size + 1 + 1 + 1 + 1, 0, none⟩ = some (.int .i64 x) := by rw [blk_cell kk.2.2.2]; rfl
  have k1 : W.cell? ⟨w2.heap.size + 1 + 1 + 1 + 1, 1, none⟩ = some (.int .i64 y) := by rw [blk_cell kk.2.2.2]; rfl
  have k2 : W.cell? ⟨w2.heap.size + 1 + 1 + 1 + 1, 2, none⟩ = some (.int .i64 z) := by rw [blk_cell kk.2.2.2]; rfl
  have kb : W.cell? ⟨w2.heap.size + 1 + 1 + 1, 0, none⟩ = some (.slice Ao xs.length co) := by rw [blk_cell kk.2.2.1]; rfl
  have kB : W.heap[w2.heap.size + 1 + 1]? = some (.cells #[.slice none 0 0] 32 (0, 0)) := kk.2.1
  have kK : W.heap[w2.heap.size + 1]? = some (.cells #[.int .i64 k] 3 (0, 0)) := kk.1
  have HRW := Aside0.mk (Kd.R_below HR2.out hb5)
  have HBW := Aside0.mk hbel
  rw [show (((((w2.alloc (.cells #[.int .i64 x, .int .i64 y, .int .i64 z] 24)).alloc (.cells #[.int .i64 k] 3)).alloc (.cells #[.slice none 0 0] 32)).alloc (.cells #[.slice Ao xs.length co] 22)).alloc (.cells #[.int .i64 x, .int .i64 y, .int .i64 z] 24)) = W from hW.symm]
  clear hW heq HR HB1 HR2 hbel hb5
  have hw2 := HB2.out.size
  clear HB2
  rename_i K hK
  have tail : ∀ (D n1 : Nat) (V : World), w.heap.size ≤ D → StopI w w2.heap.size k x y z Ao co xs n1 ((chunksOf x z (maskN y) xs).take k) V → V.heap[D]? = some (.deferred (some [])) → K { tmps := #[.slice A l.length cap, .agg #[.int .i64 a, .int .i64 b, .int .i64 c], .int .i64 n, undef, .pointer (some ⟨w.heap.size, 0, none⟩), undef, .bool false, .slice Ao xs.length co, .pointer (some ⟨w2.heap.size, 0, none⟩), .pointer (some ⟨w2.heap.size + 1, 0, none⟩), .pointer (some ⟨w2.heap.size + 1 + 1, 0, none⟩),
      .func (.func 27) #[] #[.pointer (some ⟨w2.heap.size + 1 + 1 + 1 + 1, 0, none⟩), .pointer (some ⟨w2.heap.size + 1 + 1 + 1, 0, none⟩)], undef, undef, .slice A l.length cap, .slice Ao xs.length co, .agg #[.int .i64 a, .int .i64 b, .int .i64 c], .agg #[.int .i64 x, .int .i64 y, .int .i64 z], .int .i64 n, .int .i64 k, .slice Ao xs.length co,
      .agg #[.int .i64 x, .int .i64 y, .int .i64 z], .func (.func 27) #[] #[.pointer (some ⟨w2.heap.size + 1 + 1 + 1 + 1, 0, none⟩), .pointer (some ⟨w2.heap.size + 1 + 1 + 1, 0, none⟩)], .func (.func 27) #[] #[.pointer (some ⟨w2.heap.size + 1 + 1 + 1 + 1, 0, none⟩), .pointer (some ⟨w2.heap.size + 1 + 1 + 1, 0, none⟩)], .bool false,
      .func (.func 27) #[] #[.pointer (some ⟨w2.heap.size + 1 + 1 + 1 + 1, 0, none⟩), .pointer (some ⟨w2.heap.size + 1 + 1 + 1, 0, none⟩)], undef, undef, undef, undef, undef, undef, undef, undef, undef, undef, undef, undef, undef, undef, undef, undef, undef, undef, undef, undef, undef, undef, undef], defers := [{ target := .collected D, args := #[] }] } V := by
    intro D n1 V hD hS hQ
    refine hK _ _ ?_
    clear hK
    obtain ⟨⟨⟨o, hb, hr, ho⟩, hbl, hs⟩, hown, hkb, hgb⟩ := hS
    obtain ⟨Ao', co', rfl⟩ := Kd.R_slice hr
    have hg0 : V.cell? ⟨w2.heap.size, 0, none⟩ = some (.int .i64 x) := by rw [blk_cell hgb]; rfl
    have hg1 : V.cell? ⟨w2.heap.size, 1, none⟩ = some (.int .i64 y) := by rw [blk_cell hgb]; rfl
    have hg2 : V.cell? ⟨w2.heap.size, 2, none⟩ = some (.int .i64 z) := by rw [blk_cell hgb]; rfl
    have HBx := Aside0.mk hb; have HR := Aside0.mk hr; have HBl := Aside0.mk hbl; have HOW := Aside0.mk hown; have HKB := Aside0.mk hkb; have HDQ := Aside0.mk hQ
    clear hb hr ho hbl hown hkb hgb hQ hs k0 k1 k2 kb kB kK kG kk hz
    go_wp2_with fail
    refine (chunks_calls x y z Ao co xs V (by omega) (Kd.R_reads' HOW.out).2.2 (Kd.R_reads' HOW.out).2.1 (by omega) HBX.out).mono ?_
    rintro e V2 ⟨A2, c2, rfl, hc2, hC2, hb2⟩
    clear hg0 hg1 hg2
    obtain ⟨cs, hcs⟩ : ∃ cs, cs = chunksOf x z (maskN y) xs := ⟨_, rfl⟩
    have hcb : ∀ u, u ∈ cs → Bytes u := by rw [hcs]; exact chunks_bytes _ _ _ _ HBX.out
    have hcl : cs.length ≤ 101 := by rw [hcs]; have := chunks_length x z (maskN y) xs; omega
    have hbx2 := blk_below HBx.out hb2
    have hkb2 := blk_below HKB.out hb2
    have hdq2 := blk_below HDQ.out hb2
    have hr2 := Kd.R_below HR.out hb2
    have hbl2 : Below w.heap.size w V2 := HBl.out.trans (hb2.mono HBl.out.size)
    rw [← hcs] at hc2 hC2 hr2 hbx2 ⊢
    obtain ⟨tk, htk0⟩ : ∃ tk, tk = cs.take k := ⟨_, rfl⟩
    have htb : ∀ u, u ∈ tk → Bytes u := fun u hu => hcb u (List.mem_of_mem_take (htk0 ▸ hu))
    have htl : tk.length ≤ 101 := by rw [htk0, List.length_take]; omega
    rw [← htk0] at hr2 hbx2
    have hg3 : V2.cell? ⟨w2.heap.size + 1 + 1, 0, none⟩ = some (.slice Ao' tk.length co') := by rw [blk_cell hbx2]; rfl
    have hg4 : V2.cell? ⟨w2.heap.size + 1, 0, none⟩ = some (.int .i64 k) := by rw [blk_cell hkb2]; rfl
    have HC2 := Aside0.mk hC2; have HR2 := Aside0.mk hr2; have HB2 := Aside0.mk hbl2; have HDQ2 := Aside0.mk hdq2; have HCB := Aside0.mk hcb; have HCC := Aside0.mk hc2; have HX2 := Aside0.mk hbx2
    have hbound : w2.heap.size + 1 + 1 < V2.heap.size := blk_lt hbx2
    clear hC2 hr2 hbl2 hdq2 hcb hb2 HBx HR HBl HDQ HKB hbx2 hkb2 hcs HRW HBW HOW HBX
    go_wp2_with fail
    obtain ⟨m, hm⟩ : ∃ m : Nat, m = min cs.length k := ⟨_, rfl⟩
    have hml : m ≤ cs.length := by omega
    have htk : tk = cs.take m := by
      rw [hm, htk0]
      by_cases h : k ≤ cs.length
      · rw [Nat.min_eq_right h]
      · rw [Nat.min_eq_left (by omega), List.take_length, List.take_of_length_le (by omega)]
    have hmin : (if (k : Int) < (cs.length : Int) then (k : Int) else (cs.length : Int)) = (m : Int) := by split <;> omega
    have hmin2 : (if k < cs.length then (k : Int) else (cs.length : Int)) = (m : Int) := by split <;> omega
    obtain ⟨i0, hi0, _, hsz, _⟩ := info_parts infoR
    have hcut := cut_to (P := Try.prog) 32 22 .i64 Try.underlying32 hi0 A2 cs.length c2 (m : Int) (by omega) (by omega) hc2
    rw [Int.toNat_natCast] at hcut
    have HM := Aside0.mk hm; have HTK := Aside0.mk htk; have HML := Aside0.mk hml
    clear hi0 hsz hm htk hml htk0
    have HTB := Aside0.mk htb
    clear htb
    go_region_held3 (fun w' => w'.cell? ⟨w2.heap.size + 1 + 1, 0, none⟩ = some (.slice Ao' tk.length co') ∧ w'.cell? ⟨w2.heap.size + 1, 0, none⟩ = some (.int .i64 k)) (first | go_keep | (go_split_ands; refine ⟨?_, ?_⟩ <;> (rw [hbv.cell (by simp; omega)]; first | assumption | (go_simp; done)))) (first | (go_at_call 13; refine (same_calls' Ao' _ co' tk A2 _ c2 (cs.take m) _ rfl (by rw [List.length_take]; have := HML.out; omega) ?h0 (Kd.R_reads' HR2.out).2.1 ?h1 (by rw [List.length_take]; have := HCC.out; omega) HTB.out (fun u hu => HCB.out u (List.mem_of_mem_take hu)) (by omega)).mono ?_; (case h0 => (with_reducible repeat (first | exact (Kd.R_reads' HR2.out).2.2 | apply Kd.C_drew | apply Kd.C_drewN))); (case h1 => (with_reducible repeat (first | exact take_row HC2.out HML.out | apply Kd.C_drew | apply Kd.C_drewN))); rintro e wd ⟨rfl, nd, rfl⟩; rw [decide_eq_true HTK.out]) | (go_at_call 15; refine (lives_calls _).mono ?_; rintro e wv ⟨rfl, hbv⟩))
    have hb3 : Below V2.heap.size V2 wv := (pw_below_drewN (Below.refl _ _) _).trans (hbv.mono (Nat.le_refl _))
    have hdq3 := blk_below HDQ2.out hb3
    have hbl3 : Below w.heap.size w wv := HB2.out.trans (hb3.mono HB2.out.size)
    have HDQ3 := Aside0.mk hdq3; have HBL3 := Aside0.mk hbl3
    clear hb3 hdq3 hbl3 hmin hmin2 hcut hbv
    go_wp2
    refine ⟨by simp, .inl ⟨_, _, rfl, run_takeDeferred HDQ3.out, ?_⟩⟩
    have hk0 := (Kept.putObj wv D (.deferred none)).mono (S' := fun k => w.heap.size ≤ k ∧ (Turned wv k ∨ NoCells wv k)) (by rintro k _ rfl; exact ⟨by omega, .inr ⟨_, HDQ3.out, rfl⟩⟩)
    exact ⟨_, results_tmp rfl _ _ _, rfl, HBL3.out.trans (hk0.below HBL3.out.size (fun k hlt h => by have := h.1; omega))⟩
  refine wp_range (gf := 27) (lb := #[.pointer (some ⟨w2.heap.size + 1 + 1 + 1 + 1, 0, none⟩), .pointer (some ⟨w2.heap.size + 1 + 1 + 1, 0, none⟩)]) rfl (enters_of Try.func27 (by kernel_rfl) rfl)
    (all1_iter x y z (w2.heap.size + 1 + 1 + 1 + 1) (w2.heap.size + 1 + 1 + 1) Ao co xs W (by omega) (Kd.R_reads' HRW.out).2.2 (Kd.R_reads' HRW.out).2.1 (by omega) HBX.out (own_lt HRW.out) k0 k1 k2 kb) rfl
    (fun n1 pre V => StopI w w2.heap.size k x y z Ao co xs n1 pre V ∧ pre.length ≤ k) (StopX w w2.heap.size k x y z Ao co xs)
    (fun n1 pre W1 W2 h hk => ⟨h.1.kept HBW.out.size (by omega) hk, h.2⟩)
    (fun c n1 P W1 W2 h hk => ⟨h.1, by obtain ⟨pre, u, e, hl, hs⟩ := h.2; exact ⟨pre, u, e, hl, hs.kept HBW.out.size (by omega) (hk.mono (fun i _ hi => ⟨hi.1, .inr hi.2⟩))⟩⟩)
    (fun W1 hb1 => ⟨⟨⟨⟨_, (hb1.block _ (by omega)).trans kB, Kd.R_nil _ _ _ _ _, fun k hk => by simp [Value.ownBlock] at hk⟩, HBW.out.trans (hb1.mono HBW.out.size), Nat.le_refl _⟩, Kd.R_below HRW.out hb1, (hb1.block _ (by omega)).trans kK, (hb1.block _ (by omega)).trans kG⟩, Nat.zero_le _⟩)
    (fun v => { tmps := #[.slice A l.length cap, .agg #[.int .i64 a, .int .i64 b, .int .i64 c], .int .i64 n, undef, .pointer (some ⟨w.heap.size, 0, none⟩), undef, .bool false, .slice Ao xs.length co, .pointer (some ⟨w2.heap.size, 0, none⟩), .pointer (some ⟨w2.heap.size + 1, 0, none⟩), .pointer (some ⟨w2.heap.size + 1 + 1, 0, none⟩),
      .func (.func 27) #[] #[.pointer (some ⟨w2.heap.size + 1 + 1 + 1 + 1, 0, none⟩), .pointer (some ⟨w2.heap.size + 1 + 1 + 1, 0, none⟩)], v, undef, .slice A l.length cap, .slice Ao xs.length co, .agg #[.int .i64 a, .int .i64 b, .int .i64 c], .agg #[.int .i64 x, .int .i64 y, .int .i64 z], .int .i64 n, .int .i64 k, .slice Ao xs.length co,
      .agg #[.int .i64 x, .int .i64 y, .int .i64 z], .func (.func 27) #[] #[.pointer (some ⟨w2.heap.size + 1 + 1 + 1 + 1, 0, none⟩), .pointer (some ⟨w2.heap.size + 1 + 1 + 1, 0, none⟩)], .func (.func 27) #[] #[.pointer (some ⟨w2.heap.size + 1 + 1 + 1 + 1, 0, none⟩), .pointer (some ⟨w2.heap.size + 1 + 1 + 1, 0, none⟩)], .bool false,
      .func (.func 27) #[] #[.pointer (some ⟨w2.heap.size + 1 + 1 + 1 + 1, 0, none⟩), .pointer (some ⟨w2.heap.size + 1 + 1 + 1, 0, none⟩)], v, undef, undef, undef, undef, undef, undef, undef, undef, undef, undef, undef, undef, undef, undef, undef, undef, undef, undef, undef, undef, undef, undef], defers := [] }) ?assign ?body ?done ?stop
  case assign =>
    intro l v V K hK
    gi_wp2
    exact hK
  case body =>
    rintro l n1 pre u v V ⟨hS, hle⟩ hpre hR hn1
    have HZ := Aside0.mk hz
    clear hz
    obtain ⟨⟨⟨o, hb, hr, ho⟩, hbl, hs⟩, hown, hkb, hgb⟩ := hS
    have kc : V.cell? ⟨w2.heap.size + 1 + 1, 0, none⟩ = some o := by rw [blk_cell hb]; rfl
    have kk1 : V.cell? ⟨w2.heap.size + 1, 0, none⟩ = some (.int .i64 k) := by rw [blk_cell hkb]; rfl
    have kf : V.frozen? ⟨w2.heap.size + 1 + 1, 0, none⟩ = false := blk_frozen hb 0
    obtain ⟨Ao', co', rfl⟩ := Kd.R_slice hr
    obtain ⟨Av, cv, rfl⟩ := Kd.R_slice hR
    by_cases heq : pre.length = k
    · have e1 : ((pre.length : Int) == (k : Int)) = true := by rw [beq_iff_eq]; omega
      have hfin : StopI w w2.heap.size k x y z Ao co xs n1 pre V := ⟨⟨⟨_, hb, hr, ho⟩, hbl, hs⟩, hown, hkb, hgb⟩
      have HF := Aside0.mk hfin
      have HE := Aside0.mk heq
      clear hb hr ho hbl hR hfin hown hkb hgb heq hpre
      gi_wp2
      exact ⟨⟨Nat.le_refl _, fun _ _ _ => rfl⟩, rfl, pre, u, rfl, HE.out, HF.out⟩
    · have e1 : ((pre.length : Int) == (k : Int)) = false := by rw [beq_eq_false_iff_ne]; omega
      have hne : some (w2.heap.size + 1) ≠ (Value.slice Ao' pre.length co').ownBlock := Kd.R_ne hr hkb (by decide)
      have hne2 : some w2.heap.size ≠ (Value.slice Ao' pre.length co').ownBlock := Kd.R_ne hr hgb (by decide)
      have HBx := Aside0.mk hb; have HR := Aside0.mk hr; have HO := Aside0.mk ho; have HBl := Aside0.mk hbl; have HX := Aside0.mk hR; have HOW := Aside0.mk hown; have HKB := Aside0.mk hkb; have HGB := Aside0.mk hgb; have HN1 := Aside0.mk hne; have HN2 := Aside0.mk hne2; have HQ := Aside0.mk heq
      clear hb hr ho hbl hR hown hkb hgb hne hne2 heq
      gi_wp2_with (gi_at_builtin; go_must ((refine R_append_in KR (w0 := w) w.heap.size rfl (.tmp 31) (.tmp 33) 32 22 (.slice none 0 0) 24 rfl Try.underlying32 infoR rfl (by decide) (by omega) (.slice Ao' pre.length co') pre u [.slice Av u.length cv] (fun _ => True) (fun k => some k ≠ (Value.slice Ao' pre.length co').ownBlock) rfl rfl (Kd.M_row (Kd.R_mono (Kd.R_lower (Kd.R_apartR HX.out HR.out (by decide)) HBW.out.size) (fun k hk => hk.2))) (fun k hk => ⟨trivial, hk⟩) (fun _ _ => trivial) HR.out HBl.out HBl.out.size (by omega) ?_; intro o1 w1' hR1 hB1 hg1 hat1; have hfin := coll_step (n0 := W.heap.size) (T := 32) HBx.out HR.out HO.out hs (by omega) (by rw [HZ.out]; omega) (by decide) hR1 hB1 hg1 hat1; have hbx1 := blk_grown HBx.out hg1 (Kd.R_ne HR.out HBx.out (by decide)); have how1 := Kd.R_set (Kd.R_over HOW.out HR.out (by decide) hg1) hbx1 (by decide) 0 o1; have hkb1 := (Below.heap_setCell w1' ⟨w2.heap.size + 1 + 1, 0, none⟩ o1 (w2.heap.size + 1) (by show w2.heap.size + 1 ≠ w2.heap.size + 1 + 1; omega)).trans (blk_grown HKB.out hg1 HN1.out); have hgb1 := (Below.heap_setCell w1' ⟨w2.heap.size + 1 + 1, 0, none⟩ o1 w2.heap.size (by show w2.heap.size ≠ w2.heap.size + 1 + 1; omega)).trans (blk_grown HGB.out hg1 HN2.out); have kc1 : w1'.cell? ⟨w2.heap.size + 1 + 1, 0, none⟩ = some (.slice Ao' pre.length co') := (blk_cell hbx1 0).trans rfl; have kf1 : w1'.frozen? ⟨w2.heap.size + 1 + 1, 0, none⟩ = false := blk_frozen hbx1 0; have HF := Aside0.mk hfin; have HO1 := Aside0.mk how1; have HK1 := Aside0.mk hkb1; have HG1 := Aside0.mk hgb1; obtain ⟨A1, c1, ho1⟩ := Kd.R_slice hR1; rw [List.length_append, List.length_singleton] at ho1; clear hfin hbx1 how1 hkb1 hgb1 hR1 hB1 hg1 hat1; subst ho1)))
      exact ⟨HF.out.1, ⟨HF.out.2, HO1.out, HK1.out, HG1.out⟩, by have := HQ.out; simp; omega⟩
  case done =>
    rintro D n1 V hD ⟨hS, hle⟩ hQ
    refine tail D n1 V (Nat.le_trans HBW.out.size hD) ?_ hQ
    rw [List.take_of_length_le hle]
    exact hS
  case stop =>
    rintro D c n1 P V hD hpre ⟨rfl, pre, u, rfl, hl, hS⟩ hQ
    go_wp2
    refine tail D n1 V (Nat.le_trans HBW.out.size hD) ?_ hQ
    have hp : pre = (chunksOf x z (maskN y) xs).take k := by
      obtain ⟨t, ht⟩ := hpre
      rw [← ht, List.append_assoc, ← hl, List.take_left]
    rw [← hp]
    exact hS
end Go.Proofs.Ytimlkknfmbfomaa
