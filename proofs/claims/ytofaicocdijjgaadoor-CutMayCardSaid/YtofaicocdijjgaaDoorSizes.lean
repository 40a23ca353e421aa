import Derived.Test.YtofaicocdijjgaaDoorCollect
namespace Go.Proofs.YtofaicocdijjgaaDoor
open Go.RowKit Go.Proofs.YtofaicocdijjgaaDoorW.PrintWords

attribute [local go_sem] Oper.semAt_some
def KI := Kd.int .i64
def lens (l : List (List Int)) : List Int := l.map fun x => (x.length : Int)
theorem infoI : (Tryd.prog.info? 3).map (fun i => (i.zero, i.size, i.bytes)) = some (some (.int .i64 0), 1, 8) := by kernel_rfl
theorem lens_snoc (l : List (List Int)) (x : List Int) : lens (l ++ [x]) = lens l ++ [(x.length : Int)] := by simp [lens]
theorem lens_len (l : List (List Int)) : (lens l).length = l.length := by simp [lens]

set_option maxRecDepth 100000 in
set_option maxHeartbeats 1600000 in
theorem sizes_calls (a b c : Int) (A : Option Addr) (cap : Nat) (xs : List Int) (w : World) (hp : 1 ≤ a ∧ a ≤ b ∧ b ≤ c ∧ c ≤ 4096)
    (hl : KB.C w A xs.length xs) (hcap : xs.length ≤ cap) (hL : xs.length ≤ 1099511627776) (hB : Bytes xs) (hA : ∀ ad, A = some ad → ad.block < w.heap.size) :
    Calls Tryd.prog 9 #[.slice A xs.length cap, .agg #[.int .i64 a, .int .i64 b, .int .i64 c]] w fun e w' =>
      ∃ o, e = .returned (.tuple #[o, .int .i64 0]) ∧ KI.R 3 w' w.heap.size (fun _ => True) o (lens (chunksOf a c (maskN b) xs)) ∧ Below w.heap.size w w' := by
  have HL := Aside0.mk hl; have HB := Aside0.mk hB; have HA := Aside0.mk hA; have HP := Aside0.mk hp
  clear hl hB hA hp
  have hM : mayB a b c = true := by have := HP.out; simp [mayB]; omega
  refine (callsIn_wide (n := 0)).1 (callsIn_of_wp_marks Tryd.func9 rfl trivial ?_ rfl)
  simp only [Tryd.ntmps9, List.size_toArray, List.length_cons, List.length_nil, Nat.reduceAdd, Nat.reduceSub, Array.replicate_succ, Array.replicate_zero, List.push_toArray, List.append_toArray, List.nil_append, List.cons_append]
  refine wpIn_wide.2 ?_
  go_wp2_with fail
  refine (may_calls a b c _).mono ?_
  rintro e w' ⟨rfl, rfl⟩
  rw [hM]
  go_wp2_with fail
  refine (all_calls a b c _ A xs.length cap rfl _).mono ?_
  rintro e w' ⟨rfl, rfl⟩
  go_wp2_with fail
  obtain ⟨W, hW⟩ : ∃ W, W = (((((w.alloc (.cells #[.int .i64 a, .int .i64 b, .int .i64 c] 23)).alloc (.cells #[.int .i64 a, .int .i64 b, .int .i64 c] 23)).alloc (.cells #[.slice none 0 0] 32)).alloc (.cells #[.slice A xs.length cap] 35)).alloc (.cells #[.int .i64 a, .int .i64 b, .int .i64 c] 23)) := ⟨_, rfl⟩
  have hz : W.heap.size = w.heap.size + 5 := by rw [hW]; simp
  have hbel : Below w.heap.size w W := by rw [hW]; exact (((((Below.refl _ _).alloc (Nat.le_refl _) _).alloc (by simp) _).alloc (by simp; omega) _).alloc (by simp; omega) _).alloc (by simp; omega) _
  have kk := alloc4 (w.alloc (.cells #[.int .i64 a, .int .i64 b, .int .i64 c] 23)) (.cells #[.int .i64 a, .int .i64 b, .int .i64 c] 23) (.cells #[.slice none 0 0] 32) (.cells #[.slice A xs.length cap] 35) (.cells #[.int .i64 a, .int .i64 b, .int .i64 c] 23)
  rw [← hW] at kk
  simp only [World.size_alloc] at kk
  have k0 : W.cell? ⟨w.heap.size + 1 + 1 + 1 + 1, 0, none⟩ = some (.int .i64 a) := by rw [blk_cell kk.2.2.2]; rfl
  have k1 : W.cell? ⟨w.heap.size + 1 + 1 + 1 + 1, 1, none⟩ = some (.int .i64 b) := by rw [blk_cell kk.2.2.2]; rfl
  have k2 : W.cell? ⟨w.heap.size + 1 + 1 + 1 + 1, 2, none⟩ = some (.int .i64 c) := by rw [blk_cell kk.2.2.2]; rfl
  have kb : W.cell? ⟨w.heap.size + 1 + 1 + 1, 0, none⟩ = some (.slice A xs.length cap) := by rw [blk_cell kk.2.2.1]; rfl
  have kB : W.heap[w.heap.size + 1 + 1]? = some (.cells #[.slice none 0 0] 32 (0, 0)) := kk.2.1
  rw [show (((((w.alloc (.cells #[.int .i64 a, .int .i64 b, .int .i64 c] 23)).alloc (.cells #[.int .i64 a, .int .i64 b, .int .i64 c] 23)).alloc (.cells #[.slice none 0 0] 32)).alloc (.cells #[.slice A xs.length cap] 35)).alloc (.cells #[.int .i64 a, .int .i64 b, .int .i64 c] 23)) = W from hW.symm]
  clear hW
  have hbnd : ∀ n1 : Nat, w.heap.size + 1 + 1 < w.heap.size + 5 := fun _ => by omega
  refine wp_range (gf := 29) (lb := #[.pointer (some ⟨w.heap.size + 1 + 1 + 1 + 1, 0, none⟩), .pointer (some ⟨w.heap.size + 1 + 1 + 1, 0, none⟩)]) rfl (enters_of Tryd.func29 (by kernel_rfl) rfl)
    (all1_iter a b c (w.heap.size + 1 + 1 + 1 + 1) (w.heap.size + 1 + 1 + 1) A cap xs W HP.out (Kd.C_below HL.out hbel) hcap hL HB.out (fun ad e => Nat.lt_of_lt_of_le (HA.out ad e) hbel.size) k0 k1 k2 kb) rfl
    (fun n1 pre V => Coll KI 3 32 w (w.heap.size + 1 + 1) n1 (lens pre) V) (fun _ _ _ _ => False)
    (fun n1 pre W1 W2 h hk => h.kept hbel.size hk (by decide) (by decide))
    (fun _ _ _ _ _ h _ => h)
    (fun W1 hb1 => ⟨⟨_, (hb1.block _ (by omega)).trans kB, Kd.R_nil _ _ _ _ _, fun k hk => by simp [Value.ownBlock] at hk⟩, hbel.trans (hb1.mono hbel.size), Nat.le_refl _⟩)
    (fun v => { tmps := #[.slice A xs.length cap, .agg #[.int .i64 a, .int .i64 b, .int .i64 c], undef, .pointer (some ⟨w.heap.size, 0, none⟩), .slice none 0 0, .int .i64 0, .pointer (some ⟨w.heap.size + 1 + 1, 0, none⟩), v,
      .agg #[.int .i64 a, .int .i64 b, .int .i64 c], .bool true, .bool false, .slice A xs.length cap, .agg #[.int .i64 a, .int .i64 b, .int .i64 c],
      .func (.func 29) #[] #[.pointer (some ⟨w.heap.size + 1 + 1 + 1 + 1, 0, none⟩), .pointer (some ⟨w.heap.size + 1 + 1 + 1, 0, none⟩)], v, undef, undef, undef, undef, undef, undef], defers := [] }) ?assign ?body ?done ?stop
  case assign =>
    intro l v V K hK
    gi_wp2
    exact hK
  case body =>
    rintro l n1 pre x v V hC hpre hR hn1
    obtain ⟨⟨o, hb, hr, ho⟩, hbl, hs⟩ := hC
    have kc : V.cell? ⟨w.heap.size + 1 + 1, 0, none⟩ = some o := by rw [blk_cell hb]; rfl
    have kf : V.frozen? ⟨w.heap.size + 1 + 1, 0, none⟩ = false := blk_frozen hb 0
    have hlen : pre.length < 1099511627776 * 2 := by
      have h1 := List.IsPrefix.length_le hpre
      have h2 := chunks_length a c (maskN b) xs
      simp at h1
      omega
    obtain ⟨Ao, co, rfl⟩ := Kd.R_slice hr
    obtain ⟨Av, cv, rfl⟩ := Kd.R_slice hR
    have HBx := Aside0.mk hb; have HR := Aside0.mk hr; have HO := Aside0.mk ho; have HBl := Aside0.mk hbl; have HX := Aside0.mk hR
    clear hb hr ho hbl hR
    gi_wp2_with (gi_at_builtin; go_must ((refine R_append_in KI (w0 := w) w.heap.size rfl (.tmp 15) (.tmp 18) 32 3 (.int .i64 0) 8 rfl Tryd.underlying32 infoI rfl (by decide) (by omega) (.slice Ao (lens pre).length co) (lens pre) (x.length : Int) [.int .i64 x.length] (fun _ => True) (fun _ => False) rfl rfl rfl (fun _ h => h.elim) (fun _ _ => trivial) HR.out HBl.out HBl.out.size (by rw [lens_len]; omega) ?_; intro o1 w1 hR1 hB1 hg1 hat1; have hfin := coll_step (y := (x.length : Int)) (n0 := W.heap.size) (T := 32) HBx.out HR.out HO.out hs (by omega) (by omega) (by decide) hR1 hB1 hg1 hat1; have hbx1 := blk_grown HBx.out hg1 (Kd.R_ne HR.out HBx.out (by decide)); have kc1 : w1.cell? ⟨w.heap.size + 1 + 1, 0, none⟩ = some (.slice Ao (lens pre).length co) := (blk_cell hbx1 0).trans rfl; have kf1 : w1.frozen? ⟨w.heap.size + 1 + 1, 0, none⟩ = false := blk_frozen hbx1 0; have HF := Aside0.mk hfin; obtain ⟨A1, c1, ho1⟩ := Kd.R_slice hR1; rw [List.length_append, List.length_singleton] at ho1; clear hfin hbx1 hR1 hB1 hg1 hat1; subst ho1)))
    refine ⟨HF.out.1, ?_⟩
    show Coll _ _ _ _ _ _ (lens (pre ++ [x])) _
    rw [lens_snoc]
    exact HF.out.2
  case done =>
    rintro D n1 V hD hC hK
    obtain ⟨⟨o, hb, hr, ho⟩, hbl, hs⟩ := hC
    have kc : V.cell? ⟨w.heap.size + 1 + 1, 0, none⟩ = some o := by rw [blk_cell hb]; rfl
    have HBx := Aside0.mk hb; have HR := Aside0.mk hr; have HBl := Aside0.mk hbl; have HK := Aside0.mk hK
    obtain ⟨Ao, co, rfl⟩ := Kd.R_slice hr
    clear hb hr ho hbl hK
    go_wp2
    refine ⟨by simp, .inl ⟨_, _, rfl, run_takeDeferred HK.out, ?_⟩⟩
    have hk0 := (Kept.putObj V D (.deferred none)).mono (S' := fun k => w.heap.size ≤ k ∧ (Turned V k ∨ NoCells V k)) (by rintro k _ rfl; exact ⟨by omega, .inr ⟨_, HK.out, rfl⟩⟩)
    exact ⟨_, results_tmp2 rfl _ _ _, _, rfl, kept_row HR.out hk0 (by decide), HBl.out.trans (hk0.below HBl.out.size (fun k hlt h => by have := h.1; omega))⟩
  case stop =>
    rintro D c n1 pre V hD _ h _
    exact h.elim
end Go.Proofs.YtofaicocdijjgaaDoor
