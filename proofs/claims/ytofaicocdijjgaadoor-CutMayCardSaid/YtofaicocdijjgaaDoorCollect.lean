import Derived.Test.YtofaicocdijjgaaDoorAll
namespace Go.Proofs.YtofaicocdijjgaaDoor
open Go.RowKit Go.Proofs.YtofaicocdijjgaaDoorW.PrintWords

attribute [local go_sem] Oper.semAt_some
theorem alloc4 (w : World) (o0 o1 o2 o3 : Obj) : ((((w.alloc o0).alloc o1).alloc o2).alloc o3).heap[w.heap.size]? = some o0 ∧ ((((w.alloc o0).alloc o1).alloc o2).alloc o3).heap[w.heap.size + 1]? = some o1 ∧
    ((((w.alloc o0).alloc o1).alloc o2).alloc o3).heap[w.heap.size + 1 + 1]? = some o2 ∧ ((((w.alloc o0).alloc o1).alloc o2).alloc o3).heap[w.heap.size + 1 + 1 + 1]? = some o3 := by
  have h0 := heap_alloc_new w o0
  have h1 := heap_alloc_new (w.alloc o0) o1
  have h2 := heap_alloc_new ((w.alloc o0).alloc o1) o2
  have h3 := heap_alloc_new (((w.alloc o0).alloc o1).alloc o2) o3
  simp only [World.size_alloc] at h1 h2 h3
  refine ⟨?_, ?_, ?_, h3⟩
  · rw [heap_alloc_old _ _ (by simp only [World.size_alloc]; omega), heap_alloc_old _ _ (by simp only [World.size_alloc]; omega), heap_alloc_old _ _ (by simp only [World.size_alloc]; omega)]; exact h0
  · rw [heap_alloc_old _ _ (by simp only [World.size_alloc]; omega), heap_alloc_old _ _ (by simp only [World.size_alloc]; omega)]; exact h1
  · rw [heap_alloc_old _ _ (by simp only [World.size_alloc]; omega)]; exact h2
theorem all_calls (a b c : Int) (v : Value) (A : Option Addr) (n cap : Nat) (hv : v = .slice A n cap) (w : World) :
    Calls Tryd.prog 22 #[v, .agg #[.int .i64 a, .int .i64 b, .int .i64 c]] w fun e w' =>
      e = .returned (.func (.func 29) #[] #[.pointer (some ⟨w.heap.size + 1, 0, none⟩), .pointer (some ⟨w.heap.size, 0, none⟩)]) ∧
      w' = (w.alloc (.cells #[v] 35)).alloc (.cells #[.int .i64 a, .int .i64 b, .int .i64 c] 23) := by
  subst hv
  have hmf : ∀ (fn : Fn) (first cap : Array Value) (w : World), (Instr.makeFunc fn first cap).run Tryd.prog w = .ok (.func fn first cap) w := fun _ _ _ _ => rfl
  go_enter Tryd.func22, Tryd.ntmps22
  go_wp2
  go_ret
  exact ⟨rfl, rfl⟩

/-- a block that an iterator does not turn: cells of another type -/
theorem not_turned {W : World} {k t : Nat} {cs : Array Value} {P : Prop} (h : W.heap[k]? = some (.cells cs t (0, 0))) (h1 : t ≠ 54) (h2 : t ≠ 85) : ¬ (P ∧ (Turned W k ∨ NoCells W k)) := by
  rintro ⟨_, ⟨cs', t', h', ht⟩ | ⟨o, h', ho⟩⟩
  · rw [h] at h'
    injection h' with h'
    injection h' with _ e
    subst e
    exact ht.elim h1 h2
  · rw [h] at h'
    injection h' with h'
    subst h'
    cases ho
theorem kept_row {α : Type} {d : Kd α} {e base n0 : Nat} {ok : Nat → Prop} {W W2 : World} {v : Value} {xs : List α} (h : d.R e W base ok v xs) (hk : Kept (fun k => n0 ≤ k ∧ (Turned W k ∨ NoCells W k)) W W2) (he : ∀ q, q ∈ e :: d.E → q ≠ 54 ∧ q ≠ 85) : d.R e W2 base ok v xs :=
  Kd.R_mono (hk.row (Kd.R_bound h) (fun k hb => by
    obtain ⟨_, _, _, q, hq, cells, hc⟩ := hb
    exact not_turned hc (he q hq).1 (he q hq).2)) (fun _ h => h.1)

/-- what a collecting loop keeps between two rounds: its box, its row -/
structure Coll {α : Type} (d : Kd α) (e T : Nat) (w : World) (B n1 : Nat) (ys : List α) (W : World) : Prop where
  box : ∃ o, W.heap[B]? = some (.cells #[o] T (0, 0)) ∧ d.R e W w.heap.size (fun _ => True) o ys ∧ ∀ k, o.ownBlock = some k → n1 ≤ k
  below : Below w.heap.size w W
  size : n1 ≤ W.heap.size
theorem Coll.kept {α : Type} {d : Kd α} {e T : Nat} {w : World} {B n0 n1 : Nat} {ys : List α} {W W2 : World} (h : Coll d e T w B n1 ys W) (hn : w.heap.size ≤ n0) (hk : Kept (fun k => n0 ≤ k ∧ (Turned W k ∨ NoCells W k)) W W2)
    (hT : T ≠ 54 ∧ T ≠ 85) (he : ∀ q, q ∈ e :: d.E → q ≠ 54 ∧ q ≠ 85) : Coll d e T w B n1 ys W2 := by
  obtain ⟨⟨o, hb, hr, ho⟩, hbel, hs⟩ := h
  exact ⟨⟨o, hk.blk hb (not_turned hb hT.1 hT.2), kept_row hr hk he, ho⟩, hbel.trans (hk.below hbel.size (fun k hlt h => by have := h.1; omega)), Nat.le_trans hs hk.size⟩

/-- one element more in the row of a collecting loop -/
theorem coll_step {α : Type} {d : Kd α} {e T : Nat} {w V w1 : World} {B n0 n1 : Nat} {ys : List α} {y : α} {o o1 : Value} (hb : V.heap[B]? = some (.cells #[o] T (0, 0))) (hr : d.R e V w.heap.size (fun _ => True) o ys) (ho : ∀ k, o.ownBlock = some k → n1 ≤ k)
    (hs : n1 ≤ V.heap.size) (hB : w.heap.size ≤ B) (hB0 : B < n0) (he : ∀ q, q ∈ e :: d.E → q ≠ T) (hR1 : d.R e w1 w.heap.size (fun _ => True) o1 (ys ++ [y])) (hB1 : Below w.heap.size w w1) (hg : V.grownBy w1 o.ownBlock)
    (hat : o1.ownBlock = o.ownBlock ∨ ∃ b, o1.ownBlock = some b ∧ V.heap.size ≤ b) :
    (V.heap.size ≤ (w1.setCell ⟨B, 0, none⟩ o1).heap.size ∧ ∀ k, n0 ≤ k → k < n1 → (w1.setCell ⟨B, 0, none⟩ o1).heap[k]? = V.heap[k]?) ∧ Coll d e T w B n1 (ys ++ [y]) (w1.setCell ⟨B, 0, none⟩ o1) := by
  have hb1 : w1.heap[B]? = some (.cells #[o] T (0, 0)) := blk_grown hb hg (Kd.R_ne hr hb (he e List.mem_cons_self))
  refine ⟨⟨by simpa [World.setCell] using hg.size, fun k h0 h1 => ?_⟩, ⟨⟨o1, by simpa using blk_set hb1 0 o1, Kd.R_set hR1 hb1 he 0 o1, fun k hk => ?_⟩, hB1.setCell (p := ⟨B, 0, none⟩) hB o1, ?_⟩⟩
  · rw [Below.heap_setCell w1 ⟨B, 0, none⟩ o1 k (by show k ≠ B; omega)]
    exact hg.block k (by omega) (fun e => by have := ho k e.symm; omega)
  · rcases hat with hat | ⟨b, hb2, hle⟩
    · exact ho k (hat ▸ hk)
    · rw [hb2] at hk; injection hk with hk; omega
  · have := hg.size
    simp [World.setCell]
    omega

theorem eql_nilFunc (fn : Fn) (first cap : Array Value) (w : World) : (binOp .eql 56 (.func fn first cap) .nilFunc).run Tryd.prog w = .ok (.bool false) w := by kernel_rfl

set_option maxRecDepth 100000 in
set_option maxHeartbeats 1600000 in
theorem collect_calls (a b c : Int) (A : Option Addr) (cap : Nat) (xs : List Int) (w : World) (hp : 1 ≤ a ∧ a ≤ b ∧ b ≤ c ∧ c ≤ 4096)
    (hl : KB.C w A xs.length xs) (hcap : xs.length ≤ cap) (hL : xs.length ≤ 1099511627776) (hB : Bytes xs) (hA : ∀ ad, A = some ad → ad.block < w.heap.size) :
    Calls Tryd.prog 14 #[.slice A xs.length cap, .agg #[.int .i64 a, .int .i64 b, .int .i64 c]] w fun e w' =>
      ∃ o, e = .returned o ∧ KR.R 35 w' w.heap.size (fun _ => True) o (chunksOf a c (maskN b) xs) ∧ Below w.heap.size w w' := by
  have HL := Aside0.mk hl; have HB := Aside0.mk hB; have HA := Aside0.mk hA; have HP := Aside0.mk hp
  clear hl hB hA hp
  refine (callsIn_wide (n := 0)).1 (callsIn_of_wp_marks Tryd.func14 rfl trivial ?_ rfl)
  simp only [Tryd.ntmps14, List.size_toArray, List.length_cons, List.length_nil, Nat.reduceAdd, Nat.reduceSub, Array.replicate_succ, Array.replicate_zero, List.push_toArray, List.append_toArray, List.nil_append, List.cons_append]
  refine wpIn_wide.2 ?_
  have heq := eql_nilFunc
  go_wp2_with fail
  refine (all_calls a b c _ A xs.length cap rfl _).mono ?_
  rintro e w' ⟨rfl, rfl⟩
  go_wp2_with fail
  obtain ⟨W, hW⟩ : ∃ W, W = ((((w.alloc (.cells #[.int .i64 a, .int .i64 b, .int .i64 c] 23)).alloc (.cells #[.slice none 0 0] 42)).alloc (.cells #[.slice A xs.length cap] 35)).alloc (.cells #[.int .i64 a, .int .i64 b, .int .i64 c] 23)) := ⟨_, rfl⟩
  have hz : W.heap.size = w.heap.size + 4 := by rw [hW]; simp
  have hbel : Below w.heap.size w W := by rw [hW]; exact ((((Below.refl _ _).alloc (Nat.le_refl _) _).alloc (by simp) _).alloc (by simp; omega) _).alloc (by simp; omega) _
  have kk := alloc4 w (.cells #[.int .i64 a, .int .i64 b, .int .i64 c] 23) (.cells #[.slice none 0 0] 42) (.cells #[.slice A xs.length cap] 35) (.cells #[.int .i64 a, .int .i64 b, .int .i64 c] 23)
  rw [← hW] at kk
  have k0 : W.cell? ⟨w.heap.size + 1 + 1 + 1, 0, none⟩ = some (.int .i64 a) := by rw [blk_cell kk.2.2.2]; rfl
  have k1 : W.cell? ⟨w.heap.size + 1 + 1 + 1, 1, none⟩ = some (.int .i64 b) := by rw [blk_cell kk.2.2.2]; rfl
  have k2 : W.cell? ⟨w.heap.size + 1 + 1 + 1, 2, none⟩ = some (.int .i64 c) := by rw [blk_cell kk.2.2.2]; rfl
  have kb : W.cell? ⟨w.heap.size + 1 + 1, 0, none⟩ = some (.slice A xs.length cap) := by rw [blk_cell kk.2.2.1]; rfl
  have kB : W.heap[w.heap.size + 1]? = some (.cells #[.slice none 0 0] 42 (0, 0)) := kk.2.1
  rw [show ((((w.alloc (.cells #[.int .i64 a, .int .i64 b, .int .i64 c] 23)).alloc (.cells #[.slice none 0 0] 42)).alloc (.cells #[.slice A xs.length cap] 35)).alloc (.cells #[.int .i64 a, .int .i64 b, .int .i64 c] 23)) = W from hW.symm]
  clear hW heq
  have hbnd : ∀ n1 : Nat, w.heap.size + 1 < w.heap.size + 4 := fun _ => by omega
  refine wp_range (gf := 29) (lb := #[.pointer (some ⟨w.heap.size + 1 + 1 + 1, 0, none⟩), .pointer (some ⟨w.heap.size + 1 + 1, 0, none⟩)]) rfl (enters_of Tryd.func29 (by kernel_rfl) rfl)
    (all1_iter a b c (w.heap.size + 1 + 1 + 1) (w.heap.size + 1 + 1) A cap xs W HP.out (Kd.C_below HL.out hbel) hcap hL HB.out (fun ad e => Nat.lt_of_lt_of_le (HA.out ad e) hbel.size) k0 k1 k2 kb) rfl
    (fun n1 pre V => Coll KR 35 42 w (w.heap.size + 1) n1 pre V) (fun _ _ _ _ => False)
    (fun n1 pre W1 W2 h hk => h.kept hbel.size hk (by decide) (by decide))
    (fun _ _ _ _ _ h _ => h)
    (fun W1 hb1 => ⟨⟨_, (hb1.block _ (by omega)).trans kB, Kd.R_nil _ _ _ _ _, fun k hk => by simp [Value.ownBlock] at hk⟩, hbel.trans (hb1.mono hbel.size), Nat.le_refl _⟩)
    (fun v => { tmps := #[.slice A xs.length cap, .agg #[.int .i64 a, .int .i64 b, .int .i64 c], undef, .pointer (some ⟨w.heap.size, 0, none⟩), .slice none 0 0, .pointer (some ⟨w.heap.size + 1, 0, none⟩),
      .func (.func 29) #[] #[.pointer (some ⟨w.heap.size + 1 + 1 + 1, 0, none⟩), .pointer (some ⟨w.heap.size + 1 + 1, 0, none⟩)], v, .slice A xs.length cap, .agg #[.int .i64 a, .int .i64 b, .int .i64 c],
      .func (.func 29) #[] #[.pointer (some ⟨w.heap.size + 1 + 1 + 1, 0, none⟩), .pointer (some ⟨w.heap.size + 1 + 1, 0, none⟩)], .func (.func 29) #[] #[.pointer (some ⟨w.heap.size + 1 + 1 + 1, 0, none⟩), .pointer (some ⟨w.heap.size + 1 + 1, 0, none⟩)], .bool false,
      .func (.func 29) #[] #[.pointer (some ⟨w.heap.size + 1 + 1 + 1, 0, none⟩), .pointer (some ⟨w.heap.size + 1 + 1, 0, none⟩)], v, undef, undef, undef, undef, undef], defers := [] }) ?assign ?body ?done ?stop
  case assign =>
    intro l v V K hK
    gi_wp2
    exact hK
  case body =>
    rintro l n1 pre x v V hC hpre hR hn1
    obtain ⟨⟨o, hb, hr, ho⟩, hbl, hs⟩ := hC
    have kc : V.cell? ⟨w.heap.size + 1, 0, none⟩ = some o := by rw [blk_cell hb]; rfl
    have kf : V.frozen? ⟨w.heap.size + 1, 0, none⟩ = false := blk_frozen hb 0
    have hlen : pre.length < 1099511627776 * 2 := by
      have h1 := List.IsPrefix.length_le hpre
      have h2 := chunks_length a c (maskN b) xs
      simp at h1
      omega
    obtain ⟨Ao, co, rfl⟩ := Kd.R_slice hr
    obtain ⟨Av, cv, rfl⟩ := Kd.R_slice hR
    have HBx := Aside0.mk hb; have HR := Aside0.mk hr; have HO := Aside0.mk ho; have HBl := Aside0.mk hbl; have HX := Aside0.mk hR
    clear hb hr ho hbl hR
    gi_wp2_with (gi_at_builtin; go_must ((refine R_append_in KR (w0 := w) w.heap.size rfl (.tmp 15) (.tmp 17) 42 35 (.slice none 0 0) 24 rfl Tryd.underlying42 infoR rfl (by decide) (by omega) (.slice Ao pre.length co) pre x [.slice Av x.length cv] (fun _ => True) (fun k => some k ≠ (Value.slice Ao pre.length co).ownBlock) rfl rfl (Kd.M_row (Kd.R_mono (Kd.R_lower (Kd.R_apartR HX.out HR.out (by decide)) (by omega)) (fun k hk => hk.2))) (fun k hk => ⟨trivial, hk⟩) (fun _ _ => trivial) HR.out HBl.out HBl.out.size (by omega) ?_; intro o1 w1 hR1 hB1 hg1 hat1; have hfin := coll_step (n0 := W.heap.size) (T := 42) HBx.out HR.out HO.out hs (by omega) (by omega) (by decide) hR1 hB1 hg1 hat1; have hbx1 := blk_grown HBx.out hg1 (Kd.R_ne HR.out HBx.out (by decide)); have kc1 : w1.cell? ⟨w.heap.size + 1, 0, none⟩ = some (.slice Ao pre.length co) := (blk_cell hbx1 0).trans rfl; have kf1 : w1.frozen? ⟨w.heap.size + 1, 0, none⟩ = false := blk_frozen hbx1 0; have HF := Aside0.mk hfin; obtain ⟨A1, c1, ho1⟩ := Kd.R_slice hR1; rw [List.length_append, List.length_singleton] at ho1; clear hfin hbx1 hR1 hB1 hg1 hat1; subst ho1)))
    exact HF.out
  case done =>
    rintro D n1 V hD hC hK
    obtain ⟨⟨o, hb, hr, ho⟩, hbl, hs⟩ := hC
    have kc : V.cell? ⟨w.heap.size + 1, 0, none⟩ = some o := by rw [blk_cell hb]; rfl
    have HBx := Aside0.mk hb; have HR := Aside0.mk hr; have HBl := Aside0.mk hbl; have HK := Aside0.mk hK
    obtain ⟨Ao, co, rfl⟩ := Kd.R_slice hr
    clear hb hr ho hbl hK
    go_wp2
    refine ⟨by simp, .inl ⟨_, _, rfl, run_takeDeferred HK.out, ?_⟩⟩
    have hk0 := (Kept.putObj V D (.deferred none)).mono (S' := fun k => w.heap.size ≤ k ∧ (Turned V k ∨ NoCells V k)) (by rintro k _ rfl; exact ⟨by omega, .inr ⟨_, HK.out, rfl⟩⟩)
    exact ⟨_, results_tmp rfl _ _ _, _, rfl, kept_row HR.out hk0 (by decide), HBl.out.trans (hk0.below HBl.out.size (fun k hlt h => by have := h.1; omega))⟩
  case stop =>
    rintro D c n1 pre V hD _ h _
    exact h.elim
end Go.Proofs.YtofaicocdijjgaaDoor
