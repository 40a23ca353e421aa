import Derived.Test.YtofaicocdijjgaaDoorMayNot
namespace Go.Proofs.YtofaicocdijjgaaDoor
open Go.RowKit Go.Proofs.YtofaicocdijjgaaDoorW.PrintWords Go.Proofs.YtofaicocdijjgaaDoor.Pr

attribute [local go_sem] Oper.semAt_some
theorem alloc5 (w : World) (p o0 o1 o2 o3 : Obj) : (((((w.alloc p).alloc o0).alloc o1).alloc o2).alloc o3).heap[w.heap.size + 1]? = some o0 ∧ (((((w.alloc p).alloc o0).alloc o1).alloc o2).alloc o3).heap[w.heap.size + 1 + 1]? = some o1 ∧
    (((((w.alloc p).alloc o0).alloc o1).alloc o2).alloc o3).heap[w.heap.size + 1 + 1 + 1]? = some o2 ∧ (((((w.alloc p).alloc o0).alloc o1).alloc o2).alloc o3).heap[w.heap.size + 1 + 1 + 1 + 1]? = some o3 := by
  have kk := alloc4 (w.alloc p) o0 o1 o2 o3
  simp only [World.size_alloc] at kk
  exact kk
set_option maxRecDepth 100000 in
/-- the items of no bytes: none -/
theorem items_nil (a b c : Int) (w : World) (hp : 1 ≤ a ∧ a ≤ b ∧ b ≤ c ∧ c ≤ 4096) :
    Calls Tryd.prog 10 #[.slice none 0 0, .agg #[.int .i64 a, .int .i64 b, .int .i64 c]] w fun e w' => ∃ v, e = .returned (.tuple #[v, .int .i64 0]) ∧ Below w.heap.size w w' := by
  have hM : mayB a b c = true := by simp [mayB]; omega
  have HP := Aside0.mk hp
  clear hp
  refine (callsIn_wide (n := 0)).1 (callsIn_of_wp_marks Tryd.func10 rfl trivial ?_ rfl)
  simp only [Tryd.ntmps10, List.size_toArray, List.length_cons, List.length_nil, Nat.reduceAdd, Nat.reduceSub, Array.replicate_succ, Array.replicate_zero, List.push_toArray, List.append_toArray, List.nil_append, List.cons_append]
  refine wpIn_wide.2 ?_
  go_wp2_with fail
  refine (may_calls a b c _).mono ?_
  rw [hM]
  rintro e w' ⟨rfl, rfl⟩
  go_wp2_with fail
  refine (all_calls a b c _ none 0 0 rfl _).mono ?_
  rintro e w' ⟨rfl, rfl⟩
  go_wp2_with fail
  obtain ⟨W, hW⟩ : ∃ W, W = (((((w.alloc (.cells #[.int .i64 a, .int .i64 b, .int .i64 c] 23)).alloc (.cells #[.int .i64 a, .int .i64 b, .int .i64 c] 23)).alloc (.cells #[.slice none 0 0] 36)).alloc (.cells #[.slice none 0 0] 35)).alloc (.cells #[.int .i64 a, .int .i64 b, .int .i64 c] 23)) := ⟨_, rfl⟩
  have hz : W.heap.size = w.heap.size + 5 := by rw [hW]; simp
  have hbel : Below w.heap.size w W := by rw [hW]; exact (((((Below.refl _ _).alloc (Nat.le_refl _) _).alloc (by simp) _).alloc (by simp; omega) _).alloc (by simp; omega) _).alloc (by simp; omega) _
  have kk := alloc5 w (.cells #[.int .i64 a, .int .i64 b, .int .i64 c] 23) (.cells #[.int .i64 a, .int .i64 b, .int .i64 c] 23) (.cells #[.slice none 0 0] 36) (.cells #[.slice none 0 0] 35) (.cells #[.int .i64 a, .int .i64 b, .int .i64 c] 23)
  rw [← hW] at kk
  have k0 : W.cell? ⟨w.heap.size + 1 + 1 + 1 + 1, 0, none⟩ = some (.int .i64 a) := by rw [blk_cell kk.2.2.2]; rfl
  have k1 : W.cell? ⟨w.heap.size + 1 + 1 + 1 + 1, 1, none⟩ = some (.int .i64 b) := by rw [blk_cell kk.2.2.2]; rfl
  have k2 : W.cell? ⟨w.heap.size + 1 + 1 + 1 + 1, 2, none⟩ = some (.int .i64 c) := by rw [blk_cell kk.2.2.2]; rfl
  have kb : W.cell? ⟨w.heap.size + 1 + 1 + 1, 0, none⟩ = some (.slice none 0 0) := by rw [blk_cell kk.2.2.1]; rfl
  have kB : W.heap[w.heap.size + 1 + 1]? = some (.cells #[.slice none 0 0] 36 (0, 0)) := kk.2.1
  rw [show (((((w.alloc (.cells #[.int .i64 a, .int .i64 b, .int .i64 c] 23)).alloc (.cells #[.int .i64 a, .int .i64 b, .int .i64 c] 23)).alloc (.cells #[.slice none 0 0] 36)).alloc (.cells #[.slice none 0 0] 35)).alloc (.cells #[.int .i64 a, .int .i64 b, .int .i64 c] 23)) = W from hW.symm]
  clear hW
  refine wp_range (gf := 29) (lb := #[.pointer (some ⟨w.heap.size + 1 + 1 + 1 + 1, 0, none⟩), .pointer (some ⟨w.heap.size + 1 + 1 + 1, 0, none⟩)]) rfl (enters_of Tryd.func29 (by kernel_rfl) rfl)
    (all1_iter a b c (w.heap.size + 1 + 1 + 1 + 1) (w.heap.size + 1 + 1 + 1) none 0 [] W HP.out (Kd.C_nil _ _) (Nat.le_refl _) (by decide) (fun x hx => by simp at hx) (fun ad e => by cases e) k0 k1 k2 kb) rfl
    (fun n1 pre V => V.heap[w.heap.size + 1 + 1]? = some (.cells #[.slice none 0 0] 36 (0, 0)) ∧ Below w.heap.size w V) (fun _ _ _ _ => False)
    (fun n1 pre W1 W2 h hk => ⟨hk.blk h.1 (fun e => by have := e.1; omega), h.2.trans (hk.below h.2.size (fun k hlt e => by have := e.1; omega))⟩)
    (fun _ _ _ _ _ h _ => h)
    (fun W1 hb1 => ⟨(hb1.block _ (by omega)).trans kB, hbel.trans (hb1.mono hbel.size)⟩)
    (fun v => { tmps := #[.slice none 0 0, .agg #[.int .i64 a, .int .i64 b, .int .i64 c], undef, .pointer (some ⟨w.heap.size, 0, none⟩), .slice none 0 0, .int .i64 0, .pointer (some ⟨w.heap.size + 1 + 1, 0, none⟩), v, .agg #[.int .i64 a, .int .i64 b, .int .i64 c], .bool true, .bool false, .slice none 0 0, .agg #[.int .i64 a, .int .i64 b, .int .i64 c],
      .func (.func 29) #[] #[.pointer (some ⟨w.heap.size + 1 + 1 + 1 + 1, 0, none⟩), .pointer (some ⟨w.heap.size + 1 + 1 + 1, 0, none⟩)], v, undef, undef, undef, undef, undef, undef, undef, undef, undef], defers := [] }) ?assign ?body ?done ?stop
  case assign =>
    intro l v V K hK
    gi_wp2
    exact hK
  case body =>
    rintro l n1 pre x v V hC hpre hR hn1
    rw [chunks_nil] at hpre
    have := List.IsPrefix.length_le hpre
    simp at this
  case done =>
    rintro D n1 V hD ⟨hb, hbl⟩ hK
    have kc : V.cell? ⟨w.heap.size + 1 + 1, 0, none⟩ = some (.slice none 0 0) := by rw [blk_cell hb]; rfl
    have HBl := Aside0.mk hbl; have HK := Aside0.mk hK
    clear hb hbl hK
    go_wp2
    refine ⟨by simp, .inl ⟨_, _, rfl, run_takeDeferred HK.out, ?_⟩⟩
    have hk0 := (Kept.putObj V D (.deferred none)).mono (S' := fun k => w.heap.size ≤ k ∧ (Turned V k ∨ NoCells V k)) (by rintro k _ rfl; exact ⟨by omega, .inr ⟨_, HK.out, rfl⟩⟩)
    exact ⟨_, results_tmp2 rfl _ _ _, _, rfl, HBl.out.trans (hk0.below HBl.out.size (fun k hlt h => by have := h.1; omega))⟩
  case stop =>
    rintro D c n1 pre V hD _ h _
    exact h.elim
end Go.Proofs.YtofaicocdijjgaaDoor
