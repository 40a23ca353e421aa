import Derived.Test.YtofaicocdijjgaaDoorSides
namespace Go.Proofs.YtofaicocdijjgaaDoor
open Go.RowKit Go.Proofs.YtofaicocdijjgaaDoorW.PrintWords Go.Proofs.YtofaicocdijjgaaDoor.Pr

/-- the reference's word on parameters -/
theorem refmay_calls (a b c : Int) (w : World) :
    Calls Tryd.prog 7 #[.agg #[.int .i64 a, .int .i64 b, .int .i64 c]] w fun e w' => e = .returned (.bool (mayB a b c)) ∧ w' = w.alloc (.cells #[.int .i64 a, .int .i64 b, .int .i64 c] 23) := by
  have fin : ∀ v : Bool, v = mayB a b c → Ending.returned (.bool v) = .returned (.bool (mayB a b c)) := by rintro v rfl; rfl
  by_cases h1 : 0 < a
  · by_cases h2 : a ≤ b
    · by_cases h3 : b ≤ c
      · have e : decide (c < 4097) = mayB a b c := by
          unfold mayB
          exact decide_eq_decide.2 ⟨fun h => ⟨by omega, h2, h3, by omega⟩, fun h => by omega⟩
        have E := Aside0.mk e
        clear e
        go_enter Tryd.func7, Tryd.ntmps7
        go_wp2
        go_ret
        exact ⟨fin _ E.out, rfl⟩
      · have e : false = mayB a b c := (decide_eq_false (by omega)).symm
        have E := Aside0.mk e
        clear e
        go_enter Tryd.func7, Tryd.ntmps7
        go_wp2
        go_ret
        exact ⟨fin _ E.out, rfl⟩
    · have e : false = mayB a b c := (decide_eq_false (by omega)).symm
      have E := Aside0.mk e
      clear e
      go_enter Tryd.func7, Tryd.ntmps7
      go_wp2
      go_ret
      exact ⟨fin _ E.out, rfl⟩
  · have e : false = mayB a b c := (decide_eq_false (by omega)).symm
    have E := Aside0.mk e
    clear e
    go_enter Tryd.func7, Tryd.ntmps7
    go_wp2
    go_ret
    exact ⟨fin _ E.out, rfl⟩

/-! ### parameters that may not be -/
theorem new_not (a b c : Int) (w : World) (h : mayB a b c = false) :
    Calls Tryd.prog 8 #[.agg #[.int .i64 a, .int .i64 b, .int .i64 c]] w fun e w' => e = .returned (.tuple #[.pointer none, .int .i64 1]) ∧ Below w.heap.size w w' := by
  go_enter Tryd.func8, Tryd.ntmps8
  go_wp2_with fail
  refine (may_calls a b c _).mono ?_
  rw [h]
  rintro e w' ⟨rfl, rfl⟩
  go_wp2
  go_ret2
  exact ⟨rfl, ((Below.refl _ _).alloc (Nat.le_refl _) _).alloc (by simp) _⟩
theorem mask_not (a b c : Int) (w : World) (h : mayB a b c = false) :
    Calls Tryd.prog 13 #[.agg #[.int .i64 a, .int .i64 b, .int .i64 c]] w fun e w' => e = .returned (.int .u32 0) ∧ Below w.heap.size w w' := by
  go_enter Tryd.func13, Tryd.ntmps13
  go_wp2_with fail
  refine (may_calls a b c _).mono ?_
  rw [h]
  rintro e w' ⟨rfl, rfl⟩
  go_wp2
  go_ret
  exact ⟨rfl, ((Below.refl _ _).alloc (Nat.le_refl _) _).alloc (by simp) _⟩
set_option maxRecDepth 100000 in
theorem sizes_not (a b c : Int) (v : Value) (w : World) (h : mayB a b c = false) :
    Calls Tryd.prog 9 #[v, .agg #[.int .i64 a, .int .i64 b, .int .i64 c]] w fun e w' => e = .returned (.tuple #[.slice none 0 0, .int .i64 1]) ∧ Below w.heap.size w w' := by
  refine (callsIn_wide (n := 0)).1 (callsIn_of_wp_marks Tryd.func9 rfl trivial ?_ rfl)
  simp only [Tryd.ntmps9, List.size_toArray, List.length_cons, List.length_nil, Nat.reduceAdd, Nat.reduceSub, Array.replicate_succ, Array.replicate_zero, List.push_toArray, List.append_toArray, List.nil_append, List.cons_append]
  refine wpIn_wide.2 ?_
  go_wp2_with fail
  refine (may_calls a b c _).mono ?_
  rw [h]
  rintro e w' ⟨rfl, rfl⟩
  go_wp2
  exact ⟨_, results_tmp2 rfl _ _ _, rfl, ((Below.refl _ _).alloc (Nat.le_refl _) _).alloc (by simp) _⟩
set_option maxRecDepth 100000 in
theorem items_not (a b c : Int) (v : Value) (w : World) (h : mayB a b c = false) :
    Calls Tryd.prog 10 #[v, .agg #[.int .i64 a, .int .i64 b, .int .i64 c]] w fun e w' => e = .returned (.tuple #[.slice none 0 0, .int .i64 1]) ∧ Below w.heap.size w w' := by
  refine (callsIn_wide (n := 0)).1 (callsIn_of_wp_marks Tryd.func10 rfl trivial ?_ rfl)
  simp only [Tryd.ntmps10, List.size_toArray, List.length_cons, List.length_nil, Nat.reduceAdd, Nat.reduceSub, Array.replicate_succ, Array.replicate_zero, List.push_toArray, List.append_toArray, List.nil_append, List.cons_append]
  refine wpIn_wide.2 ?_
  go_wp2_with fail
  refine (may_calls a b c _).mono ?_
  rw [h]
  rintro e w' ⟨rfl, rfl⟩
  go_wp2
  exact ⟨_, results_tmp2 rfl _ _ _, rfl, ((Below.refl _ _).alloc (Nat.le_refl _) _).alloc (by simp) _⟩
attribute [local go_sem] Oper.semAt_some
set_option maxRecDepth 100000 in
/-- All's iterator, of parameters that may not be: nothing is told -/
theorem all1_not (a b c : Int) (bp bb : Nat) (W0 : World) (h : mayB a b c = false)
    (k0 : W0.cell? ⟨bp, 0, none⟩ = some (.int .i64 a)) (k1 : W0.cell? ⟨bp, 1, none⟩ = some (.int .i64 b)) (k2 : W0.cell? ⟨bp, 2, none⟩ = some (.int .i64 c)) :
    IterAt 29 #[.pointer (some ⟨bp, 0, none⟩), .pointer (some ⟨bb, 0, none⟩)] W0 [] := by
  intro l J Jx W hW hS hAb hY
  have p0 := pw_cell_below hW k0
  have p1 := pw_cell_below hW k1
  have p2 := pw_cell_below hW k2
  have HS := Aside0.mk hS
  clear hS hAb hY hW k0 k1 k2
  refine callsIn_of_wp Tryd.func29 rfl trivial ?_ rfl
  simp only [Tryd.ntmps29, List.size_toArray, List.length_cons, List.length_nil, Nat.reduceAdd, Nat.reduceSub, Array.replicate_succ, Array.replicate_zero, List.push_toArray, List.append_toArray, List.nil_append, List.cons_append]
  gi_wp2_with fail
  refine ⟨trivial, rfl, (callsIn_wide.2 (new_not a b c _ h)).mono ?_⟩
  rintro e w1 ⟨rfl, hb1⟩
  have HB1 := Aside0.mk hb1
  clear hb1 p0 p1 p2
  gi_wp2
  refine bodyPost_ret (results_none rfl _ _ _) rfl ?_
  exact ⟨⟨_, rfl⟩, .inl ⟨_, HS.out w1 HB1.out⟩⟩

/-- collecting, with parameters that may not be -/
theorem collect_not (a b c : Int) (A : Option Addr) (n cap : Nat) (w : World) (h : mayB a b c = false) :
    Calls Tryd.prog 14 #[.slice A n cap, .agg #[.int .i64 a, .int .i64 b, .int .i64 c]] w fun e w' => e = .returned (.slice none 0 0) ∧ Below w.heap.size w w' := by
  refine (callsIn_wide (n := 0)).1 (callsIn_of_wp_marks Tryd.func14 rfl trivial ?_ rfl)
  simp only [Tryd.ntmps14, List.size_toArray, List.length_cons, List.length_nil, Nat.reduceAdd, Nat.reduceSub, Array.replicate_succ, Array.replicate_zero, List.push_toArray, List.append_toArray, List.nil_append, List.cons_append]
  refine wpIn_wide.2 ?_
  have heq := eql_nilFunc
  go_wp2_with fail
  refine (all_calls a b c _ A n cap rfl _).mono ?_
  rintro e w' ⟨rfl, rfl⟩
  go_wp2_with fail
  obtain ⟨W, hW⟩ : ∃ W, W = ((((w.alloc (.cells #[.int .i64 a, .int .i64 b, .int .i64 c] 23)).alloc (.cells #[.slice none 0 0] 42)).alloc (.cells #[.slice A n cap] 35)).alloc (.cells #[.int .i64 a, .int .i64 b, .int .i64 c] 23)) := ⟨_, rfl⟩
  have hz : W.heap.size = w.heap.size + 4 := by rw [hW]; simp
  have hbel : Below w.heap.size w W := by rw [hW]; exact ((((Below.refl _ _).alloc (Nat.le_refl _) _).alloc (by simp) _).alloc (by simp; omega) _).alloc (by simp; omega) _
  have kk := alloc4 w (.cells #[.int .i64 a, .int .i64 b, .int .i64 c] 23) (.cells #[.slice none 0 0] 42) (.cells #[.slice A n cap] 35) (.cells #[.int .i64 a, .int .i64 b, .int .i64 c] 23)
  rw [← hW] at kk
  have k0 : W.cell? ⟨w.heap.size + 1 + 1 + 1, 0, none⟩ = some (.int .i64 a) := by rw [blk_cell kk.2.2.2]; rfl
  have k1 : W.cell? ⟨w.heap.size + 1 + 1 + 1, 1, none⟩ = some (.int .i64 b) := by rw [blk_cell kk.2.2.2]; rfl
  have k2 : W.cell? ⟨w.heap.size + 1 + 1 + 1, 2, none⟩ = some (.int .i64 c) := by rw [blk_cell kk.2.2.2]; rfl
  have kB : W.heap[w.heap.size + 1]? = some (.cells #[.slice none 0 0] 42 (0, 0)) := kk.2.1
  rw [show ((((w.alloc (.cells #[.int .i64 a, .int .i64 b, .int .i64 c] 23)).alloc (.cells #[.slice none 0 0] 42)).alloc (.cells #[.slice A n cap] 35)).alloc (.cells #[.int .i64 a, .int .i64 b, .int .i64 c] 23)) = W from hW.symm]
  clear hW heq
  refine wp_range (gf := 29) (lb := #[.pointer (some ⟨w.heap.size + 1 + 1 + 1, 0, none⟩), .pointer (some ⟨w.heap.size + 1 + 1, 0, none⟩)]) rfl (enters_of Tryd.func29 (by kernel_rfl) rfl)
    (all1_not a b c (w.heap.size + 1 + 1 + 1) (w.heap.size + 1 + 1) W h k0 k1 k2) rfl
    (fun n1 pre V => V.heap[w.heap.size + 1]? = some (.cells #[.slice none 0 0] 42 (0, 0)) ∧ Below w.heap.size w V) (fun _ _ _ _ => False)
    (fun n1 pre W1 W2 h hk => ⟨hk.blk h.1 (fun e => by have := e.1; omega), h.2.trans (hk.below h.2.size (fun k hlt e => by have := e.1; omega))⟩)
    (fun _ _ _ _ _ h _ => h)
    (fun W1 hb1 => ⟨(hb1.block _ (by omega)).trans kB, hbel.trans (hb1.mono hbel.size)⟩)
    (fun v => { tmps := #[.slice A n cap, .agg #[.int .i64 a, .int .i64 b, .int .i64 c], undef, .pointer (some ⟨w.heap.size, 0, none⟩), .slice none 0 0, .pointer (some ⟨w.heap.size + 1, 0, none⟩),
      .func (.func 29) #[] #[.pointer (some ⟨w.heap.size + 1 + 1 + 1, 0, none⟩), .pointer (some ⟨w.heap.size + 1 + 1, 0, none⟩)], v, .slice A n cap, .agg #[.int .i64 a, .int .i64 b, .int .i64 c],
      .func (.func 29) #[] #[.pointer (some ⟨w.heap.size + 1 + 1 + 1, 0, none⟩), .pointer (some ⟨w.heap.size + 1 + 1, 0, none⟩)], .func (.func 29) #[] #[.pointer (some ⟨w.heap.size + 1 + 1 + 1, 0, none⟩), .pointer (some ⟨w.heap.size + 1 + 1, 0, none⟩)], .bool false,
      .func (.func 29) #[] #[.pointer (some ⟨w.heap.size + 1 + 1 + 1, 0, none⟩), .pointer (some ⟨w.heap.size + 1 + 1, 0, none⟩)], v, undef, undef, undef, undef, undef], defers := [] }) ?assign ?body ?done ?stop
  case assign =>
    intro l v V K hK
    gi_wp2
    exact hK
  case body =>
    rintro l n1 pre x v V hC hpre hR hn1
    have := List.IsPrefix.length_le hpre
    simp at this
  case done =>
    rintro D n1 V hD ⟨hb, hbl⟩ hK
    have kc : V.cell? ⟨w.heap.size + 1, 0, none⟩ = some (.slice none 0 0) := by rw [blk_cell hb]; rfl
    have HBl := Aside0.mk hbl; have HK := Aside0.mk hK
    clear hb hbl hK
    go_wp2
    refine ⟨by simp, .inl ⟨_, _, rfl, run_takeDeferred HK.out, ?_⟩⟩
    have hk0 := (Kept.putObj V D (.deferred none)).mono (S' := fun k => w.heap.size ≤ k ∧ (Turned V k ∨ NoCells V k)) (by rintro k _ rfl; exact ⟨by omega, .inr ⟨_, HK.out, rfl⟩⟩)
    exact ⟨_, results_tmp rfl _ _ _, rfl, HBl.out.trans (hk0.below HBl.out.size (fun k hlt h => by have := h.1; omega))⟩
  case stop =>
    rintro D c n1 pre V hD _ h _
    exact h.elim
end Go.Proofs.YtofaicocdijjgaaDoor
