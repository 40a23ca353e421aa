import Derived.Test.YtofaicocdijjgaaDoorWrite
import Derived.RangeFuncNested
import Derived.RangeFuncBound
import Derived.RangeFuncCalls
import Derived.RangeFuncLeaves
import Derived.OwnWalkIn
import Derived.TacticsInMore
import Derived.LoopNIn
import Derived.LoopIn
import Derived.Maps.OwnIn
namespace Go.Proofs.YtofaicocdijjgaaDoor
open Go.RowKit Go.Proofs.YtofaicocdijjgaaDoorW.PrintWords

/-- the blocks that the iterator turns: a cutter's, a roll's -/
def Turned (W : World) (k : Nat) : Prop := ∃ cs t, W.heap[k]? = some (.cells cs t (0, 0)) ∧ (t = 54 ∨ t = 85)
/-- a block that is no cells -/
def NoCells (W : World) (k : Nat) : Prop := ∃ o, W.heap[k]? = some o ∧ o.isCells = false

/-- the iterator's word: it tells these chunks, one behind the other -/
def IterAt (gf : FuncId) (lb : Array Value) (W0 : World) (chunks : List (List Int)) : Prop :=
  ∀ (l : Nat) (J Jx : Nat → List (List Int) → World → Prop) (W : World), Below W0.heap.size W0 W →
    (∀ W1, Below W.heap.size W W1 → J W1.heap.size [] W1) →
    (∀ n1 pre W1 W2, J n1 pre W1 → Kept (fun k => W.heap.size ≤ k ∧ Turned W1 k) W1 W2 → J n1 pre W2) →
    (∀ n1 pre x v W1, J n1 pre W1 → pre ++ [x] <+: chunks → KB.R 5 W1 W.heap.size (fun _ => True) v x → W.heap.size ≤ n1 →
      YieldAt Fence.wide 0 Tryd.prog l #[v] W1 fun e W' =>
        (e = .returned (.bool true) ∧ J n1 (pre ++ [x]) W' ∧ W1.heap.size ≤ W'.heap.size ∧ ∀ k, W.heap.size ≤ k → k < n1 → W'.heap[k]? = W1.heap[k]?) ∨ (e = .returned (.bool false) ∧ Jx n1 (pre ++ [x]) W')) →
    CallsIn Fence.wide 0 Tryd.prog gf (#[.func (.yield l) #[] #[]] ++ lb) W fun e W' => (∃ v, e = .returned v) ∧ ((∃ n1, J n1 chunks W') ∨ (∃ n1 pre, pre <+: chunks ∧ Jx n1 pre W'))

/-- how the body of a round may be left -/
def bodyOut (n0 n1 : Nat) (I : Nat → List (List Int) → World → Prop) (Ix : Code → Nat → List (List Int) → World → Prop) (xs : List (List Int)) (W : World) : Exit → Act → World → Prop
  | .normal, _, W' => (W.heap.size ≤ W'.heap.size ∧ ∀ k, n0 ≤ k → k < n1 → W'.heap[k]? = W.heap[k]?) ∧ I n1 xs W'
  | .ret, _, W' => (W.heap.size ≤ W'.heap.size ∧ ∀ k, n0 ≤ k → k < n1 → W'.heap[k]? = W.heap[k]?) ∧ Ix .ret n1 xs W'
  | .exit id, _, W' => (W.heap.size ≤ W'.heap.size ∧ ∀ k, n0 ≤ k → k < n1 → W'.heap[k]? = W.heap[k]?) ∧ Ix (.exit id) n1 xs W'
  | .goto t, _, W' => (W.heap.size ≤ W'.heap.size ∧ ∀ k, n0 ≤ k → k < n1 → W'.heap[k]? = W.heap[k]?) ∧ Ix (.goto t) n1 xs W'
  | .panic _, _, _ => False
  | .outgrown, _, _ => False

section
variable {P : Program} {F : Fence} {nF : Nat} {ops : Array Oper} {rest : List Oper} {o : Oper} {a : Act} {Q : Exit → Act → World → Prop} {α : Type}
/-- append(v, x) within a fence -/
theorem R_append_in (d : Kd α) {w0 W : World} (base : Nat) (hgd : o.guard = none) (s x : Operand) (t e : TypeId) (z : Value) (bytes : Nat)
    (ho : o.op = .call { callee := .builtin .append, args := #[s, x], argTypes := #[t, t] })
    (ht : P.underlying t = some (.slice e)) (hinfo : (P.info? e).map (fun i => (i.zero, i.size, i.bytes)) = some (some z, d.sz, bytes)) (hz : z.cells.size = d.sz) (hs0 : 0 < d.sz) (hb0 : 0 < bytes)
    (v : Value) (xs : List α) (p : α) (cs : List Value) (ok okp : Nat → Prop) (hs : a.eval s = v) (hx : a.eval x = .slice (some ⟨W.heap.size, 0, none⟩) 1 1) (hp : d.M W base okp p cs) (hokp : ∀ k, okp k → ok k ∧ some k ≠ v.ownBlock) (hfresh : ∀ k, W.heap.size ≤ k → ok k)
    (HO : d.R e W base ok v xs) (HB : Below base w0 W) (hbase : base ≤ W.heap.size) (hl : (xs.length + 1) * bytes ≤ 140737488355328)
    (h : ∀ v1 w1, d.R e w1 base ok v1 (xs ++ [p]) → Below base w0 w1 → W.grownBy w1 v.ownBlock → (v1.ownBlock = v.ownBlock ∨ ∃ b, v1.ownBlock = some b ∧ W.heap.size ≤ b) → wpListIn F nF P ops Q rest (a.put o.dst v1) w1) :
    wpListIn F nF P ops Q (o :: rest) a (W.alloc (.cells cs.toArray e)) := by
  obtain ⟨i0, hi, hzz⟩ := Option.map_eq_some_iff.1 hinfo
  simp only [Prod.mk.injEq] at hzz
  obtain ⟨hz0, hz1, hz2⟩ := hzz
  obtain ⟨h0, inner, hown, hr⟩ := HO
  have hcl := d.K_len (d.K_of_M hp)
  have hlen : xs.length + 1 ≤ 140737488355328 := Nat.le_trans (Nat.le_mul_of_pos_right _ hb0) hl
  refine wpListIn_append_own_at (W.alloc (.cells cs.toArray e)) hgd s x t ho base e i0 z d.sz bytes ht hi hz0 hz1 hz2 hz hs0 v xs.length inner hs (hown.alloc _) ⟨W.heap.size, 0, none⟩ 1 1 cs hx (by rw [hcl]; simp)
    (by simpa using World.news_of_block (cs := cs.toArray) (t := e) (fr := (0, 0)) (heap_alloc_new W (.cells cs.toArray e))) (d.K_one (d.K_of_M hp)) (by simp only [maxLen]; omega) hl (by simp; omega) ?_
  intro v1 w1 hown1 hg1 _ hat
  have hat1 : v1.ownBlock = v.ownBlock ∨ ∃ b, v1.ownBlock = some b ∧ W.heap.size ≤ b := by
    rcases hat with hat | hat
    · exact .inl hat
    · exact .inr ⟨_, hat, by simp⟩
  have hg2 := World.grownBy.trans (World.grownBy_alloc W _ _) hg1
  exact h v1 w1 (Kd.R_appended h0 hr hp hokp hfresh hown1 hg2 hat1) ((HB.alloc hbase _).grown hg1 (by simp; omega) (own_base hown)) hg2 hat1
end

theorem Kept.putObj (w : World) (r : Nat) (o : Obj) : Kept (fun k => k = r) w (w.putObj r o) := ⟨rfl, rfl, rfl, by simp, fun _ _ h => World.putObj_heap_other h⟩

theorem wp_range {g : Operand} {ps : Array Tmp} {assign body : Code} {Q : Exit → Act → World → Prop} {a : Act} {w : World} {gf : Nat} {lb : Array Value} {chunks : List (List Int)}
    (hg : a.eval g = .func (.func gf) #[] lb) (eg : ∀ args w, (callFunc gf args).run Tryd.prog w = .ok (.enter gf args) w) (hit : IterAt gf lb w chunks) (hps : ps.size = 1)
    (I : Nat → List (List Int) → World → Prop) (Ix : Code → Nat → List (List Int) → World → Prop)
    (hI : ∀ n1 pre W1 W2, I n1 pre W1 → Kept (fun k => w.heap.size ≤ k ∧ (Turned W1 k ∨ NoCells W1 k)) W1 W2 → I n1 pre W2)
    (hIx : ∀ c n1 pre W1 W2, Ix c n1 pre W1 → Kept (fun k => w.heap.size ≤ k ∧ NoCells W1 k) W1 W2 → Ix c n1 pre W2)
    (h0 : ∀ W1, Below w.heap.size w W1 → I W1.heap.size [] W1) (a₁ : Value → Act)
    (hassign : ∀ (l : Nat) (v : Value) (W : World) (K : Act → World → Prop), K (a₁ v) W →
      assign.wpIn (Fence.wide.inRound l) 0 Tryd.prog (Exit.then K (fun _ _ _ => False)) { tmps := (ps.zip #[v]).foldl (fun t (p, v) => t.setIfInBounds p v) a.tmps, defers := [] } W)
    (hbody : ∀ (l n1 : Nat) (pre : List (List Int)) (x : List Int) (v : Value) (W : World), I n1 pre W → pre ++ [x] <+: chunks → KB.R 5 W w.heap.size (fun _ => True) v x → w.heap.size ≤ n1 →
      body.wpIn (Fence.wide.inRound l) 0 Tryd.prog (bodyOut w.heap.size n1 I Ix (pre ++ [x]) W) (a₁ v) W)
    (hdone : ∀ (D n1 : Nat) (W : World), w.heap.size ≤ D → I n1 chunks W → W.heap[D]? = some (.deferred (some [])) → Q .normal { a with defers := { target := .collected D, args := #[] } :: a.defers } W)
    (hstop : ∀ (D : Nat) (c : Code) (n1 : Nat) (pre : List (List Int)) (W : World), w.heap.size ≤ D → pre <+: chunks → Ix c n1 pre W → W.heap[D]? = some (.deferred (some [])) → c.wp Tryd.prog Q { a with defers := { target := .collected D, args := #[] } :: a.defers } W) :
    (Code.rangeFunc g ps assign body).wp Tryd.prog Q a w := by
  refine (wpIn_wide (n := 0)).1 ?_
  refine wpIn_rangeFunc ?_
  intro fn hfn
  obtain ⟨rec, hrec⟩ : ∃ rec : LoopState → Option Code → Loop, rec = fun st pe => { state := st, pending := pe, fn, tmps := a.tmps, params := ps, assign, body, defers := w.heap.size } := ⟨_, rfl⟩
  obtain ⟨W1, hW1⟩ : ∃ W1, (w.alloc (.deferred (some []))).alloc (.loop (rec .ready none)) = W1 := ⟨_, rfl⟩
  have hL1 : W1.heap[w.heap.size + 1]? = some (.loop (rec .ready none)) := by
    rw [← hW1]; have := World.alloc_heap_new (w.alloc (.deferred (some []))) (.loop (rec .ready none)); rwa [World.size_alloc] at this
  have hK1 : W1.heap[w.heap.size]? = some (.deferred (some [])) := by
    rw [← hW1]; exact (Below.heap_alloc _ _ _ (by simp)).trans (World.alloc_heap_new w _)
  have hb1 : Below w.heap.size w W1 := by
    rw [← hW1]; exact ((Below.refl _ w).alloc (Nat.le_refl _) _).alloc (by simp) _
  have hz1 : W1.heap.size = w.heap.size + 2 := by rw [← hW1]; simp
  refine ⟨w.heap.size + 1, [{ target := .collected w.heap.size, args := #[] }], W1, { target := .fn (.func gf) lb, args := #[.func (.yield (w.heap.size + 1)) #[] #[]] }, W1, gf,
    #[.func (.yield (w.heap.size + 1)) #[] #[]] ++ lb, W1, ?_, ?_, ?_, ?_, fun h => by simp [Fence.wide] at h, ?_⟩
  · rw [← hW1, hrec]; exact run_enterLoop_outer _ _ _ _ _
  · simp only [resolve, hg]
    simp [go_sem]
  · intro f' hf'; exact trivial
  · simp [invoke, go_sem, eg]
  · refine (hit (w.heap.size + 1)
      (fun n1 pre W => I n1 pre W ∧ (W.heap[w.heap.size + 1]? = some (.loop (rec .ready none)) ∧ W.heap[w.heap.size]? = some (.deferred (some []))) ∧ w.heap.size + 2 ≤ n1)
      (fun n1 pre W => ∃ c, Ix c n1 pre W ∧ W.heap[w.heap.size + 1]? = some (.loop (rec .done (some c))) ∧ W.heap[w.heap.size]? = some (.deferred (some [])))
      W1 hb1 ?_ ?_ ?_).mono ?_
    · intro W2 h2
      have hz2 := h2.size
      exact ⟨h0 W2 (hb1.trans (h2.mono (by omega))), ⟨(h2.block _ (by omega)).trans hL1, (h2.block _ (by omega)).trans hK1⟩, by omega⟩
    · rintro n1 pre W2 W3 ⟨hi, ⟨hl, hk⟩, hn⟩ hkept
      exact ⟨hI n1 pre W2 W3 hi (hkept.mono fun _ _ h => ⟨by have := h.1; omega, .inl h.2⟩), ⟨hkept.blk hl (by rintro ⟨_, cs, t, h, _⟩; rw [hl] at h; cases h), hkept.blk hk (by rintro ⟨_, cs, t, h, _⟩; rw [hk] at h; cases h)⟩, hn⟩
    · rintro n1 pre x v W ⟨hi, ⟨hl, hk⟩, hn⟩ hpre hR hn1
      have hlt : w.heap.size + 1 < W.heap.size := (Array.getElem?_eq_some_iff.1 hl).1
      have hy := run_yield (P := Tryd.prog) (args := #[v]) hl (by rw [hrec]; exact hps.symm)
      rw [hrec] at hy
      refine ⟨fn, _, assign, body, hy, roundIn_of_wpIn hfn (hassign _ v W _ ⟨_, run_beginRound hl (by rw [hrec]), ?_⟩)⟩
      have hl2 : (W.putObj (w.heap.size + 1) (.loop { rec .ready none with state := .busy })).heap[w.heap.size + 1]? = some (.loop { rec .ready none with state := .busy }) := World.putObj_heap_same hlt
      have hk2 : (W.putObj (w.heap.size + 1) (.loop { rec .ready none with state := .busy })).heap[w.heap.size]? = some (.deferred (some [])) := (World.putObj_heap_other (by omega)).trans hk
      have hput : ∀ (V : World) (o o' : Obj), V.heap[w.heap.size + 1]? = some o → o.isCells = false → Kept (fun k => w.heap.size ≤ k ∧ NoCells V k) V (V.putObj (w.heap.size + 1) o') := fun V o o' ho hc =>
        (Kept.putObj V _ o').mono (by rintro k _ rfl; exact ⟨by omega, o, ho, hc⟩)
      have hR2 : KB.R 5 (W.putObj (w.heap.size + 1) (.loop { rec .ready none with state := .busy })) w.heap.size (fun _ => True) v x := by
        refine Kd.R_lower (Kd.R_step (Kd.R_bound hR) (fun k hk hlt => World.putObj_heap_other ?_)) (by omega : w.heap.size ≤ W1.heap.size) |> fun h => Kd.R_mono h (fun _ _ => trivial)
        rintro rfl
        obtain ⟨_, _, _, q, _, cells, hc⟩ := hk
        rw [hl] at hc
        cases hc
      refine wpIn_mono (hbody _ n1 pre x v _ (hI _ _ _ _ hi ((hput W _ _ hl rfl).mono fun _ _ h => ⟨h.1, .inr h.2⟩)) hpre hR2 (by omega)) ?_
      have fin : ∀ (jump : Option Code) (W3 : World), (∀ k, w.heap.size ≤ k → k < n1 → W3.heap[k]? = (W.putObj (w.heap.size + 1) (.loop { rec .ready none with state := .busy })).heap[k]?) →
          (Instr.endRound (w.heap.size + 1) jump).run Tryd.prog W3 = .ok (.bool jump.isNone) (W3.putObj (w.heap.size + 1) (.loop (rec (if jump.isNone then .ready else .done) jump))) ∧
          W3.heap[w.heap.size + 1]? = some (.loop { rec .ready none with state := .busy }) ∧
          (W3.putObj (w.heap.size + 1) (.loop (rec (if jump.isNone then .ready else .done) jump))).heap[w.heap.size + 1]? = some (.loop (rec (if jump.isNone then .ready else .done) jump)) ∧
          (W3.putObj (w.heap.size + 1) (.loop (rec (if jump.isNone then .ready else .done) jump))).heap[w.heap.size]? = some (.deferred (some [])) := fun jump W3 hk3 => by
        have hl3 := (hk3 _ (by omega) (by omega)).trans hl2
        have hk4 := (hk3 w.heap.size (by omega) (by omega)).trans hk2
        have := run_endRound (P := Tryd.prog) jump hl3
        rw [hrec] at this ⊢
        exact ⟨this, by rw [hrec] at hl3; exact hl3, World.putObj_heap_same (Array.getElem?_eq_some_iff.1 hl3).1, (World.putObj_heap_other (by omega)).trans hk4⟩
      rintro e a3 W3 hp
      cases e with
      | normal =>
        obtain ⟨⟨hs3, hk3⟩, hi3⟩ := hp
        obtain ⟨hr, hl3, hl4, hk4⟩ := fin none W3 hk3
        refine ⟨_, _, hr, .inl ⟨rfl, ⟨hI _ _ _ _ hi3 ((hput W3 _ _ hl3 rfl).mono fun _ _ h => ⟨h.1, .inr h.2⟩), ⟨hl4, hk4⟩, hn⟩, by simpa using hs3, fun k hk1 hk2 => ?_⟩⟩
        rw [World.putObj_heap_other (by omega), hk3 k (by omega) hk2, World.putObj_heap_other (by omega)]
      | ret =>
        obtain ⟨⟨hs3, hk3⟩, hi3⟩ := hp
        obtain ⟨hr, hl3, hl4, hk4⟩ := fin (some .ret) W3 hk3
        exact ⟨_, _, hr, .inr ⟨rfl, .ret, hIx _ _ _ _ _ hi3 (hput W3 _ _ hl3 rfl), hl4, hk4⟩⟩
      | exit id =>
        obtain ⟨⟨hs3, hk3⟩, hi3⟩ := hp
        obtain ⟨hr, hl3, hl4, hk4⟩ := fin (some (.exit id)) W3 hk3
        exact ⟨_, _, hr, .inr ⟨rfl, .exit id, hIx _ _ _ _ _ hi3 (hput W3 _ _ hl3 rfl), hl4, hk4⟩⟩
      | goto t =>
        obtain ⟨⟨hs3, hk3⟩, hi3⟩ := hp
        obtain ⟨hr, hl3, hl4, hk4⟩ := fin (some (.goto t)) W3 hk3
        exact ⟨_, _, hr, .inr ⟨rfl, .goto t, hIx _ _ _ _ _ hi3 (hput W3 _ _ hl3 rfl), hl4, hk4⟩⟩
      | panic ch => exact hp.elim
      | outgrown => exact hp.elim
    · rintro e W2 ⟨⟨v, rfl⟩, (⟨n1, hi, ⟨hl, hk⟩, hn⟩ | ⟨n1, pre, hpre, c, hi, hl, hk⟩)⟩
      · exact ⟨none, _, by have := run_endLoop (P := Tryd.prog) hl (by rw [hrec]; simp); rw [hrec] at this; exact this, hdone _ n1 _ (Nat.le_refl _) (hI _ _ _ _ hi ((Kept.putObj W2 _ _).mono (by rintro k _ rfl; exact ⟨by omega, .inr ⟨_, hl, rfl⟩⟩))) ((World.putObj_heap_other (by omega)).trans hk)⟩
      · exact ⟨some c, _, by have := run_endLoop (P := Tryd.prog) hl (by rw [hrec]; simp); rw [hrec] at this; exact this, (wpIn_wide (n := 0)).2 (hstop _ c n1 pre _ (Nat.le_refl _) hpre (hIx _ _ _ _ _ hi ((Kept.putObj W2 _ _).mono (by rintro k _ rfl; exact ⟨by omega, _, hl, rfl⟩))) ((World.putObj_heap_other (by omega)).trans hk))⟩
end Go.Proofs.YtofaicocdijjgaaDoor
