import Derived.Test.YtofaicocdijjgaaDoorCutEnd
import Derived.Test.YtofaicocdijjgaaDoorChunk
import Derived.Deep.DeepMust
namespace Go.Proofs.YtofaicocdijjgaaDoor
open Go.RowKit Go.Proofs.YtofaicocdijjgaaDoorW.PrintWords

abbrev KR := Kd.slice 5 KB
theorem infoB : (Tryd.prog.info? 5).map (fun i => (i.zero, i.size, i.bytes)) = some (some (.int .u8 0), 1, 1) := by kernel_rfl
theorem infoR : (Tryd.prog.info? 35).map (fun i => (i.zero, i.size, i.bytes)) = some (some (.slice none 0 0), 1, 24) := by kernel_rfl
/-- the rows told so far, beside the cutter -/
structure OutSt (w0 w : World) (base : Nat) (v v' o : Value) (outs : List (List Int)) : Prop where
  row : KR.R 35 w base (fun k => (w0.heap.size ≤ k ∨ some k = v.ownBlock) ∧ some k ≠ v'.ownBlock) o outs
  at_ : ∀ k, v'.ownBlock = some k → some k = v.ownBlock ∨ w0.heap.size ≤ k

theorem KB_at {w : World} {A : Option Addr} {l : List Int} (h : KB.C w A l.length l) {k : Nat} {x : Int} (hx : l[k]? = some x) : ∃ ad, A = some ad ∧ w.cell? (ad.add k) = some (.int .u8 x) := by
  have hk : k < l.length := (List.getElem?_eq_some_iff.1 hx).1
  obtain ⟨ad, e, hc⟩ := h.2.2 (by omega)
  obtain ⟨c, hs, hr, hcell⟩ := hc k x hx
  have hr' : c = [Value.int .u8 x] := hr
  subst hr'
  exact ⟨ad, e, by simpa [KB, Kd.int, Kd.scalar] using hcell 0 _ rfl⟩
theorem add_block (a : Addr) (n : Nat) : (a.add n).block = a.block := by unfold Addr.add; split <;> rfl

theorem cn1 {a c m h : Int} {n : Nat} (e : (n : Int) + 1 = c) : cutNow a c m (n + 1) h = true := by
  unfold cutNow
  rw [decide_eq_true (show (((n + 1 : Nat) : Int)) = c by omega), Bool.true_or]
theorem cn2 {a c m h : Int} {n : Nat} (e : a ≤ (n : Int) + 1) (e3 : ((n : Int) + 1 == c) = true ∨ (bits .and .u32 h m == 0) = true) : cutNow a c m (n + 1) h = true := by
  rcases e3 with e3 | e3
  · exact cn1 (by simpa using e3)
  · unfold cutNow
    rw [decide_eq_true (show a ≤ ((n + 1 : Nat) : Int) by omega), decide_eq_true (show bits .and .u32 h m = 0 by simpa using e3)]
    simp
theorem cn3 {a c m h : Int} {n : Nat} (e3 : ((n : Int) + 1 == c) = false ∧ (bits .and .u32 h m == 0) = false) : cutNow a c m (n + 1) h = false := by
  have h1 : ¬ (n : Int) + 1 = c := by simpa using e3.1
  have h2 : ¬ bits .and .u32 h m = 0 := by simpa using e3.2
  unfold cutNow
  rw [decide_eq_false (show ¬ ((n + 1 : Nat) : Int) = c by omega), decide_eq_false h2]
  simp
theorem cn4 {a c m h : Int} {n : Nat} (e : ¬ a ≤ (n : Int) + 1) (e3 : ((n : Int) + 1 == c) = false) : cutNow a c m (n + 1) h = false := by
  have h1 : ¬ (n : Int) + 1 = c := by simpa using e3
  unfold cutNow
  rw [decide_eq_false (show ¬ ((n + 1 : Nat) : Int) = c by omega), decide_eq_false (show ¬ a ≤ ((n + 1 : Nat) : Int) by omega)]
  simp

section
variable {w W w1 w3 : World} {base g r : Nat} {a b c x : Int} {v v' v1 u : Value} {B : List Int} {O : List (List Int)} {cs1 : Array Value}
/-- the cutter behind one byte more -/
theorem byte_step (hK : Kept (fun k => k = g ∨ k = r ∨ some k = v.ownBlock) w W) (hC : CutSt W base g r a b c v' B) (hO : OutSt w W base v v' u O) (hg1 : W.grownBy w1 (some r))
    (hb1 : w1.heap[r]? = some (.cells cs1 85 (0, 0))) (hra1 : RollAt cs1 (B ++ [x])) (hx : 0 ≤ x ∧ x < 256)
    (hR3 : KB.R 5 w3 base (fun k => k ≠ g ∧ k ≠ r) v1 (B ++ [x])) (hg3 : w1.grownBy w3 v'.ownBlock) (hat : v1.ownBlock = v'.ownBlock ∨ ∃ q, v1.ownBlock = some q ∧ w1.heap.size ≤ q) :
    Kept (fun k => k = g ∨ k = r ∨ some k = v.ownBlock) w (w3.setCell ⟨g, 5, none⟩ v1) ∧ CutSt (w3.setCell ⟨g, 5, none⟩ v1) base g r a b c v1 (B ++ [x]) ∧ OutSt w (w3.setCell ⟨g, 5, none⟩ v1) base v v1 u O := by
  have hgr := hC.ne
  have hk1 := Kept.of_grown hg1
  have hk3 := Kept.of_grown hg3
  have hcut1 := hk1.blk hC.cut (fun e => hgr (by injection e))
  have hrn : some g ≠ v'.ownBlock ∧ some r ≠ v'.ownBlock := hC.row_ne
  have hcut3 := hk3.blk hcut1 (fun e => hrn.1 e)
  have hroll3 := hk3.blk hb1 (fun e => hrn.2 e)
  have hsz : w.heap.size ≤ w1.heap.size := Nat.le_trans hK.size hg1.size
  have own : ∀ k, v'.ownBlock = some k → k < w.heap.size → some k = v.ownBlock := fun k hk hlt => (hO.at_ k hk).elim id (fun h => by omega)
  refine ⟨?_, ⟨blk_set hcut3 5 v1, ⟨cs1, blk_far hroll3 (fun e => hgr e.symm) v1, hra1⟩, ?_, ?_, hC.lo⟩, ?_, ?_⟩
  · refine Kept.set_ ((hK.trans hk1 (fun j _ e => .inr (.inl (by injection e)))).trans hk3 (fun j hj e => .inr (.inr (own j e.symm hj)))) (.inl (.inl rfl)) 5 v1
  · exact Kd.R_mono (Kd.R_far (p := ⟨g, 5, none⟩) hR3 (fun k hk => hk.1) v1) (fun _ _ => trivial)
  · intro y hy
    rcases List.mem_append.1 hy with hy | hy
    · exact hC.bytes y hy
    · rw [List.mem_singleton.1 hy]; exact hx
  · -- the rows told
    have h0 := Kd.R_types (Kd.R_types hO.row hC.cut (by decide)) (hC.roll.choose_spec.1) (by decide)
    have h1 := hk1.row h0 (fun k hk e => hk.2 (by injection e))
    have h1' : KR.R 35 w1 base (fun k => ((w.heap.size ≤ k ∨ some k = v.ownBlock) ∧ k ≠ g) ∧ some k ≠ v'.ownBlock) u O := Kd.R_mono h1 (fun k hk => ⟨⟨hk.1.1.1, hk.1.2⟩, hk.1.1.2⟩)
    have h3 := Kd.R_after h1' hg3 hat
    exact Kd.R_mono (Kd.R_far (p := ⟨g, 5, none⟩) h3 (fun k hk => hk.1.2) v1) (fun k hk => ⟨hk.1.1, hk.2⟩)
  · intro k hk
    rcases hat with hat | ⟨q, hq, hle⟩
    · exact hO.at_ k (hat ▸ hk)
    · rw [hq] at hk; injection hk with hk; right; omega
end

theorem KB_ok {e base : Nat} {ok ok' : Nat → Prop} {w : World} {v : Value} {xs : List Int} (h : KB.R e w base ok v xs) (h' : ∀ k, v.ownBlock = some k → ok' k) : KB.R e w base ok' v xs := ⟨h', h.2.imp_ (fun _ _ hp => hp)⟩

section
variable {w W w4 : World} {base g r : Nat} {a b c : Int} {v v1 u : Value} {B1 : List Int} {O : List (List Int)}
/-- the rows told, behind End -/
theorem end_step (hO : OutSt w W base v v1 u O) (hC : CutSt W base g r a b c v1 B1) (hK : Kept (fun k => k = g ∨ k = r) W w4) :
    KR.R 35 w4 base (fun k => (w.heap.size ≤ k ∨ some k = v.ownBlock) ∧ some k ≠ v1.ownBlock) u O :=
  Kd.R_mono (hK.row (Kd.R_types (Kd.R_types hO.row hC.cut (by decide)) (hC.roll.choose_spec.1) (by decide)) (fun k hk e => e.elim hk.1.2 hk.2)) (fun k hk => hk.1.1)
theorem end_okp (hO : OutSt w W base v v1 u O) (h4 : KR.R 35 w4 base (fun k => (w.heap.size ≤ k ∨ some k = v.ownBlock) ∧ some k ≠ v1.ownBlock) u O) :
    ∀ k, some k = v1.ownBlock → (w.heap.size ≤ k ∨ some k = v.ownBlock) ∧ some k ≠ u.ownBlock := fun k hk =>
  ⟨(hO.at_ k hk.symm).symm, fun e => (h4.1 k e.symm).2 hk⟩
/-- the relation behind a cut -/
theorem cut_step {w5 : World} {o1 : Value} (hK : Kept (fun k => k = g ∨ k = r ∨ some k = v.ownBlock) w W) (hK4 : Kept (fun k => k = g ∨ k = r) W w4) (hC4 : CutSt w4 base g r a b c (.slice none 0 0) [])
    (h4 : KR.R 35 w4 base (fun k => (w.heap.size ≤ k ∨ some k = v.ownBlock) ∧ some k ≠ v1.ownBlock) u O) (hg : w4.grownBy w5 u.ownBlock)
    (h5 : KR.R 35 w5 base (fun k => w.heap.size ≤ k ∨ some k = v.ownBlock) o1 (O ++ [B1])) :
    Kept (fun k => k = g ∨ k = r ∨ some k = v.ownBlock) w w5 ∧ CutSt w5 base g r a b c (.slice none 0 0) [] ∧ OutSt w w5 base v (.slice none 0 0) o1 (O ++ [B1]) := by
  obtain ⟨cs, hr, hra⟩ := hC4.roll
  have hk5 := Kept.of_grown hg
  refine ⟨(hK.trans hK4 (fun j _ e => e.elim .inl (fun e => .inr (.inl e)))).trans hk5 (fun j hj e => .inr (.inr ((h4.1 j e.symm).1.elim (fun h => absurd hj (by omega)) id))), ⟨?_, ⟨cs, ?_, hra⟩, Kd.R_nil _ _ _ _ _, hC4.bytes, hC4.lo⟩, ⟨?_, fun k hk => by simp [Value.ownBlock] at hk⟩⟩
  · exact hk5.blk hC4.cut (fun e => Kd.R_ne h4 hC4.cut (by decide) e)
  · exact hk5.blk hr (fun e => Kd.R_ne h4 hr (by decide) e)
  · exact Kd.R_mono h5 (fun k hk => ⟨hk, by simp [Value.ownBlock]⟩)
end
theorem step_no {a c m x : Int} {O : List (List Int)} {B : List Int} (h : cutNow a c m (B.length + 1) (hash (B ++ [x])) = false) : wrStep a c m (O, B) x = (O, B ++ [x]) := by
  unfold wrStep
  rw [if_neg (by rw [h]; decide)]
theorem step_yes {a c m x : Int} {O : List (List Int)} {B : List Int} (h : cutNow a c m (B.length + 1) (hash (B ++ [x])) = true) : wrStep a c m (O, B) x = (O ++ [B ++ [x]], []) := by
  unfold wrStep
  rw [if_pos h]

set_option maxRecDepth 100000 in
set_option maxHeartbeats 1600000 in
theorem write_calls (base g r : Nat) (a b c : Int) (v : Value) (buf : List Int) (A : Option Addr) (cap : Nat) (l : List Int) (w : World) (h : CutSt w base g r a b c v buf) (hp : 1 ≤ a ∧ a ≤ b ∧ b ≤ c ∧ c ≤ 4096)
    (hlen : (buf.length : Int) < c) (hl : KB.C w A l.length l) (hcap : l.length ≤ cap) (hL : l.length ≤ 1099511627776) (hB : Bytes l) (hA : ∀ ad, A = some ad → ad.block < base) (hbase : base ≤ w.heap.size) :
    Calls Tryd.prog 30 #[.pointer (some ⟨g, 0, none⟩), .slice A l.length cap] w fun e w' =>
      ∃ o v', e = .returned o ∧ Kept (fun k => k = g ∨ k = r ∨ some k = v.ownBlock) w w' ∧ CutSt w' base g r a b c v' (told a c (maskN b) buf l).2 ∧ OutSt w w' base v v' o (told a c (maskN b) buf l).1 := by
  have c2 : w.cell? ⟨g, 4, none⟩ = some (.pointer (some ⟨r, 0, none⟩)) := by rw [blk_cell h.cut]; rfl
  have H := Aside0.mk h; have HL := Aside0.mk hl; have HB := Aside0.mk hB; have HA := Aside0.mk hA; have HP := Aside0.mk hp; have HN := Aside0.mk hlen
  clear h hl hB hA hp hlen
  go_enter Tryd.func30, Tryd.ntmps30
  go_wp2_with fail
  clear c2
  go_loopw [6, 18] (fun o i W => ∃ k v', k ≤ l.length ∧ i = .int .i64 k ∧ Kept (fun k => k = g ∨ k = r ∨ some k = v.ownBlock) w W ∧ CutSt W base g r a b c v' (told a c (maskN b) buf (l.take k)).2 ∧ OutSt w W base v v' o (told a c (maskN b) buf (l.take k)).1) (fun _ i _ => l.length - (intOf i).toNat)
  case atStart =>
    refine ⟨0, v, Nat.zero_le _, rfl, Kept.refl _ _, ?_, ⟨Kd.R_nil _ _ _ _ _, fun k hk => .inl hk.symm⟩⟩
    exact H.out
  case round =>
    obtain ⟨k, v', hk, rfl, hK, hC, hO⟩ := hrel
    by_cases hlt : k < l.length
    · obtain ⟨x, hx⟩ : ∃ x, l[k]? = some x := ⟨_, List.getElem?_eq_getElem hlt⟩
      have hxr := HB.out x (List.mem_of_getElem? hx)
      obtain ⟨ad, rfl, hcell⟩ := KB_at HL.out hx
      have had := HA.out ad rfl
      have hlo := H.out.lo
      have hcell' : wr.cell? (ad.add k) = some (.int .u8 x) := hK.cell hcell (by
        rw [add_block]
        rintro (e | e | e)
        · omega
        · omega
        · have := Kd.R_base H.out.row ad.block e.symm; omega)
      have hstep := told_take a c (maskN b) buf l k x hx
      have hbl := told_len a c (maskN b) buf (l.take k) HN.out
      have hby := (told_bytes a c (maskN b) buf (l.take k) H.out.bytes (fun y hy => HB.out y (List.mem_of_mem_take hy))).1
      have hol := Nat.le_trans (told_outs a c (maskN b) buf (l.take k)) (List.length_take_le k l)
      revert hC hO hstep hbl hby hol
      generalize (told a c (maskN b) buf (l.take k)) = st
      obtain ⟨O, B⟩ := st
      intro hC hO hstep hbl hby hol
      have hol : O.length ≤ k := hol
      obtain ⟨cs, hr, hra⟩ := hC.roll
      have HC := Aside0.mk hC; have HO := Aside0.mk hO; have HS := Aside0.mk hstep; have HBL := Aside0.mk hbl; have HBY := Aside0.mk hby; have HK := Aside0.mk hK; have HR := Aside0.mk hr; have HRA := Aside0.mk hra
      clear hC hO hstep hbl hby hK hr hra hx hcell had hlo
      go_wp2_with fail
      refine (add_calls r _ x B wr cs HR.out HRA.out HBY.out hxr.1 hxr.2 (by have := HBL.out; have := HP.out; omega)).mono ?_
      rintro e w1 ⟨rfl, hg1, cs1, hb1, hra1, _⟩
      have HG1 := Aside0.mk hg1; have HB1 := Aside0.mk hb1; have HRA1 := Aside0.mk hra1
      clear hg1 hb1 hra1 hcell'
      have hgr : g ≠ r := HC.out.ne
      have hcut1 := Kept.blk (Kept.of_grown HG1.out) HC.out.cut (fun e => hgr (by injection e))
      have hrow1 : KB.R 5 w1 base (fun k => k ≠ g ∧ k ≠ r) v' B :=
        (Kept.of_grown HG1.out).row (Kd.R_mono (Kd.R_types (Kd.R_types HC.out.row HC.out.cut (by decide)) HR.out (by decide)) (fun k hk => ⟨hk.1.2, hk.2⟩)) (fun k hk e => hk.2 (by injection e))
      have hlo := H.out.lo
      have hbel : Below base w w1 := (HK.out.below hbase (by
        rintro k hk (e | e | e)
        · omega
        · omega
        · have := Kd.R_base H.out.row k e.symm; omega)).trans ((Kept.of_grown HG1.out).below (Nat.le_trans hbase HK.out.size) (fun k hk e => by injection e; omega))
      obtain ⟨A', cap', hv'⟩ := Kd.R_slice hrow1
      have HV := Aside0.mk hv'
      have k5 : w1.cell? ⟨g, 5, none⟩ = some (.slice A' B.length cap') := by rw [blk_cell hcut1, hv']; rfl
      have f5 : ∀ j, w1.frozen? ⟨g, j, none⟩ = false := fun j => blk_frozen hcut1 j
      have HCut := Aside0.mk hcut1; have HRow := Aside0.mk hrow1; have HBel := Aside0.mk hbel; have HGR := Aside0.mk hgr
      clear hcut1 hrow1 hbel hlo hv' hgr
      go_wp2_with (at_builtin; go_must ((refine Kd.R_append KB (w0 := w) base rfl (.tmp 29) (.tmp 31) 35 5 (.int .u8 0) 1 rfl Tryd.underlying35 infoB rfl (by decide) (by omega) v' B x [.int .u8 x] (fun k => k ≠ g ∧ k ≠ r) (fun _ => False) ?cs rfl rfl (fun _ h => h.elim) ?cf HRow.out HBel.out (Nat.le_trans hbase HBel.out.size) ?cl ?_; (case cs => exact HV.out.symm); (case cf => exact fun k hk => ⟨fun e => by subst e; exact absurd (blk_lt HCut.out) (by omega), fun e => by subst e; exact absurd (blk_lt HB1.out) (by omega)⟩); (case cl => (have := HBL.out; have := HP.out; omega)); intro v1 w3 hR3 hB3 hg3 hat3; obtain ⟨A3, cap3, hv3⟩ := Kd.R_slice hR3; rw [List.length_append, List.length_singleton] at hv3; have HR3 := Aside0.mk hR3; have HB3 := Aside0.mk hB3; have HG3 := Aside0.mk hg3; have HAT := Aside0.mk hat3; have hcut3 := Kept.blk (Kept.of_grown hg3) HCut.out (fun e => (Kd.R_ne HRow.out HCut.out (by decide)) e); have j0 : w3.cell? ⟨g, 0, none⟩ = some (.int .i64 a) := (blk_cell hcut3 _).trans rfl; have j2 : w3.cell? ⟨g, 2, none⟩ = some (.int .i64 c) := (blk_cell hcut3 _).trans rfl; have j3 : w3.cell? ⟨g, 3, none⟩ = some (.int .u32 (maskN b)) := (blk_cell hcut3 _).trans rfl; have j5 : w3.cell? ⟨g, 5, none⟩ = some v' := (blk_cell hcut3 _).trans rfl; have f3 : ∀ j, w3.frozen? ⟨g, j, none⟩ = false := (fun j => blk_frozen hcut3 j); have HCut3 := Aside0.mk hcut3; clear hcut3 hR3 hB3 hg3 hat3; subst hv3)))
      · have hcn := cn1 (a := a) (m := maskN b) (h := hash (B ++ [x])) (by assumption : (B.length : Int) + 1 = c)
        have hbs := byte_step HK.out HC.out HO.out HG1.out HB1.out HRA1.out hxr HR3.out HG3.out HAT.out
        refine (end_calls base g r a b c _ (B ++ [x]) _ hbs.2.1).mono ?_
        rintro e w4 ⟨rfl, hK4, hC4, hR4⟩
        have HBS := Aside0.mk hbs; have HK4 := Aside0.mk hK4; have HC4 := Aside0.mk hC4; have HR4 := Aside0.mk hR4
        clear hbs hK4 hC4 hR4 j0 j2 j3 j5 f3 k5 f5
        have hR4' := Aside0.mk (KB_ok (ok' := fun k => some k = (Value.slice A3 (B.length + 1) cap3).ownBlock) HR4.out (fun k hk => hk.symm))
        have hO4 := Aside0.mk (end_step HBS.out.2.2 HBS.out.2.1 HK4.out)
        have hBel4 := Aside0.mk ((HBS.out.1.trans HK4.out (fun j _ e => e.elim .inl (fun e => .inr (.inl e)))).below hbase (by
          rintro k hk (e | e | e)
          · have := H.out.lo; omega
          · have := H.out.lo; omega
          · have := Kd.R_base H.out.row k e.symm; omega))
        go_wp2_with (at_builtin; go_must ((refine Kd.R_append KR (w0 := w) base rfl (.tmp 65) (.tmp 68) 42 35 (.slice none 0 0) 24 rfl Tryd.underlying42 infoR rfl (by decide) (by omega) u6 O (B ++ [x]) [.slice A3 (B.length + 1) cap3] (fun k => w.heap.size ≤ k ∨ some k = v.ownBlock) (fun k => some k = (Value.slice A3 (B.length + 1) cap3).ownBlock) rfl rfl (Kd.M_row hR4'.out) (end_okp HBS.out.2.2 hO4.out) ?cf (Kd.R_mono hO4.out (fun _ h => h.1)) hBel4.out (Nat.le_trans hbase hBel4.out.size) ?cl ?_; (case cf => exact fun k hk => .inl (Nat.le_trans hBel4.out.size hk)); (case cl => omega); intro o1 w5 h5 _ hg5 _; have hfin := cut_step HBS.out.1 HK4.out HC4.out hO4.out hg5 h5; have HF := Aside0.mk hfin; clear hfin h5 hg5)))
        go_roundw
        case rel => exact ⟨k + 1, _, by omega, by go_num, HF.out.1, by rw [HS.out, step_yes hcn]; exact HF.out.2.1, by rw [HS.out, step_yes hcn]; exact HF.out.2.2⟩
        case measure => simp [intOf]; omega
      · have hcn := cn2 (h := hash (B ++ [x])) (by assumption : a ≤ (B.length : Int) + 1) (by assumption : ((B.length : Int) + 1 == c) = true ∨ (bits .and .u32 (hash (B ++ [x])) (maskN b) == 0) = true)
        have hbs := byte_step HK.out HC.out HO.out HG1.out HB1.out HRA1.out hxr HR3.out HG3.out HAT.out
        refine (end_calls base g r a b c _ (B ++ [x]) _ hbs.2.1).mono ?_
        rintro e w4 ⟨rfl, hK4, hC4, hR4⟩
        have HBS := Aside0.mk hbs; have HK4 := Aside0.mk hK4; have HC4 := Aside0.mk hC4; have HR4 := Aside0.mk hR4
        clear hbs hK4 hC4 hR4 j0 j2 j3 j5 f3 k5 f5
        have hR4' := Aside0.mk (KB_ok (ok' := fun k => some k = (Value.slice A3 (B.length + 1) cap3).ownBlock) HR4.out (fun k hk => hk.symm))
        have hO4 := Aside0.mk (end_step HBS.out.2.2 HBS.out.2.1 HK4.out)
        have hBel4 := Aside0.mk ((HBS.out.1.trans HK4.out (fun j _ e => e.elim .inl (fun e => .inr (.inl e)))).below hbase (by
          rintro k hk (e | e | e)
          · have := H.out.lo; omega
          · have := H.out.lo; omega
          · have := Kd.R_base H.out.row k e.symm; omega))
        go_wp2_with (at_builtin; go_must ((refine Kd.R_append KR (w0 := w) base rfl (.tmp 65) (.tmp 68) 42 35 (.slice none 0 0) 24 rfl Tryd.underlying42 infoR rfl (by decide) (by omega) u6 O (B ++ [x]) [.slice A3 (B.length + 1) cap3] (fun k => w.heap.size ≤ k ∨ some k = v.ownBlock) (fun k => some k = (Value.slice A3 (B.length + 1) cap3).ownBlock) rfl rfl (Kd.M_row hR4'.out) (end_okp HBS.out.2.2 hO4.out) ?cf (Kd.R_mono hO4.out (fun _ h => h.1)) hBel4.out (Nat.le_trans hbase hBel4.out.size) ?cl ?_; (case cf => exact fun k hk => .inl (Nat.le_trans hBel4.out.size hk)); (case cl => omega); intro o1 w5 h5 _ hg5 _; have hfin := cut_step HBS.out.1 HK4.out HC4.out hO4.out hg5 h5; have HF := Aside0.mk hfin; clear hfin h5 hg5)))
        go_roundw
        case rel => exact ⟨k + 1, _, by omega, by go_num, HF.out.1, by rw [HS.out, step_yes hcn]; exact HF.out.2.1, by rw [HS.out, step_yes hcn]; exact HF.out.2.2⟩
        case measure => simp [intOf]; omega
      · have hcn := cn3 (a := a) (by assumption : ((B.length : Int) + 1 == c) = false ∧ (bits .and .u32 (hash (B ++ [x])) (maskN b) == 0) = false)
        have hbs := byte_step HK.out HC.out HO.out HG1.out HB1.out HRA1.out hxr HR3.out HG3.out HAT.out
        go_roundw
        case rel => exact ⟨k + 1, _, by omega, by go_num, hbs.1, by rw [HS.out, step_no hcn]; exact hbs.2.1, by rw [HS.out, step_no hcn]; exact hbs.2.2⟩
        case measure => simp [intOf]; omega
      · have hcn := cn4 (a := a) (m := maskN b) (h := hash (B ++ [x])) (by assumption : ¬ a ≤ (B.length : Int) + 1) (by assumption : ((B.length : Int) + 1 == c) = false)
        have hbs := byte_step HK.out HC.out HO.out HG1.out HB1.out HRA1.out hxr HR3.out HG3.out HAT.out
        go_roundw
        case rel => exact ⟨k + 1, _, by omega, by go_num, hbs.1, by rw [HS.out, step_no hcn]; exact hbs.2.1, by rw [HS.out, step_no hcn]; exact hbs.2.2⟩
        case measure => simp [intOf]; omega
    · obtain rfl : k = l.length := by omega
      rw [List.take_length] at hC hO
      have HK := Aside0.mk hK; have HC := Aside0.mk hC; have HO := Aside0.mk hO
      clear hK hC hO
      go_wp2
      go_ret
      exact ⟨_, _, rfl, HK.out, HC.out, HO.out⟩
end Go.Proofs.YtofaicocdijjgaaDoor
