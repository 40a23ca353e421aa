import Derived.Test.YtofaicocdijjgaaDoorPieces
import Derived.Lib.SlBytesConst
namespace Go.Proofs.YtofaicocdijjgaaDoor
open Go.RowKit Go.Proofs.YtofaicocdijjgaaDoorW.PrintWords Go.Proofs.YtofaicocdijjgaaDoor.Pr

/-- a block of numbers, read as a row -/
theorem lit_C {k : IntKind} {w : World} {g t : Nat} {cs : Array Value} {xs : List Int} {fr : Nat × Nat} (hb : w.heap[g]? = some (.cells cs t fr)) (hc : cs = (xs.map (Value.int k)).toArray) (hL : xs.length ≤ 9223372036854775807) : (Kd.int k).C w (some ⟨g, 0, none⟩) xs.length xs := by
  subst hc
  refine Kd.C_of_reads (d := 0) ⟨rfl, hL, fun _ => ⟨_, rfl, fun j hj => ?_⟩⟩
  have e : (⟨g, 0, none⟩ : Addr).add j = ⟨g, j, none⟩ := by simp [Addr.add]; omega
  rw [e, cell_of_row w g j _ t fr hb]
  simp [List.getElem?_eq_getElem hj, List.getD_eq_getElem?_getD]

theorem lives_lens : lens (chunksOf 2 2 (maskN 2) [97, 98, 99, 100, 101]) = [2, 2, 1] := by kernel_rfl

theorem sameInts_l0 (l : List Int) (hL : l.length < 1099511627776) : ∀ (d j K : Nat), j + d = l.length → d < K → lighterageref01_SameInts.l0 K l l (j : Int) = some true := by
  intro d
  induction d with
  | zero =>
    intro j K hj hK
    obtain ⟨K, rfl⟩ : ∃ k, K = k + 1 := ⟨K - 1, by omega⟩
    show (if (j : Int) < l.length then _ else _) = _
    rw [if_neg (by omega)]
  | succ d ih =>
    intro j K hj hK
    obtain ⟨K, rfl⟩ : ∃ k, K = k + 1 := ⟨K - 1, by omega⟩
    show (if (j : Int) < l.length then (if 0 ≤ (j : Int) then (if (j : Int) < l.length then (if rd l (j : Int) = rd l (j : Int) then lighterageref01_SameInts.l0 K l l (wrap64 ((j : Int) + 1)) else some false) else none) else none) else some true) = _
    rw [if_pos (by omega), if_pos (by omega), if_pos (by omega), if_pos rfl, IntWalk.wrap64_in _ (by omega)]
    exact ih (j + 1) K (by omega) (by omega)
theorem sameInts_f (l : List Int) (hL : l.length < 1099511627776) : lighterageref01_SameInts.f (l.length + 1) l l = some true := by
  unfold lighterageref01_SameInts.f
  rw [if_pos rfl]
  exact sameInts_l0 l hL l.length 0 _ (by omega) (by omega)

set_option maxRecDepth 100000 in
theorem lives_calls (w : World) : Calls Tryd.prog 15 #[] w fun e w' => e = .returned (.bool true) ∧ Below w.heap.size w w' := by
  have kc := fun (w : World) (C : Array Value) (n c : Nat) => Lib.run_convert_bytes_const (P := Tryd.prog) w 35 5 C n c Tryd.underlying35 Tryd.underlying5
  go_enter Tryd.func15, Tryd.ntmps15
  go_wp2_with fail
  have hb := heap_alloc_new w (.cells #[.int .u8 97, .int .u8 98, .int .u8 99, .int .u8 100, .int .u8 101] 5 (5, 6))
  refine (sizes_calls 2 2 2 _ _ [97, 98, 99, 100, 101] _ (by decide) (lit_C hb rfl (by decide)) (by decide) (by decide) (by unfold Bytes; decide) (by intro ad e; injection e with e; subst e; simp)).mono ?_
  rintro e W ⟨o, rfl, hR, hB⟩
  rw [lives_lens] at hR
  have hbel : Below w.heap.size w W := ((Below.refl _ _).alloc (Nat.le_refl _) _).trans (hB.mono (by simp))
  obtain ⟨Ao, co, rfl, hco, hC⟩ := Kd.R_reads hR
  have HB := Aside0.mk hbel; have HC := Aside0.mk hC; have HCO := Aside0.mk hco
  clear hbel hR hB hC hb hco
  go_wp2_with fail
  have hb2 := heap_alloc_new W (.cells #[.int .i64 2, .int .i64 2, .int .i64 1] 3)
  refine (lighterageref01_SameInts.calls 4 Ao co [2, 2, 1] _ _ [2, 2, 1] true _ (Kd.C_alloc HC.out _) HCO.out (lit_C hb2 rfl (by decide)) (Nat.le_refl 3) (sameInts_f [2, 2, 1] (by decide))).mono ?_
  rintro e w' ⟨rfl, n, rfl⟩
  have hfin : Below w.heap.size w ((W.alloc (.cells #[.int .i64 2, .int .i64 2, .int .i64 1] 3)).drewN n) := pw_below_drewN (HB.out.alloc HB.out.size _) n
  have HF := Aside0.mk hfin
  clear hfin hb2
  go_wp2_with fail
  go_ret
  exact ⟨rfl, HF.out⟩
end Go.Proofs.YtofaicocdijjgaaDoor
