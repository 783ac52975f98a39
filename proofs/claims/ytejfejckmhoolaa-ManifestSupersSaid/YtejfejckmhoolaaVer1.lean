/- Of an empty version: Check, Apply of an empty edit. -/
import Derived.Test.YtejfejckmhoolaaVer0
set_option linter.unusedSimpArgs false
set_option linter.unusedVariables false
namespace Go.Proofs.Ytejfejckmhoolaa
open Go.RowKit Go.Shelf
attribute [local go_sem] Oper.semAt_some

set_option maxRecDepth 100000 in
set_option maxHeartbeats 4000000 in
theorem vcheck_nil (w : World) : Calls Try.prog 92 #[.agg nil4] w (IntBelow w 0) := by
  refine (callsIn_wide (n := 3)).1 ?_
  refine callsIn_of_wp_marks Try.func92 rfl trivial ?_
  refine wpIn_wide.2 ?_
  simp only [Try.ntmps92, List.size_toArray, List.length_cons, List.length_nil, Nat.reduceAdd, Nat.reduceSub, Array.replicate_succ, Array.replicate_zero, List.push_toArray, List.append_toArray, List.nil_append, List.cons_append]
  unfold nil4
  go_upto_region 1 with fail
  obtain ⟨sn, hsn⟩ : ∃ sn, Hid (sn = seenCells []) := ⟨_, rfl⟩
  have hsb := seen_built
  have hsi : (Try.prog.info? 133).map (·.size) = some sn.size := by rw [hsn.out]; decide +kernel
  have hs1 : sn.all (·.oneCell') = true := by rw [hsn.out]; decide +kernel
  have hR := heap_alloc_new w (.cells nil4 92)
  have hE := heap_alloc_new (w.alloc (.cells nil4 92)) (.cells #[.int .i64 0] 30)
  have hB0 : Below w.heap.size w ((w.alloc (.cells nil4 92)).alloc (.cells #[.int .i64 0] 30)) := ((Below.refl _ w).alloc (Nat.le_refl _) _).alloc (by simp) _
  have hR2 := (Below.heap_alloc (w.alloc (.cells nil4 92)) (.cells #[.int .i64 0] 30) w.heap.size (by simp)).trans hR
  have hsz : ((w.alloc (.cells nil4 92)).alloc (.cells #[.int .i64 0] 30)).heap.size = w.heap.size + 1 + 1 := by simp
  simp only [World.size_alloc] at hE
  unfold nil4 at hR2 hE hB0 hsz
  clear hR
  generalize ((w.alloc (.cells #[.slice none 0 0, .slice none 0 0, .slice none 0 0, .slice none 0 0] 92)).alloc (.cells #[.int .i64 0] 30)) = y at *
  have hsa := seen_alloc y
  rw [← hsn.out] at hsb hsa
  refine wp_region_lit ?_
  refine wpList_buildTo (by rfl) 133 #[] (by rfl) (some 9) (by rfl) sn (by simpa using hsb) ?_
  refine Great.wpList_allocTo (by rfl) (some 3) (by rfl) (.pointer (some ⟨y.heap.size, 0, none⟩)) (.cells sn 133) (by unfold execOp; simp only [Sem.run_bind, hsa, Result.andThen_ok, Sem.run_pure]) ?_
  refine wpList_store_rowTo (by rfl) 133 _ _ (by rfl) (by rfl) y.heap.size sn (by rfl) (by rfl) 133 sn (heap_alloc_new y _) hsi rfl hs1 ?_
  refine wpList_nil ?_
  rw [World.setRow_alloc_new]
  have hS := heap_alloc_new y (.cells sn 133)
  have hB1 : Below w.heap.size w (y.alloc (.cells sn 133)) := hB0.alloc hB0.size _
  have hE1 := (Below.heap_alloc y (.cells sn 133) _ (heap_lt hE)).trans hE
  have hR1 := (Below.heap_alloc y (.cells sn 133) _ (heap_lt hR2)).trans hR2
  have hsz1 : (y.alloc (.cells sn 133)).heap.size = w.heap.size + 1 + 1 + 1 := by simp [hsz]
  rw [hsz] at hS
  simp only [hsz]
  clear hsb hsi hs1 hsa hE hR2 hB0
  generalize y.alloc (.cells sn 133) = z at *
  clear hsz
  have HSZ := Lib.hid hsz1
  have hs4 : w.heap.size + 3 ≤ z.heap.size := by omega
  clear hsz1
  go_wp2_with (go_at_call 96; refine (all_any _ _).mono ?_; rintro e w' ⟨rfl, rfl⟩)
  have hA := heap_alloc_new z (.cells #[.pointer (some ⟨w.heap.size, 0, none⟩)] 211)
  have hB2 : Below w.heap.size w (z.alloc (.cells #[.pointer (some ⟨w.heap.size, 0, none⟩)] 211)) := hB1.alloc hB1.size _
  have hE2 := (Below.heap_alloc z (.cells #[.pointer (some ⟨w.heap.size, 0, none⟩)] 211) _ (heap_lt hE1)).trans hE1
  have hR2 := (Below.heap_alloc z (.cells #[.pointer (some ⟨w.heap.size, 0, none⟩)] 211) _ (heap_lt hR1)).trans hR1
  have hs5 : (z.alloc (.cells #[.pointer (some ⟨w.heap.size, 0, none⟩)] 211)).heap.size = z.heap.size + 1 := by simp
  clear hE1 hR1 hB1 hS
  generalize hze : z.heap.size = Z at *
  generalize z.alloc (.cells #[.pointer (some ⟨w.heap.size, 0, none⟩)] 211) = W0 at *
  have HS5 := Lib.hid hs5
  have hs6 : Z < W0.heap.size := by omega
  clear hs5 hze
  refine (wpIn_wide (n := 3)).1 ?_
  refine wpIn_rangeFunc_ownH (n := 3) rfl (by omega) (gf := 125) (lb := #[.pointer (some ⟨Z, 0, none⟩)]) rfl trivial (enters_of Try.func125 (by kernel_rfl) rfl)
    (all_stops _ _ trivial rfl (by omega) Z w.heap.size w.heap.size nil4 [[], [], [], []] W0 hs6 (by omega) (by simpa using cell_of_block hA 0) hR2 (rdVer_nil _ _)) belowK_t (belowK_b (by omega)) (Below.refl _ _) (fun _ => rfl)
    (fun pre W => (W.heap[w.heap.size]? = some (.cells nil4 92 (0, 0)) ∧ W.heap[w.heap.size + 1]? = some (.cells #[.int .i64 0] 30 (0, 0))) ∧ Below w.heap.size w W)
    (fun _ _ _ => False)
    (OwnFrom.and (OwnFrom.and (blk_own _ _ _ _ _) (blk_own _ _ _ _ _)) (ownFrom_below (Nat.le_refl _) (by omega)))
    (fun _ _ _ _ _ hs _ _ => hs)
    ⟨⟨hR2, hE2⟩, hB2⟩
    (fun _ _ _ => True) (fun _ _ => ownFrom_pure _ _) ?assign ?body ?done ?stop
  case assign =>
    rintro l pre ⟨k, ⟨zn, ln, ⟨su, ss, sd⟩, ⟨lu, ls, ld⟩, rf⟩, RA, rc⟩ W K ⟨⟨h1, h2⟩, hB⟩ hK
    simp only [encMT, mtCells, metaCells, rvOf]
    gi_wp2
    exact hK _ _ ((KeepsOthers.alloc _ _).from _) ((Below.refl _ W).alloc hB.size _) ⟨⟨(Below.heap_alloc _ _ _ (heap_lt h1)).trans h1, (Below.heap_alloc _ _ _ (heap_lt h2)).trans h2⟩, hB.alloc hB.size _⟩ trivial
  case body =>
    intro l pre x a' W _ _ _ _ hlen
    simp [flatFrom] at hlen
  case done =>
    rintro D ys W hD hys ⟨⟨h1, h2⟩, hB⟩ hK
    have r0 := cell_of_block h1 0
    have r1 := cell_of_block h1 1
    have r2 := cell_of_block h1 2
    have r3 := cell_of_block h1 3
    have c0 := cell_of_block h2 0
    have hf : W.frozen? ⟨w.heap.size + 1, 0, none⟩ = false := frozen_of_block h2 0
    simp [nil4] at c0 r0 r1 r2 r3
    have H2 := Lib.hid h2
    have HK := Lib.hid hK
    clear h1 h2 hK
    go_wp2_with fail
    go_loop [28] (fun i => ∃ k : Nat, k ≤ 3 ∧ i = .int .i64 k) (fun i => 3 - (intOf i).toNat)
    case atStart => exact ⟨0, by omega, rfl⟩
    case round =>
      obtain ⟨k, hk, rfl⟩ := hrel
      by_cases hlt : k < 3
      · have hck : W.cell? ⟨w.heap.size, 1 + k, none⟩ = some (.slice none 0 0) := by
          match k, hlt with
          | 0, _ => exact r1
          | 1, _ => exact r2
          | 2, _ => exact r3
        clear r0 r1 r2 r3
        go_wp2_with fail
        go_loop [8] (fun i => i = .int .i64 1) (fun _ => 0)
        case atStart => rfl
        case round =>
          subst hrel
          go_wp2_with fail
          exact ⟨⟨k + 1, by omega, by go_num⟩, by simp [intOf]; omega⟩
      · have hkn : ¬ (k : Int) < 3 := by omega
        go_wp2_with fail
        have q1 := heap_setCell_of H2.out 0 (.int .i64 0)
        have q2 : Keep (· ≠ w.heap.size + 1) W (W.setCell ⟨w.heap.size + 1, 0, none⟩ (.int .i64 0)) := (Keep.refl _ _).setCell (a := ⟨w.heap.size + 1, 0, none⟩) (fun _ hf => hf rfl) _
        revert q1 q2
        generalize W.setCell ⟨w.heap.size + 1, 0, none⟩ (.int .i64 0) = W2
        intro q1 q2
        have hDw : W0.heap.size ≤ D := hD
        have hK2 := (q2.block D (heap_lt HK.out) (by omega)).trans HK.out
        refine ⟨by simp, .inl ⟨_, _, rfl, run_takeDeferred hK2, ?_⟩⟩
        have q3 : (W2.putObj D (.deferred none)).heap[w.heap.size + 1]? = _ := (World.putObj_heap_other (by omega)).trans q1
        have g0 := cell_of_block q3 0
        simp at g0
        refine ⟨.int .i64 0, ?_, rfl, ((hB.trans ((q2.mono (fun g _ hf => by omega)).below hB.size))).trans (belowK_b (w := w) (Nat.le_refl _) W2 D _ _ (by omega) hK2 rfl rfl)⟩
        simp [results, Try.f92, go_sem, g0]
  case stop =>
    intro D c pre W _ _ h _
    exact h.elim

set_option maxRecDepth 100000 in
set_option maxHeartbeats 2000000 in
/-- An edit without tables, on the empty version. -/
theorem vapply_nil (w : World) (A D : Option Addr) (ac dc : Nat) :
    Calls Try.prog 36 #[.agg nil4, .agg #[.slice A 0 ac, .slice D 0 dc]] w fun e w' => e = .returned (.tuple #[.agg nil4, .int .i64 0]) ∧ Below w.heap.size w w' := by
  unfold nil4
  go_enter Try.func36, Try.ntmps36
  go_wp2_with fail
  have hv := heap_alloc_new w (.cells nil4 92)
  have he := heap_alloc_new (w.alloc (.cells nil4 92)) (.cells #[.slice A 0 ac, .slice D 0 dc] 27)
  have hr := heap_alloc_new ((w.alloc (.cells nil4 92)).alloc (.cells #[.slice A 0 ac, .slice D 0 dc] 27)) (.cells nil4 92)
  simp only [World.size_alloc] at he hr
  have hB0 : Below w.heap.size w (((w.alloc (.cells nil4 92)).alloc (.cells #[.slice A 0 ac, .slice D 0 dc] 27)).alloc (.cells nil4 92)) := (((Below.refl _ w).alloc (Nat.le_refl _) _).alloc (by simp) _).alloc (by simp; omega) _
  have he2 := (Below.heap_alloc ((w.alloc (.cells nil4 92)).alloc (.cells #[.slice A 0 ac, .slice D 0 dc] 27)) (.cells nil4 92) (w.heap.size + 1) (by simp)).trans he
  have hv2 := (Below.heap_alloc ((w.alloc (.cells nil4 92)).alloc (.cells #[.slice A 0 ac, .slice D 0 dc] 27)) (.cells nil4 92) w.heap.size (by simp; omega)).trans ((Below.heap_alloc (w.alloc (.cells nil4 92)) (.cells #[.slice A 0 ac, .slice D 0 dc] 27) w.heap.size (by simp)).trans hv)
  clear hv he
  unfold nil4 at hv2 he2 hr hB0
  generalize (((w.alloc (.cells #[.slice none 0 0, .slice none 0 0, .slice none 0 0, .slice none 0 0] 92)).alloc (.cells #[.slice A 0 ac, .slice D 0 dc] 27)).alloc (.cells #[.slice none 0 0, .slice none 0 0, .slice none 0 0, .slice none 0 0] 92)) = y at *
  refine (copied_nil w.heap.size y hv2).mono ?_
  rintro e w1 ⟨rfl, hb1⟩
  have he3 := (hb1.block _ (heap_lt he2)).trans he2
  have hr3 := (hb1.block _ (heap_lt hr)).trans hr
  have hB1 : Below w.heap.size w w1 := hB0.trans (hb1.mono hB0.size)
  have ce0 := cell_of_block he3 0
  have ce1 := cell_of_block he3 1
  simp at ce0 ce1
  have HE := Lib.hid he3
  have HR := Lib.hid hr3
  have hle := heap_lt he3
  have hlr := heap_lt hr3
  have HB1 := Lib.hid hB1
  clear hb1 he2 hr hB0 hv2 he3 hr3 hB1
  unfold nil4
  go_wp2_with fail
  go_loop [21] (fun i => i = .int .i64 0) (fun _ => 0)
  case atStart => rfl
  case round =>
    subst hrel
    go_wp2_with fail
    go_loop [73] (fun i => i = .int .i64 0) (fun _ => 0)
    case atStart => rfl
    case round =>
      subst hrel
      go_wp2_with fail
      refine (vcheck_nil _).mono ?_
      rintro e w2 ⟨rfl, hb2⟩
      have hm := heap_alloc_new w1 (.cells #[.slice none 0 0, .slice none 0 0, .slice none 0 0, .slice none 0 0] 92)
      have hm2 := (hb2.block _ (heap_lt hm)).trans hm
      have hr4 := (hb2.block _ (by simp; omega)).trans ((Below.heap_alloc w1 (.cells #[.slice none 0 0, .slice none 0 0, .slice none 0 0, .slice none 0 0] 92) _ hlr).trans HR.out)
      have c0 := cell_of_block hm2 0
      have c1 := cell_of_block hm2 1
      have c2 := cell_of_block hm2 2
      have c3 := cell_of_block hm2 3
      have r0 := cell_of_block hr4 0
      have r1 := cell_of_block hr4 1
      have r2 := cell_of_block hr4 2
      have r3 := cell_of_block hr4 3
      have hf : ∀ i, w2.frozen? ⟨w.heap.size + 1 + 1, i, none⟩ = false := fun i => frozen_of_block hr4 i
      simp at c0 c1 c2 c3 r0 r1 r2 r3
      have hB2 : Below w.heap.size w w2 := (HB1.out.alloc HB1.out.size _).trans (hb2.mono (by have := HB1.out.size; simp; omega))
      have HB2 := Lib.hid hB2
      have HR4 := Lib.hid hr4
      clear hb2 hm hm2 hr4 hB2
      go_wp2_with fail
      have hq := box4_set HR4.out (.slice none 0 0) (.slice none 0 0) (.slice none 0 0) (.slice none 0 0)
      revert hq
      generalize (((w2.setCell ⟨w.heap.size + 1 + 1, 0, none⟩ (.slice none 0 0)).setCell ⟨w.heap.size + 1 + 1, 1, none⟩ (.slice none 0 0)).setCell ⟨w.heap.size + 1 + 1, 2, none⟩ (.slice none 0 0)).setCell ⟨w.heap.size + 1 + 1, 3, none⟩ (.slice none 0 0) = W'
      rintro ⟨q1, q2⟩
      have g0 := cell_of_block q1 0
      have g1 := cell_of_block q1 1
      have g2 := cell_of_block q1 2
      have g3 := cell_of_block q1 3
      simp at g0 g1 g2 g3
      refine bodyPost_ret (v := .tuple #[.agg #[.slice none 0 0, .slice none 0 0, .slice none 0 0, .slice none 0 0], .int .i64 0]) (by simp [results, Try.results36, go_sem, g0, g1, g2, g3]) rfl ?_
      exact ⟨rfl, HB2.out.trans ((q2.mono (fun g _ hf => by omega)).below HB2.out.size)⟩
end Go.Proofs.Ytejfejckmhoolaa
