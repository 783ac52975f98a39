/- manifest.Parse: the walk. -/
import Derived.Test.YtejfejckmhoolaaPs
set_option linter.unusedSimpArgs false
set_option linter.unusedVariables false
namespace Go.Proofs.Ytejfejckmhoolaa
open Go.RowKit

def ParsePost (w : World) (o : Option Rec) (e : Ending) (w' : World) : Prop :=
  Below w.heap.size w w' ∧ match o with
  | none => e = .returned (.tuple #[.agg #[.bool false, .int .i64 0, .slice none 0 0, .slice none 0 0, .slice none 0 0], .int .i64 20])
  | some r => ∃ lv av dv ps, e = .returned (.tuple #[.agg (recCells r lv av dv).toArray, .int .i64 0]) ∧ ps.map (·.1) = r.add ∧ Ints w' (fun _ => True) lv r.logs ∧ Ints w' (fun _ => True) dv r.drop ∧ RdPlaces w' (fun _ => True) 119 122 av ps

set_option maxRecDepth 100000 in
set_option maxHeartbeats 2000000 in
theorem parse_any {Tb : TypeId} (w : World) (F0 : Nat → Prop) (bv : Value) (b : Byts) (hb : Rows w F0 Tb 1 bv b.length (b.map byteV)) (hl : b.length ≤ 1000000) :
    Calls Try.prog 11 #[bv] w (ParsePost w (parseRec b)) := by
  obtain ⟨A0, n0, c0, rfl⟩ : ∃ A n c, bv = .slice A n c := by
    obtain ⟨_, A, c, h, _⟩ := hb
    exact ⟨A, _, c, h⟩
  have hnr := fun o => newReader_any (w.alloc o) F0 _ b (hb.alloc o) hl
  have HNR := Lib.hid hnr
  clear hnr hb
  obtain ⟨H, hH⟩ : ∃ H, Hid (H = w.heap.size) := ⟨_, rfl⟩
  go_enter Try.func11, Try.ntmps11
  go_wp2_with (go_at_call 42; refine (HNR.out _).mono ?_; rintro e w1 ⟨R, rfl, hr1, hRR, hb1⟩)
  obtain ⟨w2, hw2⟩ : ∃ w2, Hid (w2 = (w1.alloc (.cells #[.pointer (some ⟨R, 0, none⟩), .bool false] 111)).alloc (.cells #[.bool false, .int .i64 0, .slice none 0 0, .slice none 0 0, .slice none 0 0] 29)) := ⟨_, rfl⟩
  have HP : Hid (PS w w2 (w.heap.size ≤ ·) w.heap.size (w1.heap.size + 1) w1.heap.size R (some b) false (.bool false) (.int .i64 0) (.slice none 0 0) (.slice none 0 0) (.slice none 0 0) [] []) := by
    rw [hw2.out]
    have hsz := hb1.size
    simp only [World.size_alloc] at hsz hRR hb1 hr1
    have hRl := hr1.lt
    have hr1' : Rdr w1 (w.heap.size ≤ ·) R (some b) := by
      obtain ⟨v, x1, x2, x3⟩ := hr1
      exact ⟨v, x1, Rows.mono x2 (fun g _ hg => by omega), x3⟩
    have k0 : Keep (· < w.heap.size) w w1 := Keep.of_below (((Below.refl w.heap.size w).alloc (Nat.le_refl _) _).trans (hb1.mono (by omega))) (fun g _ hf => hf)
    have z1 := heap_alloc_new w1 (.cells #[.pointer (some ⟨R, 0, none⟩), .bool false] 111)
    have z2 := heap_alloc_new (w1.alloc (.cells #[.pointer (some ⟨R, 0, none⟩), .bool false] 111)) (.cells #[.bool false, .int .i64 0, .slice none 0 0, .slice none 0 0, .slice none 0 0] 29)
    rw [World.size_alloc] at z2
    refine ⟨⟨?_, (hr1'.alloc _).alloc _⟩, z2, ?_, Rows.nil _ _ _ _ _ _, Rows.nil _ _ _ _ _ _, (k0.alloc _).alloc _, by omega, by omega, by omega⟩
    · rw [Below.heap_alloc _ _ _ (by simp)]; exact z1
    · rw [Below.heap_alloc _ _ _ (by simp; omega), Below.heap_alloc _ _ _ (by omega), hb1.block _ (by omega)]
      exact heap_alloc_new w _
  rw [← hw2.out]
  clear hr1 hRR hb1 hw2 HNR
  generalize w1.heap.size = S at *
  generalize hHe : w.heap.size = H0 at *
  (refine (number_any R _ _ _ HP.out.src.2).mono ?_; rintro e w3 ⟨rfl, hr, hk⟩; have HP2 := Lib.hid (HP.out.step (HP.out.src.step hr hk) (keep_RS hk)); clear hr hk HP; generalize e1 : (numS (some b)).1 = wh at *; generalize e2 : (numS (some b)).2 = s1 at *; have E1 := Lib.hid e1; have E2 := Lib.hid e2; clear e1 e2)
  (obtain ⟨⟨d0, d1⟩, ⟨c0', c1', c2', c3', c4'⟩, hfr, hlr, hlS, hlR, n1, n2, n3, n4⟩ := HP2.out.facts)
  go_wp2_with fail
  have HP3 := Lib.hid (HP2.out.set 0 (.bool ((wh : Int) == 1)) rfl HP2.out.logs HP2.out.drop)
  clear HP2
  (clear d0 d1 c0' c1' c2' c3' c4' hfr hlr hlS hlR n1 n2 n3 n4)
  (refine (number_any R _ _ _ HP3.out.src.2).mono ?_; rintro e w4 ⟨rfl, hr, hk⟩; have HP4 := Lib.hid (HP3.out.step (HP3.out.src.step hr hk) (keep_RS hk)); clear hr hk HP3; generalize e1 : (numS s1).1 = sq at *; generalize e2 : (numS s1).2 = s2 at *; have E3 := Lib.hid e1; have E4 := Lib.hid e2; clear e1 e2)
  (obtain ⟨⟨d0, d1⟩, ⟨c0', c1', c2', c3', c4'⟩, hfr, hlr, hlS, hlR, n1, n2, n3, n4⟩ := HP4.out.facts)
  go_wp2_with fail
  have HP5 := Lib.hid (HP4.out.set 1 (.int .i64 (sq : Int)) rfl HP4.out.logs HP4.out.drop)
  clear HP4
  (clear d0 d1 c0' c1' c2' c3' c4' hfr hlr hlS hlR n1 n2 n3 n4)
  refine (slist_any _ _ S R s2 false HP5.out.src).mono ?_
  rintro e w5 ⟨lv, rfl, hown, hs, hk⟩
  have HP6 := Lib.hid (HP5.out.step hs hk)
  generalize e1 : listS s2 false = l1 at *
  obtain ⟨lg, s3, b3⟩ := l1
  simp only at hown HP6
  have E5 := Lib.hid e1
  have HL := Lib.hid (show Ints w5 (fun _ => True) lv lg from (Rows.of_own hown).mono (fun _ _ _ => trivial))
  clear e1 hown hs hk HP5
  (obtain ⟨⟨d0, d1⟩, ⟨c0', c1', c2', c3', c4'⟩, hfr, hlr, hlS, hlR, n1, n2, n3, n4⟩ := HP6.out.facts)
  obtain ⟨LA, LN, LC, rfl⟩ : ∃ A n c, lv = .slice A n c := by
    obtain ⟨_, A, c, h, _⟩ := HL.out
    exact ⟨A, _, c, h⟩
  go_wp2_with fail
  have HP7 := Lib.hid (HP6.out.set 2 (.slice LA LN LC) rfl HL.out HP6.out.drop)
  clear HP6 HL
  (clear d0 d1 c0' c1' c2' c3' c4' hfr hlr hlS hlR n1 n2 n3 n4)
  refine (slist_any _ _ S R s3 b3 HP7.out.src).mono ?_
  rintro e w6 ⟨dv, rfl, hown, hs, hk⟩
  have HP8 := Lib.hid (HP7.out.step hs hk)
  generalize e1 : listS s3 b3 = l1 at *
  obtain ⟨dg, s4, b4⟩ := l1
  simp only at hown HP8
  have E6 := Lib.hid e1
  have HL := Lib.hid (show Ints w6 (fun _ => True) dv dg from (Rows.of_own hown).mono (fun _ _ _ => trivial))
  clear e1 hown hs hk HP7
  (obtain ⟨⟨d0, d1⟩, ⟨c0', c1', c2', c3', c4'⟩, hfr, hlr, hlS, hlR, n1, n2, n3, n4⟩ := HP8.out.facts)
  obtain ⟨DA, DN, DC, rfl⟩ : ∃ A n c, dv = .slice A n c := by
    obtain ⟨_, A, c, h, _⟩ := HL.out
    exact ⟨A, _, c, h⟩
  go_wp2_with fail
  have HP9 := Lib.hid (HP8.out.set 4 (.slice DA DN DC) rfl HP8.out.logs HL.out)
  clear HP8 HL
  (clear d0 d1 c0' c1' c2' c3' c4' hfr hlr hlS hlR n1 n2 n3 n4)
  have hcle := count_le s4 b4
  refine (count_any _ _ S R s4 b4 HP9.out.src).mono ?_
  rintro e w7 ⟨rfl, hs, hk⟩
  have HP := Lib.hid (HP9.out.step hs hk)
  generalize e1 : countS s4 b4 = l1 at *
  obtain ⟨nc, s5, b5⟩ := l1
  simp only at HP hcle
  have E7 := Lib.hid e1
  clear e1 hs hk HP9
  have hfront : Hid (frontS (some b) = ((wh, sq, lg, dg, nc), s5, b5)) := by
    unfold Hid
    simp only [frontS, E1.out, E2.out, E3.out, E4.out, E5.out, E6.out, E7.out]
  clear E1 E2 E3 E4 E5 E6 E7
  go_wp2_with fail
  go_loopw [36] (fun i wr => ∃ (k : Nat) (ps : List (Place × Value)) (st : Option Byts) (bad : Bool) (av : Value), i = .int .i64 k ∧ k ≤ nc ∧ ps.length = k ∧ PS w wr (H0 ≤ ·) H0 (S + 1) S R st bad (.bool ((wh : Int) == 1)) (.int .i64 (sq : Int)) (.slice LA LN LC) av (.slice DA DN DC) lg dg ∧ Pls wr H0 av ps ∧ Hid (placesGo nc s5 b5 = (ps.map (·.1) ++ (placesGo (nc - k) st bad).1, (placesGo (nc - k) st bad).2))) (fun i _ => nc - (intOf i).toNat)
  case atStart => exact ⟨0, [], s5, b5, .slice none 0 0, rfl, by omega, rfl, HP.out, ⟨OwnIn.nil _ _ _ _, fun p hp => by cases hp⟩, rfl⟩
  case round =>
    obtain ⟨k, ps, st, bad, av, rfl, hk, hpl, hps, hpp, HE⟩ := hrel
    obtain ⟨wo, rfl⟩ : ∃ w2 : World, w2 = wr := ⟨_, rfl⟩
    have HP := Lib.hid hps
    have HPP := Lib.hid hpp
    have HPL := Lib.hid hpl
    clear hps hpl hpp
    obtain ⟨AA, AC, rfl⟩ := HPP.out.1.form
    (obtain ⟨⟨d0, d1⟩, ⟨c0', c1', c2', c3', c4'⟩, hfr, hlr, hlS, hlR, n1, n2, n3, n4⟩ := HP.out.facts)
    by_cases hlt : k < nc
    · have he := HE.out
      rw [show nc - k = (nc - (k + 1)) + 1 by omega, placesGo] at he
      have HE2 := Lib.hid he
      clear he HE
      go_wp2_with fail
      have HQ : Hid (QS wo (wo.alloc (.cells #[.int .i64 0, .int .i64 0, .int .i64 0, .string ⟨#[]⟩, .int .i64 0, .int .i64 0, .string ⟨#[]⟩, .int .i64 0, .int .i64 0, .slice none 0 0] 119)) (H0 ≤ ·) S R wo.heap.size st bad 119 #[.int .i64 0, .int .i64 0, .int .i64 0, .string ⟨#[]⟩, .int .i64 0, .int .i64 0, .string ⟨#[]⟩, .int .i64 0, .int .i64 0, .slice none 0 0]) :=
        ⟨HP.out.src.alloc _, heap_alloc_new _ _, (Keep.refl _ _).alloc _, Nat.le_refl _, by decide, by decide, by decide⟩
      (clear d0 d1 c0' c1' c2' c3' c4' hfr hlr hlS hlR n1 n2 n3 n4)
      generalize hPe : wo.heap.size = P at *
      (refine (number_any R _ _ _ HQ.out.src.2).mono ?_; rintro e x1 ⟨rfl, hr, hk⟩; have HQ1 := Lib.hid (HQ.out.step (HQ.out.src.step hr hk) (keep_RS hk)); clear hr hk HQ; generalize e1 : (numS st).1 = lv at *; generalize e2 : (numS st).2 = t1 at *; have E1 := Lib.hid e1; have E2 := Lib.hid e2; clear e1 e2)
      (obtain ⟨⟨d0, d1⟩, hfr, hlP, hlS, hlR, n1, n2, n3⟩ := HQ1.out.facts; have p0 := cell_of_block HQ1.out.pl 0; have p1 := cell_of_block HQ1.out.pl 1; have p2 := cell_of_block HQ1.out.pl 2; simp at p0 p1 p2)
      go_wp2_with fail
      have HQ2 := Lib.hid (HQ1.out.set 0 (.int .i64 (lv : Int)))
      clear HQ1
      (clear d0 d1 hfr hlP hlS hlR n1 n2 n3 p0 p1 p2)
      (refine (number_any R _ _ _ HQ2.out.src.2).mono ?_; rintro e x2 ⟨rfl, hr, hk⟩; have HQ3 := Lib.hid (HQ2.out.step (HQ2.out.src.step hr hk) (keep_RS hk)); clear hr hk HQ2; generalize e1 : (numS t1).1 = zn at *; generalize e2 : (numS t1).2 = t2 at *; have E3 := Lib.hid e1; have E4 := Lib.hid e2; clear e1 e2)
      (obtain ⟨⟨d0, d1⟩, hfr, hlP, hlS, hlR, n1, n2, n3⟩ := HQ3.out.facts; have p0 := cell_of_block HQ3.out.pl 0; have p1 := cell_of_block HQ3.out.pl 1; have p2 := cell_of_block HQ3.out.pl 2; simp at p0 p1 p2)
      go_wp2_with fail
      have HQ4 := Lib.hid (HQ3.out.set 1 (.int .i64 (zn : Int)))
      clear HQ3
      (clear d0 d1 hfr hlP hlS hlR n1 n2 n3 p0 p1 p2)
      (refine (number_any R _ _ _ HQ4.out.src.2).mono ?_; rintro e x3 ⟨rfl, hr, hk⟩; have HQ5 := Lib.hid (HQ4.out.step (HQ4.out.src.step hr hk) (keep_RS hk)); clear hr hk HQ4; generalize e1 : (numS t2).1 = ln at *; generalize e2 : (numS t2).2 = t3 at *; have E5 := Lib.hid e1; have E6 := Lib.hid e2; clear e1 e2)
      (obtain ⟨⟨d0, d1⟩, hfr, hlP, hlS, hlR, n1, n2, n3⟩ := HQ5.out.facts; have p0 := cell_of_block HQ5.out.pl 0; have p1 := cell_of_block HQ5.out.pl 1; have p2 := cell_of_block HQ5.out.pl 2; simp at p0 p1 p2)
      go_wp2_with fail
      have HQ6 := Lib.hid (HQ5.out.set 2 (.int .i64 (ln : Int)))
      clear HQ5
      (clear d0 d1 hfr hlP hlS hlR n1 n2 n3 p0 p1 p2)
      (refine (skey_any _ _ S R t3 bad HQ6.out.src).mono ?_; rintro e x4 ⟨rfl, hs, hk⟩; have HQ7 := Lib.hid (HQ6.out.step hs hk); clear hs hk HQ6; generalize e1 : skeyS t3 bad = ky at *; obtain ⟨⟨su, ss, sd⟩, t4, bad4⟩ := ky; have E7 := Lib.hid e1; clear e1; unfold Key.val Key.cells; simp only at HQ7 ⊢)
      (obtain ⟨⟨d0, d1⟩, hfr, hlP, hlS, hlR, n1, n2, n3⟩ := HQ7.out.facts; have p0 := cell_of_block HQ7.out.pl 3; have p1 := cell_of_block HQ7.out.pl 4; have p2 := cell_of_block HQ7.out.pl 5; simp at p0 p1 p2)
      go_wp2_with fail
      have HQ8 := Lib.hid (((HQ7.out.set 3 (.string su)).set 4 (.int .i64 ss)).set 5 (.int .i64 sd))
      clear HQ7
      (clear d0 d1 hfr hlP hlS hlR n1 n2 n3 p0 p1 p2)
      (refine (skey_any _ _ S R t4 bad4 HQ8.out.src).mono ?_; rintro e x5 ⟨rfl, hs, hk⟩; have HQ9 := Lib.hid (HQ8.out.step hs hk); clear hs hk HQ8; generalize e1 : skeyS t4 bad4 = ky at *; obtain ⟨⟨lu, ls, ld⟩, t5, bad5⟩ := ky; have E8 := Lib.hid e1; clear e1; unfold Key.val Key.cells; simp only at HQ9 ⊢)
      (obtain ⟨⟨d0, d1⟩, hfr, hlP, hlS, hlR, n1, n2, n3⟩ := HQ9.out.facts; have p0 := cell_of_block HQ9.out.pl 6; have p1 := cell_of_block HQ9.out.pl 7; have p2 := cell_of_block HQ9.out.pl 8; simp at p0 p1 p2)
      go_wp2_with fail
      have HQ10 := Lib.hid (((HQ9.out.set 6 (.string lu)).set 7 (.int .i64 ls)).set 8 (.int .i64 ld))
      clear HQ9
      (clear d0 d1 hfr hlP hlS hlR n1 n2 n3 p0 p1 p2)
      have hcle2 := count_le t5 bad5
      refine (count_any _ _ S R t5 bad5 HQ10.out.src).mono ?_
      rintro e x6 ⟨rfl, hs, hk2⟩
      have HQ11 := Lib.hid (HQ10.out.step hs hk2)
      generalize e1 : countS t5 bad5 = l1 at *
      obtain ⟨c, t6, bad6⟩ := l1
      simp only at HQ11 hcle2
      have E9 := Lib.hid e1
      clear e1 hs hk2 HQ10
      have hhead : Hid (headS st bad = ((lv, zn, ln, ⟨su, ss, sd⟩, ⟨lu, ls, ld⟩, c), t6, bad6)) := by
        unfold Hid
        simp only [headS, E1.out, E2.out, E3.out, E4.out, E5.out, E6.out, E7.out, E8.out, E9.out]
      clear E1 E2 E3 E4 E5 E6 E7 E8 E9
      go_wp2_with fail
      have hq12 := HQ11.out
      simp only [List.setIfInBounds_toArray, List.set_cons_succ, List.set_cons_zero] at hq12
      have HQ := Lib.hid hq12
      clear hq12
      clear HQ11
      go_loopw [68] (fun i wr => ∃ (j : Nat) (refs : List Ref) (st2 : Option Byts) (rv : Value), i = .int .i64 j ∧ j ≤ c ∧ refs.length = j ∧ QS wo wr (H0 ≤ ·) S R P st2 bad6 119 #[.int .i64 (lv : Int), .int .i64 (zn : Int), .int .i64 (ln : Int), .string su, .int .i64 ss, .int .i64 sd, .string lu, .int .i64 ls, .int .i64 ld, rv] ∧ OwnIn wr (fun g => P < g) 122 2 rv j (refs.flatMap refCells) ∧ Hid (refsGo c t6 = (refs ++ (refsGo (c - j) st2).1, (refsGo (c - j) st2).2))) (fun i _ => c - (intOf i).toNat)
      case atStart => exact ⟨0, [], t6, .slice none 0 0, rfl, by omega, rfl, HQ.out, OwnIn.nil _ _ _ _, rfl⟩
      case round =>
        obtain ⟨j, refs, st2, rv, rfl, hj, hrl, hq, hown, HE⟩ := hrel
        obtain ⟨wq, rfl⟩ : ∃ w2 : World, w2 = wr := ⟨_, rfl⟩
        obtain ⟨RA, RC, rfl⟩ := hown.form
        have HO := Lib.hid hown
        have HQ := Lib.hid hq
        have HRL := Lib.hid hrl
        clear hown hq hrl
        by_cases hlt2 : j < c
        · have he := HE.out
          rw [show c - j = (c - (j + 1)) + 1 by omega, refsGo] at he
          have HE3 := Lib.hid he
          clear he HE
          (obtain ⟨⟨d0, d1⟩, hfr, hlP, hlS, hlR, n1, n2, n3⟩ := HQ.out.facts; have p0 := cell_of_block HQ.out.pl 9; have p1 := cell_of_block HQ.out.pl 9; have p2 := cell_of_block HQ.out.pl 9; simp at p0 p1 p2)
          go_wp2_with fail
          have HX : Hid (QS wq (wq.alloc (.cells #[.int .i64 0, .int .i64 0] 122)) (H0 ≤ ·) S R wq.heap.size st2 bad6 122 #[.int .i64 0, .int .i64 0]) :=
            ⟨HQ.out.src.alloc _, heap_alloc_new _ _, (Keep.refl _ _).alloc _, Nat.le_refl _, by decide, by decide, by decide⟩
          have hPq := hlP
          (clear d0 d1 hfr hlP hlS hlR n1 n2 n3 p0 p1 p2)
          generalize hXe : wq.heap.size = X at *
          (refine (number_any R _ _ _ HX.out.src.2).mono ?_; rintro e y1 ⟨rfl, hr, hk⟩; have HX1 := Lib.hid (HX.out.step (HX.out.src.step hr hk) (keep_RS hk)); clear hr hk HX; generalize e1 : (numS st2).1 = z at *; generalize e2 : (numS st2).2 = st3 at *; have E1 := Lib.hid e1; have E2 := Lib.hid e2; clear e1 e2)
          (obtain ⟨⟨d0, d1⟩, hfr, hlP, hlS, hlR, n1, n2, n3⟩ := HX1.out.facts; have p0 := cell_of_block HX1.out.pl 0; have p1 := cell_of_block HX1.out.pl 1; have p2 := cell_of_block HX1.out.pl 0; simp at p0 p1 p2)
          go_wp2_with fail
          have HX2 := Lib.hid (HX1.out.set 0 (.int .i64 (z : Int)))
          clear HX1
          (clear d0 d1 hfr hlP hlS hlR n1 n2 n3 p0 p1 p2)
          (refine (number_any R _ _ _ HX2.out.src.2).mono ?_; rintro e y2 ⟨rfl, hr, hk⟩; have HX3 := Lib.hid (HX2.out.step (HX2.out.src.step hr hk) (keep_RS hk)); clear hr hk HX2; generalize e1 : (numS st3).1 = y at *; generalize e2 : (numS st3).2 = st4 at *; have E3 := Lib.hid e1; have E4 := Lib.hid e2; clear e1 e2)
          (obtain ⟨⟨d0, d1⟩, hfr, hlP, hlS, hlR, n1, n2, n3⟩ := HX3.out.facts; have p0 := cell_of_block HX3.out.pl 0; have p1 := cell_of_block HX3.out.pl 1; have p2 := cell_of_block HX3.out.pl 0; simp at p0 p1 p2)
          have HX4 := Lib.hid (HX3.out.set 1 (.int .i64 (y : Int)))
          have HQ3 := Lib.hid (HQ.out.step HX4.out.src HX4.out.keep)
          have HO4 := Lib.hid (HO.out.keepT HX4.out.keep (fun g _ _ ht => HQ.out.src.far ht (by decide) (by decide)))
          go_upto_region 21 with fail
          clear HX3
          (clear d0 d1 hfr hlP hlS hlR n1 n2 n3 p0 p1 p2)
          generalize y2.setCell ⟨X, 1, none⟩ (.int .i64 (y : Int)) = y3 at *
          have x0 := cell_of_block HX4.out.pl 0
          have x1 := cell_of_block HX4.out.pl 1
          have q9 := cell_of_block HQ3.out.pl 9
          simp at x0 x1 q9
          have hPX : P < X := by omega
          have hPX1 : P ≠ X := by omega
          have hPX2 : X ≠ P := by omega
          have hX3 := heap_lt HX4.out.pl
          have hbyt : (j + 1) * 16 ≤ 140737488355328 := by omega
          have hcel : ∀ u ∈ [Value.int .i64 (z : Int), .int .i64 (y : Int)], u.oneCell' = true := by simp [Value.oneCell']
          have HCEL := Lib.hid hcel
          have HBYT := Lib.hid hbyt
          clear hcel hbyt
          go_wp2_with (at_builtin; refine wpList_append_one rfl (.tmp 84) (.tmp 86) _ rfl ei_ref (.slice RA j RC) j _ rfl HO4.out.1 [.int .i64 (z : Int), .int .i64 (y : Int)] 1 rfl (Nat.le_refl _) rfl HCEL.out HBYT.out (Nat.zero_le _) ?_; intro v3 w3 hown3 hg3 hb3; obtain ⟨A3, c3, rfl⟩ := own_form hown3; have hqa := HQ3.out.app HO4.out (fun g hg => by have hg2 : P < g := hg; omega) hg3 (by decide) (by decide) (by decide) (by decide); have q9' := cell_of_block hqa.pl 9; have g9' := frozen_of_block hqa.pl 9; simp at q9'; have HQA := Lib.hid hqa; clear hqa)
          obtain ⟨ho3, _⟩ := HO4.out.step (fun g hg => by omega) hown3 hg3 (hb3.imp id fun e => ⟨_, e, by omega⟩)
          have ho5 := ho3.keepT ((Keep.refl (· ≠ P) w3).setCell (a := ⟨P, 9, none⟩) (fun _ hf => hf rfl) (.slice A3 (j + 1) c3)) (fun g _ _ ht => by
            rintro rfl
            rw [tyOf_of HQA.out.pl] at ht
            injection ht with ht
            revert ht
            decide)
          have hq13 := HQA.out.set 9 (.slice A3 (j + 1) c3)
          simp only [List.setIfInBounds_toArray, List.set_cons_succ, List.set_cons_zero] at hq13
          refine ⟨⟨j + 1, refs ++ [⟨z, y⟩], st4, .slice A3 (j + 1) c3, by simp, by omega, by simp [HRL.out], hq13, by simpa [refCells] using ho5, ?_⟩, by simp [intOf]; omega⟩
          unfold Hid
          rw [HE3.out]
          simp
        · have hjc : j = c := by omega
          have he := HE.out
          rw [show c - j = 0 by omega, refsGo, List.append_nil] at he
          have hplace : Hid (placeS st bad = (⟨lv, ⟨zn, ln, ⟨su, ss, sd⟩, ⟨lu, ls, ld⟩, refs⟩⟩, st2, bad6)) := by
            unfold Hid
            simp only [placeS, hhead.out, he]
          clear he HE hhead hcle2 hjc
          have HP1 := Lib.hid (HP.out.step HQ.out.src HQ.out.keep)
          have HPP1 := Lib.hid (HPP.out.src HP.out.src HQ.out.keep)
          have hrr : Hid (RdRefs wq (fun _ => True) 122 (.slice RA j RC) refs) := by
            unfold Hid RdRefs
            rw [HRL.out]
            exact HO.out.rows.mono (fun _ _ _ => trivial)
          clear HP HPP HO
          (obtain ⟨⟨d0, d1⟩, ⟨c0', c1', c2', c3', c4'⟩, hfr, hlr, hlS, hlR, n1, n2, n3, n4⟩ := HP1.out.facts)
          have p0 := cell_of_block HQ.out.pl 0
          have p1 := cell_of_block HQ.out.pl 1
          have p2 := cell_of_block HQ.out.pl 2
          have p3 := cell_of_block HQ.out.pl 3
          have p4 := cell_of_block HQ.out.pl 4
          have p5 := cell_of_block HQ.out.pl 5
          have p6 := cell_of_block HQ.out.pl 6
          have p7 := cell_of_block HQ.out.pl 7
          have p8 := cell_of_block HQ.out.pl 8
          have p9 := cell_of_block HQ.out.pl 9
          simp at p0 p1 p2 p3 p4 p5 p6 p7 p8 p9
          have HBYT : Hid ((ps.length + 1) * 112 ≤ 140737488355328) := by
            have := HPL.out
            unfold Hid
            omega
          have HCEL : Hid (∀ u ∈ [Value.int .i64 (lv : Int), .int .i64 (zn : Int), .int .i64 (ln : Int), .string su, .int .i64 ss, .int .i64 sd, .string lu, .int .i64 ls, .int .i64 ld, .slice RA j RC], u.oneCell' = true) := by
            unfold Hid
            simp [Value.oneCell']
          go_wp2_with (at_builtin; go_loud (refine wpList_append_one rfl (.tmp 93) (.tmp 95) _ rfl ei_place (.slice AA ps.length AC) ps.length _ rfl HPP1.out.1.1 [.int .i64 (lv : Int), .int .i64 (zn : Int), .int .i64 (ln : Int), .string su, .int .i64 ss, .int .i64 sd, .string lu, .int .i64 ls, .int .i64 ld, .slice RA j RC] 1 rfl (Nat.le_refl _) rfl HCEL.out HBYT.out (Nat.zero_le _) ?_); intro v3 w3 hown3 hg3 hb3; go_loud (obtain ⟨A3, c3, rfl⟩ := own_form hown3); go_loud (have q9 := cell_of_block (HP1.out.growRec HPP1.out hg3) 3); have g9 := frozen_of_block (HP1.out.growRec HPP1.out hg3) 3; simp at q9)
          have hfinal := HP1.out.grow (p := (⟨lv, ⟨zn, ln, ⟨su, ss, sd⟩, ⟨lu, ls, ld⟩, refs⟩⟩, .slice RA j RC)) HPP1.out hrr.out hown3 hg3 hb3
          refine ⟨⟨k + 1, _, st2, bad6, _, by simp, by omega, ?_, hfinal.1, hfinal.2, ?_⟩, by simp [intOf]; omega⟩
          · simp [HPL.out]
          · unfold Hid
            rw [HE2.out, hplace.out]
            simp
    · have he := HE.out
      rw [show nc - k = 0 by omega, placesGo, List.append_nil] at he
      have hlg := front_len (some b)
      rw [hfront.out] at hlg
      simp only at hlg
      have HNC : Hid (ps.length ≤ 64) := by have := HPL.out; unfold Hid; omega
      have hpln := places_len nc s5 b5
      rw [he] at hpln
      have hrec : Hid (recS (some b) = (wh, ⟨((wh : Int) == 1), sq, lg, ps.map (·.1), dg⟩, st, bad)) := by
        unfold Hid
        simp only [recS, hfront.out, he]
      have hpr : Hid (parseRec b = if bad || decide (1 < wh) || decide (doneS st ≠ 0) || !recOk ⟨((wh : Int) == 1), sq, lg, ps.map (·.1), dg⟩ then none else some ⟨((wh : Int) == 1), sq, lg, ps.map (·.1), dg⟩) := by
        unfold Hid parseRec
        rw [hrec.out]
      have HLG := Lib.hid hlg
      have HPN := Lib.hid hpln
      clear he HE hfront hrec hlg hpln hcle
      have h0 := cell_of_block HP.out.out 0
      have h1 := cell_of_block HP.out.out 1
      have h2 := cell_of_block HP.out.out 2
      have h3 := cell_of_block HP.out.out 3
      have h4 := cell_of_block HP.out.out 4
      have hf0 : ∀ i, wo.frozen? ⟨H0, i, none⟩ = false := fun i => frozen_of_block HP.out.out i
      simp at h0 h1 h2 h3 h4
      cases bad with
      | true =>
        have HN : Hid (parseRec b = none) := hpr.out.trans (by simp)
        clear hpr
        go_wp2_with fail
        (have hcl := box5_set HP.out.out (.bool false) (.int .i64 0) (.slice none 0 0) (.slice none 0 0) (.slice none 0 0); revert hcl; generalize ((((World.setCell wo ⟨H0, 0, none⟩ (.bool false)).setCell ⟨H0, 1, none⟩ (.int .i64 0)).setCell ⟨H0, 2, none⟩ (.slice none 0 0)).setCell ⟨H0, 3, none⟩ (.slice none 0 0)).setCell ⟨H0, 4, none⟩ (.slice none 0 0) = W'; rintro ⟨q1, q2⟩; have g0 := cell_of_block q1 0; have g1 := cell_of_block q1 1; have g2 := cell_of_block q1 2; have g3 := cell_of_block q1 3; have g4 := cell_of_block q1 4; simp at g0 g1 g2 g3 g4; refine bodyPost_end (v := .tuple #[.agg #[.bool false, .int .i64 0, .slice none 0 0, .slice none 0 0, .slice none 0 0], .int .i64 20]) (by simp [results, Try.results11, go_sem, g0, g1, g2, g3, g4]) rfl ?_)
        refine ⟨?_, by rw [HN.out]⟩
        rw [hHe]
        exact (HP.out.keep.trans (q2.mono (fun g _ hf => by omega))).below (by omega)
      | false =>
        by_cases hw : 1 < wh
        · have HN : Hid (parseRec b = none) := hpr.out.trans (by simp [hw])
          have hw2 : (1 : Int) < (wh : Int) := by omega
          clear hpr hw
          go_wp2_with fail
          (have hcl := box5_set HP.out.out (.bool false) (.int .i64 0) (.slice none 0 0) (.slice none 0 0) (.slice none 0 0); revert hcl; generalize ((((World.setCell wo ⟨H0, 0, none⟩ (.bool false)).setCell ⟨H0, 1, none⟩ (.int .i64 0)).setCell ⟨H0, 2, none⟩ (.slice none 0 0)).setCell ⟨H0, 3, none⟩ (.slice none 0 0)).setCell ⟨H0, 4, none⟩ (.slice none 0 0) = W'; rintro ⟨q1, q2⟩; have g0 := cell_of_block q1 0; have g1 := cell_of_block q1 1; have g2 := cell_of_block q1 2; have g3 := cell_of_block q1 3; have g4 := cell_of_block q1 4; simp at g0 g1 g2 g3 g4; refine bodyPost_end (v := .tuple #[.agg #[.bool false, .int .i64 0, .slice none 0 0, .slice none 0 0, .slice none 0 0], .int .i64 20]) (by simp [results, Try.results11, go_sem, g0, g1, g2, g3, g4]) rfl ?_)
          refine ⟨?_, by rw [HN.out]⟩
          rw [hHe]
          exact (HP.out.keep.trans (q2.mono (fun g _ hf => by omega))).below (by omega)
        · have hw2 : ¬ (1 : Int) < (wh : Int) := by omega
          have hdn := done_any R wo _ st HP.out.src.2
          by_cases hd : doneS st = 0
          · rw [hd] at hdn
            have HDN := Lib.hid hdn
            have hpr2 : Hid (parseRec b = if !recOk ⟨((wh : Int) == 1), sq, lg, ps.map (·.1), dg⟩ then none else some ⟨((wh : Int) == 1), sq, lg, ps.map (·.1), dg⟩) := hpr.out.trans (by simp [hw, hd])
            have hA : RdPlaces wo (fun _ => True) 119 122 (.slice AA ps.length AC) ps :=
              ⟨HPP.out.1.rows.mono (fun _ _ _ => trivial), fun p hp => ⟨HPP.out.2 p hp, by
                have := HPN.out.2 p.1 (List.mem_map.2 ⟨p, hp, rfl⟩)
                omega⟩⟩
            have hck := recCheck_any wo (fun _ => True) ⟨((wh : Int) == 1), sq, lg, ps.map (·.1), dg⟩ (.slice LA LN LC) (.slice AA ps.length AC) (.slice DA DN DC) ps HP.out.logs HP.out.drop hA rfl (by have := HLG.out; simp only; omega) (by have := HLG.out; simp only; omega) (by have := HNC.out; simp only [List.length_map]; omega)
            unfold recCells at hck
            simp only at hck
            have HA := Lib.hid hA
            have HRC := Lib.hid hck
            clear hpr hw hd hdn hA hck
            (obtain ⟨⟨d0, d1⟩, ⟨c0', c1', c2', c3', c4'⟩, hfr, hlr, hlS, hlR, n1, n2, n3, n4⟩ := HP.out.facts)
            clear d0
            have hH0 : H0 < wo.heap.size := heap_lt HP.out.out
            generalize hro : recOk ⟨((wh : Int) == 1), sq, lg, ps.map (·.1), dg⟩ = ro at *
            cases ro with
            | false =>
              have HN : Hid (parseRec b = none) := hpr2.out.trans (by simp)
              have hck2 := HRC.out
              simp only [errOf_false] at hck2
              have HCK := Lib.hid hck2
              clear hpr2 HRC hck2 hro
              go_wp2_with (first | (go_at_call 47; refine (HDN.out).mono ?_; rintro e w1 ⟨rfl, rfl⟩) | (go_at_call 14; refine (HCK.out).mono ?_; rintro e w1 ⟨rfl, hb1⟩; obtain ⟨r1, r2⟩ := below_rules hb1))
              (have hcl := box5_set ((hb1.block H0 hH0).trans HP.out.out) (.bool false) (.int .i64 0) (.slice none 0 0) (.slice none 0 0) (.slice none 0 0); revert hcl; generalize ((((World.setCell w1 ⟨H0, 0, none⟩ (.bool false)).setCell ⟨H0, 1, none⟩ (.int .i64 0)).setCell ⟨H0, 2, none⟩ (.slice none 0 0)).setCell ⟨H0, 3, none⟩ (.slice none 0 0)).setCell ⟨H0, 4, none⟩ (.slice none 0 0) = W'; rintro ⟨q1, q2⟩; have g0 := cell_of_block q1 0; have g1 := cell_of_block q1 1; have g2 := cell_of_block q1 2; have g3 := cell_of_block q1 3; have g4 := cell_of_block q1 4; simp at g0 g1 g2 g3 g4; refine bodyPost_end (v := .tuple #[.agg #[.bool false, .int .i64 0, .slice none 0 0, .slice none 0 0, .slice none 0 0], .int .i64 20]) (by simp [results, Try.results11, go_sem, g0, g1, g2, g3, g4]) rfl ?_)
              refine ⟨?_, by rw [HN.out]⟩
              rw [hHe]
              have hz1 := hb1.size
              exact ((HP.out.keep.trans (Keep.of_below hb1 (fun g _ hf => by omega))).trans (q2.mono (fun g _ hf => by omega))).below (by omega)
            | true =>
              have HN : Hid (parseRec b = some ⟨((wh : Int) == 1), sq, lg, ps.map (·.1), dg⟩) := hpr2.out.trans (by simp)
              have hck2 := HRC.out
              simp only [errOf_true] at hck2
              have HCK := Lib.hid hck2
              clear hpr2 HRC hck2 hro
              go_wp2_with (first | (go_at_call 47; refine (HDN.out).mono ?_; rintro e w1 ⟨rfl, rfl⟩) | (go_at_call 14; refine (HCK.out).mono ?_; rintro e w1 ⟨rfl, hb1⟩; obtain ⟨r1, r2⟩ := below_rules hb1))
              have hcl := box5_set ((hb1.block H0 hH0).trans HP.out.out) (.bool ((wh : Int) == 1)) (.int .i64 (sq : Int)) (.slice LA LN LC) (.slice AA ps.length AC) (.slice DA DN DC)
              revert hcl
              generalize ((((World.setCell w1 ⟨H0, 0, none⟩ (.bool ((wh : Int) == 1))).setCell ⟨H0, 1, none⟩ (.int .i64 (sq : Int))).setCell ⟨H0, 2, none⟩ (.slice LA LN LC)).setCell ⟨H0, 3, none⟩ (.slice AA ps.length AC)).setCell ⟨H0, 4, none⟩ (.slice DA DN DC) = W'
              rintro ⟨q1, q2⟩
              have g0 := cell_of_block q1 0
              have g1 := cell_of_block q1 1
              have g2 := cell_of_block q1 2
              have g3 := cell_of_block q1 3
              have g4 := cell_of_block q1 4
              simp at g0 g1 g2 g3 g4
              refine bodyPost_end (v := .tuple #[.agg #[.bool ((wh : Int) == 1), .int .i64 (sq : Int), .slice LA LN LC, .slice AA ps.length AC, .slice DA DN DC], .int .i64 0]) (by simp [results, Try.results11, go_sem, g0, g1, g2, g3, g4]) rfl ?_
              have hz1 := hb1.size
              have K : Keep (· ≠ H0) wo W' := (Keep.of_below hb1 (F := (· ≠ H0)) (fun g hg _ => hg)).trans q2
              have hty : ∀ {g e}, tyOf wo g = some e → e ≠ 29 → g ≠ H0 := by
                intro g e hg hne
                rintro rfl
                rw [tyOf_of HP.out.out] at hg
                injection hg with hg
                exact hne hg.symm
              have hbel : Below w.heap.size w W' := by
                rw [hHe]
                exact (HP.out.keep.trans (K.mono (fun g _ hf => by omega))).below (by omega)
              have hpost : ∃ lv av dv ps', Ending.returned (.tuple #[.agg #[.bool ((wh : Int) == 1), .int .i64 (sq : Int), .slice LA LN LC, .slice AA ps.length AC, .slice DA DN DC], .int .i64 0]) = .returned (.tuple #[.agg (recCells ⟨((wh : Int) == 1), sq, lg, ps.map (·.1), dg⟩ lv av dv).toArray, .int .i64 0]) ∧ ps'.map (·.1) = ps.map (·.1) ∧ Ints W' (fun _ => True) lv lg ∧ Ints W' (fun _ => True) dv dg ∧ RdPlaces W' (fun _ => True) 119 122 av ps' := by
                refine ⟨_, _, _, ps, rfl, rfl, Rows.keep HP.out.logs K (fun g _ _ ht => hty ht (by decide)), Rows.keep HP.out.drop K (fun g _ _ ht => hty ht (by decide)), Rows.keep HA.out.1 K (fun g _ _ ht => hty ht (by decide)), fun p hp => ⟨Rows.keep (HA.out.2 p hp).1 K (fun g _ _ ht => hty ht (by decide)), (HA.out.2 p hp).2⟩⟩
              refine ⟨hbel, ?_⟩
              rw [HN.out]
              exact hpost
          · have HN : Hid (parseRec b = none) := hpr.out.trans (by simp [hd])
            have hd5 : doneS st = 20 := by
              revert hd
              unfold doneS
              split <;> simp
            rw [hd5] at hdn
            have HDN := Lib.hid hdn
            clear hpr hw hd hdn hd5
            go_wp2_with (go_at_call 47; refine (HDN.out).mono ?_; rintro e w1 ⟨rfl, rfl⟩)
            (have hcl := box5_set HP.out.out (.bool false) (.int .i64 0) (.slice none 0 0) (.slice none 0 0) (.slice none 0 0); revert hcl; generalize ((((World.setCell wo ⟨H0, 0, none⟩ (.bool false)).setCell ⟨H0, 1, none⟩ (.int .i64 0)).setCell ⟨H0, 2, none⟩ (.slice none 0 0)).setCell ⟨H0, 3, none⟩ (.slice none 0 0)).setCell ⟨H0, 4, none⟩ (.slice none 0 0) = W'; rintro ⟨q1, q2⟩; have g0 := cell_of_block q1 0; have g1 := cell_of_block q1 1; have g2 := cell_of_block q1 2; have g3 := cell_of_block q1 3; have g4 := cell_of_block q1 4; simp at g0 g1 g2 g3 g4; refine bodyPost_end (v := .tuple #[.agg #[.bool false, .int .i64 0, .slice none 0 0, .slice none 0 0, .slice none 0 0], .int .i64 20]) (by simp [results, Try.results11, go_sem, g0, g1, g2, g3, g4]) rfl ?_)
            refine ⟨?_, by rw [HN.out]⟩
            rw [hHe]
            exact (HP.out.keep.trans (q2.mono (fun g _ hf => by omega))).below (by omega)
end Go.Proofs.Ytejfejckmhoolaa
