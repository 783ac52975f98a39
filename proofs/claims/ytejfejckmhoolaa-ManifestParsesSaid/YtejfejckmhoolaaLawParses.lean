/- The walk of tithebarnlaw16.ManifestParses. -/
import Derived.Test.YtejfejckmhoolaaAwake
import Derived.Test.YtejfejckmhoolaaPlain2
set_option linter.unusedSimpArgs false
set_option linter.unusedVariables false
namespace Go.Proofs.Ytejfejckmhoolaa
open Go.RowKit

set_option maxRecDepth 100000 in
set_option maxHeartbeats 4000000 in
theorem mparses_walk {Tb : TypeId} (w : World) (F : Nat → Prop) (bv : Value) (b : Byts) (hb : Rows w F Tb 1 bv b.length (b.map byteV)) :
    Calls Try.prog 3 #[bv] w (BoolBelow w true) := by
  obtain ⟨_, BA, BC, rfl, hbc, _⟩ := id hb
  obtain ⟨bn, hbn⟩ : ∃ bn, Hid (bn = b.length) := ⟨_, rfl⟩
  by_cases hlen : b.length ≤ 3000
  · have hd3 : decide (3000 < (bn : Int)) = false := decide_eq_false (by have := hbn.out; omega)
    have hp := parse_any w F _ b hb (by omega)
    have HB := Lib.hid (Rows.mono hb (G := (· < w.heap.size)) (fun g hg _ => hg))
    rw [← hbn.out] at hp hbc ⊢
    cases hpr : parseRec b with
    | none =>
      rw [hpr] at hp
      have HP := Lib.hid hp
      clear hp hb hpr hlen
      go_enter Try.func3, Try.ntmps3
      go_wp2_with fail
      refine (HP.out).mono ?_
      rintro e w1 ⟨hb1, rfl⟩
      go_wp2_with fail
      refine (awake_any _).mono ?_
      rintro e w2 ⟨rfl, hb2⟩
      go_wp2_with fail
      go_ret
      exact ⟨rfl, (hb1.alloc hb1.size _).trans (hb2.mono (by have := hb1.size; simp; omega))⟩
    | some r =>
      rw [hpr] at hp
      obtain ⟨hok, henc⟩ := parseRec_enc hpr
      have HP := Lib.hid hp
      have HOK := Lib.hid hok
      have HENC := Lib.hid henc
      have hlog : r.logs.length ≤ 64 ∧ r.drop.length ≤ 64 ∧ r.add.length ≤ 64 := by
        simp only [recOk, recHead, Bool.and_eq_true, decide_eq_true_eq] at hok
        exact ⟨(zonesOk_at hok.1.1.1.1.2).1, (zonesOk_at hok.1.1.1.2).1, hok.1.1.2⟩
      obtain ⟨hlog1, hlog2, hlog3⟩ := hlog
      clear hp hb hpr hok henc hlen
      go_enter Try.func3, Try.ntmps3
      go_wp2_with fail
      refine (HP.out).mono ?_
      rintro e w1 ⟨hb1, lv, av, dv, ps, rfl, hps, hL, hD, hA⟩
      obtain ⟨wh, sq, logs, add, drop⟩ := r
      simp only at hps hL hD hlog1 hlog2 hlog3
      obtain ⟨LA, LN, LC, rfl⟩ : ∃ A n c, lv = .slice A n c := by
        obtain ⟨_, A, c, h, _⟩ := hL
        exact ⟨A, _, c, h⟩
      obtain ⟨DA, DN, DC, rfl⟩ : ∃ A n c, dv = .slice A n c := by
        obtain ⟨_, A, c, h, _⟩ := hD
        exact ⟨A, _, c, h⟩
      obtain ⟨AA, AN, AC, rfl⟩ : ∃ A n c, av = .slice A n c := by
        obtain ⟨⟨_, A, c, h, _⟩, _⟩ := hA
        exact ⟨A, _, c, h⟩
      simp only [recCells]
      have HL := Lib.hid hL
      have HD := Lib.hid hD
      have HA := Lib.hid hA
      have HPS := Lib.hid hps
      have HB1 := Lib.hid hb1
      clear hL hD hA hps hb1 HP
      go_upto_if 15 with fail
      have hbx := heap_alloc_new w1 (.cells #[.bool wh, .int .i64 sq, .slice LA LN LC, .slice AA AN AC, .slice DA DN DC] 29)
      have HBX := Lib.hid hbx
      have HLy := Lib.hid (Rows.mono (Rows.alloc HL.out (.cells #[.bool wh, .int .i64 sq, .slice LA LN LC, .slice AA AN AC, .slice DA DN DC] 29)) (G := (· < (w1.alloc (.cells #[.bool wh, .int .i64 sq, .slice LA LN LC, .slice AA AN AC, .slice DA DN DC] 29)).heap.size)) (fun g hg _ => hg))
      have HDy := Lib.hid (Rows.mono (Rows.alloc HD.out (.cells #[.bool wh, .int .i64 sq, .slice LA LN LC, .slice AA AN AC, .slice DA DN DC] 29)) (G := (· < (w1.alloc (.cells #[.bool wh, .int .i64 sq, .slice LA LN LC, .slice AA AN AC, .slice DA DN DC] 29)).heap.size)) (fun g hg _ => hg))
      have HAy := Lib.hid (show RdPlaces (w1.alloc (.cells #[.bool wh, .int .i64 sq, .slice LA LN LC, .slice AA AN AC, .slice DA DN DC] 29)) (· < (w1.alloc (.cells #[.bool wh, .int .i64 sq, .slice LA LN LC, .slice AA AN AC, .slice DA DN DC] 29)).heap.size) 119 122 (.slice AA AN AC) ps from
        ⟨Rows.mono (Rows.alloc HA.out.1 _) (fun g hg _ => hg), fun p hp => ⟨Rows.mono (Rows.alloc (HA.out.2 p hp).1 _) (fun g hg _ => hg), (HA.out.2 p hp).2⟩⟩)
      have HBy := Lib.hid (show Below w.heap.size w (w1.alloc (.cells #[.bool wh, .int .i64 sq, .slice LA LN LC, .slice AA AN AC, .slice DA DN DC] 29)) from HB1.out.alloc HB1.out.size _)
      clear hbx HL HD HA HB1
      generalize w1.alloc (.cells #[.bool wh, .int .i64 sq, .slice LA LN LC, .slice AA AN AC, .slice DA DN DC] 29) = y at *
      generalize w1.heap.size = R at *
      have hRy := heap_lt HBX.out
      have c0 := cell_of_block HBX.out 0
      have c1 := cell_of_block HBX.out 1
      have c2 := cell_of_block HBX.out 2
      have c3 := cell_of_block HBX.out 3
      have c4 := cell_of_block HBX.out 4
      simp at c0 c1 c2 c3 c4
      -- what is known in whatever later world
      have HALL := Lib.hid (fun (wx : World) (hk : Keep (· < y.heap.size) y wx) => (⟨HLy.out.keep hk (fun _ _ hf _ => hf), HDy.out.keep hk (fun _ _ hf _ => hf), ⟨HAy.out.1.keep hk (fun _ _ hf _ => hf), fun p hp => ⟨(HAy.out.2 p hp).1.keep hk (fun _ _ hf _ => hf), (HAy.out.2 p hp).2⟩⟩⟩ :
        Ints wx (· < y.heap.size) (.slice LA LN LC) logs ∧ Ints wx (· < y.heap.size) (.slice DA DN DC) drop ∧ RdPlaces wx (· < y.heap.size) 119 122 (.slice AA AN AC) ps))
      clear HLy HDy HAy
      go_wp2_with fail
      have hA0 := HALL.out y (Keep.refl _ _)
      have hlr := lref_any y _ ⟨wh, sq, logs, add, drop⟩ _ _ _ ps hA0.1 hA0.2.1 hA0.2.2 HPS.out (by simp only; omega)
      simp only [recCells] at hlr
      have HLR := Lib.hid hlr
      clear hlr hA0
      refine (HLR.out).mono ?_
      rintro e w2 ⟨av2, ps2, rfl, hps2, hA2, hb2⟩
      have hk2 : Keep (· < y.heap.size) y w2 := Keep.of_below hb2 (fun g _ hf => hf)
      obtain ⟨l2, d2, -⟩ := HALL.out w2 hk2
      obtain ⟨AA2, AN2, AC2, rfl⟩ : ∃ A n c, av2 = .slice A n c := by
        obtain ⟨⟨_, A, c, h, _⟩, _⟩ := hA2
        exact ⟨A, _, c, h⟩
      have hrt := recRight_true w2 (fun _ => True) ⟨wh, sq, logs, add, drop⟩ (.slice LA LN LC) (.slice AA2 AN2 AC2) (.slice DA DN DC) ps2 (Rows.mono l2 (fun _ _ _ => trivial)) (Rows.mono d2 (fun _ _ _ => trivial)) hA2 hps2 HOK.out
      simp only [recCells] at hrt
      have HRT := Lib.hid hrt
      have HB2 := Lib.hid hb2
      clear hrt hk2 l2 d2 hps2 hA2 hb2 HLR c0 c1 c2 c3 c4
      go_wp2_with fail
      refine (HRT.out).mono ?_
      rintro e w3 ⟨rfl, hb3⟩
      have hb3' : Below y.heap.size y w3 := HB2.out.trans (hb3.mono HB2.out.size)
      have hk3 : Keep (· < y.heap.size) y w3 := Keep.of_below hb3' (fun g _ hf => hf)
      have hX3 := blk_below hb3' HBX.out hRy
      have d0 := cell_of_block hX3 0
      have d1 := cell_of_block hX3 1
      have d2 := cell_of_block hX3 2
      have d3 := cell_of_block hX3 3
      have d4 := cell_of_block hX3 4
      simp at d0 d1 d2 d3 d4
      obtain ⟨l3, r3, a3⟩ := HALL.out w3 hk3
      have hck := recCheck_any w3 _ ⟨wh, sq, logs, add, drop⟩ _ _ _ ps l3 r3 a3 HPS.out (by simp only; omega) (by simp only; omega) (by simp only; omega)
      rw [HOK.out] at hck
      simp only [recCells, errOf_true] at hck
      have HCK := Lib.hid hck
      have HB3 := Lib.hid hb3'
      clear hck hk3 l3 r3 a3 hb3 hb3' HRT HB2 hX3
      go_wp2_with fail
      refine (HCK.out).mono ?_
      rintro e w4 ⟨rfl, hb4⟩
      have hb4' : Below y.heap.size y w4 := HB3.out.trans (hb4.mono HB3.out.size)
      have hk4 : Keep (· < y.heap.size) y w4 := Keep.of_below hb4' (fun g _ hf => hf)
      have hX4 := blk_below hb4' HBX.out hRy
      have e0 := cell_of_block hX4 0
      have e1 := cell_of_block hX4 1
      have e2 := cell_of_block hX4 2
      have e3 := cell_of_block hX4 3
      have e4 := cell_of_block hX4 4
      simp at e0 e1 e2 e3 e4
      obtain ⟨l4, r4, a4⟩ := HALL.out w4 hk4
      have hlr := lref_any w4 _ ⟨wh, sq, logs, add, drop⟩ _ _ _ ps l4 r4 a4 HPS.out (by simp only; omega)
      simp only [recCells] at hlr
      have HLR := Lib.hid hlr
      have HB4 := Lib.hid hb4'
      clear hlr hk4 l4 r4 a4 hb4 hb4' HCK HB3 hX4 d0 d1 d2 d3 d4
      go_wp2_with fail
      refine (HLR.out).mono ?_
      rintro e w5 ⟨av5, ps5, rfl, hps5, hA5, hb5⟩
      have hb5' : Below y.heap.size y w5 := HB4.out.trans (hb5.mono HB4.out.size)
      have hk5 : Keep (· < y.heap.size) y w5 := Keep.of_below hb5' (fun g _ hf => hf)
      obtain ⟨l5, r5, -⟩ := HALL.out w5 hk5
      obtain ⟨AA5, AN5, AC5, rfl⟩ : ∃ A n c, av5 = .slice A n c := by
        obtain ⟨⟨_, A, c, h, _⟩, _⟩ := hA5
        exact ⟨A, _, c, h⟩
      have hrt := recBytes_any w5 (fun _ => True) ⟨wh, sq, logs, add, drop⟩ (.slice LA LN LC) (.slice AA5 AN5 AC5) (.slice DA DN DC) ps5 (Rows.mono l5 (fun _ _ _ => trivial)) (Rows.mono r5 (fun _ _ _ => trivial)) hA5 hps5 HOK.out
      rw [HENC.out] at hrt
      simp only [recCells] at hrt
      have HRT := Lib.hid hrt
      have HB5 := Lib.hid hb5'
      clear hrt hk5 l5 r5 hps5 hA5 hb5 hb5' HLR HB4 e0 e1 e2 e3 e4
      go_wp2_with fail
      refine (HRT.out).mono ?_
      rintro e w6 ⟨v6, rfl, ho6, hb6⟩
      have hb6' : Below y.heap.size y w6 := HB5.out.trans (hb6.mono HB5.out.size)
      have hbw6 : Below w.heap.size w w6 := HBy.out.trans (hb6'.mono HBy.out.size)
      have hbb := Rows.keep HB.out (Keep.of_below hbw6 (F := (· < w.heap.size)) (fun g _ hf => hf)) (fun _ _ hf _ => hf)
      have hsm := same_any w6 _ _ _ _ b b (Rows.of_own ho6) hbb
      rw [← hbn.out] at hsm
      simp only [decide_true] at hsm
      have HSM := Lib.hid hsm
      have HBW := Lib.hid hbw6
      clear hsm hbb hb6 hb6' ho6 hbw6 HRT HB5
      go_wp2_with fail
      refine (HSM.out).mono ?_
      rintro e w7 ⟨rfl, rfl⟩
      go_wp2_with fail
      refine (awake_any _).mono ?_
      rintro e w8 ⟨rfl, hb8⟩
      go_wp2_with fail
      go_ret
      exact ⟨rfl, HBW.out.trans (hb8.mono HBW.out.size)⟩
  · have hd3 : decide (3000 < (bn : Int)) = true := decide_eq_true (by have := hbn.out; omega)
    rw [← hbn.out] at hbc ⊢
    clear hb hlen
    go_enter Try.func3, Try.ntmps3
    go_wp2_with fail
    refine (awake_any _).mono ?_
    rintro e w2 ⟨rfl, hb2⟩
    go_wp2_with fail
    go_ret
    exact ⟨rfl, hb2⟩
end Go.Proofs.Ytejfejckmhoolaa
