/- The document's Right of a record, where it is right. -/
import Derived.Test.YtejfejckmhoolaaRight
set_option linter.unusedSimpArgs false
set_option linter.unusedVariables false
namespace Go.Proofs.Ytejfejckmhoolaa
open Go.RowKit

theorem dup_at : ∀ (l seen : List Int), dupGo seen l = true → (∀ (i : Nat) (z : Int), l[i]? = some z → seen.contains z = false) ∧ ∀ (i k : Nat) (zi zk : Int), k < i → l[i]? = some zi → l[k]? = some zk → (zi == zk) = false := by
  intro l
  induction l with
  | nil => intro seen _; exact ⟨fun i z h => by simp at h, fun i k zi zk _ h => by simp at h⟩
  | cons x l ih =>
    intro seen h
    simp only [dupGo, Bool.and_eq_true, Bool.not_eq_true'] at h
    obtain ⟨h1, h2⟩ := ih _ h.2
    have h3 : ∀ (i : Nat) (z : Int), l[i]? = some z → seen.contains z = false ∧ (z == x) = false := by
      intro i z hz
      have := h1 i z hz
      simp only [List.contains_eq_mem, List.mem_append, List.mem_singleton, decide_eq_false_iff_not, not_or] at this
      exact ⟨by simpa using this.1, by simpa using this.2⟩
    refine ⟨fun i z hz => ?_, fun i k zi zk hk hi hkk => ?_⟩
    · cases i with
      | zero =>
        simp only [List.getElem?_cons_zero, Option.some.injEq] at hz
        subst hz
        exact h.1
      | succ i => exact (h3 i z (by simpa using hz)).1
    · cases i with
      | zero => omega
      | succ i =>
        simp only [List.getElem?_cons_succ] at hi
        cases k with
        | zero =>
          simp only [List.getElem?_cons_zero, Option.some.injEq] at hkk
          subst hkk
          exact (h3 i zi hi).2
        | succ k =>
          simp only [List.getElem?_cons_succ] at hkk
          exact h2 i k zi zk (by omega) hi hkk

set_option maxRecDepth 100000 in
set_option maxHeartbeats 1000000 in
theorem recRight_true (w : World) (F : Nat → Prop) (r : Rec) (lv av dv : Value) (ps : List (Place × Value)) (hL : Ints w F lv r.logs) (hD : Ints w F dv r.drop) (hA : RdPlaces w F 129 132 av ps) (hps : ps.map (·.1) = r.add) (hok : recOk r = true) :
    Calls Try.prog 12 #[.agg (recCells r lv av dv).toArray] w (BoolBelow w true) := by
  obtain ⟨wh, sq, logs, add, drop⟩ := r
  simp only [recOk, recHead, Bool.and_eq_true, decide_eq_true_eq] at hok
  obtain ⟨⟨⟨⟨⟨⟨s0, s1⟩, zl⟩, zd⟩, al⟩, hdup⟩, hadd⟩ := hok
  have hlog := (zonesOk_at zl).1
  obtain ⟨-, hdu⟩ := dup_at _ _ hdup
  simp only at hps hL hD
  have HDU := Lib.hid hdu
  have hpl : ∀ p, p ∈ ps → placeOk p.1 = true := by
    intro p hp
    exact List.all_eq_true.1 hadd p.1 (by rw [← hps]; exact List.mem_map.2 ⟨p, hp, rfl⟩)
  have HPL := Lib.hid hpl
  have HZL := Lib.hid (fun wx (h : Ints wx F lv logs) => rzones_true wx F lv logs h zl)
  have HZD := Lib.hid (fun wx (h : Ints wx F dv drop) => rzones_true wx F dv drop h zd)
  clear hdu hpl zl zd hdup hadd
  obtain ⟨LA, LN, LC, rfl⟩ : ∃ A n c, lv = .slice A n c := by
    obtain ⟨_, A, c, h, _⟩ := hL
    exact ⟨A, _, c, h⟩
  obtain ⟨DA, DN, DC, rfl⟩ : ∃ A n c, dv = .slice A n c := by
    obtain ⟨_, A, c, h, _⟩ := hD
    exact ⟨A, _, c, h⟩
  have hln : Hid (LN = logs.length) := by
    obtain ⟨_, A', c', h, _⟩ := hL
    injection h
  have hln2 : LN ≤ 64 := by have := hln.out; omega
  obtain ⟨_, A, ac, rfl, hac, _⟩ := id hA.1
  obtain ⟨n, hn⟩ : ∃ n, Hid (n = ps.length) := ⟨_, rfl⟩
  have hn1 : n ≤ 64 := by rw [hn.out, ← List.length_map (f := (·.1)), hps]; exact al
  rw [← hn.out] at hA hac ⊢
  unfold recCells
  simp only
  have HL := Lib.hid (Rows.mono hL (G := fun g => g < w.heap.size) (fun g hg _ => hg))
  have HA := Lib.hid (show Rows w (fun g => g < w.heap.size) 129 10 (.slice A n ac) n (ps.flatMap plCells) ∧ ∀ p, p ∈ ps → Rows w (fun g => g < w.heap.size) 132 2 p.2 p.1.m.refs.length (p.1.m.refs.flatMap refCells) ∧ p.1.m.refs.length ≤ 1000 from
    ⟨by have h := Rows.mono hA.1 (G := fun g => g < w.heap.size) (fun g hg _ => hg); rw [← hn.out] at h; exact h, fun p hp => ⟨Rows.mono (hA.2 p hp).1 (fun g hg _ => hg), (hA.2 p hp).2⟩⟩)
  have HLz := Lib.hid hL
  have HDz := Lib.hid hD
  clear hL hD hA hps al hlog
  go_enter Try.func12, Try.ntmps12
  have hbx := heap_alloc_new w (.cells #[.bool wh, .int .i64 sq, .slice LA LN LC, .slice A n ac, .slice DA DN DC] 36)
  have HBX := Lib.hid hbx
  clear hbx
  go_wp2_with (first | (go_at_call_of 48 (Value.slice LA LN LC); refine (HZL.out _ (HLz.out.alloc _)).mono ?_; rintro e w1 ⟨rfl, rfl⟩) | (go_at_call_of 48 (Value.slice DA DN DC); refine (HZD.out _ (HDz.out.alloc _)).mono ?_; rintro e w1 ⟨rfl, rfl⟩))
  have hk0 : Keep (fun g => g < w.heap.size) w (w.alloc (.cells #[.bool wh, .int .i64 sq, .slice LA LN LC, .slice A n ac, .slice DA DN DC] 36)) := (Keep.refl _ _).alloc _
  have hs0 : w.heap.size < (w.alloc (.cells #[.bool wh, .int .i64 sq, .slice LA LN LC, .slice A n ac, .slice DA DN DC] 36)).heap.size := by simp
  generalize w.alloc (.cells #[.bool wh, .int .i64 sq, .slice LA LN LC, .slice A n ac, .slice DA DN DC] 36) = W1 at *
  have c2 := cell_of_block HBX.out 2
  have c3 := cell_of_block HBX.out 3
  simp at c2 c3
  have HC2 := Lib.hid c2
  have HC3 := Lib.hid c3
  have HL1 := Lib.hid (HL.out.keep hk0 (fun _ _ hf _ => hf))
  have HA1 := Lib.hid (show Rows W1 (fun g => g < w.heap.size) 129 10 (.slice A n ac) n (ps.flatMap plCells) ∧ ∀ p, p ∈ ps → Rows W1 (fun g => g < w.heap.size) 132 2 p.2 p.1.m.refs.length (p.1.m.refs.flatMap refCells) ∧ p.1.m.refs.length ≤ 1000 from
    ⟨HA.out.1.keep hk0 (fun _ _ hf _ => hf), fun p hp => ⟨(HA.out.2 p hp).1.keep hk0 (fun _ _ hf _ => hf), (HA.out.2 p hp).2⟩⟩)
  have HK0 := Lib.hid hk0
  clear c2 c3 hk0 HL HA HLz HDz HZL HZD HBX
  go_loopw [3] (fun i wr => ∃ k : Nat, k ≤ LN ∧ i = .int .i64 k ∧ Keep (fun _ => True) W1 wr) (fun i _ => LN - (intOf i).toNat)
  case atStart => exact ⟨0, by omega, rfl, Keep.refl _ _⟩
  case round =>
    obtain ⟨k, hk, rfl, hkp⟩ := hrel
    obtain ⟨wo, rfl⟩ : ∃ w2 : World, w2 = wr := ⟨_, rfl⟩
    have hc2 := (hkp.cell (a := ⟨w.heap.size, 2, none⟩) hs0 trivial).trans HC2.out
    have HKP := Lib.hid hkp
    clear hkp
    by_cases hlt : k < LN
    · obtain ⟨zi, hzi⟩ : ∃ z, logs[k]? = some z := ⟨logs[k]'(by have := hln.out; omega), List.getElem?_eq_getElem _⟩
      have HZI := Lib.hid hzi
      clear hzi
      go_wp2_with fail
      go_loopw [4] (fun i wr => ∃ j : Nat, j ≤ k ∧ i = .int .i64 j ∧ Keep (fun _ => True) W1 wr) (fun i _ => k - (intOf i).toNat)
      case atStart => exact ⟨0, by omega, rfl, HKP.out⟩
      case round =>
        obtain ⟨j, hj, rfl, hkp⟩ := hrel
        have hc2' := (hkp.cell (a := ⟨w.heap.size, 2, none⟩) hs0 trivial).trans HC2.out
        clear hc2
        by_cases hlt2 : j < k
        · obtain ⟨zj, hzj⟩ : ∃ z, logs[j]? = some z := ⟨logs[j]'(by have := hln.out; omega), List.getElem?_eq_getElem _⟩
          have hne := HDU.out k j zi zj hlt2 HZI.out hzj
          have hne0 : logs ≠ [] := by
            rintro rfl
            simp at hzj
          have hrw : Ints wr (fun g => g < w.heap.size) (.slice LA LN LC) logs := HL1.out.keep hkp (fun _ _ _ _ => trivial)
          obtain ⟨g, off, cap2, eA, _, _, _, hel⟩ := hrw.cells hne0
          have eA2 : LA = some ⟨g, off, none⟩ := by injection eA
          subst eA2
          have e0 := hel k zi HZI.out
          have e1 := hel j zj hzj
          have hjl : (j : Int) < LN := by omega
          have HKP2 := Lib.hid hkp
          clear hel hzj hne0 eA hrw hkp
          go_wp2_with fail
          go_quiet (fail)
          go_wp2_with fail
          exact ⟨⟨j + 1, by omega, by go_num, HKP2.out.drewN _⟩, by simp [intOf]; omega⟩
        · have hkn : ¬ (j : Int) < k := by omega
          go_wp2_with fail
          exact ⟨⟨k + 1, by omega, by go_num, hkp⟩, by simp [intOf]; omega⟩
    · have hkn : ¬ (k : Int) < LN := by omega
      go_wp2_with fail
      go_loopw [5] (fun i wr => ∃ k : Nat, k ≤ n ∧ i = .int .i64 k ∧ Keep (fun _ => True) W1 wr) (fun i _ => n - (intOf i).toNat)
      case atStart => exact ⟨0, by omega, rfl, HKP.out⟩
      case round =>
        obtain ⟨j, hj, rfl, hkp⟩ := hrel
        have hc3 := (hkp.cell (a := ⟨w.heap.size, 3, none⟩) hs0 trivial).trans HC3.out
        clear hc2
        by_cases hlt2 : j < n
        · obtain ⟨⟨p, rv⟩, hp⟩ : ∃ p, ps[j]? = some p := ⟨ps[j]'(by have := hn.out; omega), List.getElem?_eq_getElem _⟩
          have hpo := HPL.out _ (List.mem_of_getElem? hp)
          have hpr := (HA1.out.2 _ (List.mem_of_getElem? hp)).1.keep hkp (fun _ _ _ _ => trivial)
          have hprl := (HA1.out.2 _ (List.mem_of_getElem? hp)).2
          obtain ⟨g, off, cap2, eA, _, _, _, hel⟩ := (HA1.out.1.keep hkp (fun _ _ _ _ => trivial)).elems (fun x => rfl) (by decide) hn.out.symm (by omega)
          have eA2 : A = some ⟨g, off, none⟩ := by injection eA
          subst eA2
          simp only [placeOk, Bool.and_eq_true, decide_eq_true_eq] at hpo
          obtain ⟨⟨p0, p1⟩, hmo⟩ := hpo
          have hmr := metaRight_true wr (fun g => g < w.heap.size) p.m rv hpr (by simp only at hprl; omega) hmo
          obtain ⟨lv, ⟨zn, ln, ⟨su, ss, sd⟩, ⟨lu, ls, ld⟩, rf⟩⟩ := p
          unfold metaCells at hmr
          simp only at p0 p1 hmr
          have HMR := Lib.hid hmr
          have e0 := hel j _ hp 0 _ rfl
          have e1 := hel j _ hp 1 _ rfl
          have e2 := hel j _ hp 2 _ rfl
          have e3 := hel j _ hp 3 _ rfl
          have e4 := hel j _ hp 4 _ rfl
          have e5 := hel j _ hp 5 _ rfl
          have e6 := hel j _ hp 6 _ rfl
          have e7 := hel j _ hp 7 _ rfl
          have e8 := hel j _ hp 8 _ rfl
          have e9 := hel j _ hp 9 _ rfl
          rw [Nat.add_zero] at e0
          rw [← Nat.add_assoc] at e1 e2 e3 e4 e5 e6 e7 e8 e9
          simp only at e0 e1 e2 e3 e4 e5 e6 e7 e8 e9
          have HKP2 := Lib.hid hkp
          have hb0 : decide (lv < 0) = false := decide_eq_false (by omega)
          have hb1 : decide (3 < lv) = false := decide_eq_false (by omega)
          clear hel hp eA hpr hkp hmr hmo hprl
          go_wp2_with (go_at_call 49; refine (HMR.out).mono ?_; rintro e w3 ⟨rfl, hb3⟩)
          exact ⟨⟨j + 1, by omega, by go_num, HKP2.out.trans (Keep.of_below hb3 (fun g hg _ => hg))⟩, by simp [intOf]; omega⟩
        · have hkn2 : ¬ (j : Int) < n := by omega
          go_wp2_with fail
          go_ret
          exact ⟨rfl, (HK0.out.trans (hkp.mono (fun _ _ _ => trivial))).below (Nat.le_refl _)⟩
end Go.Proofs.Ytejfejckmhoolaa
