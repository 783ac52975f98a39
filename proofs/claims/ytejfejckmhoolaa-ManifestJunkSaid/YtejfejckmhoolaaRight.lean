/- The document's Right of a table and of a record, where they are right. -/
import Derived.Test.YtejfejckmhoolaaLref
import Derived.Deep.QuietTactic
import Derived.BigQuiet
set_option linter.unusedSimpArgs false
set_option linter.unusedVariables false
namespace Go.Proofs.Ytejfejckmhoolaa
open Go.RowKit

theorem zonesOk_at {zs : List Int} (h : zonesOk zs = true) : zs.length ≤ 64 ∧ ∀ (k : Nat) (z : Int), zs[k]? = some z → 0 ≤ z ∧ z < 64 := by
  simp only [zonesOk, Bool.and_eq_true, decide_eq_true_eq, List.all_eq_true] at h
  refine ⟨h.1, fun k z hz => ?_⟩
  have := h.2 z (List.mem_of_getElem? hz)
  simpa [zoneOk] using this

set_option maxHeartbeats 400000 in
theorem rzones_true (w : World) (F : Nat → Prop) (v : Value) (zs : List Int) (h : Ints w F v zs) (hz : zonesOk zs = true) :
    Calls Try.prog 48 #[v] w (BoolSame w true) := by
  obtain ⟨hl, hz2⟩ := zonesOk_at hz
  have hd64 : decide ((zs.length : Int) ≤ 64) = true := decide_eq_true (by omega)
  have HZ := Lib.hid hz2
  obtain ⟨_, A, cap, rfl, hcap, _⟩ := id h
  have HI := Lib.hid h
  clear h hz hz2
  obtain ⟨n, hn⟩ : ∃ n, Hid (n = zs.length) := ⟨_, rfl⟩
  rw [← hn.out] at hl hcap hd64 ⊢
  go_enter Try.func48, Try.ntmps48
  go_wp2_with fail
  go_loop [3] (fun i => ∃ k : Nat, k ≤ n ∧ i = .int .i64 k) (fun i => n - (intOf i).toNat)
  case atStart => exact ⟨0, by omega, rfl⟩
  case round =>
    obtain ⟨k, hk, rfl⟩ := hrel
    by_cases hlt : k < n
    · obtain ⟨z, hz⟩ : ∃ z, zs[k]? = some z := ⟨zs[k]'(by have := hn.out; omega), List.getElem?_eq_getElem _⟩
      obtain ⟨hz0, hz1⟩ := HZ.out k z hz
      have hne : zs ≠ [] := by
        rintro rfl
        have := hn.out
        simp at this
        omega
      obtain ⟨g, off, cap2, eA, _, _, _, hel⟩ := HI.out.cells hne
      have eA2 : A = some ⟨g, off, none⟩ := by injection eA
      subst eA2
      have e0 := hel k z hz
      clear hel eA hz hne
      go_wp2_with fail
      go_round
      case rel => exact ⟨k + 1, by omega, by go_num⟩
      case measure => simp [intOf]; omega
    · have hkn : ¬ (k : Int) < n := by omega
      go_wp2_with fail
      go_ret
      exact ⟨rfl, rfl⟩

theorem refs_at : ∀ (refs : List Ref) (first : Bool) (prev : Int), refsOkGo first prev refs = true → ∀ (k : Nat) (r : Ref), refs[k]? = some r →
    0 ≤ r.zone ∧ r.zone < 64 ∧ 1 ≤ r.bytes ∧ r.bytes ≤ 1073741824 ∧ (∀ p, 0 < k → refs[k - 1]? = some p → p.zone < r.zone) ∧ (k = 0 → first = true ∨ prev < r.zone) := by
  intro refs
  induction refs with
  | nil => intro f p _ k r hr; simp at hr
  | cons x l ih =>
    intro f p h k r hr
    simp only [refsOkGo, refOk, zoneOk, Bool.and_eq_true, Bool.or_eq_true, decide_eq_true_eq] at h
    obtain ⟨⟨⟨⟨⟨h1, h2⟩, h3⟩, h4⟩, h5⟩, h6⟩ := h
    cases k with
    | zero =>
      simp only [List.getElem?_cons_zero, Option.some.injEq] at hr
      subst hr
      exact ⟨h1, h2, h3, h4, fun _ h => absurd h (Nat.lt_irrefl 0), fun _ => h5⟩
    | succ k =>
      simp only [List.getElem?_cons_succ] at hr
      obtain ⟨a, b, c, d, e, g⟩ := ih false x.zone h6 k r hr
      refine ⟨a, b, c, d, fun q _ hq => ?_, fun h => by omega⟩
      rw [Nat.add_sub_cancel] at hq
      cases k with
      | zero =>
        simp only [List.getElem?_cons_zero, Option.some.injEq] at hq
        subst hq
        rcases g rfl with g | g
        · cases g
        · exact g
      | succ k =>
        exact e q (by omega) (by simpa using hq)

set_option maxRecDepth 100000 in
set_option maxHeartbeats 1000000 in
theorem metaRight_true (w : World) (F : Nat → Prop) (m : Meta) (rv : Value) (h : RdRefs w F 132 rv m.refs) (hl : m.refs.length ≤ 1000000) (hm : metaOk m = true) :
    Calls Try.prog 49 #[.agg (metaCells m rv).toArray] w (BoolBelow w true) := by
  obtain ⟨zn, ln, sm, lg, refs⟩ := m
  simp only [metaOk, headOk, zoneOk, Bool.and_eq_true, decide_eq_true_eq] at hm
  obtain ⟨⟨⟨⟨⟨⟨⟨z0, z1⟩, l0⟩, l1⟩, ks⟩, kl⟩, kc⟩, hrs⟩ := hm
  have hra := refs_at refs _ _ hrs
  have HRA := Lib.hid hra
  simp only at h hl
  have hks := fun wx => refKeyRight_any sm wx
  have hkl := fun wx => refKeyRight_any lg wx
  have hs1 : sm.user.size ≤ 64 := by simp [keyOk] at ks; omega
  have hs2 : lg.user.size ≤ 64 := by simp [keyOk] at kl; omega
  have hkc := fun wx => refCmp_any sm lg wx (by unfold maxLen; omega) (by unfold maxLen; omega)
  rw [ks] at hks
  rw [kl] at hkl
  obtain ⟨su, ss, sd⟩ := sm
  obtain ⟨lu, ls, ld⟩ := lg
  unfold metaCells
  simp only at *
  unfold Key.val Key.cells at hks hkl hkc
  simp only at hks hkl hkc
  have HKS := Lib.hid hks
  have HKL := Lib.hid hkl
  clear hra hrs ks kl hks hkl hs1 hs2
  generalize keyCmp ⟨su, ss, sd⟩ ⟨lu, ls, ld⟩ = cc at *
  have HKC := Lib.hid hkc
  clear hkc
  obtain ⟨_, A, cap, rfl, hcap, _⟩ := id h
  obtain ⟨n, hn⟩ : ∃ n, Hid (n = refs.length) := ⟨_, rfl⟩
  rw [← hn.out] at hcap hl ⊢
  have hrow := Rows.mono h (G := fun g => g < w.heap.size) (fun g hg _ => hg)
  have HROW := Lib.hid hrow
  clear h hrow
  go_enter Try.func49, Try.ntmps49
  go_wp2_with (first | (go_at_call_of 102 (Value.agg #[Value.string su, Value.int .i64 ss, Value.int .i64 sd]); refine (HKS.out _).mono ?_; rintro e w1 ⟨rfl, hb1⟩; obtain ⟨q1, q2⟩ := below_rules hb1; have hs1 := hb1.size; simp only [World.size_alloc] at q1 q2 hs1; have hl1 : w.heap.size < w1.heap.size := (by omega)) | (go_at_call_of 102 (Value.agg #[Value.string lu, Value.int .i64 ls, Value.int .i64 ld]); refine (HKL.out _).mono ?_; rintro e w2 ⟨rfl, hb2⟩; obtain ⟨q3, q4⟩ := below_rules hb2; have hs2 := hb2.size; have hl2 : w.heap.size < w2.heap.size := (by omega)) | (go_at_call 103; refine (HKC.out _).mono ?_; rintro e w3 ⟨rfl, hb3⟩; have hs3 := hb3.size; have hl3 : w.heap.size < w3.heap.size := (by omega)))
  have hB : Hid (Below w.heap.size w w3) := (((Below.refl _ _).alloc (Nat.le_refl _) _).trans (hb1.mono (by simp))).trans ((hb2.mono (by omega)).trans (hb3.mono (by omega)))
  have hc8 : w3.cell? ⟨w.heap.size, 8, none⟩ = some (.slice A n cap) := by
    rw [hb3.cell (p := ⟨w.heap.size, 8, none⟩) (by simp; omega), hb2.cell (p := ⟨w.heap.size, 8, none⟩) (by simp; omega), hb1.cell (p := ⟨w.heap.size, 8, none⟩) (by simp)]
    simp
  have HC8 := Lib.hid hc8
  have HR3 := Lib.hid (HROW.out.keep (Keep.of_below hB.out (F := fun g => g < w.heap.size) (fun g hg hf => hf)) (fun g _ hf _ => hf))
  clear q1 q2 q3 q4 hb1 hb2 hb3 hc8 HROW hl1 hl2 hs1 hs2 hs3
  go_loopw [3] (fun i wr => ∃ k : Nat, k ≤ n ∧ i = .int .i64 k ∧ Keep (fun _ => True) w3 wr) (fun i _ => n - (intOf i).toNat)
  case atStart => exact ⟨0, by omega, rfl, Keep.refl _ _⟩
  case round =>
    obtain ⟨k, hk, rfl, hkp⟩ := hrel
    have hc8 := (hkp.cell (a := ⟨w.heap.size, 8, none⟩) hl3 trivial).trans HC8.out
    have hw : w.heap.size < wr.heap.size := by have := hkp.size; omega
    have HKP := Lib.hid hkp
    clear hkp
    by_cases hlt : k < n
    · obtain ⟨r, hr⟩ : ∃ r, refs[k]? = some r := ⟨refs[k]'(by have := hn.out; omega), List.getElem?_eq_getElem _⟩
      obtain ⟨a1, a2, a3, a4, a5, -⟩ := HRA.out k r hr
      obtain ⟨g, off, cap2, eA, _, hgF, hglt, hel⟩ := (HR3.out.keep HKP.out (fun _ _ _ _ => trivial)).elems (fun x => rfl) (by decide) rfl (by have := hn.out; omega)
      have eA2 : A = some ⟨g, off, none⟩ := by injection eA
      subst eA2
      clear eA
      have e0 := hel k r hr 0 _ rfl
      have e1 := hel k r hr 1 _ rfl
      rw [Nat.add_zero] at e0
      rw [← Nat.add_assoc] at e1
      obtain ⟨rz, rb⟩ := r
      simp only at a1 a2 a3 a4 a5 e0 e1
      have hb0 : decide (rz < 0) = false := decide_eq_false (by omega)
      have hb1 : decide (63 < rz) = false := decide_eq_false (by omega)
      have hb2 : decide (rb < 1) = false := decide_eq_false (by omega)
      have hb3 : decide (1073741824 < rb) = false := decide_eq_false (by omega)
      by_cases hk0 : k = 0
      · subst hk0
        simp only [Nat.zero_mul, Nat.add_zero] at e0 e1
        clear hel a5 hr
        go_wp2_with fail
        go_quiet (fail)
        go_wp2_with fail
        go_roundw
        case rel => exact ⟨0 + 1, by omega, by go_num, (HKP.out.alloc _).drewN _⟩
        case measure => simp [intOf]; omega
      · obtain ⟨j, hj⟩ : ∃ j, j = k - 1 := ⟨_, rfl⟩
        obtain ⟨⟨pz, pb⟩, hp⟩ : ∃ p, refs[j]? = some p := ⟨refs[j]'(by have := hn.out; omega), List.getElem?_eq_getElem _⟩
        have hpz := a5 ⟨pz, pb⟩ (by omega) (by rw [← hj]; exact hp)
        have e2 := hel j _ hp 0 _ rfl
        rw [Nat.add_zero] at e2
        simp only at hpz e2
        have hb4 : decide (rz ≤ pz) = false := decide_eq_false (by omega)
        have hwj : IntKind.i64.wrap ((k : Int) - 1) = (j : Int) := by
          rw [wrap_in] <;> omega
        have hj0 : (0 : Int) ≤ (j : Int) := by omega
        have hjn : (j : Int) < (n : Int) := by omega
        have hd0 : decide (0 < (k : Int)) = true := decide_eq_true (by omega)
        have hd0' : decide (0 < k) = true := decide_eq_true (by omega)
        clear hel a5 hr hp hk0 hj
        go_wp2_with fail
        go_quiet (fail)
        go_wp2_with fail
        go_roundw
        case rel => exact ⟨k + 1, by omega, by go_num, (HKP.out.alloc _).drewN _⟩
        case measure => simp [intOf]; omega
    · have hkn : ¬ (k : Int) < n := by omega
      go_wp2_with fail
      go_ret
      exact ⟨rfl, hB.out.trans ((HKP.out.mono (fun _ _ _ => trivial)).below (by omega))⟩
end Go.Proofs.Ytejfejckmhoolaa
