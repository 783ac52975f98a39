/- A record that is read has just these bytes. -/
import Derived.Test.YtejfejckmhoolaaPlain
set_option linter.unusedSimpArgs false
set_option linter.unusedVariables false
namespace Go.Proofs.Ytejfejckmhoolaa

theorem trip {α : Type} {p : α × Option Byts × Bool} {l : Byts} (h1 : p.2.1 = some l) (h2 : p.2.2 = false) : p = (p.1, some l, false) := Prod.ext rfl (Prod.ext h1 h2)

theorem skeyS_some {st : Option Byts} {bad : Bool} {k : Key} {l' : Byts} (h : skeyS st bad = (k, some l', false)) : bad = false ∧ ∃ l, st = some l ∧ l = textEnc (keyEnc k) ++ l' := by
  unfold skeyS at h
  simp only [Prod.mk.injEq, Bool.or_eq_false_iff, Bool.not_eq_false'] at h
  obtain ⟨h1, h2, h3, h4⟩ := h
  obtain ⟨l, e1, e2⟩ := textS_some h2
  obtain ⟨k', hk⟩ := Option.isSome_iff_exists.1 h4
  rw [hk] at h1
  simp only [Option.getD_some] at h1
  subst h1
  refine ⟨h3, l, e1, ?_⟩
  rw [(keyParse_enc hk).1]
  exact e2
theorem countS_some {st : Option Byts} {bad : Bool} {n : Nat} {l' : Byts} (h : countS st bad = (n, some l', false)) : bad = false ∧ ∃ l, st = some l ∧ l = numEnc n ++ l' := by
  unfold countS at h
  by_cases hc : 64 < (numS st).1 ∨ (numS st).2 = none
  · rw [if_pos hc] at h; simp at h
  · rw [if_neg hc] at h
    simp only [Prod.mk.injEq] at h
    exact ⟨h.2.2, numS_some h.2.1 h.1⟩
theorem numsGo_some : ∀ (k : Nat) (st : Option Byts) (zs : List Int) (l' : Byts), numsGo k st = (zs, some l') → ∃ l, st = some l ∧ l = numsEnc zs ++ l' := by
  intro k
  induction k with
  | zero =>
    intro st zs l' h
    simp only [numsGo, Prod.mk.injEq] at h
    exact ⟨l', h.2, by rw [← h.1]; rfl⟩
  | succ k ih =>
    intro st zs l' h
    simp only [numsGo, Prod.mk.injEq] at h
    obtain ⟨l1, e1, e2⟩ := ih (numS st).2 (numsGo k (numS st).2).1 l' (by rw [← h.2])
    obtain ⟨l, e3, e4⟩ := numS_some e1 rfl
    refine ⟨l, e3, ?_⟩
    rw [← h.1, e4, e2]
    simp [numsEnc]
theorem listS_some {st : Option Byts} {bad : Bool} {zs : List Int} {l' : Byts} (h : listS st bad = (zs, some l', false)) : bad = false ∧ ∃ l, st = some l ∧ l = listEnc zs ++ l' := by
  unfold listS at h
  simp only [Prod.mk.injEq] at h
  obtain ⟨h1, h2, h3⟩ := h
  obtain ⟨l1, e1, e2⟩ := numsGo_some _ _ zs l' (by rw [← h1, ← h2])
  obtain ⟨hb, l, e3, e4⟩ := countS_some (st := st) (bad := bad) (n := (countS st bad).1) (l' := l1) (by rw [← e1, ← h3])
  refine ⟨hb, l, e3, ?_⟩
  rw [e4, e2, listEnc, ← h1, numsGo_len]
  simp
theorem refsGo_some : ∀ (k : Nat) (st : Option Byts) (rs : List Ref) (l' : Byts), refsGo k st = (rs, some l') → ∃ l, st = some l ∧ l = refsEnc rs ++ l' := by
  intro k
  induction k with
  | zero =>
    intro st zs l' h
    simp only [refsGo, Prod.mk.injEq] at h
    exact ⟨l', h.2, by rw [← h.1]; rfl⟩
  | succ k ih =>
    intro st zs l' h
    simp only [refsGo, Prod.mk.injEq] at h
    obtain ⟨l1, e1, e2⟩ := ih (numS (numS st).2).2 (refsGo k (numS (numS st).2).2).1 l' (by rw [← h.2])
    obtain ⟨l2, e3, e4⟩ := numS_some e1 rfl
    obtain ⟨l, e5, e6⟩ := numS_some e3 rfl
    refine ⟨l, e5, ?_⟩
    rw [← h.1, e6, e4, e2]
    simp [refsEnc, refEnc]
theorem placeS_some {st : Option Byts} {bad : Bool} {p : Place} {l' : Byts} (h : placeS st bad = (p, some l', false)) : bad = false ∧ ∃ l, st = some l ∧ l = placeEnc p ++ l' := by
  unfold placeS headS at h
  simp only [Prod.mk.injEq] at h
  obtain ⟨h1, h2, h3⟩ := h
  obtain ⟨lr, r1, r2⟩ := refsGo_some _ _ _ l' (by rw [← h2])
  obtain ⟨b1, l1, e1, e2⟩ := countS_some (by rw [← r1, ← h3])
  obtain ⟨b2, l2, e3, e4⟩ := skeyS_some (by rw [← e1, ← b1])
  obtain ⟨b3, l3, e5, e6⟩ := skeyS_some (by rw [← e3, ← b2])
  obtain ⟨l4, e7, e8⟩ := numS_some e5 rfl
  obtain ⟨l5, e9, e10⟩ := numS_some e7 rfl
  obtain ⟨l6, e11, e12⟩ := numS_some e9 rfl
  refine ⟨b3, l6, e11, ?_⟩
  rw [e12, e10, e8, e6, e4, e2, r2, ← h1]
  simp only [placeEnc, headEnc, Int.toNat_natCast, refsGo_len, List.append_assoc]
theorem placesGo_some : ∀ (k : Nat) (st : Option Byts) (bad : Bool) (ps : List Place) (l' : Byts), placesGo k st bad = (ps, some l', false) → bad = false ∧ ∃ l, st = some l ∧ l = placesEnc ps ++ l' := by
  intro k
  induction k with
  | zero =>
    intro st bad ps l' h
    simp only [placesGo, Prod.mk.injEq] at h
    exact ⟨h.2.2, l', h.2.1, by rw [← h.1]; rfl⟩
  | succ k ih =>
    intro st bad ps l' h
    simp only [placesGo, Prod.mk.injEq] at h
    obtain ⟨h1, h2⟩ := h
    obtain ⟨b1, l1, e1, e2⟩ := ih _ _ (placesGo k (placeS st bad).2.1 (placeS st bad).2.2).1 l' (by rw [← h2])
    obtain ⟨b2, l, e3, e4⟩ := placeS_some (st := st) (bad := bad) (p := (placeS st bad).1) (l' := l1) (by rw [← e1, ← b1])
    refine ⟨b2, l, e3, ?_⟩
    rw [e4, ← h1, e2]
    simp [placesEnc]
theorem parseRec_enc {b : Byts} {r : Rec} (h : parseRec b = some r) : recOk r = true ∧ recEnc r = b := by
  unfold parseRec at h
  simp only at h
  by_cases hc : ((recS (some b)).2.2.2 || decide (1 < (recS (some b)).1) || decide (doneS (recS (some b)).2.2.1 ≠ 0) || !recOk (recS (some b)).2.1) = true
  · rw [if_pos hc] at h; cases h
  · rw [if_neg hc] at h
    injection h with h
    simp only [Bool.or_eq_true, not_or, decide_eq_true_eq, Bool.not_eq_true, Bool.not_eq_false', Bool.not_not] at hc
    obtain ⟨⟨⟨h1, h2⟩, h3⟩, h4⟩ := hc
    rw [h] at h4
    refine ⟨by simpa using h4, ?_⟩
    have hd : (recS (some b)).2.2.1 = some [] := by
      generalize (recS (some b)).2.2.1 = st at h3
      match st, h3 with
      | some [], _ => rfl
      | none, h3 => simp [doneS] at h3
      | some (c :: l), h3 => simp [doneS] at h3
    rw [← h]
    unfold recS frontS at h1 h2 hd ⊢
    simp only at h1 h2 hd ⊢
    obtain ⟨b1, l1, e1, e2⟩ := placesGo_some _ _ _ _ [] (trip hd h1)
    obtain ⟨b2, l2, e3, e4⟩ := countS_some (trip e1 b1)
    obtain ⟨b3, l3, e5, e6⟩ := listS_some (trip e3 b2)
    obtain ⟨_, l4, e7, e8⟩ := listS_some (trip e5 b3)
    obtain ⟨l5, e9, e10⟩ := numS_some e7 rfl
    obtain ⟨l6, e11, e12⟩ := numS_some e9 rfl
    injection e11 with e11
    conv => rhs; rw [e11, e12, e10, e8, e6, e4, e2]
    have hw : boolEnc (((numS (some b)).1 : Int) == 1) = numEnc (numS (some b)).1 := by
      have h5 : (numS (some b)).1 = 0 ∨ (numS (some b)).1 = 1 := by omega
      rcases h5 with h5 | h5 <;> rw [h5] <;> rw [numEnc_lt (by omega)] <;> rfl
    simp only [recEnc, recFront, hw, Int.toNat_natCast, List.append_assoc, List.append_nil, (places_len _ _ _).1]
end Go.Proofs.Ytejfejckmhoolaa
