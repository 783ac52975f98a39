/- What is read has just these bytes: plain lists, no program. -/
import Derived.Test.YtejfejckmhoolaaParse
import Derived.Test.YtejfejckmhoolaaRBytes2
set_option linter.unusedSimpArgs false
set_option linter.unusedVariables false
namespace Go.Proofs.Ytejfejckmhoolaa

theorem byteS_some {st : Option Byts} {c : UInt8} {l : Byts} (h : byteS st = (c, some l)) : st = some (c :: l) := by
  match st, h with
  | none, h => simp [byteS] at h
  | some [], h => simp [byteS] at h
  | some (x :: l'), h => simp [byteS] at h; rw [h.1, h.2]
theorem numGo_some : ∀ (k i n : Nat) (st : Option Byts) (m : Nat) (l' : Byts), numGo k i n st = (m, some l') →
    ∃ x l, st = some l ∧ m = x * 2 ^ (7 * i) + n ∧ l = numEnc x ++ l' ∧ (0 < i → 0 < x) := by
  intro k
  induction k with
  | zero => intro i n st m l' h; simp [numGo] at h
  | succ k ih =>
    intro i n st m l' h
    rw [numGo] at h
    obtain ⟨⟨c, o⟩, hb⟩ : ∃ p, byteS st = p := ⟨_, rfl⟩
    rw [hb] at h
    match o, hb, h with
    | none, hb, h => simp at h
    | some l1, hb, h =>
      have hst := byteS_some hb
      simp only at h
      have hc256 : c.toNat < 256 := c.toNat_lt
      by_cases hc : c.toNat < 128
      · rw [if_pos hc] at h
        by_cases hz : c.toNat = 0 ∧ 0 < i
        · rw [if_pos hz] at h; simp at h
        · rw [if_neg hz] at h
          simp only [Prod.mk.injEq, Option.some.injEq] at h
          obtain ⟨rfl, rfl⟩ := h
          refine ⟨c.toNat, _, hst, by rw [Nat.mod_eq_of_lt hc], ?_, fun hi => by omega⟩
          rw [numEnc_lt hc]
          simp
      · rw [if_neg hc] at h
        obtain ⟨x, l2, e1, e2, e3, e4⟩ := ih _ _ _ _ _ h
        injection e1 with e1
        subst e1
        have hx := e4 (by omega)
        refine ⟨x * 128 + c.toNat % 128, _, hst, ?_, ?_, fun _ => by omega⟩
        · rw [e2, Nat.mul_add, Nat.pow_add, Nat.add_mul]
          have : x * (2 ^ (7 * i) * 2 ^ (7 * 1)) = x * 128 * 2 ^ (7 * i) := by
            rw [Nat.mul_comm (2 ^ (7 * i)), ← Nat.mul_assoc]
          omega
        · rw [numEnc_ge (by omega)]
          have h1 : (x * 128 + c.toNat % 128) % 128 + 128 = c.toNat := by omega
          have h2 : (x * 128 + c.toNat % 128) / 128 = x := by omega
          rw [h1, h2, e3]
          simp
theorem numS_some {st : Option Byts} {m : Nat} {l' : Byts} (h : (numS st).2 = some l') (hm : (numS st).1 = m) : ∃ l, st = some l ∧ l = numEnc m ++ l' := by
  obtain ⟨x, l, e1, e2, e3, _⟩ := numGo_some 9 0 0 st m l' (by rw [← hm, ← h]; rfl)
  have : m = x := by simpa using e2
  subst this
  exact ⟨l, e1, e3⟩
theorem numS_none : numS none = (0, none) := rfl
theorem textS_some {st : Option Byts} {l' : Byts} (h : (textS st).2 = some l') : ∃ l, st = some l ∧ l = textEnc (textS st).1 ++ l' := by
  unfold textS at h ⊢
  obtain ⟨⟨n, o⟩, hn⟩ : ∃ p, numS st = p := ⟨_, rfl⟩
  rw [hn] at h ⊢
  simp only at h ⊢
  match o, hn, h with
  | none, hn, h => simp [rawS] at h
  | some l1, hn, h =>
    obtain ⟨l, e1, e2⟩ := numS_some (st := st) (m := n) (l' := l1) (by rw [hn]) (by rw [hn])
    rw [rawS] at h ⊢
    by_cases hc : (n : Int) < 0 ∨ (l1.length : Int) < n
    · rw [if_pos hc] at h; simp at h
    · rw [if_neg hc] at h ⊢
      simp only [Int.toNat_natCast, Option.some.injEq] at h ⊢
      refine ⟨l, e1, ?_⟩
      have hle : n ≤ l1.length := by omega
      rw [e2, textEnc, ← h, List.length_take, Nat.min_eq_left hle, List.append_assoc, List.take_append_drop]
/-! ### keys -/
theorem keyUser_enc : ∀ (n : Nat) (b u l : Byts), b.length ≤ n → keyUser b = some (u, l) → b = esc u ++ 0 :: 1 :: l := by
  intro n
  induction n with
  | zero =>
    intro b u l hb h
    have : b = [] := List.eq_nil_of_length_eq_zero (by omega)
    subst this
    simp [keyUser] at h
  | succ n ih =>
    intro b u l hb h
    match b, hb, h with
    | [], _, h => simp [keyUser] at h
    | [c], _, h => simp [keyUser] at h
    | c :: d :: b', hb, h =>
      by_cases hc : c = 0
      · subst hc
        rw [keyUser_zero] at h
        by_cases h1 : d = 1
        · rw [if_pos h1] at h
          simp only [Option.some.injEq, Prod.mk.injEq] at h
          obtain ⟨rfl, rfl⟩ := h
          rw [h1]
          rfl
        · rw [if_neg h1] at h
          by_cases h2 : d = 255
          · rw [if_pos h2] at h
            obtain ⟨⟨u', l2⟩, e1, e2⟩ := Option.map_eq_some_iff.1 h
            simp only [Prod.mk.injEq] at e2
            obtain ⟨rfl, rfl⟩ := e2
            have := ih b' u' l2 (by simp at hb; omega) e1
            rw [h2, this]
            simp [esc]
          · rw [if_neg h2] at h; cases h
      · rw [keyUser_ne _ hc] at h
        obtain ⟨⟨u', l2⟩, e1, e2⟩ := Option.map_eq_some_iff.1 h
        simp only [Prod.mk.injEq] at e2
        obtain ⟨rfl, rfl⟩ := e2
        have := ih (d :: b') u' l2 (by simp at hb ⊢; omega) e1
        rw [this]
        simp [esc, hc]
theorem ageGo_none : ∀ (k a : Nat), (ageGo k a none).2 = none := by
  intro k
  induction k with
  | zero => intro a; rfl
  | succ k ih => intro a; rw [ageGo]; exact ih _
/-- Numbers out of bytes, the greatest first. -/
def beNat : Nat → Byts → Nat
  | a, [] => a
  | a, c :: l => beNat (a * 256 + c.toNat) l
theorem ageGo_some : ∀ (k a : Nat) (st : Option Byts) (l' : Byts), (ageGo k a st).2 = some l' → ∃ l, st = some (l ++ l') ∧ l.length = k ∧ (ageGo k a st).1 = beNat a l := by
  intro k
  induction k with
  | zero => intro a st l' h; exact ⟨[], by simpa [ageGo] using h, rfl, rfl⟩
  | succ k ih =>
    intro a st l' h
    rw [ageGo] at h ⊢
    obtain ⟨⟨c, o⟩, hb⟩ : ∃ p, byteS st = p := ⟨_, rfl⟩
    rw [hb] at h ⊢
    simp only at h ⊢
    obtain ⟨l2, e1, e2, e3⟩ := ih _ _ _ h
    subst e1
    exact ⟨c :: l2, byteS_some hb, by simp [e2], by rw [e3]; rfl⟩
theorem be48_of (c0 c1 c2 c3 c4 c5 : UInt8) : be48 (beNat 0 [c0, c1, c2, c3, c4, c5]) = [c0, c1, c2, c3, c4, c5] := by
  have h0 := c0.toNat_lt
  have h1 := c1.toNat_lt
  have h2 := c2.toNat_lt
  have h3 := c3.toNat_lt
  have h4 := c4.toNat_lt
  have h5 := c5.toNat_lt
  simp only [beNat, be48]
  have key : ∀ (x : Nat) (c : UInt8), x % 256 = c.toNat → UInt8.ofNat x = c := by
    intro x c h
    rw [← ofNat_mod, h]
    simp
  rw [List.cons.injEq, List.cons.injEq, List.cons.injEq, List.cons.injEq, List.cons.injEq, List.cons.injEq]
  refine ⟨?_, ?_, ?_, ?_, ?_, ?_, rfl⟩ <;> apply key <;> omega
theorem keyParse_enc {b : Byts} {k : Key} (h : keyParse b = some k) : keyEnc k = b ∧ keyOk k = true := by
  unfold keyParse at h
  by_cases hr : (keyRaw b).2 = true
  · rw [if_pos hr] at h
    injection h with h
    subst h
    unfold keyRaw at hr ⊢
    simp only [Bool.and_eq_true] at hr ⊢
    obtain ⟨⟨hu, hd⟩, hk⟩ := hr
    obtain ⟨⟨u, l⟩, hul⟩ := Option.isSome_iff_exists.1 hu
    rw [hul] at hd hk ⊢
    simp only [Option.getD_some] at hd hk ⊢
    have hb := keyUser_enc b.length b u l (Nat.le_refl _) hul
    have hd2 : (byteS (ageGo 6 0 (some l)).2).2 = some [] := by
      generalize (byteS (ageGo 6 0 (some l)).2).2 = st at hd
      match st, hd with
      | some [], _ => rfl
      | none, hd => simp [doneS] at hd
      | some (c :: l), hd => simp [doneS] at hd
    obtain ⟨⟨c, o⟩, hby⟩ : ∃ p, byteS (ageGo 6 0 (some l)).2 = p := ⟨_, rfl⟩
    rw [hby] at hd2 hk ⊢
    simp only at hd2 hk ⊢
    subst hd2
    obtain ⟨l6, e1, e2, e3⟩ := ageGo_some 6 0 (some l) [c] (byteS_some hby)
    injection e1 with e1
    rw [e3] at hk ⊢
    refine ⟨?_, hk⟩
    obtain ⟨c0, c1, c2, c3, c4, c5, rfl⟩ : ∃ c0 c1 c2 c3 c4 c5, l6 = [c0, c1, c2, c3, c4, c5] := by
      match l6, e2 with
      | [c0, c1, c2, c3, c4, c5], _ => exact ⟨_, _, _, _, _, _, rfl⟩
    have hlt : beNat 0 [c0, c1, c2, c3, c4, c5] ≤ 1099511627776 := by
      simp [keyOk] at hk
      omega
    unfold keyEnc keyAge
    simp only
    rw [show (1099511627776 - (1099511627776 - (beNat 0 [c0, c1, c2, c3, c4, c5] : Int))).toNat = beNat 0 [c0, c1, c2, c3, c4, c5] by omega, be48_of]
    have hc := c.toNat_lt
    have hk2 : 255 - (255 - (c.toNat : Int)).toNat = c.toNat := by omega
    rw [hk2, hb, e1]
    simp [strOf]
  · rw [if_neg hr] at h; cases h
end Go.Proofs.Ytejfejckmhoolaa
