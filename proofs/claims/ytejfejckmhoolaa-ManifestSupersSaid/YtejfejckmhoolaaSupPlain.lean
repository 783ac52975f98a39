/- Supers and their bytes, plainly. -/
import Derived.Test.YtejfejckmhoolaaNewest
import Derived.Test.YtejfejckmhoolaaPlain
set_option linter.unusedSimpArgs false
set_option linter.unusedVariables false
namespace Go.Proofs.Ytejfejckmhoolaa
open Go.RowKit

theorem numGo_enc : ∀ (k i n acc : Nat) (l : Byts), 0 < k → n < 2 ^ (7 * k) → (0 < i → 0 < n) → numGo k i acc (some (numEnc n ++ l)) = (n * 2 ^ (7 * i) + acc, some l) := by
  intro k
  induction k with
  | zero =>
    intro i n acc l h0
    exact absurd h0 (Nat.lt_irrefl 0)
  | succ k ih =>
    intro i n acc l _ hn hi
    by_cases h : n < 128
    · rw [numEnc_lt h, List.cons_append, List.nil_append, numGo]
      have hc : (UInt8.ofNat n).toNat = n := by
        have h5 : (UInt8.ofNat n).toNat = n % 256 := rfl
        rw [h5]
        omega
      simp only [byteS, hc]
      rw [if_pos h, if_neg (by omega), Nat.mod_eq_of_lt h]
    · rw [numEnc_ge h, List.cons_append, numGo]
      have hc : (UInt8.ofNat (n % 128 + 128)).toNat = n % 128 + 128 := by
        have h5 : (UInt8.ofNat (n % 128 + 128)).toNat = (n % 128 + 128) % 256 := rfl
        rw [h5]
        omega
      simp only [byteS, hc]
      have h7 : 2 ^ (7 * (k + 1)) = 128 * 2 ^ (7 * k) := by rw [Nat.mul_add, Nat.pow_add]; omega
      have h8 : 2 ^ (7 * (i + 1)) = 128 * 2 ^ (7 * i) := by rw [Nat.mul_add, Nat.pow_add]; omega
      have hk : 0 < k := by
        rcases Nat.eq_zero_or_pos k with h0 | h0
        · subst h0
          simp at h7
          omega
        · exact h0
      rw [if_neg (by omega), ih (i + 1) (n / 128) _ l hk (by omega) (fun _ => by omega), h8]
      have h9 : (n % 128 + 128) % 128 = n % 128 := by omega
      rw [h9]
      have h10 : n * 2 ^ (7 * i) = (n / 128) * (128 * 2 ^ (7 * i)) + n % 128 * 2 ^ (7 * i) := by
        conv => lhs; rw [← Nat.div_add_mod n 128]
        rw [Nat.add_mul, Nat.mul_comm 128 (n / 128), Nat.mul_assoc]
      rw [h10, Nat.add_assoc]
theorem numS_enc (n : Nat) (l : Byts) (hn : n < 9223372036854775808) : numS (some (numEnc n ++ l)) = (n, some l) := by
  unfold numS
  rw [numGo_enc 9 0 n 0 l (by omega) (by simpa using hn) (fun h => absurd h (Nat.lt_irrefl 0))]
  simp
theorem supS_enc {g z : Int} (h : supOk g z = true) : supS (supEnc g z) = some (g.toNat, z.toNat) := by
  have hb := h
  simp only [supOk, decide_eq_true_eq] at hb
  obtain ⟨g0, g1, z0, z1⟩ := hb
  have h1 := numS_enc g.toNat (numEnc z.toNat) (by omega)
  have h2 := numS_enc z.toNat [] (by omega)
  rw [List.append_nil] at h2
  unfold supS supEnc
  rw [h1]
  simp only
  rw [h2]
  simp only
  rw [Int.toNat_of_nonneg (by omega), Int.toNat_of_nonneg z0, if_pos ⟨rfl, h⟩]
theorem supS_dec {b : Byts} {g z : Nat} (h : supS b = some (g, z)) : supOk g z = true ∧ supEnc g z = b := by
  unfold supS at h
  split at h
  · rename_i hc
    obtain ⟨h1, h2⟩ := hc
    injection h with h
    injection h with h3 h4
    have hd : (numS (numS (some b)).2).2 = some [] := by
      generalize (numS (numS (some b)).2).2 = st at h1
      match st, h1 with
      | some [], _ => rfl
      | none, h1 => simp [doneS] at h1
      | some (c :: l), h1 => simp [doneS] at h1
    obtain ⟨l1, e1, e2⟩ := numS_some hd h4
    obtain ⟨l2, e3, e4⟩ := numS_some e1 h3
    injection e3 with e3
    rw [h3, h4] at h2
    refine ⟨h2, ?_⟩
    rw [e3, e4, e2]
    simp [supEnc]
  · cases h
theorem newestS_append (a b : List Byts) (p : Nat × Nat) : newestS (a ++ b) p = newestS b (newestS a p) := by
  induction a generalizing p with
  | nil => rfl
  | cons x a ih => simp only [List.cons_append, newestS, ih]
theorem newestS_pos : ∀ (l : List Byts) (p : Nat × Nat), 0 < p.1 → 0 < (newestS l p).1 := by
  intro l
  induction l with
  | nil => intro p h; exact h
  | cons b l ih =>
    intro p h
    simp only [newestS]
    apply ih
    unfold newestStep
    split
    · split
      · omega
      · exact h
    · exact h
/-- Supers all: the newest is there just if there is one. -/
theorem newestS_all (l : List Byts) (h : ∀ b, b ∈ l → ∃ g z, supS b = some (g, z) ∧ 1 ≤ g) : 0 < (newestS l (0, 0)).1 ↔ 0 < l.length := by
  match l, h with
  | [], _ => simp [newestS]
  | b :: l, h =>
    obtain ⟨g, z, e, hg⟩ := h b (by simp)
    simp only [newestS, e, newestStep, List.length_cons, Nat.zero_le, if_true]
    exact ⟨fun _ => by omega, fun _ => newestS_pos l _ hg⟩
end Go.Proofs.Ytejfejckmhoolaa
