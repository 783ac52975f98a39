/- ikey: Key.Check, and the reference's Right. -/
import Derived.Test.YtejfejckmhoolaaWtr2
set_option linter.unusedSimpArgs false
set_option linter.unusedVariables false
namespace Go.Proofs.Ytejfejckmhoolaa
open Go.RowKit

structure Key where
  user : ByteArray
  seq : Int
  kind : Int
def Key.cells (k : Key) : List Value := [.string k.user, .int .i64 k.seq, .int .i64 k.kind]
def Key.val (k : Key) : Value := .agg k.cells.toArray
def keyOk (k : Key) : Bool := decide (1 ≤ k.user.size ∧ k.user.size ≤ 64 ∧ 0 ≤ k.seq ∧ k.seq ≤ 1099511627776 ∧ 1 ≤ k.kind ∧ k.kind ≤ 3)
def errOf (b : Bool) (c : Int) : Int := if b then 0 else c
theorem errOf_true (c : Int) : errOf true c = 0 := rfl
theorem errOf_false (c : Int) : errOf false c = c := rfl

/-- An int comes back; nothing old has changed. -/
def IntBelow (w : World) (n : Int) (e : Ending) (w' : World) : Prop := e = .returned (.int .i64 n) ∧ Below w.heap.size w w'
def BoolBelow (w : World) (b : Bool) (e : Ending) (w' : World) : Prop := e = .returned (.bool b) ∧ Below w.heap.size w w'

set_option maxHeartbeats 1000000 in
theorem keyCheck_any (k : Key) (w : World) : Calls Try.prog 107 #[k.val] w (IntBelow w (errOf (keyOk k) 30)) := by
  obtain ⟨u, s, d⟩ := k
  obtain ⟨n, hn⟩ : ∃ n, Hid (n = errOf (keyOk ⟨u, s, d⟩) 30) := ⟨_, rfl⟩
  rw [← hn.out]
  unfold Key.val Key.cells
  have hn2 := hn.out
  unfold keyOk at hn2
  by_cases h1 : 1 ≤ u.size
  · by_cases h2 : u.size ≤ 64
    · by_cases h3 : 0 ≤ s
      · by_cases h4 : s ≤ 1099511627776
        · by_cases h5 : 1 ≤ d
          · by_cases h6 : d ≤ 3
            · rw [decide_eq_true ⟨h1, h2, h3, h4, h5, h6⟩, errOf_true] at hn2
              subst hn2
              clear hn
              go_enter Try.func107, Try.ntmps107
              go_wp2
              go_ret
              exact ⟨rfl, (Below.refl _ _).alloc (Nat.le_refl _) _⟩
            · (rw [decide_eq_false (fun hh => by simp only at hh; omega), errOf_false] at hn2; subst hn2; clear hn; go_enter Try.func107, Try.ntmps107; go_wp2; go_ret; exact ⟨rfl, (Below.refl _ _).alloc (Nat.le_refl _) _⟩)
          · (rw [decide_eq_false (fun hh => by simp only at hh; omega), errOf_false] at hn2; subst hn2; clear hn; go_enter Try.func107, Try.ntmps107; go_wp2; go_ret; exact ⟨rfl, (Below.refl _ _).alloc (Nat.le_refl _) _⟩)
        · (rw [decide_eq_false (fun hh => by simp only at hh; omega), errOf_false] at hn2; subst hn2; clear hn; go_enter Try.func107, Try.ntmps107; go_wp2; go_ret; exact ⟨rfl, (Below.refl _ _).alloc (Nat.le_refl _) _⟩)
      · (rw [decide_eq_false (fun hh => by simp only at hh; omega), errOf_false] at hn2; subst hn2; clear hn; go_enter Try.func107, Try.ntmps107; go_wp2; go_ret; exact ⟨rfl, (Below.refl _ _).alloc (Nat.le_refl _) _⟩)
    · (rw [decide_eq_false (fun hh => by simp only at hh; omega), errOf_false] at hn2; subst hn2; clear hn; go_enter Try.func107, Try.ntmps107; go_wp2; go_ret; exact ⟨rfl, (Below.refl _ _).alloc (Nat.le_refl _) _⟩)
  · (rw [decide_eq_false (fun hh => by simp only at hh; omega), errOf_false] at hn2; subst hn2; clear hn; go_enter Try.func107, Try.ntmps107; go_wp2; go_ret; exact ⟨rfl, (Below.refl _ _).alloc (Nat.le_refl _) _⟩)

set_option maxHeartbeats 1000000 in
theorem refKeyRight_any (k : Key) (w : World) : Calls Try.prog 102 #[k.val] w (BoolBelow w (keyOk k)) := by
  obtain ⟨u, s, d⟩ := k
  obtain ⟨n, hn⟩ : ∃ n, Hid (n = keyOk ⟨u, s, d⟩) := ⟨_, rfl⟩
  rw [← hn.out]
  unfold Key.val Key.cells
  have hn2 := hn.out
  unfold keyOk at hn2
  by_cases h1 : 1 ≤ u.size
  · by_cases h2 : u.size ≤ 64
    · by_cases h3 : 0 ≤ s
      · by_cases h4 : s ≤ 1099511627776
        · by_cases h5 : 1 ≤ d
          · by_cases h6 : d ≤ 3
            · rw [decide_eq_true ⟨h1, h2, h3, h4, h5, h6⟩] at hn2
              subst hn2
              clear hn
              go_enter Try.func102, Try.ntmps102
              go_wp2
              go_ret
              exact ⟨rfl, (Below.refl _ _).alloc (Nat.le_refl _) _⟩
            · (rw [decide_eq_false (fun hh => by simp only at hh; omega)] at hn2; subst hn2; clear hn; go_enter Try.func102, Try.ntmps102; go_wp2; go_ret; exact ⟨rfl, (Below.refl _ _).alloc (Nat.le_refl _) _⟩)
          · (rw [decide_eq_false (fun hh => by simp only at hh; omega)] at hn2; subst hn2; clear hn; go_enter Try.func102, Try.ntmps102; go_wp2; go_ret; exact ⟨rfl, (Below.refl _ _).alloc (Nat.le_refl _) _⟩)
        · (rw [decide_eq_false (fun hh => by simp only at hh; omega)] at hn2; subst hn2; clear hn; go_enter Try.func102, Try.ntmps102; go_wp2; go_ret; exact ⟨rfl, (Below.refl _ _).alloc (Nat.le_refl _) _⟩)
      · (rw [decide_eq_false (fun hh => by simp only at hh; omega)] at hn2; subst hn2; clear hn; go_enter Try.func102, Try.ntmps102; go_wp2; go_ret; exact ⟨rfl, (Below.refl _ _).alloc (Nat.le_refl _) _⟩)
    · (rw [decide_eq_false (fun hh => by simp only at hh; omega)] at hn2; subst hn2; clear hn; go_enter Try.func102, Try.ntmps102; go_wp2; go_ret; exact ⟨rfl, (Below.refl _ _).alloc (Nat.le_refl _) _⟩)
  · (rw [decide_eq_false (fun hh => by simp only at hh; omega)] at hn2; subst hn2; clear hn; go_enter Try.func102, Try.ntmps102; go_wp2; go_ret; exact ⟨rfl, (Below.refl _ _).alloc (Nat.le_refl _) _⟩)
end Go.Proofs.Ytejfejckmhoolaa
