/- Runs of single operators on int, over any program: shifts by a count, `|` of two numbers without a bit in common, masks. -/
import Derived.WalkKit
import Derived.Laws.BitsAllLaws
import Derived.Laws.BitsLemmas
set_option linter.unusedSimpArgs false
set_option linter.unusedVariables false
namespace Go.Proofs.Ytejfejckmhoolaa

theorem wrap_in (x : Int) (h0 : -9223372036854775808 ≤ x) (h1 : x < 9223372036854775808) : IntKind.i64.wrap x = x := by
  rw [IntKind.wrap_i64]; omega
theorem run_shl_i64 {P : Program} {t : TypeId} (x : Int) (n : Nat) (h0 : 0 ≤ x) (hn : n ≤ 63) (hb : x * 2 ^ n < 9223372036854775808) (w : World) :
    (binOp .shl t (.int .i64 x) (.int .i64 (n : Int))).run P w = .ok (.int .i64 (x * 2 ^ n)) w := by
  have hp : (0 : Int) ≤ x * 2 ^ n := Int.mul_nonneg h0 (Int.pow_nonneg (by decide))
  have hneg : ¬ ((n : Int) < 0) := by omega
  have hmin : min n 64 = n := Nat.min_eq_left (by omega)
  simp [binOp, Op.shift, hneg, IntKind.bits, hmin, wrap_in _ (by omega) hb]
theorem ofInt_i64 (a : Nat) (ha : a < 9223372036854775808) : (BitVec.ofInt 64 (a : Int)).toNat = a := by
  rw [BitVec.ofInt_natCast, BitVec.toNat_ofNat]; exact Nat.mod_eq_of_lt (by omega)
theorem run_or_i64 {P : Program} {t : TypeId} (a b j : Nat) (ha : a < 2 ^ j) (hs : b * 2 ^ j + a < 9223372036854775808) (w : World) :
    (binOp .or t (.int .i64 (a : Int)) (.int .i64 ((b * 2 ^ j : Nat) : Int))).run P w = .ok (.int .i64 ((b * 2 ^ j + a : Nat) : Int)) w := by
  have h1 := ofInt_i64 a (by omega)
  have h2 := ofInt_i64 (b * 2 ^ j) (by omega)
  have h3 : a ||| b * 2 ^ j = b * 2 ^ j + a := by
    rw [Nat.or_comm, Nat.mul_comm b, ← Nat.two_pow_add_eq_or_of_lt ha]
  have h4 : (BitVec.ofInt 64 (a : Int) ||| BitVec.ofInt 64 ((b * 2 ^ j : Nat) : Int)).toNat = b * 2 ^ j + a := by
    rw [BitVec.toNat_or, h1, h2, h3]
  have h5 : (binOp .or t (.int .i64 (a : Int)) (.int .i64 ((b * 2 ^ j : Nat) : Int))).run P w =
      .ok (.int .i64 (IntKind.i64.wrap (((BitVec.ofInt 64 (a : Int) ||| BitVec.ofInt 64 ((b * 2 ^ j : Nat) : Int)).toNat : Nat) : Int))) w := rfl
  rw [h5, h4, wrap_in _ (by omega) (by omega)]
theorem bits_u8_and127 (q : Nat) (h : q < 256) : bits .and .u8 (q : Int) 127 = ((q % 128 : Nat) : Int) := by
  have := u8_and_nat q 127 h (by omega)
  rw [show ((127 : Nat) : Int) = 127 from rfl] at this
  rw [this, show (127 : Nat) = 2 ^ 7 - 1 from rfl, Nat.and_two_pow_sub_one_eq_mod]
theorem run_and127_u8 {P : Program} {t : TypeId} (q : Nat) (h : q < 256) (w : World) :
    (binOp .and t (.int .u8 (q : Int)) (.int .u8 127)).run P w = .ok (.int .u8 ((q % 128 : Nat) : Int)) w := by
  have h5 : (binOp .and t (.int .u8 (q : Int)) (.int .u8 127)).run P w = .ok (.int .u8 (bits .and .u8 (q : Int) 127)) w := rfl
  rw [h5, bits_u8_and127 q h]
end Go.Proofs.Ytejfejckmhoolaa
