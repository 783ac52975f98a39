/- Key.Cmp; the reference's order, Order and Cmp. -/
import Derived.Test.YtejfejckmhoolaaCmp
set_option linter.unusedSimpArgs false
set_option linter.unusedVariables false
namespace Go.Proofs.Ytejfejckmhoolaa
open Go.RowKit

def bcmp (a b : ByteArray) : Int := Lib.compareBytes a.data.toList b.data.toList
def keyCmp (a b : Key) : Int := orInts [bcmp a.user b.user, cmpInt b.seq a.seq, cmpInt b.kind a.kind]

theorem ints3 (w : World) (g : Nat) (hg : w.heap.size = g) (a b c : Int) : Ints (w.alloc (.cells #[.int .i64 a, .int .i64 b, .int .i64 c] 3)).drew (fun _ => True) (.slice (some ⟨g, 0, none⟩) 3 3) [a, b, c] := by
  subst hg
  exact ⟨rfl, _, 3, rfl, Nat.le_refl _, fun _ => ⟨_, 0, _, _, rfl, trivial, heap_alloc_new w _, fun j u hu => by simpa [intV] using hu⟩⟩
set_option maxRecDepth 100000 in
set_option maxHeartbeats 200000 in
theorem keyCmp_any (a b : Key) (w : World) : Calls Try.prog 89 #[a.val, b.val] w (IntBelow w (keyCmp a b)) := by
  obtain ⟨u, s, d⟩ := a
  obtain ⟨u2, s2, d2⟩ := b
  unfold Key.val Key.cells keyCmp
  go_enter Try.func89, Try.ntmps89
  go_wp2_with fail
  go_region_held3 (fun w' => w'.cell? ⟨w.heap.size, 0, none⟩ = some (.string u) ∧ w'.cell? ⟨w.heap.size, 1, none⟩ = some (.int .i64 s) ∧ w'.cell? ⟨w.heap.size, 2, none⟩ = some (.int .i64 d) ∧ w'.cell? ⟨w.heap.size + 1, 0, none⟩ = some (.string u2) ∧ w'.cell? ⟨w.heap.size + 1, 1, none⟩ = some (.int .i64 s2) ∧ w'.cell? ⟨w.heap.size + 1, 2, none⟩ = some (.int .i64 d2)) (simp [go_sem, World.cell?_alloc_past])
    (first
      | (go_at_call 120; refine (stringsCompare_any _ _ _).mono ?_; rintro e w' ⟨rfl, rfl⟩)
      | (go_at_call 121; refine (cmpCompare_any _ _ _).mono ?_; rintro e w' ⟨rfl, rfl⟩)
      | (go_at_call 119; refine (cmpOr_any _ (fun _ => True) _ [_, _, _] (by exact ints3 _ _ (by simp) _ _ _) (by simp) (by simp)).mono ?_; rintro e w' ⟨rfl, rfl⟩))
  go_wp2
  go_ret
  exact ⟨rfl, (by repeat (first | exact Below.refl _ _ | assumption | refine Below.drew ?_ | refine Below.alloc ?_ (by (try simp); (try omega)) _))⟩

/-! ### the reference's order -/
theorem get_drop {l : Byts} {k : Nat} {c : UInt8} (h : l[k]? = some c) : l.drop k = c :: l.drop (k + 1) := by
  have h1 : k < l.length := by
    rcases Nat.lt_or_ge k l.length with h1 | h1
    · exact h1
    · rw [List.getElem?_eq_none h1] at h; cases h
  rw [List.drop_eq_getElem_cons h1]
  rw [List.getElem?_eq_getElem h1] at h
  injection h with h
  rw [h]

theorem drop_byte (a : ByteArray) (k : Nat) (h : k < a.size) : a.data.toList.drop k = a[k] :: a.data.toList.drop (k + 1) := by
  rw [List.drop_eq_getElem_cons (by simpa using h)]
  rfl
theorem drop_size (a : ByteArray) (k : Nat) (h : a.size ≤ k) : a.data.toList.drop k = [] := List.drop_of_length_le (by simpa using h)
set_option maxRecDepth 100000 in
set_option maxHeartbeats 1000000 in
theorem order_any (a b : ByteArray) (w : World) (ha : a.size ≤ maxLen) (hb : b.size ≤ maxLen) : Calls Try.prog 128 #[.string a, .string b] w fun e w' => e = .returned (.int .i64 (bcmp a b)) ∧ ∃ n, w' = w.drewN n := by
  unfold maxLen at ha hb
  go_enter Try.func128, Try.ntmps128
  go_wp2_with fail
  go_loopw [5] (fun i wr => ∃ k n : Nat, i = .int .i64 k ∧ k ≤ a.size ∧ k ≤ b.size ∧ wr = w.drewN n ∧ Hid (bcmp a b = Lib.compareBytes (a.data.toList.drop k) (b.data.toList.drop k))) (fun i _ => a.size - (intOf i).toNat)
  case atStart => exact ⟨0, 0, rfl, by omega, by omega, rfl, rfl⟩
  case round =>
    obtain ⟨k, n, rfl, hka, hkb, rfl, HK⟩ := hrel
    by_cases h1 : k < a.size
    · by_cases h2 : k < b.size
      · have HK1 := HK.out
        rw [drop_byte a k h1, drop_byte b k h2, Lib.compareBytes] at HK1
        have HC := Lib.hid HK1
        clear HK HK1
        by_cases h3 : a[k].toNat < b[k].toNat
        · go_wp2_with fail
          go_quiet (fail)
          go_wp2_with fail
          go_ret
          have h5 := HC.out
          rw [if_pos (by rw [UInt8.lt_iff_toNat_lt]; exact h3)] at h5
          exact ⟨by rw [h5]; rfl, _, World.drewN_drewN _ _ _⟩
        · by_cases h4 : b[k].toNat < a[k].toNat
          · go_wp2_with fail
            go_quiet (fail)
            go_wp2_with fail
            go_quiet (fail)
            go_wp2_with fail
            go_ret
            have h5 := HC.out
            rw [if_neg (by rw [UInt8.lt_iff_toNat_lt]; exact h3), if_pos (by rw [UInt8.lt_iff_toNat_lt]; exact h4)] at h5
            exact ⟨by rw [h5]; rfl, _, by rw [World.drewN_drewN, World.drewN_drewN]⟩
          · go_wp2_with fail
            go_quiet (fail)
            go_wp2_with fail
            go_quiet (fail)
            go_wp2_with fail
            have h5 := HC.out
            rw [if_neg (by rw [UInt8.lt_iff_toNat_lt]; exact h3), if_neg (by rw [UInt8.lt_iff_toNat_lt]; exact h4)] at h5
            exact ⟨⟨k + 1, _, by simp, by omega, by omega, rfl, h5⟩, by simp [intOf]; omega⟩
      · have e2 : k = b.size := by omega
        have HK1 := HK.out
        rw [drop_byte a k h1, drop_size b k (by omega), Lib.compareBytes] at HK1
        have HC := Lib.hid HK1
        clear HK HK1 e2
        have h6 : b.size < a.size := by omega
        go_wp2_with fail
        go_ret
        exact ⟨by rw [HC.out]; rfl, _, rfl⟩
    · have HK1 := HK.out
      rw [drop_size a k (by omega)] at HK1
      by_cases h2 : k < b.size
      · rw [drop_byte b k h2, Lib.compareBytes] at HK1
        have HC := Lib.hid HK1
        clear HK HK1
        have h6 : a.size < b.size := by omega
        go_wp2_with fail
        go_ret
        exact ⟨by rw [HC.out]; rfl, _, rfl⟩
      · rw [drop_size b k (by omega), Lib.compareBytes] at HK1
        have HC := Lib.hid HK1
        clear HK HK1
        have h6 : ¬ a.size < b.size := by omega
        have h7 : ¬ b.size < a.size := by omega
        go_wp2_with fail
        go_ret
        exact ⟨by rw [HC.out]; rfl, _, rfl⟩

theorem Order_any (a b : ByteArray) (w : World) (ha : a.size ≤ maxLen) (hb : b.size ≤ maxLen) : Calls Try.prog 115 #[.string a, .string b] w fun e w' => e = .returned (.int .i64 (bcmp a b)) ∧ ∃ n, w' = w.drewN n := by
  go_enter Try.func115, Try.ntmps115
  go_wp2_with fail
  refine (order_any a b w ha hb).mono ?_
  rintro e w1 ⟨rfl, n, rfl⟩
  go_wp2_with fail
  go_ret
  exact ⟨rfl, n, rfl⟩

theorem below_drewN (B : Nat) (w : World) (n : Nat) : Below B w (w.drewN n) := ⟨rfl, rfl, rfl, Nat.le_refl _, fun _ _ => rfl⟩

set_option maxRecDepth 100000 in
set_option maxHeartbeats 1000000 in
theorem refCmp_any (a b : Key) (w : World) (ha : a.user.size ≤ maxLen) (hb : b.user.size ≤ maxLen) : Calls Try.prog 103 #[a.val, b.val] w (IntBelow w (keyCmp a b)) := by
  obtain ⟨u, s, d⟩ := a
  obtain ⟨u2, s2, d2⟩ := b
  unfold Key.val Key.cells keyCmp
  obtain ⟨n, hn⟩ : ∃ n, Hid (n = orInts [bcmp u u2, cmpInt s2 s, cmpInt d2 d]) := ⟨_, rfl⟩
  rw [← hn.out]
  have hn2 := hn.out
  unfold cmpInt at hn2
  simp only [orInts] at hn2
  obtain ⟨c, hc⟩ : ∃ c, Hid (c = bcmp u u2) := ⟨_, rfl⟩
  rw [← hc.out] at hn2
  by_cases h0 : c = 0
  · rw [if_pos h0] at hn2
    have hb0 : (c != 0) = false := by simp [h0]
    have H0 := Lib.hid h0
    clear h0
    by_cases h1 : s2 < s
    · rw [if_pos h1, if_neg (by decide)] at hn2
      (subst hn2; go_enter Try.func103, Try.ntmps103; go_wp2_with fail; refine (order_any u u2 _ ha hb).mono ?_; rw [← hc.out]; rintro e w1 ⟨rfl, m, rfl⟩; go_wp2_with fail; go_ret; exact ⟨rfl, (((Below.refl _ _).alloc (Nat.le_refl _) _).alloc (by simp) _).trans (below_drewN _ _ _)⟩)
    · by_cases h2 : s < s2
      · rw [if_neg h1, if_pos h2, if_neg (by decide)] at hn2
        (subst hn2; go_enter Try.func103, Try.ntmps103; go_wp2_with fail; refine (order_any u u2 _ ha hb).mono ?_; rw [← hc.out]; rintro e w1 ⟨rfl, m, rfl⟩; go_wp2_with fail; go_ret; exact ⟨rfl, (((Below.refl _ _).alloc (Nat.le_refl _) _).alloc (by simp) _).trans (below_drewN _ _ _)⟩)
      · rw [if_neg h1, if_neg h2, if_pos rfl] at hn2
        by_cases h3 : d2 < d
        · rw [if_pos h3, if_neg (by decide)] at hn2
          (subst hn2; go_enter Try.func103, Try.ntmps103; go_wp2_with fail; refine (order_any u u2 _ ha hb).mono ?_; rw [← hc.out]; rintro e w1 ⟨rfl, m, rfl⟩; go_wp2_with fail; go_ret; exact ⟨rfl, (((Below.refl _ _).alloc (Nat.le_refl _) _).alloc (by simp) _).trans (below_drewN _ _ _)⟩)
        · by_cases h4 : d < d2
          · rw [if_neg h3, if_pos h4, if_neg (by decide)] at hn2
            (subst hn2; go_enter Try.func103, Try.ntmps103; go_wp2_with fail; refine (order_any u u2 _ ha hb).mono ?_; rw [← hc.out]; rintro e w1 ⟨rfl, m, rfl⟩; go_wp2_with fail; go_ret; exact ⟨rfl, (((Below.refl _ _).alloc (Nat.le_refl _) _).alloc (by simp) _).trans (below_drewN _ _ _)⟩)
          · rw [if_neg h3, if_neg h4, if_pos rfl] at hn2
            (subst hn2; go_enter Try.func103, Try.ntmps103; go_wp2_with fail; refine (order_any u u2 _ ha hb).mono ?_; rw [← hc.out]; rintro e w1 ⟨rfl, m, rfl⟩; go_wp2_with fail; go_ret; exact ⟨rfl, (((Below.refl _ _).alloc (Nat.le_refl _) _).alloc (by simp) _).trans (below_drewN _ _ _)⟩)
  · rw [if_neg h0] at hn2
    have hb0 : (c != 0) = true := by simp [h0]
    clear h0
    (subst hn2; go_enter Try.func103, Try.ntmps103; go_wp2_with fail; refine (order_any u u2 _ ha hb).mono ?_; rw [← hc.out]; rintro e w1 ⟨rfl, m, rfl⟩; go_wp2_with fail; go_ret; exact ⟨rfl, (((Below.refl _ _).alloc (Nat.le_refl _) _).alloc (by simp) _).trans (below_drewN _ _ _)⟩)
end Go.Proofs.Ytejfejckmhoolaa
