/- Writer.Number, Text, Bytes. -/
import Derived.Test.YtejfejckmhoolaaWtr
set_option linter.unusedSimpArgs false
set_option linter.unusedVariables false
namespace Go.Proofs.Ytejfejckmhoolaa
open Go.RowKit

theorem numEnc_lt {n : Nat} (h : n < 128) : numEnc n = [UInt8.ofNat n] := by rw [numEnc, dif_pos h]
theorem numEnc_ge {n : Nat} (h : ¬ n < 128) : numEnc n = UInt8.ofNat (n % 128 + 128) :: numEnc (n / 128) := by rw [numEnc, dif_neg h]

theorem numEnc_len_lt : ∀ (k n : Nat), n < 128 ^ (k + 1) → (numEnc n).length ≤ k + 1 := by
  intro k
  induction k with
  | zero => intro n h; rw [numEnc_lt (by omega)]; simp
  | succ k ih =>
    intro n h
    by_cases hn : n < 128
    · rw [numEnc_lt hn]; simp
    · rw [numEnc_ge hn, List.length_cons]
      have : n / 128 < 128 ^ (k + 1) := Nat.div_lt_of_lt_mul (by rw [Nat.mul_comm, ← Nat.pow_succ]; exact h)
      have := ih _ this
      omega
theorem numEnc_len (n : Nat) (h : n < 9223372036854775808) : (numEnc n).length ≤ 20 :=
  numEnc_len_lt 19 n (Nat.lt_of_lt_of_le h (by decide))
theorem or128 : ∀ a, a < 256 → a ||| 128 = a % 128 + 128 := by decide +kernel
set_option maxHeartbeats 1000000 in
theorem wnumber_any (W : Nat) (n : Nat) (hn : n < 9223372036854775808) (w : World) (O : Nat → Prop) (bad : Bool) (l : Byts) (h : Wtr w O W bad l) (hnew : ∀ g, w.heap.size ≤ g → O g) (hl : l.length + (numEnc n).length ≤ 100000000) :
    Calls Try.prog 77 #[.pointer (some ⟨W, 0, none⟩), .int .i64 n] w (WtrPost O W w bad (l ++ numEnc n)) := by
  have hneg : ¬ ((n : Int) < 0) := by omega
  have HN : Hid (n < 9223372036854775808) := hn
  clear hn
  have HL : Hid (l.length + (numEnc n).length ≤ 100000000) := hl
  clear hl
  go_enter Try.func77, Try.ntmps77
  go_wp2_with fail
  go_loopw [1] (fun t wr => ∃ (m : Nat) (l' : Byts), t = .int .i64 m ∧ Hid (m < 9223372036854775808) ∧ Wtr wr O W bad l' ∧ Keep (fun g => ¬ O g ∧ g ≠ W) w wr ∧ Hid (l' ++ numEnc m = l ++ numEnc n)) (fun t _ => (intOf t).toNat)
  case atStart => exact ⟨n, l, rfl, HN, h, Keep.refl _ _, rfl⟩
  case round =>
    obtain ⟨m, l', rfl, HM, hw, hk, HE⟩ := hrel
    have HL' : l'.length + (numEnc m).length ≤ 100000000 := by
      have := congrArg List.length HE.out
      have h2 := HL.out
      simp at this
      omega
    have hnew' : ∀ g, wr.heap.size ≤ g → O g := fun g hg => hnew g (Nat.le_trans hk.size hg)
    obtain ⟨v, hh, hown, hO⟩ := hw
    have hlt := heap_lt hh
    obtain ⟨A, c0, rfl⟩ := own_form hown
    have h0 : wr.cell? ⟨W, 0, none⟩ = some (.slice A l'.length c0) := by simpa using cell_of_block hh 0
    have f0 : wr.frozen? ⟨W, 0, none⟩ = false := frozen_of_block hh 0
    have HH := Lib.hid hh
    have HO := Lib.hid hown
    clear hh hown
    by_cases hm : m < 128
    · have hgt : ¬ (127 < (m : Int)) := by omega
      have hmod : (m : Int) % 256 = m := by omega
      have HL2 : l'.length + 1 ≤ 100000000 := by rw [numEnc_lt hm] at HL'; simpa using HL'
      clear HL'
      go_wp2_with (at_builtin; refine wpList_append_one rfl (.tmp 31) (.tmp 34) _ rfl ei_u8 (.slice A (l'.length) c0) (l'.length) _ rfl HO.out [.int .u8 (m : Int)] 1 rfl (by omega) rfl (by simp [Value.oneCell']) (by omega) (by omega) ?_; intro v' w1 hown1 hg1 hb1; obtain ⟨A', c', rfl⟩ := own_form hown1; have hc1 := (World.cell?_of_block (hg1.block W hlt (fun e => own_ne_W HH.out HO.out e.symm))).trans h0; have hf1 := (World.frozen?_of_block (hg1.block W hlt (fun e => own_ne_W HH.out HO.out e.symm))).trans f0)
      go_ret
      have hst := Wtr.step (l' := l' ++ [UInt8.ofNat m]) HH.out HO.out hO hnew' (by rw [← byteV_of m (by omega), map_snoc] at hown1; simpa using hown1) hg1 (hb1.imp id fun e => ⟨_, e, by omega⟩)
      have he := HE.out
      rw [numEnc_lt hm] at he
      rw [he] at hst
      exact ⟨rfl, by simpa using hst.1, hk.trans (by simpa using hst.2)⟩
    · have hgt : 127 < (m : Int) := by omega
      obtain ⟨x, hx⟩ : ∃ x, Hid (x = m % 128 + 128) := ⟨_, rfl⟩
      have hx2 : x < 256 := by have := hx.out; omega
      have hor : bits .or .u8 ((m : Int) % 256) 128 = (x : Int) := by
        have h1 := u8_or_nat (m % 256) 128 (by omega) (by omega)
        have h2 : m % 256 ||| 128 = x := by
          rw [hx.out]
          rw [or128 _ (by omega)]
          omega
        rw [h2] at h1
        rw [← h1]
        simp
      have HL2 : l'.length + 1 ≤ 100000000 := by rw [numEnc_ge hm] at HL'; simp at HL'; omega
      clear HL'
      go_wp2_with (at_builtin; refine wpList_append_one rfl (.tmp 17) (.tmp 21) _ rfl ei_u8 (.slice A (l'.length) c0) (l'.length) _ rfl HO.out [.int .u8 (x : Int)] 1 rfl (by omega) rfl (by simp [Value.oneCell']) (by omega) (by omega) ?_; intro v' w1 hown1 hg1 hb1; obtain ⟨A', c', rfl⟩ := own_form hown1; have hc1 := (World.cell?_of_block (hg1.block W hlt (fun e => own_ne_W HH.out HO.out e.symm))).trans h0; have hf1 := (World.frozen?_of_block (hg1.block W hlt (fun e => own_ne_W HH.out HO.out e.symm))).trans f0)
      have hst := Wtr.step (l' := l' ++ [UInt8.ofNat x]) HH.out HO.out hO hnew' (by rw [← byteV_of x (by omega), map_snoc] at hown1; simpa using hown1) hg1 (hb1.imp id fun e => ⟨_, e, by omega⟩)
      have he := HE.out
      rw [numEnc_ge hm, ← hx.out] at he
      have HM2 : Hid (m / 128 < 9223372036854775808) := Nat.lt_of_le_of_lt (Nat.div_le_self _ _) HM.out
      exact ⟨⟨m / 128, l' ++ [UInt8.ofNat x], by simp, HM2, hst.1, hk.trans hst.2, by unfold Hid; simpa using he⟩, by simp [intOf]; omega⟩

set_option maxHeartbeats 400000 in
theorem wnumber_neg (W : Nat) (n : Int) (hn : n < 0) (w : World) (O : Nat → Prop) (bad : Bool) (l : Byts) (h : Wtr w O W bad l) :
    Calls Try.prog 77 #[.pointer (some ⟨W, 0, none⟩), .int .i64 n] w (WtrPost O W w true l) := by
  obtain ⟨v, hh, hown, hO⟩ := h
  have h1 : w.cell? ⟨W, 1, none⟩ = some (.bool bad) := by simpa using cell_of_block hh 1
  have f1 : w.frozen? ⟨W, 1, none⟩ = false := frozen_of_block hh 1
  have HH := Lib.hid hh
  have HO := Lib.hid hown
  clear hh hown
  go_enter Try.func77, Try.ntmps77
  go_wp2_with fail
  go_ret
  have hk : Keep (fun g => g ≠ W) w (w.setCell ⟨W, 1, none⟩ (.bool true)) := (Keep.refl _ _).setCell (fun _ hf => hf rfl) _
  refine ⟨rfl, ⟨v, by simpa using heap_setCell_at HH.out 1 (.bool true), ?_, hO⟩, hk.mono fun g _ hf => hf.2⟩
  obtain ⟨b1, b2⟩ := HO.out
  refine ⟨b1, ?_⟩
  rcases b2 with b2 | ⟨g, cap, cur, e1, e2, e3, e4⟩
  · exact .inl b2
  · refine .inr ⟨g, cap, cur, e1, e2, ?_, e4⟩
    rw [Below.heap_setCell]
    · exact e3
    · intro e
      exact own_ne_W HH.out HO.out (by rw [e1, e]; rfl)

/-- Bytes with their count. -/
def textEnc (b : Byts) : Byts := numEnc b.length ++ b
set_option maxHeartbeats 400000 in
theorem wtext_any (W : Nat) (w : World) (O F : Nat → Prop) (bad : Bool) (l b : Byts) (bv : Value) (h : Wtr w O W bad l) (hb : Bts w F bv b) (hF : ∀ g, F g → tyOf w g = some 5 → ¬ O g) (hnew : ∀ g, w.heap.size ≤ g → O g) (hl : l.length + (textEnc b).length ≤ 100000000) :
    Calls Try.prog 118 #[.pointer (some ⟨W, 0, none⟩), bv] w (WtrPost O W w bad (l ++ textEnc b)) := by
  unfold textEnc at hl ⊢
  obtain ⟨_, A, cap, rfl, hcap, _⟩ := id hb
  have hlen : b.length < 9223372036854775808 := by simp at hl; omega
  have hl1 : l.length + (numEnc b.length).length ≤ 100000000 := by simp at hl; omega
  have hl2 : (l ++ numEnc b.length).length + b.length ≤ 100000000 := by simp at hl ⊢; omega
  have HB := Lib.hid hb
  have HLs := Lib.hid (And.intro hlen (And.intro hl1 hl2))
  obtain ⟨v0, hW, -⟩ := id h
  have HW := Lib.hid hW
  clear hb hlen hl1 hl2 hl hW
  go_enter Try.func118, Try.ntmps118
  go_wp2_with fail
  refine (wnumber_any W b.length HLs.out.1 w O bad l h hnew HLs.out.2.1).mono ?_
  rintro e w1 ⟨rfl, hw1, hk1⟩
  go_wp2_with fail
  refine (wraw_any W w1 O F bad _ b (.slice A b.length cap) hw1 (Rows.keep (HB.out) hk1 (fun g _ hf ht => ⟨hF g hf ht, by rintro rfl; simp [tyOf, World.shape?, HW.out] at ht⟩)) (fun g hg => hnew g (Nat.le_trans hk1.size hg)) HLs.out.2.2).mono ?_
  rintro e w2 ⟨rfl, hw2, hk2⟩
  go_wp2_with fail
  go_ret
  exact ⟨rfl, by simpa using hw2, hk1.trans hk2⟩

def WBytesPost (w : World) (bad : Bool) (l : Byts) (e : Ending) (w' : World) : Prop :=
  Below w.heap.size w w' ∧ (bad = true ∧ e = .returned (.tuple #[.slice none 0 0, .int .i64 20]) ∨ bad = false ∧ ∃ v, e = .returned (.tuple #[v, .int .i64 0]) ∧ Bts w' (w.heap.size ≤ ·) v l)
set_option maxHeartbeats 400000 in
theorem wbytes_any (W : Nat) (w : World) (O : Nat → Prop) (bad : Bool) (l : Byts) (h : Wtr w O W bad l) (hl : l.length ≤ 100000000) :
    Calls Try.prog 78 #[.pointer (some ⟨W, 0, none⟩)] w (WBytesPost w bad l) := by
  obtain ⟨v, hh, hown, hO⟩ := h
  obtain ⟨A, c0, rfl⟩ := own_form hown
  have h0 : w.cell? ⟨W, 0, none⟩ = some (.slice A l.length c0) := by simpa using cell_of_block hh 0
  have h1 : w.cell? ⟨W, 1, none⟩ = some (.bool bad) := by simpa using cell_of_block hh 1
  have hlt := heap_lt hh
  have HO := Lib.hid hown
  clear hh hown
  obtain ⟨ht, i0, z, hi, hz, hs, hb, hzs, hs0, hb0⟩ := ei_u8
  cases bad with
  | true =>
    go_enter Try.func78, Try.ntmps78
    go_wp2_with fail
    go_ret2
    exact ⟨Below.refl _ _, .inl ⟨rfl, rfl⟩⟩
  | false =>
    go_enter Try.func78, Try.ntmps78
    go_wp2_with (first | (at_make; refine wpList_make_full w rfl (.tmp 13) (.tmp 13) _ rfl w.heap.size 5 i0 z 1 ht hi hz hs .i64 .i64 _ _ l.length rfl rfl rfl rfl (by rw [hb]; omega) (by unfold maxLen; omega) (Nat.le_refl _) ?_; intro w1 hown1 hg1; have hc1 : w1.cell? ⟨W, 0, none⟩ = some (.slice A l.length c0) := (World.cell?_of_block (hg1.block W hlt (by simp))).trans h0) | (with_reducible refine wpList_copy_full rfl (.tmp 15) (.tmp 19) _ rfl ei_u8 w.heap.size l.length l.length _ rfl hown1 (.slice A l.length c0) (l.map byteV) rfl (Rows.keep (Rows.of_own HO.out) (Keep.of_grown hg1 (F := fun _ => True) (fun _ _ _ e => by cases e)) (fun _ _ _ _ => trivial)) (bytes_one l) ?_; intro w2 hown2 hg2))
    go_ret2
    refine ⟨?_, .inr ⟨rfl, _, rfl, by simpa [Bts] using Rows.of_own hown2⟩⟩
    have b1 := (Below.refl w.heap.size w).grown hg1 (Nat.le_refl _) (fun k hk => by cases hk)
    exact b1.grown hg2 hg1.size (fun k hk => by injection hk with hk; omega)
end Go.Proofs.Ytejfejckmhoolaa
