/- The references' encodings: Number, Text; Same. -/
import Derived.Test.YtejfejckmhoolaaWtr2
set_option linter.unusedSimpArgs false
set_option linter.unusedVariables false
namespace Go.Proofs.Ytejfejckmhoolaa
open Go.RowKit

/-- New bytes of the call's own come back. -/
def OwnPost (w : World) (l : Byts) (e : Ending) (w' : World) : Prop :=
  ∃ v, e = .returned v ∧ w'.ownsRow w.heap.size 5 1 v l.length (l.map byteV) ∧ Below w.heap.size w w'

set_option maxRecDepth 100000 in
set_option maxHeartbeats 1000000 in
theorem refNumber_any (n : Nat) (hn : n < 9223372036854775808) (w : World) : Calls Try.prog 30 #[.int .i64 n] w (OwnPost w (numEnc n)) := by
  have HN : Hid (n < 9223372036854775808) := hn
  clear hn
  go_enter Try.func30, Try.ntmps30
  go_wp2_with fail
  go_loopw [0, 3] (fun t o wr => ∃ (m : Nat) (l : Byts), t = .int .i64 m ∧ Hid (m < 9223372036854775808) ∧ wr.ownsRow w.heap.size 5 1 o l.length (l.map byteV) ∧ Below w.heap.size w wr ∧ Hid (l ++ numEnc m = numEnc n)) (fun t _ _ => (intOf t).toNat)
  case atStart => exact ⟨n, [], rfl, HN, World.ownsRow_nil _ _ _ _, Below.refl _ _, rfl⟩
  case round =>
    obtain ⟨m, l, rfl, HM, hown, hb, HE⟩ := hrel
    have hl20 : l.length ≤ 20 := by
      have h1 := congrArg List.length HE.out
      have h2 := numEnc_len n HN.out
      simp at h1
      omega
    obtain ⟨A, c0, rfl⟩ := own_form hown
    have HO := Lib.hid hown
    clear hown
    have hsz := hb.size
    by_cases hm : m < 128
    · have hgt : ¬ (127 < (m : Int)) := by omega
      have hmod : (m : Int) % 256 = m := by omega
      go_wp2_with (at_builtin; refine wpList_append_one rfl (.tmp 15) (.tmp 18) _ rfl ei_u8 (.slice A l.length c0) (l.length) _ rfl (HO.out) [.int .u8 (m : Int)] 1 rfl (by omega) rfl (by simp [Value.oneCell', byteV]) (by omega) (by omega) ?_; intro v' w1 hown1 hg1 hb1; obtain ⟨A', c', rfl⟩ := own_form hown1)
      go_ret
      have he := HE.out
      rw [numEnc_lt hm] at he
      rw [← he]
      exact ⟨_, rfl, by rw [← byteV_of m (by omega), map_snoc] at hown1; simpa using hown1, hb.grown hg1 hsz (fun k hk => (HO.out.lt k hk).1)⟩
    · have hgt : 127 < (m : Int) := by omega
      obtain ⟨x, hx⟩ : ∃ x, Hid (x = m % 128 + 128) := ⟨_, rfl⟩
      have hmod : (m : Int) % 128 + 128 = (x : Int) := by have := hx.out; omega
      have hx2 : x < 256 := by have := hx.out; omega
      have hw : wrap64 ((m : Int) / 128) = (m : Int) / 128 := IntWalk.wrap64_in _ ⟨by omega, by have := HM.out; omega⟩
      go_wp2_with (at_builtin; refine wpList_append_one rfl (.tmp 6) (.tmp 11) _ rfl ei_u8 (.slice A l.length c0) (l.length) _ rfl (HO.out) [.int .u8 (x : Int)] 1 rfl (by omega) rfl (by simp [Value.oneCell', byteV]) (by omega) (by omega) ?_; intro v' w1 hown1 hg1 hb1; obtain ⟨A', c', rfl⟩ := own_form hown1)
      have he := HE.out
      rw [numEnc_ge hm, ← hx.out] at he
      rw [hw]
      exact ⟨⟨m / 128, l ++ [UInt8.ofNat x], by simp, Nat.lt_of_le_of_lt (Nat.div_le_self _ _) HM.out, by rw [← byteV_of x (by omega), map_snoc] at hown1; simpa using hown1, hb.grown hg1 hsz (fun k hk => (HO.out.lt k hk).1), by unfold Hid; simpa using he⟩, by simp [intOf]; omega⟩

set_option maxHeartbeats 400000 in
theorem refText_any (w : World) (F : Nat → Prop) (bv : Value) (b : Byts) (hb : Bts w F bv b) (hl : b.length ≤ 100000000) : Calls Try.prog 54 #[bv] w (OwnPost w (textEnc b)) := by
  obtain ⟨_, A, cap, rfl, hcap, _⟩ := id hb
  have HB := Lib.hid hb
  clear hb
  go_enter Try.func54, Try.ntmps54
  go_wp2_with fail
  refine (refNumber_any b.length (by omega) w).mono ?_
  rintro e w1 ⟨v, rfl, hown, hb1⟩
  obtain ⟨A1, c1, rfl⟩ := own_form hown
  have hn20 : (numEnc b.length).length ≤ 20 := numEnc_len b.length (by omega)
  have HO := Lib.hid hown
  have HR := Lib.hid (Rows.keep (Rows.mono HB.out (G := fun g => g < w.heap.size) (fun g hg _ => hg)) (Keep.of_below hb1 (F := fun g => g < w.heap.size) (fun g hg hf => hf)) (fun g hg hf _ => hf))
  have hsz := hb1.size
  clear hown
  generalize hln : (numEnc b.length).length = ln at *
  have HLN := Lib.hid hln
  clear hln
  go_wp2_with (at_builtin; refine wpList_append_rows rfl (.tmp 5) (.tmp 6) _ rfl ei_u8 (.slice A1 ln c1) ln _ rfl HO.out (.slice A b.length cap) b.length (b.map byteV) rfl HR.out (bytes_one b) (by omega) (by omega) ?_; intro v' w2 hown2 hg2 hb2)
  go_ret
  refine ⟨v', rfl, ?_, hb1.grown hg2 hsz (fun k hk => (HO.out.lt k hk).1)⟩
  unfold textEnc
  rw [List.length_append, HLN.out, List.map_append]
  exact hown2

theorem same_any {Ta Tb : TypeId} (w : World) (F G : Nat → Prop) (av bv : Value) (a b : Byts) (ha : Rows w F Ta 1 av a.length (a.map byteV)) (hb : Rows w G Tb 1 bv b.length (b.map byteV)) : Calls Try.prog 15 #[av, bv] w (BoolSame w (decide (a = b))) := by
  have h1 := fun wx (h : Rows wx F Ta 1 av a.length (a.map byteV)) => run_bytes_string (P := Try.prog) (src := 22) (dst := 9) Try.underlying22 Try.underlying5 Try.underlying9 h
  have h2 := fun wx (h : Rows wx G Tb 1 bv b.length (b.map byteV)) => run_bytes_string (P := Try.prog) (src := 22) (dst := 9) Try.underlying22 Try.underlying5 Try.underlying9 h
  have e1 := h1 w ha
  have e2 := h2 w hb
  clear h1 h2
  have HA := Lib.hid ha
  have HB := Lib.hid hb
  clear ha hb
  go_enter Try.func15, Try.ntmps15
  go_wp2_with fail
  go_ret
  refine ⟨?_, rfl⟩
  have : ((strOf a).toList == (strOf b).toList) = decide (a = b) := by
    rw [ByteArray.toList_eq, ByteArray.toList_eq]
    simp only [strOf]
    rw [Bool.eq_iff_iff]
    simp
  rw [← this]
  rfl
end Go.Proofs.Ytejfejckmhoolaa
