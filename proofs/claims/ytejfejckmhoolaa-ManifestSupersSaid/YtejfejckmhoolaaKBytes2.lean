/- Key.Bytes. -/
import Derived.Test.YtejfejckmhoolaaKBytes
set_option linter.unusedSimpArgs false
set_option linter.unusedVariables false
namespace Go.Proofs.Ytejfejckmhoolaa
open Go.RowKit

/-- Own bytes and an error come back. -/
def OwnEPost (w : World) (l : Byts) (e : Ending) (w' : World) : Prop :=
  ∃ v, e = .returned (.tuple #[v, .int .i64 0]) ∧ w'.ownsRow w.heap.size 5 1 v l.length (l.map byteV) ∧ Below w.heap.size w w'

theorem shr_age (age i : Nat) : (age : Int) / 2 ^ (8 * i) = ((age / 256 ^ i : Nat) : Int) := by
  rw [show (256 : Nat) = 2 ^ 8 from rfl, ← Nat.pow_mul]
  simp

set_option maxRecDepth 100000 in
set_option maxHeartbeats 2000000 in
theorem keyBytes_any (k : Key) (hk : keyOk k = true) (w : World) : Calls Try.prog 117 #[k.val] w (OwnEPost w (keyEnc k)) := by
  have hkc := fun wx => keyCheck_any k wx
  rw [hk] at hkc
  simp only [errOf_true] at hkc
  obtain ⟨u, s, d⟩ := k
  simp only [keyOk, decide_eq_true_eq] at hk
  obtain ⟨h1, h2, h3, h4, h5, h6⟩ := hk
  obtain ⟨age, hage⟩ : ∃ age : Nat, s = 1099511627776 - (age : Int) := ⟨(1099511627776 - s).toNat, by omega⟩
  subst hage
  have hage2 : age ≤ 1099511627776 := by omega
  obtain ⟨dk, rfl⟩ : ∃ dk : Nat, d = (dk : Int) := ⟨d.toNat, by omega⟩
  have hfin : keyEnc ⟨u, 1099511627776 - (age : Int), (dk : Int)⟩ = (esc u.data.toList ++ [0, 1]) ++ hdigs age 6 ++ [UInt8.ofNat (255 - dk)] := by
    rw [hdigs_six]
    simp only [keyEnc, keyAge]
    rw [show (1099511627776 - (1099511627776 - (age : Int))).toNat = age by omega]
    simp
  rw [hfin]
  clear hfin
  unfold Key.val Key.cells at hkc ⊢
  have HKC := Lib.hid hkc
  clear hkc
  have esl : (esc u.data.toList).length ≤ 128 := by
    have := esc_len u.data.toList
    have e := bytes_len u
    omega
  have ESL := Lib.hid esl
  clear esl
  obtain ⟨w0, hw0⟩ : ∃ w0, Hid (w0 = w.alloc (.cells #[.string u, .int .i64 (1099511627776 - (age : Int)), .int .i64 (dk : Int)] 114)) := ⟨_, rfl⟩
  have hz0 : w0.heap.size = w.heap.size + 1 := by rw [hw0.out]; simp
  have HB0 : Hid (Below w.heap.size w w0) := by rw [hw0.out]; exact (Below.refl _ _).alloc (Nat.le_refl _) _
  have hc00 : w0.cell? ⟨w.heap.size, 0, none⟩ = some (.string u) := by rw [hw0.out]; simp
  have hc01 : w0.cell? ⟨w.heap.size, 1, none⟩ = some (.int .i64 (1099511627776 - (age : Int))) := by rw [hw0.out]; simp
  have hc02 : w0.cell? ⟨w.heap.size, 2, none⟩ = some (.int .i64 (dk : Int)) := by rw [hw0.out]; simp
  have HC0 := Lib.hid (And.intro hc00 (And.intro hc01 hc02))
  have hsub : 1099511627776 - (1099511627776 - (age : Int)) = (age : Int) := by omega
  go_enter Try.func117, Try.ntmps117
  go_wp2_with fail
  rw [← hw0.out]
  refine (HKC.out w0).mono ?_
  rintro e w1 ⟨rfl, hb1⟩
  have hd0 : w1.cell? ⟨w.heap.size, 0, none⟩ = some (.string u) := (hb1.cell (p := ⟨w.heap.size, 0, none⟩) (by simp; omega)).trans hc00
  have hcv := fun wx => Lib.run_convert_string_bytes (P := Try.prog) wx 9 22 5 u Try.underlying9 Try.underlying22 Try.underlying5
  clear hc00 hc01 hc02
  go_wp2_with fail
  have hrw := rows_bytesWorld w1 5 u
  have hbw := below_bytesWorld (B := w1.heap.size) w1 5 u (Nat.le_refl _)
  have hszw := Lib.bytesWorld_size w1 5 u
  generalize Lib.bytesWorld w1 5 u = w2 at *
  generalize grownCap w1 u.size 0 5 = cp at *
  have hrow : ∀ j, (hj : j < u.size) → w2.cell? ⟨w1.heap.size, 0 + j, none⟩ = some (byteV u[j]) := fun j hj => by
    obtain ⟨g, off, cap, e1, _, _, _, e5⟩ := Rows.at_ hrw (j := j) (by simpa using hj)
    injection e1 with e1
    injection e1 with e1
    injection e1 with e1 e2
    subst e1 e2
    exact e5 j _ (by rw [List.getElem?_map, show u.data.toList[j]? = some u[j] from (by rw [List.getElem?_eq_getElem (by simpa using hj)]; rfl)]; rfl)
  have HR := Lib.hid hrow
  have hcd : w2.cell? ⟨w.heap.size, 0, none⟩ = some (.string u) ∧ w2.cell? ⟨w.heap.size, 1, none⟩ = some (.int .i64 (1099511627776 - (age : Int))) ∧ w2.cell? ⟨w.heap.size, 2, none⟩ = some (.int .i64 (dk : Int)) := by
    have k1 : w.heap.size < w0.heap.size := by omega
    have k2 : w.heap.size < w1.heap.size := by have := hb1.size; omega
    exact ⟨(hbw.cell (p := ⟨w.heap.size, 0, none⟩) k2).trans ((hb1.cell (p := ⟨w.heap.size, 0, none⟩) k1).trans HC0.out.1), (hbw.cell (p := ⟨w.heap.size, 1, none⟩) k2).trans ((hb1.cell (p := ⟨w.heap.size, 1, none⟩) k1).trans HC0.out.2.1), (hbw.cell (p := ⟨w.heap.size, 2, none⟩) k2).trans ((hb1.cell (p := ⟨w.heap.size, 2, none⟩) k1).trans HC0.out.2.2)⟩
  have HCD := Lib.hid hcd
  have HB2 : Hid (Below w.heap.size w w2) := HB0.out.trans ((hb1.mono (by omega)).trans (hbw.mono (by have := hb1.size; omega)))
  have hs1 := hb1.size
  clear hrw hrow hbw hcd hb1 hd0 hcv
  go_loopw [5, 19] (fun o i wr => ∃ (j : Nat) (acc : Byts), i = .int .i64 j ∧ j ≤ u.size ∧ OwnIn wr (w2.heap.size ≤ ·) 5 1 o acc.length (acc.map byteV) ∧ acc.length ≤ 2 * j ∧ Keep (· < w2.heap.size) w2 wr ∧ Hid (acc = esc (u.data.toList.take j))) (fun _ i _ => u.size - (intOf i).toNat)
  case atStart => exact ⟨0, [], rfl, by omega, OwnIn.nil _ _ _ _, by simp, Keep.refl _ _, by simp [Hid, esc]⟩
  case round =>
    obtain ⟨j, acc, rfl, hj, hown, hal, hkp, HE⟩ := hrel
    obtain ⟨A0, c0, rfl⟩ := hown.form
    have HO := Lib.hid hown
    clear hown
    have hsz := hkp.size
    have hnew : Hid (∀ g, wr.heap.size ≤ g → w2.heap.size ≤ g) := fun g hg => by omega
    by_cases hlt : j < u.size
    · have hts := take_snoc_byte u j hlt
      have hcj : wr.cell? ⟨w1.heap.size, 0 + j, none⟩ = some (byteV u[j]) := (hkp.cell (a := ⟨w1.heap.size, 0 + j, none⟩) (by simp; omega) (by simp; omega)).trans (HR.out j hlt)
      rw [Nat.zero_add] at hcj
      by_cases hz : u[j] = 0
      · have hcz : wr.cell? ⟨w1.heap.size, j, none⟩ = some (.int .u8 0) := by rw [hcj, hz]; rfl
        have HE2 : Hid (acc ++ [0] ++ [255] = esc (u.data.toList.take (j + 1))) := by
          unfold Hid
          rw [hts, esc_append, ← HE.out, hz]
          simp [esc]
        clear hz hts hcj HE
        go_wp2_with (first | ((at_builtin; refine wpList_append_lit rfl (.tmp 23) (.tmp 25) _ rfl ei_u8 (.slice A0 acc.length c0) (acc.length) _ rfl (HO.out.1) [.int .u8 0] 1 1 rfl (by omega) rfl (by simp [Value.oneCell', byteV]) (by omega) (by omega) ?_; intro v1 w3 hown1 hg1 hb1); obtain ⟨A1, c1, rfl⟩ := own_form hown1; obtain ⟨ho1, hk1⟩ := HO.out.step hnew.out hown1 hg1 (hb1.imp id fun e => ⟨_, e, by omega⟩); have hs3 := hk1.size) | (at_builtin; refine wpList_append_lit rfl (.tmp 29) (.tmp 30) _ rfl ei_u8 (.slice A1 (acc.length + 1) c1) (acc.length + 1) _ rfl (ho1.1) [.int .u8 255] 1 1 rfl (by omega) rfl (by simp [Value.oneCell', byteV]) (by omega) (by omega) ?_; intro v2 w4 hown2 hg2 hb2))
        obtain ⟨ho2, hk2⟩ := ho1.step (fun g hg => hnew.out g (by omega)) hown2 hg2 (hb2.imp id fun e => ⟨_, e, by omega⟩)
        refine ⟨⟨j + 1, acc ++ [0] ++ [255], by simp, by omega, by simpa [byteV] using ho2, by simp; omega, hkp.trans ((hk1.trans hk2).mono (fun g _ hf => by omega)), HE2⟩, by simp [intOf]; omega⟩
      · have HE2 : Hid (acc ++ [u[j]] = esc (u.data.toList.take (j + 1))) := by
          unfold Hid
          rw [hts, esc_append, ← HE.out]
          simp [esc, hz]
        have hq0 : (((u[j].toNat : Nat) : Int) == 0) = false := by
          rw [beq_eq_false_iff_ne]
          intro h
          exact hz (UInt8.toNat_inj.1 (by have h2 : u[j].toNat = 0 := by omega
                                          simpa using h2))
        have hcj2 : wr.cell? ⟨w1.heap.size, j, none⟩ = some (.int .u8 (u[j].toNat : Int)) := hcj
        clear hz hts hcj HE
        go_wp2_with ((at_builtin; refine wpList_append_lit rfl (.tmp 23) (.tmp 25) _ rfl ei_u8 (.slice A0 acc.length c0) (acc.length) _ rfl (HO.out.1) [.int .u8 (u[j].toNat : Int)] 1 1 rfl (by omega) rfl (by simp [Value.oneCell', byteV]) (by omega) (by omega) ?_; intro v1 w3 hown1 hg1 hb1); obtain ⟨A1, c1, rfl⟩ := own_form hown1; obtain ⟨ho1, hk1⟩ := HO.out.step hnew.out hown1 hg1 (hb1.imp id fun e => ⟨_, e, by omega⟩))
        refine ⟨⟨j + 1, acc ++ [u[j]], by simp, by omega, by simpa [byteV] using ho1, by simp; omega, hkp.trans (hk1.mono (fun g _ hf => by omega)), HE2⟩, by simp [intOf]; omega⟩
    · have hjz : j = u.size := by omega
      have he := HE.out
      rw [List.take_of_length_le (by rw [bytes_len]; omega)] at he
      subst he
      have hc1 := (hkp.cell (a := ⟨w.heap.size, 1, none⟩) (by simp; omega) (by simp; omega)).trans HCD.out.2.1
      have HC2 := Lib.hid ((hkp.cell (a := ⟨w.heap.size, 2, none⟩) (by simp; omega) (by simp; omega)).trans HCD.out.2.2)
      have hesl := ESL.out
      clear hjz HE
      generalize hE : esc u.data.toList = E at *
      clear hE
      go_wp2_with ((at_builtin; refine wpList_append_lit rfl (.tmp 33) (.tmp 34) _ rfl ei_u8 (.slice A0 E.length c0) (E.length) _ rfl (HO.out.1) [.int .u8 0, .int .u8 1] 2 2 rfl (by omega) rfl (by simp [Value.oneCell', byteV]) (by omega) (by omega) ?_; intro v1 w3 hown1 hg1 hb1); obtain ⟨ho1, hk1⟩ := HO.out.step hnew.out hown1 hg1 (hb1.imp id fun e => ⟨_, e, by omega⟩); have hcx := ((hk1.cell (a := ⟨w.heap.size, 1, none⟩) (by simp; omega) (by simp; omega)).trans hc1))
      have hs3 := hk1.size
      have HO1 := Lib.hid ho1
      have HK1 := Lib.hid (hkp.trans (hk1.mono (F := fun g => ¬ w2.heap.size ≤ g) (fun g _ hf => by omega)))
      have HC3 := Lib.hid ((hk1.cell (a := ⟨w.heap.size, 2, none⟩) (by simp; omega) (by simp; omega)).trans HC2.out)
      clear hcx hown1 hg1 hb1 ho1 hk1 HO hc1 HC2 hnew hkp
      obtain ⟨A1, c1, rfl⟩ := HO1.out.form
      go_loopw [5, 9] (fun o i wr => ∃ j : Nat, i = .int .i64 (40 - 8 * (j : Int)) ∧ j ≤ 6 ∧ OwnIn wr (w2.heap.size ≤ ·) 5 1 o (E.length + 2 + j) (E.map byteV ++ [.int .u8 0, .int .u8 1] ++ (hdigs age j).map byteV) ∧ Keep (· < w2.heap.size) w3 wr) (fun _ i _ => (intOf i + 8).toNat)
      case atStart => exact ⟨0, by simp, by omega, by simpa [hdigs] using HO1.out, Keep.refl _ _⟩
      case round =>
        obtain ⟨j, rfl, hj, hown, hkp⟩ := hrel
        obtain ⟨A4, c4, rfl⟩ := hown.form
        have HO4 := Lib.hid hown
        clear hown
        have hsz4 := hkp.size
        by_cases hj6 : j < 6
        · obtain ⟨i, hi⟩ : ∃ i : Nat, i + j = 5 := ⟨5 - j, by omega⟩
          have hij : (40 - 8 * (j : Int)) = 8 * (i : Int) := by omega
          rw [hij]
          have hi6 : i ≤ 5 := by omega
          have HI := Lib.hid hi
          obtain ⟨m, hm⟩ : ∃ m, Hid (m = age / 256 ^ i) := ⟨_, rfl⟩
          have hdv : (age : Int) / 2 ^ (8 * i) = (m : Int) := by rw [shr_age, hm.out]
          obtain ⟨x, hx⟩ : ∃ x, Hid (x = m % 256) := ⟨_, rfl⟩
          have hmod : (m : Int) % 256 = (x : Int) := by have := hx.out; omega
          have hxb : x < 256 := by have := hx.out; omega
          have e1 : Hid (dig age i = UInt8.ofNat x) := by unfold Hid; rw [dig, ← hm.out, hx.out, ofNat_mod]
          clear hi hij
          go_wp2_with (at_builtin; refine wpList_append_lit rfl (.tmp 43) (.tmp 48) _ rfl ei_u8 (.slice A4 (E.length + 2 + j) c4) (E.length + 2 + j) _ rfl (HO4.out.1) [.int .u8 (x : Int)] 1 1 rfl (by omega) rfl (by simp [Value.oneCell', byteV]) (by omega) (by omega) ?_; intro v5 w5 hown5 hg5 hb5)
          obtain ⟨ho5, hk5⟩ := HO4.out.step (fun g hg => by omega) hown5 hg5 (hb5.imp id fun e => ⟨_, e, by omega⟩)
          have hi := HI.out
          refine ⟨⟨j + 1, by congr 1; omega, by omega, ?_, hkp.trans (hk5.mono (fun g _ hf => by omega))⟩, by simp [intOf] <;> omega⟩
          rw [hdigs_succ, show 5 - j = i by omega, e1.out]
          simpa [byteV_of x hxb, Nat.add_assoc] using ho5
        · obtain rfl : j = 6 := by omega
          have hcz := (hkp.cell (a := ⟨w.heap.size, 2, none⟩) (by simp; omega) (by simp; omega)).trans HC3.out
          have hm1 : (dk : Int) % 256 = (dk : Int) := by omega
          have hmk2 : (255 - (dk : Int)) = ((255 - dk : Nat) : Int) := by omega
          obtain ⟨y, hy⟩ : ∃ y, Hid (y = 255 - dk) := ⟨_, rfl⟩
          rw [← hy.out] at hmk2
          have hy2 : y < 256 := by have := hy.out; omega
          go_wp2_with (at_builtin; refine wpList_append_lit rfl (.tmp 50) (.tmp 55) _ rfl ei_u8 (.slice A4 (E.length + 2 + 6) c4) (E.length + 2 + 6) _ rfl (HO4.out.1) [.int .u8 (y : Int)] 1 1 rfl (by omega) rfl (by simp [Value.oneCell', byteV]) (by omega) (by omega) ?_; intro v5 w5 hown5 hg5 hb5)
          obtain ⟨ho5, hk5⟩ := HO4.out.step (fun g hg => by omega) hown5 hg5 (hb5.imp id fun e => ⟨_, e, by omega⟩)
          go_ret2
          refine ⟨v5, rfl, ?_, ?_⟩
          · have := ho5.to_own (base := w.heap.size) (fun g hg => by omega)
            rw [← hy.out]
            simp only [List.length_append, List.length_cons, List.length_nil, List.map_append, List.map_cons, List.map_nil, byteV_of y hy2]
            simpa [hdigs, byteV] using this
          · have k1 := HK1.out.mono (G := fun g => g < w.heap.size) (fun g _ hf => by omega)
            have k2 := hkp.mono (G := fun g => g < w.heap.size) (fun g _ hf => by omega)
            have k3 := hk5.mono (G := fun g => g < w.heap.size) (fun g _ hf => by omega)
            exact HB2.out.trans (((k1.trans k2).trans k3).below (by omega))
end Go.Proofs.Ytejfejckmhoolaa
