/- Key.Bytes, and the reference's. -/
import Derived.Test.YtejfejckmhoolaaCmp2
import Derived.Test.YtejfejckmhoolaaEnc
set_option linter.unusedSimpArgs false
set_option linter.unusedVariables false
namespace Go.Proofs.Ytejfejckmhoolaa
open Go.RowKit

def esc : Byts → Byts
  | [] => []
  | c :: l => if c = 0 then c :: 255 :: esc l else c :: esc l
def be48 (n : Nat) : Byts := [UInt8.ofNat (n / 1099511627776), UInt8.ofNat (n / 4294967296), UInt8.ofNat (n / 16777216), UInt8.ofNat (n / 65536), UInt8.ofNat (n / 256), UInt8.ofNat n]
def keyAge (k : Key) : Nat := (1099511627776 - k.seq).toNat
def keyEnc (k : Key) : Byts := esc k.user.data.toList ++ 0 :: 1 :: (be48 (keyAge k) ++ [UInt8.ofNat (255 - k.kind.toNat)])

theorem esc_append (a b : Byts) : esc (a ++ b) = esc a ++ esc b := by
  induction a with
  | nil => rfl
  | cons c a ih =>
    simp only [List.cons_append, esc, ih]
    split <;> rfl
theorem esc_len (a : Byts) : (esc a).length ≤ 2 * a.length := by
  induction a with
  | nil => simp [esc]
  | cons c a ih => simp only [esc]; split <;> simp only [List.length_cons] <;> omega
theorem take_snoc_byte (a : ByteArray) (k : Nat) (h : k < a.size) : a.data.toList.take (k + 1) = a.data.toList.take k ++ [a[k]] := by
  rw [List.take_succ_eq_append_getElem (by simpa using h)]; rfl

theorem bytes_len (u : ByteArray) : u.data.toList.length = u.size := by rw [Array.length_toList]; rfl
def dig (n i : Nat) : UInt8 := UInt8.ofNat (n / 256 ^ i)
def digs (n j : Nat) : Byts := (List.range j).map (dig n)
def hdigs (n j : Nat) : Byts := (List.range j).map (fun i => dig n (5 - i))
theorem hdigs_six (n : Nat) : hdigs n 6 = be48 n := by simp [hdigs, be48, dig, List.range_succ]
theorem digs_succ (n j : Nat) : digs n (j + 1) = digs n j ++ [dig n j] := by simp [digs, List.range_succ]
theorem hdigs_succ (n j : Nat) : hdigs n (j + 1) = hdigs n j ++ [dig n (5 - j)] := by simp [hdigs, List.range_succ]
theorem ofNat_mod (n : Nat) : UInt8.ofNat (n % 256) = UInt8.ofNat n := by
  apply UInt8.toNat_inj.1
  simp
theorem byteV_mod (n : Nat) : byteV (UInt8.ofNat n) = .int .u8 ((n % 256 : Nat) : Int) := by rw [← ofNat_mod, byteV_of _ (by omega)]

set_option maxRecDepth 100000 in
set_option maxHeartbeats 2000000 in
theorem refKeyBytes_any (k : Key) (hk : keyOk k = true) (w : World) : Calls Try.prog 55 #[k.val] w (OwnPost w (keyEnc k)) := by
  obtain ⟨u, s, d⟩ := k
  simp only [keyOk, decide_eq_true_eq] at hk
  obtain ⟨h1, h2, h3, h4, h5, h6⟩ := hk
  obtain ⟨age, hage⟩ : ∃ age : Nat, s = 1099511627776 - (age : Int) := ⟨(1099511627776 - s).toNat, by omega⟩
  subst hage
  have hage2 : age ≤ 1099511627776 := by omega
  obtain ⟨dk, rfl⟩ : ∃ dk : Nat, d = (dk : Int) := ⟨d.toNat, by omega⟩
  have hfin : keyEnc ⟨u, 1099511627776 - (age : Int), (dk : Int)⟩ = (esc u.data.toList ++ [0, 1]) ++ hdigs age 6 ++ [UInt8.ofNat (255 - dk)] := by
    rw [hdigs_six]
    simp only [keyEnc, keyAge]
    rw [show (1099511627776 - (1099511627776 - (age : Int))).toNat = age by omega]
    simp
  rw [hfin]
  clear hfin
  unfold Key.val Key.cells
  have esl : (esc u.data.toList).length ≤ 128 := by
    have := esc_len u.data.toList
    have e := bytes_len u
    omega
  have ESL := Lib.hid esl
  clear esl
  obtain ⟨w0, hw0⟩ : ∃ w0, Hid (w0 = w.alloc (.cells #[.string u, .int .i64 (1099511627776 - (age : Int)), .int .i64 (dk : Int)] 124)) := ⟨_, rfl⟩
  have hz0 : w0.heap.size = w.heap.size + 1 := by rw [hw0.out]; simp
  have HB0 : Hid (Below w.heap.size w w0) := by rw [hw0.out]; exact (Below.refl _ _).alloc (Nat.le_refl _) _
  have HC0 : Hid (w0.cell? ⟨w.heap.size, 0, none⟩ = some (.string u) ∧ w0.cell? ⟨w.heap.size, 1, none⟩ = some (.int .i64 (1099511627776 - (age : Int))) ∧ w0.cell? ⟨w.heap.size, 2, none⟩ = some (.int .i64 (dk : Int))) := by rw [hw0.out]; exact ⟨by simp, by simp, by simp⟩
  go_enter Try.func55, Try.ntmps55
  go_wp2_with fail
  rw [← hw0.out]
  go_loopw [3, 4] (fun o i wr => ∃ (j : Nat) (acc : Byts), i = .int .i64 j ∧ j ≤ u.size ∧ OwnIn wr (w0.heap.size ≤ ·) 5 1 o acc.length (acc.map byteV) ∧ acc.length ≤ 2 * j ∧ Keep (· < w0.heap.size) w0 wr ∧ Hid (acc = esc (u.data.toList.take j))) (fun _ i _ => u.size - (intOf i).toNat)
  case atStart => exact ⟨0, [], rfl, by omega, OwnIn.nil _ _ _ _, by simp, Keep.refl _ _, by simp [Hid, esc]⟩
  case round =>
    obtain ⟨j, acc, rfl, hj, hown, hal, hkp, HE⟩ := hrel
    obtain ⟨A0, c0, rfl⟩ := hown.form
    have HO := Lib.hid hown
    clear hown
    have hsz := hkp.size
    have hc0 : wr.cell? ⟨w.heap.size, 0, none⟩ = some (.string u) := (hkp.cell (a := ⟨w.heap.size, 0, none⟩) (by simp; omega) (by simp; omega)).trans HC0.out.1
    have hnew : Hid (∀ g, wr.heap.size ≤ g → w0.heap.size ≤ g) := fun g hg => by omega
    by_cases hlt : j < u.size
    · have hts := take_snoc_byte u j hlt
      have hcb : byteV u[j] = .int .u8 (u[j].toNat : Int) := rfl
      by_cases hz : u[j] = 0
      · have hz' : (u[j].toNat : Int) = 0 := by rw [hz]; rfl
        have HE2 : Hid (acc ++ [0] ++ [255] = esc (u.data.toList.take (j + 1))) := by
          unfold Hid
          rw [hts, esc_append, ← HE.out, hz]
          simp [esc]
        have HQ := Lib.hid hz'
        clear hz hz' hts hcb HE
        have hq0 : ((u[j].toNat : Nat) : Int) = 0 := HQ.out
        go_wp2_with (first | ((at_builtin; refine wpList_append_lit rfl (.tmp 16) (.tmp 21) _ rfl ei_u8 (.slice A0 acc.length c0) (acc.length) _ rfl (HO.out.1) [.int .u8 0] 1 1 rfl (by omega) rfl (by simp [Value.oneCell', byteV]) (by omega) (by omega) ?_; intro v1 w1 hown1 hg1 hb1); obtain ⟨A1, c1, rfl⟩ := own_form hown1; obtain ⟨ho1, hk1⟩ := HO.out.step hnew.out hown1 hg1 (hb1.imp id fun e => ⟨_, e, by omega⟩); have hcx := ((hk1.cell (a := ⟨w.heap.size, 0, none⟩) (by simp; omega) (by simp; omega)).trans hc0); have hs1 := hk1.size) | (at_builtin; refine wpList_append_lit rfl (.tmp 28) (.tmp 29) _ rfl ei_u8 (.slice A1 (acc.length + 1) c1) (acc.length + 1) _ rfl (ho1.1) [.int .u8 255] 1 1 rfl (by omega) rfl (by simp [Value.oneCell', byteV]) (by omega) (by omega) ?_; intro v2 w2 hown2 hg2 hb2))
        obtain ⟨ho2, hk2⟩ := ho1.step (fun g hg => hnew.out g (by omega)) hown2 hg2 (hb2.imp id fun e => ⟨_, e, by omega⟩)
        refine ⟨⟨j + 1, acc ++ [0] ++ [255], by simp, by omega, by simpa [byteV] using ho2, by simp; omega, hkp.trans ((hk1.trans hk2).mono (fun g _ hf => by omega)), HE2⟩, by simp [intOf]; omega⟩
      · have HE2 : Hid (acc ++ [u[j]] = esc (u.data.toList.take (j + 1))) := by
          unfold Hid
          rw [hts, esc_append, ← HE.out]
          simp [esc, hz]
        have hq0 : (((u[j].toNat : Nat) : Int) == 0) = false := by
          rw [beq_eq_false_iff_ne]
          intro h
          exact hz (UInt8.toNat_inj.1 (by have h2 : u[j].toNat = 0 := by omega
                                          simpa using h2))
        clear hz hts hcb HE
        go_wp2_with ((at_builtin; refine wpList_append_lit rfl (.tmp 16) (.tmp 21) _ rfl ei_u8 (.slice A0 acc.length c0) (acc.length) _ rfl (HO.out.1) [.int .u8 (u[j].toNat : Int)] 1 1 rfl (by omega) rfl (by simp [Value.oneCell', byteV]) (by omega) (by omega) ?_; intro v1 w1 hown1 hg1 hb1); obtain ⟨A1, c1, rfl⟩ := own_form hown1; obtain ⟨ho1, hk1⟩ := HO.out.step hnew.out hown1 hg1 (hb1.imp id fun e => ⟨_, e, by omega⟩); have hcx := ((hk1.cell (a := ⟨w.heap.size, 0, none⟩) (by simp; omega) (by simp; omega)).trans hc0))
        refine ⟨⟨j + 1, acc ++ [u[j]], by simp, by omega, by simpa [byteV] using ho1, by simp; omega, hkp.trans (hk1.mono (fun g _ hf => by omega)), HE2⟩, by simp [intOf]; omega⟩
    · have hjz : j = u.size := by omega
      have he := HE.out
      rw [List.take_of_length_le (by rw [bytes_len]; omega)] at he
      subst he
      have HC1 : Hid (wr.cell? ⟨w.heap.size, 1, none⟩ = some (.int .i64 (1099511627776 - (age : Int)))) := (hkp.cell (a := ⟨w.heap.size, 1, none⟩) (by simp; omega) (by simp; omega)).trans HC0.out.2.1
      have hesl := ESL.out
      clear hjz HE
      go_wp2_with ((at_builtin; refine wpList_append_lit rfl (.tmp 31) (.tmp 32) _ rfl ei_u8 (.slice A0 (esc u.data.toList).length c0) ((esc u.data.toList).length) _ rfl (HO.out.1) [.int .u8 0, .int .u8 1] 2 2 rfl (by omega) rfl (by simp [Value.oneCell', byteV]) (by omega) (by omega) ?_; intro v1 w1 hown1 hg1 hb1); obtain ⟨ho1, hk1⟩ := HO.out.step hnew.out hown1 hg1 (hb1.imp id fun e => ⟨_, e, by omega⟩); have hcx := ((hk1.cell (a := ⟨w.heap.size, 1, none⟩) (by simp; omega) (by simp; omega)).trans HC1.out))
      have hs1 := hk1.size
      have HO1 := Lib.hid ho1
      have HK1 := Lib.hid (hkp.trans (hk1.mono (F := fun g => ¬ w0.heap.size ≤ g) (fun g _ hf => by omega)))
      clear hcx hown1 hg1 hb1 ho1 hk1 HO hc0 HC1 hnew hkp
      obtain ⟨A1, c1, rfl⟩ := HO1.out.form
      go_loopw [5, 6, 7] (fun n o i wr => ∃ j : Nat, i = .int .i64 j ∧ j ≤ 6 ∧ n = .int .i64 ((age / 256 ^ j : Nat) : Int) ∧ OwnIn wr (w1.heap.size ≤ ·) 5 1 o (digs age j).length ((digs age j).map byteV) ∧ Keep (· < w1.heap.size) w1 wr) (fun _ _ i _ => 6 - (intOf i).toNat)
      case atStart => exact ⟨0, rfl, by omega, by simp; omega, OwnIn.nil _ _ _ _, Keep.refl _ _⟩
      case round =>
        obtain ⟨j, rfl, hj, rfl, hown, hkp⟩ := hrel
        obtain ⟨A2, c2, rfl⟩ := hown.form
        have HO2 := Lib.hid hown
        clear hown
        have hsz2 := hkp.size
        have hdl : (digs age j).length = j := by simp [digs]
        have HDL := Lib.hid hdl
        clear hdl
        by_cases hj6 : j < 6
        · obtain ⟨m, hm⟩ : ∃ m, Hid (m = age / 256 ^ j) := ⟨_, rfl⟩
          have hmb : m ≤ 1099511627776 := by rw [hm.out]; exact Nat.le_trans (Nat.div_le_self _ _) hage2
          rw [← hm.out]
          have hlj := HDL.out
          obtain ⟨x, hx⟩ : ∃ x, Hid (x = m % 256) := ⟨_, rfl⟩
          have hmod : (m : Int) % 256 = (x : Int) := by have := hx.out; omega
          have hxb : x < 256 := by have := hx.out; omega
          have hxm : (x : Int) % 256 = (x : Int) := by omega
          generalize hdn : (digs age j).length = dn at *
          have HDN := Lib.hid hdn
          clear hdn
          go_wp2_with (at_builtin; refine wpList_append_lit rfl (.tmp 41) (.tmp 45) _ rfl ei_u8 (.slice A2 dn c2) (dn) _ rfl (HO2.out.1) [.int .u8 (x : Int)] 1 1 rfl (by omega) rfl (by simp [Value.oneCell', byteV]) (by omega) (by omega) ?_; intro v3 w3 hown3 hg3 hb3)
          obtain ⟨ho3, hk3⟩ := HO2.out.step (fun g hg => by omega) hown3 hg3 (hb3.imp id fun e => ⟨_, e, by omega⟩)
          have e1 : dig age j = UInt8.ofNat x := by rw [dig, ← hm.out, hx.out, ofNat_mod]
          refine ⟨⟨j + 1, by simp, by omega, ?_, ?_, hkp.trans (hk3.mono (fun g _ hf => by omega))⟩, by simp [intOf]; omega⟩
          · rw [Nat.pow_succ, ← Nat.div_div_eq_div_mul, ← hm.out]
            simp
          · rw [digs_succ, e1, List.length_append, HDN.out, List.map_append]
            have e2 : List.map byteV [UInt8.ofNat x] = [.int .u8 (x : Int)] := by simp [byteV_of x hxb]
            rw [e2]
            exact ho3
        · obtain rfl : j = 6 := by omega
          obtain ⟨w2, rfl⟩ : ∃ w2 : World, w2 = wr := ⟨_, rfl⟩
          obtain ⟨m6, hm6⟩ : ∃ m6 : Nat, m6 = age / 256 ^ 6 := ⟨_, rfl⟩
          rw [← hm6, show ((6 : Nat) : Int) = (6 : Int) from rfl]
          clear hm6
          have HO1w : Hid (OwnIn w2 (fun g => w0.heap.size ≤ g ∧ ¬ (w1.heap.size ≤ g ∧ g < w2.heap.size)) 5 1 (.slice A1 ((esc u.data.toList).length + 2) c1) ((esc u.data.toList).length + 2) ((esc u.data.toList).map byteV ++ [.int .u8 0, .int .u8 1])) :=
            (HO1.out.mono (O' := fun g => w0.heap.size ≤ g ∧ g < w1.heap.size) (fun g hg hf => ⟨hf, hg⟩)).keep hkp (fun g hg hf => hf.2) |>.mono (fun g hg hf => ⟨hf.1, fun h => by omega⟩)
          have hlow := HO2.out.rows
          obtain ⟨lg, lo, lc, hlv, hlc, hlF, hlg, hlcell⟩ := Rows.at_ hlow (j := 0) (by rw [HDL.out]; omega)
          have hlc6 : ∀ i, i < 6 → w2.cell? ⟨lg, lo + i, none⟩ = some (byteV (dig age i)) := fun i hi => hlcell i _ (by simp [digs, hi])
          have HLC := Lib.hid hlc6
          have hlen6 := HDL.out
          have HK2 := Lib.hid (HK1.out.trans (hkp.mono (fun g hg hf => by omega)))
          have HB2 : Hid (Keep (· < w.heap.size + 1) w0 w2) := HK2.out.mono (fun g hg hf => by omega)
          have hcz : w2.cell? ⟨w.heap.size, 2, none⟩ = some (.int .i64 (dk : Int)) := (HB2.out.cell (a := ⟨w.heap.size, 2, none⟩) (by simp; omega) (by simp)).trans HC0.out.2.2
          have HCZ := Lib.hid hcz
          rw [hlen6] at hlv
          rw [hlen6]
          rw [hlv]
          clear hlow hlcell hlc6 hcz HO2 HDL hkp HO1 HK1 hlen6 hlv
          have hesl := ESL.out
          generalize hE : esc u.data.toList = E at *
          clear hE
          go_wp2_with fail
          go_loopw [3, 8] (fun o i wq => ∃ j : Nat, j ≤ 6 ∧ i = .int .i64 (5 - (j : Int)) ∧ OwnIn wq (fun g => w0.heap.size ≤ g ∧ ¬ (w1.heap.size ≤ g ∧ g < w2.heap.size)) 5 1 o (E.length + 2 + j) (E.map byteV ++ [.int .u8 0, .int .u8 1] ++ (hdigs age j).map byteV) ∧ Keep (fun g => g < w0.heap.size ∨ w1.heap.size ≤ g ∧ g < w2.heap.size) w2 wq) (fun _ i _ => (intOf i + 1).toNat)
          case atStart => exact ⟨0, by omega, by simp, by simpa [hdigs] using HO1w.out, Keep.refl _ _⟩
          case round =>
            obtain ⟨j, hj, rfl, hown, hkp⟩ := hrel
            obtain ⟨A4, c4, rfl⟩ := hown.form
            have HO4 := Lib.hid hown
            clear hown
            have hsz4 := hkp.size
            by_cases hj6 : j < 6
            · obtain ⟨i, hi⟩ : ∃ i : Nat, i + j = 5 := ⟨5 - j, by omega⟩
              have hij : (5 - (j : Int)) = (i : Int) := by omega
              have hcl : wr.cell? ⟨lg, lo + i, none⟩ = some (.int .u8 ((dig age i).toNat : Int)) := (hkp.cell (a := ⟨lg, lo + i, none⟩) hlg (by simp; omega)).trans (HLC.out i (by omega))
              rw [hij]
              have hi6 : i < 6 := by omega
              have HI := Lib.hid hi
              clear hi hij
              go_wp2_with (at_builtin; refine wpList_append_lit rfl (.tmp 53) (.tmp 58) _ rfl ei_u8 (.slice A4 (E.length + 2 + j) c4) (E.length + 2 + j) _ rfl (HO4.out.1) [.int .u8 ((dig age i).toNat : Int)] 1 1 rfl (by omega) rfl (by simp [Value.oneCell', byteV]) (by omega) (by omega) ?_; intro v5 w5 hown5 hg5 hb5)
              obtain ⟨ho5, hk5⟩ := HO4.out.step (fun g hg => ⟨by omega, fun h => by omega⟩) hown5 hg5 (hb5.imp id fun e => ⟨_, e, by omega⟩)
              have hi := HI.out
              refine ⟨⟨j + 1, by omega, by congr 1; omega, ?_, hkp.trans (hk5.mono (fun g _ hf => by omega))⟩, by simp [intOf] <;> omega⟩
              rw [hdigs_succ, show 5 - j = i by omega]
              simpa [byteV, Nat.add_assoc] using ho5
            · obtain rfl : j = 6 := by omega
              have hcz := (hkp.cell (a := ⟨w.heap.size, 2, none⟩) (by simp; omega) (by simp; omega)).trans HCZ.out
              have hdk3 : dk ≤ 3 := by omega
              have hmk : (255 - (dk : Int)) % 256 = ((255 - dk : Nat) : Int) := by omega
              have hmk2 : (255 - (dk : Int)) = ((255 - dk : Nat) : Int) := by omega
              obtain ⟨y, hy⟩ : ∃ y, Hid (y = 255 - dk) := ⟨_, rfl⟩
              rw [← hy.out] at hmk hmk2
              have hy2 : y < 256 := by have := hy.out; omega
              have hy3 : (y : Int) % 256 = (y : Int) := by omega
              go_wp2_with (at_builtin; refine wpList_append_lit rfl (.tmp 60) (.tmp 65) _ rfl ei_u8 (.slice A4 (E.length + 2 + 6) c4) (E.length + 2 + 6) _ rfl (HO4.out.1) [.int .u8 (y : Int)] 1 1 rfl (by omega) rfl (by simp [Value.oneCell', byteV]) (by omega) (by omega) ?_; intro v5 w5 hown5 hg5 hb5)
              obtain ⟨ho5, hk5⟩ := HO4.out.step (fun g hg => ⟨by omega, fun h => by omega⟩) hown5 hg5 (hb5.imp id fun e => ⟨_, e, by omega⟩)
              go_ret
              refine ⟨v5, rfl, ?_, ?_⟩
              · have := ho5.to_own (base := w.heap.size) (fun g hg => by omega)
                rw [← hy.out]
                simp only [List.length_append, List.length_cons, List.length_nil, List.map_append, List.map_cons, List.map_nil, byteV_of y hy2]
                simpa [hdigs, byteV] using this
              · have k1 := HB2.out.mono (G := fun g => g < w.heap.size) (fun g _ hf => by omega)
                have k2 := hkp.mono (G := fun g => g < w.heap.size) (fun g _ hf => by omega)
                have k3 := hk5.mono (G := fun g => g < w.heap.size) (fun g _ hf => by omega)
                exact HB0.out.trans (((k1.trans k2).trans k3).below (by omega))
end Go.Proofs.Ytejfejckmhoolaa
