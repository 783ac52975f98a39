/- ikey.Parse. -/
import Derived.Test.YtejfejckmhoolaaUser
import Derived.Deep.DeepCutAuto
set_option linter.unusedSimpArgs false
set_option linter.unusedVariables false
namespace Go.Proofs.Ytejfejckmhoolaa
open Go.RowKit

def ageGo : Nat → Nat → Option Byts → Nat × Option Byts
  | 0, a, st => (a, st)
  | k + 1, a, st => ageGo k (a * 256 + (byteS st).1.toNat) (byteS st).2
def keyRaw (b : Byts) : Key × Bool :=
  let p := (keyUser b).getD ([], b)
  let q := ageGo 6 0 (some p.2)
  let k : Key := ⟨strOf p.1, 1099511627776 - (q.1 : Int), 255 - ((byteS q.2).1.toNat : Int)⟩
  (k, (keyUser b).isSome && doneS (byteS q.2).2 == 0 && keyOk k)
def keyZero : Key := ⟨⟨#[]⟩, 0, 0⟩
def keyParse (b : Byts) : Option Key := if (keyRaw b).2 then some (keyRaw b).1 else none

theorem keyUser_suffix : ∀ (n : Nat) (b u l : Byts), b.length ≤ n → keyUser b = some (u, l) → b.drop (b.length - l.length) = l ∧ l.length ≤ b.length := by
  intro n
  induction n with
  | zero =>
    intro b u l hn h
    have : b = [] := List.eq_nil_of_length_eq_zero (by omega)
    subst this
    rw [keyUser] at h
    cases h
  | succ n ih =>
    intro b u l hn h
    match b with
    | [] => rw [keyUser] at h; cases h
    | [c] => rw [keyUser] at h; cases h
    | c :: d :: b' =>
      simp only [List.length_cons] at hn
      by_cases hc : c = 0
      · subst hc
        rw [keyUser_zero] at h
        by_cases h1 : d = 1
        · rw [if_pos h1] at h
          injection h with h
          injection h with _ h
          subst h
          refine ⟨?_, by simp; omega⟩
          have : (0 :: d :: b').length - b'.length = 2 := by simp only [List.length_cons]; omega
          rw [this]
          rfl
        · rw [if_neg h1] at h
          by_cases h2 : d = 255
          · rw [if_pos h2] at h
            cases hk : keyUser b' with
            | none => rw [hk] at h; cases h
            | some p =>
              obtain ⟨u', l'⟩ := p
              rw [hk] at h
              injection h with h
              injection h with _ h
              subst h
              obtain ⟨e1, e2⟩ := ih b' u' l' (by omega) hk
              refine ⟨?_, by simp; omega⟩
              have : (0 :: d :: b').length - l'.length = (b'.length - l'.length) + 1 + 1 := by simp; omega
              rw [this]
              simpa using e1
          · rw [if_neg h2] at h; cases h
      · rw [keyUser_ne _ hc] at h
        cases hk : keyUser (d :: b') with
        | none => rw [hk] at h; cases h
        | some p =>
          obtain ⟨u', l'⟩ := p
          rw [hk] at h
          injection h with h
          injection h with _ h
          subst h
          obtain ⟨e1, e2⟩ := ih (d :: b') u' l' (by simp; omega) hk
          simp only [List.length_cons] at e2
          refine ⟨?_, by simp; omega⟩
          have : (c :: d :: b').length - l'.length = ((d :: b').length - l'.length) + 1 := by simp; omega
          rw [this]
          simpa using e1

theorem bits_or_256 (a c : Nat) (hc : c < 256) (ha : a < 36028797018963968) : bits .or .i64 ((a : Int) * 256) (c : Int) = ((a * 256 + c : Nat) : Int) := by
  have h1 := ofInt_i64 (a * 256) (by omega)
  have h2 := ofInt_i64 c (by omega)
  have h3 : a * 256 ||| c = a * 256 + c := by
    have := Nat.two_pow_add_eq_or_of_lt (i := 8) (b := c) (by omega) a
    rw [Nat.mul_comm a 256]
    exact this.symm
  have h4 : (BitVec.ofInt 64 ((a * 256 : Nat) : Int) ||| BitVec.ofInt 64 (c : Int)).toNat = a * 256 + c := by rw [BitVec.toNat_or, h1, h2, h3]
  show IntKind.i64.wrap (((BitVec.ofInt 64 ((a : Int) * 256) ||| BitVec.ofInt 64 (c : Int)).toNat : Nat) : Int) = _
  rw [show ((a : Int) * 256) = ((a * 256 : Nat) : Int) by simp, h4, wrap_in _ (by omega) (by omega)]

theorem rows_keepR {w w' : World} {lo hi R T k n : Nat} {v : Value} {xs : List Value} (h : Rows w (fun g => lo ≤ g ∧ g < hi) T k v n xs) (hk : Keep (fun x => x ≠ R) w w') (hR : hi ≤ R) : Rows w' (fun g => lo ≤ g ∧ g < hi) T k v n xs :=
  h.keep hk (fun g _ hf _ e => by have := hf.2; omega)
theorem rows_setHi {w : World} {lo hi T k n : Nat} {v : Value} {xs : List Value} (h : Rows w (fun g => lo ≤ g ∧ g < hi) T k v n xs) {a : Addr} (ha : hi ≤ a.block) (u : Value) : Rows (w.setCell a u) (fun g => lo ≤ g ∧ g < hi) T k v n xs :=
  h.setFar (fun hf => by have := hf.2; omega) u
def KParsePost (w : World) (r : Option Key) (e : Ending) (w' : World) : Prop :=
  e = .returned (.tuple #[(r.getD keyZero).val, .int .i64 (errOf r.isSome 30)]) ∧ Below w.heap.size w w'

set_option maxRecDepth 100000 in
set_option maxHeartbeats 1000000 in
theorem keyParse_any (w : World) (F : Nat → Prop) (bv : Value) (b : Byts) (hb : Bts w F bv b) (hl : b.length ≤ 1000000) :
    Calls Try.prog 100 #[bv] w (KParsePost w (keyParse b)) := by
  obtain ⟨_, A, cap, rfl, hcap, _⟩ := id hb
  go_enter Try.func100, Try.ntmps100
  go_wp2_with fail
  refine (user_any _ F _ b (Rows.keep hb ((Keep.refl (fun _ => True) _).alloc _) (fun _ _ _ _ => trivial)) hl).mono ?_
  rintro e w1 ⟨hb1, he⟩
  obtain ⟨uv, u, l, ok, hev, hu, hll, hlb, hraw⟩ : ∃ (uv : Value) (u l : Byts) (ok : Bool), e = .returned (.tuple #[uv, .int .i64 ((b.length - l.length : Nat) : Int), .bool ok]) ∧ Bts w1 (w.heap.size ≤ ·) uv u ∧ b.drop (b.length - l.length) = l ∧ l.length ≤ b.length ∧
      Hid ((keyUser b).getD ([], b) = (u, l) ∧ (keyUser b).isSome = ok) := by
    cases hk : keyUser b with
    | none =>
      rw [hk] at he
      exact ⟨.slice none 0 0, [], b, false, by rw [he]; simp, bts_nil _ _, by simp, Nat.le_refl _, rfl, rfl⟩
    | some p =>
      obtain ⟨u, l⟩ := p
      rw [hk] at he
      obtain ⟨v, he, hv⟩ := he
      obtain ⟨h1, h2⟩ := keyUser_suffix _ b u l (Nat.le_refl _) hk
      exact ⟨v, u, l, true, he, Rows.mono hv (fun g _ hg => by simp at hg; omega), h1, h2, rfl, rfl⟩
  subst hev
  clear he
  have hbel : Below w.heap.size w w1 := ((Below.refl _ _).alloc (Nat.le_refl _) _).trans (hb1.mono (by simp))
  have hsz1 : w.heap.size < w1.heap.size := by have := hb1.size; simp at this; omega
  have hbuf : Bts w1 (fun g => F g ∧ g < w.heap.size) (.slice A b.length cap) b := (Rows.mono hb (G := fun g => F g ∧ g < w.heap.size) (fun g hg hf => ⟨hf, hg⟩)).keep (Keep.of_below hbel (F := fun g => g < w.heap.size) (fun g hg hf => hf)) (fun g hg hf _ => hf.2)
  have hbuf2 := hbuf.drop (m := b.length - l.length) (by omega)
  rw [hll] at hbuf2
  have hbl : b.length - (b.length - l.length) = l.length := by omega
  obtain ⟨en, hen⟩ : ∃ en, Hid (en = b.length - l.length) := ⟨_, rfl⟩
  rw [← hen.out] at hbuf2
  rw [← hen.out]
  have hen1 : en ≤ b.length := by have := hen.out; omega
  have hzh : w1.heap[w.heap.size]? = some (.cells #[.string ⟨#[]⟩, .int .i64 0, .int .i64 0] 114 (0, 0)) := (hb1.block w.heap.size (by simp)).trans (heap_alloc_new w _)
  have HZH := Lib.hid hzh
  clear hzh
  have hzc : ∀ i, w1.frozen? ⟨w.heap.size, i, none⟩ = false := fun i => by rw [hb1.frozen (p := ⟨w.heap.size, i, none⟩) (by simp)]; simp
  have hz0 : w1.cell? ⟨w.heap.size, 0, none⟩ = some (.string ⟨#[]⟩) := by rw [hb1.cell (p := ⟨w.heap.size, 0, none⟩) (by simp)]; simp
  have hz1 : w1.cell? ⟨w.heap.size, 1, none⟩ = some (.int .i64 0) := by rw [hb1.cell (p := ⟨w.heap.size, 1, none⟩) (by simp)]; simp
  have hz2 : w1.cell? ⟨w.heap.size, 2, none⟩ = some (.int .i64 0) := by rw [hb1.cell (p := ⟨w.heap.size, 2, none⟩) (by simp)]; simp
  have HB := Lib.hid hbuf2
  have HU := Lib.hid hu
  have HLL := Lib.hid (And.intro hll hbl)
  obtain ⟨A', n', c', hsv⟩ : ∃ A' n' c', Hid (Value.slice A' n' c' = Value.slice (if cap = en then A else A.map (·.add en)) (b.length - en) (cap - en)) := ⟨_, _, _, rfl⟩
  have hsl : ∀ wx, (Instr.slice 22 (.slice A b.length cap) (some (.int .i64 (en : Int))) none none).run Try.prog wx = .ok (.slice A' n' c') wx := fun wx => by
    rw [hsv.out, run_slice_from ei_u8 A b.length cap en (by omega)]
    simp
  rw [← hsv.out] at HB
  clear hbuf hbuf2 hu hll hbl hb
  go_wp2_with fail
  refine (newReader_any w1 _ _ l HB.out (by omega)).mono ?_
  rintro e w2 ⟨R, rfl, hR, hRge, hb2⟩
  clear hsl
  have hz2c : w2.cell? ⟨w.heap.size, 0, none⟩ = some (.string ⟨#[]⟩) ∧ w2.cell? ⟨w.heap.size, 1, none⟩ = some (.int .i64 0) ∧ w2.cell? ⟨w.heap.size, 2, none⟩ = some (.int .i64 0) ∧ ∀ i, w2.frozen? ⟨w.heap.size, i, none⟩ = false :=
    ⟨(hb2.cell (p := ⟨w.heap.size, 0, none⟩) hsz1).trans hz0, (hb2.cell (p := ⟨w.heap.size, 1, none⟩) hsz1).trans hz1, (hb2.cell (p := ⟨w.heap.size, 2, none⟩) hsz1).trans hz2, fun i => (hb2.frozen (p := ⟨w.heap.size, i, none⟩) hsz1).trans (hzc i)⟩
  have HZ := Lib.hid hz2c
  have HU2 := Lib.hid (Rows.keep (Rows.mono HU.out (G := fun g => w.heap.size ≤ g ∧ g < w1.heap.size) (fun g hg hf => ⟨hf, hg⟩)) (Keep.of_below hb2 (F := fun g => g < w1.heap.size) (fun g hg hf => hf)) (fun g hg hf _ => hf.2))
  clear hz2c hz0 hz1 hz2 hzc HU HB hsv
  have hsz2 := hb2.size
  go_wp2_with fail
  go_loopw [8, 20] (fun a i wr => ∃ (k m : Nat) (st : Option Byts), i = .int .i64 k ∧ k ≤ 6 ∧ a = .int .i64 m ∧ m < 256 ^ k ∧ Rdr wr (w1.heap.size ≤ ·) R st ∧ Keep (· ≠ R) w2 wr ∧ Hid (ageGo 6 0 (some l) = ageGo (6 - k) m st)) (fun _ i _ => 6 - (intOf i).toNat)
  case atStart => exact ⟨0, 0, some l, rfl, by omega, rfl, by omega, hR, Keep.refl _ _, rfl⟩
  case round =>
    obtain ⟨k, m, st, rfl, hk, rfl, hm, hr, hkp, HA⟩ := hrel
    by_cases hk6 : k < 6
    · have hmb : m < 1099511627776 ∧ 256 ^ (k + 1) = 256 * 256 ^ k := ⟨Nat.lt_of_lt_of_le hm (Nat.le_trans (Nat.pow_le_pow_right (by omega) (show k ≤ 5 by omega)) (by decide)), by rw [Nat.pow_succ]; omega⟩
      have HM := Lib.hid hm
      clear hm
      obtain ⟨hmb1, hmb2⟩ := hmb
      have HM2 := Lib.hid hmb2
      clear hmb2
      go_wp2_with fail
      refine (byte_any R wr _ st hr).mono ?_
      rintro e w3 ⟨rfl, hr3, hk3⟩
      have hA1 : ageGo 6 0 (some l) = ageGo (6 - (k + 1)) (m * 256 + (byteS st).1.toNat) (byteS st).2 := HA.out.trans (by rw [show 6 - k = (6 - (k + 1)) + 1 by omega, ageGo])
      obtain ⟨q, hq⟩ : ∃ q, Hid (q = (byteS st).1.toNat) := ⟨_, rfl⟩
      have hq256 : q < 256 := by have := hq.out; have := (byteS st).1.toNat_lt; omega
      have hbv : byteV (byteS st).1 = .int .u8 (q : Int) := by rw [hq.out]; rfl
      rw [hbv]
      rw [← hq.out] at hA1
      obtain ⟨m2, hm2⟩ : ∃ m2, Hid (m2 = m * 256 + q) := ⟨_, rfl⟩
      have hor : bits .or .i64 ((m : Int) * 256) (q : Int) = (m2 : Int) := by rw [hm2.out]; exact bits_or_256 m q hq256 (by omega)
      rw [← hm2.out] at hA1
      have HA1 := Lib.hid hA1
      clear hA1 hbv HA
      go_wp2_with fail
      exact ⟨⟨k + 1, m2, (byteS st).2, by simp, by omega, rfl, by have := hm2.out; have := HM.out; have := HM2.out; omega, hr3, hkp.trans hk3, HA1⟩, by simp [intOf]; omega⟩
    · have hk' : k = 6 := by omega
      subst hk'
      have hA1 : ageGo 6 0 (some l) = (m, st) := HA.out
      have hm40 : m < 281474976710656 := hm
      clear hk6 hm HA
      have HA1 := Lib.hid hA1
      clear hA1
      have HU3 := Lib.hid (Rows.keep HU2.out hkp (fun g _ hf _ => by rintro rfl; exact absurd hf.2 (by omega)))
      clear HU2
      have hRz : R ≠ w.heap.size := by omega
      have hRlt := hr.lt
      have hRn : wr.heap.size ≠ R := by omega
      have hzr : wr.cell? ⟨w.heap.size, 0, none⟩ = some (.string ⟨#[]⟩) ∧ wr.cell? ⟨w.heap.size, 1, none⟩ = some (.int .i64 0) ∧ wr.cell? ⟨w.heap.size, 2, none⟩ = some (.int .i64 0) ∧ ∀ i, wr.frozen? ⟨w.heap.size, i, none⟩ = false :=
        ⟨(hkp.cell (a := ⟨w.heap.size, 0, none⟩) (by simp; omega) (Ne.symm hRz)).trans HZ.out.1, (hkp.cell (a := ⟨w.heap.size, 1, none⟩) (by simp; omega) (Ne.symm hRz)).trans HZ.out.2.1, (hkp.cell (a := ⟨w.heap.size, 2, none⟩) (by simp; omega) (Ne.symm hRz)).trans HZ.out.2.2.1, fun i => (hkp.frozen (a := ⟨w.heap.size, i, none⟩) (by simp; omega) (Ne.symm hRz)).trans (HZ.out.2.2.2 i)⟩
      have HZ3 := Lib.hid hzr
      clear hzr HZ
      have hconv : ∀ wx, Rows wx (fun g => w.heap.size ≤ g ∧ g < w1.heap.size) 5 1 uv u.length (u.map byteV) → (convert 22 9 uv).run Try.prog wx = .ok (.string (strOf u)) wx :=
        fun wx h => run_bytes_string Try.underlying22 Try.underlying5 Try.underlying9 h
      have HCV := Lib.hid hconv
      clear hconv
      obtain ⟨q, hq⟩ : ∃ q, Hid (q = (byteS st).1.toNat) := ⟨_, rfl⟩
      have hq256 : q < 256 := by have := hq.out; have := (byteS st).1.toNat_lt; omega
      have hbv : byteV (byteS st).1 = .int .u8 (q : Int) := by rw [hq.out]; rfl
      have HBV := Lib.hid hbv
      clear hbv
      have hw1 : IntKind.i64.wrap (1099511627776 - (m : Int)) = 1099511627776 - (m : Int) := wrap_in _ (by omega) (by omega)
      have hw2 : IntKind.i64.wrap (255 - (q : Int)) = 255 - (q : Int) := wrap_in _ (by omega) (by omega)
      have hw3 : IntKind.i64.wrap (q : Int) = (q : Int) := wrap_in _ (by omega) (by omega)
      have hstp : Hid ((byteS st).2 = (byteS st).2) := rfl
      have hbw : Below w.heap.size w wr := (hbel.trans (hb2.mono (by omega))).trans (hkp.mono (G := (· < w.heap.size)) (fun g hg hf e => by omega) |>.below (by omega))
      go_wp2_with fail
      go_cut [9] (fun s9 wx => ∃ kb, s9 = .pointer (some ⟨kb, 0, none⟩) ∧ w.heap.size < kb ∧ wx.heap[kb]? = some (.cells #[.string (strOf u), .int .i64 (1099511627776 - (m : Int)), .int .i64 (255 - (q : Int))] 114 (0, 0)) ∧ Rdr wx (w1.heap.size ≤ ·) R (byteS st).2 ∧ Below (w.heap.size + 1) wr wx)
      case first =>
        go_region_held3 (fun w' => Rows w' (fun g => w.heap.size ≤ g ∧ g < w1.heap.size) 5 1 uv u.length (u.map byteV) ∧ (convert 22 9 uv).run Try.prog w' = .ok (.string (strOf u)) w')
          (exact (fun h => ⟨h, HCV.out _ h⟩) (by repeat (first | with_reducible exact HU3.out | with_reducible refine Rows.alloc ?_ _ | with_reducible refine Rows.drew ?_ | (with_reducible refine rows_setHi ?_ (by (try simp); omega) _) | with_reducible refine rows_keepR ?_ hk3 hRge)))
          ((go_at_call 98; refine (byte_any R _ (w1.heap.size ≤ ·) st (by repeat (first | with_reducible exact hr | with_reducible refine Rdr.drew ?_ | with_reducible refine Rdr.alloc ?_ _))).mono ?_; rintro e w3 ⟨he, hr3, hk3⟩; rw [HBV.out] at he; subst he; obtain ⟨hk3c, hk3f⟩ := hk3.rules; have hk3s := hk3.size))

        · go_wp2_with fail
          go_meet
          exact ⟨w3.heap.size, rfl, by simp at hk3s; omega, heap_alloc_new _ _, hr3.alloc _, ((Below.refl _ wr).drew.trans ((hk3.mono (G := (· < w.heap.size + 1)) (fun g hg hf e => by omega)).below (by simp; omega))).alloc (by simp at hk3s; omega) _⟩
        · have hzb : w3.heap[wr.heap.size]? = some (.cells #[.string ⟨#[]⟩, .int .i64 0, .int .i64 0] 114 (0, 0)) := (hk3.block wr.heap.size (by simp) hRn).trans (heap_alloc_new wr _)
          go_wp2_with fail
          go_meet
          refine ⟨wr.heap.size, rfl, by omega, box3_set hzb _ _ _, ?_, ?_⟩
          · have e1 := heap_setCell_of hzb 0 (.string (strOf u))
            have e2 := heap_setCell_of e1 1 (.int .i64 (1099511627776 - (m : Int)))
            exact ((hr3.setOther hzb (by decide) (by decide) _ _).setOther e1 (by decide) (by decide) _ _).setOther e2 (by decide) (by decide) _ _
          · have b1 : Below (w.heap.size + 1) wr (wr.alloc (.cells #[.string ⟨#[]⟩, .int .i64 0, .int .i64 0] 114)).drew := ((Below.refl _ _).alloc (by omega) _).drew
            have b2 := (hk3.mono (G := (· < w.heap.size + 1)) (fun g hg hf e => by omega)).below (by simp; omega)
            exact (((b1.trans b2).setCell (by simp; omega) _).setCell (by simp; omega) _).setCell (by simp; omega) _
      case rest =>
        obtain ⟨kb, rfl, hkb, hkc, hrc, hbc⟩ := hcut
        have hfin : keyParse b = if (ok && doneS (byteS st).2 == 0 && keyOk ⟨strOf u, 1099511627776 - (m : Int), 255 - (q : Int)⟩) then some ⟨strOf u, 1099511627776 - (m : Int), 255 - (q : Int)⟩ else none := by
          unfold keyParse keyRaw
          rw [hraw.out.1, hraw.out.2]
          simp only [HA1.out, ← hq.out]
        have HF := Lib.hid hfin
        clear hfin
        have hx0 : wc.cell? ⟨kb, 0, none⟩ = some (.string (strOf u)) := by simpa using cell_of_block hkc 0
        have hx1 : wc.cell? ⟨kb, 1, none⟩ = some (.int .i64 (1099511627776 - (m : Int))) := by simpa using cell_of_block hkc 1
        have hx2 : wc.cell? ⟨kb, 2, none⟩ = some (.int .i64 (255 - (q : Int))) := by simpa using cell_of_block hkc 2
        have hkblt := heap_lt hkc
        have HKC := Lib.hid hkc
        clear hkc
        have hy0 : wc.cell? ⟨w.heap.size, 0, none⟩ = some (.string ⟨#[]⟩) := (hbc.cell (p := ⟨w.heap.size, 0, none⟩) (by simp)).trans HZ3.out.1
        have hy1 : wc.cell? ⟨w.heap.size, 1, none⟩ = some (.int .i64 0) := (hbc.cell (p := ⟨w.heap.size, 1, none⟩) (by simp)).trans HZ3.out.2.1
        have hy2 : wc.cell? ⟨w.heap.size, 2, none⟩ = some (.int .i64 0) := (hbc.cell (p := ⟨w.heap.size, 2, none⟩) (by simp)).trans HZ3.out.2.2.1
        have hyf : ∀ i, wc.frozen? ⟨w.heap.size, i, none⟩ = false := fun i => (hbc.frozen (p := ⟨w.heap.size, i, none⟩) (by simp)).trans (HZ3.out.2.2.2 i)
        have hzhc : wc.heap[w.heap.size]? = some (.cells #[.string ⟨#[]⟩, .int .i64 0, .int .i64 0] 114 (0, 0)) := (hbc.block w.heap.size (by simp)).trans ((hkp.block w.heap.size (by omega) (Ne.symm hRz)).trans ((hb2.block w.heap.size hsz1).trans HZH.out))
        have HZC := Lib.hid hzhc
        clear hzhc
        have hbelc : Below w.heap.size w wc := hbw.trans (hbc.mono (by omega))
        generalize hk0 : (⟨strOf u, 1099511627776 - (m : Int), 255 - (q : Int)⟩ : Key) = key at HF
        have HK0 := Lib.hid hk0
        clear hk0
        cases ok with
        | false =>
          go_wp2_with fail
          have HF2 := HF.out
          rw [if_neg (by simp)] at HF2
          have hB := ((hbelc.setCell (p := ⟨w.heap.size, 0, none⟩) (Nat.le_refl _) (Value.string ⟨#[]⟩)).setCell (p := ⟨w.heap.size, 1, none⟩) (Nat.le_refl _) (Value.int .i64 0)).setCell (p := ⟨w.heap.size, 2, none⟩) (Nat.le_refl _) (Value.int .i64 0); have hW := box3_set HZC.out (Value.string ⟨#[]⟩) (Value.int .i64 0) (Value.int .i64 0); generalize World.setCell (World.setCell (World.setCell wc ⟨w.heap.size, 0, none⟩ (Value.string ⟨#[]⟩)) ⟨w.heap.size, 1, none⟩ (Value.int .i64 0)) ⟨w.heap.size, 2, none⟩ (Value.int .i64 0) = W' at hB hW ⊢; have c0 : W'.cell? ⟨w.heap.size, 0, none⟩ = some (Value.string ⟨#[]⟩) := (by simpa using cell_of_block hW 0); have c1 : W'.cell? ⟨w.heap.size, 1, none⟩ = some (Value.int .i64 0) := (by simpa using cell_of_block hW 1); have c2 : W'.cell? ⟨w.heap.size, 2, none⟩ = some (Value.int .i64 0) := (by simpa using cell_of_block hW 2); refine bodyPost_ret (v := .tuple #[.agg #[(Value.string ⟨#[]⟩), (Value.int .i64 0), (Value.int .i64 0)], .int .i64 _]) (by simp [results, Try.results100, go_sem, c0, c1, c2]; rfl) rfl ?_
          exact ⟨by rw [HF2]; rfl, hB⟩
        | true =>
          have hdc := done_any R wc _ _ hrc
          by_cases hdn : doneS (byteS st).2 = 0
          · rw [hdn] at hdc
            have HDC := Lib.hid hdc
            obtain ⟨ky, hky⟩ : ∃ ky, Hid (ky = keyOk key) := ⟨_, rfl⟩
            have hkk := keyCheck_any key wc
            have hkv : key.val = .agg #[.string (strOf u), .int .i64 (1099511627776 - (m : Int)), .int .i64 (255 - (q : Int))] := by rw [← HK0.out]; rfl
            rw [hkv, ← hky.out] at hkk
            have HKV := Lib.hid hkv
            have HF2 := HF.out
            rw [hdn, ← hky.out] at HF2
            have HF3 := Lib.hid HF2
            clear hkv hdn hdc HF2 HF
            cases ky with
            | true =>
              rw [errOf_true] at hkk
              have HKK := Lib.hid hkk
              clear hkk
              go_wp2_with fail
              refine (HDC.out).mono ?_
              rintro e w4 ⟨rfl, rfl⟩
              go_wp2_with fail
              refine (HKK.out).mono ?_
              rintro e w5 ⟨rfl, hb5⟩
              have hx0' : w5.cell? ⟨kb, 0, none⟩ = some (.string (strOf u)) := (hb5.cell (p := ⟨kb, 0, none⟩) hkblt).trans hx0; have hx1' : w5.cell? ⟨kb, 1, none⟩ = some (.int .i64 (1099511627776 - (m : Int))) := (hb5.cell (p := ⟨kb, 1, none⟩) hkblt).trans hx1; have hx2' : w5.cell? ⟨kb, 2, none⟩ = some (.int .i64 (255 - (q : Int))) := (hb5.cell (p := ⟨kb, 2, none⟩) hkblt).trans hx2; have hzl : w.heap.size < wc.heap.size := (by omega); have hy0' : w5.cell? ⟨w.heap.size, 0, none⟩ = some (.string ⟨#[]⟩) := (hb5.cell (p := ⟨w.heap.size, 0, none⟩) hzl).trans hy0; have hy1' : w5.cell? ⟨w.heap.size, 1, none⟩ = some (.int .i64 0) := (hb5.cell (p := ⟨w.heap.size, 1, none⟩) hzl).trans hy1; have hy2' : w5.cell? ⟨w.heap.size, 2, none⟩ = some (.int .i64 0) := (hb5.cell (p := ⟨w.heap.size, 2, none⟩) hzl).trans hy2; have hyf' : ∀ i, w5.frozen? ⟨w.heap.size, i, none⟩ = false := fun i => (hb5.frozen (p := ⟨w.heap.size, i, none⟩) hzl).trans (hyf i)
              go_wp2_with fail
              have HF4 := HF3.out
              rw [if_pos (by simp)] at HF4
              have hbel5 := hbelc.trans (hb5.mono (by omega))
              have hzh5 := (hb5.block w.heap.size (by omega)).trans HZC.out
              have hB := ((hbel5.setCell (p := ⟨w.heap.size, 0, none⟩) (Nat.le_refl _) (Value.string (strOf u))).setCell (p := ⟨w.heap.size, 1, none⟩) (Nat.le_refl _) (Value.int .i64 (1099511627776 - (m : Int)))).setCell (p := ⟨w.heap.size, 2, none⟩) (Nat.le_refl _) (Value.int .i64 (255 - (q : Int))); have hW := box3_set hzh5 (Value.string (strOf u)) (Value.int .i64 (1099511627776 - (m : Int))) (Value.int .i64 (255 - (q : Int))); generalize World.setCell (World.setCell (World.setCell w5 ⟨w.heap.size, 0, none⟩ (Value.string (strOf u))) ⟨w.heap.size, 1, none⟩ (Value.int .i64 (1099511627776 - (m : Int)))) ⟨w.heap.size, 2, none⟩ (Value.int .i64 (255 - (q : Int))) = W' at hB hW ⊢; have c0 : W'.cell? ⟨w.heap.size, 0, none⟩ = some (Value.string (strOf u)) := (by simpa using cell_of_block hW 0); have c1 : W'.cell? ⟨w.heap.size, 1, none⟩ = some (Value.int .i64 (1099511627776 - (m : Int))) := (by simpa using cell_of_block hW 1); have c2 : W'.cell? ⟨w.heap.size, 2, none⟩ = some (Value.int .i64 (255 - (q : Int))) := (by simpa using cell_of_block hW 2); refine bodyPost_ret (v := .tuple #[.agg #[(Value.string (strOf u)), (Value.int .i64 (1099511627776 - (m : Int))), (Value.int .i64 (255 - (q : Int)))], .int .i64 _]) (by simp [results, Try.results100, go_sem, c0, c1, c2]; rfl) rfl ?_
              exact ⟨by rw [HF4, ← HK0.out]; rfl, hB⟩
            | false =>
              rw [errOf_false] at hkk
              have HKK := Lib.hid hkk
              clear hkk
              go_wp2_with fail
              refine (HDC.out).mono ?_
              rintro e w4 ⟨rfl, rfl⟩
              go_wp2_with fail
              refine (HKK.out).mono ?_
              rintro e w5 ⟨rfl, hb5⟩
              have hx0' : w5.cell? ⟨kb, 0, none⟩ = some (.string (strOf u)) := (hb5.cell (p := ⟨kb, 0, none⟩) hkblt).trans hx0; have hx1' : w5.cell? ⟨kb, 1, none⟩ = some (.int .i64 (1099511627776 - (m : Int))) := (hb5.cell (p := ⟨kb, 1, none⟩) hkblt).trans hx1; have hx2' : w5.cell? ⟨kb, 2, none⟩ = some (.int .i64 (255 - (q : Int))) := (hb5.cell (p := ⟨kb, 2, none⟩) hkblt).trans hx2; have hzl : w.heap.size < wc.heap.size := (by omega); have hy0' : w5.cell? ⟨w.heap.size, 0, none⟩ = some (.string ⟨#[]⟩) := (hb5.cell (p := ⟨w.heap.size, 0, none⟩) hzl).trans hy0; have hy1' : w5.cell? ⟨w.heap.size, 1, none⟩ = some (.int .i64 0) := (hb5.cell (p := ⟨w.heap.size, 1, none⟩) hzl).trans hy1; have hy2' : w5.cell? ⟨w.heap.size, 2, none⟩ = some (.int .i64 0) := (hb5.cell (p := ⟨w.heap.size, 2, none⟩) hzl).trans hy2; have hyf' : ∀ i, w5.frozen? ⟨w.heap.size, i, none⟩ = false := fun i => (hb5.frozen (p := ⟨w.heap.size, i, none⟩) hzl).trans (hyf i)
              go_wp2_with fail
              have HF4 := HF3.out
              rw [if_neg (by simp)] at HF4
              have hbel5 := hbelc.trans (hb5.mono (by omega))
              have hzh5 := (hb5.block w.heap.size (by omega)).trans HZC.out
              have hB := ((hbel5.setCell (p := ⟨w.heap.size, 0, none⟩) (Nat.le_refl _) (Value.string ⟨#[]⟩)).setCell (p := ⟨w.heap.size, 1, none⟩) (Nat.le_refl _) (Value.int .i64 0)).setCell (p := ⟨w.heap.size, 2, none⟩) (Nat.le_refl _) (Value.int .i64 0); have hW := box3_set hzh5 (Value.string ⟨#[]⟩) (Value.int .i64 0) (Value.int .i64 0); generalize World.setCell (World.setCell (World.setCell w5 ⟨w.heap.size, 0, none⟩ (Value.string ⟨#[]⟩)) ⟨w.heap.size, 1, none⟩ (Value.int .i64 0)) ⟨w.heap.size, 2, none⟩ (Value.int .i64 0) = W' at hB hW ⊢; have c0 : W'.cell? ⟨w.heap.size, 0, none⟩ = some (Value.string ⟨#[]⟩) := (by simpa using cell_of_block hW 0); have c1 : W'.cell? ⟨w.heap.size, 1, none⟩ = some (Value.int .i64 0) := (by simpa using cell_of_block hW 1); have c2 : W'.cell? ⟨w.heap.size, 2, none⟩ = some (Value.int .i64 0) := (by simpa using cell_of_block hW 2); refine bodyPost_ret (v := .tuple #[.agg #[(Value.string ⟨#[]⟩), (Value.int .i64 0), (Value.int .i64 0)], .int .i64 _]) (by simp [results, Try.results100, go_sem, c0, c1, c2]; rfl) rfl ?_
              exact ⟨by rw [HF4]; rfl, hB⟩
          · have h20 : doneS (byteS st).2 = 20 := by
              match h : (byteS st).2 with
              | none => rfl
              | some [] => rw [h] at hdn; exact absurd rfl hdn
              | some (_ :: _) => rfl
            have HF2 := HF.out
            rw [if_neg (by simp [hdn])] at HF2
            have HF3 := Lib.hid HF2
            rw [h20] at hdc
            have HDC := Lib.hid hdc
            clear HF2 hdn HF hdc h20
            go_wp2_with fail
            refine (HDC.out).mono ?_
            rintro e w4 ⟨rfl, rfl⟩
            go_wp2_with fail
            have hB := ((hbelc.setCell (p := ⟨w.heap.size, 0, none⟩) (Nat.le_refl _) (Value.string ⟨#[]⟩)).setCell (p := ⟨w.heap.size, 1, none⟩) (Nat.le_refl _) (Value.int .i64 0)).setCell (p := ⟨w.heap.size, 2, none⟩) (Nat.le_refl _) (Value.int .i64 0); have hW := box3_set HZC.out (Value.string ⟨#[]⟩) (Value.int .i64 0) (Value.int .i64 0); generalize World.setCell (World.setCell (World.setCell wc ⟨w.heap.size, 0, none⟩ (Value.string ⟨#[]⟩)) ⟨w.heap.size, 1, none⟩ (Value.int .i64 0)) ⟨w.heap.size, 2, none⟩ (Value.int .i64 0) = W' at hB hW ⊢; have c0 : W'.cell? ⟨w.heap.size, 0, none⟩ = some (Value.string ⟨#[]⟩) := (by simpa using cell_of_block hW 0); have c1 : W'.cell? ⟨w.heap.size, 1, none⟩ = some (Value.int .i64 0) := (by simpa using cell_of_block hW 1); have c2 : W'.cell? ⟨w.heap.size, 2, none⟩ = some (Value.int .i64 0) := (by simpa using cell_of_block hW 2); refine bodyPost_ret (v := .tuple #[.agg #[(Value.string ⟨#[]⟩), (Value.int .i64 0), (Value.int .i64 0)], .int .i64 _]) (by simp [results, Try.results100, go_sem, c0, c1, c2]; rfl) rfl ?_
            exact ⟨by rw [HF3.out]; rfl, hB⟩
end Go.Proofs.Ytejfejckmhoolaa
