/- manifest.source.key. -/
import Derived.Test.YtejfejckmhoolaaSrc
set_option linter.unusedSimpArgs false
set_option linter.unusedVariables false
namespace Go.Proofs.Ytejfejckmhoolaa
open Go.RowKit

theorem byteS_len {l l' : Byts} {c : UInt8} (h : byteS (some l) = (c, some l')) : l'.length ≤ l.length := by
  match l with
  | [] => simp [byteS] at h
  | d :: l => simp [byteS] at h; obtain ⟨_, rfl⟩ := h; simp
theorem numGo_len : ∀ (k i n : Nat) (l l' : Byts), (numGo k i n (some l)).2 = some l' → l'.length ≤ l.length := by
  intro k
  induction k with
  | zero => intro i n l l' h; simp [numGo] at h
  | succ k ih =>
    intro i n l l' h
    rw [numGo] at h
    cases hb : (byteS (some l)).2 with
    | none => rw [hb] at h; simp at h
    | some l2 =>
      rw [hb] at h
      have hl2 : l2.length ≤ l.length := byteS_len (c := (byteS (some l)).1) (by rw [← hb])
      simp only at h
      split at h
      · split at h
        · simp at h
        · simp at h; subst h; exact hl2
      · exact Nat.le_trans (ih _ _ _ _ h) hl2
theorem Rdr.len {w : World} {F : Nat → Prop} {R : Nat} {l : Byts} (h : Rdr w F R (some l)) : l.length ≤ 1000000 := by
  obtain ⟨_, _, _, h⟩ := h
  exact h
theorem text_len {w : World} {F : Nat → Prop} {R : Nat} {st : Option Byts} (h : Rdr w F R st) : (textS st).1.length ≤ 1000000 := by
  match st with
  | none => simp [textS, numS, numGo, byteS, rawS]
  | some l =>
    have hl := h.len
    unfold textS
    cases hn : (numS (some l)).2 with
    | none => simp [rawS]
    | some l2 =>
      have := numGo_len 9 0 0 l l2 hn
      show (rawS _ _).1.length ≤ _
      rw [rawS]
      split
      · simp
      · simp only [List.length_take]; omega

def skeyS (st : Option Byts) (bad : Bool) : Key × Option Byts × Bool :=
  ((keyParse (textS st).1).getD keyZero, (textS st).2, bad || !(keyParse (textS st).1).isSome)

theorem skey_close {w w2 : World} {F : Nat → Prop} {S R z : Nat} {st : Option Byts} {bad : Bool} (hs : Src w2 F S R st bad) {x y u : Value} (hz : w2.heap[z]? = some (.cells #[x, y, u] 114 (0, 0)))
    (hk : Keep (fun g => g ≠ R ∧ g ≠ S ∧ g ≠ z) w w2) (hzw : w.heap.size ≤ z) (b : Bool) (a1 a2 a3 : Value) (o : Obj) :
    (((((w2.setCell ⟨S, 1, none⟩ (.bool b)).setCell ⟨z, 0, none⟩ a1).setCell ⟨z, 1, none⟩ a2).setCell ⟨z, 2, none⟩ a3).alloc o).heap[z]? = some (.cells #[a1, a2, a3] 114 (0, 0)) ∧
    Src ((((w2.setCell ⟨S, 1, none⟩ (.bool b)).setCell ⟨z, 0, none⟩ a1).setCell ⟨z, 1, none⟩ a2).setCell ⟨z, 2, none⟩ a3 |>.alloc o) F S R st b ∧
    Keep (fun g => g ≠ R ∧ g ≠ S) w ((((w2.setCell ⟨S, 1, none⟩ (.bool b)).setCell ⟨z, 0, none⟩ a1).setCell ⟨z, 1, none⟩ a2).setCell ⟨z, 2, none⟩ a3 |>.alloc o) := by
  have hSz : S ≠ z := by
    rintro rfl
    rw [hs.1] at hz
    simp at hz
  have z1 : (w2.setCell ⟨S, 1, none⟩ (.bool b)).heap[z]? = some (.cells #[x, y, u] 114 (0, 0)) := by rw [Below.heap_setCell _ _ _ _ (Ne.symm hSz)]; exact hz
  have e0 := box3_set z1 a1 a2 a3
  have e1 := heap_setCell_of z1 0 a1
  have e2 := heap_setCell_of e1 1 a2
  refine ⟨?_, ?_, ?_⟩
  · rw [Below.heap_alloc _ _ _ (heap_lt e0)]
    exact e0
  · exact ((((hs.setBad b).setOther z1 (by decide) (by decide) (by decide) _ _).setOther e1 (by decide) (by decide) (by decide) _ _).setOther e2 (by decide) (by decide) (by decide) _ _).alloc o
  · refine Keep.alloc ?_ o
    have k0 := hk.mono (G := fun g => (g ≠ R ∧ g ≠ S) ∧ g < w.heap.size) (fun g hg hf => ⟨hf.1.1, hf.1.2, by omega⟩)
    have k1 := (((k0.setCell (a := ⟨S, 1, none⟩) (fun _ hf => hf.1.2 rfl) (.bool b)).setCell (a := ⟨z, 0, none⟩) (fun h _ => absurd h (by simp; omega)) a1).setCell (a := ⟨z, 1, none⟩) (fun h _ => absurd h (by simp; omega)) a2).setCell (a := ⟨z, 2, none⟩) (fun h _ => absurd h (by simp; omega)) a3
    exact k1.mono (fun g hg hf => ⟨hf, hg⟩)

set_option maxRecDepth 100000 in
set_option maxHeartbeats 1000000 in
theorem skey_any (w : World) (F : Nat → Prop) (S R : Nat) (st : Option Byts) (bad : Bool) (h : Src w F S R st bad) :
    Calls Try.prog 46 #[.pointer (some ⟨S, 0, none⟩)] w (SrcPost F S R w (skeyS st bad).1.val (skeyS st bad).2.1 (skeyS st bad).2.2) := by
  unfold skeyS
  have hbl := text_len h.2
  obtain ⟨w0, hw0⟩ : ∃ w0, Hid (w0 = w.alloc (.cells #[.string ⟨#[]⟩, .int .i64 0, .int .i64 0] 114)) := ⟨_, rfl⟩
  have hz0 : w0.heap.size = w.heap.size + 1 := by rw [hw0.out]; simp
  have HB0 : Hid (Below w.heap.size w w0) := by rw [hw0.out]; exact (Below.refl _ _).alloc (Nat.le_refl _) _
  have HZ0 : Hid (w0.heap[w.heap.size]? = some (.cells #[.string ⟨#[]⟩, .int .i64 0, .int .i64 0] 114 (0, 0))) := by rw [hw0.out]; exact heap_alloc_new w _
  have h0 : Src w0 F S R st bad := by rw [hw0.out]; exact h.alloc _
  have hRlt := h.2.lt
  have hSlt := heap_lt h.1
  have hSR := h.ne
  have ht := text_any R w0 F st h0.2
  generalize (textS st).1 = b at *
  generalize (textS st).2 = st1 at *
  obtain ⟨c0, c1, f1⟩ := h.facts
  have hSne : S ≠ w.heap.size := by omega
  have H0 := Lib.hid h0
  have HT := Lib.hid ht
  clear ht h0 h
  go_enter Try.func46, Try.ntmps46
  go_wp2_with fail
  rw [← hw0.out]
  refine (HT.out).mono ?_
  rintro e w1 ⟨v, rfl, hb1, hr1, hk1, -⟩
  have hs1 := hk1.size
  have HS1 := Lib.hid (H0.out.step hr1 hk1)
  have hkp := keyParse_any w1 F v b hb1 hbl
  have HKP := Lib.hid hkp
  obtain ⟨A, n, cp, rfl⟩ : ∃ A n cp, v = .slice A n cp := by obtain ⟨_, A, c, hv, _⟩ := hb1; exact ⟨A, _, c, hv⟩
  clear hkp hb1 hr1 c0 c1 f1
  go_wp2_with fail
  refine (HKP.out).mono ?_
  rintro e w2 ⟨rfl, hb2⟩
  have hs2 := hb2.size
  have hk2 : Keep (· < w1.heap.size) w1 w2 := Keep.of_below hb2 (fun g _ hf => hf)
  have HS2 := Lib.hid (HS1.out.keep (G := fun g => g < w1.heap.size) hk2 (by omega) (by omega) (fun g hg _ _ => hg))
  have HZ2 : Hid (w2.heap[w.heap.size]? = some (.cells #[.string ⟨#[]⟩, .int .i64 0, .int .i64 0] 114 (0, 0))) := (hb2.block _ (by omega)).trans ((hk1.block _ (by omega) (by omega)).trans HZ0.out)
  have HK2 := Lib.hid ((keep_RS (S := S) hk1).mono (G := fun g => g ≠ R ∧ g ≠ S ∧ g < w1.heap.size) (fun g _ hf => ⟨hf.1, hf.2.1⟩) |>.trans (hk2.mono (fun g _ hf => hf.2.2)))
  generalize hok : keyParse b = r at *
  obtain ⟨key, hkey⟩ : ∃ key, Hid (key = r.getD keyZero) := ⟨_, rfl⟩
  rw [← hkey.out]
  obtain ⟨ku, ks, kd⟩ := key
  unfold Key.val Key.cells
  obtain ⟨c0, c1, f1⟩ := HS2.out.facts
  have z0 : w2.cell? ⟨w.heap.size, 0, none⟩ = some (.string ⟨#[]⟩) := by simpa using cell_of_block HZ2.out 0
  have z1 : w2.cell? ⟨w.heap.size, 1, none⟩ = some (.int .i64 0) := by simpa using cell_of_block HZ2.out 1
  have z2 : w2.cell? ⟨w.heap.size, 2, none⟩ = some (.int .i64 0) := by simpa using cell_of_block HZ2.out 2
  have zf : ∀ i, w2.frozen? ⟨w.heap.size, i, none⟩ = false := fun i => frozen_of_block HZ2.out i
  have hSz : S ≠ w.heap.size := by omega
  have hSl2 : S < w2.heap.size := by omega
  have hwl2 : w.heap.size < w2.heap.size := by omega
  have hSz2 : S ≠ w2.heap.size := by omega
  have hwz : w.heap.size ≠ w2.heap.size := by omega
  have HBK : Hid (Keep (fun g => g ≠ R ∧ g ≠ S ∧ g ≠ w.heap.size) w w0) := Keep.of_below HB0.out (fun g hg _ => hg)
  clear hb2 hk1 hk2 HB0 HKP
  have hkz : Keep (fun g => g ≠ R ∧ g ≠ S ∧ g ≠ w.heap.size) w w2 := by
    refine Keep.trans (HBK.out) (HK2.out.mono (fun g hg hf => ⟨hf.1, hf.2.1, by omega⟩))
  have HKZ := Lib.hid hkz
  clear hkz
  cases bad with
  | true =>
    go_wp2_with fail
    (have hcl := skey_close HS2.out HZ2.out HKZ.out (Nat.le_refl _) true (.string ku) (.int .i64 ks) (.int .i64 kd) (Obj.cells #[.string ku, .int .i64 ks, .int .i64 kd] 114); revert hcl; generalize ((((w2.setCell ⟨S, 1, none⟩ (.bool true)).setCell ⟨w.heap.size, 0, none⟩ (.string ku)).setCell ⟨w.heap.size, 1, none⟩ (.int .i64 ks)).setCell ⟨w.heap.size, 2, none⟩ (.int .i64 kd)).alloc (Obj.cells #[.string ku, .int .i64 ks, .int .i64 kd] 114) = W'; rintro ⟨q1, q2, q3⟩; have g0 : W'.cell? ⟨w.heap.size, 0, none⟩ = some (.string ku) := (by simpa using cell_of_block q1 0); have g1 : W'.cell? ⟨w.heap.size, 1, none⟩ = some (.int .i64 ks) := (by simpa using cell_of_block q1 1); have g2 : W'.cell? ⟨w.heap.size, 2, none⟩ = some (.int .i64 kd) := (by simpa using cell_of_block q1 2); refine bodyPost_end (v := .agg #[.string ku, .int .i64 ks, .int .i64 kd]) (by simp [results, Try.results46, go_sem, g0, g1, g2]) rfl ?_; exact ⟨(by rw [← hkey.out]; rfl), q2, q3⟩)
  | false =>
    cases r with
    | none =>
      simp only [Option.isSome_none, errOf_false]
      go_wp2_with fail
      (have hcl := skey_close HS2.out HZ2.out HKZ.out (Nat.le_refl _) true (.string ku) (.int .i64 ks) (.int .i64 kd) (Obj.cells #[.string ku, .int .i64 ks, .int .i64 kd] 114); revert hcl; generalize ((((w2.setCell ⟨S, 1, none⟩ (.bool true)).setCell ⟨w.heap.size, 0, none⟩ (.string ku)).setCell ⟨w.heap.size, 1, none⟩ (.int .i64 ks)).setCell ⟨w.heap.size, 2, none⟩ (.int .i64 kd)).alloc (Obj.cells #[.string ku, .int .i64 ks, .int .i64 kd] 114) = W'; rintro ⟨q1, q2, q3⟩; have g0 : W'.cell? ⟨w.heap.size, 0, none⟩ = some (.string ku) := (by simpa using cell_of_block q1 0); have g1 : W'.cell? ⟨w.heap.size, 1, none⟩ = some (.int .i64 ks) := (by simpa using cell_of_block q1 1); have g2 : W'.cell? ⟨w.heap.size, 2, none⟩ = some (.int .i64 kd) := (by simpa using cell_of_block q1 2); refine bodyPost_end (v := .agg #[.string ku, .int .i64 ks, .int .i64 kd]) (by simp [results, Try.results46, go_sem, g0, g1, g2]) rfl ?_; exact ⟨(by rw [← hkey.out]; rfl), q2, q3⟩)
    | some k =>
      simp only [Option.isSome_some, errOf_true]
      go_wp2_with fail
      (have hcl := skey_close HS2.out HZ2.out HKZ.out (Nat.le_refl _) false (.string ku) (.int .i64 ks) (.int .i64 kd) (Obj.cells #[.string ku, .int .i64 ks, .int .i64 kd] 114); revert hcl; generalize ((((w2.setCell ⟨S, 1, none⟩ (.bool false)).setCell ⟨w.heap.size, 0, none⟩ (.string ku)).setCell ⟨w.heap.size, 1, none⟩ (.int .i64 ks)).setCell ⟨w.heap.size, 2, none⟩ (.int .i64 kd)).alloc (Obj.cells #[.string ku, .int .i64 ks, .int .i64 kd] 114) = W'; rintro ⟨q1, q2, q3⟩; have g0 : W'.cell? ⟨w.heap.size, 0, none⟩ = some (.string ku) := (by simpa using cell_of_block q1 0); have g1 : W'.cell? ⟨w.heap.size, 1, none⟩ = some (.int .i64 ks) := (by simpa using cell_of_block q1 1); have g2 : W'.cell? ⟨w.heap.size, 2, none⟩ = some (.int .i64 kd) := (by simpa using cell_of_block q1 2); refine bodyPost_end (v := .agg #[.string ku, .int .i64 ks, .int .i64 kd]) (by simp [results, Try.results46, go_sem, g0, g1, g2]) rfl ?_; exact ⟨(by rw [← hkey.out]; rfl), q2, q3⟩)
end Go.Proofs.Ytejfejckmhoolaa
