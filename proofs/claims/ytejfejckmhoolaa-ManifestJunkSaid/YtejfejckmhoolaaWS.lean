/- manifest.list, manifest.key over a writer; the writer's state in a function that owns it. -/
import Derived.Test.YtejfejckmhoolaaRBytes2
import Derived.Test.YtejfejckmhoolaaKBytes2
import Derived.Test.YtejfejckmhoolaaWtr2
set_option linter.unusedSimpArgs false
set_option linter.unusedVariables false
namespace Go.Proofs.Ytejfejckmhoolaa
open Go.RowKit

def WPost (O : Nat → Prop) (X : Nat) (w : World) (bad : Bool) (l : Byts) (e : Ending) (w' : World) : Prop :=
  (∃ v, e = .returned v) ∧ Wtr w' O X bad l ∧ Keep (fun g => ¬ O g ∧ g ≠ X) w w'

set_option maxRecDepth 100000 in
set_option maxHeartbeats 1000000 in
theorem wlist_any (X : Nat) (w : World) (O F : Nat → Prop) (bad : Bool) (l : Byts) (v : Value) (zs : List Int) (h : Wtr w O X bad l) (hi : Ints w F v zs) (hF : ∀ g, F g → ¬ O g ∧ g ≠ X)
    (hnew : ∀ g, w.heap.size ≤ g → O g) (hz : ∀ (k : Nat) (z : Int), zs[k]? = some z → 0 ≤ z ∧ z < 64) (hl : zs.length ≤ 64) (hll : l.length ≤ 90000000) :
    Calls Try.prog 79 #[.pointer (some ⟨X, 0, none⟩), v] w (WPost O X w bad (l ++ listEnc zs)) := by
  have HZ := Lib.hid hz
  obtain ⟨_, A, cap, rfl, hcap, _⟩ := id hi
  have HI := Lib.hid hi
  obtain ⟨n, hn⟩ : ∃ n, Hid (n = zs.length) := ⟨_, rfl⟩
  rw [← hn.out] at hl hcap HI ⊢
  have hpost : Hid (listEnc zs = numEnc n ++ numsEnc zs) := by unfold Hid listEnc; rw [hn.out]
  have HF := Lib.hid hF
  have HN := Lib.hid hnew
  have hn20 := numEnc_len n (by omega)
  have HW := Lib.hid (wnumber_any X n (by omega) w O bad l h hnew (by omega))
  clear hz hi hF hnew h
  go_enter Try.func79, Try.ntmps79
  go_wp2_with fail
  refine (HW.out).mono ?_
  rintro e w1 ⟨rfl, hw1, hk1⟩
  have HW1 := Lib.hid hw1
  have HK1 := Lib.hid hk1
  clear hw1 hk1 HW
  go_wp2_with fail
  go_loopw [12] (fun i wr => ∃ (k : Nat), i = .int .i64 k ∧ k ≤ n ∧ Wtr wr O X bad (l ++ (numEnc n ++ numsEnc (zs.take k))) ∧ Keep (fun g => ¬ O g ∧ g ≠ X) w wr ∧ Hid ((numsEnc (zs.take k)).length ≤ 20 * k)) (fun i _ => n - (intOf i).toNat)
  case atStart => exact ⟨0, rfl, by omega, by simpa [numsEnc] using HW1.out, HK1.out, by unfold Hid; simp [numsEnc]⟩
  case round =>
    obtain ⟨k, rfl, hk, hw, hkp, HLE⟩ := hrel
    have HW := Lib.hid hw
    have HKP := Lib.hid hkp
    clear hw hkp HW1 HK1
    by_cases hlt : k < n
    · obtain ⟨z, hzk⟩ : ∃ z, zs[k]? = some z := ⟨zs[k]'(by have := hn.out; omega), List.getElem?_eq_getElem _⟩
      obtain ⟨hz0, hz1⟩ := HZ.out k z hzk
      have hne : zs ≠ [] := by
        rintro rfl
        simp at hzk
      have htk := take_succ_of hzk
      obtain ⟨zn, rfl⟩ := Int.eq_ofNat_of_zero_le hz0
      have hrw : Ints wr F (.slice A n cap) zs := Rows.keep (by have h2 := HI.out; rw [hn.out] at h2 ⊢; exact h2) HKP.out (fun g _ hf _ => HF.out g hf)
      obtain ⟨g, off, cap2, eA, _, _, _, hel⟩ := hrw.cells hne
      have eA2 : A = some ⟨g, off, none⟩ := by injection eA
      subst eA2
      have e0 := hel k _ hzk
      have HTK := Lib.hid htk
      have hz20 := numEnc_len zn (by omega)
      have HWN := Lib.hid (wnumber_any X zn (by omega) wr O bad _ HW.out (fun g hg => HN.out g (Nat.le_trans HKP.out.size hg)) (by have := HLE.out; simp only [List.length_append]; omega))
      clear hel eA hne hrw hzk htk HW
      go_wp2_with fail
      refine (HWN.out).mono ?_
      rintro e w2 ⟨rfl, hw2, hk2⟩
      have HW2 := Lib.hid hw2
      have HK2 := Lib.hid (HKP.out.trans hk2)
      clear hw2 hk2 HWN e0
      go_wp2_with fail
      refine ⟨⟨k + 1, by simp, by omega, ?_, HK2.out, ?_⟩, by simp [intOf]; omega⟩
      · rw [HTK.out, numsEnc_snoc]
        simpa using HW2.out
      · have := HLE.out
        unfold Hid
        rw [HTK.out, numsEnc_snoc, List.length_append]
        simp only [Int.toNat_natCast]
        omega
    · have hkn : ¬ (k : Int) < n := by omega
      have hkk : zs.take k = zs := List.take_of_length_le (by have := hn.out; omega)
      have hw := HW.out
      rw [hkk, ← hpost.out] at hw
      have HW2 := Lib.hid hw
      clear hkk hw HW
      go_wp2_with fail
      go_end0
      exact ⟨⟨_, rfl⟩, HW2.out, HKP.out⟩

set_option maxRecDepth 100000 in
set_option maxHeartbeats 1000000 in
theorem wkey_any (X : Nat) (w : World) (O : Nat → Prop) (bad : Bool) (l : Byts) (k : Key) (h : Wtr w O X bad l) (hnew : ∀ g, w.heap.size ≤ g → O g) (hk : keyOk k = true) (hll : l.length ≤ 90000000) :
    Calls Try.prog 80 #[.pointer (some ⟨X, 0, none⟩), k.val] w (WPost O X w bad (l ++ textEnc (keyEnc k))) := by
  have hkl := keyEnc_len hk
  have htl := textEnc_len hkl (by omega)
  have HKB := Lib.hid (fun wx => keyBytes_any k hk wx)
  obtain ⟨u, s, d⟩ := k
  have hf : Key.val ⟨u, s, d⟩ = .agg #[.string u, .int .i64 s, .int .i64 d] := rfl
  have hXlt : X < w.heap.size := by obtain ⟨v, a, _⟩ := h; exact heap_lt a
  rw [hf] at HKB ⊢
  have HH := Lib.hid h
  have HN := Lib.hid hnew
  clear h hnew hf hk
  go_enter Try.func80, Try.ntmps80
  go_wp2_with fail
  refine (HKB.out _).mono ?_
  rintro e w2 ⟨v, rfl, hown, hb⟩
  have hb2 : Below w.heap.size w w2 := ((Below.refl _ _).alloc (Nat.le_refl _) _).trans (hb.mono (by simp))
  have hsz := hb2.size
  obtain ⟨KA, KC, rfl⟩ := own_form hown
  have hXne : ∀ g, (Value.slice KA (keyEnc ⟨u, s, d⟩).length KC).ownBlock = some g → w.heap.size ≤ g := fun g hg => by
    have := (hown.lt g hg).1
    simp at this
    omega
  have hrw : Bts w2 (fun g => w.heap.size ≤ g ∧ g < w2.heap.size) (.slice KA (keyEnc ⟨u, s, d⟩).length KC) (keyEnc ⟨u, s, d⟩) := (Rows.of_own hown).mono (fun g h1 h2 => ⟨by simp at h2; omega, h1⟩)
  have hw2 : Wtr w2 (fun g => (O g ∧ g < w.heap.size) ∨ w2.heap.size ≤ g) X bad l := by
    have h1 : Wtr w (fun g => O g ∧ g < w.heap.size) X bad l := HH.out.mono (fun g h1 h2 => ⟨h2, h1⟩)
    exact (h1.keep (Keep.of_below hb2 (F := fun g => g < w.heap.size) (fun g _ hf => hf)) hXlt (fun g hg _ => hg)).mono (fun g _ h => .inl h)
  have hwt := wtext_any X w2 _ _ bad l (keyEnc ⟨u, s, d⟩) _ hw2 hrw (fun g hg _ => by rintro (⟨_, h⟩ | h) <;> omega) (fun g hg => .inr hg) (by omega)
  have HWT := Lib.hid hwt
  have HB2 := Lib.hid hb2
  clear hwt hw2 hrw hb2 hown hb hXne
  go_wp2_with fail
  refine (HWT.out).mono ?_
  rintro e w3 ⟨rfl, hw3, hk3⟩
  have HW3 := Lib.hid hw3
  have HK3 := Lib.hid hk3
  clear hw3 hk3 HWT
  go_wp2_with fail
  go_end0
  refine ⟨⟨_, rfl⟩, HW3.out.mono (fun g _ h => ?_), (Keep.of_below HB2.out (F := fun g => g < w.heap.size) (fun g _ hf => hf)).mono (fun g hg _ => hg) |>.trans ?_⟩
  · rcases h with h | h
    · exact h.1
    · exact HN.out g (by omega)
  · refine HK3.out.mono (fun g hg hf => ⟨?_, hf.2⟩)
    rintro (⟨h, _⟩ | h)
    · exact hf.1 h
    · omega

/-- A writer that the function has made: beyond W1's heap. -/
structure WS (W1 w : World) (X : Nat) (l : Byts) (B : Nat) : Prop where
  wtr : Wtr w (fun g => W1.heap.size ≤ g) X false l
  keep : Keep (· < W1.heap.size) W1 w
  hX : W1.heap.size ≤ X
  le : l.length ≤ B
section
variable {W1 w w' : World} {X B : Nat} {l l' : Byts}
def Oty (W1 w : World) (g : Nat) : Prop := W1.heap.size ≤ g ∧ (tyOf w g = some 5 ∨ w.heap.size ≤ g)
theorem WS.toO (h : WS W1 w X l B) : Wtr w (Oty W1 w) X false l := by
  obtain ⟨v, a, b, c⟩ := h.wtr
  refine ⟨v, a, b, fun g hg => ⟨c g hg, .inl ?_⟩⟩
  rcases b.2 with ⟨rfl, _⟩ | ⟨g', cap, cur, rfl, _, hh, _⟩
  · simp [Value.ownBlock] at hg
  · simp [Value.ownBlock] at hg
    subst hg
    exact tyOf_of hh
theorem WS.new (h : WS W1 w X l B) : ∀ g, w.heap.size ≤ g → Oty W1 w g := fun g hg => ⟨Nat.le_trans h.keep.size hg, .inr hg⟩
theorem WS.step (h : WS W1 w X l B) {q : Nat} (hw : Wtr w' (Oty W1 w) X false l') (hk : Keep (fun g => ¬ Oty W1 w g ∧ g ≠ X) w w') (hq : l'.length ≤ q) :
    WS W1 w' X l' q ∧ Keep (fun g => tyOf w g ≠ some 5 ∧ g ≠ X) w w' :=
  ⟨⟨hw.mono (fun g _ h => h.1), h.keep.trans (hk.mono (fun g _ hf => ⟨fun h2 => by have := h2.1; omega, by have := h.hX; omega⟩)), h.hX, hq⟩,
    hk.mono (fun g hg hf => ⟨fun h2 => by rcases h2.2 with h2 | h2; exact hf.1 h2; omega, hf.2⟩)⟩
theorem WS.grow (h : WS W1 w X l B) (hk : Keep (fun _ => True) w w') : WS W1 w' X l B :=
  ⟨h.wtr.keep hk trivial (fun _ _ _ => trivial), h.keep.trans (hk.mono (fun _ _ _ => trivial)), h.hX, h.le⟩
theorem WS.leq (h : WS W1 w X l B) {B' : Nat} (hB : B ≤ B') (hl : l = l') : WS W1 w X l' B' := by
  subst hl
  exact ⟨h.wtr, h.keep, h.hX, Nat.le_trans h.le hB⟩
def WSPost (W1 w : World) (X : Nat) (l : Byts) (B : Nat) (w' : World) : Prop := WS W1 w' X l B ∧ Keep (fun g => tyOf w g ≠ some 5 ∧ g ≠ X) w w'
theorem ws_num (h : WS W1 w X l B) (n : Nat) (hn : n < 9223372036854775808) (hB : B ≤ 80000000) :
    Calls Try.prog 77 #[.pointer (some ⟨X, 0, none⟩), .int .i64 n] w (fun e w' => e = .returned (.pointer (some ⟨X, 0, none⟩)) ∧ WSPost W1 w X (l ++ numEnc n) (B + 20) w') :=
  (wnumber_any X n hn w _ false l h.toO h.new (by have := h.le; have := numEnc_len n hn; omega)).mono fun _ _ ⟨h1, h2, h3⟩ => ⟨h1, h.step h2 h3 (by have := h.le; have := numEnc_len n hn; simp; omega)⟩
theorem ws_list (h : WS W1 w X l B) (zs : List Int) (v : Value) (hi : Ints W1 (· < W1.heap.size) v zs) (hz : ∀ (k : Nat) (z : Int), zs[k]? = some z → 0 ≤ z ∧ z < 64) (hl : zs.length ≤ 64) (hB : B ≤ 80000000) :
    Calls Try.prog 79 #[.pointer (some ⟨X, 0, none⟩), v] w (fun e w' => (∃ r, e = .returned r) ∧ WSPost W1 w X (l ++ listEnc zs) (B + 1300) w') :=
  (wlist_any X w _ (· < W1.heap.size) false l v zs h.toO (hi.keep h.keep (fun _ _ hf _ => hf)) (fun g hg => ⟨fun h2 => by have := h2.1; omega, by have := h.hX; omega⟩) h.new hz hl (by have := h.le; omega)).mono
    fun _ _ ⟨h1, h2, h3⟩ => ⟨h1, h.step h2 h3 (by have := h.le; have := listEnc_len hz hl; simp; omega)⟩
theorem ws_key (h : WS W1 w X l B) (k : Key) (hk : keyOk k = true) (hB : B ≤ 80000000) :
    Calls Try.prog 80 #[.pointer (some ⟨X, 0, none⟩), k.val] w (fun e w' => (∃ r, e = .returned r) ∧ WSPost W1 w X (l ++ textEnc (keyEnc k)) (B + 157) w') :=
  (wkey_any X w _ false l k h.toO h.new hk (by have := h.le; omega)).mono
    fun _ _ ⟨h1, h2, h3⟩ => ⟨h1, h.step h2 h3 (by have := h.le; have := textEnc_len (keyEnc_len hk) (by omega); simp; omega)⟩
end
end Go.Proofs.Ytejfejckmhoolaa
