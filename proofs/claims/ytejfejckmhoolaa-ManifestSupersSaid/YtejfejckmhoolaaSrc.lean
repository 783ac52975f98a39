/- manifest.source: count, list, key. -/
import Derived.Test.YtejfejckmhoolaaKParse
set_option linter.unusedSimpArgs false
set_option linter.unusedVariables false
namespace Go.Proofs.Ytejfejckmhoolaa
open Go.RowKit

/-- The source in block S over the reader in block R. -/
def Src (w : World) (F : Nat → Prop) (S R : Nat) (st : Option Byts) (bad : Bool) : Prop :=
  w.heap[S]? = some (.cells #[.pointer (some ⟨R, 0, none⟩), .bool bad] 111 (0, 0)) ∧ Rdr w F R st

theorem Src.keep {w w' : World} {F G : Nat → Prop} {S R : Nat} {st : Option Byts} {bad : Bool} (h : Src w F S R st bad) (hk : Keep G w w') (hS : G S) (hR : G R) (hF : ∀ g, g < w.heap.size → F g → tyOf w g = some 5 → G g) : Src w' F S R st bad :=
  ⟨(hk.block S (heap_lt h.1) hS).trans h.1, h.2.keep hk hR hF⟩
theorem Src.alloc {w : World} {F : Nat → Prop} {S R : Nat} {st : Option Byts} {bad : Bool} (h : Src w F S R st bad) (o : Obj) : Src (w.alloc o) F S R st bad :=
  h.keep ((Keep.refl (fun _ => True) _).alloc o) trivial trivial (fun _ _ _ _ => trivial)
theorem Src.setOther {w : World} {F : Nat → Prop} {S R : Nat} {st : Option Byts} {bad : Bool} (h : Src w F S R st bad) {g : Nat} {cs : Array Value} {T : TypeId} {fr : Nat × Nat} (hg : w.heap[g]? = some (.cells cs T fr)) (h1 : T ≠ 5) (h2 : T ≠ 187) (h3 : T ≠ 111) (i : Nat) (u : Value) :
    Src (w.setCell ⟨g, i, none⟩ u) F S R st bad := by
  refine ⟨?_, h.2.setOther hg h1 h2 i u⟩
  rw [Below.heap_setCell]
  · exact h.1
  · rintro rfl
    rw [h.1] at hg
    injection hg with hg
    injection hg with _ hg
    exact h3 hg.symm
theorem Src.ne {w : World} {F : Nat → Prop} {S R : Nat} {st : Option Byts} {bad : Bool} (h : Src w F S R st bad) : S ≠ R := by
  rintro rfl
  obtain ⟨h1, h2⟩ := h
  match st, h2 with
  | none, ⟨_, _, _, _, hh, _⟩ => rw [h1] at hh; simp at hh
  | some l, ⟨_, hh, _⟩ => rw [h1] at hh; simp at hh
theorem Src.keepTy {w w' : World} {F : Nat → Prop} {S R : Nat} {st : Option Byts} {bad : Bool} {e : TypeId} (h : Src w F S R st bad) (hk : Keep (fun g => tyOf w g ≠ some e) w w') (h1 : e ≠ 5) (h2 : e ≠ 187) (h3 : e ≠ 111) : Src w' F S R st bad := by
  refine h.keep hk ?_ ?_ (fun g _ _ ht e => h1 (by rw [ht] at e; injection e with e; exact e.symm))
  · rw [tyOf_of h.1]; intro e; injection e with e; exact h3 e.symm
  · match st, h.2 with
    | none, ⟨_, _, _, _, hh, _⟩ => rw [tyOf_of hh]; intro e; injection e with e; exact h2 e.symm
    | some l, ⟨_, hh, _⟩ => rw [tyOf_of hh]; intro e; injection e with e; exact h2 e.symm
/-- A reader's call under a source. -/
theorem Src.step {w w' : World} {F : Nat → Prop} {S R : Nat} {st st' : Option Byts} {bad : Bool} (h : Src w F S R st bad) (hr : Rdr w' F R st') (hk : Keep (· ≠ R) w w') : Src w' F S R st' bad :=
  ⟨(hk.block S (heap_lt h.1) h.ne).trans h.1, hr⟩
theorem Src.setBad {w : World} {F : Nat → Prop} {S R : Nat} {st : Option Byts} {bad : Bool} (h : Src w F S R st bad) (b : Bool) : Src (w.setCell ⟨S, 1, none⟩ (.bool b)) F S R st b := by
  refine ⟨by simpa using heap_setCell_of h.1 1 (.bool b), h.2.setOther h.1 (by decide) (by decide) 1 _⟩
theorem Src.facts {w : World} {F : Nat → Prop} {S R : Nat} {st : Option Byts} {bad : Bool} (h : Src w F S R st bad) : w.cell? ⟨S, 0, none⟩ = some (.pointer (some ⟨R, 0, none⟩)) ∧ w.cell? ⟨S, 1, none⟩ = some (.bool bad) ∧ w.frozen? ⟨S, 1, none⟩ = false :=
  ⟨by simpa using cell_of_block h.1 0, by simpa using cell_of_block h.1 1, frozen_of_block h.1 1⟩

def countS (st : Option Byts) (bad : Bool) : Nat × Option Byts × Bool :=
  if 64 < (numS st).1 ∨ (numS st).2 = none then (0, (numS st).2, true) else ((numS st).1, (numS st).2, bad)
def SrcPost (F : Nat → Prop) (S R : Nat) (w : World) (v : Value) (st : Option Byts) (bad : Bool) (e : Ending) (w' : World) : Prop :=
  e = .returned v ∧ Src w' F S R st bad ∧ Keep (fun g => g ≠ R ∧ g ≠ S) w w'

theorem keep_RS {w w' : World} {S R : Nat} (h : Keep (· ≠ R) w w') : Keep (fun g => g ≠ R ∧ g ≠ S) w w' := h.mono (fun _ _ hf => hf.1)

theorem count_le (st : Option Byts) (bad : Bool) : (countS st bad).1 ≤ 64 := by
  unfold countS
  split
  · simp
  · rename_i h
    simp only
    omega

set_option maxHeartbeats 400000 in
theorem count_any (w : World) (F : Nat → Prop) (S R : Nat) (st : Option Byts) (bad : Bool) (h : Src w F S R st bad) :
    Calls Try.prog 45 #[.pointer (some ⟨S, 0, none⟩)] w (SrcPost F S R w (.int .i64 (countS st bad).1) (countS st bad).2.1 (countS st bad).2.2) := by
  obtain ⟨c0, c1, f1⟩ := h.facts
  have H := Lib.hid h
  have hn := number_any R w F st h.2
  have HN := Lib.hid hn
  clear hn h
  obtain ⟨n, hn⟩ : ∃ n, Hid (n = (numS st).1) := ⟨_, rfl⟩
  obtain ⟨st1, hst⟩ : ∃ st1, Hid (st1 = (numS st).2) := ⟨_, rfl⟩
  have HNn := HN.out
  rw [← hn.out, ← hst.out] at HNn
  have hc : countS st bad = if 64 < n ∨ st1 = none then (0, st1, true) else (n, st1, bad) := by unfold countS; rw [← hn.out, ← hst.out]
  have HC := Lib.hid hc
  have HNN := Lib.hid HNn
  clear HN hc HNn hn hst
  by_cases h64 : 64 < n
  · have h64' : 64 < (n : Int) := by omega
    go_enter Try.func45, Try.ntmps45
    go_wp2_with fail
    refine (HNN.out).mono ?_
    rintro e w1 ⟨rfl, hr1, hk1⟩
    have H1 := Lib.hid (H.out.step hr1 hk1)
    obtain ⟨d0, d1, g1⟩ := H1.out.facts
    go_wp2_with fail
    go_ret
    have hc := HC.out
    rw [if_pos (.inl h64)] at hc
    rw [hc]
    exact ⟨rfl, H1.out.setBad true, (keep_RS hk1).setCell (a := ⟨S, 1, none⟩) (fun _ hf => hf.2 rfl) _⟩
  · have h64' : ¬ 64 < (n : Int) := by omega
    cases st1 with
    | none =>
      go_enter Try.func45, Try.ntmps45
      go_wp2_with fail
      refine (HNN.out).mono ?_
      rintro e w1 ⟨rfl, hr1, hk1⟩
      have H1 := Lib.hid (H.out.step hr1 hk1)
      obtain ⟨d0, d1, g1⟩ := H1.out.facts
      have hbd := bad_any R w1 F none hr1
      go_wp2_with fail
      refine hbd.mono ?_
      rintro e w2 ⟨rfl, rfl⟩
      go_wp2_with fail
      go_ret
      have hc := HC.out
      rw [if_pos (by simp)] at hc
      rw [hc]
      exact ⟨rfl, H1.out.setBad true, (keep_RS hk1).setCell (a := ⟨S, 1, none⟩) (fun _ hf => hf.2 rfl) _⟩
    | some l =>
      go_enter Try.func45, Try.ntmps45
      go_wp2_with fail
      refine (HNN.out).mono ?_
      rintro e w1 ⟨rfl, hr1, hk1⟩
      have H1 := Lib.hid (H.out.step hr1 hk1)
      obtain ⟨d0, d1, g1⟩ := H1.out.facts
      have hbd := bad_any R w1 F (some l) hr1
      go_wp2_with fail
      refine hbd.mono ?_
      rintro e w2 ⟨rfl, rfl⟩
      go_wp2_with fail
      go_ret
      have hc := HC.out
      rw [if_neg (by simp; omega)] at hc
      rw [hc]
      exact ⟨rfl, H1.out, keep_RS hk1⟩

theorem ei_int : EI Try.prog 24 3 1 8 := EI.of Try.underlying24 (z := .int .i64 0) (by kernel_rfl) rfl (by decide) (by decide)

/-- n numbers. -/
def numsGo : Nat → Option Byts → List Int × Option Byts
  | 0, st => ([], st)
  | k + 1, st => (((numS st).1 : Int) :: (numsGo k (numS st).2).1, (numsGo k (numS st).2).2)
def listS (st : Option Byts) (bad : Bool) : List Int × Option Byts × Bool :=
  ((numsGo (countS st bad).1 (countS st bad).2.1).1, (numsGo (countS st bad).1 (countS st bad).2.1).2, (countS st bad).2.2)

def SrcListPost (F : Nat → Prop) (S R : Nat) (w : World) (zs : List Int) (st : Option Byts) (bad : Bool) (e : Ending) (w' : World) : Prop :=
  ∃ v, e = .returned v ∧ w'.ownsRow w.heap.size 3 1 v zs.length (zs.map (Value.int .i64)) ∧ Src w' F S R st bad ∧ Keep (fun g => g ≠ R ∧ g ≠ S) w w'

theorem own_ne_of_ty {w : World} {O : Nat → Prop} {e size n g : Nat} {v : Value} {xs : List Value} {cs : Array Value} {t : TypeId} {fr : Nat × Nat} (h : OwnIn w O e size v n xs) (hg : w.heap[g]? = some (.cells cs t fr)) (hne : e ≠ t) : v.ownBlock ≠ some g := by
  rcases h.1.2 with ⟨rfl, _⟩ | ⟨g', cap, cur, rfl, _, hh, _⟩
  · simp [Value.ownBlock]
  · intro he
    injection he with he
    simp only at he
    subst he
    rw [hh] at hg
    injection hg with hg
    injection hg with _ hg
    exact hne hg

theorem Keep.append {F : Nat → Prop} {w w1 w2 : World} (h : Keep F w w1) (hk : Keep (fun g => ¬ w.heap.size ≤ g) w1 w2) : Keep F w w2 :=
  ⟨hk.os.trans h.os, hk.tape.trans h.tape, hk.output.trans h.output, Nat.le_trans h.size hk.size, fun g hg hf => (hk.block g (Nat.lt_of_lt_of_le hg h.size) (by omega)).trans (h.block g hg hf)⟩
set_option maxRecDepth 100000 in
set_option maxHeartbeats 1000000 in
theorem slist_any (w : World) (F : Nat → Prop) (S R : Nat) (st : Option Byts) (bad : Bool) (h : Src w F S R st bad) :
    Calls Try.prog 44 #[.pointer (some ⟨S, 0, none⟩)] w (SrcListPost F S R w (listS st bad).1 (listS st bad).2.1 (listS st bad).2.2) := by
  have hc := count_any w F S R st bad h
  have hle := count_le st bad
  unfold listS
  generalize (countS st bad).1 = n at *
  generalize (countS st bad).2.1 = st1 at *
  generalize (countS st bad).2.2 = bad1 at *
  have hSR := h.ne
  have hRlt := h.2.lt
  have hSlt := heap_lt h.1
  have HC := Lib.hid hc
  clear hc h
  go_enter Try.func44, Try.ntmps44
  go_wp2_with fail
  refine (HC.out).mono ?_
  rintro e w1 ⟨rfl, hs1, hk1⟩
  have hsz1 := hk1.size
  go_wp2_with fail
  go_loopw [3, 6] (fun o i wr => ∃ (k : Nat) (acc : List Int) (st2 : Option Byts), i = .int .i64 k ∧ k ≤ n ∧ acc.length = k ∧ OwnIn wr (w1.heap.size ≤ ·) 3 1 o k (acc.map (Value.int .i64)) ∧ Src wr F S R st2 bad1 ∧ Keep (fun g => g ≠ R ∧ g ≠ S) w1 wr ∧ Hid (numsGo n st1 = (acc ++ (numsGo (n - k) st2).1, (numsGo (n - k) st2).2))) (fun _ i _ => n - (intOf i).toNat)
  case atStart => exact ⟨0, [], st1, rfl, by omega, rfl, OwnIn.nil _ _ _ _, hs1, Keep.refl _ _, rfl⟩
  case round =>
    obtain ⟨k, acc, st2, rfl, hk, hacc, hown, hs, hkp, HE⟩ := hrel
    obtain ⟨A0, c0, rfl⟩ := hown.form
    have HO := Lib.hid hown
    have HA := Lib.hid hacc
    clear hown hacc
    have hsz := hkp.size
    by_cases hlt : k < n
    · obtain ⟨d0, d1, g1⟩ := hs.facts
      have hn := number_any R wr F st2 hs.2
      have HS := Lib.hid hs
      have HN := Lib.hid hn
      clear hs hn
      go_wp2_with fail
      refine (HN.out).mono ?_
      rintro e w2 ⟨rfl, hr2, hk2⟩
      have he := HE.out
      rw [show n - k = (n - (k + 1)) + 1 by omega, numsGo] at he
      generalize (numS st2).1 = m at *
      generalize (numS st2).2 = st3 at *
      have HE2 := Lib.hid he
      clear he HE
      have HS2 := Lib.hid (HS.out.step hr2 hk2)
      have hRw : R < wr.heap.size := by omega
      have HO2 := Lib.hid (HO.out.keep hk2 (fun g hg hf => by
        rintro rfl
        have := hf
        omega))
      have hsz2 := hk2.size
      have hn64 := hle
      have HK2 := Lib.hid (hkp.trans (keep_RS (S := S) hk2))
      clear hk2 HO HS
      go_wp2_with (at_builtin; refine wpList_append_lit rfl (.tmp 8) (.tmp 14) _ rfl ei_int (.slice A0 k c0) (k) _ rfl (HO2.out.1) [.int .i64 (m : Int)] 1 1 rfl (by omega) rfl (by simp [Value.oneCell', byteV]) (by omega) (by omega) ?_; intro v3 w3 hown3 hg3 hb3)
      obtain ⟨ho3, hk3⟩ := HO2.out.step (fun g hg => by omega) hown3 hg3 (hb3.imp id fun e => ⟨_, e, by omega⟩)
      refine ⟨⟨k + 1, acc ++ [(m : Int)], st3, by simp, by omega, by simp [HA.out], by simpa using ho3, HS2.out.keepTy (HO2.out.keepTy hg3) (by decide) (by decide) (by decide), ?_, ?_⟩, by simp [intOf]; omega⟩
      · exact HK2.out.append hk3
      · unfold Hid
        rw [HE2.out]
        simp
    · have hkn : k = n := by omega
      have he := HE.out
      rw [show n - k = 0 by omega, numsGo] at he
      have HE2 := Lib.hid he
      clear he HE hkn
      go_wp2_with fail
      go_ret
      rw [HE2.out]
      refine ⟨_, rfl, ?_, hs, hk1.trans hkp⟩
      have := HO.out.to_own (base := w.heap.size) (fun g hg => by omega)
      simpa [HA.out] using this
end Go.Proofs.Ytejfejckmhoolaa
