/- wire.NewReader and Reader.Text. -/
import Derived.Test.YtejfejckmhoolaaRdr
import Derived.Test.YtejfejckmhoolaaApp
set_option linter.unusedSimpArgs false
set_option linter.unusedVariables false
namespace Go.Proofs.Ytejfejckmhoolaa
open Go.RowKit

theorem ei_u8 : EI Try.prog 22 5 1 1 := EI.of Try.underlying22 (z := .int .u8 0) (by kernel_rfl) rfl (by decide) (by decide)
theorem bytes_one (l : Byts) : ∀ u ∈ l.map byteV, u.oneCell' = true := by
  intro u hu
  obtain ⟨c, _, rfl⟩ := List.mem_map.1 hu
  rfl

def textS (st : Option Byts) : Byts × Option Byts := rawS (numS st).1 (numS st).2

set_option maxHeartbeats 400000 in
theorem text_any (R : Nat) (w : World) (F : Nat → Prop) (st : Option Byts) (h : Rdr w F R st) :
    Calls Try.prog 101 #[.pointer (some ⟨R, 0, none⟩)] w (RawPost F R w (textS st).1 (textS st).2) := by
  unfold textS
  go_enter Try.func101, Try.ntmps101
  go_wp2_with fail
  refine (number_any R w F st h).mono ?_
  rintro e w1 ⟨rfl, hr1, hk1⟩
  generalize (numS st).1 = n at *
  generalize (numS st).2 = st1 at *
  go_wp2_with fail
  refine (raw_any R n w1 F st1 hr1).mono ?_
  rintro e w2 ⟨v, rfl, hb2, hr2, hk2, hv⟩
  go_wp2_with fail
  go_ret
  exact ⟨v, rfl, hb2, hr2, hk1.trans hk2, hv⟩

/-- What bytes.Clone gives: the same bytes, in new memory. -/
def ClonePost (w : World) (l : Byts) (e : Ending) (w' : World) : Prop :=
  ∃ v, e = .returned v ∧ Bts w' (w.heap.size ≤ ·) v l ∧ Below w.heap.size w w'
set_option maxHeartbeats 400000 in
theorem bytesClone_any {Tb : TypeId} (w : World) (F : Nat → Prop) (bv : Value) (l : Byts) (hb : Rows w F Tb 1 bv l.length (l.map byteV)) (hl : l.length ≤ 1000000) :
    Calls Try.prog 97 #[bv] w (ClonePost w l) := by
  obtain ⟨_, A, cap, rfl, hcap, _⟩ := id hb
  have hn := fun wx => Lib.run_eql_slice_nil (P := Try.prog) (w := wx)
  cases A with
  | none =>
    have hl0 : l = [] := by
      match l, hb with
      | [], _ => rfl
      | c :: l, hb =>
        obtain ⟨_, A', cap', e, _, hg⟩ := hb
        obtain ⟨g, off, cs, fr, e1, _⟩ := hg (by simp)
        injection e with e
        rw [e1] at e
        cases e
    subst hl0
    have HB := Lib.hid hb
    clear hb
    go_enter Try.func97, Try.ntmps97
    go_wp2_with fail
    go_ret
    exact ⟨_, rfl, bts_nil _ _, Below.refl _ _⟩
  | some ad =>
    have HB := Lib.hid hb
    clear hb
    go_enter Try.func97, Try.ntmps97
    go_wp2_with (at_builtin; refine wpList_append_rows rfl (.tmp 5) (.tmp 6) _ rfl ei_u8 _ 0 [] rfl (World.ownsRow_made (base := w.heap.size) _ #[] 0 (Nat.le_refl _) (by unfold maxLen; omega) rfl) _ l.length (l.map byteV) rfl (Rows.keep (HB.out) ((Keep.refl (fun _ => True) _).alloc _) (fun _ _ _ _ => trivial)) (bytes_one l) (by omega) (by simp) ?_; intro v' w' hown hgr hblk)
    go_ret
    refine ⟨v', rfl, ?_, ?_⟩
    · have := Rows.of_own hown
      simpa [Bts] using this
    · exact ((Below.refl _ _).alloc (Nat.le_refl _) _).grown hgr (by simp) (fun k hk => by injection hk with hk; simp at hk; omega)

def NewRdrPost (w : World) (l : Byts) (e : Ending) (w' : World) : Prop :=
  ∃ R, e = .returned (.pointer (some ⟨R, 0, none⟩)) ∧ Rdr w' (w.heap.size ≤ ·) R (some l) ∧ w.heap.size ≤ R ∧ Below w.heap.size w w'
set_option maxHeartbeats 400000 in
theorem newReader_any {Tb : TypeId} (w : World) (F : Nat → Prop) (bv : Value) (l : Byts) (hb : Rows w F Tb 1 bv l.length (l.map byteV)) (hl : l.length ≤ 1000000) :
    Calls Try.prog 42 #[bv] w (NewRdrPost w l) := by
  go_enter Try.func42, Try.ntmps42
  go_wp2_with fail
  refine (bytesClone_any w F bv l hb hl).mono ?_
  rintro e w1 ⟨v, rfl, hb1, hbel⟩
  have hv : ∃ A n c, v = .slice A n c := by obtain ⟨_, A, c, hv, _⟩ := hb1; exact ⟨A, _, c, hv⟩
  obtain ⟨A, n, c, rfl⟩ := hv
  go_wp2_with fail
  go_ret
  exact ⟨w1.heap.size, rfl, ⟨_, heap_alloc_new _ _, Rows.keep hb1 ((Keep.refl (fun _ => True) _).alloc _) (fun _ _ _ _ => trivial), hl⟩, hbel.size, hbel.alloc hbel.size _⟩
end Go.Proofs.Ytejfejckmhoolaa
