/- The contracts of wire.Reader: what each call returns and leaves, by the pure reader `St` (none: bad). -/
import Derived.Test.YtejfejckmhoolaaProg
import Derived.Test.YtejfejckmhoolaaBase
import Derived.Test.YtejfejckmhoolaaOps
import Derived.Test.YtejfejckmhoolaaConv
import Derived.WalkSpells
import Derived.WalkLawsBesides
import Derived.Deep.QuietTactic
import Derived.BigQuiet
set_option linter.unusedSimpArgs false
set_option linter.unusedVariables false
namespace Go.Proofs.Ytejfejckmhoolaa
open Go.RowKit

def Bts (w : World) (F : Nat → Prop) (v : Value) (l : Byts) : Prop := Rows w F 5 1 v l.length (l.map byteV)

/-- The reader in block R: its bytes are in blocks of F; none: it is bad. -/
def Rdr (w : World) (F : Nat → Prop) (R : Nat) : Option Byts → Prop
  | some l => ∃ v, w.heap[R]? = some (.cells #[v, .bool false] 187 (0, 0)) ∧ Bts w F v l ∧ l.length ≤ 1000000
  | none => ∃ v A n cap, w.heap[R]? = some (.cells #[v, .bool true] 187 (0, 0)) ∧ v = .slice A n cap

theorem cell_of_block {w : World} {g : Nat} {cs : Array Value} {t : TypeId} {fr : Nat × Nat} (h : w.heap[g]? = some (.cells cs t fr)) (i : Nat) : w.cell? ⟨g, i, none⟩ = cs[i]? := by
  simp [World.cell?, h]
theorem frozen_of_block {w : World} {g : Nat} {cs : Array Value} {t : TypeId} (h : w.heap[g]? = some (.cells cs t (0, 0))) (i : Nat) : w.frozen? ⟨g, i, none⟩ = false := by
  simp [World.frozen?, h]
theorem heap_setCell_at {w : World} {g : Nat} {cs : Array Value} {t : TypeId} {fr : Nat × Nat} (h : w.heap[g]? = some (.cells cs t fr)) (i : Nat) (v : Value) :
    (w.setCell ⟨g, i, none⟩ v).heap[g]? = some (.cells (cs.setIfInBounds i v) t fr) := by
  simp [World.setCell, Array.getElem?_modify, h]

theorem Rdr.lt {w : World} {F : Nat → Prop} {R : Nat} {st : Option Byts} (h : Rdr w F R st) : R < w.heap.size := by
  match st, h with
  | none, ⟨_, _, _, _, hh, _⟩ => exact heap_lt hh
  | some l, ⟨_, hh, _⟩ => exact heap_lt hh
theorem Rdr.keep {w w' : World} {F G : Nat → Prop} {R : Nat} {st : Option Byts} (h : Rdr w F R st) (hk : Keep G w w') (hR : G R) (hF : ∀ g, g < w.heap.size → F g → tyOf w g = some 5 → G g) : Rdr w' F R st := by
  match st, h with
  | none, ⟨v, A, n, c, hh, hv⟩ => exact ⟨v, A, n, c, (hk.block R (heap_lt hh) hR).trans hh, hv⟩
  | some l, ⟨v, hh, hb, hl⟩ => exact ⟨v, (hk.block R (heap_lt hh) hR).trans hh, Rows.keep hb hk hF, hl⟩
theorem Rdr.alloc {w : World} {F : Nat → Prop} {R : Nat} {st : Option Byts} (h : Rdr w F R st) (o : Obj) : Rdr (w.alloc o) F R st :=
  h.keep ((Keep.refl (fun _ => True) _).alloc o) trivial (fun _ _ _ _ => trivial)
theorem Rdr.drew {w : World} {F : Nat → Prop} {R : Nat} {st : Option Byts} (h : Rdr w F R st) : Rdr w.drew F R st := by
  match st, h with
  | none, h => exact h
  | some l, h => exact h
/-- A store into a block of another type. -/
theorem Rdr.setOther {w : World} {F : Nat → Prop} {R : Nat} {st : Option Byts} (h : Rdr w F R st) {g : Nat} {cs : Array Value} {T : TypeId} {fr : Nat × Nat} (hg : w.heap[g]? = some (.cells cs T fr)) (h1 : T ≠ 5) (h2 : T ≠ 187) (i : Nat) (u : Value) :
    Rdr (w.setCell ⟨g, i, none⟩ u) F R st := by
  have hne : R ≠ g := by
    rintro rfl
    match st, h with
    | none, ⟨v, A, n, c, hh, hv⟩ => rw [hh] at hg; injection hg with hg; injection hg with _ hg; exact h2 hg.symm
    | some l, ⟨v, hh, _⟩ => rw [hh] at hg; injection hg with hg; injection hg with _ hg; exact h2 hg.symm
  refine h.keep (G := (· ≠ g)) ((Keep.refl _ _).setCell (fun _ hf => hf rfl) u) hne (fun k _ _ ht e => ?_)
  subst e
  simp [tyOf, World.shape?, hg] at ht
  exact h1 ht
/-- The pure reader. -/
def rawS (n : Int) : Option Byts → Byts × Option Byts
  | none => ([], none)
  | some l => if n < 0 ∨ (l.length : Int) < n then ([], none) else (l.take n.toNat, some (l.drop n.toNat))
def byteS : Option Byts → UInt8 × Option Byts
  | none => (0, none)
  | some [] => (0, none)
  | some (c :: l) => (c, some l)

theorem byteV_ne (g R : Nat) {w : World} {cs : Array Value} (h : w.heap[R]? = some (.cells cs 187 (0, 0))) (hg : tyOf w g = some 5) : g ≠ R := by
  rintro rfl
  simp [tyOf, World.shape?, h] at hg
theorem Bts.keepR {w w' : World} {F : Nat → Prop} {R : Nat} {v : Value} {l : Byts} {cs : Array Value} (h : Bts w F v l) (hR : w.heap[R]? = some (.cells cs 187 (0, 0)))
    (hk : Keep (· ≠ R) w w') : Bts w' F v l := Rows.keep h hk fun g _ _ ht => byteV_ne g R hR ht

theorem Bts.take {w : World} {F : Nat → Prop} {A : Option Addr} {cap n : Nat} {l : Byts} (h : Bts w F (.slice A n cap) l) {m c : Nat} (hm : m ≤ l.length) (hc : m ≤ c) : Bts w F (.slice A m c) (l.take m) := by
  have hl : n = l.length := by obtain ⟨_, A', cap', e, _⟩ := h; injection e
  subst hl
  have h1 := Rows.take h hm hc
  unfold Bts
  rw [List.length_take, Nat.min_eq_left hm, List.map_take]
  simpa using h1
theorem Bts.drop {w : World} {F : Nat → Prop} {A : Option Addr} {cap n : Nat} {l : Byts} (h : Bts w F (.slice A n cap) l) {m : Nat} (hm : m ≤ l.length) :
    Bts w F (.slice (if cap = m then A else A.map (·.add m)) (n - m) (cap - m)) (l.drop m) := by
  have hl : n = l.length := by obtain ⟨_, A', cap', e, _⟩ := h; injection e
  subst hl
  have h1 := Rows.drop h hm
  unfold Bts
  rw [List.length_drop, List.map_drop]
  simpa using h1
/-- What Raw returns and leaves. -/
def RawPost (F : Nat → Prop) (R : Nat) (w : World) (b : Byts) (st : Option Byts) (e : Ending) (w' : World) : Prop :=
  ∃ v, e = .returned v ∧ Bts w' F v b ∧ Rdr w' F R st ∧ Keep (· ≠ R) w w' ∧ (st = none → v = .slice none 0 0)

theorem bts_nil (w : World) (F : Nat → Prop) : Bts w F (.slice none 0 0) [] := Rows.nil _ _ _ _ _ _

set_option maxHeartbeats 400000 in
theorem raw_any (R : Nat) (n : Int) (w : World) (F : Nat → Prop) (st : Option Byts) (h : Rdr w F R st) :
    Calls Try.prog 126 #[.pointer (some ⟨R, 0, none⟩), .int .i64 n] w (RawPost F R w (rawS n st).1 (rawS n st).2) := by
  match st with
  | none =>
    obtain ⟨v, A, m, cap, hh, rfl⟩ := h
    have h0 := cell_of_block hh 0
    have h1 := cell_of_block hh 1
    have f1 := frozen_of_block hh 1
    simp at h0 h1
    have HH := Lib.hid hh
    clear hh
    go_enter Try.func126, Try.ntmps126
    go_wp2
    go_ret
    exact ⟨_, rfl, bts_nil _ _, ⟨_, _, _, _, heap_setCell_at HH.out 1 _, rfl⟩, (Keep.refl _ _).setCell (fun _ h => h rfl) _, fun _ => rfl⟩
  | some l =>
    obtain ⟨v, hh, hb, hlen⟩ := h
    obtain ⟨_, A, cap, rfl, hcap, _⟩ := id hb
    have h0 := cell_of_block hh 0
    have h1 := cell_of_block hh 1
    have f0 := frozen_of_block hh 0
    have f1 := frozen_of_block hh 1
    simp at h0 h1
    have HH := Lib.hid hh
    clear hh
    by_cases hn : n < 0 ∨ (l.length : Int) < n
    · have hr : rawS n (some l) = ([], none) := by simp [rawS, hn]
      rw [hr]
      have Hr := Lib.hid hr
      clear hr
      by_cases hn0 : n < 0
      · have hd : decide (n < 0) = true := by simpa using hn0
        go_enter Try.func126, Try.ntmps126
        go_wp2
        go_ret
        exact ⟨_, rfl, bts_nil _ _, ⟨_, _, _, _, heap_setCell_at HH.out 1 _, rfl⟩, (Keep.refl _ _).setCell (fun _ h => h rfl) _, fun _ => rfl⟩
      · have hn1 : (l.length : Int) < n := by omega
        have hd : decide (n < 0) = false := by simpa using hn0
        have hd2 : decide ((l.length : Int) < n) = true := by simpa using hn1
        go_enter Try.func126, Try.ntmps126
        go_wp2
        go_ret
        exact ⟨_, rfl, bts_nil _ _, ⟨_, _, _, _, heap_setCell_at HH.out 1 _, rfl⟩, (Keep.refl _ _).setCell (fun _ h => h rfl) _, fun _ => rfl⟩
    · obtain ⟨m, rfl⟩ : ∃ m : Nat, n = m := ⟨n.toNat, by omega⟩
      have hm : m ≤ l.length := by omega
      have hr : rawS (m : Int) (some l) = (l.take m, some (l.drop m)) := by simp [rawS, hm]
      rw [hr]
      have Hr := Lib.hid hr
      clear hr
      have hd : decide ((m : Int) < 0) = false := decide_eq_false (by omega)
      have hd2 : decide ((l.length : Int) < m) = false := decide_eq_false (by omega)
      have HB : Hid (Bts w F (.slice A l.length cap) l) := hb
      clear hb
      clear hn
      go_enter Try.func126, Try.ntmps126
      go_wp2
      · have hc : cap = m := by assumption
        go_ret
        have hd := (HB.out).drop hm
        rw [if_pos hc, hc, Nat.sub_self] at hd
        refine ⟨_, rfl, ((HB.out).take hm (Nat.le_refl _)).keepR HH.out ((Keep.refl _ _).setCell (fun _ h => h rfl) _), ⟨_, heap_setCell_at HH.out 0 _, hd.keepR HH.out ((Keep.refl _ _).setCell (fun _ h => h rfl) _), by simp; omega⟩, (Keep.refl _ _).setCell (fun _ h => h rfl) _, by simp⟩
      · have hc : ¬ cap = m := by assumption
        go_ret
        have hd := (HB.out).drop hm
        rw [if_neg hc] at hd
        exact ⟨_, rfl, ((HB.out).take hm (Nat.le_refl _)).keepR HH.out ((Keep.refl _ _).setCell (fun _ h => h rfl) _), ⟨_, heap_setCell_at HH.out 0 _, hd.keepR HH.out ((Keep.refl _ _).setCell (fun _ h => h rfl) _), by simp; omega⟩, (Keep.refl _ _).setCell (fun _ h => h rfl) _, by simp⟩
/-- A byte slice with elements: where its bytes lie. -/
theorem Bts.cells {w : World} {F : Nat → Prop} {v : Value} {l : Byts} (h : Bts w F v l) (hl : l ≠ []) : ∃ g off cap, v = .slice (some ⟨g, off, none⟩) l.length cap ∧ l.length ≤ cap ∧ F g ∧ g < w.heap.size ∧
    ∀ i c, l[i]? = some c → w.cell? ⟨g, off + i, none⟩ = some (byteV c) := by
  have h0 : 0 < l.length := List.length_pos_iff.2 hl
  obtain ⟨g, off, cap, e1, e2, e3, e4, e5⟩ := Rows.at_ h (j := 0) (by omega)
  exact ⟨g, off, cap, e1, e2, e3, e4, fun i c hc => e5 i _ (by simp [hc])⟩

def BytePost (F : Nat → Prop) (R : Nat) (w : World) (c : UInt8) (st : Option Byts) (e : Ending) (w' : World) : Prop :=
  e = .returned (byteV c) ∧ Rdr w' F R st ∧ Keep (· ≠ R) w w'

set_option maxHeartbeats 400000 in
theorem byte_any (R : Nat) (w : World) (F : Nat → Prop) (st : Option Byts) (h : Rdr w F R st) :
    Calls Try.prog 98 #[.pointer (some ⟨R, 0, none⟩)] w (BytePost F R w (byteS st).1 (byteS st).2) := by
  have hc := raw_any R 1 w F st h
  by_cases hs : ∃ c l, st = some (c :: l)
  · obtain ⟨c, l, rfl⟩ := hs
    have e1 : rawS 1 (some (c :: l)) = ([c], some l) := by simp [rawS]; omega
    rw [e1] at hc
    have e2 : byteS (some (c :: l)) = (c, some l) := rfl
    rw [e2]
    have HC := Lib.hid hc
    clear hc e1 e2 h
    go_enter Try.func98, Try.ntmps98
    go_wp2_with fail
    refine (HC.out).mono ?_
    rintro e w1 ⟨v, rfl, hb, hr, hk, -⟩
    obtain ⟨g, off, cap, rfl, hcap, hF, hg, hcell⟩ := hb.cells (by simp)
    have h0 : w1.cell? ⟨g, off, none⟩ = some (byteV c) := hcell 0 c rfl
    have hn := fun wx => Lib.run_eql_slice_nil (P := Try.prog) (w := wx)
    clear hcell hb
    go_wp2
    go_ret
    exact ⟨rfl, hr, hk⟩
  · have e1 : rawS 1 st = ([], none) := by
      match st, hs with
      | none, _ => rfl
      | some [], _ => simp [rawS]
      | some (c :: l), hs => exact absurd ⟨c, l, rfl⟩ hs
    rw [e1] at hc
    have e2 : byteS st = (0, none) := by
      match st, hs with
      | none, _ => rfl
      | some [], _ => rfl
      | some (c :: l), hs => exact absurd ⟨c, l, rfl⟩ hs
    rw [e2]
    have HC := Lib.hid hc
    clear hc e1 e2 h hs
    go_enter Try.func98, Try.ntmps98
    go_wp2_with fail
    refine (HC.out).mono ?_
    rintro e w1 ⟨v, rfl, hb, hr, hk, hv⟩
    obtain rfl := hv rfl
    have hn := fun wx => Lib.run_eql_slice_nil (P := Try.prog) (w := wx)
    clear hb hv
    go_wp2
    go_ret
    exact ⟨rfl, hr, hk⟩

def BadPost (w : World) (b : Bool) (e : Ending) (w' : World) : Prop := e = .returned (.bool b) ∧ w = w'
def BoolSame (w : World) (b : Bool) (e : Ending) (w' : World) : Prop := e = .returned (.bool b) ∧ w = w'
theorem bad_any (R : Nat) (w : World) (F : Nat → Prop) (st : Option Byts) (h : Rdr w F R st) :
    Calls Try.prog 99 #[.pointer (some ⟨R, 0, none⟩)] w (BadPost w st.isNone) := by
  obtain ⟨v, hh⟩ : ∃ v, w.heap[R]? = some (.cells #[v, .bool st.isNone] 187 (0, 0)) := by
    match st, h with
    | none, ⟨v, _, _, _, hh, _⟩ => exact ⟨v, hh⟩
    | some l, ⟨v, hh, _⟩ => exact ⟨v, hh⟩
  have h1 := cell_of_block hh 1
  simp at h1
  clear hh h
  go_enter Try.func99, Try.ntmps99
  go_wp2
  go_ret
  exact ⟨rfl, rfl⟩

/-- Done: nothing is left, and nothing was bad. -/
def doneS : Option Byts → Int
  | some [] => 0
  | _ => 20
def IntPost (w : World) (n : Int) (e : Ending) (w' : World) : Prop := e = .returned (.int .i64 n) ∧ w = w'
theorem done_any (R : Nat) (w : World) (F : Nat → Prop) (st : Option Byts) (h : Rdr w F R st) :
    Calls Try.prog 47 #[.pointer (some ⟨R, 0, none⟩)] w (IntPost w (doneS st)) := by
  match st, h with
  | none, ⟨v, A, n, cap, hh, hv⟩ =>
    have h1 := cell_of_block hh 1
    simp at h1
    clear hh hv
    go_enter Try.func47, Try.ntmps47
    go_wp2
    go_ret
    exact ⟨rfl, rfl⟩
  | some l, ⟨v, hh, hb, hl⟩ =>
    obtain ⟨_, A, cap, rfl, hcap, _⟩ := id hb
    have h1 := cell_of_block hh 1
    have h0 := cell_of_block hh 0
    simp at h1 h0
    clear hh hb
    match l, hl with
    | [], _ =>
      go_enter Try.func47, Try.ntmps47
      go_wp2
      go_ret
      exact ⟨rfl, rfl⟩
    | c :: l, hl =>
      have hpos : 0 < (c :: l).length := by simp
      generalize hm : (c :: l).length = m at *
      have Hm := Lib.hid hm
      clear hm
      go_enter Try.func47, Try.ntmps47
      go_wp2
      go_ret
      exact ⟨rfl, rfl⟩

/-! ### Number -/
/-- The rounds of Number from round i on, with what has been read so far. -/
def numGo : Nat → Nat → Nat → Option Byts → Nat × Option Byts
  | 0, _, _, _ => (0, none)
  | k + 1, i, n, st =>
    match (byteS st).2 with
    | none => (0, none)
    | some l =>
      if (byteS st).1.toNat < 128 then (if (byteS st).1.toNat = 0 ∧ 0 < i then (0, none) else ((byteS st).1.toNat % 128 * 2 ^ (7 * i) + n, some l))
      else numGo k (i + 1) ((byteS st).1.toNat % 128 * 2 ^ (7 * i) + n) (some l)
def numS (st : Option Byts) : Nat × Option Byts := numGo 9 0 0 st

def NumPost (F : Nat → Prop) (R : Nat) (w : World) (n : Nat) (st : Option Byts) (e : Ending) (w' : World) : Prop :=
  e = .returned (.int .i64 n) ∧ Rdr w' F R st ∧ Keep (· ≠ R) w w'

theorem Rdr.cell1 {w : World} {F : Nat → Prop} {R : Nat} {st : Option Byts} (h : Rdr w F R st) : w.cell? ⟨R, 1, none⟩ = some (.bool st.isNone) ∧ w.frozen? ⟨R, 1, none⟩ = false := by
  match st, h with
  | none, ⟨v, _, _, _, hh, _⟩ => exact ⟨by simpa using cell_of_block hh 1, frozen_of_block hh 1⟩
  | some l, ⟨v, hh, _⟩ => exact ⟨by simpa using cell_of_block hh 1, frozen_of_block hh 1⟩
/-- The reader is set bad. -/
theorem Rdr.setBad {w : World} {F : Nat → Prop} {R : Nat} {st : Option Byts} (h : Rdr w F R st) : Rdr (w.setCell ⟨R, 1, none⟩ (.bool true)) F R none := by
  match st, h with
  | none, ⟨v, A, n, cap, hh, hv⟩ => exact ⟨v, A, n, cap, heap_setCell_at hh 1 _, hv⟩
  | some l, ⟨v, hh, ⟨_, A, cap, hv, _⟩, _⟩ => exact ⟨v, A, _, cap, heap_setCell_at hh 1 _, hv⟩

theorem num_pow (c k m : Nat) (hc : c < 128) (hk : k < 9) (hm : m < 2 ^ (7 * k)) : c * 2 ^ (7 * k) + m < 2 ^ (7 * (k + 1)) ∧ 2 ^ (7 * (k + 1)) ≤ 9223372036854775808 := by
  have h1 : 2 ^ (7 * (k + 1)) = 128 * 2 ^ (7 * k) := by rw [Nat.mul_add, Nat.pow_add]; omega
  have h2 : c * 2 ^ (7 * k) ≤ 127 * 2 ^ (7 * k) := Nat.mul_le_mul_right _ (by omega)
  refine ⟨by omega, ?_⟩
  exact Nat.pow_le_pow_right (by omega) (show 7 * (k + 1) ≤ 63 by omega)

set_option maxRecDepth 100000 in
set_option maxHeartbeats 1000000 in
theorem number_any (R : Nat) (w : World) (F : Nat → Prop) (st : Option Byts) (h : Rdr w F R st) :
    Calls Try.prog 43 #[.pointer (some ⟨R, 0, none⟩)] w (NumPost F R w (numS st).1 (numS st).2) := by
  go_enter Try.func43, Try.ntmps43
  go_wp2_with fail
  go_loopw [3, 6] (fun n i wr => ∃ (k m : Nat) (st' : Option Byts), k ≤ 9 ∧ i = .int .i64 k ∧ n = .int .i64 m ∧ Hid (m < 2 ^ (7 * k)) ∧ Rdr wr F R st' ∧ Keep (· ≠ R) w wr ∧ Hid (numS st = numGo (9 - k) k m st')) (fun _ i _ => 9 - (intOf i).toNat)
  case atStart => exact ⟨0, 0, st, by omega, rfl, rfl, by unfold Hid; omega, h, Keep.refl _ _, rfl⟩
  case round =>
    obtain ⟨k, m, st', hk, rfl, rfl, HM, hr, hkeep, HN⟩ := hrel
    by_cases hk9 : k < 9
    · go_wp2_with fail
      refine (byte_any R wr F st' hr).mono ?_
      rintro e w1 ⟨rfl, hr1, hk1⟩
      obtain ⟨hc1, hf1⟩ := hr1.cell1
      have hcont := HN.out
      rw [show 9 - k = (9 - (k + 1)) + 1 by omega, numGo] at hcont
      generalize hch : (byteS st').1 = ch at *
      generalize hst : (byteS st').2 = st2 at *
      clear HN hch hst
      have HC := Lib.hid hcont
      clear hcont
      have hq : ch.toNat < 256 := by have := ch.toNat_lt; omega
      obtain ⟨q, hq2⟩ : ∃ q, Hid (q = ch.toNat) := ⟨_, rfl⟩
      have hqv : byteV ch = .int .u8 (q : Int) := by rw [hq2.out]; rfl
      rw [hqv]
      rw [← hq2.out] at hq HC
      obtain ⟨c7, hc7⟩ : ∃ c7, Hid (c7 = q % 128) := ⟨_, rfl⟩
      have hand : bits .and .u8 (q : Int) 127 = (c7 : Int) := by rw [bits_u8_and127 q hq, ← hc7.out]
      rw [← hc7.out] at HC
      have hc7b : c7 < 128 := by have := hc7.out; omega
      obtain ⟨s, hs0⟩ : ∃ s, Hid (s = c7 * 2 ^ (7 * k)) := ⟨_, rfl⟩
      obtain ⟨m2, hm2⟩ : ∃ m2, Hid (m2 = c7 * 2 ^ (7 * k) + m) := ⟨_, rfl⟩
      have hp := num_pow c7 k m hc7b hk9 HM.out
      rw [← hm2.out] at hp
      have hsb : m2 < 9223372036854775808 := by omega
      have hs : wrap64 ((c7 : Int) * 2 ^ (7 * k)) = (s : Int) := by
        have e : ((c7 : Int) * 2 ^ (7 * k)) = ((c7 * 2 ^ (7 * k) : Nat) : Int) := by simp
        rw [e, ← hs0.out]
        exact IntWalk.wrap64_in _ ⟨by omega, by have := hs0.out; have := hm2.out; omega⟩
      have ho : bits .or .i64 (m : Int) (s : Int) = (m2 : Int) := by
        have := run_or_i64 (P := Try.prog) (t := 3) m c7 (7 * k) HM.out (by have := hm2.out; omega) w
        rw [← hm2.out, ← hs0.out] at this
        injection this with h1 h2
        injection h1
      clear hsb
      obtain ⟨Hp1, Hp2⟩ := hp
      have HP := Lib.hid Hp1
      clear Hp1 Hp2 hqv
      rw [← hm2.out] at HC
      cases st2 with
      | none =>
        simp at hc1
        go_wp2_with fail
        go_ret
        exact ⟨by rw [HC.out]; rfl, by rw [HC.out]; exact hr1, hkeep.trans hk1⟩
      | some l =>
        simp at hc1
        go_wp2_with fail
        · have e1 : q = 0 := by assumption
          have e2 : 0 < k := by assumption
          have e3 : (q : Int) < 128 := by assumption
          go_ret
          have HC' := HC.out
          rw [if_pos (by omega), if_pos ⟨e1, e2⟩] at HC'
          exact ⟨by rw [HC']; rfl, by rw [HC']; exact hr1.setBad, (hkeep.trans hk1).setCell (fun _ h => h rfl) _⟩
        · have e2 : ¬ 0 < k := by assumption
          have e3 : (q : Int) < 128 := by assumption
          go_ret
          have HC' := HC.out
          rw [if_pos (by omega), if_neg (fun hh => e2 hh.2)] at HC'
          exact ⟨by rw [HC']; rfl, by rw [HC']; exact hr1, hkeep.trans hk1⟩
        · have e2 : ¬ q = 0 := by assumption
          have e3 : (q : Int) < 128 := by assumption
          go_ret
          have HC' := HC.out
          rw [if_pos (by omega), if_neg (fun hh => e2 hh.1)] at HC'
          exact ⟨by rw [HC']; rfl, by rw [HC']; exact hr1, hkeep.trans hk1⟩
        · have e3 : 128 ≤ (q : Int) := by assumption
          have HC' := HC.out
          rw [if_neg (by omega)] at HC'
          exact ⟨⟨k + 1, m2, some l, by omega, by simp, rfl, HP, hr1, hkeep.trans hk1, HC'⟩, by simp [intOf]; omega⟩
    · have hk' : k = 9 := by omega
      have HN' := HN.out
      rw [hk', numGo] at HN'
      have hlt : ¬ (k : Int) < 9 := by omega
      obtain ⟨hc1, hf1⟩ := hr.cell1
      clear hk'
      go_wp2_with fail
      go_ret
      exact ⟨rfl, hr.setBad, hkeep.setCell (fun _ h => h rfl) _⟩
end Go.Proofs.Ytejfejckmhoolaa
