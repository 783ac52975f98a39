/- The contracts of wire.Writer. -/
import Derived.Test.YtejfejckmhoolaaRdr2
set_option linter.unusedSimpArgs false
set_option linter.unusedVariables false
namespace Go.Proofs.Ytejfejckmhoolaa
open Go.RowKit

/-- The writer in block W: what it has written, whether it is bad; its row lies in a block of O. -/
def Wtr (w : World) (O : Nat → Prop) (W : Nat) (bad : Bool) (l : Byts) : Prop :=
  ∃ v, w.heap[W]? = some (.cells #[v, .bool bad] 165 (0, 0)) ∧ w.ownsRow 0 5 1 v l.length (l.map byteV) ∧ ∀ g, v.ownBlock = some g → O g

theorem Wtr.mono {w : World} {O O' : Nat → Prop} {W : Nat} {bad : Bool} {l : Byts} (h : Wtr w O W bad l) (hO : ∀ g, g < w.heap.size → O g → O' g) : Wtr w O' W bad l := by
  obtain ⟨v, a, b, c⟩ := h
  exact ⟨v, a, b, fun g hg => hO g (b.lt g hg).2 (c g hg)⟩
theorem Wtr.keep {w w' : World} {O F : Nat → Prop} {W : Nat} {bad : Bool} {l : Byts} (h : Wtr w O W bad l) (hk : Keep F w w') (hW : F W) (hO : ∀ g, g < w.heap.size → O g → F g) : Wtr w' O W bad l := by
  obtain ⟨v, a, b, c⟩ := h
  refine ⟨v, (hk.block W (heap_lt a) hW).trans a, ?_, c⟩
  obtain ⟨b1, b2⟩ := b
  refine ⟨b1, ?_⟩
  rcases b2 with b2 | ⟨g, cap, cur, e1, e2, e3, e4⟩
  · exact .inl b2
  · refine .inr ⟨g, cap, cur, e1, e2, ?_, e4⟩
    rw [hk.block g (heap_lt e3) (hO g (heap_lt e3) (c g (by rw [e1]; rfl)))]
    exact e3

/-- The bytes of a number. -/
def numEnc (n : Nat) : Byts := if h : n < 128 then [UInt8.ofNat n] else UInt8.ofNat (n % 128 + 128) :: numEnc (n / 128)
  termination_by n
  decreasing_by omega

/-- What a writer's call leaves. -/
def WtrPost (O : Nat → Prop) (W : Nat) (w : World) (bad : Bool) (l : Byts) (e : Ending) (w' : World) : Prop :=
  e = .returned (.pointer (some ⟨W, 0, none⟩)) ∧ Wtr w' O W bad l ∧ Keep (fun g => ¬ O g ∧ g ≠ W) w w'

theorem own_ne_W {w : World} {W : Nat} {v : Value} {cs : Array Value} {n : Nat} {xs : List Value} (hW : w.heap[W]? = some (.cells cs 165 (0, 0))) (h : w.ownsRow 0 5 1 v n xs) : v.ownBlock ≠ some W := by
  rcases h.2 with ⟨rfl, _⟩ | ⟨g, cap, cur, rfl, _, hh, _⟩
  · simp [Value.ownBlock]
  · intro e
    injection e with e
    simp only at e
    subst e
    rw [hh] at hW
    simp at hW

/-- A row behind an append onto it, stored back into the writer. -/
theorem Wtr.step {w w1 : World} {O : Nat → Prop} {W : Nat} {bad : Bool} {v v' : Value} {l l' : Byts} (hh : w.heap[W]? = some (.cells #[v, .bool bad] 165 (0, 0)))
    (hown : w.ownsRow 0 5 1 v l.length (l.map byteV)) (hO : ∀ g, v.ownBlock = some g → O g) (hnew : ∀ g, w.heap.size ≤ g → O g)
    (hown1 : w1.ownsRow 0 5 1 v' l'.length (l'.map byteV)) (hg : w.grownBy w1 v.ownBlock) (hb : v'.ownBlock = v.ownBlock ∨ ∃ g, v'.ownBlock = some g ∧ w.heap.size ≤ g) :
    Wtr (w1.setCell ⟨W, 0, none⟩ v') O W bad l' ∧ Keep (fun g => ¬ O g ∧ g ≠ W) w (w1.setCell ⟨W, 0, none⟩ v') := by
  have hW1 : w1.heap[W]? = some (.cells #[v, .bool bad] 165 (0, 0)) := (hg.block W (heap_lt hh) (fun e => own_ne_W hh hown e.symm)).trans hh
  refine ⟨⟨v', by simpa using heap_setCell_at hW1 0 v', ?_, ?_⟩, ?_⟩
  · obtain ⟨b1, b2⟩ := hown1
    refine ⟨b1, ?_⟩
    rcases b2 with b2 | ⟨g, cap, cur, e1, e2, e3, e4⟩
    · exact .inl b2
    · refine .inr ⟨g, cap, cur, e1, e2, ?_, e4⟩
      rw [Below.heap_setCell]
      · exact e3
      · rintro rfl
        rw [e3] at hW1
        simp at hW1
  · intro g hv
    rcases hb with hb | ⟨g', hb, hs⟩
    · exact hO g (by rw [← hb]; exact hv)
    · rw [hb] at hv
      injection hv with hv
      subst hv
      exact hnew _ hs
  · exact (Keep.of_grown hg (F := fun g => ¬ O g ∧ g ≠ W) (fun g _ hf e => hf.1 (hO g e))).setCell (fun _ hf => hf.2 rfl) _

theorem byteV_of (n : Nat) (h : n < 256) : byteV (UInt8.ofNat n) = .int .u8 (n : Int) := by
  simp [byteV, UInt8.toNat_ofNat, Nat.mod_eq_of_lt h]

theorem map_snoc (l : Byts) (c : UInt8) : l.map byteV ++ [byteV c] = (l ++ [c]).map byteV := by simp

set_option maxHeartbeats 400000 in
theorem wbyte_any (W : Nat) (x : Nat) (hx : x < 256) (w : World) (O : Nat → Prop) (bad : Bool) (l : Byts) (h : Wtr w O W bad l) (hnew : ∀ g, w.heap.size ≤ g → O g) (hl : l.length ≤ 100000000) :
    Calls Try.prog 134 #[.pointer (some ⟨W, 0, none⟩), .int .u8 (x : Int)] w (WtrPost O W w bad (l ++ [UInt8.ofNat x])) := by
  obtain ⟨v, hh, hown, hO⟩ := h
  have hlt := heap_lt hh
  obtain ⟨A, c0, rfl⟩ := own_form hown
  have h0 := cell_of_block hh 0
  have f0 := frozen_of_block hh 0
  simp at h0
  have HH := Lib.hid hh
  have HO := Lib.hid hown
  clear hh hown
  go_enter Try.func134, Try.ntmps134
  go_wp2_with (at_builtin; go_loud (refine wpList_append_one rfl (.tmp 9) (.tmp 11) _ rfl ei_u8 (.slice A l.length c0) l.length _ rfl HO.out [.int .u8 (x : Int)] 1 rfl (by omega) rfl (by simp [Value.oneCell']) (by omega) (by omega) ?_; intro v' w1 hown1 hg1 hb1; obtain ⟨A', c', rfl⟩ := own_form hown1; have hc1 : w1.cell? ⟨W, 0, none⟩ = some (.slice A l.length c0) := (World.cell?_of_block (hg1.block W hlt (fun e => own_ne_W HH.out HO.out e.symm))).trans h0; have hf1 : w1.frozen? ⟨W, 0, none⟩ = false := (World.frozen?_of_block (hg1.block W hlt (fun e => own_ne_W HH.out HO.out e.symm))).trans f0))
  go_ret
  have := Wtr.step (l' := l ++ [UInt8.ofNat x]) HH.out HO.out hO hnew (by rw [← byteV_of x hx, map_snoc] at hown1; simpa using hown1) hg1 (hb1.imp id fun e => ⟨_, e, by omega⟩)
  exact ⟨rfl, by simpa using this.1, by simpa using this.2⟩

set_option maxHeartbeats 400000 in
theorem wraw_any (W : Nat) (w : World) (O F : Nat → Prop) (bad : Bool) (l b : Byts) (bv : Value) (h : Wtr w O W bad l) (hb : Bts w F bv b) (hnew : ∀ g, w.heap.size ≤ g → O g) (hl : l.length + b.length ≤ 100000000) :
    Calls Try.prog 140 #[.pointer (some ⟨W, 0, none⟩), bv] w (WtrPost O W w bad (l ++ b)) := by
  obtain ⟨v, hh, hown, hO⟩ := h
  have hlt := heap_lt hh
  obtain ⟨A, c0, rfl⟩ := own_form hown
  have h0 := cell_of_block hh 0
  have f0 := frozen_of_block hh 0
  simp at h0
  have HH := Lib.hid hh
  have HO := Lib.hid hown
  have HB := Lib.hid hb
  clear hh hown hb
  go_enter Try.func140, Try.ntmps140
  go_wp2_with (at_builtin; refine wpList_append_rows rfl (.tmp 9) (.tmp 10) _ rfl ei_u8 (.slice A l.length c0) l.length _ rfl HO.out bv b.length (b.map byteV) rfl HB.out (bytes_one b) (by omega) (by omega) ?_; intro v' w1 hown1 hg1 hb1; obtain ⟨A', c', rfl⟩ := own_form hown1; have hc1 : w1.cell? ⟨W, 0, none⟩ = some (.slice A l.length c0) := (World.cell?_of_block (hg1.block W hlt (fun e => own_ne_W HH.out HO.out e.symm))).trans h0; have hf1 : w1.frozen? ⟨W, 0, none⟩ = false := (World.frozen?_of_block (hg1.block W hlt (fun e => own_ne_W HH.out HO.out e.symm))).trans f0)
  go_ret
  have := Wtr.step (l' := l ++ b) HH.out HO.out hO hnew (by rw [← List.map_append] at hown1; simpa using hown1) hg1 (hb1.imp id fun e => ⟨_, e, by omega⟩)
  exact ⟨rfl, by simpa using this.1, by simpa using this.2⟩
end Go.Proofs.Ytejfejckmhoolaa
