/- Two lists of byte slices that a function makes: their state. -/
import Derived.Test.YtejfejckmhoolaaSupPlain
import Derived.Test.YtejfejckmhoolaaRBytes
set_option linter.unusedSimpArgs false
set_option linter.unusedVariables false
namespace Go.Proofs.Ytejfejckmhoolaa
open Go.RowKit

theorem ei_bs : EI Try.prog 76 22 1 24 := EI.of Try.underlying76 (z := .slice none 0 0) (by kernel_rfl) rfl (by decide) (by decide)

/-- A value with its bytes: of the arguments, or the program's own. -/
def JE (w : World) (Y : Nat) (p : Value × Byts) : Prop := p.2.length ≤ 1000000 ∧ ∃ Tb, Rows w (fun g => g < Y ∨ Tb = 5) Tb 1 p.1 p.2.length (p.2.map byteV)
theorem JE.keep {w w' : World} {Y : Nat} {p : Value × Byts} (h : JE w Y p) (hb : Below w.heap.size w w') : JE w' Y p := by
  obtain ⟨h1, Tb, h2⟩ := h
  exact ⟨h1, Tb, h2.keep (Keep.of_below hb (F := fun _ => True) (fun g hg _ => hg)) (fun _ _ _ _ => trivial)⟩
theorem JE.grown {w w' : World} {Y n : Nat} {p : Value × Byts} {v : Value} {xs : List Value} (h : JE w Y p) (ho : w.ownsRow Y 22 1 v n xs) (hg : w.grownBy w' v.ownBlock) : JE w' Y p := by
  obtain ⟨h1, Tb, h2⟩ := h
  refine ⟨h1, Tb, h2.keep (Keep.of_grown hg (F := fun g => v.ownBlock ≠ some g) (fun g _ hf e => hf e)) (fun g _ hf ht e => ?_)⟩
  rcases ho.2 with ⟨rfl, _⟩ | ⟨g', cap, cur, rfl, hb, hh, _⟩
  · simp [Value.ownBlock] at e
  · simp only [Value.ownBlock, Option.some.injEq] at e
    subst e
    rcases hf with hf | hf
    · omega
    · rw [tyOf_of hh] at ht
      injection ht with ht
      rw [hf] at ht
      exact absurd ht (by decide)
theorem own_grown {w w' : World} {base e size n : Nat} {v v2 : Value} {xs : List Value} (h : w.ownsRow base e size v n xs) (hg : w.grownBy w' v2.ownBlock) (hd : ∀ g, v2.ownBlock = some g → v.ownBlock ≠ some g) : w'.ownsRow base e size v n xs := by
  obtain ⟨b1, b2⟩ := h
  refine ⟨b1, ?_⟩
  rcases b2 with b2 | ⟨g, cap, cur, e1, e2, e3, e4⟩
  · exact .inl b2
  · refine .inr ⟨g, cap, cur, e1, e2, ?_, e4⟩
    exact (hg.block g (heap_lt e3) (fun e => hd g e.symm (by rw [e1]; rfl))).trans e3

structure JS (w wr : World) (v5 v6 : Value) (l5 l6 : List (Value × Byts)) : Prop where
  o5 : wr.ownsRow w.heap.size 22 1 v5 l5.length (l5.map (·.1))
  o6 : wr.ownsRow w.heap.size 22 1 v6 l6.length (l6.map (·.1))
  dis : ∀ g, v5.ownBlock = some g → v6.ownBlock ≠ some g
  b5 : ∀ p, p ∈ l5 → JE wr w.heap.size p
  b6 : ∀ p, p ∈ l6 → JE wr w.heap.size p
  bel : Below w.heap.size w wr
section
variable {w wr w1 : World} {v5 v6 v : Value} {l5 l6 : List (Value × Byts)} {p : Value × Byts}
theorem JS.nil (w : World) : JS w w (.slice none 0 0) (.slice none 0 0) [] [] :=
  ⟨World.ownsRow_nil _ _ _ _, World.ownsRow_nil _ _ _ _, fun g h => by simp [Value.ownBlock] at h, fun _ h => (by cases h), fun _ h => (by cases h), Below.refl _ _⟩
theorem JS.swap (h : JS w wr v5 v6 l5 l6) : JS w wr v6 v5 l6 l5 := ⟨h.o6, h.o5, fun g h1 h2 => h.dis g h2 h1, h.b6, h.b5, h.bel⟩
theorem JS.call (h : JS w wr v5 v6 l5 l6) (hb : Below wr.heap.size wr w1) : JS w w1 v5 v6 l5 l6 :=
  ⟨own_far h.o5 hb, own_far h.o6 hb, h.dis, fun p hp => (h.b5 p hp).keep hb, fun p hp => (h.b6 p hp).keep hb, h.bel.trans (hb.mono h.bel.size)⟩
theorem JS.app (h : JS w wr v5 v6 l5 l6) (hp : JE wr w.heap.size p) (hown : w1.ownsRow w.heap.size 22 1 v (l5.length + 1) (l5.map (·.1) ++ [p.1])) (hg : wr.grownBy w1 v5.ownBlock)
    (hb : v.ownBlock = v5.ownBlock ∨ v.ownBlock = some (wr.heap.size + 1)) : JS w w1 v v6 (l5 ++ [p]) l6 := by
  refine ⟨by simpa using hown, own_grown h.o6 hg h.dis, fun g hv h6 => ?_, fun q hq => ?_, fun q hq => (h.b6 q hq).grown h.o5 hg, h.bel.grown hg h.bel.size (fun k hk => (h.o5.lt k hk).1)⟩
  · rcases hb with hb | hb
    · exact h.dis g (by rw [← hb]; exact hv) h6
    · have h7 := (h.o6.lt g h6).2
      rw [hb] at hv
      injection hv with hv
      omega
  · rcases List.mem_append.1 hq with hq | hq
    · exact (h.b5 q hq).grown h.o5 hg
    · rw [List.mem_singleton.1 hq]
      exact hp.grown h.o5 hg
theorem JS.bv (h : JS w wr v5 v6 l5 l6) : BV wr (fun _ => True) l5 := by
  intro p hp
  obtain ⟨h1, Tb, h2⟩ := h.b5 p hp
  exact ⟨Tb, h2.mono (fun _ _ _ => trivial), h1⟩
theorem JE.own {v : Value} {b : Byts} (hl : b.length ≤ 1000000) {F : Nat → Prop} (h : Bts w F v b) (Y : Nat) : JE w Y (v, b) :=
  ⟨hl, 5, Rows.mono h (fun _ _ _ => .inr rfl)⟩
theorem JE.arg {v : Value} {b : Byts} (hl : b.length ≤ 1000000) {Tb Y : Nat} (h : Rows w (· < Y) Tb 1 v b.length (b.map byteV)) : JE w Y (v, b) :=
  ⟨hl, Tb, h.mono (fun _ _ hf => .inl hf)⟩
end
theorem supEnc_len {g z : Int} (h : supOk g z = true) : (supEnc g z).length ≤ 40 := by
  simp only [supOk, decide_eq_true_eq] at h
  have h1 := numEnc_len g.toNat (by omega)
  have h2 := numEnc_len z.toNat (by omega)
  simp [supEnc]
  omega
end Go.Proofs.Ytejfejckmhoolaa
