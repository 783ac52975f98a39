/- Frames and rows over any program: which blocks are kept between two worlds, and what a slice value reads as. -/
import Derived.WalkKit
import Derived.Lib.Hide
import Derived.Deep.Draws
set_option linter.unusedSimpArgs false
set_option linter.unusedVariables false
namespace Go.Proofs.Ytejfejckmhoolaa
open Go.RowKit

/-- The element type of a block of cells. -/
def tyOf (w : World) (g : Nat) : Option TypeId := (w.shape? g).map (·.1)

/-- Every block of `w` that satisfies `F` is in `w'` as it was. -/
structure Keep (F : Nat → Prop) (w w' : World) : Prop where
  os : w'.os = w.os
  tape : w'.tape = w.tape
  output : w'.output = w.output
  size : w.heap.size ≤ w'.heap.size
  block : ∀ g, g < w.heap.size → F g → w'.heap[g]? = w.heap[g]?

section
variable {F G : Nat → Prop} {w w' w'' : World}
theorem Keep.refl (F : Nat → Prop) (w : World) : Keep F w w := ⟨rfl, rfl, rfl, Nat.le_refl _, fun _ _ _ => rfl⟩
theorem Keep.mono (h : Keep F w w') (hG : ∀ g, g < w.heap.size → G g → F g) : Keep G w w' :=
  ⟨h.os, h.tape, h.output, h.size, fun g hg hG' => h.block g hg (hG g hg hG')⟩
theorem Keep.trans (h : Keep F w w') (k : Keep F w' w'') : Keep F w w'' :=
  ⟨k.os.trans h.os, k.tape.trans h.tape, k.output.trans h.output, Nat.le_trans h.size k.size, fun g hg hF => (k.block g (Nat.lt_of_lt_of_le hg h.size) hF).trans (h.block g hg hF)⟩
theorem Keep.of_below {B : Nat} (h : Below B w w') (hF : ∀ g, g < w.heap.size → F g → g < B) : Keep F w w' :=
  ⟨h.os, h.tape, h.output, h.size, fun g hg hf => h.block g (hF g hg hf)⟩
theorem Keep.below {B : Nat} (h : Keep (· < B) w w') (hB : B ≤ w.heap.size) : Below B w w' :=
  ⟨h.os, h.tape, h.output, h.size, fun g hg => h.block g (by omega) hg⟩
theorem Keep.of_grown {row : Option Nat} (h : w.grownBy w' row) (hF : ∀ g, g < w.heap.size → F g → row ≠ some g) : Keep F w w' :=
  ⟨h.os, h.tape, h.output, h.size, fun g hg hf => h.block g hg (fun e => hF g hg hf e.symm)⟩
theorem Keep.alloc (h : Keep F w w') (o : Obj) : Keep F w (w'.alloc o) :=
  ⟨h.os, h.tape, h.output, by have := h.size; simp; omega, fun g hg hf => (Below.heap_alloc _ _ _ (Nat.lt_of_lt_of_le hg h.size)).trans (h.block g hg hf)⟩
theorem Keep.drew (h : Keep F w w') : Keep F w w'.drew := ⟨h.os, h.tape, h.output, h.size, h.block⟩
theorem Keep.drewN (h : Keep F w w') (n : Nat) : Keep F w (w'.drewN n) := ⟨h.os, h.tape, h.output, h.size, h.block⟩
theorem Keep.setCell (h : Keep F w w') {a : Addr} (ha : a.block < w.heap.size → ¬ F a.block) (v : Value) : Keep F w (w'.setCell a v) :=
  ⟨h.os, h.tape, h.output, by simpa [World.setCell] using h.size, fun g hg hf => (Below.heap_setCell _ _ _ _ (by rintro rfl; exact ha hg hf)).trans (h.block g hg hf)⟩
theorem Keep.cell (h : Keep F w w') {a : Addr} (hg : a.block < w.heap.size) (hf : F a.block) : w'.cell? a = w.cell? a := World.cell?_of_block (h.block _ hg hf)
theorem Keep.frozen (h : Keep F w w') {a : Addr} (hg : a.block < w.heap.size) (hf : F a.block) : w'.frozen? a = w.frozen? a := World.frozen?_of_block (h.block _ hg hf)
end

/-- A block of three cells, all stored anew. -/
theorem heap_setCell_of {w : World} {g : Nat} {cs : Array Value} {t : TypeId} {fr : Nat × Nat} (h : w.heap[g]? = some (.cells cs t fr)) (i : Nat) (v : Value) :
    (w.setCell ⟨g, i, none⟩ v).heap[g]? = some (.cells (cs.setIfInBounds i v) t fr) := by
  simp [World.setCell, Array.getElem?_modify, h]
theorem box3_set {w : World} {g : Nat} {x y z : Value} {t : TypeId} {fr : Nat × Nat} (h : w.heap[g]? = some (.cells #[x, y, z] t fr)) (a b c : Value) :
    (((w.setCell ⟨g, 0, none⟩ a).setCell ⟨g, 1, none⟩ b).setCell ⟨g, 2, none⟩ c).heap[g]? = some (.cells #[a, b, c] t fr) := by
  simpa using heap_setCell_of (heap_setCell_of (heap_setCell_of h 0 a) 1 b) 2 c
/-- The slice value `v` has `n` elements of type `T` (`k` cells each), which hold the cells `xs`; its block, if it has elements, satisfies `F`. -/
def Rows (w : World) (F : Nat → Prop) (T : TypeId) (k : Nat) (v : Value) (n : Nat) (xs : List Value) : Prop :=
  xs.length = n * k ∧ ∃ A cap, v = .slice A n cap ∧ n ≤ cap ∧
    (0 < n → ∃ g off cs fr, A = some ⟨g, off, none⟩ ∧ F g ∧ w.heap[g]? = some (.cells cs T fr) ∧ ∀ j u, xs[j]? = some u → cs[off + j]? = some u)

section
variable {F G : Nat → Prop} {w w' : World} {T k n : Nat} {v : Value} {xs : List Value}
theorem heap_lt {g : Nat} {o : Obj} (h : w.heap[g]? = some o) : g < w.heap.size := by
  rcases Nat.lt_or_ge g w.heap.size with hlt | hge
  · exact hlt
  · rw [Array.getElem?_eq_none hge] at h; cases h
theorem Rows.keep (h : Rows w F T k v n xs) (hk : Keep G w w') (hG : ∀ g, g < w.heap.size → F g → tyOf w g = some T → G g) : Rows w' F T k v n xs := by
  obtain ⟨h1, A, cap, h2, h3, h4⟩ := h
  refine ⟨h1, A, cap, h2, h3, fun hn => ?_⟩
  obtain ⟨g, off, cs, fr, e1, e2, e3, e4⟩ := h4 hn
  refine ⟨g, off, cs, fr, e1, e2, ?_, e4⟩
  have hlt := heap_lt e3
  rw [hk.block g hlt (hG g hlt e2 (by simp [tyOf, World.shape?, e3]))]
  exact e3
theorem Rows.mono (h : Rows w F T k v n xs) (hG : ∀ g, g < w.heap.size → F g → G g) : Rows w G T k v n xs := by
  obtain ⟨h1, A, cap, h2, h3, h4⟩ := h
  refine ⟨h1, A, cap, h2, h3, fun hn => ?_⟩
  obtain ⟨g, off, cs, fr, e1, e2, e3, e4⟩ := h4 hn
  exact ⟨g, off, cs, fr, e1, hG g (heap_lt e3) e2, e3, e4⟩
theorem Rows.nil (w : World) (F : Nat → Prop) (T k : Nat) (cap : Nat) (A : Option Addr) : Rows w F T k (.slice A 0 cap) 0 [] :=
  ⟨by simp, A, cap, rfl, Nat.zero_le _, fun h => absurd h (Nat.lt_irrefl 0)⟩
theorem Rows.of_own {base e size : Nat} (h : w.ownsRow base e size v n xs) : Rows w (base ≤ ·) e size v n xs := by
  obtain ⟨h1, h2⟩ := h
  rcases h2 with ⟨rfl, rfl⟩ | ⟨g, cap, cur, rfl, hb, hh, hnc, _, hs, ht⟩
  · exact ⟨h1, none, 0, rfl, Nat.le_refl _, fun h => absurd h (Nat.lt_irrefl 0)⟩
  · refine ⟨h1, _, cap, rfl, hnc, fun _ => ⟨g, 0, cur, (0, 0), rfl, hb, hh, fun j u hu => ?_⟩⟩
    subst ht
    rw [List.getElem?_take] at hu
    split at hu
    · simpa using hu
    · cases hu
theorem Rows.alloc (h : Rows w F T k v n xs) (o : Obj) : Rows (w.alloc o) F T k v n xs := h.keep ((Keep.refl (fun _ => True) _).alloc o) (fun _ _ _ _ => trivial)
theorem Rows.drew (h : Rows w F T k v n xs) : Rows w.drew F T k v n xs := h
theorem Rows.drewN (h : Rows w F T k v n xs) (m : Nat) : Rows (w.drewN m) F T k v n xs := h
theorem Rows.setFar (h : Rows w F T k v n xs) {a : Addr} (ha : ¬ F a.block) (u : Value) : Rows (w.setCell a u) F T k v n xs :=
  h.keep ((Keep.refl F _).setCell (fun _ => ha) u) (fun _ _ hf _ => hf)
/-- For a walk: old cells, old marks, by a `Keep`. -/
theorem Keep.rules (h : Keep F w w') : (∀ b o, b < w.heap.size → F b → w'.cell? ⟨b, o, none⟩ = w.cell? ⟨b, o, none⟩) ∧ (∀ b o, b < w.heap.size → F b → w'.frozen? ⟨b, o, none⟩ = w.frozen? ⟨b, o, none⟩) :=
  ⟨fun b o h1 h2 => h.cell (a := ⟨b, o, none⟩) h1 h2, fun b o h1 h2 => h.frozen (a := ⟨b, o, none⟩) h1 h2⟩
/-- The cells of a row, one by one. -/
theorem Rows.at_ (h : Rows w F T k v n xs) {j : Nat} (hj : j < n * k) : ∃ g off cap, v = .slice (some ⟨g, off, none⟩) n cap ∧ n ≤ cap ∧ F g ∧ g < w.heap.size ∧
    ∀ i u, xs[i]? = some u → w.cell? ⟨g, off + i, none⟩ = some u := by
  obtain ⟨h1, A, cap, h2, h3, h4⟩ := h
  have hn : 0 < n := by
    rcases Nat.eq_zero_or_pos n with h0 | h0
    · subst h0; simp at hj
    · exact h0
  obtain ⟨g, off, cs, fr, rfl, e2, e3, e4⟩ := h4 hn
  exact ⟨g, off, cap, h2, h3, e2, heap_lt e3, fun i u hu => by simp [World.cell?, e3, e4 i u hu]⟩
/-- The first `m` elements, whatever the capacity. -/
theorem Rows.take {A : Option Addr} {cap : Nat} (h : Rows w F T k (.slice A n cap) n xs) {m c : Nat} (hm : m ≤ n) (hc : m ≤ c) : Rows w F T k (.slice A m c) m (xs.take (m * k)) := by
  obtain ⟨h1, A', cap', h2, h3, h4⟩ := h
  have hA : A = A' := by injection h2
  subst hA
  refine ⟨by rw [List.length_take, h1]; exact Nat.min_eq_left (Nat.mul_le_mul_right k hm), A, c, rfl, hc, fun h0 => ?_⟩
  obtain ⟨g, off, cs, fr, e1, e2, e3, e4⟩ := h4 (by omega)
  refine ⟨g, off, cs, fr, e1, e2, e3, fun j u hu => ?_⟩
  rw [List.getElem?_take] at hu
  split at hu
  · exact e4 j u hu
  · cases hu
/-- What stands behind the first `m` elements: `v[m:]`. -/
theorem Rows.drop {A : Option Addr} {cap : Nat} (h : Rows w F T k (.slice A n cap) n xs) {m : Nat} (hm : m ≤ n) :
    Rows w F T k (.slice (if cap = m then A else A.map (·.add (m * k))) (n - m) (cap - m)) (n - m) (xs.drop (m * k)) := by
  obtain ⟨h1, A', cap', h2, h3, h4⟩ := h
  have hA : A = A' := by injection h2
  have hcap : cap = cap' := by injection h2
  subst hA hcap
  refine ⟨by rw [List.length_drop, h1, Nat.sub_mul], _, _, rfl, by omega, fun h0 => ?_⟩
  obtain ⟨g, off, cs, fr, rfl, e2, e3, e4⟩ := h4 (by omega)
  rw [if_neg (by omega)]
  refine ⟨g, off + m * k, cs, fr, ?_, e2, e3, fun j u hu => ?_⟩
  · by_cases hz : m * k = 0
    · simp [Addr.add, hz]
    · simp [Addr.add, hz]
  · rw [List.getElem?_drop] at hu
    rw [Nat.add_assoc]
    exact e4 _ u hu
theorem Rows.len (h : Rows w F T k v n xs) : xs.length = n * k := h.1
end
end Go.Proofs.Ytejfejckmhoolaa
