/- Of an empty version: copied, Check, Apply of an empty edit. -/
import Derived.Test.YtejfejckmhoolaaIter
import Derived.Test.YtejfejckmhoolaaRec
set_option linter.unusedSimpArgs false
set_option linter.unusedVariables false
namespace Go.Proofs.Ytejfejckmhoolaa
open Go.RowKit Go.Shelf
attribute [local go_sem] Oper.semAt_some

/-- A block of cells is turned by no block that is no cells. -/
theorem blk_own {β : Type} (B g : Nat) (cs : Array Value) (t : TypeId) (fr : Nat × Nat) : OwnFrom B (fun (_ : β) W => W.heap[g]? = some (.cells cs t fr)) := fun s X Y row hs hg hr =>
  (hg.block g (heap_lt hs) (fun e => by obtain ⟨_, o, ho, hc⟩ := hr g e.symm; rw [hs] at ho; cases ho; cases hc)).trans hs

def nilS : Value := .slice none 0 0
def nil4 : Array Value := #[.slice none 0 0, .slice none 0 0, .slice none 0 0, .slice none 0 0]
theorem rdVer_nil (w : World) (F : Nat → Prop) : RdVer w F nil4 [[], [], [], []] :=
  have h : RdLvl w F (.slice none 0 0) [] := ⟨Rows.nil _ _ _ _ _ _, fun p hp => by cases hp⟩
  ⟨_, _, _, _, _, _, _, _, rfl, rfl, h, h, h, h, by simp, by simp, by simp, by simp⟩

theorem box4_set {w : World} {g : Nat} {x0 x1 x2 x3 : Value} {t : TypeId} {fr : Nat × Nat} (h : w.heap[g]? = some (.cells #[x0, x1, x2, x3] t fr)) (a b c d : Value) :
    ((((w.setCell ⟨g, 0, none⟩ a).setCell ⟨g, 1, none⟩ b).setCell ⟨g, 2, none⟩ c).setCell ⟨g, 3, none⟩ d).heap[g]? = some (.cells #[a, b, c, d] t fr) ∧
    Keep (· ≠ g) w ((((w.setCell ⟨g, 0, none⟩ a).setCell ⟨g, 1, none⟩ b).setCell ⟨g, 2, none⟩ c).setCell ⟨g, 3, none⟩ d) := by
  constructor
  · simpa using heap_setCell_of (heap_setCell_of (heap_setCell_of (heap_setCell_of h 0 a) 1 b) 2 c) 3 d
  · exact ((((Keep.refl _ _).setCell (a := ⟨g, 0, none⟩) (fun _ hf => hf rfl) _).setCell (a := ⟨g, 1, none⟩) (fun _ hf => hf rfl) _).setCell (a := ⟨g, 2, none⟩) (fun _ hf => hf rfl) _).setCell (a := ⟨g, 3, none⟩) (fun _ hf => hf rfl) _

set_option maxRecDepth 100000 in
set_option maxHeartbeats 4000000 in
theorem copied_nil (vb : Nat) (w : World) (hvb : w.heap[vb]? = some (.cells nil4 92 (0, 0))) :
    Calls Try.prog 82 #[.pointer (some ⟨vb, 0, none⟩)] w fun e w' => e = .returned (.agg nil4) ∧ Below w.heap.size w w' := by
  refine (callsIn_wide (n := 3)).1 ?_
  refine callsIn_of_wp_marks Try.func82 rfl trivial ?_
  simp only [Try.ntmps82, List.size_toArray, List.length_cons, List.length_nil, Nat.reduceAdd, Nat.reduceSub, Array.replicate_succ, Array.replicate_zero, List.push_toArray, List.append_toArray, List.nil_append, List.cons_append]
  gi_wp2_with (refine ⟨trivial, ?_⟩; gi_at_call 96; refine (callsIn_wide.2 (all_any _ _)).mono ?_; rintro e w' ⟨rfl, rfl⟩)
  have hR := heap_alloc_new w (.cells nil4 92)
  have hO := heap_alloc_new (w.alloc (.cells nil4 92)) (.cells nil4 92)
  have hA := heap_alloc_new ((w.alloc (.cells nil4 92)).alloc (.cells nil4 92)) (.cells #[.pointer (some ⟨vb, 0, none⟩)] 211)
  have hB0 : Below w.heap.size w (((w.alloc (.cells nil4 92)).alloc (.cells nil4 92)).alloc (.cells #[.pointer (some ⟨vb, 0, none⟩)] 211)) := (((Below.refl _ w).alloc (Nat.le_refl _) _).alloc (by simp) _).alloc (by simp; omega) _
  simp only [World.size_alloc] at hO hA
  have hO2 := (Below.heap_alloc ((w.alloc (.cells nil4 92)).alloc (.cells nil4 92)) (.cells #[.pointer (some ⟨vb, 0, none⟩)] 211) (w.heap.size + 1) (by simp)).trans hO
  have hR2 := (Below.heap_alloc ((w.alloc (.cells nil4 92)).alloc (.cells nil4 92)) (.cells #[.pointer (some ⟨vb, 0, none⟩)] 211) w.heap.size (by simp; omega)).trans ((Below.heap_alloc (w.alloc (.cells nil4 92)) (.cells nil4 92) w.heap.size (by simp)).trans hR)
  have hsz : (((w.alloc (.cells nil4 92)).alloc (.cells nil4 92)).alloc (.cells #[.pointer (some ⟨vb, 0, none⟩)] 211)).heap.size = w.heap.size + 3 := by simp
  clear hR hO
  unfold nil4 at hR2 hO2 hA hB0 hsz hvb
  generalize (((w.alloc (.cells #[.slice none 0 0, .slice none 0 0, .slice none 0 0, .slice none 0 0] 92)).alloc (.cells #[.slice none 0 0, .slice none 0 0, .slice none 0 0, .slice none 0 0] 92)).alloc (.cells #[.pointer (some ⟨vb, 0, none⟩)] 211)) = W0 at *
  have hv0 := (hB0.block vb (heap_lt hvb)).trans hvb
  have hvl := heap_lt hvb
  have HSZ := Lib.hid hsz
  have hs3 : w.heap.size + 3 ≤ W0.heap.size := by omega
  clear hsz
  refine wpIn_rangeFunc_ownH rfl (by omega) (gf := 125) (lb := #[.pointer (some ⟨w.heap.size + 1 + 1, 0, none⟩)]) rfl trivial (enters_of Try.func125 (by kernel_rfl) rfl)
    (all_stops _ _ trivial rfl (by omega) (w.heap.size + 1 + 1) vb w.heap.size nil4 [[], [], [], []] W0 (by omega) (by omega) (by simpa using cell_of_block hA 0) hv0 (rdVer_nil _ _)) belowK_t (belowK_b (by omega)) (Below.refl _ _) (fun _ => rfl)
    (fun pre W => (W.heap[w.heap.size]? = some (.cells nil4 92 (0, 0)) ∧ W.heap[w.heap.size + 1]? = some (.cells nil4 92 (0, 0))) ∧ Below w.heap.size w W)
    (fun _ _ _ => False)
    (OwnFrom.and (OwnFrom.and (blk_own _ _ _ _ _) (blk_own _ _ _ _ _)) (ownFrom_below (Nat.le_refl _) (by omega)))
    (fun _ _ _ _ _ hs _ _ => hs)
    ⟨⟨hR2, hO2⟩, hB0⟩
    (fun _ _ _ => True) (fun _ _ => ownFrom_pure _ _) ?assign ?body ?done ?stop
  case assign =>
    rintro l pre ⟨k, ⟨zn, ln, ⟨su, ss, sd⟩, ⟨lu, ls, ld⟩, rf⟩, RA, rc⟩ W K ⟨⟨h1, h2⟩, hB⟩ hK
    simp only [encMT, mtCells, metaCells, rvOf]
    gi_wp2
    exact hK _ _ ((KeepsOthers.alloc _ _).from _) ((Below.refl _ W).alloc hB.size _) ⟨⟨(Below.heap_alloc _ _ _ (heap_lt h1)).trans h1, (Below.heap_alloc _ _ _ (heap_lt h2)).trans h2⟩, hB.alloc hB.size _⟩ trivial
  case body =>
    intro l pre x a' W _ _ _ _ hlen
    simp [flatFrom] at hlen
  case done =>
    rintro D ys W hD hys ⟨⟨h1, h2⟩, hB⟩ hK
    have c0 := cell_of_block h2 0
    have c1 := cell_of_block h2 1
    have c2 := cell_of_block h2 2
    have c3 := cell_of_block h2 3
    have r0 := cell_of_block h1 0
    have r1 := cell_of_block h1 1
    have r2 := cell_of_block h1 2
    have r3 := cell_of_block h1 3
    have hf : ∀ i, W.frozen? ⟨w.heap.size, i, none⟩ = false := fun i => frozen_of_block h1 i
    simp [nil4] at c0 c1 c2 c3 r0 r1 r2 r3
    have H1 := Lib.hid h1
    have HK := Lib.hid hK
    clear h1 h2 hK
    gi_wp2
    have hq := box4_set H1.out (.slice none 0 0) (.slice none 0 0) (.slice none 0 0) (.slice none 0 0)
    revert hq
    generalize (((W.setCell ⟨w.heap.size, 0, none⟩ (.slice none 0 0)).setCell ⟨w.heap.size, 1, none⟩ (.slice none 0 0)).setCell ⟨w.heap.size, 2, none⟩ (.slice none 0 0)).setCell ⟨w.heap.size, 3, none⟩ (.slice none 0 0) = W2
    rintro ⟨q1, q2⟩
    have hDw : W0.heap.size ≤ D := hD
    have hK2 := (q2.block D (heap_lt HK.out) (by omega)).trans HK.out
    refine ⟨by simp, .inl ⟨_, _, rfl, run_takeDeferred hK2, ?_⟩⟩
    have q3 : (W2.putObj D (.deferred none)).heap[w.heap.size]? = _ := (World.putObj_heap_other (by omega)).trans q1
    have g0 := cell_of_block q3 0
    have g1 := cell_of_block q3 1
    have g2 := cell_of_block q3 2
    have g3 := cell_of_block q3 3
    simp at g0 g1 g2 g3
    refine ⟨.agg nil4, ?_, rfl, ((hB.trans ((q2.mono (fun g _ hf => by omega)).below hB.size))).trans (belowK_b (w := w) (Nat.le_refl _) W2 D _ _ (by omega) hK2 rfl rfl)⟩
    simp [results, Try.f82, go_sem, g0, g1, g2, g3, nil4]
  case stop =>
    intro D c pre W _ _ h _
    exact h.elim
end Go.Proofs.Ytejfejckmhoolaa
