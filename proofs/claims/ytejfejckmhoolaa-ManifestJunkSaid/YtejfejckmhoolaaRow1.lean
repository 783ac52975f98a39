/- Arguments that are slices of pairs of ints, and slices of byte slices, as the walks take them. -/
import Derived.Test.YtejfejckmhoolaaRow0
import Derived.Test.YtejfejckmhoolaaLawJunk
import Derived.Deep.Matrix
import Derived.Deep.SlicePairs
set_option linter.unusedSimpArgs false
set_option linter.unusedVariables false
namespace Go.Proofs.Ytejfejckmhoolaa
open Go.ChangeShapes Go.WideShapes Go.ChangeAt Go.RowKit

theorem rows_of_cells {w : World} {a : Addr} {len cap k : Nat} {xs : List Value} (hx : xs.length = len * k) (hk : 0 < k) (hl : len ≤ cap) (h : ∀ j u, xs[j]? = some u → w.cell? (a.add j) = some u) :
    ∃ T, Rows w (fun _ => True) T k (.slice (some a) len cap) len xs := by
  rcases Nat.eq_zero_or_pos len with h0 | h0
  · subst h0
    exact ⟨0, hx, _, cap, rfl, hl, fun h => absurd h (Nat.lt_irrefl 0)⟩
  · have hp : 0 < xs.length := by rw [hx]; exact Nat.mul_pos h0 hk
    have hc0 := h 0 _ (List.getElem?_eq_getElem hp)
    have hsp := World.cell?_spot hc0
    obtain ⟨g, off, sp⟩ := a
    have hsp2 : sp = none := hsp
    subst hsp2
    have hadd : ∀ j, (⟨g, off, none⟩ : Addr).add j = ⟨g, off + j, none⟩ := by
      intro j
      unfold Addr.add
      split
      · subst j; rfl
      · rfl
    rw [hadd] at hc0
    have hT : ∃ cs T fr, w.heap[g]? = some (.cells cs T fr) := by
      unfold World.cell? at hc0
      split at hc0
      · exact ⟨_, _, _, by assumption⟩
      · cases hc0
    obtain ⟨cs, T, fr, hT⟩ := hT
    refine ⟨T, hx, _, cap, rfl, hl, fun _ => ⟨g, off, cs, fr, rfl, trivial, hT, fun j u hu => ?_⟩⟩
    have hcj := h j u hu
    rw [hadd] at hcj
    simpa [World.cell?, hT] using hcj

section
variable {H : Type} {enc : TypeId × Value → H} {w : World} {base : Nat} {held : Bool}
/-- A slice of pairs of ints. -/
theorem open_pairs {t e : TypeId} {f0 f1 : Field} {a : Option Addr} {len cap : Nat} {d : DataW H} {ps : List MemPlace} (ht : Try.prog.underlying t = some (.slice e)) (he : Try.prog.underlying e = some (.struct #[f0, f1]))
    (ce : Try.prog.cellsOf e = 2) (o0 : f0.offset = 0) (o1 : f1.offset = 1) (c0 : Try.prog.cellsOf f0.type = 1) (c1 : Try.prog.cellsOf f1.type = 1) (i0 : Try.prog.underlying f0.type = some (.int .i64)) (i1 : Try.prog.underlying f1.type = some (.int .i64))
    (h : DataW.Trod enc Try.prog w base (fun _ => true) held t (.slice a len cap) d ps) : ∃ (T : TypeId) (l : List (Int × Int)), Rows w (fun _ => True) T 2 (.slice a len cap) l.length (l.flatMap supCells) := by
  obtain ⟨fuel, hf⟩ := h
  rcases Go.Deep.open_slice_pairs ht he ce o0 o1 c0 c1 hf with ⟨hcs, _⟩ | ⟨x, n, c, m, k, V0, V1, D0, D1, P0, P1, hcs, _, hl, _, hm, _, hi⟩
  · simp [Value.cells] at hcs
    obtain ⟨rfl, rfl, rfl⟩ := hcs
    exact ⟨0, [], Rows.nil _ _ _ _ _ _⟩
  · simp [Value.cells] at hcs
    obtain ⟨rfl, rfl, rfl⟩ := hcs
    simp only [if_true] at hm
    subst hm
    have hq : ∀ i, i < len → ∃ q : Int × Int, V0 i = .int .i64 q.1 ∧ V1 i = .int .i64 q.2 := by
      intro i hi2
      obtain ⟨_, _, t0, t1⟩ := hi i (by omega)
      obtain ⟨n0, e0, _, _⟩ := DataW.trod_int i0 t0
      obtain ⟨n1, e1, _, _⟩ := DataW.trod_int i1 t1
      exact ⟨(n0, n1), by simpa using e0, by simpa using e1⟩
    obtain ⟨q, hq⟩ := Go.Deep.choose_lt hq
    let l : List (Int × Int) := (List.range len).map q
    have hll : l.length = len := by simp [l]
    have hfl : (l.flatMap supCells).length = len * 2 := by
      have : ∀ l : List (Int × Int), (l.flatMap supCells).length = l.length * 2 := by
        intro l
        induction l with
        | nil => rfl
        | cons y l ih => simp only [List.flatMap_cons, List.length_append, ih, List.length_cons, supCells, List.length_nil]; omega
      rw [this, hll]
    obtain ⟨T, hr⟩ := rows_of_cells (w := w) (a := x) (cap := _) hfl (by omega) hl (fun j u hu => by
      have hj : j < len * 2 := by
        rcases Nat.lt_or_ge j (len * 2) with h | h
        · exact h
        · rw [List.getElem?_eq_none (by omega)] at hu
          cases hu
      have hli : l[j / 2]? = some (q (j / 2)) := by show ((List.range len).map q)[j / 2]? = _; rw [List.getElem?_map, List.getElem?_range (by omega)]; rfl
      have hg := flat_get (f := supCells) (k := 2) (fun x => rfl) l (j / 2) (j % 2) _ hli (by omega)
      have hjj : j / 2 * 2 + j % 2 = j := by omega
      rw [hjj] at hg
      rw [hg] at hu
      obtain ⟨c0', c1', _, _⟩ := hi (j / 2) (by omega)
      obtain ⟨q0, q1⟩ := hq (j / 2) (by omega)
      rcases Nat.mod_two_eq_zero_or_one j with h2 | h2
      · rw [h2] at hu hjj
        rw [Nat.add_zero] at hjj
        rw [hjj, q0] at c0'
        simp [supCells] at hu
        rw [← hu]
        exact c0'
      · rw [h2] at hu hjj
        rw [hjj, q1] at c1'
        simp [supCells] at hu
        rw [← hu]
        exact c1')
    exact ⟨T, l, by rw [hll]; exact hr⟩
/-- A slice of byte slices. -/
theorem open_byte_rows {t e q : TypeId} {a : Option Addr} {len cap : Nat} {d : DataW H} {ps : List MemPlace} (ht : Try.prog.underlying t = some (.slice e)) (he : Try.prog.underlying e = some (.slice q)) (hq : Try.prog.underlying q = some (.int .u8))
    (ce : Try.prog.cellsOf e = 1) (cq : Try.prog.cellsOf q = 1) (h : DataW.Trod enc Try.prog w base (fun _ => true) held t (.slice a len cap) d ps) :
    ∃ (T : TypeId) (l : List (Value × Byts)), Rows w (fun _ => True) T 1 (.slice a len cap) l.length (l.map (·.1)) ∧ ∀ p, p ∈ l → ∃ Tb, Rows w (fun _ => True) Tb 1 p.1 p.2.length (p.2.map byteV) := by
  obtain ⟨fuel, hf⟩ := h
  rcases Go.Deep.open_int_rows ht he hq ce cq hf with ⟨hcs, _⟩ | ⟨x, n, c, A, L, C, Z, hcs, _, hl, _, _, hi⟩
  · simp [Value.cells] at hcs
    obtain ⟨rfl, rfl, rfl⟩ := hcs
    exact ⟨0, [], Rows.nil _ _ _ _ _ _, fun p hp => by cases hp⟩
  · simp [Value.cells] at hcs
    obtain ⟨rfl, rfl, rfl⟩ := hcs
    have hb : ∀ r, r < len → ∃ b : Byts, ∃ Tb, Rows w (fun _ => True) Tb 1 (.slice (A r) (L r) (C r)) b.length (b.map byteV) := by
      intro r hr
      obtain ⟨_, h1, h2, h3, h4, h5, h6⟩ := hi r (by omega)
      have hrow : IsRow .u8 w (A r) (L r) (C r) (Z r) := by
        cases hA : A r with
        | none =>
          have hC := h5 hA
          have hL : L r = 0 := by omega
          exact .inl ⟨rfl, hL, hC, List.length_eq_zero_iff.1 (by omega)⟩
        | some y => exact .inr ⟨y, rfl, h1, h2, h3, fun i hi3 => (h6 y hA).2 i (by omega), h4⟩
      obtain ⟨Tb, b, hrb⟩ := hrow.bytes
      exact ⟨b, Tb, hrb⟩
    obtain ⟨b, hb⟩ := Go.Deep.choose_lt hb
    let l : List (Value × Byts) := (List.range len).map fun r => (.slice (A r) (L r) (C r), b r)
    have hll : l.length = len := by simp [l]
    obtain ⟨T, hr⟩ := rows_of_cells (w := w) (a := x) (len := len) (cap := _) (k := 1) (xs := l.map (·.1)) (by simp [l]) (by omega) hl (fun j u hu => by
      have hj : j < len := by
        rcases Nat.lt_or_ge j len with h | h
        · exact h
        · rw [List.getElem?_eq_none (by simp [l]; omega)] at hu
          cases hu
      have hlj : (l.map (·.1))[j]? = some (.slice (A j) (L j) (C j)) := by rw [List.getElem?_map]; show Option.map _ ((List.range len).map _)[j]? = _; rw [List.getElem?_map, List.getElem?_range hj]; rfl
      have hu2 : some (Value.slice (A j) (L j) (C j)) = some u := hlj.symm.trans hu
      have hu3 : Value.slice (A j) (L j) (C j) = u := Option.some.inj hu2
      exact hu3 ▸ (hi j (by omega)).1)
    refine ⟨T, l, by rw [hll]; exact hr, fun p hp => ?_⟩
    obtain ⟨r, hr2, rfl⟩ := List.mem_map.1 hp
    exact hb r (List.mem_range.1 hr2)
end
end Go.Proofs.Ytejfejckmhoolaa
