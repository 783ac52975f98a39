/- manifest.Newest. -/
import Derived.Test.YtejfejckmhoolaaSup
import Derived.Test.YtejfejckmhoolaaAwake
set_option linter.unusedSimpArgs false
set_option linter.unusedVariables false
namespace Go.Proofs.Ytejfejckmhoolaa
open Go.RowKit

def newestStep (p : Nat × Nat) : Option (Nat × Nat) → Nat × Nat
  | some q => if p.1 ≤ q.1 then q else p
  | none => p
def newestS : List Byts → Nat × Nat → Nat × Nat
  | [], p => p
  | b :: l, p => newestS l (newestStep p (supS b))
/-- Each value of the list has its bytes. -/
def BV (w : World) (F : Nat → Prop) (l : List (Value × Byts)) : Prop := ∀ p, p ∈ l → ∃ Tb, Rows w F Tb 1 p.1 p.2.length (p.2.map byteV) ∧ p.2.length ≤ 1000000
theorem BV.keep {w w' : World} {l : List (Value × Byts)} {F G : Nat → Prop} (h : BV w F l) (hk : Keep G w w') (hF : ∀ g, g < w.heap.size → F g → G g) : BV w' F l := by
  intro p hp
  obtain ⟨Tb, h1, h2⟩ := h p hp
  exact ⟨Tb, h1.keep hk (fun g hg hf _ => hF g hg hf), h2⟩
theorem BV.mono {w : World} {l : List (Value × Byts)} {F G : Nat → Prop} (h : BV w F l) (hF : ∀ g, g < w.heap.size → F g → G g) : BV w G l := by
  intro p hp
  obtain ⟨Tb, h1, h2⟩ := h p hp
  exact ⟨Tb, h1.mono hF, h2⟩
def NewPost (w : World) (p : Nat × Nat) (e : Ending) (w' : World) : Prop :=
  e = .returned (.tuple #[.agg #[.int .i64 (p.1 : Int), .int .i64 (p.2 : Int)], .bool (decide (0 < (p.1 : Int)))]) ∧ Below w.heap.size w w'

set_option maxRecDepth 100000 in
set_option maxHeartbeats 2000000 in
theorem newest_any {Tn : TypeId} (w : World) (F : Nat → Prop) (v : Value) (l : List (Value × Byts)) (hv : Rows w F Tn 1 v l.length (l.map (·.1))) (hl : l.length ≤ 1000) (hb : BV w F l) :
    Calls Try.prog 32 #[v] w (NewPost w (newestS (l.map (·.2)) (0, 0))) := by
  obtain ⟨_, A, c, rfl, hc, _⟩ := id hv
  obtain ⟨n, hn⟩ : ∃ n, Hid (n = l.length) := ⟨_, rfl⟩
  obtain ⟨q, hq⟩ : ∃ q, Hid (newestS (l.map (·.2)) (0, 0) = q) := ⟨_, rfl⟩
  have hn1 : n ≤ 1000 := by rw [hn.out]; exact hl
  rw [← hn.out] at hv hc ⊢
  rw [hq.out]
  have HV := Lib.hid (Rows.mono hv (G := (· < w.heap.size)) (fun g hg _ => hg))
  have HBV := Lib.hid (hb.mono (G := (· < w.heap.size)) (fun g hg _ => hg))
  clear hv hb hl
  go_enter Try.func32, Try.ntmps32
  go_wp2_with fail
  obtain ⟨hx0, hx1, hxB, hxK⟩ := two_boxes w (.cells #[.int .i64 0, .int .i64 0] 78) (.cells #[.int .i64 0, .int .i64 0] 78)
  generalize ((w.alloc (.cells #[.int .i64 0, .int .i64 0] 78)).alloc (.cells #[.int .i64 0, .int .i64 0] 78)) = y at *
  have HX0 := Lib.hid hx0
  have HX1 := Lib.hid hx1
  have HXB := Lib.hid hxB
  have hl1 := heap_lt hx1
  have HVY := Lib.hid (HV.out.keep hxK (fun _ _ _ _ => trivial))
  have HBY := Lib.hid (HBV.out.keep hxK (fun _ _ _ => trivial))
  clear hx0 hx1 hxB hxK HV HBV
  go_loopw [11] (fun i wr => ∃ (k : Nat) (p : Nat × Nat), i = .int .i64 k ∧ k ≤ n ∧ Hid (newestS ((l.map (·.2)).drop k) p = q) ∧ Hid (wr.heap[w.heap.size + 1]? = some (.cells #[.int .i64 (p.1 : Int), .int .i64 (p.2 : Int)] 78 (0, 0))) ∧ Hid (Keep (fun g => g ≠ w.heap.size + 1) y wr)) (fun i _ => n - (intOf i).toNat)
  case atStart => exact ⟨0, (0, 0), rfl, by omega, hq.out, HX1.out, Keep.refl _ _⟩
  case round =>
    obtain ⟨k, ⟨pg, pz⟩, rfl, hk, HN, HX, HK⟩ := hrel
    have hX0 := cell_of_block HX.out 0
    have hX1 := cell_of_block HX.out 1
    have fX := fun i => frozen_of_block HX.out i
    simp at hX0 hX1
    by_cases hlt : k < n
    · obtain ⟨⟨bv, b⟩, hb⟩ : ∃ p, l[k]? = some p := ⟨l[k]'(by rw [← hn.out]; exact hlt), List.getElem?_eq_getElem _⟩
      obtain ⟨g, off, cap2, eA, _, _, _, hel⟩ := (HVY.out.keep HK.out (fun g _ (hf : g < w.heap.size) _ => by omega)).at_ (j := 0) (by omega)
      have eA2 : A = some ⟨g, off, none⟩ := by injection eA
      subst eA2
      obtain ⟨Tb, hbr, hbl⟩ := HBY.out _ (List.mem_of_getElem? hb)
      simp only at hbr hbl
      have hbr2 := hbr.keep (HK.out) (fun g _ (hf : g < w.heap.size) _ => by omega)
      obtain ⟨_, BA, BC, rfl, _, _⟩ := id hbr2
      have e0 := hel k (.slice BA b.length BC) (by simp [hb])
      have hps := parseSup_any wr _ _ b hbr2 hbl
      have hnx := HN.out
      rw [List.drop_eq_getElem_cons (by rw [List.length_map, ← hn.out]; exact hlt)] at hnx
      have hbb : (l.map (·.2))[k]'(by rw [List.length_map, ← hn.out]; exact hlt) = b := by
        have h := List.getElem?_eq_getElem (l := l.map (·.2)) (i := k) (by rw [List.length_map, ← hn.out]; exact hlt)
        rw [List.getElem?_map, hb] at h
        injection h with h
        exact h.symm
      rw [hbb] at hnx
      simp only [newestS] at hnx
      generalize b.length = bn at *
      generalize supS b = o at *
      have HPS := Lib.hid hps
      have HN2 := Lib.hid hnx
      clear hps hnx hbb hbr hbr2 hbl hb hel eA HN
      cases o with
      | none =>
        simp only [newestStep] at HN2
        go_wp2_with (go_at_call 31; refine (HPS.out).mono ?_; rintro e w1 ⟨rfl, hb1⟩; simp only [supR])
        have hX1 := blk_below hb1 HX.out (heap_lt HX.out)
        exact ⟨⟨k + 1, (pg, pz), by simp, by omega, HN2.out, (Below.heap_alloc _ _ _ (heap_lt hX1)).trans hX1, (HK.out.trans (Keep.of_below hb1 (fun g hg _ => hg))).alloc _⟩, by simp [intOf]; omega⟩
      | some p =>
        obtain ⟨g1, z1⟩ := p
        simp only [newestStep] at HN2
        by_cases hge : pg ≤ g1
        · rw [if_pos hge] at HN2
          go_wp2_with (go_at_call 31; refine (HPS.out).mono ?_; rintro e w1 ⟨rfl, hb1⟩; simp only [supR]; have hX1 := blk_below hb1 HX.out (heap_lt HX.out); have u0 := cell_of_block hX1 0; have u1 := cell_of_block hX1 1; have fu := (fun i => frozen_of_block hX1 i); have hlt1 := heap_lt hX1; simp at u0 u1)
          have hcl := box2_set hX1 (.int .i64 (g1 : Int)) (.int .i64 (z1 : Int))
          revert hcl
          generalize ((w1.setCell ⟨w.heap.size + 1, 0, none⟩ (.int .i64 (g1 : Int))).setCell ⟨w.heap.size + 1, 1, none⟩ (.int .i64 (z1 : Int))) = W'
          rintro ⟨q3, q4⟩
          exact ⟨⟨k + 1, (g1, z1), by simp, by omega, HN2.out, (Below.heap_alloc _ _ _ (heap_lt q3)).trans q3, ((HK.out.trans (Keep.of_below hb1 (fun g hg _ => hg))).trans q4).alloc _⟩, by simp [intOf]; omega⟩
        · rw [if_neg hge] at HN2
          go_wp2_with (go_at_call 31; refine (HPS.out).mono ?_; rintro e w1 ⟨rfl, hb1⟩; simp only [supR]; have hX1 := blk_below hb1 HX.out (heap_lt HX.out); have u0 := cell_of_block hX1 0; have u1 := cell_of_block hX1 1; have fu := (fun i => frozen_of_block hX1 i); have hlt1 := heap_lt hX1; simp at u0 u1)
          exact ⟨⟨k + 1, (pg, pz), by simp, by omega, HN2.out, (Below.heap_alloc _ _ _ (heap_lt hX1)).trans hX1, (HK.out.trans (Keep.of_below hb1 (fun g hg _ => hg))).alloc _⟩, by simp [intOf]; omega⟩
    · have hkn : ¬ (k : Int) < n := by omega
      have hn0 := HN.out
      rw [List.drop_of_length_le (by rw [List.length_map, ← hn.out]; omega)] at hn0
      have HN0 := Lib.hid (show (pg, pz) = q from hn0)
      have hH := blk_of HK.out HX0.out (by omega)
      have hH0 := cell_of_block hH 0
      have hH1 := cell_of_block hH 1
      have fH := fun i => frozen_of_block hH i
      simp at hH0 hH1
      clear hn0 HN
      go_wp2_with fail
      go_region_with (fail)
      all_goals
        go_wp2_with fail
        have hcl := box2_set hH (.int .i64 (pg : Int)) (.int .i64 (pz : Int))
        revert hcl
        generalize ((wr.setCell ⟨w.heap.size, 0, none⟩ (.int .i64 (pg : Int))).setCell ⟨w.heap.size, 1, none⟩ (.int .i64 (pz : Int))) = W'
        rintro ⟨q3, q4⟩
        have g0 := cell_of_block q3 0
        have g1 := cell_of_block q3 1
        simp at g0 g1
        refine bodyPost_end (v := .tuple #[.agg #[.int .i64 (pg : Int), .int .i64 (pz : Int)], .bool (decide (0 < pg))]) (by simp [results, Try.results32, go_sem, g0, g1]) rfl ?_
        refine ⟨by rw [← HN0.out]; simp, ?_⟩
        have hs := HXB.out.size
        have hk := ((HK.out.mono (G := (· < w.heap.size)) (fun g _ (hf : g < w.heap.size) => by omega)).trans (q4.mono (fun g _ (hf : g < w.heap.size) => by omega))).below (B := w.heap.size) hs
        exact (HXB.out.trans hk).drew
end Go.Proofs.Ytejfejckmhoolaa
