/- slices.Clone of ints; the state behind a record without tables on the empty state. -/
import Derived.Test.YtejfejckmhoolaaVer1
import Derived.Test.YtejfejckmhoolaaRecBytes
set_option linter.unusedSimpArgs false
set_option linter.unusedVariables false
namespace Go.Proofs.Ytejfejckmhoolaa
open Go.RowKit

def ClnPost (w : World) (T size n : Nat) (xs : List Value) (e : Ending) (w' : World) : Prop :=
  ∃ v, e = .returned v ∧ w'.ownsRow w.heap.size T size v n xs ∧ Below w.heap.size w w'
set_option maxRecDepth 100000 in
set_option maxHeartbeats 400000 in
theorem cloneInts_any (w : World) (F : Nat → Prop) (v : Value) (zs : List Int) (h : Ints w F v zs) (hl : zs.length ≤ 1000000) :
    Calls Try.prog 81 #[v] w (ClnPost w 3 1 zs.length (zs.map intV)) := by
  have hn := fun wx => Lib.run_eql_slice_nil (P := Try.prog) (w := wx)
  obtain ⟨_, A, cap, rfl, hcap, hg⟩ := id h
  match A, hg with
  | none, hg =>
    have h0 : zs = [] := by
      match zs, hg with
      | [], _ => rfl
      | z :: zs, hg => obtain ⟨g, off, cs, fr, e, _⟩ := hg (by simp); cases e
    subst h0
    clear h hg
    go_enter Try.func81, Try.ntmps81
    go_wp2
    go_ret
    exact ⟨_, rfl, World.ownsRow_nil _ _ _ _, Below.refl _ _⟩
  | some a, hg =>
    have HR := Lib.hid (h.alloc (.cells #[] 3))
    generalize hnn : zs.length = n at *
    have HN := Lib.hid hnn
    have ho := World.ownsRow_lit (base := w.heap.size) (e := 3) (size := 1) w #[] 0 (Nat.le_refl _) (by simp [maxLen]) (by simp)
    have HO := Lib.hid ho
    have h1 : ∀ u ∈ zs.map intV, u.oneCell' = true := by
      intro u hu
      obtain ⟨z, _, rfl⟩ := List.mem_map.1 hu
      rfl
    have H1 := Lib.hid h1
    clear h hg hnn ho h1
    go_enter Try.func81, Try.ntmps81
    go_wp2_with (at_builtin; refine wpList_append_rows rfl (.tmp 5) (.tmp 6) _ rfl ei_int (.slice (some ⟨w.heap.size, 0, none⟩) 0 0) 0 _ rfl HO.out (.slice (some a) n cap) n (zs.map intV) rfl HR.out H1.out (by omega) (by simp) ?_; intro v' w1 hown hg1 _)
    go_ret
    refine ⟨v', rfl, by simpa using hown, (((Below.refl w.heap.size w).alloc (Nat.le_refl _) (.cells #[] 3)).grown hg1 (by simp) (fun k hk => by simp [Value.ownBlock] at hk; omega))⟩

theorem three_boxes (w : World) (o0 o1 o2 : Obj) : (((w.alloc o0).alloc o1).alloc o2).heap[w.heap.size]? = some o0 ∧ (((w.alloc o0).alloc o1).alloc o2).heap[w.heap.size + 1]? = some o1 ∧ (((w.alloc o0).alloc o1).alloc o2).heap[w.heap.size + 1 + 1]? = some o2 ∧
    Below w.heap.size w (((w.alloc o0).alloc o1).alloc o2) ∧ Keep (fun _ => True) w (((w.alloc o0).alloc o1).alloc o2) := by
  have h0 := heap_alloc_new w o0
  have h1 := heap_alloc_new (w.alloc o0) o1
  have h2 := heap_alloc_new ((w.alloc o0).alloc o1) o2
  simp only [World.size_alloc] at h1 h2
  exact ⟨(Below.heap_alloc _ _ _ (by simp; omega)).trans ((Below.heap_alloc _ _ _ (by simp)).trans h0), (Below.heap_alloc _ _ _ (by simp)).trans h1, h2, (((Below.refl _ w).alloc (Nat.le_refl _) _).alloc (by simp) _).alloc (by simp; omega) _, (((Keep.refl _ _).alloc _).alloc _).alloc _⟩
theorem box6_set {w : World} {g : Nat} {x0 x1 x2 x3 x4 x5 : Value} {t : TypeId} {fr : Nat × Nat} (h : w.heap[g]? = some (.cells #[x0, x1, x2, x3, x4, x5] t fr)) (a b c d e f : Value) :
    ((((((w.setCell ⟨g, 0, none⟩ a).setCell ⟨g, 1, none⟩ b).setCell ⟨g, 2, none⟩ c).setCell ⟨g, 3, none⟩ d).setCell ⟨g, 4, none⟩ e).setCell ⟨g, 5, none⟩ f).heap[g]? = some (.cells #[a, b, c, d, e, f] t fr) ∧
    Keep (· ≠ g) w ((((((w.setCell ⟨g, 0, none⟩ a).setCell ⟨g, 1, none⟩ b).setCell ⟨g, 2, none⟩ c).setCell ⟨g, 3, none⟩ d).setCell ⟨g, 4, none⟩ e).setCell ⟨g, 5, none⟩ f) := by
  constructor
  · simpa using heap_setCell_of (heap_setCell_of (heap_setCell_of (heap_setCell_of (heap_setCell_of (heap_setCell_of h 0 a) 1 b) 2 c) 3 d) 4 e) 5 f
  · exact ((((((Keep.refl _ _).setCell (a := ⟨g, 0, none⟩) (fun _ hf => hf rfl) _).setCell (a := ⟨g, 1, none⟩) (fun _ hf => hf rfl) _).setCell (a := ⟨g, 2, none⟩) (fun _ hf => hf rfl) _).setCell (a := ⟨g, 3, none⟩) (fun _ hf => hf rfl) _).setCell (a := ⟨g, 4, none⟩) (fun _ hf => hf rfl) _).setCell (a := ⟨g, 5, none⟩) (fun _ hf => hf rfl) _

theorem keep_set6 {w : World} (R : Nat) (a b c d e f : Value) : Keep (· ≠ R) w ((((((w.setCell ⟨R, 0, none⟩ a).setCell ⟨R, 1, none⟩ b).setCell ⟨R, 2, none⟩ c).setCell ⟨R, 3, none⟩ d).setCell ⟨R, 4, none⟩ e).setCell ⟨R, 5, none⟩ f) :=
  ((((((Keep.refl _ _).setCell (a := ⟨R, 0, none⟩) (fun _ hf => hf rfl) _).setCell (a := ⟨R, 1, none⟩) (fun _ hf => hf rfl) _).setCell (a := ⟨R, 2, none⟩) (fun _ hf => hf rfl) _).setCell (a := ⟨R, 3, none⟩) (fun _ hf => hf rfl) _).setCell (a := ⟨R, 4, none⟩) (fun _ hf => hf rfl) _).setCell (a := ⟨R, 5, none⟩) (fun _ hf => hf rfl) _
theorem blk_of {F : Nat → Prop} {w w' : World} {g : Nat} {o : Obj} (hk : Keep F w w') (h : w.heap[g]? = some o) (hF : F g) : w'.heap[g]? = some o := (hk.block g (heap_lt h) hF).trans h
theorem blk_below {B : Nat} {w w' : World} {g : Nat} {o : Obj} (hb : Below B w w') (h : w.heap[g]? = some o) (hF : g < B) : w'.heap[g]? = some o := (hb.block g hF).trans h

/-- The state behind a record without tables, on the empty state. -/
def SApplyPost (w : World) (r : Rec) (e : Ending) (w' : World) : Prop :=
  ∃ A c, e = .returned (.tuple #[.agg #[.slice none 0 0, .slice none 0 0, .slice none 0 0, .slice none 0 0, .int .i64 r.seq, .slice A r.logs.length c], .int .i64 0]) ∧ Ints w' (fun _ => True) (.slice A r.logs.length c) r.logs ∧ Below w.heap.size w w'
set_option maxRecDepth 100000 in
set_option maxHeartbeats 2000000 in
theorem sapply_nil (w : World) (F : Nat → Prop) (sq : Int) (logs : List Int) (lv av dv : Value) (hL : Ints w F lv logs) (hD : Ints w F dv []) (hA : RdPlaces w F 119 122 av []) (hl1 : logs.length ≤ 1000) (hok : recOk ⟨false, sq, logs, [], []⟩ = true) :
    Calls Try.prog 35 #[.agg #[.slice none 0 0, .slice none 0 0, .slice none 0 0, .slice none 0 0, .int .i64 0, .slice none 0 0], .agg (recCells ⟨false, sq, logs, [], []⟩ lv av dv).toArray] w (SApplyPost w ⟨false, sq, logs, [], []⟩) := by
  have HCK := Lib.hid (fun wx (hk : Keep (fun _ => True) w wx) => recCheck_any wx F ⟨false, sq, logs, [], []⟩ lv av dv [] (hL.keep hk (fun _ _ _ _ => trivial)) (hD.keep hk (fun _ _ _ _ => trivial)) ⟨hA.1.keep hk (fun _ _ _ _ => trivial), fun p hp => by cases hp⟩ rfl hl1 (by simp) (by simp))
  rw [hok] at HCK
  simp only [errOf_true] at HCK
  obtain ⟨LA, LN, LC, rfl⟩ : ∃ A n c, lv = .slice A n c := by
    obtain ⟨_, A, c, h, _⟩ := hL
    exact ⟨A, _, c, h⟩
  obtain ⟨_, DA, DC, rfl, _, _⟩ := id hD
  obtain ⟨_, A, ac, rfl, _, _⟩ := id hA.1
  have HL := Lib.hid hL
  unfold recCells at HCK ⊢
  simp only [List.length_nil] at HCK ⊢
  clear hL hD hA hok
  go_enter Try.func35, Try.ntmps35
  go_wp2_with fail
  obtain ⟨hx0, hx1, hx2, hxB, hxK⟩ := three_boxes w (.cells #[.slice none 0 0, .slice none 0 0, .slice none 0 0, .slice none 0 0, .int .i64 0, .slice none 0 0] 94) (.cells #[.bool false, .int .i64 sq, .slice LA LN LC, .slice A 0 ac, .slice DA 0 DC] 29) (.cells #[.slice none 0 0, .slice none 0 0, .slice none 0 0, .slice none 0 0, .int .i64 0, .slice none 0 0] 94)
  generalize (((w.alloc (.cells #[.slice none 0 0, .slice none 0 0, .slice none 0 0, .slice none 0 0, .int .i64 0, .slice none 0 0] 94)).alloc (.cells #[.bool false, .int .i64 sq, .slice LA LN LC, .slice A 0 ac, .slice DA 0 DC] 29)).alloc (.cells #[.slice none 0 0, .slice none 0 0, .slice none 0 0, .slice none 0 0, .int .i64 0, .slice none 0 0] 94)) = y at *
  refine (HCK.out _ hxK).mono ?_
  rintro e w1 ⟨rfl, hb1⟩
  have hy0 := (hb1.block _ (heap_lt hx0)).trans hx0
  have hy1 := (hb1.block _ (heap_lt hx1)).trans hx1
  have hy2 := (hb1.block _ (heap_lt hx2)).trans hx2
  have hyB : Below w.heap.size w w1 := hxB.trans (hb1.mono hxB.size)
  have hyL := Rows.keep (Rows.mono HL.out (G := (· < w.heap.size)) (fun g hg _ => hg)) (Keep.of_below hyB (F := (· < w.heap.size)) (fun g _ hf => hf)) (fun _ _ hf _ => hf)
  have a0 := cell_of_block hy0 0
  have a1 := cell_of_block hy0 1
  have a2 := cell_of_block hy0 2
  have a3 := cell_of_block hy0 3
  have b0 := cell_of_block hy1 0
  have b3 := cell_of_block hy1 3
  have b4 := cell_of_block hy1 4
  have hl1' := heap_lt hy1
  have hl2' := heap_lt hy2
  have hl0' := heap_lt hy0
  simp at a0 a1 a2 a3 b0 b3 b4
  have HY1 := Lib.hid hy1
  have HY2 := Lib.hid hy2
  have HYB := Lib.hid hyB
  have HYL := Lib.hid hyL
  clear hb1 hx0 hx1 hx2 hxB hxK hy0 hy1 hy2 hyB hyL HCK HL
  go_wp2_with fail
  refine (vapply_nil _ A DA ac DC).mono ?_
  rintro e w2 ⟨rfl, hb2⟩
  have hyB2 : Below w.heap.size w w2 := (HYB.out.alloc HYB.out.size _).trans (hb2.mono (by have := HYB.out.size; simp; omega))
  have hk2 : Keep (· < w1.heap.size) w1 w2 := ((Keep.refl _ _).alloc _).trans (Keep.of_below hb2 (F := (· < w1.heap.size)) (fun g _ hf => by simp; omega))
  have hz1 := (hk2.block _ hl1' hl1').trans HY1.out
  have hz2 := (hk2.block _ hl2' hl2').trans HY2.out
  have hzL := Rows.keep HYL.out hk2 (fun g hg _ _ => hg)
  have HZ1 := Lib.hid hz1
  have HZ2 := Lib.hid hz2
  have HZB := Lib.hid hyB2
  have HZL := Lib.hid hzL
  clear hb2 hyB2 hk2 hz1 hz2 hzL HY1 HY2 HYB HYL a0 a1 a2 a3 b0 b3 b4
  unfold nil4
  go_upto_region 10 with fail
  have hm := heap_alloc_new w2 (.cells nil4 92)
  have hr := (Below.heap_alloc w2 (.cells nil4 92) _ (heap_lt HZ1.out)).trans HZ1.out
  have ht := (Below.heap_alloc w2 (.cells nil4 92) _ (heap_lt HZ2.out)).trans HZ2.out
  have hB : Below w.heap.size w (w2.alloc (.cells nil4 92)) := HZB.out.alloc HZB.out.size _
  have hL := Rows.alloc HZL.out (.cells nil4 92)
  have hlr := heap_lt hr
  have hlt := heap_lt ht
  have hlm := heap_lt hm
  have hgt : w.heap.size + 1 + 1 < w2.heap.size := heap_lt HZ2.out
  unfold nil4 at hm hr ht hB hL hlr hlt hlm
  generalize w2.alloc (.cells #[.slice none 0 0, .slice none 0 0, .slice none 0 0, .slice none 0 0] 92) = y2 at *
  generalize w2.heap.size = M at *
  generalize hTe : w.heap.size + 1 + 1 = T at *
  generalize hRe : w.heap.size + 1 = R at *
  have hRT : R ≠ T := by omega
  have hMT : M ≠ T := by omega
  have hwT : w.heap.size ≤ T := by omega
  have hRM : R < M := by omega
  clear hTe hRe
  have m0 := cell_of_block hm 0
  have m1 := cell_of_block hm 1
  have m2 := cell_of_block hm 2
  have m3 := cell_of_block hm 3
  have r1 := cell_of_block hr 1
  have r2 := cell_of_block hr 2
  have t0 := cell_of_block ht 0
  have t1 := cell_of_block ht 1
  have t2 := cell_of_block ht 2
  have t3 := cell_of_block ht 3
  have t4 := cell_of_block ht 4
  have t5 := cell_of_block ht 5
  have hf : ∀ i, y2.frozen? ⟨T, i, none⟩ = false := fun i => frozen_of_block ht i
  simp at m0 m1 m2 m3 r1 r2 t0 t1 t2 t3 t4 t5
  have HCL := Lib.hid (cloneInts_any y2.drew _ _ logs hL (by omega))
  have hln : Hid (LN = logs.length) := by
    obtain ⟨_, A', c', h, _⟩ := hL
    injection h
  have HT := Lib.hid ht
  have HTD : Hid (y2.drew.heap[T]? = some (.cells #[.slice none 0 0, .slice none 0 0, .slice none 0 0, .slice none 0 0, .int .i64 0, .slice none 0 0] 94 (0, 0))) := HT.out
  have HLMD : Hid (M < y2.drew.heap.size) := hlm
  have HLRD : Hid (R < y2.drew.heap.size) := hlr
  have HLD : Hid (T < y2.drew.heap.size) := hlt
  have HMD : Hid (y2.drew.heap[M]? = some (.cells #[.slice none 0 0, .slice none 0 0, .slice none 0 0, .slice none 0 0] 92 (0, 0))) := hm
  have HRD : Hid (y2.drew.heap[R]? = some (.cells #[.bool false, .int .i64 sq, .slice LA LN LC, .slice A 0 ac, .slice DA 0 DC] 29 (0, 0))) := hr
  have HB := Lib.hid hB
  clear HZ1 HZ2 HZB HZL ht hB hL
  go_region_with ((go_at_call 81; refine (HCL.out).mono ?_; rintro e w3 ⟨v3, rfl, ho3, hb3⟩; have hT3 := blk_below hb3 HTD.out HLD.out; have u0 := cell_of_block hT3 0; have u1 := cell_of_block hT3 1; have u2 := cell_of_block hT3 2; have u3 := cell_of_block hT3 3; have u4 := cell_of_block hT3 4; have u5 := cell_of_block hT3 5; have uf := (fun i => frozen_of_block hT3 i); have hM3 := blk_below hb3 HMD.out HLMD.out; have m0' := cell_of_block hM3 0; have m1' := cell_of_block hM3 1; have m2' := cell_of_block hM3 2; have m3' := cell_of_block hM3 3; have hR3 := blk_below hb3 HRD.out HLRD.out; have r1' := cell_of_block hR3 1; have r2' := cell_of_block hR3 2; simp at u0 u1 u2 u3 u4 u5 m0' m1' m2' m3' r1' r2'; obtain ⟨A3, c3, rfl⟩ := own_form ho3))
  all_goals
    go_wp2_with fail
    have hq := box6_set hT3 (.slice none 0 0) (.slice none 0 0) (.slice none 0 0) (.slice none 0 0) (.int .i64 sq) (.slice A3 logs.length c3)
    revert hq
    generalize (((((w3.setCell ⟨T, 0, none⟩ (.slice none 0 0)).setCell ⟨T, 1, none⟩ (.slice none 0 0)).setCell ⟨T, 2, none⟩ (.slice none 0 0)).setCell ⟨T, 3, none⟩ (.slice none 0 0)).setCell ⟨T, 4, none⟩ (.int .i64 sq)).setCell ⟨T, 5, none⟩ (.slice A3 logs.length c3) = W'
    rintro ⟨q1, q2⟩
    have g0 := cell_of_block q1 0
    have g1 := cell_of_block q1 1
    have g2 := cell_of_block q1 2
    have g3 := cell_of_block q1 3
    have g4 := cell_of_block q1 4
    have g5 := cell_of_block q1 5
    simp at g0 g1 g2 g3 g4 g5
    refine bodyPost_ret (v := .tuple #[.agg #[.slice none 0 0, .slice none 0 0, .slice none 0 0, .slice none 0 0, .int .i64 sq, .slice A3 logs.length c3], .int .i64 0]) (by simp [results, Try.results35, go_sem, Act.put, g0, g1, g2, g3, g4, g5]) rfl ?_
    have hyz := HB.out.size
    have hHL := HLD.out
    have hdz : y2.drew.heap.size = y2.heap.size := rfl
    refine ⟨A3, c3, rfl, ((Rows.of_own ho3).keep q2 (fun g _ hf _ => by omega)).mono (fun _ _ _ => trivial), ?_⟩
    have hbd : Below w.heap.size w y2.drew := ⟨HB.out.os, HB.out.tape, HB.out.output, HB.out.size, HB.out.block⟩
    have hb3' : Below w.heap.size y2.drew w3 := hb3.mono hbd.size
    have hb4 : Below w.heap.size w w3 := hbd.trans hb3'
    have hq2 : Keep (· < w.heap.size) w3 W' := q2.mono (fun g _ hf => Nat.ne_of_lt (Nat.lt_of_lt_of_le hf hwT))
    exact hb4.trans (hq2.below hb4.size)
end Go.Proofs.Ytejfejckmhoolaa
