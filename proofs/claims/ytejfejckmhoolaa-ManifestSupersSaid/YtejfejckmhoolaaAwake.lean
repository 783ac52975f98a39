/- tithebarnlaw16.awake. -/
import Derived.Test.YtejfejckmhoolaaClone
import Derived.Test.YtejfejckmhoolaaParse
set_option linter.unusedSimpArgs false
set_option linter.unusedVariables false
namespace Go.Proofs.Ytejfejckmhoolaa
open Go.RowKit

def ReplayPost (w : World) (sq : Int) (logs : List Int) (e : Ending) (w' : World) : Prop :=
  ∃ A c, e = .returned (.tuple #[.agg #[.slice none 0 0, .slice none 0 0, .slice none 0 0, .slice none 0 0, .int .i64 sq, .slice A logs.length c], .int .i64 0]) ∧ Ints w' (fun _ => True) (.slice A logs.length c) logs ∧ Below w.heap.size w w'
theorem two_boxes (w : World) (o0 o1 : Obj) : ((w.alloc o0).alloc o1).heap[w.heap.size]? = some o0 ∧ ((w.alloc o0).alloc o1).heap[w.heap.size + 1]? = some o1 ∧
    Below w.heap.size w ((w.alloc o0).alloc o1) ∧ Keep (fun _ => True) w ((w.alloc o0).alloc o1) := by
  have h0 := heap_alloc_new w o0
  have h1 := heap_alloc_new (w.alloc o0) o1
  simp only [World.size_alloc] at h1
  exact ⟨(Below.heap_alloc _ _ _ (by simp)).trans h0, h1, ((Below.refl _ w).alloc (Nat.le_refl _) _).alloc (by simp) _, ((Keep.refl _ _).alloc _).alloc _⟩
set_option maxRecDepth 100000 in
set_option maxHeartbeats 2000000 in
theorem replay_one (w : World) (F : Nat → Prop) (g : Nat) (cap : Nat) (bv : Value) (b : Byts) (sq : Int) (logs : List Int) (hg : w.heap[g]? = some (.cells #[bv] 22 (0, 0))) (hb : Bts w F bv b) (hbl : b.length ≤ 1000000) (hp : parseRec b = some ⟨false, sq, logs, [], []⟩) (hl1 : logs.length ≤ 1000) (hok : recOk ⟨false, sq, logs, [], []⟩ = true) :
    Calls Try.prog 39 #[.slice (some ⟨g, 0, none⟩) 1 cap] w (ReplayPost w sq logs) := by
  have hgl := heap_lt hg
  obtain ⟨_, BA, BC, rfl, _, _⟩ := id hb
  have HPA := Lib.hid (fun wx (hk : Keep (fun _ => True) w wx) => parse_any wx F _ b (Rows.keep hb hk (fun _ _ _ _ => trivial)) hbl)
  rw [hp] at HPA
  generalize b.length = bn at *
  have HG := Lib.hid hg
  clear hb hg hp hbl
  go_enter Try.func39, Try.ntmps39
  go_wp2_with fail
  obtain ⟨hx0, hx1, hxB, hxK⟩ := two_boxes w (.cells #[.slice none 0 0, .slice none 0 0, .slice none 0 0, .slice none 0 0, .int .i64 0, .slice none 0 0] 94) (.cells #[.slice none 0 0, .slice none 0 0, .slice none 0 0, .slice none 0 0, .int .i64 0, .slice none 0 0] 94)
  generalize ((w.alloc (.cells #[.slice none 0 0, .slice none 0 0, .slice none 0 0, .slice none 0 0, .int .i64 0, .slice none 0 0] 94)).alloc (.cells #[.slice none 0 0, .slice none 0 0, .slice none 0 0, .slice none 0 0, .int .i64 0, .slice none 0 0] 94)) = y at *
  have cg : y.cell? ⟨g, 0, none⟩ = some (.slice BA bn BC) := (hxK.cell (a := ⟨g, 0, none⟩) hgl trivial).trans (by simpa using cell_of_block HG.out 0)
  have HX0 := Lib.hid hx0
  have HX1 := Lib.hid hx1
  have HXB := Lib.hid hxB
  have hl0 := heap_lt hx0
  have hl1' := heap_lt hx1
  have HPY := Lib.hid (HPA.out y hxK)
  clear hx0 hx1 hxB hxK HPA
  refine wp_loop_rounds 2 ?_
  rw [rounds_succ]
  go_wp2_with fail
  refine (HPY.out).mono ?_
  rintro e w1 ⟨hb1, lv, av, dv, ps, rfl, hps, hL, hD, hA⟩
  obtain rfl : ps = [] := List.map_eq_nil_iff.1 hps
  simp only [recCells]
  obtain ⟨LA, LN, LC, rfl⟩ : ∃ A n c, lv = .slice A n c := by
    obtain ⟨_, A, c, h, _⟩ := hL
    exact ⟨A, _, c, h⟩
  obtain ⟨DA, DN, DC, rfl⟩ : ∃ A n c, dv = .slice A n c := by
    obtain ⟨_, A, c, h, _⟩ := hD
    exact ⟨A, _, c, h⟩
  obtain ⟨AA, AN, AC, rfl⟩ : ∃ A n c, av = .slice A n c := by
    obtain ⟨⟨_, A, c, h, _⟩, _⟩ := hA
    exact ⟨A, _, c, h⟩
  have hy0 := blk_below hb1 HX0.out hl0
  have hy1 := blk_below hb1 HX1.out hl1'
  have a0 := cell_of_block hy1 0
  have a1 := cell_of_block hy1 1
  have a2 := cell_of_block hy1 2
  have a3 := cell_of_block hy1 3
  have a4 := cell_of_block hy1 4
  have a5 := cell_of_block hy1 5
  simp at a0 a1 a2 a3 a4 a5
  have hm0 := heap_lt hy0
  have hm1 := heap_lt hy1
  have hbW : Below w.heap.size w w1 := HXB.out.trans (hb1.mono HXB.out.size)
  have HSA := Lib.hid (fun o => sapply_nil (w1.alloc o) (fun _ => True) sq logs _ _ _ (Rows.alloc hL o) (Rows.alloc hD o) ⟨Rows.alloc hA.1 o, fun p hp => by cases hp⟩ hl1 hok)
  simp only [recCells] at HSA
  have HY0 := Lib.hid hy0
  have HY1 := Lib.hid hy1
  have HBW := Lib.hid hbW
  clear hb1 hps hL hD hA HX0 HX1 HXB HPY hy0 hy1 hbW cg
  go_wp2_with fail
  refine (HSA.out _).mono ?_
  rintro e w2 ⟨A3, c3, rfl, hI, hb2⟩
  have hz0 := blk_below hb2 ((Below.heap_alloc w1 _ _ hm0).trans HY0.out) (by simp; omega)
  have hz1 := blk_below hb2 ((Below.heap_alloc w1 _ _ hm1).trans HY1.out) (by simp; omega)
  have b0 := cell_of_block hz1 0
  have b1 := cell_of_block hz1 1
  have b2 := cell_of_block hz1 2
  have b3 := cell_of_block hz1 3
  have b4 := cell_of_block hz1 4
  have b5 := cell_of_block hz1 5
  have r0 := cell_of_block hz0 0
  have r1 := cell_of_block hz0 1
  have r2 := cell_of_block hz0 2
  have r3 := cell_of_block hz0 3
  have r4 := cell_of_block hz0 4
  have r5 := cell_of_block hz0 5
  have hf0 : ∀ i, w2.frozen? ⟨w.heap.size, i, none⟩ = false := fun i => frozen_of_block hz0 i
  have hf1 : ∀ i, w2.frozen? ⟨w.heap.size + 1, i, none⟩ = false := fun i => frozen_of_block hz1 i
  simp at b0 b1 b2 b3 b4 b5 r0 r1 r2 r3 r4 r5
  have hbW2 : Below w.heap.size w w2 := (HBW.out.alloc HBW.out.size _).trans (hb2.mono (by have := HBW.out.size; simp; omega))
  have HZ0 := Lib.hid hz0
  have HZ1 := Lib.hid hz1
  have HBW2 := Lib.hid hbW2
  have HI := Lib.hid hI
  have hH : w.heap.size < w2.heap.size := heap_lt hz0
  clear hb2 hz0 hz1 hbW2 hI HY0 HY1 HBW HSA a0 a1 a2 a3 a4 a5
  generalize hTe : w.heap.size + 1 = T at *
  have hTn : w.heap.size ≠ T := by omega
  have hTn2 : T ≠ w.heap.size := by omega
  have hTw : w.heap.size < T := by omega
  clear hTe
  go_wp2_with fail
  rw [rounds_succ]
  go_wp2_with fail
  have k1 := keep_set6 (w := w2) T (.slice none 0 0) (.slice none 0 0) (.slice none 0 0) (.slice none 0 0) (.int .i64 sq) (.slice A3 logs.length c3)
  have hq0 := blk_of k1 HZ0.out hTn
  revert k1 hq0
  generalize ((((((w2.setCell ⟨T, 0, none⟩ (.slice none 0 0)).setCell ⟨T, 1, none⟩ (.slice none 0 0)).setCell ⟨T, 2, none⟩ (.slice none 0 0)).setCell ⟨T, 3, none⟩ (.slice none 0 0)).setCell ⟨T, 4, none⟩ (.int .i64 sq)).setCell ⟨T, 5, none⟩ (.slice A3 logs.length c3)) = W1
  intro k1 hq0
  have hq := box6_set hq0 (.slice none 0 0) (.slice none 0 0) (.slice none 0 0) (.slice none 0 0) (.int .i64 sq) (.slice A3 logs.length c3)
  revert hq
  generalize ((((((W1.setCell ⟨w.heap.size, 0, none⟩ (.slice none 0 0)).setCell ⟨w.heap.size, 1, none⟩ (.slice none 0 0)).setCell ⟨w.heap.size, 2, none⟩ (.slice none 0 0)).setCell ⟨w.heap.size, 3, none⟩ (.slice none 0 0)).setCell ⟨w.heap.size, 4, none⟩ (.int .i64 sq)).setCell ⟨w.heap.size, 5, none⟩ (.slice A3 logs.length c3)) = W'
  rintro ⟨q1, q2⟩
  have g0 := cell_of_block q1 0
  have g1 := cell_of_block q1 1
  have g2 := cell_of_block q1 2
  have g3 := cell_of_block q1 3
  have g4 := cell_of_block q1 4
  have g5 := cell_of_block q1 5
  simp at g0 g1 g2 g3 g4 g5
  refine bodyPost_ret (v := .tuple #[.agg #[.slice none 0 0, .slice none 0 0, .slice none 0 0, .slice none 0 0, .int .i64 sq, .slice A3 logs.length c3], .int .i64 0]) (by simp [results, Try.results39, go_sem, g0, g1, g2, g3, g4, g5]) rfl ?_
  have hty : ∀ {g e}, tyOf w2 g = some e → e ≠ 94 → g ≠ w.heap.size ∧ g ≠ T := by
    intro g e h1 h2
    constructor
    · rintro rfl; rw [tyOf_of HZ0.out] at h1; injection h1 with h1; exact h2 h1.symm
    · rintro rfl; rw [tyOf_of HZ1.out] at h1; injection h1 with h1; exact h2 h1.symm
  have hk : Keep (fun g => g ≠ w.heap.size ∧ g ≠ T) w2 W' := (k1.mono (fun g _ hf => hf.2)).trans (q2.mono (fun g _ hf => hf.1))
  refine ⟨A3, c3, rfl, Rows.keep HI.out hk (fun g _ _ ht => hty ht (by decide)), HBW2.out.trans ((hk.mono (fun g _ hf => ?_)).below HBW2.out.size)⟩
  omega

def awakeRec : Rec := ⟨false, 5, [3], [], []⟩
theorem awake_ok : recOk awakeRec = true := by decide
theorem awake_bytes : recBytesS awakeRec = some [0, 5, 1, 3, 0, 0] := by
  have h : recBytesS awakeRec = some (recEnc awakeRec) := by
    unfold recBytesS
    rw [if_pos awake_ok]
  rw [h]
  simp [recEnc, recFront, awakeRec, boolEnc, listEnc, numsEnc, placesEnc, numEnc_lt]
theorem awake_parse : parseRec [0, 5, 1, 3, 0, 0] = some ⟨false, 5, [3], [], []⟩ := by rfl
set_option maxRecDepth 100000 in
set_option maxHeartbeats 2000000 in
theorem awake_any (w : World) : Calls Try.prog 10 #[] w (BoolBelow w true) := by
  go_enter Try.func10, Try.ntmps10
  go_wp2_with fail
  have hL : Ints (w.alloc (.cells #[.int .i64 3] 3)) (fun _ => True) (.slice (some ⟨w.heap.size, 0, none⟩) 1 1) [3] := Rows.one w (fun _ => True) 3 [.int .i64 3] 1 rfl trivial 1 (by omega)
  have hrb := recordBytes_any (w.alloc (.cells #[.int .i64 3] 3)) (fun _ => True) awakeRec (.slice (some ⟨w.heap.size, 0, none⟩) 1 1) (.slice none 0 0) (.slice none 0 0) [] hL (Rows.nil _ _ _ _ _ _) ⟨Rows.nil _ _ _ _ _ _, fun p hp => by cases hp⟩ rfl (by simp [awakeRec]) (by simp [awakeRec]) (by simp [awakeRec])
  rw [awake_bytes] at hrb
  simp only [recCells, awakeRec] at hrb
  have HRB := Lib.hid hrb
  clear hrb hL
  refine (HRB.out).mono ?_
  rintro e w1 ⟨hb1, v, rfl, hbt⟩
  obtain ⟨_, BA, BC, rfl, _, _⟩ := id hbt
  have hbW : Below w.heap.size w w1 := ((Below.refl _ w).alloc (Nat.le_refl _) _).trans (hb1.mono (by simp))
  have hrp := replay_one (w1.alloc (.cells #[.slice BA 6 BC] 22)) _ w1.heap.size 1 _ [0, 5, 1, 3, 0, 0] 5 [3] (heap_alloc_new _ _) (Rows.alloc hbt _) (by simp) awake_parse (by simp) awake_ok
  have HBT := Lib.hid hbt
  have HBW := Lib.hid hbW
  have HRP := Lib.hid hrp
  simp only [List.length_cons, List.length_nil, Nat.zero_add, Nat.reduceAdd]
  clear hb1 hbt hbW hrp HRB
  go_wp2_with fail
  refine (HRP.out).mono ?_
  rintro e w2 ⟨A3, c3, rfl, hI, hb2⟩
  simp only [List.length_cons, List.length_nil, Nat.zero_add, Nat.reduceAdd]
  have hbW2 : Below w.heap.size w w2 := (HBW.out.alloc HBW.out.size _).trans (hb2.mono (by have := HBW.out.size; simp; omega))
  have hbt2 := Rows.keep HBT.out (((Keep.refl (fun g => g < w1.heap.size) _).alloc _).trans (Keep.of_below hb2 (F := fun g => g < w1.heap.size) (fun g _ hf => by simp; omega))) (fun g hg _ _ => hg)
  have HBT2 := Lib.hid hbt2
  have HBW2 := Lib.hid hbW2
  clear hb2 hbt2 hbW2 hI HBT HBW HRP
  go_upto_region 3 with fail
  have hcv := run_bytes_string (P := Try.prog) (src := 22) (dst := 9) Try.underlying22 Try.underlying5 Try.underlying9 (Rows.alloc HBT2.out (.cells #[.slice none 0 0, .slice none 0 0, .slice none 0 0, .slice none 0 0, .int .i64 5, .slice A3 1 c3] 94))
  simp only [List.length_cons, List.length_nil, Nat.zero_add, Nat.reduceAdd] at hcv
  have hse : ((strOf [0, 5, 1, 3, 0, 0]).toList == [0, 5, 1, 3, 0, 0]) = true := by
    rw [ByteArray.toList_eq]
    rfl
  go_wp2_with fail
  go_ret
  exact ⟨rfl, HBW2.out.alloc HBW2.out.size _⟩
end Go.Proofs.Ytejfejckmhoolaa
