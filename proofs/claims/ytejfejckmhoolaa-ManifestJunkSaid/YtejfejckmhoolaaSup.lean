/- manifest.Super: right, Bytes, ParseSuper. -/
import Derived.Test.YtejfejckmhoolaaWS
import Derived.Test.YtejfejckmhoolaaVer0
import Derived.Test.YtejfejckmhoolaaClone
import Derived.Test.YtejfejckmhoolaaKey
set_option linter.unusedSimpArgs false
set_option linter.unusedVariables false
namespace Go.Proofs.Ytejfejckmhoolaa
open Go.RowKit

def supOk (g z : Int) : Bool := decide (1 ≤ g ∧ g ≤ 1099511627776 ∧ 0 ≤ z ∧ z < 64)
def supEnc (g z : Int) : Byts := numEnc g.toNat ++ numEnc z.toNat
def supV (g z : Int) : Value := .agg #[.int .i64 g, .int .i64 z]

set_option maxHeartbeats 1000000 in
theorem supRight_any (g z : Int) (w : World) : Calls Try.prog 76 #[.agg #[.int .i64 g, .int .i64 z]] w (BoolBelow w (supOk g z)) := by
  obtain ⟨n, hn⟩ : ∃ n, Hid (n = supOk g z) := ⟨_, rfl⟩
  rw [← hn.out]
  have hn2 := hn.out
  unfold supOk at hn2
  by_cases h1 : 1 ≤ g
  · by_cases h2 : g ≤ 1099511627776
    · by_cases h3 : 0 ≤ z
      · by_cases h4 : z < 64
        · rw [decide_eq_true ⟨h1, h2, h3, h4⟩] at hn2
          subst hn2
          clear hn
          go_enter Try.func76, Try.ntmps76
          go_wp2
          go_ret
          exact ⟨rfl, (Below.refl _ _).alloc (Nat.le_refl _) _⟩
        · (rw [decide_eq_false (fun hh => by omega)] at hn2; subst hn2; clear hn; go_enter Try.func76, Try.ntmps76; go_wp2; go_ret; exact ⟨rfl, (Below.refl _ _).alloc (Nat.le_refl _) _⟩)
      · (rw [decide_eq_false (fun hh => by omega)] at hn2; subst hn2; clear hn; go_enter Try.func76, Try.ntmps76; go_wp2; go_ret; exact ⟨rfl, (Below.refl _ _).alloc (Nat.le_refl _) _⟩)
    · (rw [decide_eq_false (fun hh => by omega)] at hn2; subst hn2; clear hn; go_enter Try.func76, Try.ntmps76; go_wp2; go_ret; exact ⟨rfl, (Below.refl _ _).alloc (Nat.le_refl _) _⟩)
  · (rw [decide_eq_false (fun hh => by omega)] at hn2; subst hn2; clear hn; go_enter Try.func76, Try.ntmps76; go_wp2; go_ret; exact ⟨rfl, (Below.refl _ _).alloc (Nat.le_refl _) _⟩)

/-- What Super.Bytes gives. -/
def SBPost (w : World) (g z : Int) (e : Ending) (w' : World) : Prop :=
  Below w.heap.size w w' ∧ if supOk g z = true then ∃ v, e = .returned (.tuple #[v, .int .i64 0]) ∧ Bts w' (w.heap.size ≤ ·) v (supEnc g z) else e = .returned (.tuple #[.slice none 0 0, .int .i64 20])

set_option maxRecDepth 100000 in
set_option maxHeartbeats 2000000 in
theorem supBytes_any (g z : Int) (w : World) : Calls Try.prog 29 #[.agg #[.int .i64 g, .int .i64 z]] w (SBPost w g z) := by
  have HR := Lib.hid (fun wx => supRight_any g z wx)
  by_cases hok : supOk g z = true
  · rw [hok] at HR
    suffices hs : Calls Try.prog 29 #[.agg #[.int .i64 g, .int .i64 z]] w (fun e w' => Below w.heap.size w w' ∧ ∃ v, e = .returned (.tuple #[v, .int .i64 0]) ∧ Bts w' (w.heap.size ≤ ·) v (supEnc g z)) from
      hs.mono fun e w' ⟨h1, h2⟩ => ⟨h1, by rw [if_pos hok]; exact h2⟩
    unfold supOk at hok
    simp only [decide_eq_true_eq] at hok
    obtain ⟨g0, g1, z0, z1⟩ := hok
    obtain ⟨gn, rfl⟩ := Int.eq_ofNat_of_zero_le (show 0 ≤ g by omega)
    obtain ⟨zn, rfl⟩ := Int.eq_ofNat_of_zero_le z0
    go_enter Try.func29, Try.ntmps29
    have hbx := heap_alloc_new w (.cells #[.int .i64 (gn : Int), .int .i64 (zn : Int)] 78)
    have HBX := Lib.hid hbx
    clear hbx
    go_wp2_with fail
    refine (HR.out _).mono ?_
    rintro e v1 ⟨rfl, hb1⟩
    have hbc := blk_below hb1 HBX.out (by simp)
    have hs0 : w.heap.size < v1.heap.size := heap_lt hbc
    have HK0 := Lib.hid (show Below w.heap.size w v1 from ((Below.refl _ _).alloc (Nat.le_refl _) _).trans (hb1.mono (by simp)))
    have HBC := Lib.hid hbc
    clear hb1 hbc HBX HR
    go_upto_region 4 with fail
    have hw0 : WS v1 (v1.alloc (.cells #[.slice none 0 0, .bool false] 165)) v1.heap.size [] 0 :=
      ⟨⟨.slice none 0 0, heap_alloc_new _ _, World.ownsRow_nil _ _ _ _, fun g h => by simp [Value.ownBlock] at h⟩, (Keep.refl _ _).alloc _, Nat.le_refl _, by simp⟩
    have HW0 := Lib.hid hw0
    have hbc := (Below.heap_alloc v1 (.cells #[.slice none 0 0, .bool false] 165) _ hs0).trans HBC.out
    have HBC2 := Lib.hid hbc
    clear hw0 hbc HBC
    generalize v1.alloc (.cells #[.slice none 0 0, .bool false] 165) = y0 at *
    obtain ⟨X, hXe⟩ : ∃ X, Hid (X = v1.heap.size) := ⟨_, rfl⟩
    rw [← hXe.out] at HW0 ⊢
    have hHX : w.heap.size ≠ X := by have := hXe.out; omega
    have c0 := cell_of_block HBC2.out 0
    have c1 := cell_of_block HBC2.out 1
    simp at c0 c1
    have hb0 := HBC2.out
    have HWD := Lib.hid HW0.out.drew
    go_region_held3 (fun w' => w'.heap[w.heap.size]? = some (.cells #[.int .i64 (gn : Int), .int .i64 (zn : Int)] 78 (0, 0)) ∧ w'.cell? ⟨w.heap.size, 0, none⟩ = some (.int .i64 (gn : Int)) ∧ w'.cell? ⟨w.heap.size, 1, none⟩ = some (.int .i64 (zn : Int))) ((go_split_ands; refine (fun hb => ⟨hb, by simpa using cell_of_block hb 0, by simpa using cell_of_block hb 1⟩) ?_; first | assumption | exact blk_keep hk1.2 (by assumption) (by decide) hHX | exact blk_below hbz (by assumption) (heap_lt (by assumption))))
      (first | (go_at_call_of 77 (Value.int .i64 (gn : Int)); refine (ws_num HWD.out gn (by omega) (by omega)).mono ?_; rintro e x1 ⟨rfl, hk1⟩; have HW1 := Lib.hid hk1.1) | (go_at_call_of 77 (Value.int .i64 (zn : Int)); refine (ws_num HW1.out zn (by omega) (by omega)).mono ?_; rintro e x2 ⟨rfl, hk1⟩; have HW3 := Lib.hid hk1.1) | (go_at_call 78; refine (wbytes_any X _ _ false _ HW3.out.wtr (by have := HW3.out.le; omega)).mono ?_; rintro e wz ⟨hbz, hz⟩; obtain ⟨-, v, rfl, hbv⟩ := hz.resolve_left (fun h => by cases h.1); have HBZ := Lib.hid hbz; have HBV := Lib.hid hbv))
    all_goals go_wp2_with fail
    go_ret2
    have hsz := HW3.out.keep.size
    have hk1 : Keep (fun g => g < w.heap.size) w wz := (Keep.of_below HK0.out (F := fun g => g < w.heap.size) (fun g _ hf => hf)).trans ((HW3.out.keep.mono (fun g _ hf => by omega)).trans (Keep.of_below HBZ.out (F := fun g => g < w.heap.size) (fun g _ hf => by omega)))
    refine ⟨hk1.below (Nat.le_refl _), v, rfl, ?_⟩
    have h := HBV.out.mono (G := (w.heap.size ≤ ·)) (fun g _ hg => by omega)
    simpa [supEnc, Bts] using h
  · have hok2 : supOk g z = false := by simpa using hok
    rw [hok2] at HR
    suffices hs : Calls Try.prog 29 #[.agg #[.int .i64 g, .int .i64 z]] w (fun e w' => Below w.heap.size w w' ∧ e = .returned (.tuple #[.slice none 0 0, .int .i64 20])) from
      hs.mono fun e w' ⟨h1, h2⟩ => ⟨h1, by rw [if_neg hok]; exact h2⟩
    clear hok hok2
    go_enter Try.func29, Try.ntmps29
    go_wp2_with fail
    refine (HR.out _).mono ?_
    rintro e v1 ⟨rfl, hb1⟩
    go_wp2_with fail
    go_ret2
    exact ⟨((Below.refl _ _).alloc (Nat.le_refl _) _).trans (hb1.mono (by simp)), rfl⟩

theorem box2_set {w : World} {g : Nat} {x0 x1 : Value} {t : TypeId} {fr : Nat × Nat} (h : w.heap[g]? = some (.cells #[x0, x1] t fr)) (a b : Value) :
    ((w.setCell ⟨g, 0, none⟩ a).setCell ⟨g, 1, none⟩ b).heap[g]? = some (.cells #[a, b] t fr) ∧ Keep (· ≠ g) w ((w.setCell ⟨g, 0, none⟩ a).setCell ⟨g, 1, none⟩ b) := by
  constructor
  · simpa using heap_setCell_of (heap_setCell_of h 0 a) 1 b
  · exact ((Keep.refl _ _).setCell (a := ⟨g, 0, none⟩) (fun _ hf => hf rfl) _).setCell (a := ⟨g, 1, none⟩) (fun _ hf => hf rfl) _

/-- What ParseSuper tells. -/
def supS (b : Byts) : Option (Nat × Nat) :=
  if doneS (numS (numS (some b)).2).2 = 0 ∧ supOk (numS (some b)).1 (numS (numS (some b)).2).1 = true then some ((numS (some b)).1, (numS (numS (some b)).2).1) else none
def supR : Option (Nat × Nat) → Value
  | some (g, z) => .tuple #[.agg #[.int .i64 (g : Int), .int .i64 (z : Int)], .int .i64 0]
  | none => .tuple #[.agg #[.int .i64 0, .int .i64 0], .int .i64 20]
def SPPost (w : World) (o : Option (Nat × Nat)) (e : Ending) (w' : World) : Prop := e = .returned (supR o) ∧ Below w.heap.size w w'

set_option maxRecDepth 100000 in
set_option maxHeartbeats 2000000 in
theorem parseSup_any {Tb : TypeId} (w : World) (F0 : Nat → Prop) (bv : Value) (b : Byts) (hb : Rows w F0 Tb 1 bv b.length (b.map byteV)) (hl : b.length ≤ 1000000) :
    Calls Try.prog 31 #[bv] w (SPPost w (supS b)) := by
  obtain ⟨A0, n0, c0, rfl⟩ : ∃ A n c, bv = .slice A n c := by
    obtain ⟨_, A, c, h, _⟩ := hb
    exact ⟨A, _, c, h⟩
  have hnr := newReader_any (w.alloc (.cells #[.int .i64 0, .int .i64 0] 78)) F0 _ b (hb.alloc _) hl
  have HNR := Lib.hid hnr
  have hbx := heap_alloc_new w (.cells #[.int .i64 0, .int .i64 0] 78)
  have HBX := Lib.hid hbx
  have HBB := Lib.hid (show Below w.heap.size w (w.alloc (.cells #[.int .i64 0, .int .i64 0] 78)) from (Below.refl _ _).alloc (Nat.le_refl _) _)
  clear hnr hb hbx
  unfold supS
  obtain ⟨⟨gn, s1⟩, hn1⟩ : ∃ p, Hid (numS (some b) = p) := ⟨_, rfl⟩
  obtain ⟨⟨zn, s2⟩, hn2⟩ : ∃ p, Hid (numS s1 = p) := ⟨_, rfl⟩
  rw [hn1.out]
  simp only
  rw [hn2.out]
  simp only
  have HN1 := hn1
  have HN2 := hn2
  clear hn1 hn2
  obtain ⟨o, ho⟩ : ∃ o, Hid (o = if doneS s2 = 0 ∧ supOk gn zn = true then some (gn, zn) else none) := ⟨_, rfl⟩
  rw [← ho.out]
  obtain ⟨H0, hH⟩ : ∃ H, Hid (H = w.heap.size) := ⟨_, rfl⟩
  go_enter Try.func31, Try.ntmps31
  go_wp2_with (go_at_call 42; refine (HNR.out).mono ?_; rintro e w1 ⟨R, rfl, hr1, hRR, hb1⟩)
  rw [← hH.out] at HBX HBB ⊢
  generalize w.alloc (.cells #[.int .i64 0, .int .i64 0] 78) = y0 at *
  have hH0 := heap_lt HBX.out
  have hB := blk_below hb1 HBX.out hH0
  have hX := heap_alloc_new w1 (.cells #[.int .i64 0, .int .i64 0] 78)
  have hR1 := hr1.lt
  have hr2 := hr1.alloc (.cells #[.int .i64 0, .int .i64 0] 78)
  have hK : Keep (· < y0.heap.size) y0 (w1.alloc (.cells #[.int .i64 0, .int .i64 0] 78)) := (Keep.of_below hb1 (fun g _ hf => hf)).alloc _
  have hXs : y0.heap.size ≤ w1.heap.size := hb1.size
  clear HNR hb1 hr1 hB
  generalize w1.alloc (.cells #[.int .i64 0, .int .i64 0] 78) = y1 at *
  obtain ⟨X, hXe⟩ : ∃ X, X = w1.heap.size := ⟨_, rfl⟩
  rw [← hXe] at hX hR1 hXs ⊢
  clear hXe
  have HR2 := Lib.hid hr2
  have HX := Lib.hid hX
  have HK := Lib.hid hK
  have hXR : X ≠ R := by omega
  clear hr2 hX hK
  go_wp2_with fail
  have hnm := number_any R y1 _ _ HR2.out
  rw [HN1.out] at hnm
  refine hnm.mono ?_
  clear hnm
  rintro e w2 ⟨rfl, hr2, hk2⟩
  simp only at hr2
  have hX2 := blk_of hk2 HX.out hXR
  have f2 := frozen_of_block hX2 0
  have c2 := cell_of_block hX2 0
  have hK2 := HK.out.trans (hk2.mono (fun g _ hf => by omega))
  simp at c2
  have hX3 := heap_setCell_of hX2 0 (.int .i64 (gn : Int))
  have hr3 := hr2.setOther hX2 (by decide) (by decide) 0 (.int .i64 (gn : Int))
  have hK3 := hK2.setCell (a := ⟨X, 0, none⟩) (fun _ hf => by simp only at hf; omega) (.int .i64 (gn : Int))
  simp at hX3
  have HX3 := Lib.hid hX3
  have HR3 := Lib.hid hr3
  have HK3 := Lib.hid hK3
  clear hX2 hK2 hX3 hr3 hK3 hr2 hk2 HR2 HX HK HN1
  go_wp2_with fail
  generalize w2.setCell ⟨X, 0, none⟩ (.int .i64 (gn : Int)) = y3 at *
  have hnm := number_any R y3 _ _ HR3.out
  rw [HN2.out] at hnm
  refine hnm.mono ?_
  clear hnm
  rintro e w4 ⟨rfl, hr4, hk4⟩
  simp only at hr4
  have hX4 := blk_of hk4 HX3.out hXR
  have f4 := frozen_of_block hX4 1
  have c4 := cell_of_block hX4 1
  have hK4 := HK3.out.trans (hk4.mono (fun g _ hf => by omega))
  simp at c4
  have hX5 := heap_setCell_of hX4 1 (.int .i64 (zn : Int))
  have hr5 := hr4.setOther hX4 (by decide) (by decide) 1 (.int .i64 (zn : Int))
  have hK5 := hK4.setCell (a := ⟨X, 1, none⟩) (fun _ hf => by simp only at hf; omega) (.int .i64 (zn : Int))
  simp at hX5
  have HX5 := Lib.hid hX5
  have HR5 := Lib.hid hr5
  have HK5 := Lib.hid hK5
  clear hX4 hK4 hX5 hr5 hK5 hr4 hk4 HR3 HX3 HK3 HN2 f2 c2
  go_wp2_with fail
  generalize w4.setCell ⟨X, 1, none⟩ (.int .i64 (zn : Int)) = y5 at *
  clear f4 c4
  have hd := done_any R y5 _ _ HR5.out
  have hX0 := cell_of_block HX5.out 0
  have hX1 := cell_of_block HX5.out 1
  simp at hX0 hX1
  have hB5 := blk_of HK5.out HBX.out hH0
  have HB5 := Lib.hid hB5
  clear hB5 HR5
  have ho2 := ho.out
  clear ho
  have HO := Lib.hid ho2
  clear ho2
  by_cases hd0 : doneS s2 = 0
  · rw [hd0] at hd HO
    have HD := Lib.hid hd
    clear hd hd0
    have hr := supRight_any gn zn y5
    generalize supOk gn zn = ok at *
    have HR := Lib.hid hr
    clear hr
    cases ok with
    | true =>
      go_wp2_with (first | (go_at_call 47; refine (HD.out).mono ?_; rintro e w6 ⟨rfl, rfl⟩) | (go_at_call 76; refine (HR.out).mono ?_; rintro e w7 ⟨rfl, hb7⟩; have hB7 := blk_below hb7 HB5.out (heap_lt HB5.out); have hX7 := blk_below hb7 HX5.out (heap_lt HX5.out); have f7 := (fun i => frozen_of_block hB7 i); have u0 := cell_of_block hB7 0; have u1 := cell_of_block hB7 1; have v0 := cell_of_block hX7 0; have v1 := cell_of_block hX7 1; simp at u0 u1 v0 v1))
      (have hcl := box2_set hB7 (.int .i64 (gn : Int)) (.int .i64 (zn : Int)); revert hcl; generalize (World.setCell w7 ⟨H0, 0, none⟩ (.int .i64 (gn : Int))).setCell ⟨H0, 1, none⟩ (.int .i64 (zn : Int)) = W'; rintro ⟨q3, q4⟩; have g0 := cell_of_block q3 0; have g1 := cell_of_block q3 1; simp at g0 g1; refine bodyPost_end (v := .tuple #[.agg #[(.int .i64 (gn : Int)), (.int .i64 (zn : Int))], .int .i64 0]) (by simp [results, Try.results31, go_sem, g0, g1]) rfl ?_)
      refine ⟨by rw [HO.out]; rfl, ?_⟩
      have hk := (HK5.out.trans (Keep.of_below hb7 (fun g _ hf => Nat.lt_of_lt_of_le hf HK5.out.size)))
      have hs := HBB.out.size
      rw [← hH.out] at hs ⊢
      exact ((HBB.out).trans (((hk.mono (fun g _ (hf : g < H0) => by omega)).trans (q4.mono (fun g _ (hf : g < H0) => by omega))).below (B := H0) (by omega)))
    | false =>
      go_wp2_with (first | (go_at_call 47; refine (HD.out).mono ?_; rintro e w6 ⟨rfl, rfl⟩) | (go_at_call 76; refine (HR.out).mono ?_; rintro e w7 ⟨rfl, hb7⟩; have hB7 := blk_below hb7 HB5.out (heap_lt HB5.out); have f7 := (fun i => frozen_of_block hB7 i); have u0 := cell_of_block hB7 0; have u1 := cell_of_block hB7 1; simp at u0 u1))
      (have hcl := box2_set hB7 (.int .i64 0) (.int .i64 0); revert hcl; generalize (World.setCell w7 ⟨H0, 0, none⟩ (.int .i64 0)).setCell ⟨H0, 1, none⟩ (.int .i64 0) = W'; rintro ⟨q3, q4⟩; have g0 := cell_of_block q3 0; have g1 := cell_of_block q3 1; simp at g0 g1; refine bodyPost_end (v := .tuple #[.agg #[(.int .i64 0), (.int .i64 0)], .int .i64 20]) (by simp [results, Try.results31, go_sem, g0, g1]) rfl ?_)
      refine ⟨by rw [HO.out]; rfl, ?_⟩
      have hk := (HK5.out.trans (Keep.of_below hb7 (fun g _ hf => Nat.lt_of_lt_of_le hf HK5.out.size)))
      have hs := HBB.out.size
      rw [← hH.out] at hs ⊢
      exact ((HBB.out).trans (((hk.mono (fun g _ (hf : g < H0) => by omega)).trans (q4.mono (fun g _ (hf : g < H0) => by omega))).below (B := H0) (by omega)))
  · have hd5 : doneS s2 = 20 := by
      revert hd0
      unfold doneS
      split <;> simp
    have ho3 : o = none := by rw [HO.out, if_neg (fun h => hd0 h.1)]
    rw [hd5] at hd
    have HD := Lib.hid hd
    have HO3 := Lib.hid ho3
    clear hd hd0 hd5 HO ho3
    have hB7 := HB5.out
    have f7 := (fun i => frozen_of_block hB7 i)
    have u0 := cell_of_block hB7 0
    have u1 := cell_of_block hB7 1
    simp at u0 u1
    go_wp2_with (go_at_call 47; refine (HD.out).mono ?_; rintro e w6 ⟨rfl, rfl⟩)
    (have hcl := box2_set hB7 (.int .i64 0) (.int .i64 0); revert hcl; generalize (World.setCell y5 ⟨H0, 0, none⟩ (.int .i64 0)).setCell ⟨H0, 1, none⟩ (.int .i64 0) = W'; rintro ⟨q3, q4⟩; have g0 := cell_of_block q3 0; have g1 := cell_of_block q3 1; simp at g0 g1; refine bodyPost_end (v := .tuple #[.agg #[(.int .i64 0), (.int .i64 0)], .int .i64 20]) (by simp [results, Try.results31, go_sem, g0, g1]) rfl ?_)
    refine ⟨by rw [HO3.out]; rfl, ?_⟩
    have hs := HBB.out.size
    rw [← hH.out] at hs ⊢
    exact ((HBB.out).trans (((HK5.out.mono (fun g _ (hf : g < H0) => by omega)).trans (q4.mono (fun g _ (hf : g < H0) => by omega))).below (B := H0) (by omega)))
end Go.Proofs.Ytejfejckmhoolaa
