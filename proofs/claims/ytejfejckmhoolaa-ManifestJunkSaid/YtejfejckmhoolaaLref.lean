/- tithebarnlaw16.refKey, ref. -/
import Derived.Test.YtejfejckmhoolaaPs
set_option linter.unusedSimpArgs false
set_option linter.unusedVariables false
namespace Go.Proofs.Ytejfejckmhoolaa
open Go.RowKit

def ValBelow (w : World) (v : Value) (e : Ending) (w' : World) : Prop := e = .returned v ∧ Below w.heap.size w w'
theorem lrefKey_any (k : Key) (w : World) : Calls Try.prog 50 #[k.val] w (ValBelow w k.val) := by
  obtain ⟨u, s, d⟩ := k
  unfold Key.val Key.cells
  go_enter Try.func50, Try.ntmps50
  go_wp2_with fail
  refine bodyPost_end (v := .agg #[.string u, .int .i64 s, .int .i64 d]) (by simp [results, Try.results50, go_sem]) rfl ?_
  exact ⟨rfl, ((Below.refl _ _).alloc (Nat.le_refl _) _).alloc (by simp) _⟩

/-- The document's rows of places: own, with their refs. -/
def Pl2 (w : World) (H : Nat) (av : Value) (ps : List (Place × Value)) : Prop :=
  OwnIn w (fun g => H ≤ g) 129 10 av ps.length (ps.flatMap plCells) ∧ ∀ p, p ∈ ps → RdRefs w (fun _ => True) 132 p.2 p.1.m.refs
theorem Pl2.keepT {w w' : World} {H : Nat} {av : Value} {ps : List (Place × Value)} {G : Nat → Prop} (h : Pl2 w H av ps) (hk : Keep G w w') (hG : ∀ g, g < w.heap.size → tyOf w g = some 129 ∨ tyOf w g = some 132 → G g) : Pl2 w' H av ps :=
  ⟨h.1.keepT hk (fun g hg _ ht => hG g hg (.inl ht)), fun p hp => Rows.keep (h.2 p hp) hk (fun g hg _ ht => hG g hg (.inr ht))⟩
/-- The state of ref: the result's cell, the variable out. -/
structure LS (W w : World) (H : Nat) (a0 a1 lv av dv : Value) (ps : List (Place × Value)) : Prop where
  res : w.heap[H + 1]? = some (.cells #[.bool false, .int .i64 0, .slice none 0 0, .slice none 0 0, .slice none 0 0] 36 (0, 0))
  out : w.heap[H + 2]? = some (.cells #[a0, a1, lv, av, dv] 36 (0, 0))
  pl : Pl2 w H av ps
  keep : Keep (· < H) W w
/-- Within a round: the variable m in block M; nothing of the round's first world has changed. -/
structure MS (wo w : World) (M : Nat) (cs : Array Value) : Prop where
  m : w.heap[M]? = some (.cells cs 127 (0, 0))
  keep : Keep (fun _ => True) wo w
  hM : wo.heap.size ≤ M
section
variable {W wo w w' : World} {H M : Nat} {a0 a1 lv av dv v v' : Value} {ps : List (Place × Value)} {cs : Array Value}
theorem MS.step (h : MS wo w M cs) (hk : Keep (fun _ => True) w w') : MS wo w' M cs :=
  ⟨(hk.block M (heap_lt h.m) trivial).trans h.m, h.keep.trans hk, h.hM⟩
theorem MS.set (h : MS wo w M cs) (j : Nat) (v : Value) : MS wo (w.setCell ⟨M, j, none⟩ v) M (cs.setIfInBounds j v) :=
  ⟨heap_setCell_of h.m j v, h.keep.setCell (a := ⟨M, j, none⟩) (fun hlt => absurd h.hM (by simp only at hlt; omega)) v, h.hM⟩
theorem MS.app {e size n : Nat} {xs : List Value} {O : Nat → Prop} (h : MS wo w M cs) (ho : OwnIn w O e size v n xs) (hO : ∀ g, O g → wo.heap.size ≤ g) (hg : w.grownBy w' v.ownBlock) (h4 : e ≠ 127) : MS wo w' M cs :=
  ⟨((ho.keepTy hg).block M (heap_lt h.m) (by rw [tyOf_of h.m]; intro e; injection e with e; exact h4 e.symm)).trans h.m,
    ⟨hg.os.trans h.keep.os, hg.tape.trans h.keep.tape, hg.output.trans h.keep.output, Nat.le_trans h.keep.size hg.size, fun g hlt hf => by
      refine (hg.block g (Nat.lt_of_lt_of_le hlt h.keep.size) (fun e => ?_)).trans (h.keep.block g hlt hf)
      have := hO g (ho.2 g e.symm)
      omega⟩, h.hM⟩
theorem LS.step (h : LS W w H a0 a1 lv av dv ps) (hk : Keep (fun _ => True) w w') : LS W w' H a0 a1 lv av dv ps :=
  ⟨(hk.block _ (heap_lt h.res) trivial).trans h.res, (hk.block _ (heap_lt h.out) trivial).trans h.out, h.pl.keepT hk (fun _ _ _ => trivial), h.keep.trans (hk.mono (fun _ _ _ => trivial))⟩
theorem LS.growOut (h : LS W w H a0 a1 lv av dv ps) (hg : w.grownBy w' av.ownBlock) : w'.heap[H + 2]? = some (.cells #[a0, a1, lv, av, dv] 36 (0, 0)) :=
  ((h.pl.1.keepTy hg).block _ (heap_lt h.out) (by rw [tyOf_of h.out]; decide)).trans h.out
theorem LS.grow {p : Place × Value} (h : LS W w H a0 a1 lv av dv ps) (hp : RdRefs w (fun _ => True) 132 p.2 p.1.m.refs)
    (hown : w'.ownsRow 0 129 10 v' (ps.length + 1) (ps.flatMap plCells ++ plCells p)) (hg : w.grownBy w' av.ownBlock) (hb : v'.ownBlock = av.ownBlock ∨ v'.ownBlock = some (w.heap.size + 1)) :
    LS W (w'.setCell ⟨H + 2, 3, none⟩ v') H a0 a1 lv v' dv (ps ++ [p]) := by
  have hl := heap_lt h.out
  have hk := h.pl.1.keepTy hg
  obtain ⟨ho, hk2⟩ := h.pl.1.step (fun g hg => by omega) hown hg (hb.imp id fun e => ⟨_, e, by omega⟩)
  have hty : ∀ {g e}, tyOf w g = some e → e ≠ 129 → tyOf w g ≠ some 129 := fun h1 h2 h3 => h2 (by rw [h1] at h3; injection h3)
  have k2 : Keep (fun g => g ≠ H + 2) w' (w'.setCell ⟨H + 2, 3, none⟩ v') := (Keep.refl _ _).setCell (a := ⟨H + 2, 3, none⟩) (fun _ hf => hf rfl) v'
  have ho2 := h.growOut hg
  have hp1 : Pl2 w' H v' (ps ++ [p]) := by
    refine ⟨by simpa using ho, fun q hq => ?_⟩
    rcases List.mem_append.1 hq with hq | hq
    · exact Rows.keep (h.pl.2 q hq) hk (fun g _ _ ht => hty ht (by decide))
    · simp only [List.mem_singleton] at hq
      subst hq
      exact Rows.keep hp hk (fun g _ _ ht => hty ht (by decide))
  refine ⟨?_, by simpa using heap_setCell_of ho2 3 v', hp1.keepT k2 (fun g _ ht => ?_), (h.keep.trans (hk2.mono (fun g _ hf => by omega))).trans (k2.mono (fun g _ hf => by omega))⟩
  · have h1 := (hk.block _ (heap_lt h.res) (hty (tyOf_of h.res) (by decide))).trans h.res
    exact (k2.block _ (heap_lt h1) (by omega)).trans h1
  · rintro rfl
    rw [tyOf_of ho2] at ht
    rcases ht with ht | ht <;> (injection ht with ht; revert ht; decide)
end
theorem ei_dref : EI Try.prog 125 132 2 16 := EI.of Try.underlying125 (z := .agg #[.int .i64 0, .int .i64 0]) (by kernel_rfl) rfl (by decide) (by decide)
theorem ei_dplace : EI Try.prog 34 129 10 112 := EI.of Try.underlying34 (z := .agg #[.int .i64 0, .int .i64 0, .int .i64 0, .string ⟨#[]⟩, .int .i64 0, .int .i64 0, .string ⟨#[]⟩, .int .i64 0, .int .i64 0, .slice none 0 0]) (by kernel_rfl) rfl (by decide) (by decide)

theorem Keep.alloc2 {F : Nat → Prop} {w w' : World} {o o' : Obj} (h : Keep F w (w'.alloc o)) (hs : w.heap.size ≤ w'.heap.size) : Keep F w (w'.alloc o') :=
  ⟨h.os, h.tape, h.output, by simp; omega, fun g hg hf => by
    rw [Below.heap_alloc _ _ _ (by omega)]
    have := h.block g hg hf
    rw [Below.heap_alloc _ _ _ (by omega)] at this
    exact this⟩
theorem keep_set9 {F : Nat → Prop} {w w' : World} {M : Nat} (h : Keep F w w') (hM : w.heap.size ≤ M) (v0 v1 v2 v3 v4 v5 v6 v7 v8 : Value) :
    Keep F w (((((((((w'.setCell ⟨M, 0, none⟩ v0).setCell ⟨M, 1, none⟩ v1).setCell ⟨M, 2, none⟩ v2).setCell ⟨M, 3, none⟩ v3).setCell ⟨M, 4, none⟩ v4).setCell ⟨M, 5, none⟩ v5).setCell ⟨M, 6, none⟩ v6).setCell ⟨M, 7, none⟩ v7).setCell ⟨M, 8, none⟩ v8) := by
  have k : ∀ {w' : World} (i : Nat) (v : Value), Keep F w w' → Keep F w (w'.setCell ⟨M, i, none⟩ v) := fun i v h => h.setCell (a := ⟨M, i, none⟩) (fun hlt => absurd hM (by simp only at hlt; omega)) v
  exact k _ _ (k _ _ (k _ _ (k _ _ (k _ _ (k _ _ (k _ _ (k _ _ (k _ _ h))))))))
theorem box9_set {w : World} {g : Nat} {x0 x1 x2 x3 x4 x5 x6 x7 x8 : Value} {t : TypeId} {fr : Nat × Nat} (h : w.heap[g]? = some (.cells #[x0, x1, x2, x3, x4, x5, x6, x7, x8] t fr)) (v0 v1 v2 v3 v4 v5 v6 v7 v8 : Value) :
    (((((((((w.setCell ⟨g, 0, none⟩ v0).setCell ⟨g, 1, none⟩ v1).setCell ⟨g, 2, none⟩ v2).setCell ⟨g, 3, none⟩ v3).setCell ⟨g, 4, none⟩ v4).setCell ⟨g, 5, none⟩ v5).setCell ⟨g, 6, none⟩ v6).setCell ⟨g, 7, none⟩ v7).setCell ⟨g, 8, none⟩ v8).heap[g]? = some (.cells #[v0, v1, v2, v3, v4, v5, v6, v7, v8] t fr) := by
  simpa using heap_setCell_of (heap_setCell_of (heap_setCell_of (heap_setCell_of (heap_setCell_of (heap_setCell_of (heap_setCell_of (heap_setCell_of (heap_setCell_of h 0 v0) 1 v1) 2 v2) 3 v3) 4 v4) 5 v5) 6 v6) 7 v7) 8 v8
def LrefPost (w : World) (r : Rec) (lv dv : Value) (e : Ending) (w' : World) : Prop :=
  ∃ av ps, e = .returned (.agg (recCells r lv av dv).toArray) ∧ ps.map (·.1) = r.add ∧ RdPlaces w' (fun _ => True) 129 132 av ps ∧ Below w.heap.size w w'
set_option maxRecDepth 100000 in
set_option maxHeartbeats 2000000 in
theorem lref_any (w : World) (F : Nat → Prop) (r : Rec) (lv av dv : Value) (ps : List (Place × Value)) (hL : Ints w F lv r.logs) (hD : Ints w F dv r.drop) (hA : RdPlaces w F 119 122 av ps) (hps : ps.map (·.1) = r.add)
    (hl3 : r.add.length ≤ 1000) :
    Calls Try.prog 13 #[.agg (recCells r lv av dv).toArray] w (LrefPost w r lv dv) := by
  obtain ⟨LA, LN, LC, rfl⟩ : ∃ A n c, lv = .slice A n c := by
    obtain ⟨_, A, c, h, _⟩ := hL
    exact ⟨A, _, c, h⟩
  obtain ⟨DA, DN, DC, rfl⟩ : ∃ A n c, dv = .slice A n c := by
    obtain ⟨_, A, c, h, _⟩ := hD
    exact ⟨A, _, c, h⟩
  obtain ⟨_, A, ac, rfl, hac, _⟩ := id hA.1
  obtain ⟨wh, sq, logs, add, drop⟩ := r
  simp only at hps hl3
  clear hL hD
  unfold recCells
  obtain ⟨n, hn⟩ : ∃ n, Hid (n = ps.length) := ⟨_, rfl⟩
  have hn1 : n ≤ 1000 := by rw [hn.out, ← List.length_map (f := (·.1)), hps]; exact hl3
  rw [← hn.out] at hA hac ⊢
  go_enter Try.func13, Try.ntmps13
  go_upto_region 2 with fail
  rw [show w.heap.size + 1 + 1 = w.heap.size + 2 from rfl]
  obtain ⟨wA, hwA⟩ : ∃ wA, Hid (wA = ((w.alloc (.cells #[.bool wh, .int .i64 sq, .slice LA LN LC, .slice A n ac, .slice DA DN DC] 29)).alloc (.cells #[.bool false, .int .i64 0, .slice none 0 0, .slice none 0 0, .slice none 0 0] 36)).alloc (.cells #[.bool wh, .int .i64 sq, .slice LA LN LC, .slice none 0 0, .slice DA DN DC] 36)) := ⟨_, rfl⟩
  have z0 : wA.heap[w.heap.size]? = some (.cells #[.bool wh, .int .i64 sq, .slice LA LN LC, .slice A n ac, .slice DA DN DC] 29 (0, 0)) := by
    rw [hwA.out, Below.heap_alloc _ _ _ (by simp only [World.size_alloc]; omega), Below.heap_alloc _ _ _ (by simp only [World.size_alloc]; omega)]
    exact heap_alloc_new w _
  have hc3 : wA.cell? ⟨w.heap.size, 3, none⟩ = some (.slice A n ac) := by simpa using cell_of_block z0 3
  clear z0
  have HLS : Hid (LS w wA w.heap.size (.bool wh) (.int .i64 sq) (.slice LA LN LC) (.slice none 0 0) (.slice DA DN DC) []) := by
    rw [hwA.out]
    have z1 := heap_alloc_new (w.alloc (.cells #[.bool wh, .int .i64 sq, .slice LA LN LC, .slice A n ac, .slice DA DN DC] 29)) (.cells #[.bool false, .int .i64 0, .slice none 0 0, .slice none 0 0, .slice none 0 0] 36)
    have z2 := heap_alloc_new ((w.alloc (.cells #[.bool wh, .int .i64 sq, .slice LA LN LC, .slice A n ac, .slice DA DN DC] 29)).alloc (.cells #[.bool false, .int .i64 0, .slice none 0 0, .slice none 0 0, .slice none 0 0] 36)) (.cells #[.bool wh, .int .i64 sq, .slice LA LN LC, .slice none 0 0, .slice DA DN DC] 36)
    rw [World.size_alloc] at z1
    rw [World.size_alloc, World.size_alloc] at z2
    exact ⟨by rw [Below.heap_alloc _ _ _ (by have := World.size_alloc; simp only [this]; omega)]; exact z1, z2, ⟨OwnIn.nil _ _ _ _, fun p hp => by cases hp⟩, (((Keep.refl _ _).alloc _).alloc _).alloc _⟩
  have hsA : w.heap.size < wA.heap.size := by rw [hwA.out]; simp only [World.size_alloc]; omega
  rw [← hwA.out]
  clear hwA
  generalize hHe : w.heap.size = H at *
  have HA := Lib.hid hA
  clear hA
  go_wp2_with fail
  go_loopw [23] (fun i wr => ∃ (k : Nat) (ps2 : List (Place × Value)) (av2 : Value), i = .int .i64 k ∧ k ≤ n ∧ ps2.length = k ∧ LS w wr H (.bool wh) (.int .i64 sq) (.slice LA LN LC) av2 (.slice DA DN DC) ps2 ∧ Hid (ps2.map (·.1) = (ps.map (·.1)).take k)) (fun i _ => n - (intOf i).toNat)
  case atStart => exact ⟨0, [], .slice none 0 0, rfl, by omega, rfl, HLS.out, rfl⟩
  case round =>
    obtain ⟨k, ps2, av2, rfl, hk, hpl, hls, HE⟩ := hrel
    obtain ⟨wo, rfl⟩ : ∃ w2 : World, w2 = wr := ⟨_, rfl⟩
    have HP := Lib.hid hls
    have HPL := Lib.hid hpl
    clear hls hpl
    obtain ⟨AA, AC, rfl⟩ := HP.out.pl.1.form
    by_cases hlt : k < n
    · obtain ⟨⟨p, rv⟩, hp⟩ : ∃ p, ps[k]? = some p := ⟨ps[k]'(by have := hn.out; omega), List.getElem?_eq_getElem _⟩
      have hko := HP.out.keep
      have hrow := (Rows.mono HA.out.1 (G := (· < H)) (fun g hg _ => by omega)).keep hko (fun g hg hf _ => hf)
      have hpr := (Rows.mono (HA.out.2 _ (List.mem_of_getElem? hp)).1 (G := (· < H)) (fun g hg _ => by omega)).keep hko (fun g hg hf _ => hf)
      have hprl := (HA.out.2 _ (List.mem_of_getElem? hp)).2
      rw [← hn.out] at hrow
      obtain ⟨g, off, cap2, eA0, _, hgF, hglt, hel⟩ := Rows.elems (f := plCells) hrow (fun x => rfl) (by decide) hn.out.symm (by omega)
      have eA : A = some ⟨g, off, none⟩ := by injection eA0
      subst eA
      clear eA0 hrow
      obtain ⟨lv, ⟨zn, ln, ⟨su, ss, sd⟩, ⟨lu, ls, ld⟩, rf⟩⟩ := p
      obtain ⟨RA, rn, rc, rfl⟩ : ∃ RA rn rc, rv = .slice RA rn rc := by
        obtain ⟨_, RA, rc, h, _⟩ := hpr
        exact ⟨RA, _, rc, h⟩
      have hrn : Hid (rn = rf.length) := by
        obtain ⟨_, A', c', h, _⟩ := hpr
        injection h
      have e0 := hel k _ hp 0 _ rfl
      have e1 := hel k _ hp 1 _ rfl
      have e2 := hel k _ hp 2 _ rfl
      have e3 := hel k _ hp 3 _ rfl
      have e4 := hel k _ hp 4 _ rfl
      have e5 := hel k _ hp 5 _ rfl
      have e6 := hel k _ hp 6 _ rfl
      have e7 := hel k _ hp 7 _ rfl
      have e8 := hel k _ hp 8 _ rfl
      have e9 := hel k _ hp 9 _ rfl
      rw [Nat.add_zero] at e0
      rw [← Nat.add_assoc] at e1 e2 e3 e4 e5 e6 e7 e8 e9
      simp only at e0 e1 e2 e3 e4 e5 e6 e7 e8 e9 hpr hprl
      have hrn1 : rn ≤ 1000 := by have := hrn.out; omega
      have HPR := Lib.hid hpr
      clear hel hpr hko
      go_upto_region 5 with fail
      have hpb := heap_alloc_new wo (.cells #[.int .i64 lv, .int .i64 zn, .int .i64 ln, .string su, .int .i64 ss, .int .i64 sd, .string lu, .int .i64 ls, .int .i64 ld, .slice RA rn rc] 119)
      have HP5 := Lib.hid (HP.out.step ((Keep.refl (fun _ => True) _).alloc (.cells #[.int .i64 lv, .int .i64 zn, .int .i64 ln, .string su, .int .i64 ss, .int .i64 sd, .string lu, .int .i64 ls, .int .i64 ld, .slice RA rn rc] 119)))
      have HPR5 := Lib.hid (HPR.out.alloc (.cells #[.int .i64 lv, .int .i64 zn, .int .i64 ln, .string su, .int .i64 ss, .int .i64 sd, .string lu, .int .i64 ls, .int .i64 ld, .slice RA rn rc] 119))
      generalize wo.alloc (.cells #[.int .i64 lv, .int .i64 zn, .int .i64 ln, .string su, .int .i64 ss, .int .i64 sd, .string lu, .int .i64 ls, .int .i64 ld, .slice RA rn rc] 119) = w5 at *
      generalize wo.heap.size = P at *
      have hPl := heap_lt hpb
      have HPB := Lib.hid hpb
      have HLK := Lib.hid (fun k wx => lrefKey_any k wx)
      clear hpb HP HPR e0 e1 e2 e3 e4 e5 e6 e7 e8 e9
      go_cut [6] (fun s6 wx => ∃ M, s6 = .pointer (some ⟨M, 0, none⟩) ∧ MS w5 wx M #[.int .i64 zn, .int .i64 ln, .string su, .int .i64 ss, .int .i64 sd, .string lu, .int .i64 ls, .int .i64 ld, .slice none 0 0])
      case first =>
        have p1 := cell_of_block HPB.out 1
        have p2 := cell_of_block HPB.out 2
        have p3 := cell_of_block HPB.out 3
        have p4 := cell_of_block HPB.out 4
        have p5 := cell_of_block HPB.out 5
        have p6 := cell_of_block HPB.out 6
        have p7 := cell_of_block HPB.out 7
        have p8 := cell_of_block HPB.out 8
        simp at p1 p2 p3 p4 p5 p6 p7 p8
        have hl1 := HLK.out ⟨su, ss, sd⟩
        have hl2 := HLK.out ⟨lu, ls, ld⟩
        unfold Key.val Key.cells at hl1 hl2
        simp only at hl1 hl2
        have HL1 := Lib.hid hl1
        have HL2 := Lib.hid hl2
        clear hl1 hl2 HLK
        have hkk := Keep.refl (fun _ => True) w5
        go_region_held3 (fun w' => Keep (fun _ => True) w5 w' ∧ w'.cell? ⟨P, 1, none⟩ = some (.int .i64 zn) ∧ w'.cell? ⟨P, 2, none⟩ = some (.int .i64 ln) ∧ w'.cell? ⟨P, 3, none⟩ = some (.string su) ∧ w'.cell? ⟨P, 4, none⟩ = some (.int .i64 ss) ∧ w'.cell? ⟨P, 5, none⟩ = some (.int .i64 sd) ∧ w'.cell? ⟨P, 6, none⟩ = some (.string lu) ∧ w'.cell? ⟨P, 7, none⟩ = some (.int .i64 ls) ∧ w'.cell? ⟨P, 8, none⟩ = some (.int .i64 ld)) ((go_split_ands; refine (fun hk => ⟨hk, (hk.cell (a := ⟨P, 1, none⟩) hPl trivial).trans p1, (hk.cell (a := ⟨P, 2, none⟩) hPl trivial).trans p2, (hk.cell (a := ⟨P, 3, none⟩) hPl trivial).trans p3, (hk.cell (a := ⟨P, 4, none⟩) hPl trivial).trans p4, (hk.cell (a := ⟨P, 5, none⟩) hPl trivial).trans p5, (hk.cell (a := ⟨P, 6, none⟩) hPl trivial).trans p6, (hk.cell (a := ⟨P, 7, none⟩) hPl trivial).trans p7, (hk.cell (a := ⟨P, 8, none⟩) hPl trivial).trans p8⟩) ?_; first | (with_reducible assumption) | (with_reducible refine keep_set9 ?_ ?_ _ _ _ _ _ _ _ _ _; (with_reducible assumption); omega) | (with_reducible exact Keep.alloc (by assumption) _) | (with_reducible exact Keep.drew (by assumption)) | (with_reducible exact Keep.drew (Keep.alloc (by assumption) _)) | (with_reducible exact Keep.alloc (Keep.drew (by assumption)) _) | (with_reducible exact Keep.trans (by assumption) (Keep.of_below hb2 (fun g hg _ => hg))) | (with_reducible exact Keep.trans (by assumption) (Keep.of_below hb1 (fun g hg _ => hg))) | exact Keep.alloc2 (by assumption) hzz))
          (first | (go_at_call_of 50 (Value.agg #[Value.string su, Value.int .i64 ss, Value.int .i64 sd]); refine (HL1.out _).mono ?_; rintro e x1 ⟨rfl, hb1⟩; obtain ⟨q1, q2⟩ := below_rules hb1; have hzz1 := hb1.size; simp at hzz1; have hzz : w5.heap.size ≤ x1.heap.size := (by omega); (try have hlt1 : w5.heap.size < x1.heap.size := (by omega))) | (go_at_call_of 50 (Value.agg #[Value.string lu, Value.int .i64 ls, Value.int .i64 ld]); refine (HL2.out _).mono ?_; rintro e x2 ⟨rfl, hb2⟩; obtain ⟨q3, q4⟩ := below_rules hb2; have hzz2 := hb2.size; (try simp at hzz2); have hzz : w5.heap.size ≤ x2.heap.size := (by omega)))
        all_goals
          have hH := ‹Keep (fun _ => True) w5 _ ∧ _›.1
          go_wp2_with fail
          go_meet
        · exact ⟨_, rfl, heap_alloc_new _ _, hH, hzz⟩
        · exact ⟨_, rfl, box9_set ((hb2.block _ (by simp)).trans (heap_alloc_new _ _)) _ _ _ _ _ _ _ _ _, hH, by omega⟩
        · exact ⟨_, rfl, box9_set ((hb2.block _ (by omega)).trans ((hb1.block _ (by simp)).trans (heap_alloc_new _ _))) _ _ _ _ _ _ _ _ _, hH, by omega⟩
      case rest =>
        obtain ⟨M, rfl, hm⟩ := hcut
        have HM := Lib.hid hm
        have hMw := hm.hM
        clear hm HLK
        have p9 := (HM.out.keep.cell (a := ⟨P, 9, none⟩) hPl trivial).trans (by simpa using cell_of_block HPB.out 9)
        go_wp2_with fail
        go_loopw [46] (fun i wr => ∃ (j : Nat) (rv2 : Value), i = .int .i64 j ∧ j ≤ rn ∧ MS w5 wr M #[.int .i64 zn, .int .i64 ln, .string su, .int .i64 ss, .int .i64 sd, .string lu, .int .i64 ls, .int .i64 ld, rv2] ∧ OwnIn wr (fun g => w5.heap.size ≤ g) 132 2 rv2 j ((rf.take j).flatMap refCells)) (fun i _ => rn - (intOf i).toNat)
        case atStart => exact ⟨0, .slice none 0 0, rfl, by omega, HM.out, OwnIn.nil _ _ _ _⟩
        case round =>
          obtain ⟨j, rv2, rfl, hj, hm, hown⟩ := hrel
          obtain ⟨wq, rfl⟩ : ∃ w2 : World, w2 = wr := ⟨_, rfl⟩
          obtain ⟨RA2, RC2, rfl⟩ := hown.form
          have HO := Lib.hid hown
          have HM2 := Lib.hid hm
          clear hown hm HM
          by_cases hlt2 : j < rn
          · obtain ⟨⟨z, y⟩, hx⟩ : ∃ x, rf[j]? = some x := ⟨rf[j]'(by have := hrn.out; omega), List.getElem?_eq_getElem _⟩
            have htk : (rf.take (j + 1)) = rf.take j ++ [⟨z, y⟩] := by
              rw [List.take_add_one, hx]; rfl
            have HTK := Lib.hid htk
            clear htk
            have hrow2 := HPR5.out.keep HM2.out.keep (fun _ _ _ _ => trivial)
            obtain ⟨g2, off2, cap3, eR, _, hgF2, hgl2, hel2⟩ := Rows.elems (f := refCells) hrow2 (fun x => rfl) (by decide) rfl (by have := hrn.out; omega)
            have eR2 : RA = some ⟨g2, off2, none⟩ := by injection eR
            subst eR2
            clear eR hrow2
            have e0 := hel2 j _ hx 0 _ rfl
            have e1 := hel2 j _ hx 1 _ rfl
            rw [Nat.add_zero] at e0
            rw [← Nat.add_assoc] at e1
            simp only at e0 e1
            clear hel2 hx
            go_upto_region 9 with fail
            have hXb := heap_alloc_new wq (.cells #[.int .i64 z, .int .i64 y] 122)
            have HM3 := Lib.hid (HM2.out.step ((Keep.refl (fun _ => True) _).alloc (.cells #[.int .i64 z, .int .i64 y] 122)))
            have HO3 := Lib.hid (HO.out.keep ((Keep.refl (fun _ => True) _).alloc (.cells #[.int .i64 z, .int .i64 y] 122)) (fun _ _ _ => trivial))
            have hsz3 : wq.heap.size < (wq.alloc (.cells #[.int .i64 z, .int .i64 y] 122)).heap.size := by simp
            have hMlt := heap_lt HM2.out.m
            have hwq := HM2.out.keep.size
            clear HM2 HO e0 e1
            generalize wq.alloc (.cells #[.int .i64 z, .int .i64 y] 122) = y3 at *
            generalize hXe : wq.heap.size = X at *
            have x0 := cell_of_block hXb 0
            have x1 := cell_of_block hXb 1
            have q8 := cell_of_block HM3.out.m 8
            simp at x0 x1 q8
            clear hXb hXe
            have hMX : M ≠ X := by omega
            have hXM : X ≠ M := by omega
            have HBYT : Hid ((j + 1) * 16 ≤ 140737488355328) := by
              have := hrn.out
              unfold Hid
              omega
            have HCEL : Hid (∀ u ∈ [Value.int .i64 z, .int .i64 y], u.oneCell' = true) := by
              unfold Hid
              simp [Value.oneCell']
            go_wp2_with (at_builtin; refine wpList_append_one rfl (.tmp 51) (.tmp 57) _ rfl ei_dref (.slice RA2 j RC2) j _ rfl HO3.out.1 [.int .i64 z, .int .i64 y] 1 rfl (Nat.le_refl _) rfl HCEL.out HBYT.out (Nat.zero_le _) ?_; intro v3 w3 hown3 hg3 hb3; obtain ⟨A3, c3, rfl⟩ := own_form hown3; have hqa := HM3.out.app HO3.out (fun g hg => hg) hg3 (by decide); have q8' := cell_of_block hqa.m 8; have g8' := frozen_of_block hqa.m 8; simp at q8'; have HMA := Lib.hid hqa; clear hqa)
            obtain ⟨ho3, _⟩ := HO3.out.step (fun g hg => by omega) hown3 hg3 (hb3.imp id fun e => ⟨_, e, by omega⟩)
            have ho5 := ho3.keepT ((Keep.refl (· ≠ M) w3).setCell (a := ⟨M, 8, none⟩) (fun _ hf => hf rfl) (.slice A3 (j + 1) c3)) (fun g _ _ ht => by
              rintro rfl
              rw [tyOf_of HMA.out.m] at ht
              injection ht with ht
              revert ht
              decide)
            have hm5 := HMA.out.set 8 (.slice A3 (j + 1) c3)
            simp only [List.setIfInBounds_toArray, List.set_cons_succ, List.set_cons_zero] at hm5
            refine ⟨⟨j + 1, .slice A3 (j + 1) c3, by simp, by omega, hm5, ?_⟩, by simp [intOf]; omega⟩
            rw [HTK.out]
            simpa [refCells] using ho5
          · have hall : rf.take j = rf := List.take_of_length_le (by have := hrn.out; omega)
            have ho := HO.out
            rw [hall] at ho
            have HO4 := Lib.hid ho
            clear hall ho HO
            have HPF := Lib.hid (HP5.out.step HM2.out.keep)
            have hpb2 := (HM2.out.keep.block P hPl trivial).trans HPB.out
            have p0 := cell_of_block hpb2 0
            have m0 := cell_of_block HM2.out.m 0
            have m1 := cell_of_block HM2.out.m 1
            have m2 := cell_of_block HM2.out.m 2
            have m3 := cell_of_block HM2.out.m 3
            have m4 := cell_of_block HM2.out.m 4
            have m5 := cell_of_block HM2.out.m 5
            have m6 := cell_of_block HM2.out.m 6
            have m7 := cell_of_block HM2.out.m 7
            have m8 := cell_of_block HM2.out.m 8
            have r3 := cell_of_block HPF.out.out 3
            simp at p0 m0 m1 m2 m3 m4 m5 m6 m7 m8 r3
            clear hpb2 p9
            have hrr : Hid (RdRefs wq (fun _ => True) 132 (.slice RA2 j RC2) rf) := by
              have h := HO4.out.rows
              have hjr : j = rf.length := by have := hrn.out; omega
              unfold Hid RdRefs
              rw [← hjr]
              exact h.mono (fun _ _ _ => trivial)
            have HBYT : Hid ((ps2.length + 1) * 112 ≤ 140737488355328) := by
              have := HPL.out
              unfold Hid
              omega
            have HCEL : Hid (∀ u ∈ [Value.int .i64 lv, .int .i64 zn, .int .i64 ln, .string su, .int .i64 ss, .int .i64 sd, .string lu, .int .i64 ls, .int .i64 ld, .slice RA2 j RC2], u.oneCell' = true) := by
              unfold Hid
              simp [Value.oneCell']
            go_wp2_with (at_builtin; refine wpList_append_one rfl (.tmp 62) (.tmp 67) _ rfl ei_dplace (.slice AA ps2.length AC) ps2.length _ rfl HPF.out.pl.1.1 [.int .i64 lv, .int .i64 zn, .int .i64 ln, .string su, .int .i64 ss, .int .i64 sd, .string lu, .int .i64 ls, .int .i64 ld, .slice RA2 j RC2] 1 rfl (Nat.le_refl _) rfl HCEL.out HBYT.out (Nat.zero_le _) ?_; intro v3 w3 hown3 hg3 hb3; obtain ⟨A3, c3, rfl⟩ := own_form hown3; have q9 := cell_of_block (HPF.out.growOut hg3) 3; have g9 := frozen_of_block (HPF.out.growOut hg3) 3; simp at q9)
            have hfinal := HPF.out.grow (p := (⟨lv, ⟨zn, ln, ⟨su, ss, sd⟩, ⟨lu, ls, ld⟩, rf⟩⟩, .slice RA2 j RC2)) hrr.out hown3 hg3 hb3
            refine ⟨⟨k + 1, _, _, by simp, by omega, ?_, hfinal, ?_⟩, by simp [intOf]; omega⟩
            · simp [HPL.out]
            · unfold Hid
              rw [List.map_append, HE.out, List.take_add_one]
              simp [hp]
    · have hmap : ps2.map (·.1) = add := by
        rw [HE.out, ← hps]
        exact List.take_of_length_le (by have := hn.out; simp; omega)
      have hmem : ∀ p, p ∈ ps2 → p.1.m.refs.length ≤ 1000 := by
        intro p hp
        have h1 : p.1 ∈ ps.map (·.1) := by rw [hps, ← hmap]; exact List.mem_map.2 ⟨p, hp, rfl⟩
        obtain ⟨q, hq, e⟩ := List.mem_map.1 h1
        rw [← e]
        exact (HA.out.2 q hq).2
      have HMAP := Lib.hid hmap
      have HMEM := Lib.hid hmem
      clear hmap hmem HE
      have h0 := cell_of_block HP.out.out 0
      have h1 := cell_of_block HP.out.out 1
      have h2 := cell_of_block HP.out.out 2
      have h3 := cell_of_block HP.out.out 3
      have h4 := cell_of_block HP.out.out 4
      have r0 := cell_of_block HP.out.res 0
      have r1 := cell_of_block HP.out.res 1
      have r2 := cell_of_block HP.out.res 2
      have r3 := cell_of_block HP.out.res 3
      have r4 := cell_of_block HP.out.res 4
      have hf0 : ∀ i, wo.frozen? ⟨H + 1, i, none⟩ = false := fun i => frozen_of_block HP.out.res i
      simp at h0 h1 h2 h3 h4 r0 r1 r2 r3 r4
      go_wp2_with fail
      have hcl := box5_set HP.out.res (.bool wh) (.int .i64 sq) (.slice LA LN LC) (.slice AA ps2.length AC) (.slice DA DN DC)
      revert hcl
      generalize ((((World.setCell wo ⟨H + 1, 0, none⟩ (.bool wh)).setCell ⟨H + 1, 1, none⟩ (.int .i64 sq)).setCell ⟨H + 1, 2, none⟩ (.slice LA LN LC)).setCell ⟨H + 1, 3, none⟩ (.slice AA ps2.length AC)).setCell ⟨H + 1, 4, none⟩ (.slice DA DN DC) = W'
      rintro ⟨q1, q2⟩
      have g0 := cell_of_block q1 0
      have g1 := cell_of_block q1 1
      have g2 := cell_of_block q1 2
      have g3 := cell_of_block q1 3
      have g4 := cell_of_block q1 4
      simp at g0 g1 g2 g3 g4
      refine bodyPost_end (v := .agg #[.bool wh, .int .i64 sq, .slice LA LN LC, .slice AA ps2.length AC, .slice DA DN DC]) (by simp [results, Try.results13, go_sem, g0, g1, g2, g3, g4]) rfl ?_
      have hty : ∀ {g e}, tyOf wo g = some e → e ≠ 36 → g ≠ H + 1 := by
        intro g e hg hne
        rintro rfl
        rw [tyOf_of HP.out.res] at hg
        injection hg with hg
        exact hne hg.symm
      refine ⟨_, ps2, rfl, HMAP.out, ⟨Rows.keep (HP.out.pl.1.rows.mono (fun _ _ _ => trivial)) q2 (fun g _ _ ht => hty ht (by decide)), fun p hp => ⟨Rows.keep (HP.out.pl.2 p hp) q2 (fun g _ _ ht => hty ht (by decide)), HMEM.out p hp⟩⟩, ?_⟩
      rw [hHe]
      exact (HP.out.keep.trans (q2.mono (fun g _ hf => by omega))).below (by omega)
end Go.Proofs.Ytejfejckmhoolaa
