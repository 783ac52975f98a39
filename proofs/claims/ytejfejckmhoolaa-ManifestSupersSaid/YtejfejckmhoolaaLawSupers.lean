/- The walk of tithebarnlaw16.ManifestSupers. -/
import Derived.Test.YtejfejckmhoolaaLawJunk
import Derived.Deep.RegionHeldLaw
set_option linter.unusedSimpArgs false
set_option linter.unusedVariables false
namespace Go.Proofs.Ytejfejckmhoolaa
open Go.RowKit

theorem own_far_blk {w w1 : World} {base e size n M : Nat} {v : Value} {xs : List Value} {cs : Array Value} {T : TypeId} {fr : Nat × Nat} (ho : w.ownsRow base e size v n xs) (hM : w.heap[M]? = some (.cells cs T fr)) (hT : T ≠ e) (hg : w.grownBy w1 v.ownBlock) : w1.heap[M]? = some (.cells cs T fr) := by
  refine (hg.block M (heap_lt hM) (fun h => ?_)).trans hM
  rcases ho.2 with ⟨h1, _⟩ | ⟨g, cap, cur, e1, _, e3, _⟩
  · rw [h1] at h
    simp [Value.ownBlock] at h
  · rw [e1] at h
    simp [Value.ownBlock] at h
    subst h
    rw [hM] at e3
    injection e3 with e3
    injection e3 with _ e3
    exact hT e3
theorem step_append_rows {P : Program} {w : World} {ops : Array Oper} {o : Oper} {a : Act} {K : Act → World → Prop} {Q : Exit → Act → World → Prop} {E0 : Prop} (hgd : o.guard = none) (s x : Operand) (t : TypeId)
    (ho : o.op = .call { callee := .builtin .append, args := #[s, x], argTypes := #[t, t] })
    {base e size bytes : Nat} (E : EI P t e size bytes) (v : Value) (n : Nat) (xs : List Value) (hs : a.eval s = v) (hown : w.ownsRow base e size v n xs)
    {F : Nat → Prop} {Tn : TypeId} (src : Value) (m : Nat) (news : List Value) (hx : a.eval x = src) (hr : Rows w F Tn size src m news) (h1 : ∀ u ∈ news, u.oneCell' = true)
    (hbytes : (n + m) * bytes ≤ 140737488355328) (hbase : base ≤ w.heap.size)
    (h : ∀ v' w', w'.ownsRow base e size v' (n + m) (xs ++ news) → w.grownBy w' v.ownBlock → (v'.ownBlock = v.ownBlock ∨ v'.ownBlock = some w.heap.size) → K (a.put o.dst v') w') :
    if Region.wanted o (yielded ops a.tmps) = true then Oper.wp P o a w K Q else E0 := by
  have hw : Region.wanted o (yielded ops a.tmps) = true := by simp [Region.wanted, hgd]
  rw [if_pos hw]
  exact wp_append_rows s x t ho E v n xs hs hown src m news hx hr h1 hbytes hbase h

set_option maxRecDepth 100000 in
set_option maxHeartbeats 4000000 in
theorem supers_walk {Tl Tj : TypeId} (w : World) (F : Nat → Prop) (lv jv : Value) (l : List (Int × Int)) (jb : Byts) (hl : Rows w F Tl 2 lv l.length (l.flatMap supCells)) (hj : Rows w F Tj 1 jv jb.length (jb.map byteV)) :
    Calls Try.prog 6 #[lv, jv] w (BoolBelow w true) := by
  obtain ⟨_, A, c, rfl, hc, _⟩ := id hl
  obtain ⟨_, JA, jc, rfl, hjc, _⟩ := id hj
  obtain ⟨n, hn⟩ : ∃ n, Hid (n = l.length) := ⟨_, rfl⟩
  obtain ⟨m, hm⟩ : ∃ m, Hid (m = jb.length) := ⟨_, rfl⟩
  rw [← hn.out] at hl hc ⊢
  have HL := Lib.hid (Rows.mono hl (G := (· < w.heap.size)) (fun g hg _ => hg))
  have HJ := Lib.hid (Rows.mono hj (G := (· < w.heap.size)) (fun g hg _ => hg))
  rw [← hm.out] at hjc ⊢
  clear hl hj
  by_cases hn4 : n ≤ 60
  · by_cases hm4 : m ≤ 100
    · go_enter Try.func6, Try.ntmps6
      go_wp2_with fail
      go_loopw [5, 6, 7, 33] (fun v5 b z i wr => ∃ (k : Nat) (l5 : List (Value × Byts)) (p : Nat × Nat), i = .int .i64 k ∧ b = .int .i64 (p.1 : Int) ∧ z = .int .i64 (p.2 : Int) ∧ k ≤ n ∧ l5.length ≤ k ∧ Hid (JS w wr v5 (.slice none 0 0) l5 []) ∧ Hid (newestS (l5.map (·.2)) (0, 0) = p) ∧ Hid (p = (0, 0) ∨ 0 < p.1)) (fun _ _ _ i _ => n - (intOf i).toNat)
      case atStart => exact ⟨0, [], (0, 0), rfl, rfl, rfl, by omega, by simp, JS.nil w, rfl, .inl rfl⟩
      case round =>
        obtain ⟨k, l5, ⟨pg, pz⟩, rfl, rfl, rfl, hk, h5, HS, HN, HZ⟩ := hrel
        by_cases hlt : k < n
        · obtain ⟨⟨g, z⟩, hgz⟩ : ∃ p, l[k]? = some p := ⟨l[k]'(by rw [← hn.out]; exact hlt), List.getElem?_eq_getElem _⟩
          obtain ⟨gb, off, cap2, eA, _, _, _, hel⟩ := (HL.out.keep (Keep.of_below HS.out.bel (fun _ _ hf => hf)) (fun _ _ hf _ => hf)).elems (fun x => rfl) (by decide) hn.out.symm (by omega)
          have eA2 : A = some ⟨gb, off, none⟩ := by injection eA
          subst eA2
          have e0 := hel k _ hgz 0 _ rfl
          have e1 := hel k _ hgz 1 _ rfl
          rw [Nat.add_zero] at e0
          rw [← Nat.add_assoc] at e1
          simp only at e0 e1
          have HS1 := Lib.hid (HS.out.call ((Below.refl _ _).alloc (Nat.le_refl _) (.cells #[.int .i64 g, .int .i64 z] 78)))
          have hX := heap_alloc_new wr (.cells #[.int .i64 g, .int .i64 z] 78)
          have HX := Lib.hid hX
          have hXy := heap_lt hX
          have hsb := supBytes_any g z (wr.alloc (.cells #[.int .i64 g, .int .i64 z] 78))
          have HSB := Lib.hid hsb
          clear hel eA hgz hsb HS hX
          by_cases hok : supOk g z = true
          · obtain ⟨bb, hbb⟩ : ∃ bb, Hid (bb = supEnc g z) := ⟨_, rfl⟩
            have hbl : bb.length ≤ 40 := by rw [hbb.out]; exact supEnc_len hok
            have hso : supS bb = some (g.toNat, z.toNat) := by rw [hbb.out]; exact supS_enc hok
            have HOK := Lib.hid hok
            simp only [supOk, decide_eq_true_eq] at hok
            obtain ⟨g0, g1, z0, z1⟩ := hok
            obtain ⟨gn, rfl⟩ := Int.eq_ofNat_of_zero_le (show 0 ≤ g by omega)
            obtain ⟨zn, rfl⟩ := Int.eq_ofNat_of_zero_le z0
            simp only [Int.toNat_natCast] at hso
            have HSO := Lib.hid hso
            clear hso
            go_upto_region 13 with (go_at_call 29; refine (HSB.out).mono ?_; rintro e w1 ⟨hb1, h2⟩; rw [if_pos HOK.out, ← hbb.out] at h2; obtain ⟨v, rfl, hbt⟩ := h2; obtain ⟨BA, bn, BC, rfl⟩ : ∃ A n c, v = .slice A n c := (by obtain ⟨_, A, c, h, _⟩ := hbt; exact ⟨A, _, c, h⟩); have HS2 := Lib.hid (HS1.out.call hb1); have hX1 := blk_below hb1 HX.out hXy; have HX1 := Lib.hid hX1; have c0 := cell_of_block hX1 0; have c1 := cell_of_block hX1 1; simp at c0 c1; have HBT := Lib.hid hbt; clear hb1 hbt hX1)
            have hdr : Below w1.heap.size w1 w1.drew := (Below.refl _ _).drew
            have HS3 := Lib.hid (HS2.out.call hdr)
            have HBT3 := Lib.hid (show Bts w1.drew _ _ _ from HBT.out.drew)
            have HX3 := Lib.hid (show w1.drew.heap[wr.heap.size]? = _ from HX1.out)
            clear hdr HS2 HBT HX1
            go_region_held_law (fun w' => w'.heap[wr.heap.size]? = some (.cells #[.int .i64 (gn : Int), .int .i64 (zn : Int)] 78 (0, 0)) ∧ w'.cell? ⟨wr.heap.size, 0, none⟩ = some (.int .i64 (gn : Int)) ∧ w'.cell? ⟨wr.heap.size, 1, none⟩ = some (.int .i64 (zn : Int))) ((go_split_ands; refine (fun hb => ⟨hb, by simpa using cell_of_block hb 0, by simpa using cell_of_block hb 1⟩) ?_; first | exact HX3.out | exact blk_below hb (by assumption) (heap_lt (by assumption)) | exact blk_below hk1 (by assumption) (heap_lt (by assumption)) | exact HO2.out.far (by assumption) (by decide) hg2))
              (first | (refine step_append_rows rfl (.tmp 81) (.tmp 84) _ rfl ei_u8 (.slice PA1 PN1 PC1) PN1 _ rfl HO2.out.own (.slice PA pm PC) pm _ rfl (Rows.of_own HPI.out) (bytes_one (numEnc zn)) (by omega) (by omega) ?_; intro v' x3 hown2 hg2 _; obtain ⟨A2, c2', n2, rfl, hb2⟩ := HO2.out.app hown2 hg2 hpl; have HO3 := Lib.hid hb2; clear hb2) | (go_simp; (go_at_call_of 30 (Value.int .i64 (gn : Int)); refine (refNumber_any gn (by omega) _).mono ?_; rintro e x1 ⟨pv1, rfl, hp1, hk1⟩; obtain ⟨PA1, PC1, PN1, rfl, hob⟩ := OB.of (B := 20) hk1 hp1 (numEnc_len gn (by omega)); have HO1 := Lib.hid hob; clear hp1 hob; have plen := numEnc_len zn (by omega))) | (go_simp; (go_at_call_of 30 (Value.int .i64 (zn : Int)); (refine (refNumber_any zn (by omega) _).mono ?_; rintro e x2 ⟨pv, rfl, hp, hb⟩; obtain ⟨PA, PC, rfl⟩ := own_form hp; have hpl : (numEnc zn).length ≤ 20 := plen; clear plen; obtain ⟨pm, hpm⟩ : ∃ pm, Hid (pm = (numEnc zn).length) := ⟨_, rfl⟩; rw [← hpm.out] at hp hpl ⊢; have HO2 := Lib.hid (HO1.out.call hb); have HPI := Lib.hid hp; have hle := HO2.out.le; have hsz := HO2.out.below.size; clear hp HO1))))
            have hX4 := ‹x3.heap[wr.heap.size]? = _ ∧ _›.1
            have hbx := HO3.out.below
            obtain ⟨_, hev, ho4, _⟩ := HO3.out.post
            injection hev with hev
            subst hev
            have hbe : numEnc gn ++ numEnc zn = bb := by rw [hbb.out]; simp [supEnc]
            rw [hbe] at ho4
            have hs4 := HS3.out.call hbx
            have hbt4 := Rows.keep HBT3.out (Keep.of_below hbx (F := fun _ => True) (fun g hg _ => hg)) (fun _ _ _ _ => trivial)
            have HX4 := Lib.hid hX4
            have HS4 := Lib.hid hs4
            have HBT4 := Lib.hid hbt4
            have HW4 := Lib.hid (Rows.of_own ho4)
            have hXl := heap_lt hX4
            clear hX4 hbx ho4 hbe hs4 hbt4
            clear HO3 HS3 HBT3 HX3
            go_upto_region 15 with (go_at_call 31; refine (parseSup_any x3 _ _ bb HBT4.out (by omega)).mono ?_; rintro e x4 ⟨rfl, hb4⟩; rw [HSO.out]; simp only [supR])
            have hy5 := heap_alloc_new x4 (.cells #[.int .i64 (gn : Int), .int .i64 (zn : Int)] 78)
            have hb5 := hb4.alloc hb4.size (.cells #[.int .i64 (gn : Int), .int .i64 (zn : Int)] 78)
            have hX5 := blk_below hb5 HX4.out hXl
            have hs5 := HS4.out.call hb5
            have hk5 := Keep.of_below hb5 (F := fun _ => True) (fun g hg _ => hg)
            have hbt5 := Rows.keep HBT4.out hk5 (fun _ _ _ _ => trivial)
            have hsm := same_any _ _ _ _ _ bb bb hbt5 (Rows.keep HW4.out hk5 (fun _ _ _ _ => trivial))
            have hje := JE.own (by omega) hbt5 w.heap.size
            simp only [decide_true] at hsm
            generalize x4.alloc (.cells #[.int .i64 (gn : Int), .int .i64 (zn : Int)] 78) = y5 at *
            generalize x4.heap.size = P at *
            have HSM := Lib.hid hsm
            have HS5 := Lib.hid hs5
            have HX5 := Lib.hid hX5
            have HJE := Lib.hid hje
            have d0 := cell_of_block hX5 0
            have d1 := cell_of_block hX5 1
            have p0 := cell_of_block hy5 0
            have p1 := cell_of_block hy5 1
            simp at d0 d1 p0 p1
            clear hy5 hb4 hb5 hX5 hs5 hk5 hbt5 hsm hje HS4 HX4 HBT4 HW4
            have hnx := newestS_append (l5.map (·.2)) [bb] (0, 0)
            rw [HN.out] at hnx
            simp only [newestS, HSO.out, newestStep] at hnx
            by_cases hge : pg ≤ gn
            · rw [if_pos hge] at hnx
              have HNX := Lib.hid hnx
              clear hnx
              go_wp2_with (first | (go_at_call 15; refine (HSM.out).mono ?_; rintro e x5 ⟨rfl, rfl⟩) | (at_builtin; refine wpList_append_one rfl (.tmp 104) (.tmp 106) _ rfl ei_bs u5 l5.length _ rfl HS5.out.o5 [.slice BA bn BC] 1 (by first | rfl | (rw [World.size_alloc]; rfl)) (Nat.le_refl _) rfl (by simp [Value.oneCell']) (by omega) HS5.out.bel.size ?_; intro v7 w7 hown7 hg7 hb7; have HS7 := Lib.hid (HS5.out.app HJE.out hown7 hg7 hb7); have hX7 := own_far_blk HS5.out.o5 HX5.out (by decide) hg7; have q0 := cell_of_block hX7 0; have q1 := cell_of_block hX7 1; simp at q0 q1; clear hown7 hg7 hb7 hX7))
              go_quiet (fail)
              go_wp2_with fail
              exact ⟨⟨k + 1, l5 ++ [(.slice BA bn BC, bb)], (gn, zn), by simp, rfl, rfl, by omega, by simp; omega, Lib.hid (HS7.out.call (below_drewN _ _ _)), by unfold Hid; rw [List.map_append]; exact HNX.out, .inr (by simp only; omega)⟩, by simp [intOf]; omega⟩
            · rw [if_neg hge] at hnx
              have HNX := Lib.hid hnx
              clear hnx
              go_wp2_with (first | (go_at_call 15; refine (HSM.out).mono ?_; rintro e x5 ⟨rfl, rfl⟩) | (at_builtin; refine wpList_append_one rfl (.tmp 104) (.tmp 106) _ rfl ei_bs u5 l5.length _ rfl HS5.out.o5 [.slice BA bn BC] 1 (by first | rfl | (rw [World.size_alloc]; rfl)) (Nat.le_refl _) rfl (by simp [Value.oneCell']) (by omega) HS5.out.bel.size ?_; intro v7 w7 hown7 hg7 hb7; have HS7 := Lib.hid (HS5.out.app HJE.out hown7 hg7 hb7); have hX7 := own_far_blk HS5.out.o5 HX5.out (by decide) hg7; have q0 := cell_of_block hX7 0; have q1 := cell_of_block hX7 1; simp at q0 q1; clear hown7 hg7 hb7 hX7))
              exact ⟨⟨k + 1, l5 ++ [(.slice BA bn BC, bb)], (pg, pz), by simp, rfl, rfl, by omega, by simp; omega, HS7, by unfold Hid; rw [List.map_append]; exact HNX.out, HZ⟩, by simp [intOf]; omega⟩
          · have HOK := Lib.hid hok
            unfold supOk at hok
            by_cases h1 : 1 ≤ g
            · by_cases h2 : g ≤ 1099511627776
              · by_cases h3 : 0 ≤ z
                · by_cases h4 : z < 64
                  · exact absurd (decide_eq_true ⟨h1, h2, h3, h4⟩) hok
                  · ((try have h6 : decide (z ≤ 63) = false := decide_eq_false (by omega)); go_wp2_with (go_at_call 29; refine (HSB.out).mono ?_; rintro e w1 ⟨hb1, h2⟩; rw [if_neg HOK.out] at h2; subst h2; have hX1 := blk_below hb1 HX.out hXy; have c0 := cell_of_block hX1 0; have c1 := cell_of_block hX1 1; simp at c0 c1); exact ⟨⟨k + 1, l5, (pg, pz), by simp, rfl, rfl, by omega, by omega, HS1.out.call hb1, HN, HZ⟩, by simp [intOf]; omega⟩)
                · ((try have h6 : decide (z ≤ 63) = false := decide_eq_false (by omega)); go_wp2_with (go_at_call 29; refine (HSB.out).mono ?_; rintro e w1 ⟨hb1, h2⟩; rw [if_neg HOK.out] at h2; subst h2; have hX1 := blk_below hb1 HX.out hXy; have c0 := cell_of_block hX1 0; have c1 := cell_of_block hX1 1; simp at c0 c1); exact ⟨⟨k + 1, l5, (pg, pz), by simp, rfl, rfl, by omega, by omega, HS1.out.call hb1, HN, HZ⟩, by simp [intOf]; omega⟩)
              · ((try have h6 : decide (z ≤ 63) = false := decide_eq_false (by omega)); go_wp2_with (go_at_call 29; refine (HSB.out).mono ?_; rintro e w1 ⟨hb1, h2⟩; rw [if_neg HOK.out] at h2; subst h2; have hX1 := blk_below hb1 HX.out hXy; have c0 := cell_of_block hX1 0; have c1 := cell_of_block hX1 1; simp at c0 c1); exact ⟨⟨k + 1, l5, (pg, pz), by simp, rfl, rfl, by omega, by omega, HS1.out.call hb1, HN, HZ⟩, by simp [intOf]; omega⟩)
            · ((try have h6 : decide (z ≤ 63) = false := decide_eq_false (by omega)); go_wp2_with (go_at_call 29; refine (HSB.out).mono ?_; rintro e w1 ⟨hb1, h2⟩; rw [if_neg HOK.out] at h2; subst h2; have hX1 := blk_below hb1 HX.out hXy; have c0 := cell_of_block hX1 0; have c1 := cell_of_block hX1 1; simp at c0 c1); exact ⟨⟨k + 1, l5, (pg, pz), by simp, rfl, rfl, by omega, by omega, HS1.out.call hb1, HN, HZ⟩, by simp [intOf]; omega⟩)
        · have hkn : ¬ (k : Int) < n := by omega
          obtain ⟨A5, c5, rfl⟩ := own_form HS.out.o5
          have hnw := newest_any wr (fun _ => True) _ l5 ((Rows.of_own HS.out.o5).mono (fun _ _ _ => trivial)) (by omega) HS.out.bv
          rw [HN.out] at hnw
          obtain ⟨m5, hm5⟩ : ∃ m5, Hid (m5 = l5.length) := ⟨_, rfl⟩
          rw [← hm5.out] at h5 hnw ⊢
          have HNW := Lib.hid hnw
          have HBL := Lib.hid HS.out.bel
          have hz := HZ.out
          clear hnw HN HS HZ
          have hjr := fun wx (hb : Below wr.heap.size wr wx) => HJ.out.keep (Keep.of_below (HBL.out.trans (hb.mono HBL.out.size)) (fun _ _ hf => hf)) (fun _ _ hf _ => hf)
          have hps := fun wx (hb : Below wr.heap.size wr wx) => parseSup_any wx _ _ jb (hjr wx hb) (by have := hm.out; omega)
          have hsa := fun wx (hb : Below wr.heap.size wr wx) G cv (hc : Rows wx G 5 1 cv jb.length (jb.map byteV)) => same_any wx _ _ _ _ jb jb hc (hjr wx hb)
          rw [← hm.out] at hps hsa
          simp only [decide_true] at hsa
          have HPS := Lib.hid hps
          have HSA := Lib.hid hsa
          clear hjr hps hsa
          have hpd : (pg = 0 ∧ pz = 0) ∨ 0 < pg := by
            rcases hz with hz | hz
            · injection hz with h1 h2
              exact .inl ⟨h1, h2⟩
            · exact .inr hz
          clear hz
          rcases hpd with ⟨rfl, rfl⟩ | hp0
          · (go_wp2_with fail; refine (HNW.out).mono ?_; rintro e w1 ⟨rfl, hb1⟩; simp only; go_upto_region 24 with fail; have hbv := hb1.alloc hb1.size (.cells #[.int .i64 0, .int .i64 0] 78); generalize w1.alloc (.cells #[.int .i64 0, .int .i64 0] 78) = y2 at *; have HBV := Lib.hid hbv; have hp := HPS.out y2 hbv; clear hb1 hbv; obtain ⟨o, ho⟩ : ∃ o, supS jb = o := ⟨_, rfl⟩; rw [ho] at hp; have HP := Lib.hid hp; clear hp; cases o with | none => (clear ho; go_wp2_with (first | (go_at_call 31; refine (HP.out).mono ?_; rintro e w3 ⟨rfl, hb3⟩; simp only [supR]; have HB3 := Lib.hid (HBV.out.trans ((hb3.alloc hb3.size (.cells #[.int .i64 0, .int .i64 0] 78)).mono HBV.out.size)); clear hb3) | (go_at_call 10; refine (awake_any _).mono ?_; rintro e w8 ⟨rfl, hb8⟩)); go_ret; exact ⟨rfl, HBL.out.trans ((HB3.out.trans (hb8.mono HB3.out.size)).mono HBL.out.size)⟩) | some p => (obtain ⟨g1, z1⟩ := p; have hd := supS_dec ho; have HD1 := Lib.hid hd.1; have HD2 := Lib.hid hd.2; clear ho hd; go_wp2_with (first | (go_at_call 31; refine (HP.out).mono ?_; rintro e w3 ⟨rfl, hb3⟩; simp only [supR]; have HB3 := Lib.hid (HBV.out.trans ((hb3.alloc hb3.size (.cells #[.int .i64 (g1 : Int), .int .i64 (z1 : Int)] 78)).mono HBV.out.size)); clear hb3) | (go_at_call 29; refine (supBytes_any (g1 : Int) (z1 : Int) _).mono ?_; rintro e w5 ⟨hb5, h5'⟩; rw [if_pos HD1.out, HD2.out] at h5'; obtain ⟨v, rfl, hbt⟩ := h5'; have hb5a := HB3.out.trans (hb5.mono HB3.out.size); have HB5 := Lib.hid hb5a; have hsa := HSA.out w5 hb5a _ v (by rw [hm.out]; exact hbt); obtain ⟨BA, bn, BC, rfl⟩ : ∃ A n c, v = .slice A n c := (by obtain ⟨_, A, c, h, _⟩ := hbt; exact ⟨A, _, c, h⟩); have HSM := Lib.hid hsa; clear hsa hb5 hb5a hbt) | (go_at_call 15; refine (HSM.out).mono ?_; rintro e w6 ⟨rfl, rfl⟩) | (go_at_call 10; refine (awake_any _).mono ?_; rintro e w8 ⟨rfl, hb8⟩)); go_ret; exact ⟨rfl, HBL.out.trans ((HB5.out.trans (hb8.mono HB5.out.size)).mono HBL.out.size)⟩))
          · (go_wp2_with fail; refine (HNW.out).mono ?_; rintro e w1 ⟨rfl, hb1⟩; simp only; go_upto_region 24 with fail; have hbv := hb1.alloc hb1.size (.cells #[.int .i64 (pg : Int), .int .i64 (pz : Int)] 78); generalize w1.alloc (.cells #[.int .i64 (pg : Int), .int .i64 (pz : Int)] 78) = y2 at *; have HBV := Lib.hid hbv; have hp := HPS.out y2 hbv; clear hb1 hbv; obtain ⟨o, ho⟩ : ∃ o, supS jb = o := ⟨_, rfl⟩; rw [ho] at hp; have HP := Lib.hid hp; clear hp; cases o with | none => (clear ho; go_wp2_with (first | (go_at_call 31; refine (HP.out).mono ?_; rintro e w3 ⟨rfl, hb3⟩; simp only [supR]; have HB3 := Lib.hid (HBV.out.trans ((hb3.alloc hb3.size (.cells #[.int .i64 0, .int .i64 0] 78)).mono HBV.out.size)); clear hb3) | (go_at_call 10; refine (awake_any _).mono ?_; rintro e w8 ⟨rfl, hb8⟩)); go_ret; exact ⟨rfl, HBL.out.trans ((HB3.out.trans (hb8.mono HB3.out.size)).mono HBL.out.size)⟩) | some p => (obtain ⟨g1, z1⟩ := p; have hd := supS_dec ho; have HD1 := Lib.hid hd.1; have HD2 := Lib.hid hd.2; clear ho hd; go_wp2_with (first | (go_at_call 31; refine (HP.out).mono ?_; rintro e w3 ⟨rfl, hb3⟩; simp only [supR]; have HB3 := Lib.hid (HBV.out.trans ((hb3.alloc hb3.size (.cells #[.int .i64 (g1 : Int), .int .i64 (z1 : Int)] 78)).mono HBV.out.size)); clear hb3) | (go_at_call 29; refine (supBytes_any (g1 : Int) (z1 : Int) _).mono ?_; rintro e w5 ⟨hb5, h5'⟩; rw [if_pos HD1.out, HD2.out] at h5'; obtain ⟨v, rfl, hbt⟩ := h5'; have hb5a := HB3.out.trans (hb5.mono HB3.out.size); have HB5 := Lib.hid hb5a; have hsa := HSA.out w5 hb5a _ v (by rw [hm.out]; exact hbt); obtain ⟨BA, bn, BC, rfl⟩ : ∃ A n c, v = .slice A n c := (by obtain ⟨_, A, c, h, _⟩ := hbt; exact ⟨A, _, c, h⟩); have HSM := Lib.hid hsa; clear hsa hb5 hb5a hbt) | (go_at_call 15; refine (HSM.out).mono ?_; rintro e w6 ⟨rfl, rfl⟩) | (go_at_call 10; refine (awake_any _).mono ?_; rintro e w8 ⟨rfl, hb8⟩)); go_ret; exact ⟨rfl, HBL.out.trans ((HB5.out.trans (hb8.mono HB5.out.size)).mono HBL.out.size)⟩))
    · go_enter Try.func6, Try.ntmps6
      go_wp2_with fail
      refine (awake_any _).mono ?_
      rintro e w2 ⟨rfl, hb2⟩
      go_wp2_with fail
      go_ret
      exact ⟨rfl, hb2⟩
  · go_enter Try.func6, Try.ntmps6
    go_wp2_with fail
    refine (awake_any _).mono ?_
    rintro e w2 ⟨rfl, hb2⟩
    go_wp2_with fail
    go_ret
    exact ⟨rfl, hb2⟩
end Go.Proofs.Ytejfejckmhoolaa
