/- (manifest.Record).Bytes. -/
import Derived.Test.YtejfejckmhoolaaWS
import Derived.Test.YtejfejckmhoolaaRec
set_option linter.unusedSimpArgs false
set_option linter.unusedVariables false
namespace Go.Proofs.Ytejfejckmhoolaa
open Go.RowKit

theorem blk_keep {w w' : World} {X g : Nat} {cs : Array Value} {T : TypeId} {fr : Nat × Nat} (hk : Keep (fun g => tyOf w g ≠ some 5 ∧ g ≠ X) w w') (h : w.heap[g]? = some (.cells cs T fr)) (hT : T ≠ 5) (hX : g ≠ X) : w'.heap[g]? = some (.cells cs T fr) :=
  (hk.block g (heap_lt h) ⟨by rw [tyOf_of h]; intro e; injection e with e; exact hT e, hX⟩).trans h
theorem WS.drew {W1 w : World} {X B : Nat} {l : Byts} (h : WS W1 w X l B) : WS W1 w.drew X l B := h.grow ((Keep.refl _ _).drew)
def RBPost (w : World) (o : Option Byts) (e : Ending) (w' : World) : Prop :=
  Below w.heap.size w w' ∧ match o with
  | some b => ∃ v, e = .returned (.tuple #[v, .int .i64 0]) ∧ Bts w' (w.heap.size ≤ ·) v b
  | none => e = .returned (.tuple #[.slice none 0 0, .int .i64 20])
def recBytesS (r : Rec) : Option Byts := if recOk r then some (recEnc r) else none

set_option maxRecDepth 100000 in
set_option maxHeartbeats 4000000 in
theorem recordBytes_any (w : World) (F : Nat → Prop) (r : Rec) (lv av dv : Value) (ps : List (Place × Value)) (hL : Ints w F lv r.logs) (hD : Ints w F dv r.drop) (hA : RdPlaces w F 119 122 av ps) (hps : ps.map (·.1) = r.add)
    (hl1 : r.logs.length ≤ 1000) (hl2 : r.drop.length ≤ 1000) (hl3 : r.add.length ≤ 1000) :
    Calls Try.prog 34 #[.agg (recCells r lv av dv).toArray] w (RBPost w (recBytesS r)) := by
  have HCK := Lib.hid (fun wx (hk : Keep (fun _ => True) w wx) => recCheck_any wx F r lv av dv ps (hL.keep hk (fun _ _ _ _ => trivial)) (hD.keep hk (fun _ _ _ _ => trivial)) ⟨hA.1.keep hk (fun _ _ _ _ => trivial), fun p hp => ⟨(hA.2 p hp).1.keep hk (fun _ _ _ _ => trivial), (hA.2 p hp).2⟩⟩ hps hl1 hl2 hl3)
  obtain ⟨LA, LN, LC, rfl⟩ : ∃ A n c, lv = .slice A n c := by
    obtain ⟨_, A, c, h, _⟩ := hL
    exact ⟨A, _, c, h⟩
  obtain ⟨DA, DN, DC, rfl⟩ : ∃ A n c, dv = .slice A n c := by
    obtain ⟨_, A, c, h, _⟩ := hD
    exact ⟨A, _, c, h⟩
  obtain ⟨_, A, ac, rfl, hac, _⟩ := id hA.1
  by_cases hok : recOk r = true
  · have hp0 : recBytesS r = some (recEnc r) := by simp [recBytesS, hok]
    rw [hp0]
    rw [hok] at HCK
    simp only [errOf_true] at HCK
    obtain ⟨wh, sq, logs, add, drop⟩ := r
    have hfin : Hid (recEnc ⟨wh, sq, logs, add, drop⟩ = boolEnc wh ++ numEnc sq.toNat ++ listEnc logs ++ listEnc drop ++ numEnc ps.length ++ placesEnc (ps.map (·.1))) := by
      unfold Hid
      simp only at hps
      rw [hps]
      simp only [recEnc, recFront]
      rw [← hps, List.length_map]
    simp only [recOk, recHead, Bool.and_eq_true, decide_eq_true_eq] at hok
    obtain ⟨⟨⟨⟨⟨⟨s0, s1⟩, zl⟩, zd⟩, al⟩, hdup⟩, hadd⟩ := hok
    obtain ⟨hlog, hlz⟩ := zonesOk_at zl
    obtain ⟨hdrop, hdz⟩ := zonesOk_at zd
    simp only at hps hL hD
    have hpl : ∀ p, p ∈ ps → placeOk p.1 = true := by
      intro p hp
      exact List.all_eq_true.1 hadd p.1 (by rw [← hps]; exact List.mem_map.2 ⟨p, hp, rfl⟩)
    have HPL := Lib.hid hpl
    have HLZ := Lib.hid hlz
    have HDZ := Lib.hid hdz
    clear hpl zl zd hdup hadd hlz hdz
    obtain ⟨sn, rfl⟩ := Int.eq_ofNat_of_zero_le s0
    obtain ⟨n, hn⟩ : ∃ n, Hid (n = ps.length) := ⟨_, rfl⟩
    have hn1 : n ≤ 64 := by rw [hn.out, ← List.length_map (f := (·.1)), hps]; exact al
    rw [← hn.out] at hA hac hfin HCK ⊢
    unfold recCells at HCK ⊢
    simp only at HCK ⊢
    have HL := Lib.hid (Rows.mono hL (G := fun g => g < w.heap.size) (fun g hg _ => hg))
    have HD := Lib.hid (Rows.mono hD (G := fun g => g < w.heap.size) (fun g hg _ => hg))
    have HA := Lib.hid (show Rows w (fun g => g < w.heap.size) 119 10 (.slice A n ac) n (ps.flatMap plCells) ∧ ∀ p, p ∈ ps → Rows w (fun g => g < w.heap.size) 122 2 p.2 p.1.m.refs.length (p.1.m.refs.flatMap refCells) ∧ p.1.m.refs.length ≤ 1000 from
      ⟨by have h := Rows.mono hA.1 (G := fun g => g < w.heap.size) (fun g hg _ => hg); rw [← hn.out] at h; exact h, fun p hp => ⟨Rows.mono (hA.2 p hp).1 (fun g hg _ => hg), (hA.2 p hp).2⟩⟩)
    clear hL hD hA hps al s0 hl1 hl2 hl3 hp0
    go_enter Try.func34, Try.ntmps34
    have hbx := heap_alloc_new w (.cells #[.bool wh, .int .i64 (sn : Int), .slice LA LN LC, .slice A n ac, .slice DA DN DC] 29)
    have HBX := Lib.hid hbx
    clear hbx
    go_wp2_with fail
    refine (HCK.out _ ((Keep.refl _ _).alloc _)).mono ?_
    rintro e v1 ⟨rfl, hb1⟩
    have hbc := (hb1.block w.heap.size (by simp)).trans HBX.out
    have hk0 : Keep (fun g => g < w.heap.size) w v1 := ((Keep.refl _ _).alloc _).trans (Keep.of_below hb1 (F := fun g => g < w.heap.size) (fun g hg _ => hg))
    have hs0 : w.heap.size < v1.heap.size := heap_lt hbc
    have HBC := Lib.hid hbc
    have HK0 := Lib.hid hk0
    have HL1 := Lib.hid (Rows.mono (HL.out.keep hk0 (fun _ _ hf _ => hf)) (G := (· < v1.heap.size)) (fun g hg _ => hg))
    have HD1 := Lib.hid (Rows.mono (HD.out.keep hk0 (fun _ _ hf _ => hf)) (G := (· < v1.heap.size)) (fun g hg _ => hg))
    have HA1 := Lib.hid (show Rows v1 (· < v1.heap.size) 119 10 (.slice A n ac) n (ps.flatMap plCells) ∧ ∀ p, p ∈ ps → Rows v1 (· < v1.heap.size) 122 2 p.2 p.1.m.refs.length (p.1.m.refs.flatMap refCells) ∧ p.1.m.refs.length ≤ 1000 from
      ⟨Rows.mono (HA.out.1.keep hk0 (fun _ _ hf _ => hf)) (fun g hg _ => hg), fun p hp => ⟨Rows.mono ((HA.out.2 p hp).1.keep hk0 (fun _ _ hf _ => hf)) (fun g hg _ => hg), (HA.out.2 p hp).2⟩⟩)
    have c0 : v1.cell? ⟨w.heap.size, 0, none⟩ = some (.bool wh) := by simpa using cell_of_block hbc 0
    clear hb1 hbc hk0 HBX HCK HL HD HA
    go_upto_region 6 with fail
    have hw0 : WS v1 (v1.alloc (.cells #[.slice none 0 0, .bool false] 165)) v1.heap.size [] 0 :=
      ⟨⟨.slice none 0 0, heap_alloc_new _ _, World.ownsRow_nil _ _ _ _, fun g h => by simp [Value.ownBlock] at h⟩, (Keep.refl _ _).alloc _, Nat.le_refl _, by simp⟩
    have HW0 := Lib.hid hw0
    have hbc := (Below.heap_alloc v1 (.cells #[.slice none 0 0, .bool false] 165) _ hs0).trans HBC.out
    have hsX : v1.heap.size < (v1.alloc (.cells #[.slice none 0 0, .bool false] 165)).heap.size := by simp
    have HBC2 := Lib.hid hbc
    clear hw0 hbc c0
    generalize v1.alloc (.cells #[.slice none 0 0, .bool false] 165) = y0 at *
    generalize hXe : v1.heap.size = X at *
    have HXE := Lib.hid hXe
    clear hXe
    have hHX : w.heap.size ≠ X := by omega
    have c0 := cell_of_block HBC2.out 0
    have c1 := cell_of_block HBC2.out 1
    simp at c0 c1
    obtain ⟨wn, hwn⟩ : ∃ wn : Nat, Hid (wn = if wh then 1 else 0) := ⟨_, rfl⟩
    have hwn1 : wn ≤ 1 := by rw [hwn.out]; split <;> omega
    have hbn : Hid (numEnc wn = boolEnc wh) := by
      unfold Hid
      rw [numEnc_lt (by omega), hwn.out]
      cases wh <;> rfl
    go_upto_if 20 with fail
    go_cut [6] (fun s wx => s = .int .i64 (wn : Int) ∧ wx = y0)
    case first =>
      cases wh with
      | false =>
        have hw1 := hwn.out
        simp at hw1
        subst hw1
        go_wp2_with fail
        go_meet
        exact ⟨rfl, rfl⟩
      | true =>
        have hw1 := hwn.out
        simp at hw1
        subst hw1
        go_wp2_with fail
        go_meet
        exact ⟨rfl, rfl⟩
    case rest =>
      obtain ⟨rfl, hwx⟩ := hcut
      subst hwx
      clear c0
      go_upto_region 8 with fail
      go_cut [26] (fun s wx => s = .pointer (some ⟨X, 0, none⟩) ∧ WS v1 wx X (boolEnc wh ++ numEnc sn) 40 ∧ wx.heap[w.heap.size]? = some (.cells #[.bool wh, .int .i64 (sn : Int), .slice LA LN LC, .slice A n ac, .slice DA DN DC] 29 (0, 0)))
      case first =>
        have hb0 := HBC2.out
        have HWD := Lib.hid HW0.out.drew
        go_region_held3 (fun w' => w'.heap[w.heap.size]? = some (.cells #[.bool wh, .int .i64 (sn : Int), .slice LA LN LC, .slice A n ac, .slice DA DN DC] 29 (0, 0)) ∧ w'.cell? ⟨w.heap.size, 1, none⟩ = some (.int .i64 (sn : Int))) ((go_split_ands; refine (fun hb => ⟨hb, by simpa using cell_of_block hb 1⟩) ?_; first | assumption | exact blk_keep hk1.2 (by assumption) (by decide) hHX))
          (first | (go_at_call_of 77 (Value.int .i64 (wn : Int)); refine (ws_num HWD.out wn (by omega) (by omega)).mono ?_; rintro e x1 ⟨rfl, hk1⟩; have HW1 := Lib.hid hk1.1) | (go_at_call_of 77 (Value.int .i64 (sn : Int)); refine (ws_num HW1.out sn (by omega) (by omega)).mono ?_; rintro e x2 ⟨rfl, hk1⟩; have HW2 := Lib.hid hk1.1))
        all_goals
          have hH := ‹_ ∧ World.cell? _ ⟨w.heap.size, 1, none⟩ = some (.int .i64 (sn : Int))›.1
          go_wp2_with fail
          go_meet
          exact ⟨rfl, HW2.out.leq (by omega) (by rw [hbn.out]; simp), hH⟩
      case rest =>
        obtain ⟨rfl, hws, hb⟩ := hcut
        have c2 := cell_of_block hb 2
        simp at c2
        have HWS := Lib.hid hws
        have HB := Lib.hid hb
        clear hws hb HBC2 HW0 c1 hsX
        go_wp2_with fail
        refine (ws_list HWS.out logs _ (by rw [HXE.out]; exact HL1.out) HLZ.out hlog (by omega)).mono ?_
        rintro e x1 ⟨⟨rv1, rfl⟩, hw1, hk1⟩
        have hb1 := blk_keep hk1 HB.out (by decide) hHX
        have c4 := cell_of_block hb1 4
        simp at c4
        have HW1 := Lib.hid hw1
        have HB1 := Lib.hid hb1
        clear hw1 hk1 hb1 HWS HB c2
        go_wp2_with fail
        refine (ws_list HW1.out drop _ (by rw [HXE.out]; exact HD1.out) HDZ.out hdrop (by omega)).mono ?_
        rintro e x2 ⟨⟨rv2, rfl⟩, hw2, hk2⟩
        have hb2 := blk_keep hk2 HB1.out (by decide) hHX
        have c3 := cell_of_block hb2 3
        simp at c3
        have HW2 := Lib.hid hw2
        have HB2 := Lib.hid hb2
        clear hw2 hk2 hb2 HW1 HB1 c4
        go_wp2_with fail
        refine (ws_num HW2.out n (by omega) (by omega)).mono ?_
        rintro e x3 ⟨rfl, hw3, hk3⟩
        have hb3 := blk_keep hk3 HB2.out (by decide) hHX
        have c3' := cell_of_block hb3 3
        simp at c3'
        obtain ⟨front, hfr⟩ : ∃ front, Hid (front = boolEnc wh ++ numEnc sn ++ listEnc logs ++ listEnc drop ++ numEnc n) := ⟨_, rfl⟩
        rw [← hfr.out] at hw3
        have HF := Lib.hid hw3
        clear hw3 hk3 hb3 HW2 HB2 c3
        go_wp2_with fail
        go_loopw [46] (fun i wr => ∃ (k : Nat), i = .int .i64 k ∧ k ≤ n ∧ WS v1 wr X (front ++ placesEnc ((ps.map (·.1)).take k)) (3000 + 41000 * k)) (fun i _ => n - (intOf i).toNat)
        case atStart => exact ⟨0, rfl, by omega, HF.out.leq (by omega) (by simp [placesEnc])⟩
        case round =>
          obtain ⟨k, rfl, hk, hob⟩ := hrel
          have HO := Lib.hid hob
          clear hob HF c3'
          obtain ⟨wq, rfl⟩ : ∃ w2 : World, w2 = wr := ⟨_, rfl⟩
          by_cases hlt : k < n
          · obtain ⟨⟨p, rv⟩, hp⟩ : ∃ p, ps[k]? = some p := ⟨ps[k]'(by have := hn.out; omega), List.getElem?_eq_getElem _⟩
            have hpo := HPL.out _ (List.mem_of_getElem? hp)
            have hpr := (HA1.out.2 _ (List.mem_of_getElem? hp)).1
            have hprl := (HA1.out.2 _ (List.mem_of_getElem? hp)).2
            have hkx : Keep (· < X) v1 wq := by have h := HO.out.keep; rw [HXE.out] at h; exact h
            have hXq : X < wq.heap.size := by obtain ⟨v, a, _⟩ := HO.out.wtr; exact heap_lt a
            obtain ⟨g, off, cap2, eA, _, hgX, hgl, hel⟩ := (HA1.out.1.keep hkx (fun _ _ hf _ => hf)).elems (fun x => rfl) (by decide) hn.out.symm (by omega)
            have eA2 : A = some ⟨g, off, none⟩ := by injection eA
            subst eA2
            have htk := take_succ_of (show (ps.map (·.1))[k]? = some p by simp [hp])
            have HTK := Lib.hid htk
            obtain ⟨lv, ⟨zn, ln, ⟨su, ss, sd⟩, ⟨lu, ls, ld⟩, rf⟩⟩ := p
            obtain ⟨RA, rn, rc, rfl⟩ : ∃ RA rn rc, rv = .slice RA rn rc := by
              obtain ⟨_, RA, rc, h, _⟩ := hpr
              exact ⟨RA, _, rc, h⟩
            have hrn : Hid (rn = rf.length) := by
              obtain ⟨_, A', c', h, _⟩ := hpr
              injection h
            simp only [placeOk, metaOk, headOk, zoneOk, Bool.and_eq_true, decide_eq_true_eq] at hpo
            obtain ⟨⟨p0, p1⟩, ⟨⟨⟨⟨⟨⟨⟨z0, z1⟩, l0⟩, l1⟩, ks⟩, kl⟩, -⟩, hrs⟩⟩ := hpo
            obtain ⟨lvn, rfl⟩ := Int.eq_ofNat_of_zero_le p0
            obtain ⟨znn, rfl⟩ := Int.eq_ofNat_of_zero_le z0
            obtain ⟨lnn, rfl⟩ := Int.eq_ofNat_of_zero_le (show 0 ≤ ln by omega)
            have HRA := Lib.hid (refs_at _ _ _ hrs)
            have e0 := hel k _ hp 0 _ rfl
            have e1 := hel k _ hp 1 _ rfl
            have e2 := hel k _ hp 2 _ rfl
            have e3 := hel k _ hp 3 _ rfl
            have e4 := hel k _ hp 4 _ rfl
            have e5 := hel k _ hp 5 _ rfl
            have e6 := hel k _ hp 6 _ rfl
            have e7 := hel k _ hp 7 _ rfl
            have e8 := hel k _ hp 8 _ rfl
            have e9 := hel k _ hp 9 _ rfl
            rw [Nat.add_zero] at e0
            rw [← Nat.add_assoc] at e1 e2 e3 e4 e5 e6 e7 e8 e9
            simp only at e0 e1 e2 e3 e4 e5 e6 e7 e8 e9 hpr hprl
            have hrn1 : rn ≤ 1000 := by have := hrn.out; omega
            have HPR := Lib.hid hpr
            have HKS := Lib.hid ks
            have HKL := Lib.hid kl
            clear hel hp eA hpr hrs htk ks kl hkx
            go_upto_region 16 with fail
            have hpb := heap_alloc_new wq (.cells #[.int .i64 (lvn : Int), .int .i64 (znn : Int), .int .i64 (lnn : Int), .string su, .int .i64 ss, .int .i64 sd, .string lu, .int .i64 ls, .int .i64 ld, .slice RA rn rc] 119)
            have hmb := heap_alloc_new (wq.alloc (.cells #[.int .i64 (lvn : Int), .int .i64 (znn : Int), .int .i64 (lnn : Int), .string su, .int .i64 ss, .int .i64 sd, .string lu, .int .i64 ls, .int .i64 ld, .slice RA rn rc] 119)) (.cells #[.int .i64 (znn : Int), .int .i64 (lnn : Int), .string su, .int .i64 ss, .int .i64 sd, .string lu, .int .i64 ls, .int .i64 ld, .slice RA rn rc] 117)
            have hpb2 := (Below.heap_alloc (wq.alloc (.cells #[.int .i64 (lvn : Int), .int .i64 (znn : Int), .int .i64 (lnn : Int), .string su, .int .i64 ss, .int .i64 sd, .string lu, .int .i64 ls, .int .i64 ld, .slice RA rn rc] 119)) (.cells #[.int .i64 (znn : Int), .int .i64 (lnn : Int), .string su, .int .i64 ss, .int .i64 sd, .string lu, .int .i64 ls, .int .i64 ld, .slice RA rn rc] 117) wq.heap.size (by simp)).trans hpb
            have H0 := Lib.hid (HO.out.grow (((Keep.refl _ _).alloc (.cells #[.int .i64 (lvn : Int), .int .i64 (znn : Int), .int .i64 (lnn : Int), .string su, .int .i64 ss, .int .i64 sd, .string lu, .int .i64 ls, .int .i64 ld, .slice RA rn rc] 119)).alloc (.cells #[.int .i64 (znn : Int), .int .i64 (lnn : Int), .string su, .int .i64 ss, .int .i64 sd, .string lu, .int .i64 ls, .int .i64 ld, .slice RA rn rc] 117)))
            simp only [World.size_alloc] at hmb
            clear e0 e1 e2 e3 e4 e5 e6 e7 e8 e9 HO hpb
            generalize ((wq.alloc (.cells #[.int .i64 (lvn : Int), .int .i64 (znn : Int), .int .i64 (lnn : Int), .string su, .int .i64 ss, .int .i64 sd, .string lu, .int .i64 ls, .int .i64 ld, .slice RA rn rc] 119)).alloc (.cells #[.int .i64 (znn : Int), .int .i64 (lnn : Int), .string su, .int .i64 ss, .int .i64 sd, .string lu, .int .i64 ls, .int .i64 ld, .slice RA rn rc] 117)) = y at *
            generalize hPe : wq.heap.size = P at *
            have hPX : P ≠ X := by omega
            have hMX : P + 1 ≠ X := by omega
            have HPB := Lib.hid hpb2
            have HMB := Lib.hid hmb
            clear hpb2 hmb hPe
            have cp := cell_of_block HPB.out 0
            have cm0 := cell_of_block HMB.out 0
            have cm1 := cell_of_block HMB.out 1
            simp at cp cm0 cm1
            go_cut [61] (fun s wx => s = .pointer (some ⟨X, 0, none⟩) ∧ WS v1 wx X (front ++ placesEnc ((ps.map (·.1)).take k) ++ numEnc lvn ++ numEnc znn ++ numEnc lnn) (3000 + 41000 * k + 60) ∧ wx.heap[P + 1]? = some (.cells #[.int .i64 (znn : Int), .int .i64 (lnn : Int), .string su, .int .i64 ss, .int .i64 sd, .string lu, .int .i64 ls, .int .i64 ld, .slice RA rn rc] 117 (0, 0)))
            case first =>
              have hb0 := HPB.out
              have hm0 := HMB.out
              have HWD := Lib.hid H0.out.drew
              go_region_held3 (fun w' => w'.heap[P]? = some (.cells #[.int .i64 (lvn : Int), .int .i64 (znn : Int), .int .i64 (lnn : Int), .string su, .int .i64 ss, .int .i64 sd, .string lu, .int .i64 ls, .int .i64 ld, .slice RA rn rc] 119 (0, 0)) ∧ w'.heap[P + 1]? = some (.cells #[.int .i64 (znn : Int), .int .i64 (lnn : Int), .string su, .int .i64 ss, .int .i64 sd, .string lu, .int .i64 ls, .int .i64 ld, .slice RA rn rc] 117 (0, 0)) ∧ w'.cell? ⟨P, 0, none⟩ = some (.int .i64 (lvn : Int)) ∧ w'.cell? ⟨P + 1, 0, none⟩ = some (.int .i64 (znn : Int)) ∧ w'.cell? ⟨P + 1, 1, none⟩ = some (.int .i64 (lnn : Int))) ((go_split_ands; refine (fun hb hm => ⟨hb, hm, by simpa using cell_of_block hb 0, by simpa using cell_of_block hm 0, by simpa using cell_of_block hm 1⟩) ?_ ?_ <;> first | assumption | exact blk_keep hk1.2 (by assumption) (by decide) hPX | exact blk_keep hk1.2 (by assumption) (by decide) hMX))
                (first | (go_at_call_of 77 (Value.int .i64 (lvn : Int)); refine (ws_num HWD.out lvn (by omega) (by omega)).mono ?_; rintro e x1 ⟨rfl, hk1⟩; have HW1 := Lib.hid hk1.1) | (go_at_call_of 77 (Value.int .i64 (znn : Int)); refine (ws_num HW1.out znn (by omega) (by omega)).mono ?_; rintro e x2 ⟨rfl, hk1⟩; have HW2 := Lib.hid hk1.1) | (go_at_call_of 77 (Value.int .i64 (lnn : Int)); refine (ws_num HW2.out lnn (by omega) (by omega)).mono ?_; rintro e x3 ⟨rfl, hk1⟩; have HW3 := Lib.hid hk1.1))
              all_goals
                have hH := ‹_ ∧ _ ∧ World.cell? _ ⟨P, 0, none⟩ = some (.int .i64 (lvn : Int)) ∧ _›.2.1
                go_wp2_with fail
                go_meet
                exact ⟨rfl, HW3.out.leq (by omega) (by simp), hH⟩
            case rest =>
              obtain ⟨rfl, hws, hm⟩ := hcut
              have HW0' := Lib.hid hws
              have HM0 := Lib.hid hm
              have c2 := cell_of_block hm 2
              have c3 := cell_of_block hm 3
              have c4 := cell_of_block hm 4
              simp at c2 c3 c4
              clear hws hm HPB HMB cp cm0 cm1 H0
              go_wp2_with fail
              refine (ws_key HW0'.out ⟨su, ss, sd⟩ HKS.out (by omega)).mono ?_
              rintro e x1 ⟨⟨rv1, rfl⟩, hw1, hk1⟩
              have hm1 := blk_keep hk1 HM0.out (by decide) hMX
              have c5 := cell_of_block hm1 5
              have c6 := cell_of_block hm1 6
              have c7 := cell_of_block hm1 7
              simp at c5 c6 c7
              have HW1 := Lib.hid hw1
              have HM1 := Lib.hid hm1
              clear hw1 hk1 hm1 HW0' HM0 c2 c3 c4
              go_wp2_with fail
              refine (ws_key HW1.out ⟨lu, ls, ld⟩ HKL.out (by omega)).mono ?_
              rintro e x2 ⟨⟨rv2, rfl⟩, hw2, hk2⟩
              have hm2 := blk_keep hk2 HM1.out (by decide) hMX
              have c8 := cell_of_block hm2 8
              simp at c8
              have HW2 := Lib.hid hw2
              have HM2 := Lib.hid hm2
              clear hw2 hk2 hm2 HW1 HM1 c5 c6 c7
              go_wp2_with fail
              refine (ws_num HW2.out rn (by omega) (by omega)).mono ?_
              rintro e x3 ⟨rfl, hw3, hk3⟩
              have hm3 := blk_keep hk3 HM2.out (by decide) hMX
              have c8' := cell_of_block hm3 8
              simp at c8'
              obtain ⟨pre, hpre⟩ : ∃ pre, Hid (pre = front ++ placesEnc ((ps.map (·.1)).take k) ++ headEnc ⟨lvn, ⟨znn, lnn, ⟨su, ss, sd⟩, ⟨lu, ls, ld⟩, rf⟩⟩) := ⟨_, rfl⟩
              have HP12 := Lib.hid (hw3.leq (B' := 3000 + 41000 * k + 500) (l' := pre) (by omega) (by rw [hpre.out, hrn.out]; simp [headEnc]))
              clear hw3 hk3 hm3 HW2 HM2 c8
              go_wp2_with fail
              go_loopw [78] (fun i wr => ∃ (j : Nat), i = .int .i64 j ∧ j ≤ rn ∧ WS v1 wr X (pre ++ refsEnc (rf.take j)) (3000 + 41000 * k + 500 + 40 * j)) (fun i _ => rn - (intOf i).toNat)
              case atStart => exact ⟨0, rfl, by omega, HP12.out.leq (by omega) (by simp [refsEnc])⟩
              case round =>
                obtain ⟨j, rfl, hj, hob⟩ := hrel
                obtain ⟨wz, rfl⟩ : ∃ w2 : World, w2 = wr := ⟨_, rfl⟩
                have HO := Lib.hid hob
                clear hob HP12 c8'
                by_cases hlt2 : j < rn
                · obtain ⟨r, hr⟩ : ∃ r, rf[j]? = some r := ⟨rf[j]'(by have := hrn.out; omega), List.getElem?_eq_getElem _⟩
                  obtain ⟨a1, a2, a3, a4, -⟩ := HRA.out j r hr
                  obtain ⟨rz, rb⟩ := r
                  simp only at a1 a2 a3 a4
                  obtain ⟨rzn, rfl⟩ := Int.eq_ofNat_of_zero_le a1
                  obtain ⟨rbn, rfl⟩ := Int.eq_ofNat_of_zero_le (show 0 ≤ rb by omega)
                  have hkx : Keep (· < X) v1 wz := by have h := HO.out.keep; rw [HXE.out] at h; exact h
                  have hXz : X < wz.heap.size := by obtain ⟨v, a, _⟩ := HO.out.wtr; exact heap_lt a
                  obtain ⟨g2, off2, cap3, eR, _, hgX2, hgl2, hel2⟩ := (HPR.out.keep hkx (fun _ _ hf _ => hf)).elems (fun x => rfl) (by decide) rfl (by have := hrn.out; omega)
                  have eR2 : RA = some ⟨g2, off2, none⟩ := by injection eR
                  subst eR2
                  have htk2 := take_succ_of hr
                  have HTK2 := Lib.hid htk2
                  have f0 := hel2 j _ hr 0 _ rfl
                  have f1 := hel2 j _ hr 1 _ rfl
                  rw [Nat.add_zero] at f0
                  rw [← Nat.add_assoc] at f1
                  simp only at f0 f1
                  clear hel2 eR hr htk2 hkx
                  go_upto_region 23 with fail
                  have hxb := heap_alloc_new wz (.cells #[.int .i64 (rzn : Int), .int .i64 (rbn : Int)] 122)
                  have H0 := Lib.hid (HO.out.grow ((Keep.refl _ _).alloc (.cells #[.int .i64 (rzn : Int), .int .i64 (rbn : Int)] 122)))
                  clear f0 f1 HO
                  generalize (wz.alloc (.cells #[.int .i64 (rzn : Int), .int .i64 (rbn : Int)] 122)) = y2 at *
                  generalize hQe : wz.heap.size = Q at *
                  have hQX : Q ≠ X := by omega
                  have HXB := Lib.hid hxb
                  clear hxb hQe
                  have cx0 := cell_of_block HXB.out 0
                  have cx1 := cell_of_block HXB.out 1
                  simp at cx0 cx1
                  have hb0 := HXB.out
                  have HWD := Lib.hid H0.out.drew
                  go_region_held3 (fun w' => w'.heap[Q]? = some (.cells #[.int .i64 (rzn : Int), .int .i64 (rbn : Int)] 122 (0, 0)) ∧ w'.cell? ⟨Q, 0, none⟩ = some (.int .i64 (rzn : Int)) ∧ w'.cell? ⟨Q, 1, none⟩ = some (.int .i64 (rbn : Int))) ((go_split_ands; refine (fun hb => ⟨hb, by simpa using cell_of_block hb 0, by simpa using cell_of_block hb 1⟩) ?_; first | assumption | exact blk_keep hk1.2 (by assumption) (by decide) hQX))
                    (first | (go_at_call_of 77 (Value.int .i64 (rzn : Int)); refine (ws_num HWD.out rzn (by omega) (by omega)).mono ?_; rintro e x1 ⟨rfl, hk1⟩; have HW1 := Lib.hid hk1.1) | (go_at_call_of 77 (Value.int .i64 (rbn : Int)); refine (ws_num HW1.out rbn (by omega) (by omega)).mono ?_; rintro e x2 ⟨rfl, hk1⟩; have HW2 := Lib.hid hk1.1))
                  all_goals
                    have HWE := Lib.hid (HW2.out.leq (B' := 3000 + 41000 * k + 500 + 40 * (j + 1)) (l' := pre ++ refsEnc (rf.take (j + 1))) (by omega) (by rw [HTK2.out, refsEnc_snoc]; simp [refEnc]))
                    clear cx0 cx1
                    go_wp2_with fail
                    exact ⟨⟨j + 1, by simp, by omega, HWE.out⟩, by simp [intOf]; omega⟩
                · have hjr : rf.take j = rf := List.take_of_length_le (by have := hrn.out; omega)
                  have HO2 := Lib.hid (HO.out.leq (B' := 3000 + 41000 * (k + 1)) (l' := front ++ placesEnc ((ps.map (·.1)).take (k + 1))) (by omega) (by rw [hjr, HTK.out, placesEnc_snoc, hpre.out]; simp [placeEnc]))
                  have hjn : ¬ (j : Int) < rn := by omega
                  clear hjr HO
                  go_wp2_with fail
                  exact ⟨⟨k + 1, by simp, by omega, HO2.out⟩, by simp [intOf]; omega⟩
          · have hkn : ¬ (k : Int) < n := by omega
            have hkk : (ps.map (·.1)).take k = ps.map (·.1) := List.take_of_length_le (by have := hn.out; simp; omega)
            have HO2 := Lib.hid (HO.out.leq (l' := recEnc ⟨wh, sn, logs, add, drop⟩) (Nat.le_refl _) (by rw [hkk, hfin.out, hfr.out]; simp))
            clear hkk HO
            go_wp2_with fail
            refine (wbytes_any X wq _ false _ HO2.out.wtr (by have := HO2.out.le; omega)).mono ?_
            rintro e wz ⟨hbz, h | ⟨-, v, rfl, hbv⟩⟩
            · cases h.1
            have HBV := Lib.hid hbv
            have HBZ := Lib.hid hbz
            clear hbv hbz
            go_wp2_with fail
            go_ret2
            have hsz := HO2.out.keep.size
            have hk1 : Keep (fun g => g < w.heap.size) w wz := HK0.out.trans ((HO2.out.keep.mono (fun g _ hf => by have := HXE.out; omega)).trans (Keep.of_below HBZ.out (F := fun g => g < w.heap.size) (fun g _ hf => by have := HXE.out; omega)))
            exact ⟨hk1.below (Nat.le_refl _), v, rfl, HBV.out.mono (fun g _ hg => by have := HXE.out; omega)⟩
  · have hp0 : recBytesS r = none := by simp [recBytesS, hok]
    have hok2 : recOk r = false := by simpa using hok
    rw [hp0]
    rw [hok2] at HCK
    simp only [errOf_false] at HCK
    obtain ⟨wh, sq, logs, add, drop⟩ := r
    unfold recCells at HCK ⊢
    simp only at HCK ⊢
    clear hok hok2 hp0 hL hD hA hps
    go_enter Try.func34, Try.ntmps34
    go_wp2_with fail
    refine (HCK.out _ ((Keep.refl _ _).alloc _)).mono ?_
    rintro e wc ⟨rfl, hb1⟩
    go_wp2_with fail
    go_ret2
    exact ⟨((Below.refl _ _).alloc (Nat.le_refl _) _).trans (hb1.mono (by simp)), rfl⟩
end Go.Proofs.Ytejfejckmhoolaa
