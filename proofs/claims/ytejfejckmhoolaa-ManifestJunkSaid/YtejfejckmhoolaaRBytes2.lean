/- The document's bytes of a record that is right. -/
import Derived.Test.YtejfejckmhoolaaRBytes
import Derived.Deep.DeepCutAuto
set_option linter.unusedSimpArgs false
set_option linter.unusedVariables false
namespace Go.Proofs.Ytejfejckmhoolaa
open Go.RowKit

def refEnc (r : Ref) : Byts := numEnc r.zone.toNat ++ numEnc r.bytes.toNat
def refsEnc (l : List Ref) : Byts := l.flatMap refEnc
def headEnc (p : Place) : Byts := numEnc p.level.toNat ++ numEnc p.m.zone.toNat ++ numEnc p.m.len.toNat ++ textEnc (keyEnc p.m.small) ++ textEnc (keyEnc p.m.large) ++ numEnc p.m.refs.length
def placeEnc (p : Place) : Byts := headEnc p ++ refsEnc p.m.refs
def placesEnc (l : List Place) : Byts := l.flatMap placeEnc
def boolEnc (b : Bool) : Byts := [if b then 1 else 0]
def recFront (r : Rec) : Byts := boolEnc r.whole ++ numEnc r.seq.toNat ++ listEnc r.logs ++ listEnc r.drop ++ numEnc r.add.length
def recEnc (r : Rec) : Byts := recFront r ++ placesEnc r.add
theorem placesEnc_snoc (l : List Place) (p : Place) : placesEnc (l ++ [p]) = placesEnc l ++ placeEnc p := by simp [placesEnc]
theorem refsEnc_snoc (l : List Ref) (p : Ref) : refsEnc (l ++ [p]) = refsEnc l ++ refEnc p := by simp [refsEnc]
theorem OB.leq {W w : World} {A : Option Addr} {c n B B' : Nat} {l l' : Byts} (h : OB W w A c n l B) (hB : B ≤ B') (hl : l = l') : OB W w A c n l' B' := by
  subst hl
  exact ⟨h.own, h.below, Nat.le_trans h.le hB⟩
theorem listEnc_len {zs : List Int} (hz : ∀ (k : Nat) (z : Int), zs[k]? = some z → 0 ≤ z ∧ z < 64) (hl : zs.length ≤ 64) : (listEnc zs).length ≤ 1300 := by
  have h : ∀ (l : List Int), (∀ z, z ∈ l → 0 ≤ z ∧ z < 64) → (numsEnc l).length ≤ 20 * l.length := by
    intro l
    induction l with
    | nil => intro _; simp [numsEnc]
    | cons x l ih =>
      intro hx
      have h1 := ih (fun z hz => hx z (List.mem_cons_of_mem _ hz))
      have h2 := hx x (List.mem_cons_self ..)
      have h3 := numEnc_len x.toNat (by omega)
      simp only [numsEnc, List.flatMap_cons, List.length_append, List.length_cons] at h1 ⊢
      omega
  have h1 := h zs (fun z hz2 => by obtain ⟨i, hi⟩ := List.getElem?_of_mem hz2; exact hz i z hi)
  have h2 := numEnc_len zs.length (by omega)
  simp only [listEnc, List.length_append]
  omega
theorem keyEnc_len {k : Key} (hk : keyOk k = true) : (keyEnc k).length ≤ 137 := by
  simp only [keyOk, decide_eq_true_eq] at hk
  have h1 := esc_len k.user.data.toList
  have h2 := bytes_len k.user
  simp only [keyEnc, List.length_append, List.length_cons, List.length_nil, be48]
  omega
theorem textEnc_len {b : Byts} {q : Nat} (h : b.length ≤ q) (hq : q ≤ 100000000) : (textEnc b).length ≤ 20 + q := by
  have h2 := numEnc_len b.length (by omega)
  simp only [textEnc, List.length_append]
  omega

set_option maxRecDepth 100000 in
set_option maxHeartbeats 4000000 in
theorem recBytes_any (w : World) (F : Nat → Prop) (r : Rec) (lv av dv : Value) (ps : List (Place × Value)) (hL : Ints w F lv r.logs) (hD : Ints w F dv r.drop) (hA : RdPlaces w F 129 132 av ps) (hps : ps.map (·.1) = r.add) (hok : recOk r = true) :
    Calls Try.prog 16 #[.agg (recCells r lv av dv).toArray] w (OwnPost w (recEnc r)) := by
  obtain ⟨wh, sq, logs, add, drop⟩ := r
  have hfin : Hid (recEnc ⟨wh, sq, logs, add, drop⟩ = boolEnc wh ++ numEnc sq.toNat ++ listEnc logs ++ listEnc drop ++ numEnc ps.length ++ placesEnc (ps.map (·.1))) := by
    unfold Hid
    simp only at hps
    rw [hps]
    simp only [recEnc, recFront]
    rw [← hps, List.length_map]
  simp only [recOk, recHead, Bool.and_eq_true, decide_eq_true_eq] at hok
  obtain ⟨⟨⟨⟨⟨⟨s0, s1⟩, zl⟩, zd⟩, al⟩, hdup⟩, hadd⟩ := hok
  obtain ⟨hlog, hlz⟩ := zonesOk_at zl
  obtain ⟨hdrop, hdz⟩ := zonesOk_at zd
  simp only at hps hL hD
  have hpl : ∀ p, p ∈ ps → placeOk p.1 = true := by
    intro p hp
    exact List.all_eq_true.1 hadd p.1 (by rw [← hps]; exact List.mem_map.2 ⟨p, hp, rfl⟩)
  have HPL := Lib.hid hpl
  have hle1 := listEnc_len hlz hlog
  have hle2 := listEnc_len hdz hdrop
  have HZL := Lib.hid (fun wx F v h => rlist_any wx F v logs h hlz hlog)
  have HZD := Lib.hid (fun wx F v h => rlist_any wx F v drop h hdz hdrop)
  clear hpl zl zd hdup hadd hlz hdz
  obtain ⟨sn, rfl⟩ := Int.eq_ofNat_of_zero_le s0
  obtain ⟨LA, LN, LC, rfl⟩ : ∃ A n c, lv = .slice A n c := by
    obtain ⟨_, A, c, h, _⟩ := hL
    exact ⟨A, _, c, h⟩
  obtain ⟨DA, DN, DC, rfl⟩ : ∃ A n c, dv = .slice A n c := by
    obtain ⟨_, A, c, h, _⟩ := hD
    exact ⟨A, _, c, h⟩
  obtain ⟨_, A, ac, rfl, hac, _⟩ := id hA.1
  obtain ⟨n, hn⟩ : ∃ n, Hid (n = ps.length) := ⟨_, rfl⟩
  have hn1 : n ≤ 64 := by rw [hn.out, ← List.length_map (f := (·.1)), hps]; exact al
  rw [← hn.out] at hA hac hfin ⊢
  unfold recCells
  simp only
  have HL := Lib.hid (Rows.mono hL (G := fun g => g < w.heap.size) (fun g hg _ => hg))
  have HD := Lib.hid (Rows.mono hD (G := fun g => g < w.heap.size) (fun g hg _ => hg))
  have HA := Lib.hid (show Rows w (fun g => g < w.heap.size) 129 10 (.slice A n ac) n (ps.flatMap plCells) ∧ ∀ p, p ∈ ps → Rows w (fun g => g < w.heap.size) 132 2 p.2 p.1.m.refs.length (p.1.m.refs.flatMap refCells) ∧ p.1.m.refs.length ≤ 1000 from
    ⟨by have h := Rows.mono hA.1 (G := fun g => g < w.heap.size) (fun g hg _ => hg); rw [← hn.out] at h; exact h, fun p hp => ⟨Rows.mono (hA.2 p hp).1 (fun g hg _ => hg), (hA.2 p hp).2⟩⟩)
  clear hL hD hA hps al hlog hdrop s0
  go_enter Try.func16, Try.ntmps16
  go_upto_region 1 with fail
  have hbx := heap_alloc_new w (.cells #[.bool wh, .int .i64 (sn : Int), .slice LA LN LC, .slice A n ac, .slice DA DN DC] 36)
  have hk0 : Keep (fun g => g < w.heap.size) w (w.alloc (.cells #[.bool wh, .int .i64 (sn : Int), .slice LA LN LC, .slice A n ac, .slice DA DN DC] 36)) := (Keep.refl _ _).alloc _
  have hs0 : w.heap.size < (w.alloc (.cells #[.bool wh, .int .i64 (sn : Int), .slice LA LN LC, .slice A n ac, .slice DA DN DC] 36)).heap.size := by simp
  generalize w.alloc (.cells #[.bool wh, .int .i64 (sn : Int), .slice LA LN LC, .slice A n ac, .slice DA DN DC] 36) = W1 at *
  have HBX := Lib.hid hbx
  have HK0 := Lib.hid hk0
  have HL1 := Lib.hid (HL.out.keep hk0 (fun _ _ hf _ => hf))
  have HD1 := Lib.hid (HD.out.keep hk0 (fun _ _ hf _ => hf))
  have HA1 := Lib.hid (show Rows W1 (fun g => g < w.heap.size) 129 10 (.slice A n ac) n (ps.flatMap plCells) ∧ ∀ p, p ∈ ps → Rows W1 (fun g => g < w.heap.size) 132 2 p.2 p.1.m.refs.length (p.1.m.refs.flatMap refCells) ∧ p.1.m.refs.length ≤ 1000 from
    ⟨HA.out.1.keep hk0 (fun _ _ hf _ => hf), fun p hp => ⟨(HA.out.2 p hp).1.keep hk0 (fun _ _ hf _ => hf), (HA.out.2 p hp).2⟩⟩)
  clear hbx hk0 HL HA HD
  have c0 := cell_of_block HBX.out 0
  simp at c0
  go_upto_if 9 with fail
  go_cut [3] (fun v wx => ∃ A c m, v = .slice A m c ∧ OB W1 wx A c m (boolEnc wh) 1)
  case first =>
    have ho := World.ownsRow_lit (base := W1.heap.size) (e := 5) (size := 1) W1 #[.int .u8 0] 1 (Nat.le_refl _) (by simp [maxLen]) (by simp)
    cases wh with
    | false =>
      go_wp2_with fail
      go_meet
      exact ⟨_, _, _, rfl, ho, (Below.refl _ _).alloc (Nat.le_refl _) _, Nat.le_refl _⟩
    | true =>
      go_wp2_with fail
      go_meet
      have ho2 := World.ownsRow_lit (base := W1.heap.size) (e := 5) (size := 1) W1 #[.int .u8 1] 1 (Nat.le_refl _) (by simp [maxLen]) (by simp)
      exact ⟨_, _, _, rfl, ho2, (Below.refl _ _).alloc (Nat.le_refl _) _, Nat.le_refl _⟩
  case rest =>
    obtain ⟨A1, a1c, n1, rfl, hob⟩ := hcut
    have HO := Lib.hid hob
    clear hob
    have c1 := cell_of_block HBX.out 1
    have c2 := cell_of_block HBX.out 2
    have c3 := cell_of_block HBX.out 3
    have c4 := cell_of_block HBX.out 4
    simp at c1 c2 c3 c4
    have q0 := (below_rules HO.out.below).1
    go_wp2_with fail
    have plen := numEnc_len sn (by omega)
    (refine (refNumber_any sn (by omega) _).mono ?_; rintro e wb ⟨pv, rfl, hp, hb⟩; obtain ⟨PA, PC, rfl⟩ := own_form hp; have hpl : (numEnc sn).length ≤ 20 := plen; clear plen; obtain ⟨pm, hpm⟩ : ∃ pm, Hid (pm = (numEnc sn).length) := ⟨_, rfl⟩; rw [← hpm.out] at hp hpl ⊢; have H1 := Lib.hid (HO.out.call hb); have HPI := Lib.hid hp; have hle := H1.out.le; have hsz := H1.out.below.size; clear hp HO)
    clear q0 hb
    go_wp2_with (at_builtin; refine wpList_append_rows rfl (.tmp 12) (.tmp 15) _ rfl ei_u8 (.slice A1 n1 a1c) n1 _ rfl H1.out.own (.slice PA pm PC) pm _ rfl (Rows.of_own HPI.out) (bytes_one (numEnc sn)) (by omega) (by omega) ?_; intro v' w2 hown2 hg2 _; obtain ⟨A2, c2', n2, rfl, hb2⟩ := H1.out.app hown2 hg2 hpl; have H2 := Lib.hid hb2; clear hb2; have q2 := (below_rules H2.out.below).1)
    have plen := hle1
    (refine (HZL.out _ (fun g => g < w.heap.size) _ (HL1.out.keep (Keep.of_below H2.out.below (F := fun g => g < w.heap.size) (fun g _ hf => by omega)) (fun _ _ hf _ => hf))).mono ?_; rintro e wb ⟨pv, rfl, hp, hb⟩; obtain ⟨PA, PC, rfl⟩ := own_form hp; have hpl : (listEnc logs).length ≤ 1300 := plen; clear plen; obtain ⟨pm, hpm⟩ : ∃ pm, Hid (pm = (listEnc logs).length) := ⟨_, rfl⟩; rw [← hpm.out] at hp hpl ⊢; have H3 := Lib.hid (H2.out.call hb); have HPI := Lib.hid hp; have hle := H3.out.le; have hsz := H3.out.below.size; clear hp H2)
    clear q2 hb
    go_wp2_with (at_builtin; refine wpList_append_rows rfl (.tmp 17) (.tmp 20) _ rfl ei_u8 (.slice A2 n2 c2') n2 _ rfl H3.out.own (.slice PA pm PC) pm _ rfl (Rows.of_own HPI.out) (bytes_one (listEnc logs)) (by omega) (by omega) ?_; intro v' w4 hown2 hg2 _; obtain ⟨A3, c3', n3, rfl, hb2⟩ := H3.out.app hown2 hg2 hpl; have H4 := Lib.hid hb2; clear hb2; have q4 := (below_rules H4.out.below).1)
    have plen := hle2
    (refine (HZD.out _ (fun g => g < w.heap.size) _ (HD1.out.keep (Keep.of_below H4.out.below (F := fun g => g < w.heap.size) (fun g _ hf => by omega)) (fun _ _ hf _ => hf))).mono ?_; rintro e wb ⟨pv, rfl, hp, hb⟩; obtain ⟨PA, PC, rfl⟩ := own_form hp; have hpl : (listEnc drop).length ≤ 1300 := plen; clear plen; obtain ⟨pm, hpm⟩ : ∃ pm, Hid (pm = (listEnc drop).length) := ⟨_, rfl⟩; rw [← hpm.out] at hp hpl ⊢; have H5 := Lib.hid (H4.out.call hb); have HPI := Lib.hid hp; have hle := H5.out.le; have hsz := H5.out.below.size; clear hp H4)
    clear q4 hb
    go_wp2_with (at_builtin; refine wpList_append_rows rfl (.tmp 22) (.tmp 25) _ rfl ei_u8 (.slice A3 n3 c3') n3 _ rfl H5.out.own (.slice PA pm PC) pm _ rfl (Rows.of_own HPI.out) (bytes_one (listEnc drop)) (by omega) (by omega) ?_; intro v' w6 hown2 hg2 _; obtain ⟨A4, c4', n4, rfl, hb2⟩ := H5.out.app hown2 hg2 hpl; have H6 := Lib.hid hb2; clear hb2; have q6 := (below_rules H6.out.below).1)
    have plen := numEnc_len n (by omega)
    (refine (refNumber_any n (by omega) _).mono ?_; rintro e wb ⟨pv, rfl, hp, hb⟩; obtain ⟨PA, PC, rfl⟩ := own_form hp; have hpl : (numEnc n).length ≤ 20 := plen; clear plen; obtain ⟨pm, hpm⟩ : ∃ pm, Hid (pm = (numEnc n).length) := ⟨_, rfl⟩; rw [← hpm.out] at hp hpl ⊢; have H7 := Lib.hid (H6.out.call hb); have HPI := Lib.hid hp; have hle := H7.out.le; have hsz := H7.out.below.size; clear hp H6)
    clear q6 hb
    go_wp2_with (at_builtin; refine wpList_append_rows rfl (.tmp 27) (.tmp 31) _ rfl ei_u8 (.slice A4 n4 c4') n4 _ rfl H7.out.own (.slice PA pm PC) pm _ rfl (Rows.of_own HPI.out) (bytes_one (numEnc n)) (by omega) (by omega) ?_; intro v' w8 hown2 hg2 _; obtain ⟨A5, c5', n5, rfl, hb2⟩ := H7.out.app hown2 hg2 hpl; have H8 := Lib.hid hb2; clear hb2; have q8 := (below_rules H8.out.below).1)
    clear q8 c1 c2 c4 c0 hle1 hle2 HZL HZD HL1 HD1
    obtain ⟨front, hfr⟩ : ∃ front, Hid (front = boolEnc wh ++ numEnc sn ++ listEnc logs ++ listEnc drop ++ numEnc n) := ⟨_, rfl⟩
    have h8 := H8.out
    rw [← hfr.out] at h8
    have HF := Lib.hid h8
    clear h8 H8
    go_loopw [3, 4] (fun v i wr => ∃ (k : Nat) (A c m : _), i = .int .i64 k ∧ k ≤ n ∧ v = .slice A m c ∧ OB W1 wr A c m (front ++ placesEnc ((ps.map (·.1)).take k)) (3000 + 41000 * k)) (fun _ i _ => n - (intOf i).toNat)
    case atStart => exact ⟨0, _, _, _, rfl, by omega, rfl, HF.out.leq (by omega) (by simp [placesEnc])⟩
    case round =>
      obtain ⟨k, A2, c2, m2, rfl, hk, rfl, hob⟩ := hrel
      have HO := Lib.hid hob
      clear hob HF
      obtain ⟨wq, rfl⟩ : ∃ w2 : World, w2 = wr := ⟨_, rfl⟩
      by_cases hlt : k < n
      · obtain ⟨⟨p, rv⟩, hp⟩ : ∃ p, ps[k]? = some p := ⟨ps[k]'(by have := hn.out; omega), List.getElem?_eq_getElem _⟩
        have hpo := HPL.out _ (List.mem_of_getElem? hp)
        have hpr := (HA1.out.2 _ (List.mem_of_getElem? hp)).1
        have hprl := (HA1.out.2 _ (List.mem_of_getElem? hp)).2
        obtain ⟨g, off, cap2, eA, _, _, hgl, hel⟩ := HA1.out.1.elems (fun x => rfl) (by decide) hn.out.symm (by omega)
        have eA2 : A = some ⟨g, off, none⟩ := by injection eA
        subst eA2
        have htk := take_succ_of (show (ps.map (·.1))[k]? = some p by simp [hp])
        have HTK := Lib.hid htk
        obtain ⟨lv, ⟨zn, ln, ⟨su, ss, sd⟩, ⟨lu, ls, ld⟩, rf⟩⟩ := p
        obtain ⟨RA, rn, rc, rfl⟩ : ∃ RA rn rc, rv = .slice RA rn rc := by
          obtain ⟨_, RA, rc, h, _⟩ := hpr
          exact ⟨RA, _, rc, h⟩
        have hrn : Hid (rn = rf.length) := by
          obtain ⟨_, A', c', h, _⟩ := hpr
          injection h
        simp only [placeOk, metaOk, headOk, zoneOk, Bool.and_eq_true, decide_eq_true_eq] at hpo
        obtain ⟨⟨p0, p1⟩, ⟨⟨⟨⟨⟨⟨⟨z0, z1⟩, l0⟩, l1⟩, ks⟩, kl⟩, -⟩, hrs⟩⟩ := hpo
        obtain ⟨lvn, rfl⟩ := Int.eq_ofNat_of_zero_le p0
        obtain ⟨znn, rfl⟩ := Int.eq_ofNat_of_zero_le z0
        obtain ⟨lnn, rfl⟩ := Int.eq_ofNat_of_zero_le (show 0 ≤ ln by omega)
        have HRA := Lib.hid (refs_at _ _ _ hrs)
        have e0 := hel k _ hp 0 _ rfl
        have e1 := hel k _ hp 1 _ rfl
        have e2 := hel k _ hp 2 _ rfl
        have e3 := hel k _ hp 3 _ rfl
        have e4 := hel k _ hp 4 _ rfl
        have e5 := hel k _ hp 5 _ rfl
        have e6 := hel k _ hp 6 _ rfl
        have e7 := hel k _ hp 7 _ rfl
        have e8 := hel k _ hp 8 _ rfl
        have e9 := hel k _ hp 9 _ rfl
        rw [Nat.add_zero] at e0
        rw [← Nat.add_assoc] at e1 e2 e3 e4 e5 e6 e7 e8 e9
        simp only at e0 e1 e2 e3 e4 e5 e6 e7 e8 e9 hpr hprl
        have hrn1 : rn ≤ 1000 := by have := hrn.out; omega
        have HPR := Lib.hid hpr
        have HKS := Lib.hid ks
        have HKL := Lib.hid kl
        have q0 := (below_rules HO.out.below).1
        have hsq := HO.out.below.size
        clear hel hp eA hpr hrs htk ks kl
        go_upto_region 12 with fail
        have hmb := heap_alloc_new wq (.cells #[.int .i64 (znn : Int), .int .i64 (lnn : Int), .string su, .int .i64 ss, .int .i64 sd, .string lu, .int .i64 ls, .int .i64 ld, .slice RA rn rc] 127)
        have H0 := Lib.hid (HO.out.call ((Below.refl _ _).alloc (Nat.le_refl _) (.cells #[.int .i64 (znn : Int), .int .i64 (lnn : Int), .string su, .int .i64 ss, .int .i64 sd, .string lu, .int .i64 ls, .int .i64 ld, .slice RA rn rc] 127)))
        clear q0 e1 e2 e3 e4 e5 e6 e7 e8 e9 HO
        generalize wq.alloc (.cells #[.int .i64 (znn : Int), .int .i64 (lnn : Int), .string su, .int .i64 ss, .int .i64 sd, .string lu, .int .i64 ls, .int .i64 ld, .slice RA rn rc] 127) = y at *
        generalize wq.heap.size = M at *
        have HM := Lib.hid hmb
        have qy := (below_rules H0.out.below).1
        clear hmb
        go_wp2_with fail
        have plen := numEnc_len lvn (by omega)
        (refine (refNumber_any lvn (by omega) _).mono ?_; rintro e wb ⟨pv, rfl, hp, hb⟩; obtain ⟨PA, PC, rfl⟩ := own_form hp; have hpl : (numEnc lvn).length ≤ 20 := plen; clear plen; obtain ⟨pm, hpm⟩ : ∃ pm, Hid (pm = (numEnc lvn).length) := ⟨_, rfl⟩; rw [← hpm.out] at hp hpl ⊢; have H1 := Lib.hid (H0.out.call hb); have HPI := Lib.hid hp; have hle := H1.out.le; have hsz := H1.out.below.size; clear hp H0)
        have HM1 := Lib.hid ((hb.block _ (heap_lt HM.out)).trans HM.out)
        clear qy hb HM e0
        go_wp2_with (at_builtin; refine wpList_append_rows rfl (.tmp 46) (.tmp 53) _ rfl ei_u8 (.slice A2 m2 c2) m2 _ rfl H1.out.own (.slice PA pm PC) pm _ rfl (Rows.of_own HPI.out) (bytes_one (numEnc lvn)) (by omega) (by omega) ?_; intro v' w2 hown2 hg2 _; obtain ⟨A3, c3', m3, rfl, hb2⟩ := H1.out.app hown2 hg2 hpl; have H2 := Lib.hid hb2; clear hb2; have HM2 := Lib.hid (H1.out.far HM1.out (by decide) hg2); have mc := cell_of_block HM2.out 0; simp at mc)
        have plen := numEnc_len znn (by omega)
        (refine (refNumber_any znn (by omega) _).mono ?_; rintro e wb ⟨pv, rfl, hp, hb⟩; obtain ⟨PA, PC, rfl⟩ := own_form hp; have hpl : (numEnc znn).length ≤ 20 := plen; clear plen; obtain ⟨pm, hpm⟩ : ∃ pm, Hid (pm = (numEnc znn).length) := ⟨_, rfl⟩; rw [← hpm.out] at hp hpl ⊢; have H3 := Lib.hid (H2.out.call hb); have HPI := Lib.hid hp; have hle := H3.out.le; have hsz := H3.out.below.size; clear hp H2)
        have HM3 := Lib.hid ((hb.block _ (heap_lt HM2.out)).trans HM2.out)
        clear hb HM1 HM2 mc H1
        go_wp2_with (at_builtin; refine wpList_append_rows rfl (.tmp 55) (.tmp 58) _ rfl ei_u8 (.slice A3 m3 c3') m3 _ rfl H3.out.own (.slice PA pm PC) pm _ rfl (Rows.of_own HPI.out) (bytes_one (numEnc znn)) (by omega) (by omega) ?_; intro v' w4 hown2 hg2 _; obtain ⟨A4, c4', m4, rfl, hb2⟩ := H3.out.app hown2 hg2 hpl; have H4 := Lib.hid hb2; clear hb2; have HM4 := Lib.hid (H3.out.far HM3.out (by decide) hg2); have mc := cell_of_block HM4.out 1; simp at mc)
        have plen := numEnc_len lnn (by omega)
        (refine (refNumber_any lnn (by omega) _).mono ?_; rintro e wb ⟨pv, rfl, hp, hb⟩; obtain ⟨PA, PC, rfl⟩ := own_form hp; have hpl : (numEnc lnn).length ≤ 20 := plen; clear plen; obtain ⟨pm, hpm⟩ : ∃ pm, Hid (pm = (numEnc lnn).length) := ⟨_, rfl⟩; rw [← hpm.out] at hp hpl ⊢; have H5 := Lib.hid (H4.out.call hb); have HPI := Lib.hid hp; have hle := H5.out.le; have hsz := H5.out.below.size; clear hp H4)
        have HM5 := Lib.hid ((hb.block _ (heap_lt HM4.out)).trans HM4.out)
        clear hb HM3 HM4 mc H3
        go_wp2_with (at_builtin; refine wpList_append_rows rfl (.tmp 60) (.tmp 63) _ rfl ei_u8 (.slice A4 m4 c4') m4 _ rfl H5.out.own (.slice PA pm PC) pm _ rfl (Rows.of_own HPI.out) (bytes_one (numEnc lnn)) (by omega) (by omega) ?_; intro v' w6 hown2 hg2 _; obtain ⟨A5, c5', m5, rfl, hb2⟩ := H5.out.app hown2 hg2 hpl; have H6 := Lib.hid hb2; clear hb2; have HM6 := Lib.hid (H5.out.far HM5.out (by decide) hg2); have mc2 := cell_of_block HM6.out 2; have mc3 := cell_of_block HM6.out 3; have mc4 := cell_of_block HM6.out 4; simp at mc2 mc3 mc4)
        refine (refKeyBytes_any ⟨su, ss, sd⟩ HKS.out _).mono ?_
        rintro e wk ⟨kv, rfl, hko, hkb⟩
        obtain ⟨KA, KC, rfl⟩ := own_form hko
        have HK := Lib.hid (H6.out.call hkb)
        have HMk := Lib.hid ((hkb.block _ (heap_lt HM6.out)).trans HM6.out)
        have HKO := Lib.hid hko
        clear hko hkb HM5 HM6 mc2 mc3 mc4 H5 H6
        go_wp2_with fail
        have plen := textEnc_len (keyEnc_len HKS.out) (by omega)
        (refine (refText_any _ _ _ (keyEnc ⟨su, ss, sd⟩) (Rows.of_own HKO.out) (Nat.le_trans (keyEnc_len HKS.out) (by omega))).mono ?_; rintro e wb ⟨pv, rfl, hp, hb⟩; obtain ⟨PA, PC, rfl⟩ := own_form hp; have hpl : (textEnc (keyEnc ⟨su, ss, sd⟩)).length ≤ 20 + 137 := plen; clear plen; obtain ⟨pm, hpm⟩ : ∃ pm, Hid (pm = (textEnc (keyEnc ⟨su, ss, sd⟩)).length) := ⟨_, rfl⟩; rw [← hpm.out] at hp hpl ⊢; have H7 := Lib.hid (HK.out.call hb); have HPI := Lib.hid hp; have hle := H7.out.le; have hsz := H7.out.below.size; clear hp HK)
        have HM7 := Lib.hid ((hb.block _ (heap_lt HMk.out)).trans HMk.out)
        clear hb HMk HKO
        go_wp2_with (at_builtin; refine wpList_append_rows rfl (.tmp 65) (.tmp 69) _ rfl ei_u8 (.slice A5 m5 c5') m5 _ rfl H7.out.own (.slice PA pm PC) pm _ rfl (Rows.of_own HPI.out) (bytes_one (textEnc (keyEnc ⟨su, ss, sd⟩))) (by omega) (by omega) ?_; intro v' w8 hown2 hg2 _; obtain ⟨A6, c6', m6, rfl, hb2⟩ := H7.out.app hown2 hg2 hpl; have H8 := Lib.hid hb2; clear hb2; have HM8 := Lib.hid (H7.out.far HM7.out (by decide) hg2); have mc2 := cell_of_block HM8.out 5; have mc3 := cell_of_block HM8.out 6; have mc4 := cell_of_block HM8.out 7; simp at mc2 mc3 mc4)
        refine (refKeyBytes_any ⟨lu, ls, ld⟩ HKL.out _).mono ?_
        rintro e wk ⟨kv, rfl, hko, hkb⟩
        obtain ⟨KA2, KC2, rfl⟩ := own_form hko
        have HK := Lib.hid (H8.out.call hkb)
        have HMk := Lib.hid ((hkb.block _ (heap_lt HM8.out)).trans HM8.out)
        have HKO := Lib.hid hko
        clear hko hkb HM7 HM8 mc2 mc3 mc4 H7 H8
        go_wp2_with fail
        have plen := textEnc_len (keyEnc_len HKL.out) (by omega)
        (refine (refText_any _ _ _ (keyEnc ⟨lu, ls, ld⟩) (Rows.of_own HKO.out) (Nat.le_trans (keyEnc_len HKL.out) (by omega))).mono ?_; rintro e wb ⟨pv, rfl, hp, hb⟩; obtain ⟨PA, PC, rfl⟩ := own_form hp; have hpl : (textEnc (keyEnc ⟨lu, ls, ld⟩)).length ≤ 20 + 137 := plen; clear plen; obtain ⟨pm, hpm⟩ : ∃ pm, Hid (pm = (textEnc (keyEnc ⟨lu, ls, ld⟩)).length) := ⟨_, rfl⟩; rw [← hpm.out] at hp hpl ⊢; have H9 := Lib.hid (HK.out.call hb); have HPI := Lib.hid hp; have hle := H9.out.le; have hsz := H9.out.below.size; clear hp HK)
        have HM9 := Lib.hid ((hb.block _ (heap_lt HMk.out)).trans HMk.out)
        clear hb HMk HKO
        go_wp2_with (at_builtin; refine wpList_append_rows rfl (.tmp 71) (.tmp 75) _ rfl ei_u8 (.slice A6 m6 c6') m6 _ rfl H9.out.own (.slice PA pm PC) pm _ rfl (Rows.of_own HPI.out) (bytes_one (textEnc (keyEnc ⟨lu, ls, ld⟩))) (by omega) (by omega) ?_; intro v' w10 hown2 hg2 _; obtain ⟨A7, c7', m7, rfl, hb2⟩ := H9.out.app hown2 hg2 hpl; have H10 := Lib.hid hb2; clear hb2; have HM10 := Lib.hid (H9.out.far HM9.out (by decide) hg2); have mc := cell_of_block HM10.out 8; simp at mc)
        have plen := numEnc_len rn (by omega)
        (refine (refNumber_any rn (by omega) _).mono ?_; rintro e wb ⟨pv, rfl, hp, hb⟩; obtain ⟨PA, PC, rfl⟩ := own_form hp; have hpl : (numEnc rn).length ≤ 20 := plen; clear plen; obtain ⟨pm, hpm⟩ : ∃ pm, Hid (pm = (numEnc rn).length) := ⟨_, rfl⟩; rw [← hpm.out] at hp hpl ⊢; have H11 := Lib.hid (H10.out.call hb); have HPI := Lib.hid hp; have hle := H11.out.le; have hsz := H11.out.below.size; clear hp H10)
        have HM11 := Lib.hid ((hb.block _ (heap_lt HM10.out)).trans HM10.out)
        clear hb HM9 HM10 mc H9
        go_wp2_with (at_builtin; refine wpList_append_rows rfl (.tmp 77) (.tmp 81) _ rfl ei_u8 (.slice A7 m7 c7') m7 _ rfl H11.out.own (.slice PA pm PC) pm _ rfl (Rows.of_own HPI.out) (bytes_one (numEnc rn)) (by omega) (by omega) ?_; intro v' w12 hown2 hg2 _; obtain ⟨A8, c8', m8, rfl, hb2⟩ := H11.out.app hown2 hg2 hpl; have H12 := Lib.hid hb2; clear hb2; have HM12 := Lib.hid (H11.out.far HM11.out (by decide) hg2))
        clear HM11 H11
        obtain ⟨pre, hpre⟩ : ∃ pre, Hid (pre = front ++ placesEnc ((ps.map (·.1)).take k) ++ headEnc ⟨lvn, ⟨znn, lnn, ⟨su, ss, sd⟩, ⟨lu, ls, ld⟩, rf⟩⟩) := ⟨_, rfl⟩
        have HP12 := Lib.hid (H12.out.leq (B' := 3000 + 41000 * k + 500) (l' := pre) (by omega) (by rw [hpre.out, hrn.out]; simp [headEnc]))
        clear H12
        go_loopw [3, 6] (fun v i wr => ∃ (j : Nat) (A c m : _), i = .int .i64 j ∧ j ≤ rn ∧ v = .slice A m c ∧ OB W1 wr A c m (pre ++ refsEnc (rf.take j)) (3000 + 41000 * k + 500 + 40 * j) ∧ wr.heap[M]? = some (.cells #[.int .i64 (znn : Int), .int .i64 (lnn : Int), .string su, .int .i64 ss, .int .i64 sd, .string lu, .int .i64 ls, .int .i64 ld, .slice RA rn rc] 127 (0, 0))) (fun _ i _ => rn - (intOf i).toNat)
        case atStart => exact ⟨0, _, _, _, rfl, by omega, rfl, HP12.out.leq (by omega) (by simp [refsEnc]), HM12.out⟩
        case round =>
          obtain ⟨j, A3, c3, m3, rfl, hj, rfl, hob, hm⟩ := hrel
          have HO := Lib.hid hob
          have HM := Lib.hid hm
          have mc := cell_of_block hm 8
          simp at mc
          clear hob hm HP12 HM12
          by_cases hlt2 : j < rn
          · obtain ⟨r, hr⟩ : ∃ r, rf[j]? = some r := ⟨rf[j]'(by have := hrn.out; omega), List.getElem?_eq_getElem _⟩
            obtain ⟨a1, a2, a3, a4, -⟩ := HRA.out j r hr
            obtain ⟨rz, rb⟩ := r
            simp only at a1 a2 a3 a4
            obtain ⟨rzn, rfl⟩ := Int.eq_ofNat_of_zero_le a1
            obtain ⟨rbn, rfl⟩ := Int.eq_ofNat_of_zero_le (show 0 ≤ rb by omega)
            obtain ⟨g2, off2, cap3, eR, _, _, hgl2, hel2⟩ := HPR.out.elems (fun x => rfl) (by decide) rfl (by have := hrn.out; omega)
            have eR2 : RA = some ⟨g2, off2, none⟩ := by injection eR
            subst eR2
            have htk2 := take_succ_of hr
            have HTK2 := Lib.hid htk2
            have f0 := hel2 j _ hr 0 _ rfl
            have f1 := hel2 j _ hr 1 _ rfl
            rw [Nat.add_zero] at f0
            rw [← Nat.add_assoc] at f1
            simp only at f0 f1
            have q0 := (below_rules HO.out.below).1
            clear hel2 eR hr htk2
            go_wp2_with fail
            have plen := numEnc_len rzn (by omega)
            (refine (refNumber_any rzn (by omega) _).mono ?_; rintro e wb ⟨pv, rfl, hp, hb⟩; obtain ⟨PA, PC, rfl⟩ := own_form hp; have hpl : (numEnc rzn).length ≤ 20 := plen; clear plen; obtain ⟨pm, hpm⟩ : ∃ pm, Hid (pm = (numEnc rzn).length) := ⟨_, rfl⟩; rw [← hpm.out] at hp hpl ⊢; have H1 := Lib.hid (HO.out.call hb); have HPI := Lib.hid hp; have hle := H1.out.le; have hsz := H1.out.below.size; clear hp HO)
            have HM1 := Lib.hid ((hb.block _ (heap_lt HM.out)).trans HM.out)
            clear q0 hb HM mc
            go_wp2_with (at_builtin; refine wpList_append_rows rfl (.tmp 90) (.tmp 97) _ rfl ei_u8 (.slice A3 m3 c3) m3 _ rfl H1.out.own (.slice PA pm PC) pm _ rfl (Rows.of_own HPI.out) (bytes_one (numEnc rzn)) (by omega) (by omega) ?_; intro v' w2 hown2 hg2 _; obtain ⟨A4, c4', m4, rfl, hb2⟩ := H1.out.app hown2 hg2 hpl; have H2 := Lib.hid hb2; clear hb2; have HM2 := Lib.hid (H1.out.far HM1.out (by decide) hg2); have mc := cell_of_block HM2.out 8; simp at mc; have q2 := (below_rules H2.out.below).1)
            have plen := numEnc_len rbn (by omega)
            (refine (refNumber_any rbn (by omega) _).mono ?_; rintro e wb ⟨pv, rfl, hp, hb⟩; obtain ⟨PA, PC, rfl⟩ := own_form hp; have hpl : (numEnc rbn).length ≤ 20 := plen; clear plen; obtain ⟨pm, hpm⟩ : ∃ pm, Hid (pm = (numEnc rbn).length) := ⟨_, rfl⟩; rw [← hpm.out] at hp hpl ⊢; have H3 := Lib.hid (H2.out.call hb); have HPI := Lib.hid hp; have hle := H3.out.le; have hsz := H3.out.below.size; clear hp H2)
            have HM3 := Lib.hid ((hb.block _ (heap_lt HM2.out)).trans HM2.out)
            clear q2 hb HM1 HM2 mc H1 f0 f1
            go_wp2_with (at_builtin; refine wpList_append_rows rfl (.tmp 99) (.tmp 106) _ rfl ei_u8 (.slice A4 m4 c4') m4 _ rfl H3.out.own (.slice PA pm PC) pm _ rfl (Rows.of_own HPI.out) (bytes_one (numEnc rbn)) (by omega) (by omega) ?_; intro v' w4 hown2 hg2 _; obtain ⟨A5, c5', m5, rfl, hb2⟩ := H3.out.app hown2 hg2 hpl; have H4 := Lib.hid hb2; clear hb2; have HM4 := Lib.hid (H3.out.far HM3.out (by decide) hg2))
            refine ⟨⟨j + 1, _, _, _, by simp, by omega, rfl, H4.out.leq (by omega) ?_, HM4.out⟩, by simp [intOf]; omega⟩
            rw [HTK2.out, refsEnc_snoc]
            simp [refEnc]
          · have hjr : rf.take j = rf := List.take_of_length_le (by have := hrn.out; omega)
            have HO2 := Lib.hid (HO.out.leq (B' := 3000 + 41000 * (k + 1)) (l' := front ++ placesEnc ((ps.map (·.1)).take (k + 1))) (by omega) (by rw [hjr, HTK.out, placesEnc_snoc, hpre.out]; simp [placeEnc]))
            have hjn : ¬ (j : Int) < rn := by omega
            clear hjr HO
            go_wp2_with fail
            exact ⟨⟨k + 1, _, _, _, by simp, by omega, rfl, HO2.out⟩, by simp [intOf]; omega⟩
      · have hkn : ¬ (k : Int) < n := by omega
        have hkk : (ps.map (·.1)).take k = ps.map (·.1) := List.take_of_length_le (by have := hn.out; simp; omega)
        have HO2 := Lib.hid (HO.out.leq (l' := recEnc ⟨wh, sn, logs, add, drop⟩) (Nat.le_refl _) (by rw [hkk, hfin.out, hfr.out]; simp))
        have q0 := (below_rules HO.out.below).1
        clear hkk HO
        go_wp2_with fail
        go_ret
        obtain ⟨v, e1, e2, e3⟩ := HO2.out.post
        injection e1 with e1
        subst e1
        exact ⟨_, rfl, own_mono e2 (by omega), (HK0.out.trans (Keep.of_below e3 (F := fun g => g < w.heap.size) (fun g _ hf => by omega))).below (Nat.le_refl _)⟩
end Go.Proofs.Ytejfejckmhoolaa
