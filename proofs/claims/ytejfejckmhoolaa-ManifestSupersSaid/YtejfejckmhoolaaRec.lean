/- manifest.Record.Check. -/
import Derived.Test.YtejfejckmhoolaaMeta
import Derived.Great.BuildSlice
import Derived.Great.Walk
import Derived.Deep.WholeRow
set_option linter.unusedSimpArgs false
set_option linter.unusedVariables false
namespace Go.Proofs.Ytejfejckmhoolaa
open Go.RowKit

/-- The cells of a record. -/
def recCells (r : Rec) (lv av dv : Value) : List Value := [.bool r.whole, .int .i64 r.seq, lv, av, dv]
def plCells (p : Place × Value) : List Value := placeCells p.1 p.2
/-- A row of places, with their refs' slices. -/
def RdPlaces (w : World) (F : Nat → Prop) (T TR : TypeId) (av : Value) (l : List (Place × Value)) : Prop :=
  Rows w F T 10 av l.length (l.flatMap plCells) ∧ ∀ p, p ∈ l → RdRefs w F TR p.2 p.1.m.refs ∧ p.1.m.refs.length ≤ 1000
def dupGo : List Int → List Int → Bool
  | _, [] => true
  | seen, z :: l => !(seen.contains z) && dupGo (seen ++ [z]) l
def placeOk (p : Place) : Bool := decide (0 ≤ p.level) && decide (p.level < 4) && metaOk p.m
def recHead (r : Rec) : Bool := decide (0 ≤ r.seq) && decide (r.seq ≤ 1099511627776) && zonesOk r.logs && zonesOk r.drop && decide (r.add.length ≤ 64)
def recOk (r : Rec) : Bool := recHead r && dupGo [] r.logs && r.add.all placeOk

def seenCells (l : List Int) : Array Value := (((List.range 64).map fun (j : Nat) => Value.bool (l.contains (j : Int)))).toArray

theorem seenCells_get (l : List Int) (m : Nat) (hm : m < 64) : (seenCells l)[m]? = some (.bool (l.contains (m : Int))) := by
  simp [seenCells, hm]
theorem seenCells_set (l : List Int) (m : Nat) (hm : m < 64) : (seenCells l).setIfInBounds m (.bool true) = seenCells (l ++ [(m : Int)]) := by
  apply Array.ext_getElem?
  intro i
  rw [Array.getElem?_setIfInBounds]
  by_cases h : m = i
  · subst h
    rw [if_pos rfl, seenCells_get _ _ hm]
    simp [seenCells, hm]
  · rw [if_neg h]
    by_cases h2 : i < 64
    · rw [seenCells_get _ _ h2, seenCells_get _ _ h2]
      have : ¬ ((i : Int) = (m : Int)) := by omega
      simp [this]
    · simp [seenCells, h2]
set_option maxRecDepth 100000 in
theorem seen_built : Go.Program.built Try.prog 133 [] = some (seenCells []) := by rfl
set_option maxRecDepth 100000 in
theorem seen_alloc (w : World) : (Instr.alloc 133 true (.tuple #[])).run Try.prog w = .ok (.pointer (some ⟨w.heap.size, 0, none⟩)) (w.alloc (.cells (seenCells []) 133)) := by
  simp [go_sem]
  rfl
set_option maxRecDepth 100000 in
set_option maxHeartbeats 1500000 in
theorem recCheck_any (w : World) (F : Nat → Prop) (r : Rec) (lv av dv : Value) (ps : List (Place × Value)) (hL : Ints w F lv r.logs) (hD : Ints w F dv r.drop) (hA : RdPlaces w F 119 122 av ps) (hps : ps.map (·.1) = r.add)
    (hl1 : r.logs.length ≤ 1000) (hl2 : r.drop.length ≤ 1000) (hl3 : r.add.length ≤ 1000) :
    Calls Try.prog 14 #[.agg (recCells r lv av dv).toArray] w (IntBelow w (errOf (recOk r) 20)) := by
  obtain ⟨wh, sq, logs, add, drop⟩ := r
  simp only at hL hD hps hl1 hl2 hl3
  obtain ⟨hok, hhok⟩ : ∃ hok, Hid (hok = recHead ⟨wh, sq, logs, add, drop⟩) := ⟨_, rfl⟩
  have hh2 := hhok.out
  simp only [recHead] at hh2
  obtain ⟨_, A, ac, rfl, hac, _⟩ := id hA.1
  obtain ⟨_, L, lc, rfl, hlc, _⟩ := id hL
  obtain ⟨_, D, dc, rfl, hdc, _⟩ := id hD
  have hpl : ps.length = add.length := by rw [← hps, List.length_map]
  have hzl := fun o => mzones_any (w.alloc o) F _ logs (hL.alloc o)
  have hzd := fun o => mzones_any (w.alloc o) F _ drop (hD.alloc o)
  unfold recCells
  have hhokk := hhok
  clear hhok
  rw [hpl] at hA hac ⊢
  go_enter Try.func14, Try.ntmps14
  go_upto_region 1 with fail
  go_cut [3] (fun s3 wx => s3 = .bool hok ∧ wx = w.alloc (.cells #[.bool wh, .int .i64 sq, .slice L logs.length lc, .slice A add.length ac, .slice D drop.length dc] 29))
  case first =>
    have HZL := Lib.hid hzl
    have HZD := Lib.hid hzd
    clear hzl hzd hL hD hA hps hl1 hl2 hl3
    generalize zonesOk logs = b3 at *
    generalize zonesOk drop = b4 at *
    by_cases h1 : 0 ≤ sq
    · by_cases h2 : sq ≤ 1099511627776
      · cases b3 with
        | false => (have HH := Lib.hid (hh2.trans (show _ = false by simp)); clear hh2; go_wp2_with (first | (go_at_call_of 51 (Value.slice L logs.length lc); refine (HZL.out _).mono ?_; rintro e w1 ⟨rfl, rfl⟩) | (go_at_call_of 51 (Value.slice D drop.length dc); refine (HZD.out _).mono ?_; rintro e w1 ⟨rfl, rfl⟩)); go_meet; exact ⟨by rw [HH.out], rfl⟩)
        | true =>
          cases b4 with
          | false => (have HH := Lib.hid (hh2.trans (show _ = false by simp)); clear hh2; go_wp2_with (first | (go_at_call_of 51 (Value.slice L logs.length lc); refine (HZL.out _).mono ?_; rintro e w1 ⟨rfl, rfl⟩) | (go_at_call_of 51 (Value.slice D drop.length dc); refine (HZD.out _).mono ?_; rintro e w1 ⟨rfl, rfl⟩)); go_meet; exact ⟨by rw [HH.out], rfl⟩)
          | true =>
            by_cases h5 : add.length ≤ 64
            · have h5' : (add.length : Int) ≤ 64 := by omega
              (have HH := Lib.hid (hh2.trans (show _ = true by simp [h1, h2, h5])); clear hh2; go_wp2_with (first | (go_at_call_of 51 (Value.slice L logs.length lc); refine (HZL.out _).mono ?_; rintro e w1 ⟨rfl, rfl⟩) | (go_at_call_of 51 (Value.slice D drop.length dc); refine (HZD.out _).mono ?_; rintro e w1 ⟨rfl, rfl⟩)); go_meet; exact ⟨by rw [HH.out], rfl⟩)
            · have hd5 : decide (add.length ≤ 64) = false := decide_eq_false h5
              have hd5' : decide ((add.length : Int) ≤ 64) = false := decide_eq_false (by omega)
              have HH := Lib.hid (hh2.trans (show _ = false by simp [h5]))
              clear hh2 h5
              go_wp2_with (first | (go_at_call_of 51 (Value.slice L logs.length lc); refine (HZL.out _).mono ?_; rintro e w1 ⟨rfl, rfl⟩) | (go_at_call_of 51 (Value.slice D drop.length dc); refine (HZD.out _).mono ?_; rintro e w1 ⟨rfl, rfl⟩))
              go_meet
              exact ⟨by rw [HH.out], rfl⟩
      · have hd2 : decide (sq ≤ 1099511627776) = false := decide_eq_false h2
        have HH := Lib.hid (hh2.trans (show _ = false by simp [h2]))
        clear hh2 h2
        go_wp2_with fail
        go_meet
        exact ⟨by rw [HH.out], rfl⟩
    · have hd1 : decide (0 ≤ sq) = false := decide_eq_false h1
      have HH := Lib.hid (hh2.trans (show _ = false by simp [h1]))
      clear hh2 h1
      go_wp2_with fail
      go_meet
      exact ⟨by rw [HH.out], rfl⟩
  case rest =>
    obtain ⟨rfl, rfl⟩ := hcut
    clear hzl hzd hh2
    go_upto_region 2 with fail
    obtain ⟨sn, hsn⟩ : ∃ sn, Hid (sn = seenCells []) := ⟨_, rfl⟩
    have hsb := seen_built
    have hsi : (Try.prog.info? 133).map (·.size) = some sn.size := by rw [hsn.out]; decide +kernel
    have hs1 : sn.all (·.oneCell') = true := by rw [hsn.out]; decide +kernel
    have hsa := seen_alloc (w.alloc (.cells #[.bool wh, .int .i64 sq, .slice L logs.length lc, .slice A add.length ac, .slice D drop.length dc] 29))
    rw [← hsn.out] at hsb hsa
    have hsa2 := hsa
    rw [World.size_alloc] at hsa2
    refine wp_region_lit ?_
    refine wpList_buildTo (by rfl) 133 #[] (by rfl) (some 35) (by rfl) sn (by simpa using hsb) ?_
    refine Great.wpList_allocTo (by rfl) (some 4) (by rfl) (.pointer (some ⟨w.heap.size + 1, 0, none⟩)) (.cells sn 133) (by unfold execOp; simp only [Sem.run_bind, hsa2, Result.andThen_ok, Sem.run_pure]) ?_
    refine wpList_store_rowTo (by rfl) 133 _ _ (by rfl) (by rfl) (w.heap.size + 1) sn (by rfl) (by rfl) 133 sn (by simpa using heap_alloc_new (w.alloc _) _) hsi rfl hs1 ?_
    refine wpList_nil ?_
    rw [show w.heap.size + 1 = (w.alloc (.cells #[.bool wh, .int .i64 sq, .slice L logs.length lc, .slice A add.length ac, .slice D drop.length dc] 29)).heap.size by simp, World.setRow_alloc_new]
    rw [World.size_alloc]
    obtain ⟨wA, hwA⟩ : ∃ wA, Hid (wA = ((w.alloc (.cells #[.bool wh, .int .i64 sq, .slice L logs.length lc, .slice A add.length ac, .slice D drop.length dc] 29)).alloc (.cells sn 133))) := ⟨_, rfl⟩
    rw [← hwA.out]
    have hsA : wA.heap.size = w.heap.size + 2 := by rw [hwA.out]; simp
    have hS : wA.heap[w.heap.size + 1]? = some (.cells sn 133 (0, 0)) := by
      rw [hwA.out]
      have := heap_alloc_new (w.alloc (.cells #[.bool wh, .int .i64 sq, .slice L logs.length lc, .slice A add.length ac, .slice D drop.length dc] 29)) (.cells sn 133)
      rw [World.size_alloc] at this
      exact this
    have hB0 : Hid (Below w.heap.size w wA) := by
      rw [hwA.out]
      exact ((Below.refl _ _).alloc (Nat.le_refl _) _).alloc (by simp) _
    have hc3 : wA.cell? ⟨w.heap.size, 3, none⟩ = some (.slice A add.length ac) := by rw [hwA.out]; simp
    have hc2 : wA.cell? ⟨w.heap.size, 2, none⟩ = some (.slice L logs.length lc) := by rw [hwA.out]; simp
    have hLA : Hid (Ints wA (· < w.heap.size) (.slice L logs.length lc) logs) := by
      rw [hwA.out]
      exact (Rows.mono hL (G := (· < w.heap.size)) (fun g hg _ => hg)).alloc _ |>.alloc _
    have hfin : Hid (recOk ⟨wh, sq, logs, add, drop⟩ = (hok && dupGo [] logs && add.all placeOk)) := by unfold Hid recOk; rw [← hhokk.out]
    have hzs : Hid (hok = true → ∀ z, z ∈ logs → 0 ≤ z ∧ z < 64) := by
      intro ho z hz
      have := hhokk.out
      rw [ho] at this
      simp [recHead, zonesOk, zoneOk] at this
      have h1 := this.1.1.2.2 z hz
      omega
    clear hsb hsi hs1 hsa hsa2 hwA hL hD
    obtain ⟨n, hn⟩ : ∃ n, Hid (n = logs.length) := ⟨_, rfl⟩
    have hn1 : n ≤ 1000 := by rw [hn.out]; exact hl1
    rw [← hn.out] at hc2 hLA ⊢
    go_upto_if 36 with fail
    go_cut [3] (fun s3 wx => s3 = .bool (hok && dupGo [] logs) ∧ Keep (· ≠ w.heap.size + 1) wA wx)
    case first =>
      cases hok with
      | false =>
        go_wp2_with fail
        go_meet
        exact ⟨rfl, Keep.refl _ _⟩
      | true =>
        have hzs' := hzs.out rfl
        have HZ := Lib.hid hzs'
        clear hzs' hzs hfin hhokk hps hA hpl hc3
        go_wp2_with fail
        go_loopw [3, 40] (fun o i wr => ∃ (k : Nat) (b : Bool), i = .int .i64 k ∧ k ≤ n ∧ o = .bool b ∧ wr.heap[w.heap.size + 1]? = some (.cells (seenCells (logs.take k)) 133 (0, 0)) ∧ Keep (· ≠ w.heap.size + 1) wA wr ∧ Hid (dupGo [] logs = (b && dupGo (logs.take k) (logs.drop k)))) (fun _ i _ => n - (intOf i).toNat)
        case atStart => exact ⟨0, true, rfl, by omega, rfl, by rw [hS, hsn.out]; rfl, Keep.refl _ _, by unfold Hid; simp⟩
        case round =>
          obtain ⟨k, b, rfl, hk, rfl, hSr, hkp, HE⟩ := hrel
          have hszr := hkp.size
          by_cases hlt : k < n
          · obtain ⟨z, hz⟩ : ∃ z, logs[k]? = some z := ⟨logs[k]'(by have := hn.out; omega), List.getElem?_eq_getElem _⟩
            obtain ⟨hz0, hz1⟩ := HZ.out z (List.mem_of_getElem? hz)
            obtain ⟨m, rfl⟩ : ∃ m : Nat, z = (m : Int) := ⟨z.toNat, by omega⟩
            have hm : m < 64 := by omega
            have hcS : wr.cell? ⟨w.heap.size + 1, m, none⟩ = some (.bool ((logs.take k).contains (m : Int))) := by rw [cell_of_block hSr]; exact seenCells_get _ _ hm
            have hfS : wr.frozen? ⟨w.heap.size + 1, m, none⟩ = false := frozen_of_block hSr _
            have hrl := (Rows.keep hLA.out hkp (fun g hg hf _ => by omega))
            have hne : logs ≠ [] := by rintro rfl; simp at hz
            rw [hn.out] at hrl
            obtain ⟨g, off, cap2, eA, _, hgF, hglt, hel⟩ := Ints.cells hrl hne
            have eL : L = some ⟨g, off, none⟩ := by injection eA
            subst eL
            have e0 := hel k m hz
            have hd : logs.drop k = (m : Int) :: logs.drop (k + 1) := by
              have h1 : k < logs.length := by have := hn.out; omega
              rw [List.drop_eq_getElem_cons h1]
              rw [List.getElem?_eq_getElem h1] at hz
              injection hz with hz
              rw [hz]
            have htk : logs.take (k + 1) = logs.take k ++ [(m : Int)] := by rw [List.take_add_one, hz]; rfl
            generalize hq : (logs.take k).contains (m : Int) = q at *
            have HS2 : Hid (∀ b', b' = (b && !q) → dupGo [] logs = (b' && dupGo (logs.take (k + 1)) (logs.drop (k + 1)))) := by
              intro b' hb'
              rw [HE.out, hd, dupGo, hb', hq, htk, Bool.and_assoc]
            have hSn : Hid ((wr.setCell ⟨w.heap.size + 1, m, none⟩ (.bool true)).heap[w.heap.size + 1]? = some (.cells (seenCells (logs.take (k + 1))) 133 (0, 0))) := by
              rw [htk, ← seenCells_set _ _ hm]
              exact heap_setCell_of hSr _ _
            have HKP : Hid (Keep (· ≠ w.heap.size + 1) wA (wr.setCell ⟨w.heap.size + 1, m, none⟩ (.bool true))) := hkp.setCell (a := ⟨w.heap.size + 1, m, none⟩) (fun _ hf => hf rfl) _
            clear hel hrl hd htk hq HE hz hne hSr
            cases b with
            | false =>
              go_wp2_with fail
              exact ⟨⟨k + 1, false, by simp, by omega, rfl, hSn.out, HKP.out, HS2.out _ (by simp)⟩, by simp [intOf]; omega⟩
            | true =>
              go_wp2_with fail
              exact ⟨⟨k + 1, !q, by simp, by omega, rfl, hSn.out, HKP.out, HS2.out _ (by simp)⟩, by simp [intOf]; omega⟩
          · have hkn : k = n := by omega
            have he := HE.out
            rw [hkn, hn.out, List.drop_length, dupGo, Bool.and_true] at he
            have HE2 := Lib.hid he
            clear hkn he HE HZ
            go_wp2_with fail
            go_meet
            exact ⟨by rw [HE2.out]; simp, hkp⟩
    case rest =>
      obtain ⟨rfl, hkc⟩ := hcut
      have hszc := hkc.size
      have hA2 : Hid (RdPlaces wc (· < w.heap.size) 119 122 (.slice A add.length ac) ps) := by
        have hAk : ∀ {T k n v xs}, Rows w F T k v n xs → Rows wc (· < w.heap.size) T k v n xs := fun h =>
          ((Rows.mono h (G := (· < w.heap.size)) (fun g hg _ => hg)).keep (Keep.of_below hB0.out (F := (· < w.heap.size)) (fun g hg hf => hf)) (fun g hg hf _ => hf)).keep hkc (fun g _ hf _ => by omega)
        exact ⟨hAk hA.1, fun p hp => ⟨hAk (hA.2 p hp).1, (hA.2 p hp).2⟩⟩
      have hBC : Hid (Below w.heap.size w wc) := by
        have := (hkc.mono (G := (· < w.heap.size)) (fun g _ hf => by omega)).below (by omega)
        exact hB0.out.trans this
      have hcc := (hkc.cell (a := ⟨w.heap.size, 3, none⟩) (by simp; omega) (by simp)).trans hc3
      generalize (hok && dupGo [] logs) = hb2 at *
      obtain ⟨na, hna⟩ : ∃ na, Hid (na = add.length) := ⟨_, rfl⟩
      have hna1 : na ≤ 1000 := by rw [hna.out]; exact hl3
      rw [← hna.out] at hcc hA2 hac ⊢
      clear hA hc3 hc2 hLA hS hkc hzs hB0 hn hhokk
      go_wp2_with fail
      go_loopw [3, 58] (fun o i wr => ∃ (k : Nat) (b : Bool), i = .int .i64 k ∧ k ≤ na ∧ o = .bool b ∧ Keep (· < wc.heap.size) wc wr ∧ Hid ((hb2 && add.all placeOk) = (b && (add.drop k).all placeOk))) (fun _ i _ => na - (intOf i).toNat)
      case atStart => exact ⟨0, hb2, rfl, by omega, rfl, Keep.refl _ _, rfl⟩
      case round =>
        obtain ⟨k, b, rfl, hk, rfl, hkp, HE⟩ := hrel
        have hszr := hkp.size
        by_cases hlt : k < na
        · obtain ⟨⟨p, rv⟩, hp⟩ : ∃ p, ps[k]? = some p := ⟨ps[k]'(by have := hna.out; omega), List.getElem?_eq_getElem _⟩
          have hrow := hA2.out.1.keep hkp (fun g hg hf _ => by omega)
          have hpr := (hA2.out.2 _ (List.mem_of_getElem? hp)).1.keep hkp (fun g hg hf _ => by omega)
          have hprl := (hA2.out.2 _ (List.mem_of_getElem? hp)).2
          obtain ⟨RA, rn, rc, rfl⟩ : ∃ RA rn rc, rv = .slice RA rn rc := by
            obtain ⟨_, RA, rc, h, _⟩ := hpr
            exact ⟨RA, _, rc, h⟩
          obtain ⟨g, off, cap2, eA0, _, hgF, hglt, hel⟩ := Rows.elems (f := plCells) hrow (fun x => rfl) (by decide) rfl (by have := hna.out; omega)
          have eA : A = some ⟨g, off, none⟩ := by injection eA0
          subst eA
          clear eA0 hpl
          have hap : add[k]? = some p := by rw [← hps, List.getElem?_map, hp]; rfl
          have hd : add.drop k = p :: add.drop (k + 1) := by
            have h1 : k < add.length := by have := hna.out; omega
            rw [List.drop_eq_getElem_cons h1]
            rw [List.getElem?_eq_getElem h1] at hap
            injection hap with hap
            rw [hap]
          have HS : Hid (∀ b', b' = (b && placeOk p) → (hb2 && add.all placeOk) = (b' && (add.drop (k + 1)).all placeOk)) := by
            intro b' hb'
            rw [HE.out, hd, hb', List.all_cons, Bool.and_assoc]
          unfold placeOk at HS
          have hmc := fun o => metaCheck_any (wr.alloc o) (· < w.heap.size) p.m _ (hpr.alloc o) (by simp only at hprl; omega)
          obtain ⟨lv, ⟨zn, ln, ⟨su, ss, sd⟩, ⟨lu, ls, ld⟩, rf⟩⟩ := p
          have e0 := hel k _ hp 0 _ rfl
          have e1 := hel k _ hp 1 _ rfl
          have e2 := hel k _ hp 2 _ rfl
          have e3 := hel k _ hp 3 _ rfl
          have e4 := hel k _ hp 4 _ rfl
          have e5 := hel k _ hp 5 _ rfl
          have e6 := hel k _ hp 6 _ rfl
          have e7 := hel k _ hp 7 _ rfl
          have e8 := hel k _ hp 8 _ rfl
          have e9 := hel k _ hp 9 _ rfl
          rw [Nat.add_zero] at e0
          rw [← Nat.add_assoc] at e1 e2 e3 e4 e5 e6 e7 e8 e9
          simp only at e0 e1 e2 e3 e4 e5 e6 e7 e8 e9 HS hmc
          unfold metaCells at hmc
          generalize metaOk ⟨zn, ln, ⟨su, ss, sd⟩, ⟨lu, ls, ld⟩, rf⟩ = mk at *
          have HMC := Lib.hid hmc
          have HKP := Lib.hid hkp
          clear hel hrow hpr hprl hap hd hmc hkp HE hp hA2
          cases b with
          | false =>
            have HF := HS.out false (by simp)
            clear HS
            go_wp2_with fail
            exact ⟨⟨k + 1, false, by simp, by omega, rfl, HKP.out.alloc _, HF⟩, by simp [intOf]; omega⟩
          | true =>
            by_cases h1 : 0 ≤ lv
            · by_cases h2 : lv < 4
              · cases mk with
                | false =>
                  have HF := HS.out false (by simp)
                  have hm2 := HMC.out
                  simp only [errOf_false] at hm2
                  have HM2 := Lib.hid hm2
                  clear HS HMC hm2
                  go_wp2_with (go_at_call 52; refine (HM2.out _).mono ?_; rintro e w1 ⟨rfl, hb1⟩)
                  exact ⟨⟨k + 1, false, by simp, by omega, rfl, (HKP.out.alloc _).trans (Keep.of_below hb1 (fun g hg hf => by omega)), HF⟩, by simp [intOf]; omega⟩
                | true =>
                  have HF := HS.out true (by simp [h1, h2])
                  have hm2 := HMC.out
                  simp only [errOf_true] at hm2
                  have HM2 := Lib.hid hm2
                  clear HS HMC hm2
                  go_wp2_with (go_at_call 52; refine (HM2.out _).mono ?_; rintro e w1 ⟨rfl, hb1⟩)
                  exact ⟨⟨k + 1, true, by simp, by omega, rfl, (HKP.out.alloc _).trans (Keep.of_below hb1 (fun g hg hf => by omega)), HF⟩, by simp [intOf]; omega⟩
              · have hd2 : decide (lv < 4) = false := decide_eq_false h2
                have HF := HS.out false (by simp [h2])
                clear HS h2
                go_wp2_with fail
                exact ⟨⟨k + 1, false, by simp, by omega, rfl, HKP.out.alloc _, HF⟩, by simp [intOf]; omega⟩
            · have hd1 : decide (0 ≤ lv) = false := decide_eq_false h1
              have HF := HS.out false (by simp [h1])
              clear HS h1
              go_wp2_with fail
              exact ⟨⟨k + 1, false, by simp, by omega, rfl, HKP.out.alloc _, HF⟩, by simp [intOf]; omega⟩
        · have hkn : k = na := by omega
          have he := HE.out
          rw [hkn, hna.out, List.drop_length, List.all_nil, Bool.and_true] at he
          have HE2 := Lib.hid (hfin.out.trans he)
          have HKP := Lib.hid hkp
          clear hkn he HE hkp hA2
          cases b with
          | false =>
            go_wp2_with fail
            go_ret
            exact ⟨by rw [HE2.out]; rfl, hBC.out.trans (HKP.out.below (Nat.le_refl _) |>.mono (by omega))⟩
          | true =>
            go_wp2_with fail
            go_ret
            exact ⟨by rw [HE2.out]; rfl, hBC.out.trans (HKP.out.below (Nat.le_refl _) |>.mono (by omega))⟩
end Go.Proofs.Ytejfejckmhoolaa
