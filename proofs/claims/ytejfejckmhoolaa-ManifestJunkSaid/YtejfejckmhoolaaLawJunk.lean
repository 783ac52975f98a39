/- The walk of tithebarnlaw16.ManifestJunk. -/
import Derived.Test.YtejfejckmhoolaaJS
set_option linter.unusedSimpArgs false
set_option linter.unusedVariables false
namespace Go.Proofs.Ytejfejckmhoolaa
open Go.RowKit

def supCells (p : Int × Int) : List Value := [.int .i64 p.1, .int .i64 p.2]

set_option maxRecDepth 100000 in
set_option maxHeartbeats 4000000 in
theorem junk_walk {Tl Tj : TypeId} (w : World) (F : Nat → Prop) (lv jv : Value) (l : List (Int × Int)) (jl : List (Value × Byts)) (hl : Rows w F Tl 2 lv l.length (l.flatMap supCells)) (hj : Rows w F Tj 1 jv jl.length (jl.map (·.1)))
    (hjb : ∀ p, p ∈ jl → ∃ Tb, Rows w F Tb 1 p.1 p.2.length (p.2.map byteV)) : Calls Try.prog 7 #[lv, jv] w (BoolBelow w true) := by
  obtain ⟨_, A, c, rfl, hc, _⟩ := id hl
  obtain ⟨_, JA, jc, rfl, hjc, _⟩ := id hj
  obtain ⟨n, hn⟩ : ∃ n, Hid (n = l.length) := ⟨_, rfl⟩
  obtain ⟨m, hm⟩ : ∃ m, Hid (m = jl.length) := ⟨_, rfl⟩
  rw [← hn.out] at hl hc ⊢
  rw [← hm.out] at hj hjc ⊢
  have HL := Lib.hid (Rows.mono hl (G := (· < w.heap.size)) (fun g hg _ => hg))
  have HJ := Lib.hid (Rows.mono hj (G := (· < w.heap.size)) (fun g hg _ => hg))
  have HJB := Lib.hid (show ∀ p, p ∈ jl → ∃ Tb, Rows w (· < w.heap.size) Tb 1 p.1 p.2.length (p.2.map byteV) from fun p hp => by
    obtain ⟨Tb, h⟩ := hjb p hp
    exact ⟨Tb, h.mono (fun g hg _ => hg)⟩)
  clear hl hj hjb
  by_cases hn4 : n ≤ 40
  · by_cases hm4 : m ≤ 40
    · go_enter Try.func7, Try.ntmps7
      go_wp2_with fail
      go_loopw [5, 6, 28] (fun v5 v6 i wr => ∃ (k : Nat) (l5 l6 : List (Value × Byts)), i = .int .i64 k ∧ k ≤ n ∧ l5.length ≤ 2 * k ∧ l6.length ≤ k ∧ Hid (JS w wr v5 v6 l5 l6) ∧ Hid (newestS (l5.map (·.2)) (0, 0) = newestS (l6.map (·.2)) (0, 0)) ∧ Hid (∀ b, b ∈ l6.map (·.2) → ∃ g z, supS b = some (g, z) ∧ 1 ≤ g)) (fun _ _ i _ => n - (intOf i).toNat)
      case atStart => exact ⟨0, [], [], rfl, by omega, by simp, by simp, JS.nil w, rfl, fun _ h => by cases h⟩
      case round =>
        obtain ⟨k, l5, l6, rfl, hk, h5, h6, HS, HE, HA⟩ := hrel
        by_cases hlt : k < n
        · obtain ⟨⟨g, z⟩, hgz⟩ : ∃ p, l[k]? = some p := ⟨l[k]'(by rw [← hn.out]; exact hlt), List.getElem?_eq_getElem _⟩
          obtain ⟨gb, off, cap2, eA, _, _, _, hel⟩ := (HL.out.keep (Keep.of_below HS.out.bel (fun _ _ hf => hf)) (fun _ _ hf _ => hf)).elems (fun x => rfl) (by decide) hn.out.symm (by omega)
          have eA2 : A = some ⟨gb, off, none⟩ := by injection eA
          subst eA2
          have e0 := hel k _ hgz 0 _ rfl
          have e1 := hel k _ hgz 1 _ rfl
          rw [Nat.add_zero] at e0
          rw [← Nat.add_assoc] at e1
          simp only at e0 e1
          have HS1 := Lib.hid (HS.out.call ((Below.refl _ _).alloc (Nat.le_refl _) (.cells #[.int .i64 g, .int .i64 z] 78)))
          have hsb := supBytes_any g z (wr.alloc (.cells #[.int .i64 g, .int .i64 z] 78))
          have HSB := Lib.hid hsb
          clear hel eA hgz hsb HS
          by_cases hok : supOk g z = true
          · obtain ⟨bb, hbb⟩ : ∃ bb, Hid (bb = supEnc g z) := ⟨_, rfl⟩
            have hbl : bb.length ≤ 40 := by rw [hbb.out]; exact supEnc_len hok
            have hsome : ∃ g1 z1, supS bb = some (g1, z1) ∧ 1 ≤ g1 := by
              rw [hbb.out]
              refine ⟨_, _, supS_enc hok, ?_⟩
              simp only [supOk, decide_eq_true_eq] at hok
              omega
            have HSO := Lib.hid hsome
            have HOK := Lib.hid hok
            clear hsome hok
            by_cases hkm : k < m
            · obtain ⟨⟨jx, jb⟩, hjx⟩ : ∃ p, jl[k]? = some p := ⟨jl[k]'(by rw [← hm.out]; exact hkm), List.getElem?_eq_getElem _⟩
              obtain ⟨Tb, hjr⟩ := HJB.out _ (List.mem_of_getElem? hjx)
              simp only at hjr
              obtain ⟨_, XA, XC, rfl, _, _⟩ := id hjr
              obtain ⟨jn, hjn⟩ : ∃ jn, Hid (jn = jb.length) := ⟨_, rfl⟩
              rw [← hjn.out] at hjr hjx
              have HJX := Lib.hid hjx
              have HJR := Lib.hid hjr
              clear hjr hjx
              by_cases hj50 : jn ≤ 50
              · have hjb50 : jb.length ≤ 1000000 := by rw [← hjn.out]; omega
                obtain ⟨o, hpo⟩ : ∃ o, Hid (supS jb = o) := ⟨_, rfl⟩
                cases o with
                | none =>
                  have HPO := hpo
                  clear hpo
                  go_wp2_with (first | ((go_at_call 29; refine (HSB.out).mono ?_; rintro e w1 ⟨hb1, h2⟩; rw [if_pos HOK.out, ← hbb.out] at h2; obtain ⟨v, rfl, hbt⟩ := h2; obtain ⟨BA, bn, BC, rfl⟩ : ∃ A n c, v = .slice A n c := (by obtain ⟨_, A, c, h, _⟩ := hbt; exact ⟨A, _, c, h⟩); have HS2 := Lib.hid (HS1.out.call hb1); have hje := Lib.hid (JE.own (by omega) hbt w.heap.size); clear hb1 hbt); obtain ⟨jg, joff, jcap, eJ, _, _, hjgl, hjel⟩ := (HJ.out.keep (Keep.of_below HS2.out.bel (fun _ _ hf => hf)) (fun _ _ hf _ => hf)).at_ (j := 0) (by omega); obtain rfl : JA = some ⟨jg, joff, none⟩ := (by injection eJ); have e2 := hjel k (.slice XA jn XC) (by simp [HJX.out]); clear hjel eJ) | (go_at_call 31; refine (parseSup_any w1 (· < w.heap.size) _ jb (by rw [← hjn.out]; exact HJR.out.keep (Keep.of_below HS2.out.bel (fun _ _ hf => hf)) (fun _ _ hf _ => hf)) hjb50).mono ?_; rintro e w3 ⟨rfl, hb3⟩; rw [HPO.out]; simp only [supR]; have HS3 := Lib.hid (HS2.out.call (hb3.alloc hb3.size (.cells #[.int .i64 0, .int .i64 0] 78))); have hje3 := Lib.hid (JE.keep hje.out (hb3.alloc hb3.size (.cells #[.int .i64 0, .int .i64 0] 78))); have hks := HS3.out.bel; have hjx := Lib.hid (JE.arg (b := jb) hjb50 (by rw [← hjn.out]; exact HJR.out.keep (Keep.of_below hks (fun _ _ hf => hf)) (fun _ _ hf _ => hf))); have hjl2 : jg < w3.heap.size := Nat.lt_of_lt_of_le hjgl hb3.size; have e3 := (hb3.cell (p := ⟨jg, joff + k, none⟩) hjgl).trans e2; clear hb3 hks) | (at_builtin; refine wpList_append_one rfl (.tmp 62) (.tmp 67) _ rfl ei_bs u5 l5.length _ rfl HS3.out.o5 [.slice XA jn XC] 1 (by first | rfl | (rw [World.size_alloc]; rfl)) (Nat.le_refl _) rfl (by simp [Value.oneCell']) (by omega) HS3.out.bel.size ?_; intro v9 w9 hown9 hg9 hb9; obtain ⟨l5', HS4, hl5', HE4⟩ : ∃ l5', Hid (JS w w9 v9 u6 l5' l6) ∧ l5'.length ≤ 2 * k + 1 ∧ Hid (newestS (l5'.map (·.2)) (0, 0) = newestS (l6.map (·.2)) (0, 0)) := ⟨_, HS3.out.app hjx.out hown9 hg9 hb9, by simp; omega, by unfold Hid; rw [List.map_append, newestS_append, HE.out]; simp only [List.map_cons, List.map_nil, newestS, HPO.out, newestStep]⟩; have hje4 := Lib.hid (JE.grown hje3.out HS3.out.o5 hg9); clear hown9 hg9 hb9) | (at_builtin; refine wpList_append_one rfl (.tmp 69) (.tmp 71) _ rfl ei_bs v9 (l5').length _ rfl HS4.out.o5 [.slice BA bn BC] 1 (by first | rfl | (rw [World.size_alloc]; rfl)) (Nat.le_refl _) rfl (by simp [Value.oneCell']) (by omega) HS4.out.bel.size ?_; intro v7 w7 hown7 hg7 hb7; have HJ7 := Lib.hid (HS4.out.app hje4.out hown7 hg7 hb7); have HE7 := Lib.hid (JE.grown hje4.out HS4.out.o5 hg7); clear hown7 hg7 hb7) | (at_builtin; refine wpList_append_one rfl (.tmp 73) (.tmp 75) _ rfl ei_bs u6 l6.length _ rfl HJ7.out.o6 [.slice BA bn BC] 1 (by first | rfl | (rw [World.size_alloc]; rfl)) (Nat.le_refl _) rfl (by simp [Value.oneCell']) (by omega) HJ7.out.bel.size ?_; intro v8 w8 hown8 hg8 hb8; have HJ8 := Lib.hid (HJ7.out.swap.app HE7.out hown8 hg8 hb8).swap; clear hown8 hg8 hb8))
                  exact ⟨⟨k + 1, l5' ++ [(.slice BA bn BC, bb)], l6 ++ [(.slice BA bn BC, bb)], by simp, by omega, by (try simp); omega, by simp; omega, HJ8, by unfold Hid; rw [List.map_append, List.map_append, newestS_append, newestS_append, HE4.out], by unfold Hid; intro x hx; rw [List.map_append] at hx; rcases List.mem_append.1 hx with hx | hx; exact HA.out x hx; rw [List.mem_singleton.1 hx]; exact HSO.out⟩, by simp [intOf]; omega⟩
                | some p =>
                  obtain ⟨g1, z1⟩ := p
                  have HPO := hpo
                  clear hpo
                  go_wp2_with (first | ((go_at_call 29; refine (HSB.out).mono ?_; rintro e w1 ⟨hb1, h2⟩; rw [if_pos HOK.out, ← hbb.out] at h2; obtain ⟨v, rfl, hbt⟩ := h2; obtain ⟨BA, bn, BC, rfl⟩ : ∃ A n c, v = .slice A n c := (by obtain ⟨_, A, c, h, _⟩ := hbt; exact ⟨A, _, c, h⟩); have HS2 := Lib.hid (HS1.out.call hb1); have hje := Lib.hid (JE.own (by omega) hbt w.heap.size); clear hb1 hbt); obtain ⟨jg, joff, jcap, eJ, _, _, hjgl, hjel⟩ := (HJ.out.keep (Keep.of_below HS2.out.bel (fun _ _ hf => hf)) (fun _ _ hf _ => hf)).at_ (j := 0) (by omega); obtain rfl : JA = some ⟨jg, joff, none⟩ := (by injection eJ); have e2 := hjel k (.slice XA jn XC) (by simp [HJX.out]); clear hjel eJ) | (go_at_call 31; refine (parseSup_any w1 (· < w.heap.size) _ jb (by rw [← hjn.out]; exact HJR.out.keep (Keep.of_below HS2.out.bel (fun _ _ hf => hf)) (fun _ _ hf _ => hf)) hjb50).mono ?_; rintro e w3 ⟨rfl, hb3⟩; rw [HPO.out]; simp only [supR]; have HS3 := Lib.hid (HS2.out.call (hb3.alloc hb3.size (.cells #[.int .i64 (g1 : Int), .int .i64 (z1 : Int)] 78))); have hje3 := Lib.hid (JE.keep hje.out (hb3.alloc hb3.size (.cells #[.int .i64 (g1 : Int), .int .i64 (z1 : Int)] 78))); have hks := HS3.out.bel; have hjx := Lib.hid (JE.arg (b := jb) hjb50 (by rw [← hjn.out]; exact HJR.out.keep (Keep.of_below hks (fun _ _ hf => hf)) (fun _ _ hf _ => hf))); have hjl2 : jg < w3.heap.size := Nat.lt_of_lt_of_le hjgl hb3.size; have e3 := (hb3.cell (p := ⟨jg, joff + k, none⟩) hjgl).trans e2; clear hb3 hks) | (at_builtin; refine wpList_append_one rfl (.tmp 69) (.tmp 71) _ rfl ei_bs u5 (l5).length _ rfl HS3.out.o5 [.slice BA bn BC] 1 (by first | rfl | (rw [World.size_alloc]; rfl)) (Nat.le_refl _) rfl (by simp [Value.oneCell']) (by omega) HS3.out.bel.size ?_; intro v7 w7 hown7 hg7 hb7; have HJ7 := Lib.hid (HS3.out.app hje3.out hown7 hg7 hb7); have HE7 := Lib.hid (JE.grown hje3.out HS3.out.o5 hg7); clear hown7 hg7 hb7) | (at_builtin; refine wpList_append_one rfl (.tmp 73) (.tmp 75) _ rfl ei_bs u6 l6.length _ rfl HJ7.out.o6 [.slice BA bn BC] 1 (by first | rfl | (rw [World.size_alloc]; rfl)) (Nat.le_refl _) rfl (by simp [Value.oneCell']) (by omega) HJ7.out.bel.size ?_; intro v8 w8 hown8 hg8 hb8; have HJ8 := Lib.hid (HJ7.out.swap.app HE7.out hown8 hg8 hb8).swap; clear hown8 hg8 hb8))
                  exact ⟨⟨k + 1, l5 ++ [(.slice BA bn BC, bb)], l6 ++ [(.slice BA bn BC, bb)], by simp, by omega, by (try simp); omega, by simp; omega, HJ8, by unfold Hid; rw [List.map_append, List.map_append, newestS_append, newestS_append, HE.out], by unfold Hid; intro x hx; rw [List.map_append] at hx; rcases List.mem_append.1 hx with hx | hx; exact HA.out x hx; rw [List.mem_singleton.1 hx]; exact HSO.out⟩, by simp [intOf]; omega⟩
              · go_wp2_with (first | ((go_at_call 29; refine (HSB.out).mono ?_; rintro e w1 ⟨hb1, h2⟩; rw [if_pos HOK.out, ← hbb.out] at h2; obtain ⟨v, rfl, hbt⟩ := h2; obtain ⟨BA, bn, BC, rfl⟩ : ∃ A n c, v = .slice A n c := (by obtain ⟨_, A, c, h, _⟩ := hbt; exact ⟨A, _, c, h⟩); have HS2 := Lib.hid (HS1.out.call hb1); have hje := Lib.hid (JE.own (by omega) hbt w.heap.size); clear hb1 hbt); obtain ⟨jg, joff, jcap, eJ, _, _, hjgl, hjel⟩ := (HJ.out.keep (Keep.of_below HS2.out.bel (fun _ _ hf => hf)) (fun _ _ hf _ => hf)).at_ (j := 0) (by omega); obtain rfl : JA = some ⟨jg, joff, none⟩ := (by injection eJ); have e2 := hjel k (.slice XA jn XC) (by simp [HJX.out]); clear hjel eJ) | (at_builtin; refine wpList_append_one rfl (.tmp 69) (.tmp 71) _ rfl ei_bs u5 (l5).length _ rfl HS2.out.o5 [.slice BA bn BC] 1 (by first | rfl | (rw [World.size_alloc]; rfl)) (Nat.le_refl _) rfl (by simp [Value.oneCell']) (by omega) HS2.out.bel.size ?_; intro v7 w7 hown7 hg7 hb7; have HJ7 := Lib.hid (HS2.out.app hje.out hown7 hg7 hb7); have HE7 := Lib.hid (JE.grown hje.out HS2.out.o5 hg7); clear hown7 hg7 hb7) | (at_builtin; refine wpList_append_one rfl (.tmp 73) (.tmp 75) _ rfl ei_bs u6 l6.length _ rfl HJ7.out.o6 [.slice BA bn BC] 1 (by first | rfl | (rw [World.size_alloc]; rfl)) (Nat.le_refl _) rfl (by simp [Value.oneCell']) (by omega) HJ7.out.bel.size ?_; intro v8 w8 hown8 hg8 hb8; have HJ8 := Lib.hid (HJ7.out.swap.app HE7.out hown8 hg8 hb8).swap; clear hown8 hg8 hb8))
                exact ⟨⟨k + 1, l5 ++ [(.slice BA bn BC, bb)], l6 ++ [(.slice BA bn BC, bb)], by simp, by omega, by (try simp); omega, by simp; omega, HJ8, by unfold Hid; rw [List.map_append, List.map_append, newestS_append, newestS_append, HE.out], by unfold Hid; intro x hx; rw [List.map_append] at hx; rcases List.mem_append.1 hx with hx | hx; exact HA.out x hx; rw [List.mem_singleton.1 hx]; exact HSO.out⟩, by simp [intOf]; omega⟩
            · go_wp2_with (first | (go_at_call 29; refine (HSB.out).mono ?_; rintro e w1 ⟨hb1, h2⟩; rw [if_pos HOK.out, ← hbb.out] at h2; obtain ⟨v, rfl, hbt⟩ := h2; obtain ⟨BA, bn, BC, rfl⟩ : ∃ A n c, v = .slice A n c := (by obtain ⟨_, A, c, h, _⟩ := hbt; exact ⟨A, _, c, h⟩); have HS2 := Lib.hid (HS1.out.call hb1); have hje := Lib.hid (JE.own (by omega) hbt w.heap.size); clear hb1 hbt) | (at_builtin; refine wpList_append_one rfl (.tmp 69) (.tmp 71) _ rfl ei_bs u5 (l5).length _ rfl HS2.out.o5 [.slice BA bn BC] 1 (by first | rfl | (rw [World.size_alloc]; rfl)) (Nat.le_refl _) rfl (by simp [Value.oneCell']) (by omega) HS2.out.bel.size ?_; intro v7 w7 hown7 hg7 hb7; have HJ7 := Lib.hid (HS2.out.app hje.out hown7 hg7 hb7); have HE7 := Lib.hid (JE.grown hje.out HS2.out.o5 hg7); clear hown7 hg7 hb7) | (at_builtin; refine wpList_append_one rfl (.tmp 73) (.tmp 75) _ rfl ei_bs u6 l6.length _ rfl HJ7.out.o6 [.slice BA bn BC] 1 (by first | rfl | (rw [World.size_alloc]; rfl)) (Nat.le_refl _) rfl (by simp [Value.oneCell']) (by omega) HJ7.out.bel.size ?_; intro v8 w8 hown8 hg8 hb8; have HJ8 := Lib.hid (HJ7.out.swap.app HE7.out hown8 hg8 hb8).swap; clear hown8 hg8 hb8))
              exact ⟨⟨k + 1, l5 ++ [(.slice BA bn BC, bb)], l6 ++ [(.slice BA bn BC, bb)], by simp, by omega, by (try simp); omega, by simp; omega, HJ8, by unfold Hid; rw [List.map_append, List.map_append, newestS_append, newestS_append, HE.out], by unfold Hid; intro x hx; rw [List.map_append] at hx; rcases List.mem_append.1 hx with hx | hx; exact HA.out x hx; rw [List.mem_singleton.1 hx]; exact HSO.out⟩, by simp [intOf]; omega⟩
          · go_wp2_with (go_at_call 29; refine (HSB.out).mono ?_; rintro e w1 ⟨hb1, h2⟩; rw [if_neg hok] at h2; subst h2)
            exact ⟨⟨k + 1, l5, l6, by simp, by omega, by omega, by omega, HS1.out.call hb1, HE.out, HA.out⟩, by simp [intOf]; omega⟩
        · have hkn : ¬ (k : Int) < n := by omega
          obtain ⟨A6, c6, rfl⟩ := own_form HS.out.o6
          obtain ⟨A5, c5, rfl⟩ := own_form HS.out.o5
          have hpos := newestS_all _ HA.out
          rw [List.length_map] at hpos
          have hnw := newest_any wr (fun _ => True) _ l5 ((Rows.of_own HS.out.o5).mono (fun _ _ _ => trivial)) (by omega) HS.out.bv
          rw [HE.out] at hnw
          have hnw2 := fun wx (hb : Below wr.heap.size wr wx) => newest_any wx (fun _ => True) _ l6 ((Rows.of_own (HS.out.call hb).o6).mono (fun _ _ _ => trivial)) (by omega) (HS.out.call hb).swap.bv
          obtain ⟨⟨pg, pz⟩, hp⟩ : ∃ p, newestS (l6.map (·.2)) (0, 0) = p := ⟨_, rfl⟩
          rw [hp] at hnw hnw2 hpos
          simp only at hpos
          obtain ⟨m6, hm6⟩ : ∃ m6, Hid (m6 = l6.length) := ⟨_, rfl⟩
          rw [← hm6.out] at hpos h6 hnw2 ⊢
          obtain ⟨m5, hm5⟩ : ∃ m5, Hid (m5 = l5.length) := ⟨_, rfl⟩
          rw [← hm5.out] at h5 hnw ⊢
          have HNW := Lib.hid hnw
          have HNW2 := Lib.hid hnw2
          have HBL := Lib.hid HS.out.bel
          clear hnw hnw2 hp HE HA HS
          go_wp2_with fail
          refine (HNW.out).mono ?_
          rintro e w1 ⟨rfl, hb1⟩
          simp only
          go_wp2_with fail
          refine (HNW2.out _ (hb1.alloc hb1.size _)).mono ?_
          rintro e w2 ⟨rfl, hb2⟩
          simp only
          have hX := blk_below hb2 (heap_alloc_new w1 _) (by simp)
          have hXl := heap_lt hX
          have c0 := cell_of_block hX 0
          have c1 := cell_of_block hX 1
          simp at c0 c1
          have hbw : Below w.heap.size w (w2.alloc (.cells #[.int .i64 (pg : Int), .int .i64 (pz : Int)] 78)) :=
            (HBL.out.trans ((hb1.alloc hb1.size _).mono HBL.out.size)).trans ((hb2.alloc hb2.size _).mono (by have := HBL.out.size; have := hb1.size; simp; omega))
          have HBW := Lib.hid hbw
          clear hX hb1 hb2 hbw
          have hpd : decide (0 < pg) = decide (0 < m6) := decide_eq_decide.2 hpos
          go_wp2_with (go_at_call 10; refine (awake_any _).mono ?_; rintro e w3 ⟨rfl, hb3⟩)
          go_ret
          exact ⟨rfl, HBW.out.trans (hb3.mono HBW.out.size)⟩
    · go_enter Try.func7, Try.ntmps7
      go_wp2_with fail
      refine (awake_any _).mono ?_
      rintro e w2 ⟨rfl, hb2⟩
      go_wp2_with fail
      go_ret
      exact ⟨rfl, hb2⟩
  · go_enter Try.func7, Try.ntmps7
    go_wp2_with fail
    refine (awake_any _).mono ?_
    rintro e w2 ⟨rfl, hb2⟩
    go_wp2_with fail
    go_ret
    exact ⟨rfl, hb2⟩
end Go.Proofs.Ytejfejckmhoolaa
