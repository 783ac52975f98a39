/- levels.isZone, manifest.zones, Meta.Check: data and contracts. -/
import Derived.Test.YtejfejckmhoolaaCmp2
import Derived.Test.YtejfejckmhoolaaSrcKey
import Derived.Deep.DeepCutAuto
set_option linter.unusedSimpArgs false
set_option linter.unusedVariables false
namespace Go.Proofs.Ytejfejckmhoolaa
open Go.RowKit

structure Ref where
  zone : Int
  bytes : Int
structure Meta where
  zone : Int
  len : Int
  small : Key
  large : Key
  refs : List Ref
structure Place where
  level : Int
  m : Meta
structure Rec where
  whole : Bool
  seq : Int
  logs : List Int
  add : List Place
  drop : List Int

def refCells (r : Ref) : List Value := [.int .i64 r.zone, .int .i64 r.bytes]
def metaCells (m : Meta) (rv : Value) : List Value := [.int .i64 m.zone, .int .i64 m.len, .string m.small.user, .int .i64 m.small.seq, .int .i64 m.small.kind, .string m.large.user, .int .i64 m.large.seq, .int .i64 m.large.kind, rv]
def placeCells (p : Place) (rv : Value) : List Value := .int .i64 p.level :: metaCells p.m rv

def zoneOk (z : Int) : Bool := decide (0 ≤ z) && decide (z < 64)
theorem isZone_any (z : Int) (w : World) : Calls Try.prog 106 #[.int .i64 z] w (BoolSame w (zoneOk z)) := by
  unfold zoneOk
  by_cases h : 0 ≤ z <;> by_cases h' : z < 64
  all_goals
    go_enter Try.func106, Try.ntmps106
    go_wp2
    go_ret
    exact ⟨by simp [h, h'], rfl⟩
theorem zonesFn_any (z : Int) (w : World) : Calls Try.prog 105 #[.int .i64 z] w (BoolSame w (!zoneOk z)) := by
  unfold zoneOk
  by_cases h : z < 0 <;> by_cases h' : z < 64
  all_goals
    go_enter Try.func105, Try.ntmps105
    go_wp2
    go_ret
    exact ⟨by simp [h, h']; try omega, rfl⟩

def IdxPost (w : World) (b : Bool) (e : Ending) (w' : World) : Prop := ∃ n : Int, e = .returned (.int .i64 n) ∧ decide (0 ≤ n) = b ∧ w = w'
set_option maxHeartbeats 1000000 in
theorem indexFuncZones_any (w : World) (F : Nat → Prop) (v : Value) (zs : List Int) (h : Ints w F v zs) (hl : zs.length ≤ 1000000) :
    Calls Try.prog 129 #[v, .func (.func 105) #[] #[]] w (IdxPost w (zs.any fun z => !zoneOk z)) := by
  obtain ⟨_, A, cap, rfl, hcap, _⟩ := id h
  obtain ⟨n, hn⟩ : ∃ n, Hid (n = zs.length) := ⟨_, rfl⟩
  have hc : Hid (∀ i z, zs[i]? = some z → ∃ g off, A = some ⟨g, off, none⟩ ∧ w.cell? ⟨g, off + i, none⟩ = some (.int .i64 z)) := by
    intro i z hz
    by_cases hne : zs = []
    · subst hne; simp at hz
    · obtain ⟨g, off, cap', e1, _, _, _, e5⟩ := h.cells hne
      injection e1 with e1
      exact ⟨g, off, e1, e5 i z hz⟩
  rw [← hn.out] at hcap hl ⊢
  clear h
  go_enter Try.func129, Try.ntmps129
  go_wp2_with fail
  go_loop [8] (fun i => ∃ k : Nat, i = .int .i64 k ∧ k ≤ n ∧ Hid ((zs.any fun z => !zoneOk z) = ((zs.drop k).any fun z => !zoneOk z))) (fun i => n - (intOf i).toNat)
  case atStart => exact ⟨0, rfl, by omega, by simp [Hid]⟩
  case round =>
    obtain ⟨k, rfl, hk, HE⟩ := hrel
    by_cases hlt : k < n
    · obtain ⟨z, hz⟩ : ∃ z, zs[k]? = some z := ⟨zs[k]'(by have := hn.out; omega), List.getElem?_eq_getElem _⟩
      obtain ⟨g, off, rfl, hcell⟩ := hc.out k z hz
      have hd : zs.drop k = z :: zs.drop (k + 1) := by
        have h1 : k < zs.length := by have := hn.out; omega
        rw [List.drop_eq_getElem_cons h1]
        rw [List.getElem?_eq_getElem h1] at hz
        injection hz with hz
        rw [hz]
      have he := HE.out
      rw [hd, List.any_cons] at he
      have HE2 := Lib.hid he
      have hcl := zonesFn_any z w
      generalize zoneOk z = b at *
      have HCL := Lib.hid hcl
      clear hd he hz HE hcl
      cases b with
      | true =>
        go_wp2_with fail
        refine (HCL.out).mono ?_
        rintro e w1 ⟨rfl, rfl⟩
        go_wp2_with fail
        exact ⟨⟨k + 1, by simp, by omega, by simpa [Hid] using HE2.out⟩, by simp [intOf]; omega⟩
      | false =>
        go_wp2_with fail
        refine (HCL.out).mono ?_
        rintro e w1 ⟨rfl, rfl⟩
        go_wp2_with fail
        go_ret
        exact ⟨k, rfl, by rw [HE2.out]; simp, rfl⟩
    · have hkn : k = n := by omega
      have he := HE.out
      rw [hkn, hn.out, List.drop_length] at he
      have HE2 := Lib.hid he
      clear hkn he HE
      go_wp2_with fail
      go_ret
      exact ⟨-1, rfl, by rw [HE2.out]; rfl, rfl⟩

def zonesOk (zs : List Int) : Bool := decide (zs.length ≤ 64) && zs.all zoneOk
theorem any_not_all (zs : List Int) : (!(zs.any fun z => !zoneOk z)) = zs.all zoneOk := by
  induction zs with
  | nil => rfl
  | cons z zs ih => simp only [List.any_cons, List.all_cons, Bool.not_or, ih, Bool.not_not]
set_option maxHeartbeats 400000 in
theorem mzones_any (w : World) (F : Nat → Prop) (v : Value) (zs : List Int) (h : Ints w F v zs) :
    Calls Try.prog 51 #[v] w (BoolSame w (zonesOk zs)) := by
  obtain ⟨_, A, cap, rfl, hcap, _⟩ := id h
  unfold zonesOk
  by_cases h64 : zs.length ≤ 64
  · have hi := indexFuncZones_any w F _ zs h (by omega)
    rw [decide_eq_true h64, Bool.true_and, ← any_not_all]
    generalize (zs.any fun z => !zoneOk z) = b at *
    generalize hn : zs.length = n at *
    have HI := Lib.hid hi
    clear hi h hn
    go_enter Try.func51, Try.ntmps51
    go_wp2_with (first | (go_at_call 129; refine (HI.out).mono ?_; rintro e w1 ⟨q, rfl, hq, rfl⟩) | go_in)
    go_ret
    exact ⟨by simp [← hq], rfl⟩
  · have hn64 : ¬ zs.length ≤ 64 := h64
    rw [decide_eq_false h64, Bool.false_and]
    generalize hn : zs.length = n at *
    clear h hn
    go_enter Try.func51, Try.ntmps51
    go_wp2_with fail
    go_ret
    exact ⟨rfl, rfl⟩

theorem flat_get {α : Type} {f : α → List Value} {k : Nat} (hf : ∀ x, (f x).length = k) : ∀ (l : List α) (i j : Nat) (x : α), l[i]? = some x → j < k → (l.flatMap f)[i * k + j]? = (f x)[j]? := by
  intro l
  induction l with
  | nil => intro i j x h; simp at h
  | cons y l ih =>
    intro i j x h hj
    rw [List.flatMap_cons]
    cases i with
    | zero =>
      simp only [List.getElem?_cons_zero, Option.some.injEq] at h
      subst h
      rw [Nat.zero_mul, Nat.zero_add, List.getElem?_append_left (by rw [hf]; exact hj)]
    | succ i =>
      simp only [List.getElem?_cons_succ] at h
      rw [List.getElem?_append_right (by rw [hf, Nat.succ_mul]; omega), hf, show (i + 1) * k + j - k = i * k + j by rw [Nat.succ_mul]; omega]
      exact ih i j x h hj
/-- The cells of the elements of a row of structs. -/
theorem Rows.elems {w : World} {F : Nat → Prop} {T k n : Nat} {v : Value} {α : Type} {f : α → List Value} {l : List α} (h : Rows w F T k v n (l.flatMap f)) (hf : ∀ x, (f x).length = k) (hk : 0 < k) (hl : l.length = n) (hne : 0 < n) :
    ∃ g off cap, v = .slice (some ⟨g, off, none⟩) n cap ∧ n ≤ cap ∧ F g ∧ g < w.heap.size ∧ ∀ i x, l[i]? = some x → ∀ j u, (f x)[j]? = some u → w.cell? ⟨g, off + (i * k + j), none⟩ = some u := by
  obtain ⟨g, off, cap, e1, e2, e3, e4, e5⟩ := Rows.at_ h (j := 0) (Nat.mul_pos hne hk)
  refine ⟨g, off, cap, e1, e2, e3, e4, fun i x hx j u hu => e5 _ _ ?_⟩
  have hj : j < k := by
    rcases Nat.lt_or_ge j k with hj | hj
    · exact hj
    · rw [List.getElem?_eq_none (by rw [hf]; exact hj)] at hu; cases hu
  rw [flat_get hf l i j x hx hj]
  exact hu

theorem below_rules {W w1 : World} {B : Nat} (hb : Below B W w1) : (∀ b o, b < B → w1.cell? ⟨b, o, none⟩ = W.cell? ⟨b, o, none⟩) ∧ (∀ b o, b < B → w1.frozen? ⟨b, o, none⟩ = W.frozen? ⟨b, o, none⟩) :=
  ⟨fun b o h => hb.cell (p := ⟨b, o, none⟩) h, fun b o h => hb.frozen (p := ⟨b, o, none⟩) h⟩
def RdRefs (w : World) (F : Nat → Prop) (TR : TypeId) (rv : Value) (l : List Ref) : Prop := Rows w F TR 2 rv l.length (l.flatMap refCells)
def refOk (first : Bool) (prev : Int) (r : Ref) : Bool := zoneOk r.zone && decide (1 ≤ r.bytes) && decide (r.bytes ≤ 1073741824) && (first || decide (prev < r.zone))
def refsOkGo : Bool → Int → List Ref → Bool
  | _, _, [] => true
  | first, prev, r :: l => refOk first prev r && refsOkGo false r.zone l
def headOk (m : Meta) : Bool := zoneOk m.zone && decide (1 ≤ m.len) && decide (m.len ≤ 65536) && keyOk m.small && keyOk m.large && decide (keyCmp m.small m.large ≤ 0)
def metaOk (m : Meta) : Bool := headOk m && refsOkGo true 0 m.refs

set_option maxRecDepth 100000 in
set_option maxHeartbeats 4000000 in
theorem metaCheck_any (w : World) (F : Nat → Prop) (m : Meta) (rv : Value) (h : RdRefs w F 122 rv m.refs) (hl : m.refs.length ≤ 1000000) :
    Calls Try.prog 52 #[.agg (metaCells m rv).toArray] w (IntBelow w (errOf (metaOk m) 150)) := by
  obtain ⟨zn, ln, sm, lg, refs⟩ := m
  simp only at h hl
  obtain ⟨hok, hhok⟩ : ∃ hok, Hid (hok = headOk ⟨zn, ln, sm, lg, refs⟩) := ⟨_, rfl⟩
  have hh2 := hhok.out
  simp only [headOk] at hh2
  have hks := fun wx => keyCheck_any sm wx
  have hkl := fun wx => keyCheck_any lg wx
  have hkc := fun wx => keyCmp_any sm lg wx
  have hz := fun wx => isZone_any zn wx
  obtain ⟨su, ss, sd⟩ := sm
  obtain ⟨lu, ls, ld⟩ := lg
  unfold metaCells
  simp only at *
  unfold Key.val Key.cells at hks hkl hkc
  generalize zoneOk zn = b1 at *
  generalize keyOk ⟨su, ss, sd⟩ = b2 at *
  generalize keyOk ⟨lu, ls, ld⟩ = b3 at *
  generalize keyCmp ⟨su, ss, sd⟩ ⟨lu, ls, ld⟩ = cc at *
  obtain ⟨_, A, cap, rfl, hcap, _⟩ := id h
  have hhokk := hhok
  clear hhok
  go_enter Try.func52, Try.ntmps52
  go_upto_region 1 with fail
  go_cut [3] (fun s3 wx => s3 = .bool hok ∧ Below (w.heap.size + 1) (w.alloc (.cells #[.int .i64 zn, .int .i64 ln, .string su, .int .i64 ss, .int .i64 sd, .string lu, .int .i64 ls, .int .i64 ld, .slice A refs.length cap] 117)) wx)
  case first =>
    have HZ := Lib.hid hz
    have HKC := Lib.hid hkc
    clear hz hkc
    cases b1 with
    | false =>
      have HH := Lib.hid (hh2.trans (show _ = false by simp))
      clear hks hkl hh2
      go_wp2_with (go_at_call 106; refine (HZ.out _).mono ?_; rintro e w1 ⟨rfl, rfl⟩)
      go_meet
      exact ⟨by rw [HH.out], Below.refl _ _⟩
    | true =>
      by_cases h1 : 1 ≤ ln
      · by_cases h2 : ln ≤ 65536
        · cases b2 with
          | false =>
            simp only [errOf_false] at hks
            have HH := Lib.hid (hh2.trans (show _ = false by simp))
            have HKS := Lib.hid hks
            clear hks hkl hh2
            go_wp2_with (first | (go_at_call 106; refine (HZ.out _).mono ?_; rintro e w1 ⟨rfl, rfl⟩) | (go_at_call 107; refine (HKS.out _).mono ?_; rintro e w1 ⟨rfl, hb1⟩))
            go_meet
            exact ⟨by rw [HH.out], hb1.mono (by simp)⟩
          | true =>
            simp only [errOf_true] at hks
            have HKS := Lib.hid hks
            clear hks
            cases b3 with
            | false =>
              simp only [errOf_false] at hkl
              have HH := Lib.hid (hh2.trans (show _ = false by simp))
              have HKL := Lib.hid hkl
              clear hkl hh2
              go_wp2_with (first | (go_at_call 106; refine (HZ.out _).mono ?_; rintro e w1 ⟨rfl, rfl⟩) | (go_at_call_of 107 (Value.agg #[Value.string su, Value.int .i64 ss, Value.int .i64 sd]); refine (HKS.out _).mono ?_; rintro e w1 ⟨rfl, hb1⟩; obtain ⟨q1, q2⟩ := below_rules hb1; have hs1 := hb1.size; simp only [World.size_alloc] at q1 q2 hs1; have hl1 : w.heap.size < w1.heap.size := (by omega)) | (go_at_call_of 107 (Value.agg #[Value.string lu, Value.int .i64 ls, Value.int .i64 ld]); refine (HKL.out _).mono ?_; rintro e w2 ⟨rfl, hb2⟩; obtain ⟨q3, q4⟩ := below_rules hb2; have hs2 := hb2.size; have hl2 : w.heap.size < w2.heap.size := (by omega)))
              go_meet
              exact ⟨by rw [HH.out], (hb1.mono (by simp)).trans (hb2.mono (by omega))⟩
            | true =>
              simp only [errOf_true] at hkl
              have HKL := Lib.hid hkl
              clear hkl
              by_cases h3 : cc ≤ 0
              · have HH := Lib.hid (hh2.trans (show _ = true by simp [h1, h2, h3]))
                clear hh2
                go_wp2_with (first | (go_at_call 106; refine (HZ.out _).mono ?_; rintro e w1 ⟨rfl, rfl⟩) | (go_at_call_of 107 (Value.agg #[Value.string su, Value.int .i64 ss, Value.int .i64 sd]); refine (HKS.out _).mono ?_; rintro e w1 ⟨rfl, hb1⟩; obtain ⟨q1, q2⟩ := below_rules hb1; have hs1 := hb1.size; simp only [World.size_alloc] at q1 q2 hs1; have hl1 : w.heap.size < w1.heap.size := (by omega)) | (go_at_call_of 107 (Value.agg #[Value.string lu, Value.int .i64 ls, Value.int .i64 ld]); refine (HKL.out _).mono ?_; rintro e w2 ⟨rfl, hb2⟩; obtain ⟨q3, q4⟩ := below_rules hb2; have hs2 := hb2.size; have hl2 : w.heap.size < w2.heap.size := (by omega)) | (go_at_call 89; refine (HKC.out _).mono ?_; rintro e w3 ⟨rfl, hb3⟩))
                go_meet
                exact ⟨by rw [HH.out], ((hb1.mono (by simp)).trans (hb2.mono (by omega))).trans (hb3.mono (by omega))⟩
              · have HH := Lib.hid (hh2.trans (show _ = false by simp [h3]))
                have hd : decide (cc ≤ 0) = false := decide_eq_false h3
                clear hh2
                go_wp2_with (first | (go_at_call 106; refine (HZ.out _).mono ?_; rintro e w1 ⟨rfl, rfl⟩) | (go_at_call_of 107 (Value.agg #[Value.string su, Value.int .i64 ss, Value.int .i64 sd]); refine (HKS.out _).mono ?_; rintro e w1 ⟨rfl, hb1⟩; obtain ⟨q1, q2⟩ := below_rules hb1; have hs1 := hb1.size; simp only [World.size_alloc] at q1 q2 hs1; have hl1 : w.heap.size < w1.heap.size := (by omega)) | (go_at_call_of 107 (Value.agg #[Value.string lu, Value.int .i64 ls, Value.int .i64 ld]); refine (HKL.out _).mono ?_; rintro e w2 ⟨rfl, hb2⟩; obtain ⟨q3, q4⟩ := below_rules hb2; have hs2 := hb2.size; have hl2 : w.heap.size < w2.heap.size := (by omega)) | (go_at_call 89; refine (HKC.out _).mono ?_; rintro e w3 ⟨rfl, hb3⟩))
                go_meet
                exact ⟨by rw [HH.out], ((hb1.mono (by simp)).trans (hb2.mono (by omega))).trans (hb3.mono (by omega))⟩
        · have HH := Lib.hid (hh2.trans (show _ = false by simp [h2]))
          clear hks hkl hh2
          go_wp2_with (go_at_call 106; refine (HZ.out _).mono ?_; rintro e w1 ⟨rfl, rfl⟩)
          go_meet
          exact ⟨by rw [HH.out], Below.refl _ _⟩
      · have HH := Lib.hid (hh2.trans (show _ = false by simp [h1]))
        clear hks hkl hh2
        go_wp2_with (go_at_call 106; refine (HZ.out _).mono ?_; rintro e w1 ⟨rfl, rfl⟩)
        go_meet
        exact ⟨by rw [HH.out], Below.refl _ _⟩
  case rest =>
    obtain ⟨rfl, hbc⟩ := hcut
    clear hks hkl hkc hz hh2
    have hszc := hbc.size
    simp only [World.size_alloc] at hszc
    have hcB : wc.cell? ⟨w.heap.size, 8, none⟩ = some (.slice A refs.length cap) := by rw [hbc.cell (p := ⟨w.heap.size, 8, none⟩) (by simp)]; simp
    have hrow : Hid (RdRefs wc (fun g => g < w.heap.size) 122 (.slice A refs.length cap) refs) :=
      ((Rows.mono h (G := fun g => g < w.heap.size) (fun g hg _ => hg)).alloc _).keep (Keep.of_below hbc (F := fun g => g < w.heap.size) (fun g hg hf => by omega)) (fun g _ hf _ => hf)
    have HBC : Hid (Below w.heap.size w wc) := ((Below.refl _ _).alloc (Nat.le_refl _) _).trans (hbc.mono (by omega))
    have hfin : Hid (metaOk ⟨zn, ln, ⟨su, ss, sd⟩, ⟨lu, ls, ld⟩, refs⟩ = (hok && refsOkGo true 0 refs)) := by unfold Hid metaOk; rw [← hhokk.out]
    obtain ⟨n, hn⟩ : ∃ n, Hid (n = refs.length) := ⟨_, rfl⟩
    rw [← hn.out] at hcB hcap hl ⊢
    have hn' := hn.out
    clear h hbc
    go_wp2_with fail
    go_loopw [3, 42] (fun o i wr => ∃ (k : Nat) (b : Bool), i = .int .i64 k ∧ k ≤ n ∧ o = .bool b ∧ Keep (· < wc.heap.size) wc wr ∧ Hid ((hok && refsOkGo true 0 refs) = (b && refsOkGo (k == 0) ((refs.getD (k - 1) ⟨0, 0⟩).zone) (refs.drop k)))) (fun _ i _ => n - (intOf i).toNat)
    case atStart => exact ⟨0, hok, rfl, by omega, rfl, Keep.refl _ _, by unfold Hid; cases refs <;> rfl⟩
    case round =>
      obtain ⟨k, b, rfl, hk, rfl, hkp, HE⟩ := hrel
      have hszr := hkp.size
      by_cases hlt : k < n
      · obtain ⟨r, hr⟩ : ∃ r, refs[k]? = some r := ⟨refs[k]'(by have := hn.out; omega), List.getElem?_eq_getElem _⟩
        obtain ⟨g, off, cap2, eA, _, hgF, hglt, hel⟩ := (Rows.keep hrow.out hkp (fun g hg hf _ => by omega)).elems (fun x => rfl) (by decide) rfl (by have := hn.out; omega)
        have eA : A = some ⟨g, off, none⟩ := by injection eA
        subst eA
        have e0 := hel k r hr 0 _ rfl
        have e1 := hel k r hr 1 _ rfl
        rw [Nat.add_zero] at e0
        rw [← Nat.add_assoc] at e1
        have hpz : 0 < k → wr.cell? ⟨g, off + (k - 1) * 2, none⟩ = some (.int .i64 (refs.getD (k - 1) ⟨0, 0⟩).zone) := by
          intro hk0
          have hlt2 : k - 1 < refs.length := by have := hn.out; omega
          have := hel (k - 1) (refs[k - 1]) (List.getElem?_eq_getElem hlt2) 0 _ rfl
          rw [Nat.add_zero] at this
          rw [this, List.getD_eq_getElem?_getD, List.getElem?_eq_getElem hlt2]
          rfl
        have hcB2 := (hkp.cell (a := ⟨w.heap.size, 8, none⟩) (by simp; omega) (by simp; omega)).trans hcB
        have hd : refs.drop k = r :: refs.drop (k + 1) := by
          have h1 : k < refs.length := by have := hn.out; omega
          rw [List.drop_eq_getElem_cons h1]
          rw [List.getElem?_eq_getElem h1] at hr
          injection hr with hr
          rw [hr]
        have hg1 : refs.getD (k + 1 - 1) ⟨0, 0⟩ = r := by rw [Nat.add_sub_cancel, List.getD_eq_getElem?_getD, hr]; rfl
        have HS : Hid (∀ b', b' = (b && refOk (k == 0) (refs.getD (k - 1) ⟨0, 0⟩).zone r) → (hok && refsOkGo true 0 refs) = (b' && refsOkGo ((k + 1) == 0) ((refs.getD (k + 1 - 1) ⟨0, 0⟩).zone) (refs.drop (k + 1)))) := by
          intro b' hb'
          rw [HE.out, hd, hg1, hb', refsOkGo, Bool.and_assoc]
          rfl
        unfold refOk at HS
        have HIZ := Lib.hid (isZone_any r.zone)
        obtain ⟨pz, hpze⟩ : ∃ pz, Hid (pz = (refs.getD (k - 1) ⟨0, 0⟩).zone) := ⟨_, rfl⟩
        rw [← hpze.out] at HS hpz
        obtain ⟨rz, rb⟩ := r
        simp only at e0 e1 HS HIZ
        have HKP := Lib.hid hkp
        clear hel hd hg1 HE hpze hr hkp hrow
        generalize zoneOk rz = zk at *
        have hgs : g < wr.heap.size := hglt
        have hms : w.heap.size < wr.heap.size := by omega
        cases b with
        | false => (have HF := HS.out false (by simp); clear HS hpz; (go_wp2_with fail; go_quiet ((go_at_call 106; exact Calls.mono (HIZ.out _) (fun _ _ ⟨q1, q2⟩ => ⟨q1, _, q2.symm⟩))); go_wp2_with fail; exact ⟨⟨k + 1, false, by simp, by omega, rfl, (HKP.out.alloc _).drewN _, HF⟩, by simp [intOf]; omega⟩))
        | true =>
          cases zk with
          | false => (have HF := HS.out false (by simp); clear HS hpz; (go_wp2_with fail; go_quiet ((go_at_call 106; exact Calls.mono (HIZ.out _) (fun _ _ ⟨q1, q2⟩ => ⟨q1, _, q2.symm⟩))); go_wp2_with fail; exact ⟨⟨k + 1, false, by simp, by omega, rfl, (HKP.out.alloc _).drewN _, HF⟩, by simp [intOf]; omega⟩))
          | true =>
            by_cases h1 : 1 ≤ rb
            · by_cases h2 : rb ≤ 1073741824
              · by_cases hk0 : k = 0
                · have hk0' : decide (k = 0) = true := decide_eq_true hk0
                  have hk0'' : ((k : Int) == 0) = true := by simp [hk0]
                  have hk03 : decide ((k : Int) = 0) = true := decide_eq_true (by omega)
                  have HF := HS.out true (by simp [h1, h2, hk0])
                  clear HS hk0 hpz
                  (go_wp2_with fail; go_quiet ((go_at_call 106; exact Calls.mono (HIZ.out _) (fun _ _ ⟨q1, q2⟩ => ⟨q1, _, q2.symm⟩))); go_wp2_with fail; exact ⟨⟨k + 1, true, by simp, by omega, rfl, (HKP.out.alloc _).drewN _, HF⟩, by simp [intOf]; omega⟩)
                · have hd0 : decide ((k : Int) = 0) = false := decide_eq_false (by omega)
                  have hd0' : decide (k = 0) = false := decide_eq_false (by omega)
                  have hd0'' : ((k : Int) == 0) = false := by simp; omega
                  have hpc := hpz (by omega)
                  obtain ⟨j, hj⟩ : ∃ j, j = k - 1 := ⟨_, rfl⟩
                  rw [← hj] at hpc
                  have hwj : IntKind.i64.wrap ((k : Int) - 1) = (j : Int) := by
                    rw [wrap_in] <;> omega
                  have hj0 : (0 : Int) ≤ (j : Int) := by omega
                  have hjn : (j : Int) < (n : Int) := by omega
                  by_cases h3 : pz < rz
                  · have HF := HS.out true (by simp [h1, h2, h3])
                    clear HS hk0 hpz hj
                    (go_wp2_with fail; go_quiet ((go_at_call 106; exact Calls.mono (HIZ.out _) (fun _ _ ⟨q1, q2⟩ => ⟨q1, _, q2.symm⟩))); go_wp2_with fail; exact ⟨⟨k + 1, true, by simp, by omega, rfl, (HKP.out.alloc _).drewN _, HF⟩, by simp [intOf]; omega⟩)
                  · have hd3 : decide (pz < rz) = false := decide_eq_false h3
                    have HF := HS.out false (by simp [h3, hk0])
                    clear HS hk0 hpz hj h3
                    (go_wp2_with fail; go_quiet ((go_at_call 106; exact Calls.mono (HIZ.out _) (fun _ _ ⟨q1, q2⟩ => ⟨q1, _, q2.symm⟩))); go_wp2_with fail; exact ⟨⟨k + 1, false, by simp, by omega, rfl, (HKP.out.alloc _).drewN _, HF⟩, by simp [intOf]; omega⟩)
              · have hd2 : decide (rb ≤ 1073741824) = false := decide_eq_false h2
                have HF := HS.out false (by simp [h2])
                clear HS h2 hpz
                (go_wp2_with fail; go_quiet ((go_at_call 106; exact Calls.mono (HIZ.out _) (fun _ _ ⟨q1, q2⟩ => ⟨q1, _, q2.symm⟩))); go_wp2_with fail; exact ⟨⟨k + 1, false, by simp, by omega, rfl, (HKP.out.alloc _).drewN _, HF⟩, by simp [intOf]; omega⟩)
            · have hd1 : decide (1 ≤ rb) = false := decide_eq_false h1
              have HF := HS.out false (by simp [h1])
              clear HS h1 hpz
              (go_wp2_with fail; go_quiet ((go_at_call 106; exact Calls.mono (HIZ.out _) (fun _ _ ⟨q1, q2⟩ => ⟨q1, _, q2.symm⟩))); go_wp2_with fail; exact ⟨⟨k + 1, false, by simp, by omega, rfl, (HKP.out.alloc _).drewN _, HF⟩, by simp [intOf]; omega⟩)
      · have hkn : k = n := by omega
        have he := HE.out
        rw [hkn, hn.out, List.drop_length, refsOkGo, Bool.and_true] at he
        have HE2 := Lib.hid (hfin.out.trans he)
        have HKP := Lib.hid hkp
        clear hkn he HE hkp hrow
        cases b with
        | false =>
          go_wp2_with fail
          go_ret
          exact ⟨by rw [HE2.out]; rfl, HBC.out.trans (HKP.out.below (Nat.le_refl _) |>.mono (by omega))⟩
        | true =>
          go_wp2_with fail
          go_ret
          exact ⟨by rw [HE2.out]; rfl, HBC.out.trans (HKP.out.below (Nat.le_refl _) |>.mono (by omega))⟩
end Go.Proofs.Ytejfejckmhoolaa
