/- manifest.Parse: its pure mirror, the state of its walk. -/
import Derived.Test.YtejfejckmhoolaaRec
set_option linter.unusedSimpArgs false
set_option linter.unusedVariables false
namespace Go.Proofs.Ytejfejckmhoolaa
open Go.RowKit

/-! ### the pure mirror -/
def refsGo : Nat → Option Byts → List Ref × Option Byts
  | 0, st => ([], st)
  | k + 1, st => (⟨(numS st).1, (numS (numS st).2).1⟩ :: (refsGo k (numS (numS st).2).2).1, (refsGo k (numS (numS st).2).2).2)
/-- A place but for its refs: level, zone, length, two keys, how many refs. -/
def headS (st : Option Byts) (bad : Bool) : (Nat × Nat × Nat × Key × Key × Nat) × Option Byts × Bool :=
  let s1 := (numS st).2
  let s2 := (numS s1).2
  let s3 := (numS s2).2
  let k1 := skeyS s3 bad
  let k2 := skeyS k1.2.1 k1.2.2
  let c := countS k2.2.1 k2.2.2
  (((numS st).1, (numS s1).1, (numS s2).1, k1.1, k2.1, c.1), c.2.1, c.2.2)
def placeS (st : Option Byts) (bad : Bool) : Place × Option Byts × Bool :=
  let h := headS st bad
  let r := refsGo h.1.2.2.2.2.2 h.2.1
  (⟨h.1.1, ⟨h.1.2.1, h.1.2.2.1, h.1.2.2.2.1, h.1.2.2.2.2.1, r.1⟩⟩, r.2, h.2.2)
def placesGo : Nat → Option Byts → Bool → List Place × Option Byts × Bool
  | 0, st, bad => ([], st, bad)
  | k + 1, st, bad => ((placeS st bad).1 :: (placesGo k (placeS st bad).2.1 (placeS st bad).2.2).1, (placesGo k (placeS st bad).2.1 (placeS st bad).2.2).2)
/-- A record's parts up to the count of its places. -/
def frontS (st : Option Byts) : (Nat × Nat × List Int × List Int × Nat) × Option Byts × Bool :=
  let s1 := (numS st).2
  let s2 := (numS s1).2
  let l1 := listS s2 false
  let l2 := listS l1.2.1 l1.2.2
  let c := countS l2.2.1 l2.2.2
  (((numS st).1, (numS s1).1, l1.1, l2.1, c.1), c.2.1, c.2.2)
def recS (st : Option Byts) : Nat × Rec × Option Byts × Bool :=
  let f := frontS st
  let p := placesGo f.1.2.2.2.2 f.2.1 f.2.2
  (f.1.1, ⟨((f.1.1 : Int) == 1), f.1.2.1, f.1.2.2.1, p.1, f.1.2.2.2.1⟩, p.2.1, p.2.2)
def parseRec (b : Byts) : Option Rec :=
  let r := recS (some b)
  if r.2.2.2 || decide (1 < r.1) || decide (doneS r.2.2.1 ≠ 0) || !recOk r.2.1 then none else some r.2.1

theorem refsGo_len : ∀ (k : Nat) (st : Option Byts), (refsGo k st).1.length = k := by
  intro k
  induction k with
  | zero => intro st; rfl
  | succ k ih => intro st; simp [refsGo, ih]

/-! ### the state -/
structure PS (W w : World) (F : Nat → Prop) (H r S R : Nat) (st : Option Byts) (bad : Bool) (a0 a1 lv av dv : Value) (L D : List Int) : Prop where
  src : Src w F S R st bad
  recb : w.heap[r]? = some (.cells #[a0, a1, lv, av, dv] 29 (0, 0))
  out : w.heap[H]? = some (.cells #[.bool false, .int .i64 0, .slice none 0 0, .slice none 0 0, .slice none 0 0] 29 (0, 0))
  logs : Ints w (fun _ => True) lv L
  drop : Ints w (fun _ => True) dv D
  keep : Keep (· < H) W w
  lt : H < r
  hS : H ≤ S
  hR : H ≤ R

section
variable {W w w' : World} {F : Nat → Prop} {H r S R : Nat} {st st' : Option Byts} {bad bad' : Bool} {a0 a1 lv av dv : Value} {L D : List Int}
theorem Src.tyS (h : Src w F S R st bad) : tyOf w S = some 111 := tyOf_of h.1
theorem Src.tyR (h : Src w F S R st bad) : tyOf w R = some 187 := by
  match st, h.2 with
  | none, ⟨_, _, _, _, hh, _⟩ => exact tyOf_of hh
  | some l, ⟨_, hh, _⟩ => exact tyOf_of hh
theorem Src.far (h : Src w F S R st bad) {g : Nat} {e : TypeId} (hg : tyOf w g = some e) (h1 : e ≠ 187) (h2 : e ≠ 111) : g ≠ R ∧ g ≠ S := by
  constructor
  · rintro rfl; rw [h.tyR] at hg; injection hg with hg; exact h1 hg.symm
  · rintro rfl; rw [h.tyS] at hg; injection hg with hg; exact h2 hg.symm
theorem OwnIn.keepT {O G : Nat → Prop} {e size n : Nat} {v : Value} {xs : List Value} (h : OwnIn w O e size v n xs) (hk : Keep G w w') (hG : ∀ g, g < w.heap.size → O g → tyOf w g = some e → G g) : OwnIn w' O e size v n xs := by
  refine ⟨?_, h.2⟩
  obtain ⟨⟨b1, b2⟩, hO⟩ := h
  refine ⟨b1, ?_⟩
  rcases b2 with b2 | ⟨g, cap, cur, e1, e2, e3, e4⟩
  · exact .inl b2
  · refine .inr ⟨g, cap, cur, e1, e2, ?_, e4⟩
    rw [hk.block g (heap_lt e3) (hG g (heap_lt e3) (hO g (by rw [e1]; rfl)) (tyOf_of e3))]
    exact e3
theorem PS.step (h : PS W w F H r S R st bad a0 a1 lv av dv L D) (hs : Src w' F S R st' bad') (hk : Keep (fun g => g ≠ R ∧ g ≠ S) w w') : PS W w' F H r S R st' bad' a0 a1 lv av dv L D where
  src := hs
  recb := (hk.block r (heap_lt h.recb) (h.src.far (tyOf_of h.recb) (by decide) (by decide))).trans h.recb
  out := (hk.block H (heap_lt h.out) (h.src.far (tyOf_of h.out) (by decide) (by decide))).trans h.out
  logs := Rows.keep h.logs hk (fun g _ _ ht => h.src.far ht (by decide) (by decide))
  drop := Rows.keep h.drop hk (fun g _ _ ht => h.src.far ht (by decide) (by decide))
  keep := h.keep.trans (hk.mono (fun g _ hf => ⟨by have := h.hR; omega, by have := h.hS; omega⟩))
  lt := h.lt
  hS := h.hS
  hR := h.hR
/-- A cell of the record is set. -/
theorem PS.set (h : PS W w F H r S R st bad a0 a1 lv av dv L D) {b0 b1 lv' av' dv' : Value} {L' D' : List Int} (j : Nat) (v : Value)
    (hc : (#[a0, a1, lv, av, dv] : Array Value).setIfInBounds j v = #[b0, b1, lv', av', dv'])
    (hL : Ints w (fun _ => True) lv' L') (hD : Ints w (fun _ => True) dv' D')
    : PS W (w.setCell ⟨r, j, none⟩ v) F H r S R st bad b0 b1 lv' av' dv' L' D' := by
  have hk : Keep (fun g => g ≠ r) w (w.setCell ⟨r, j, none⟩ v) := (Keep.refl _ _).setCell (a := ⟨r, j, none⟩) (fun _ hf => hf rfl) v
  have hne : ∀ {g e}, tyOf w g = some e → e ≠ 29 → g ≠ r := by
    intro g e hg h1
    rintro rfl
    rw [tyOf_of h.recb] at hg
    injection hg with hg
    exact h1 hg.symm
  have hlt := h.lt
  exact {
    src := h.src.setOther h.recb (by decide) (by decide) (by decide) j v
    recb := by rw [← hc]; exact heap_setCell_of h.recb j v
    out := (hk.block H (heap_lt h.out) (by omega)).trans h.out
    logs := Rows.keep hL hk (fun g _ _ ht => hne ht (by decide))
    drop := Rows.keep hD hk (fun g _ _ ht => hne ht (by decide))
    keep := h.keep.trans (hk.mono (fun g _ hf => by omega))
    lt := h.lt
    hS := h.hS
    hR := h.hR }
/-- What the walk reads. -/
theorem PS.facts (h : PS W w F H r S R st bad a0 a1 lv av dv L D) :
    (w.cell? ⟨S, 0, none⟩ = some (.pointer (some ⟨R, 0, none⟩)) ∧ w.cell? ⟨S, 1, none⟩ = some (.bool bad)) ∧
    (w.cell? ⟨r, 0, none⟩ = some a0 ∧ w.cell? ⟨r, 1, none⟩ = some a1 ∧ w.cell? ⟨r, 2, none⟩ = some lv ∧ w.cell? ⟨r, 3, none⟩ = some av ∧ w.cell? ⟨r, 4, none⟩ = some dv) ∧
    (∀ i, w.frozen? ⟨r, i, none⟩ = false) ∧ r < w.heap.size ∧ S < w.heap.size ∧ R < w.heap.size ∧ r ≠ S ∧ r ≠ R ∧ S ≠ R ∧ H < r := by
  have hf := h.src.far (tyOf_of h.recb) (by decide) (by decide)
  exact ⟨⟨by simpa using cell_of_block h.src.1 0, by simpa using cell_of_block h.src.1 1⟩, ⟨by simpa using cell_of_block h.recb 0, by simpa using cell_of_block h.recb 1, by simpa using cell_of_block h.recb 2, by simpa using cell_of_block h.recb 3, by simpa using cell_of_block h.recb 4⟩,
    fun i => frozen_of_block h.recb i, heap_lt h.recb, heap_lt h.src.1, h.src.2.lt, hf.2, hf.1, h.src.ne, h.lt⟩
end
/-- The rows of places: own, with their refs. -/
def Pls (w : World) (H : Nat) (av : Value) (ps : List (Place × Value)) : Prop :=
  OwnIn w (fun g => H ≤ g) 119 10 av ps.length (ps.flatMap plCells) ∧ ∀ p, p ∈ ps → RdRefs w (fun _ => True) 122 p.2 p.1.m.refs
theorem Pls.keepT {w w' : World} {H : Nat} {av : Value} {ps : List (Place × Value)} {G : Nat → Prop} (h : Pls w H av ps) (hk : Keep G w w') (hG : ∀ g, tyOf w g = some 119 ∨ tyOf w g = some 122 → G g) : Pls w' H av ps :=
  ⟨h.1.keepT hk (fun g _ _ ht => hG g (.inl ht)), fun p hp => Rows.keep (h.2 p hp) hk (fun g _ _ ht => hG g (.inr ht))⟩
theorem Pls.src {w w' : World} {F : Nat → Prop} {S R : Nat} {st : Option Byts} {bad : Bool} {H : Nat} {av : Value} {ps : List (Place × Value)} (h : Pls w H av ps) (hs : Src w F S R st bad) (hk : Keep (fun g => g ≠ R ∧ g ≠ S) w w') : Pls w' H av ps :=
  h.keepT hk (fun g ht => by rcases ht with ht | ht <;> exact hs.far ht (by decide) (by decide))
/-- The state within a round: the variable in block P, of type TP. -/
structure QS (wr w : World) (F : Nat → Prop) (S R P : Nat) (st : Option Byts) (bad : Bool) (TP : TypeId) (cs : Array Value) : Prop where
  src : Src w F S R st bad
  pl : w.heap[P]? = some (.cells cs TP (0, 0))
  keep : Keep (fun g => g ≠ R ∧ g ≠ S) wr w
  hP : wr.heap.size ≤ P
  t1 : TP ≠ 5
  t2 : TP ≠ 187
  t3 : TP ≠ 111
section
variable {wr w w' : World} {F : Nat → Prop} {S R P : Nat} {st st' : Option Byts} {bad bad' : Bool} {TP : TypeId} {cs : Array Value}
theorem QS.step (h : QS wr w F S R P st bad TP cs) (hs : Src w' F S R st' bad') (hk : Keep (fun g => g ≠ R ∧ g ≠ S) w w') : QS wr w' F S R P st' bad' TP cs :=
  ⟨hs, (hk.block P (heap_lt h.pl) (h.src.far (tyOf_of h.pl) h.t2 h.t3)).trans h.pl, h.keep.trans hk, h.hP, h.t1, h.t2, h.t3⟩
theorem QS.set (h : QS wr w F S R P st bad TP cs) (j : Nat) (v : Value) : QS wr (w.setCell ⟨P, j, none⟩ v) F S R P st bad TP (cs.setIfInBounds j v) :=
  ⟨h.src.setOther h.pl h.t1 h.t2 h.t3 j v, heap_setCell_of h.pl j v, h.keep.setCell (a := ⟨P, j, none⟩) (fun hlt => absurd h.hP (by simp only at hlt; omega)) v, h.hP, h.t1, h.t2, h.t3⟩
theorem QS.facts (h : QS wr w F S R P st bad TP cs) :
    (w.cell? ⟨S, 0, none⟩ = some (.pointer (some ⟨R, 0, none⟩)) ∧ w.cell? ⟨S, 1, none⟩ = some (.bool bad)) ∧
    (∀ i, w.frozen? ⟨P, i, none⟩ = false) ∧ P < w.heap.size ∧ S < w.heap.size ∧ R < w.heap.size ∧ P ≠ S ∧ P ≠ R ∧ S ≠ R := by
  have hf := h.src.far (tyOf_of h.pl) h.t2 h.t3
  exact ⟨⟨by simpa using cell_of_block h.src.1 0, by simpa using cell_of_block h.src.1 1⟩, fun i => frozen_of_block h.pl i, heap_lt h.pl, heap_lt h.src.1, h.src.2.lt, hf.2, hf.1, h.src.ne⟩
/-- Behind an append onto a row of another type, in blocks behind the variable. -/
theorem QS.app {e size n : Nat} {v : Value} {xs : List Value} {O : Nat → Prop} (h : QS wr w F S R P st bad TP cs) (ho : OwnIn w O e size v n xs) (hO : ∀ g, O g → wr.heap.size ≤ g) (hg : w.grownBy w' v.ownBlock)
    (h1 : e ≠ 5) (h2 : e ≠ 187) (h3 : e ≠ 111) (h4 : e ≠ TP) : QS wr w' F S R P st bad TP cs :=
  ⟨h.src.keepTy (ho.keepTy hg) h1 h2 h3, ((ho.keepTy hg).block P (heap_lt h.pl) (by rw [tyOf_of h.pl]; intro e; injection e with e; exact h4 e.symm)).trans h.pl,
    ⟨hg.os.trans h.keep.os, hg.tape.trans h.keep.tape, hg.output.trans h.keep.output, Nat.le_trans h.keep.size hg.size, fun g hlt hf => by
      refine (hg.block g (Nat.lt_of_lt_of_le hlt h.keep.size) (fun e => ?_)).trans (h.keep.block g hlt hf)
      have := hO g (ho.2 g e.symm)
      omega⟩, h.hP, h.t1, h.t2, h.t3⟩
end
/-- Behind the append of a place, and its store. -/
theorem PS.grow {W w w' : World} {F : Nat → Prop} {H r S R : Nat} {st : Option Byts} {bad : Bool} {a0 a1 lv av dv v' : Value} {L D : List Int} {ps : List (Place × Value)} {p : Place × Value}
    (h : PS W w F H r S R st bad a0 a1 lv av dv L D) (ha : Pls w H av ps) (hp : RdRefs w (fun _ => True) 122 p.2 p.1.m.refs)
    (hown : w'.ownsRow 0 119 10 v' (ps.length + 1) (ps.flatMap plCells ++ plCells p)) (hg : w.grownBy w' av.ownBlock) (hb : v'.ownBlock = av.ownBlock ∨ v'.ownBlock = some (w.heap.size + 1)) :
    PS W (w'.setCell ⟨r, 3, none⟩ v') F H r S R st bad a0 a1 lv v' dv L D ∧ Pls (w'.setCell ⟨r, 3, none⟩ v') H v' (ps ++ [p]) := by
  have hrl := heap_lt h.recb
  have hlt := h.lt
  have hk := ha.1.keepTy hg
  obtain ⟨ho, hk2⟩ := ha.1.step (fun g hg => by omega) hown hg (hb.imp id fun e => ⟨_, e, by omega⟩)
  have hty : ∀ {g e}, tyOf w g = some e → e ≠ 119 → tyOf w g ≠ some 119 := fun h1 h2 h3 => h2 (by rw [h1] at h3; injection h3)
  have h1 : PS W w' F H r S R st bad a0 a1 lv av dv L D := {
    src := h.src.keepTy hk (by decide) (by decide) (by decide)
    recb := (hk.block r hrl (hty (tyOf_of h.recb) (by decide))).trans h.recb
    out := (hk.block H (heap_lt h.out) (hty (tyOf_of h.out) (by decide))).trans h.out
    logs := Rows.keep h.logs hk (fun g _ _ ht => hty ht (by decide))
    drop := Rows.keep h.drop hk (fun g _ _ ht => hty ht (by decide))
    keep := h.keep.trans (hk2.mono (fun g _ hf => by omega))
    lt := h.lt
    hS := h.hS
    hR := h.hR }
  refine ⟨h1.set 3 v' rfl h1.logs h1.drop, ?_⟩
  have hp1 : Pls w' H v' (ps ++ [p]) := by
    refine ⟨by simpa using ho, fun q hq => ?_⟩
    rcases List.mem_append.1 hq with hq | hq
    · exact Rows.keep (ha.2 q hq) hk (fun g _ _ ht => hty ht (by decide))
    · simp only [List.mem_singleton] at hq
      subst hq
      exact Rows.keep hp hk (fun g _ _ ht => hty ht (by decide))
  refine hp1.keepT ((Keep.refl (fun g => g ≠ r) _).setCell (a := ⟨r, 3, none⟩) (fun _ hf => hf rfl) v') (fun g ht => ?_)
  rintro rfl
  rw [tyOf_of h1.recb] at ht
  rcases ht with ht | ht <;> (injection ht with ht; revert ht; decide)
theorem PS.growRec {W w w' : World} {F : Nat → Prop} {H r S R : Nat} {st : Option Byts} {bad : Bool} {a0 a1 lv av dv : Value} {L D : List Int} {ps : List (Place × Value)}
    (h : PS W w F H r S R st bad a0 a1 lv av dv L D) (ha : Pls w H av ps) (hg : w.grownBy w' av.ownBlock) : w'.heap[r]? = some (.cells #[a0, a1, lv, av, dv] 29 (0, 0)) :=
  ((ha.1.keepTy hg).block r (heap_lt h.recb) (by rw [tyOf_of h.recb]; decide)).trans h.recb
theorem numsGo_len : ∀ (k : Nat) (st : Option Byts), (numsGo k st).1.length = k := by
  intro k
  induction k with
  | zero => intro st; rfl
  | succ k ih => intro st; simp [numsGo, ih]
theorem front_len (st : Option Byts) : (frontS st).1.2.2.1.length ≤ 64 ∧ (frontS st).1.2.2.2.1.length ≤ 64 := by
  simp only [frontS, listS, numsGo_len]
  exact ⟨count_le _ _, count_le _ _⟩
theorem places_len : ∀ (k : Nat) (st : Option Byts) (bad : Bool), (placesGo k st bad).1.length = k ∧ ∀ p, p ∈ (placesGo k st bad).1 → p.m.refs.length ≤ 64 := by
  intro k
  induction k with
  | zero => intro st bad; exact ⟨rfl, fun p hp => by cases hp⟩
  | succ k ih =>
    intro st bad
    refine ⟨by simp [placesGo, ih], fun p hp => ?_⟩
    rw [placesGo] at hp
    rcases List.mem_cons.1 hp with rfl | hp
    · simp only [placeS, refsGo_len, headS]
      exact count_le _ _
    · exact (ih _ _).2 p hp
theorem box5_set {w : World} {g : Nat} {x0 x1 x2 x3 x4 : Value} {t : TypeId} {fr : Nat × Nat} (h : w.heap[g]? = some (.cells #[x0, x1, x2, x3, x4] t fr)) (a b c d e : Value) :
    (((((w.setCell ⟨g, 0, none⟩ a).setCell ⟨g, 1, none⟩ b).setCell ⟨g, 2, none⟩ c).setCell ⟨g, 3, none⟩ d).setCell ⟨g, 4, none⟩ e).heap[g]? = some (.cells #[a, b, c, d, e] t fr) ∧
    Keep (· ≠ g) w (((((w.setCell ⟨g, 0, none⟩ a).setCell ⟨g, 1, none⟩ b).setCell ⟨g, 2, none⟩ c).setCell ⟨g, 3, none⟩ d).setCell ⟨g, 4, none⟩ e) := by
  constructor
  · simpa using heap_setCell_of (heap_setCell_of (heap_setCell_of (heap_setCell_of (heap_setCell_of h 0 a) 1 b) 2 c) 3 d) 4 e
  · exact (((((Keep.refl _ _).setCell (a := ⟨g, 0, none⟩) (fun _ hf => hf rfl) _).setCell (a := ⟨g, 1, none⟩) (fun _ hf => hf rfl) _).setCell (a := ⟨g, 2, none⟩) (fun _ hf => hf rfl) _).setCell (a := ⟨g, 3, none⟩) (fun _ hf => hf rfl) _).setCell (a := ⟨g, 4, none⟩) (fun _ hf => hf rfl) _
theorem ei_ref : EI Try.prog 115 122 2 16 := EI.of Try.underlying115 (z := .agg #[.int .i64 0, .int .i64 0]) (by kernel_rfl) rfl (by decide) (by decide)
theorem ei_place : EI Try.prog 25 119 10 112 := EI.of Try.underlying25 (z := .agg #[.int .i64 0, .int .i64 0, .int .i64 0, .string ⟨#[]⟩, .int .i64 0, .int .i64 0, .string ⟨#[]⟩, .int .i64 0, .int .i64 0, .slice none 0 0]) (by kernel_rfl) rfl (by decide) (by decide)
end Go.Proofs.Ytejfejckmhoolaa
