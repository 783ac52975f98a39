/- The iterator over a version's tables. -/
import Derived.RangeFuncNested
import Derived.RangeFuncBound
import Derived.RangeFuncCalls
import Derived.RangeFuncLeaves
import Derived.Shelf.Abstract
import Derived.WalkKit
import Derived.OwnWalkIn
import Derived.TacticsInMore
import Derived.LoopNIn
import Derived.LoopIn
import Derived.Test.YtejfejckmhoolaaMeta
import Derived.Test.YtejfejckmhoolaaRBytes
set_option linter.unusedSimpArgs false
set_option linter.unusedVariables false
namespace Go.Proofs.Ytejfejckmhoolaa
open Go.RowKit Go.Shelf
attribute [local go_sem] Oper.semAt_some

section
variable {F : Fence} {n : Nat} {P : Program} {b : Frame} {a : Act} {k : List Item} {cs : List Frame} {w : World} {Q : Exit → Act → World → Prop}
theorem stepR_scope {c : Code} : step P (lone (b.atR a (.code (.scope c) :: k)) cs w) = .next (lone (b.atR a (.code c :: .inScope c :: k)) cs w) :=
  step_lone_go (by simp [stepG, stepG.exec, Frame.atR])
theorem stepR_inScope {c : Code} : step P (lone (b.atR a (.inScope c :: k)) cs w) = .next (lone (b.atR a k) cs w) :=
  step_lone_go (by simp [stepG, stepG.exec, Frame.atR])
theorem wpIn_scope_straight {c : Code} (h : c.wpIn F n P (Exit.noGoto Q) a w) : (Code.scope c).wpIn F n P Q a w := by
  intro b k cs hro hb hr
  have h0 : (lone (b.atR a (.code (.scope c) :: k)) cs w).fenced P F := fenced_calm hb hr rfl
  obtain ⟨e, a₁, w₁, hq, harr⟩ := h b (.inScope c :: k) cs hro hb hr
  cases e with
  | normal => exact ⟨.normal, a₁, w₁, hq, .head h0 stepR_scope (StepsIn.trans harr (.one (fenced_calm hb hr rfl) stepR_inScope))⟩
  | exit id =>
    have hx : exitTo id (.inScope c :: k) = exitTo id k := by simp [exitTo]
    exact ⟨.exit id, a₁, w₁, hq, fun k' hk => .head h0 stepR_scope (harr.1 k' (by rw [hx]; exact hk)),
      fun hr' hk => let ⟨k₁, h1, h2⟩ := harr.2 hr' (by rw [hx]; exact hk); ⟨k₁, h1, .head h0 stepR_scope h2⟩⟩
  | goto l => exact hq.elim
  | ret => exact ⟨_, a₁, w₁, hq, .of_steps (.one h0 stepR_scope) harr⟩
  | panic ch => exact ⟨_, a₁, w₁, hq, .of_steps (.one h0 stepR_scope) harr⟩
  | outgrown => exact ⟨_, a₁, w₁, hq, .of_steps (.one h0 stepR_scope) harr⟩
end

abbrev MT := Meta × Option Addr × Nat
def rvOf (p : MT) : Value := .slice p.2.1 p.1.refs.length p.2.2
abbrev Lvl := List MT
def mtCells (p : MT) : List Value := metaCells p.1 (rvOf p)
def RdLvl (w : World) (F : Nat → Prop) (v : Value) (l : Lvl) : Prop := Rows w F 117 9 v l.length (l.flatMap mtCells) ∧ ∀ p, p ∈ l → RdRefs w F 122 (rvOf p) p.1.refs ∧ p.1.refs.length ≤ 1000
theorem RdLvl.keep {w w' : World} {F G : Nat → Prop} {v : Value} {l : Lvl} (h : RdLvl w F v l) (hk : Keep G w w') (hG : ∀ g, g < w.heap.size → F g → G g) : RdLvl w' F v l :=
  ⟨Rows.keep h.1 hk (fun g hg hf _ => hG g hg hf), fun p hp => ⟨Rows.keep (h.2 p hp).1 hk (fun g hg hf _ => hG g hg hf), (h.2 p hp).2⟩⟩
def flatFrom : Nat → List Lvl → List (Nat × MT)
  | _, [] => []
  | k, l :: L => l.map (fun p => (k, p)) ++ flatFrom (k + 1) L
def encMT (x : Nat × MT) : Array Value := #[.int .i64 (x.1 : Int), .agg (mtCells x.2).toArray]
def RdVer (w : World) (F : Nat → Prop) (vs : Array Value) (L : List Lvl) : Prop :=
  ∃ s0 s1 s2 s3 l0 l1 l2 l3, vs = #[s0, s1, s2, s3] ∧ L = [l0, l1, l2, l3] ∧ RdLvl w F s0 l0 ∧ RdLvl w F s1 l1 ∧ RdLvl w F s2 l2 ∧ RdLvl w F s3 l3 ∧
    l0.length ≤ 1000000 ∧ l1.length ≤ 1000000 ∧ l2.length ≤ 1000000 ∧ l3.length ≤ 1000000
theorem flatFrom_snoc (L : List Lvl) (l : Lvl) : ∀ k, flatFrom k (L ++ [l]) = flatFrom k L ++ l.map (fun p => (k + L.length, p)) := by
  induction L with
  | nil => intro k; simp [flatFrom]
  | cons x L ih => intro k; simp [flatFrom, ih]; intros; omega

theorem flatFrom_split (L : List Lvl) : ∀ (k s : Nat) (l : Lvl), L[k]? = some l → flatFrom s L = flatFrom s (L.take k) ++ (l.map (fun p => (s + k, p)) ++ flatFrom (s + k + 1) (L.drop (k + 1))) := by
  induction L with
  | nil => intro k s l h; simp at h
  | cons x L ih =>
    intro k s l h
    cases k with
    | zero =>
      simp only [List.getElem?_cons_zero, Option.some.injEq] at h
      subst h
      simp [flatFrom]
    | succ k =>
      simp only [List.getElem?_cons_succ] at h
      have h1 := ih k (s + 1) l h
      simp only [flatFrom, List.take_succ_cons, List.drop_succ_cons]
      rw [h1, List.append_assoc, show s + 1 + k = s + (k + 1) by omega]
theorem flatFrom_take_succ {L : List Lvl} {k : Nat} {l : Lvl} (h : L[k]? = some l) : flatFrom 0 (L.take (k + 1)) = flatFrom 0 (L.take k) ++ l.map (fun p => (k, p)) := by
  have hk : k < L.length := by
    rcases Nat.lt_or_ge k L.length with h1 | h1
    · exact h1
    · rw [List.getElem?_eq_none h1] at h; cases h
  rw [List.take_add_one, h]
  simp only [Option.toList_some]
  rw [flatFrom_snoc, List.length_take, Nat.min_eq_left (by omega), Nat.zero_add]
theorem RdVer.at_ {w : World} {F : Nat → Prop} {vs : Array Value} {L : List Lvl} (h : RdVer w F vs L) {k : Nat} (hk : k < 4) :
    ∃ A n c l, L[k]? = some l ∧ n = l.length ∧ n ≤ 1000000 ∧ n ≤ c ∧ RdLvl w F (.slice A n c) l ∧ ∀ w', (Instr.index 90 (.agg vs) (.int .i64 (k : Int))).run Try.prog w' = .ok (.slice A n c) w' := by
  obtain ⟨s0, s1, s2, s3, l0, l1, l2, l3, rfl, rfl, h0, h1, h2, h3, b0, b1, b2, b3⟩ := h
  have key : ∀ {v : Value} {l : Lvl}, RdLvl w F v l → ∃ A n c, v = .slice A n c ∧ n = l.length ∧ n ≤ c := fun hr => by
    obtain ⟨⟨_, A, c, e, hc, _⟩, _⟩ := hr
    exact ⟨A, _, c, e, rfl, hc⟩
  obtain ⟨A0, n0, c0, rfl, e0, g0⟩ := key h0
  obtain ⟨A1, n1, c1, rfl, e1, g1⟩ := key h1
  obtain ⟨A2, n2, c2, rfl, e2, g2⟩ := key h2
  obtain ⟨A3, n3, c3, rfl, e3, g3⟩ := key h3
  match k, hk with
  | 0, _ => exact ⟨A0, n0, c0, l0, rfl, e0, by omega, g0, h0, fun _ => by kernel_rfl⟩
  | 1, _ => exact ⟨A1, n1, c1, l1, rfl, e1, by omega, g1, h1, fun _ => by kernel_rfl⟩
  | 2, _ => exact ⟨A2, n2, c2, l2, rfl, e2, by omega, g2, h2, fun _ => by kernel_rfl⟩
  | 3, _ => exact ⟨A3, n3, c3, l3, rfl, e3, by omega, g3, h3, fun _ => by kernel_rfl⟩
theorem RdVer.keep {w w' : World} {F G : Nat → Prop} {vs : Array Value} {L : List Lvl} (h : RdVer w F vs L) (hk : Keep G w w') (hG : ∀ g, g < w.heap.size → F g → G g) : RdVer w' F vs L := by
  obtain ⟨s0, s1, s2, s3, l0, l1, l2, l3, rfl, rfl, h0, h1, h2, h3, hb⟩ := h
  exact ⟨s0, s1, s2, s3, l0, l1, l2, l3, rfl, rfl, h0.keep hk hG, h1.keep hk hG, h2.keep hk hG, h3.keep hk hG, hb⟩

set_option maxRecDepth 100000 in
set_option maxHeartbeats 4000000 in
theorem all1_in (F : Fence) (n : Nat) (h6 : F.fn 125) (hro : F.round = none) (hn : 1 ≤ n) (l Bn vb n₀ : Nat) (vs : Array Value) (L : List Lvl) (J Jx : List (Nat × MT) → World → Prop)
    (hY : ∀ pre x W, J pre W → pre.length < (flatFrom 0 L).length → YieldAt F (n - 1) Try.prog l (encMT x) W fun e W' =>
      (e = .returned (.bool true) ∧ J (pre ++ [x]) W' ∧ Below n₀ W W') ∨ (e = .returned (.bool false) ∧ Jx (pre ++ [x]) W'))
    (W : World) (hJ : AbidesFrom W.heap.size J) (hBn : W.cell? ⟨Bn, 0, none⟩ = some (.pointer (some ⟨vb, 0, none⟩))) (hvb : W.heap[vb]? = some (.cells vs 92 (0, 0))) (hn₀ : n₀ ≤ W.heap.size) (hL : RdVer W (· < n₀) vs L) (h0 : J [] W) :
    CallsIn F n Try.prog 125 #[.func (.yield l) #[] #[], .pointer (some ⟨Bn, 0, none⟩)] W fun e W' => (∃ v, e = .returned v) ∧
      ((∃ ys, ys = flatFrom 0 L ∧ J ys W') ∨ (∃ pre, pre <+: flatFrom 0 L ∧ Jx pre W')) := by
  have hvl := heap_lt hvb
  have HL := Lib.hid hL
  have hL4 : L.length = 4 := by obtain ⟨_, _, _, _, _, _, _, _, _, rfl, _⟩ := hL; rfl
  obtain ⟨s0, s1, s2, s3, hvs⟩ : ∃ s0 s1 s2 s3, vs = #[s0, s1, s2, s3] := by
    obtain ⟨s0, s1, s2, s3, _, _, _, _, rfl, _⟩ := hL
    exact ⟨s0, s1, s2, s3, rfl⟩
  subst hvs
  have v0 := cell_of_block hvb 0
  have v1 := cell_of_block hvb 1
  have v2 := cell_of_block hvb 2
  have v3 := cell_of_block hvb 3
  simp at v0 v1 v2 v3
  have HL4 := Lib.hid hL4
  clear hL hvb hL4
  refine callsIn_of_wp Try.func125 rfl h6 ?_ hro
  simp only [Try.ntmps125, List.size_toArray, List.length_cons, List.length_nil, Nat.reduceAdd, Nat.reduceSub, Array.replicate_succ, Array.replicate_zero, List.push_toArray, List.append_toArray, List.nil_append, List.cons_append]
  gi_wp2
  refine wpIn_scope_straight ?_
  gi_wp2
  refine wpIn_label ?_
  gi_wp2
  gi_loopw [11] (fun i wr => ∃ k : Nat, k ≤ 4 ∧ i = .int .i64 k ∧ J (flatFrom 0 (L.take k)) wr ∧ Below n₀ W wr) (fun i _ => 4 - (intOf i).toNat)
  case atStart => exact ⟨0, by omega, rfl, by simpa [flatFrom] using h0, Below.refl _ _⟩
  case round =>
    obtain ⟨k, hk, rfl, hj, hb⟩ := hrel
    obtain ⟨wo, rfl⟩ : ∃ w2 : World, w2 = wr := ⟨_, rfl⟩
    by_cases hlt : k < 4
    · obtain ⟨A, n1, c1, lk, hlk, hn1, hn2, hc1, hrow, hidx⟩ := HL.out.at_ hlt
      have HN1 := Lib.hid hn1
      have HROW := Lib.hid hrow
      have HLK := Lib.hid hlk
      have HJ := Lib.hid hj
      clear hn1 hrow hlk hj v0 v1 v2 v3
      have hd4 : decide ((k : Int) < 4) = true := decide_eq_true (by omega)
      gi_wp2
      gi_loopw [17] (fun i wr => ∃ j : Nat, j ≤ n1 ∧ i = .int .i64 j ∧ J (flatFrom 0 (L.take k) ++ (lk.take j).map (fun p => (k, p))) wr ∧ Below n₀ W wr) (fun i _ => n1 - (intOf i).toNat)
      case atStart => exact ⟨0, by omega, rfl, by simpa using HJ.out, hb⟩
      case round =>
        obtain ⟨j, hjn, rfl, hj, hb2⟩ := hrel
        obtain ⟨wq, rfl⟩ : ∃ w2 : World, w2 = wr := ⟨_, rfl⟩
        by_cases hlt2 : j < n1
        · obtain ⟨⟨m, RA, rc⟩, hp⟩ : ∃ p, lk[j]? = some p := ⟨lk[j]'(by have := HN1.out; omega), List.getElem?_eq_getElem _⟩
          have hrl := (HROW.out.keep (Keep.of_below hb2 (F := (· < n₀)) (fun g _ hf => hf)) (fun g _ hf => hf))
          obtain ⟨g, off, cap2, eA, _, hgF, hgl, hel⟩ := hrl.1.elems (f := mtCells) (fun x => rfl) (by decide) rfl (by have := HN1.out; omega)
          have eA2 : A = some ⟨g, off, none⟩ := by injection eA
          subst eA2
          obtain ⟨zn, ln, ⟨su, ss, sd⟩, ⟨lu, ls, ld⟩, rf⟩ := m
          have e0 := hel j _ hp 0 _ rfl
          have e1 := hel j _ hp 1 _ rfl
          have e2 := hel j _ hp 2 _ rfl
          have e3 := hel j _ hp 3 _ rfl
          have e4 := hel j _ hp 4 _ rfl
          have e5 := hel j _ hp 5 _ rfl
          have e6 := hel j _ hp 6 _ rfl
          have e7 := hel j _ hp 7 _ rfl
          have e8 := hel j _ hp 8 _ rfl
          rw [Nat.add_zero] at e0
          rw [← Nat.add_assoc] at e1 e2 e3 e4 e5 e6 e7 e8
          simp only [rvOf] at e0 e1 e2 e3 e4 e5 e6 e7 e8
          have hsp := flatFrom_split L k 0 lk HLK.out
          rw [Nat.zero_add] at hsp
          have htk := take_succ_of (show lk[j]? = some _ from hp)
          have hja := hJ _ _ _ none hj (World.grownBy_alloc wq (.cells #[.int .i64 zn, .int .i64 ln, .string su, .int .i64 ss, .int .i64 sd, .string lu, .int .i64 ls, .int .i64 ld, .slice RA rf.length rc] 117) none) (fun r e => by cases e)
          obtain ⟨fn, tmps, assign, body, hy, hR⟩ := hY _ (k, (⟨zn, ln, ⟨su, ss, sd⟩, ⟨lu, ls, ld⟩, rf⟩, RA, rc)) _ hja (by rw [hsp]; have := HN1.out; simp; omega)
          simp only [encMT, mtCells, metaCells, rvOf] at hy
          have hba : Below n₀ W (wq.alloc (.cells #[.int .i64 zn, .int .i64 ln, .string su, .int .i64 ss, .int .i64 sd, .string lu, .int .i64 ls, .int .i64 ld, .slice RA rf.length rc] 117)) := hb2.alloc (Nat.le_trans hn₀ hb2.size) _
          have HBA := Lib.hid hba
          have HTK := Lib.hid htk
          have HSP := Lib.hid hsp
          clear hel hp eA hrl htk hsp hba
          gi_wp2
          refine hR.mono ?_
          rintro e W3 (⟨rfl, hJ3, hk3⟩ | ⟨rfl, hJx3⟩)
          · have HJ3 := Lib.hid hJ3
            clear hJ3 hy hR
            gi_wp2
            refine ⟨⟨j + 1, by omega, by simp, ?_, HBA.out.trans hk3⟩, by simp [intOf]; omega⟩
            rw [HTK.out]
            simpa using HJ3.out
          · have HJX := Lib.hid hJx3
            clear hJx3 hy hR
            gi_wp2
            rw [Exit.noGoto_normal]
            go_end0
            refine ⟨⟨_, rfl⟩, .inr ⟨_, ?_, HJX.out⟩⟩
            rw [HSP.out, List.append_assoc, ← List.map_singleton (f := fun p => (k, p)), ← List.map_append, ← HTK.out]
            refine (List.prefix_append_right_inj _).2 ?_
            exact (List.IsPrefix.map _ (List.take_prefix _ _)).trans (List.prefix_append _ _)
        · have hjn2 : lk.take j = lk := List.take_of_length_le (by have := HN1.out; omega)
          rw [hjn2, ← flatFrom_take_succ HLK.out] at hj
          have HJ2 := Lib.hid hj
          have hjz : ¬ (j : Int) < n1 := by omega
          clear hjn2 hj
          gi_wp2
          exact ⟨⟨k + 1, by omega, by simp, HJ2.out, hb2⟩, by simp [intOf]; omega⟩
    · obtain rfl : k = 4 := by omega
      rw [List.take_of_length_le (by have := HL4.out; omega)] at hj
      have HJ2 := Lib.hid hj
      clear hj
      gi_wp2
      rw [Exit.noGoto_normal]
      go_end0
      exact ⟨⟨_, rfl⟩, .inl ⟨_, rfl, HJ2.out⟩⟩

/-- all hands back a function value that goes through the tables. -/
theorem all_stops (F : Fence) (n : Nat) (h6 : F.fn 125) (hro : F.round = none) (hn : 1 ≤ n) (Bn vb n₀ : Nat) (vs : Array Value) (L : List Lvl) (w : World) (hBn : Bn < w.heap.size) (hn₀ : n₀ ≤ w.heap.size)
    (hc : w.cell? ⟨Bn, 0, none⟩ = some (.pointer (some ⟨vb, 0, none⟩))) (hvb : w.heap[vb]? = some (.cells vs 92 (0, 0))) (hL : RdVer w (· < n₀) vs L) :
    SeqStopsK F n Try.prog 125 #[.pointer (some ⟨Bn, 0, none⟩)] encMT (Below n₀) (fun ys => ys = flatFrom 0 L) (fun pre => pre <+: flatFrom 0 L) (flatFrom 0 L).length w := fun l J Jx W hW hJ _ hY h0 =>
  all1_in F n h6 hro hn l Bn vb n₀ vs L J Jx hY W hJ ((hW.cell (p := ⟨Bn, 0, none⟩) hBn).trans hc) ((hW.block vb (heap_lt hvb)).trans hvb) (Nat.le_trans hn₀ hW.size) (hL.keep (Keep.of_below hW (F := (· < w.heap.size)) (fun g _ hf => hf)) (fun g hg _ => hg)) h0

theorem all_any (a : Option Addr) (w : World) : Calls Try.prog 96 #[.pointer a] w fun e w' => e = .returned (.func (.func 125) #[] #[.pointer (some ⟨w.heap.size, 0, none⟩)]) ∧ w' = w.alloc (.cells #[.pointer a] 211) := by
  go_enter Try.func96, Try.ntmps96
  go_wp2
  go_ret
  exact ⟨rfl, rfl⟩
end Go.Proofs.Ytejfejckmhoolaa
