/- append onto a row of the call's own, from whatever row, and of one element; over any program. -/
import Derived.Test.YtejfejckmhoolaaBase
import Derived.Maps.AppendAt
import Derived.Deep.AppendLies
import Derived.RegionTactic
import Derived.OwnWalk
import Derived.Laws.CopyOwn
set_option linter.unusedSimpArgs false
set_option linter.unusedVariables false
namespace Go.Proofs.Ytejfejckmhoolaa
open Go.RowKit

/-- The slice type t has the element type e: its cells and bytes. -/
def EI (P : Program) (t e : TypeId) (size bytes : Nat) : Prop :=
  P.underlying t = some (.slice e) ∧ ∃ i z, P.info? e = some i ∧ i.zero = some z ∧ i.size = size ∧ i.bytes = bytes ∧ z.cells.size = size ∧ 0 < size ∧ 0 < bytes
theorem EI.of {P : Program} {t e : TypeId} {z : Value} {size bytes : Nat} (ht : P.underlying t = some (.slice e)) (h : (P.info? e).map (fun i => (i.zero, i.size, i.bytes)) = some (some z, size, bytes))
    (hz : z.cells.size = size) (h0 : 0 < size) (h1 : 0 < bytes) : EI P t e size bytes := by
  obtain ⟨i, a, b, c, d⟩ := info_parts h
  exact ⟨ht, i, z, a, b, c, d, hz, h0, h1⟩

theorem run_append_of_nil {P : Program} {w : World} {base t ty e size n bytes : Nat} (E : EI P t e size bytes) {v : Value} {xs : List Value} (hown : w.ownsRow base e size v n xs) (c : Nat) :
    (Builtin.append_ #[t, t] ty #[v, .slice none 0 c]).run P w = .ok v w := by
  obtain ⟨ht, i, z, hi, -⟩ := E
  rcases hown.2 with ⟨rfl, rfl⟩ | ⟨g, cap, cur, rfl, _, _, hnc, _⟩
  · simp [Builtin.append_, run_underlying ht, sizeOf, typeInfo, hi, Builtin.lenOf, Builtin.firstCells]
  · simp [Builtin.append_, run_underlying ht, sizeOf, typeInfo, hi, Builtin.lenOf, Builtin.firstCells, hnc, storeCells]

theorem le_maxLen {n b : Nat} (hb : 0 < b) (h : n * b ≤ 140737488355328) : n ≤ maxLen := by
  have : n * 1 ≤ n * b := Nat.mul_le_mul_left n hb
  have h2 : (140737488355328 : Nat) ≤ maxLen := by unfold maxLen; omega
  omega

/-- append(own, rows...) -/
theorem run_append_rows {P : Program} {w : World} {base t ty e size bytes : Nat} (E : EI P t e size bytes) {v : Value} {n : Nat} {xs : List Value} (hown : w.ownsRow base e size v n xs)
    {F : Nat → Prop} {Tn : TypeId} {src : Value} {m : Nat} {news : List Value} (hr : Rows w F Tn size src m news) (h1 : ∀ u ∈ news, u.oneCell' = true)
    (hbytes : (n + m) * bytes ≤ 140737488355328) (hbase : base ≤ w.heap.size) :
    ∃ v' w', (Builtin.append_ #[t, t] ty #[v, src]).run P w = .ok v' w' ∧ w'.ownsRow base e size v' (n + m) (xs ++ news) ∧ w.grownBy w' v.ownBlock ∧
      (v'.ownBlock = v.ownBlock ∨ v'.ownBlock = some w.heap.size) := by
  obtain ⟨hl, A, c, rfl, hmc, hc⟩ := hr
  rcases Nat.eq_zero_or_pos m with h0 | h0
  · subst h0
    have hn : news = [] := List.eq_nil_of_length_eq_zero (by simpa using hl)
    subst hn
    cases A with
    | none => exact ⟨v, w, run_append_of_nil E hown c, by simpa using hown, World.grownBy.refl w _, .inl rfl⟩
    | some ad =>
      obtain ⟨ht, i, z, hi, hz, hs, hb, hzs, hs0, hb0⟩ := E
      obtain ⟨v', w', a1, a2, a3, _, a5⟩ := run_append_own_at (P := P) w base t ty e i z size bytes ht hi hz hs hb hzs hs0 v n xs hown ad 0 c [] (by simp) (by simp) (by simp) (le_maxLen hb0 hbytes) hbytes hbase
      exact ⟨v', w', a1, a2, a3, a5⟩
  · obtain ⟨g, off, cs, fr, rfl, _, hh, hcell⟩ := hc h0
    obtain ⟨ht, i, z, hi, hz, hs, hb, hzs, hs0, hb0⟩ := E
    obtain ⟨v', w', a1, a2, a3, _, a5⟩ := run_append_own_at (P := P) w base t ty e i z size bytes ht hi hz hs hb hzs hs0 v n xs hown ⟨g, off, none⟩ m c news hl (fun j u hu => by
      have hj : (⟨g, off, none⟩ : Addr).add j = ⟨g, off + j, none⟩ := by
        by_cases hj0 : j = 0
        · simp [Addr.add, hj0]
        · simp [Addr.add, hj0]
      rw [hj]
      simp [World.cell?, hh, hcell j u hu]) h1 (le_maxLen hb0 hbytes) hbytes hbase
    exact ⟨v', w', a1, a2, a3, a5⟩

theorem wp_append_rows {P : Program} {w : World} {o : Oper} {a : Act} {K : Act → World → Prop} {Q : Exit → Act → World → Prop} (s x : Operand) (t : TypeId)
    (ho : o.op = .call { callee := .builtin .append, args := #[s, x], argTypes := #[t, t] })
    {base e size bytes : Nat} (E : EI P t e size bytes) (v : Value) (n : Nat) (xs : List Value) (hs : a.eval s = v) (hown : w.ownsRow base e size v n xs)
    {F : Nat → Prop} {Tn : TypeId} (src : Value) (m : Nat) (news : List Value) (hx : a.eval x = src) (hr : Rows w F Tn size src m news) (h1 : ∀ u ∈ news, u.oneCell' = true)
    (hbytes : (n + m) * bytes ≤ 140737488355328) (hbase : base ≤ w.heap.size)
    (h : ∀ v' w', w'.ownsRow base e size v' (n + m) (xs ++ news) → w.grownBy w' v.ownBlock → (v'.ownBlock = v.ownBlock ∨ v'.ownBlock = some w.heap.size) → K (a.put o.dst v') w') : o.wp P a w K Q := by
  obtain ⟨v', w', hrun, h2, h3, h4⟩ := run_append_rows (ty := o.type) E hown hr h1 hbytes hbase
  unfold Oper.wp execOp
  simp only [ho, resolve, invoke, builtin, Sem.run_bind, Sem.run_pure, Result.andThen_ok, List.map_toArray, List.map_cons, List.map_nil, hs, hx, hrun]
  exact h v' w' h2 h3 h4

/-- append(own, rows...) in a plain region. -/
theorem wpList_append_rows {P : Program} {w : World} {ops : Array Oper} {rest : List Oper} {o : Oper} {a : Act} {Q : Exit → Act → World → Prop} (hgd : o.guard = none) (s x : Operand) (t : TypeId)
    (ho : o.op = .call { callee := .builtin .append, args := #[s, x], argTypes := #[t, t] })
    {base e size bytes : Nat} (E : EI P t e size bytes) (v : Value) (n : Nat) (xs : List Value) (hs : a.eval s = v) (hown : w.ownsRow base e size v n xs)
    {F : Nat → Prop} {Tn : TypeId} (src : Value) (m : Nat) (news : List Value) (hx : a.eval x = src) (hr : Rows w F Tn size src m news) (h1 : ∀ u ∈ news, u.oneCell' = true)
    (hbytes : (n + m) * bytes ≤ 140737488355328) (hbase : base ≤ w.heap.size)
    (h : ∀ v' w', w'.ownsRow base e size v' (n + m) (xs ++ news) → w.grownBy w' v.ownBlock → (v'.ownBlock = v.ownBlock ∨ v'.ownBlock = some w.heap.size) → wpList P ops Q rest (a.put o.dst v') w') : wpList P ops Q (o :: rest) a w :=
  wpList_plain hgd fun _ hK => wp_append_rows s x t ho E v n xs hs hown src m news hx hr h1 hbytes hbase fun v' w' h2 h3 h4 => hK _ _ (h v' w' h2 h3 h4)

/-- The new block that holds one element. -/
theorem Rows.one (w : World) (F : Nat → Prop) (e : TypeId) (us : List Value) (size : Nat) (hl : us.length = size) (hF : F w.heap.size) (cap : Nat) (hc : 1 ≤ cap) :
    Rows (w.alloc (.cells us.toArray e)) F e size (.slice (some ⟨w.heap.size, 0, none⟩) 1 cap) 1 us :=
  ⟨by simpa using hl, _, cap, rfl, hc, fun _ => ⟨w.heap.size, 0, us.toArray, (0, 0), rfl, hF, heap_alloc_new w _, fun j u hu => by simpa using hu⟩⟩

/-- append(own, x, y, ..): the new elements lie in a new block, of which nothing need be known behind it. -/
theorem wpList_append_lit {P : Program} {w : World} {ops : Array Oper} {rest : List Oper} {o : Oper} {a : Act} {Q : Exit → Act → World → Prop} (hgd : o.guard = none) (s x : Operand) (t : TypeId)
    (ho : o.op = .call { callee := .builtin .append, args := #[s, x], argTypes := #[t, t] })
    {base e size bytes : Nat} (E : EI P t e size bytes) (v : Value) (n : Nat) (xs : List Value) (hs : a.eval s = v) (hown : w.ownsRow base e size v n xs)
    (us : List Value) (m c : Nat) (hx : a.eval x = .slice (some ⟨w.heap.size, 0, none⟩) m c) (hc : m ≤ c) (hl : us.length = m * size) (h1 : ∀ u ∈ us, u.oneCell' = true)
    (hbytes : (n + m) * bytes ≤ 140737488355328) (hbase : base ≤ w.heap.size)
    (h : ∀ v' w', w'.ownsRow base e size v' (n + m) (xs ++ us) → w.grownBy w' v.ownBlock → (v'.ownBlock = v.ownBlock ∨ v'.ownBlock = some (w.heap.size + 1)) → wpList P ops Q rest (a.put o.dst v') w') :
    wpList P ops Q (o :: rest) a (w.alloc (.cells us.toArray e)) := by
  have hr : Rows (w.alloc (.cells us.toArray e)) (fun _ => True) e size (.slice (some ⟨w.heap.size, 0, none⟩) m c) m us :=
    ⟨hl, _, c, rfl, hc, fun _ => ⟨w.heap.size, 0, us.toArray, (0, 0), rfl, trivial, heap_alloc_new w _, fun j u hu => by simpa using hu⟩⟩
  refine wpList_append_rows hgd s x t ho E v n xs hs (hown.alloc _) _ m us hx hr h1 hbytes (by simp; omega) fun v' w' h2 h3 h4 => h v' w' h2 ?_ (by simpa using h4)
  exact ⟨h3.os, h3.tape, h3.output, Nat.le_trans (by simp) h3.size, fun k hk hne => (h3.block k (by simp; omega) hne).trans (Below.heap_alloc _ _ _ hk)⟩

/-- append(own, x) of one element: x lies in a new block, of which nothing need be known behind it. -/
theorem wpList_append_one {P : Program} {w : World} {ops : Array Oper} {rest : List Oper} {o : Oper} {a : Act} {Q : Exit → Act → World → Prop} (hgd : o.guard = none) (s x : Operand) (t : TypeId)
    (ho : o.op = .call { callee := .builtin .append, args := #[s, x], argTypes := #[t, t] })
    {base e size bytes : Nat} (E : EI P t e size bytes) (v : Value) (n : Nat) (xs : List Value) (hs : a.eval s = v) (hown : w.ownsRow base e size v n xs)
    (us : List Value) (c : Nat) (hx : a.eval x = .slice (some ⟨w.heap.size, 0, none⟩) 1 c) (hc : 1 ≤ c) (hl : us.length = size) (h1 : ∀ u ∈ us, u.oneCell' = true)
    (hbytes : (n + 1) * bytes ≤ 140737488355328) (hbase : base ≤ w.heap.size)
    (h : ∀ v' w', w'.ownsRow base e size v' (n + 1) (xs ++ us) → w.grownBy w' v.ownBlock → (v'.ownBlock = v.ownBlock ∨ v'.ownBlock = some (w.heap.size + 1)) → wpList P ops Q rest (a.put o.dst v') w') :
    wpList P ops Q (o :: rest) a (w.alloc (.cells us.toArray e)) := by
  have hr := Rows.one w (fun _ => True) e us size hl trivial c hc
  refine wpList_append_rows hgd s x t ho E v n xs hs (hown.alloc _) _ 1 us hx hr h1 hbytes (by simp; omega) fun v' w' h2 h3 h4 => h v' w' h2 ?_ (by simpa using h4)
  exact ⟨h3.os, h3.tape, h3.output, Nat.le_trans (by simp) h3.size, fun k hk hne => (h3.block k (by simp; omega) hne).trans (Below.heap_alloc _ _ _ hk)⟩

theorem grownBy_setRow (w : World) (g : Nat) (cs : Array Value) : w.grownBy (w.setRow g cs) (some g) := by
  refine ⟨rfl, rfl, rfl, by simp [World.setRow], fun k _ hne => ?_⟩
  have : g ≠ k := fun e => hne (by rw [e])
  simp [World.setRow, Array.getElem?_modify, this]

/-- copy(own, rows) of just as many elements (of one cell) as the own row has. -/
theorem wpList_copy_full {P : Program} {w : World} {ops : Array Oper} {rest : List Oper} {o : Oper} {a : Act} {Q : Exit → Act → World → Prop} (hgd : o.guard = none) (d s : Operand) (t : TypeId)
    (ho : o.op = .call { callee := .builtin .copy, args := #[d, s], argTypes := #[t, t] })
    {base e bytes : Nat} (E : EI P t e 1 bytes) (g cap n : Nat) (xs : List Value) (hd : a.eval d = .slice (some ⟨g, 0, none⟩) n cap) (hown : w.ownsRow base e 1 (.slice (some ⟨g, 0, none⟩) n cap) n xs)
    {F : Nat → Prop} (src : Value) (ys : List Value) (hs : a.eval s = src) (hr : Rows w F e 1 src n ys) (h1 : ∀ u ∈ ys, u.oneCell' = true)
    (h : ∀ w', w'.ownsRow base e 1 (.slice (some ⟨g, 0, none⟩) n cap) n ys → w.grownBy w' (some g) → wpList P ops Q rest (a.put o.dst (goInt n)) w') : wpList P ops Q (o :: rest) a w := by
  obtain ⟨ht, i, z, hi, hz, hsz, -⟩ := E
  have hsz' : (P.info? e).map (·.size) = some 1 := by rw [hi]; simp [hsz]
  obtain ⟨hl, A, c, rfl, hnc, hcell⟩ := hr
  obtain ⟨hxl, hown2⟩ := id hown
  rcases hown2 with ⟨hnil, _⟩ | ⟨g', cap', cur, hv, hb, hh, hncap, hmax, hsize, htake⟩
  · cases hnil
  · injection hv with e1 e2 e3
    injection e1 with e1
    injection e1 with e1
    subst e1 e3
    rcases Nat.eq_zero_or_pos n with h0 | h0
    · subst h0
      have hy : ys = [] := List.eq_nil_of_length_eq_zero (by simpa using hl)
      subst hy
      refine wpList_copy_nothing hgd d s t t ho e ht hsz' (some ⟨g, 0, none⟩) A 0 cap 0 c hd hs (by simp) ?_
      have hx : xs = [] := List.eq_nil_of_length_eq_zero (by simpa using hxl)
      subst hx
      exact h w hown (World.grownBy.refl w _)
    · obtain ⟨sg, off, cs, fr, rfl, _, hsh, hsc⟩ := hcell h0
      have hl' : ys.length = n := by simpa using hl
      refine wpList_copy_own hgd d s t t ho e ht hsz' g 0 n cap ⟨sg, off, none⟩ n c hd hs cur e hh ys (by simp [hl']) (fun j u hu => ?_) (by simp [hl', hsize]; omega) h1 ?_
      · have hj : (⟨sg, off, none⟩ : Addr).add j = ⟨sg, off + j, none⟩ := by
          by_cases hj0 : j = 0
          · simp [Addr.add, hj0]
          · simp [Addr.add, hj0]
        rw [hj]
        simp [World.cell?, hsh, hsc j u hu]
      · rw [hl']
        refine h _ ⟨by simp [hl'], .inr ⟨g, cap, _, rfl, hb, setRow_heap w g _ _ e _ hh, hncap, hmax, ?_, ?_⟩⟩ (grownBy_setRow _ _ _)
        · simp [hl', hsize]
          omega
        · simp [hl']

/-! ### an owned row whose block lies in O -/
theorem own_mono {w : World} {b b' e size n : Nat} {v : Value} {xs : List Value} (h : w.ownsRow b e size v n xs) (hb : b' ≤ b) : w.ownsRow b' e size v n xs := by
  obtain ⟨h1, h2⟩ := h
  refine ⟨h1, ?_⟩
  rcases h2 with h2 | ⟨g, cap, cur, e1, e2, e3⟩
  · exact .inl h2
  · exact .inr ⟨g, cap, cur, e1, by omega, e3⟩
theorem own_form {w : World} {base e size : Nat} {v : Value} {n : Nat} {xs : List Value} (h : w.ownsRow base e size v n xs) : ∃ A c, v = .slice A n c := by
  rcases h.2 with ⟨rfl, rfl⟩ | ⟨g, cap, cur, rfl, _⟩
  · exact ⟨_, _, rfl⟩
  · exact ⟨_, _, rfl⟩
def OwnIn (w : World) (O : Nat → Prop) (e size : Nat) (v : Value) (n : Nat) (xs : List Value) : Prop :=
  w.ownsRow 0 e size v n xs ∧ ∀ g, v.ownBlock = some g → O g
section
variable {w w1 : World} {O O' F : Nat → Prop} {e size n n' : Nat} {v v' : Value} {xs xs' : List Value}
theorem OwnIn.nil (w : World) (O : Nat → Prop) (e size : Nat) : OwnIn w O e size (.slice none 0 0) 0 [] := ⟨World.ownsRow_nil _ _ _ _, fun g h => by simp [Value.ownBlock] at h⟩
theorem OwnIn.of_own {base : Nat} (h : w.ownsRow base e size v n xs) (hO : ∀ g, base ≤ g → g < w.heap.size → O g) : OwnIn w O e size v n xs :=
  ⟨own_mono h (Nat.zero_le _), fun g hg => hO g (h.lt g hg).1 (h.lt g hg).2⟩
theorem OwnIn.form (h : OwnIn w O e size v n xs) : ∃ A c, v = .slice A n c := Go.Proofs.Ytejfejckmhoolaa.own_form h.1
theorem OwnIn.mono (h : OwnIn w O e size v n xs) (hO : ∀ g, g < w.heap.size → O g → O' g) : OwnIn w O' e size v n xs :=
  ⟨h.1, fun g hg => hO g (h.1.lt g hg).2 (h.2 g hg)⟩
theorem OwnIn.keep (h : OwnIn w O e size v n xs) (hk : Keep F w w1) (hF : ∀ g, g < w.heap.size → O g → F g) : OwnIn w1 O e size v n xs := by
  refine ⟨?_, h.2⟩
  obtain ⟨⟨b1, b2⟩, hO⟩ := h
  refine ⟨b1, ?_⟩
  rcases b2 with b2 | ⟨g, cap, cur, e1, e2, e3, e4⟩
  · exact .inl b2
  · refine .inr ⟨g, cap, cur, e1, e2, ?_, e4⟩
    rw [hk.block g (heap_lt e3) (hF g (heap_lt e3) (hO g (by rw [e1]; rfl)))]
    exact e3
/-- Behind an append onto it. -/
theorem OwnIn.step (h : OwnIn w O e size v n xs) (hnew : ∀ g, w.heap.size ≤ g → O g) (hown : w1.ownsRow 0 e size v' n' xs') (hg : w.grownBy w1 v.ownBlock)
    (hb : v'.ownBlock = v.ownBlock ∨ ∃ g, v'.ownBlock = some g ∧ w.heap.size ≤ g) : OwnIn w1 O e size v' n' xs' ∧ Keep (fun g => ¬ O g) w w1 := by
  refine ⟨⟨hown, fun g hv => ?_⟩, Keep.of_grown hg (fun g _ hf e => hf (h.2 g e))⟩
  rcases hb with hb | ⟨g', hb, hs⟩
  · exact h.2 g (by rw [← hb]; exact hv)
  · rw [hb] at hv
    injection hv with hv
    subst hv
    exact hnew _ hs
theorem tyOf_of {w : World} {g : Nat} {cs : Array Value} {t : TypeId} {fr : Nat × Nat} (h : w.heap[g]? = some (.cells cs t fr)) : tyOf w g = some t := by
  simp [tyOf, World.shape?, h]
/-- An append onto a row of elements of type e changes no block of another type. -/
theorem OwnIn.keepTy (h : OwnIn w O e size v n xs) (hg : w.grownBy w1 v.ownBlock) : Keep (fun g => tyOf w g ≠ some e) w w1 :=
  Keep.of_grown hg (fun g _ hf he => by
    rcases h.1.2 with ⟨rfl, _⟩ | ⟨g', cap, cur, rfl, _, hh, _⟩
    · simp [Value.ownBlock] at he
    · injection he with he
      simp only at he
      subst he
      exact hf (tyOf_of hh))
theorem OwnIn.rows (h : OwnIn w O e size v n xs) : Rows w O e size v n xs := by
  have h1 := Rows.of_own h.1
  obtain ⟨a, A, cap, rfl, c, d⟩ := h1
  refine ⟨a, A, cap, rfl, c, fun hn => ?_⟩
  obtain ⟨g, off, cs, fr, rfl, _, e3, e4⟩ := d hn
  exact ⟨g, off, cs, fr, rfl, h.2 g rfl, e3, e4⟩
theorem OwnIn.to_own (h : OwnIn w O e size v n xs) {base : Nat} (hO : ∀ g, O g → base ≤ g) : w.ownsRow base e size v n xs := by
  obtain ⟨⟨b1, b2⟩, ho⟩ := h
  refine ⟨b1, ?_⟩
  rcases b2 with b2 | ⟨g, cap, cur, e1, e2, e3, e4⟩
  · exact .inl b2
  · exact .inr ⟨g, cap, cur, e1, hO g (ho g (by rw [e1]; rfl)), e3, e4⟩
end
end Go.Proofs.Ytejfejckmhoolaa
