/- The document's bytes of a list and of a record. -/
import Derived.Test.YtejfejckmhoolaaRight2
import Derived.Test.YtejfejckmhoolaaKBytes
set_option linter.unusedSimpArgs false
set_option linter.unusedVariables false
namespace Go.Proofs.Ytejfejckmhoolaa
open Go.RowKit

/-- Own bytes, beyond W's heap. -/
structure OB (W w : World) (A : Option Addr) (c n : Nat) (l : Byts) (B : Nat) : Prop where
  own : w.ownsRow W.heap.size 5 1 (.slice A n c) n (l.map byteV)
  below : Below W.heap.size W w
  le : n ≤ B
section
variable {W w w' : World} {A : Option Addr} {c n B : Nat} {l : Byts}
theorem own_far {base e size m : Nat} {v : Value} {xs : List Value} (h : w.ownsRow base e size v m xs) (hb : Below w.heap.size w w') : w'.ownsRow base e size v m xs := by
  obtain ⟨b1, b2⟩ := h
  refine ⟨b1, ?_⟩
  rcases b2 with b2 | ⟨g, cap, cur, e1, e2, e3, e4⟩
  · exact .inl b2
  · exact .inr ⟨g, cap, cur, e1, e2, (hb.block g (heap_lt e3)).trans e3, e4⟩
theorem OB.call (h : OB W w A c n l B) (hb : Below w.heap.size w w') : OB W w' A c n l B :=
  ⟨own_far h.own hb, h.below.trans (hb.mono h.below.size), h.le⟩
theorem OB.app (h : OB W w A c n l B) {p : Byts} {m q : Nat} {v' : Value} (hown : w'.ownsRow W.heap.size 5 1 v' (n + m) (l.map byteV ++ p.map byteV)) (hg : w.grownBy w' (Value.slice A n c).ownBlock) (hm : m ≤ q) :
    ∃ A' c' n', v' = .slice A' n' c' ∧ OB W w' A' c' n' (l ++ p) (B + q) := by
  obtain ⟨A', c', rfl⟩ := own_form hown
  refine ⟨A', c', n + m, rfl, ⟨by rw [List.map_append]; exact hown, h.below.grown hg h.below.size (fun k hk => (h.own.lt k hk).1), by have := h.le; omega⟩⟩
theorem OB.far (h : OB W w A c n l B) {M : Nat} {cs : Array Value} {T : TypeId} {fr : Nat × Nat} (hM : w.heap[M]? = some (.cells cs T fr)) (hT : T ≠ 5) (hg : w.grownBy w' (Value.slice A n c).ownBlock) : w'.heap[M]? = some (.cells cs T fr) := by
  refine (hg.block M (heap_lt hM) (fun e => ?_)).trans hM
  rcases h.own.2 with ⟨h1, _⟩ | ⟨g, cap, cur, e1, _, e3, _⟩
  · rw [h1] at e
    simp [Value.ownBlock] at e
  · rw [e1] at e
    simp [Value.ownBlock] at e
    subst e
    rw [hM] at e3
    injection e3 with e3
    injection e3 with _ e3
    exact hT e3
theorem OB.nil (W : World) : OB W W none 0 0 [] 0 := ⟨World.ownsRow_nil _ _ _ _, Below.refl _ _, Nat.le_refl _⟩
theorem OB.post (h : OB W w A c n l B) : OwnPost W l (.returned (.slice A n c)) w := by
  have h1 : n = l.length := by have := h.own.1; simpa using this.symm
  refine ⟨_, rfl, ?_, h.below⟩
  have h2 := h.own
  subst h1
  exact h2
theorem OB.of (hb : Below w.heap.size w w') {v : Value} (h : w'.ownsRow w.heap.size 5 1 v l.length (l.map byteV)) (hl : l.length ≤ B) : ∃ A c n, v = .slice A n c ∧ OB w w' A c n l B := by
  obtain ⟨A, c, rfl⟩ := own_form h
  exact ⟨A, c, _, rfl, h, hb, hl⟩
end

def numsEnc (zs : List Int) : Byts := zs.flatMap fun z => numEnc z.toNat
def listEnc (zs : List Int) : Byts := numEnc zs.length ++ numsEnc zs
theorem numsEnc_snoc (zs : List Int) (z : Int) : numsEnc (zs ++ [z]) = numsEnc zs ++ numEnc z.toNat := by simp [numsEnc]
theorem take_succ_of {α : Type} {l : List α} {k : Nat} {x : α} (h : l[k]? = some x) : l.take (k + 1) = l.take k ++ [x] := by
  rw [List.take_add_one, h]; rfl

set_option maxRecDepth 100000 in
set_option maxHeartbeats 1000000 in
theorem rlist_any (w : World) (F : Nat → Prop) (v : Value) (zs : List Int) (h : Ints w F v zs) (hz : ∀ (k : Nat) (z : Int), zs[k]? = some z → 0 ≤ z ∧ z < 64) (hl : zs.length ≤ 64) :
    Calls Try.prog 53 #[v] w (OwnPost w (listEnc zs)) := by
  have HZ := Lib.hid hz
  obtain ⟨_, A, cap, rfl, hcap, _⟩ := id h
  have HI := Lib.hid (Rows.mono h (G := fun g => g < w.heap.size) (fun g hg _ => hg))
  clear h hz
  obtain ⟨n, hn⟩ : ∃ n, Hid (n = zs.length) := ⟨_, rfl⟩
  rw [← hn.out] at hl hcap HI ⊢
  have hpost : Hid (listEnc zs = numEnc n ++ numsEnc zs) := by unfold Hid listEnc; rw [hn.out]
  go_enter Try.func53, Try.ntmps53
  go_wp2_with fail
  refine (refNumber_any n (by omega) w).mono ?_
  rintro e w1 ⟨pv, rfl, hp, hb⟩
  obtain ⟨PA, PC, PN, rfl, hob⟩ := OB.of (B := 20) hb hp (numEnc_len n (by omega))
  have HOB := Lib.hid hob
  clear hp hb hob
  go_wp2_with fail
  go_loopw [3, 4] (fun v i wr => ∃ (k : Nat) (A c m B : _), i = .int .i64 k ∧ k ≤ n ∧ v = .slice A m c ∧ B = 20 + 20 * k ∧ OB w wr A c m (numEnc n ++ numsEnc (zs.take k)) B) (fun _ i _ => n - (intOf i).toNat)
  case atStart => exact ⟨0, _, _, _, _, rfl, by omega, rfl, rfl, by simpa [numsEnc] using HOB.out⟩
  case round =>
    obtain ⟨k, A2, c2, m2, B2, rfl, hk, rfl, hB, hob⟩ := hrel
    have HO := Lib.hid hob
    clear hob HOB
    by_cases hlt : k < n
    · obtain ⟨z, hzk⟩ : ∃ z, zs[k]? = some z := ⟨zs[k]'(by have := hn.out; omega), List.getElem?_eq_getElem _⟩
      obtain ⟨hz0, hz1⟩ := HZ.out k z hzk
      have hne : zs ≠ [] := by
        rintro rfl
        simp at hzk
      have htk := take_succ_of hzk
      obtain ⟨zn, rfl⟩ := Int.eq_ofNat_of_zero_le hz0
      have hrw : Ints wr (fun g => g < w.heap.size) (.slice A n cap) zs := Rows.keep (by have h2 := HI.out; rw [hn.out] at h2 ⊢; exact h2) (Keep.of_below HO.out.below (F := fun g => g < w.heap.size) (fun g _ hf => hf)) (fun _ _ hf _ => hf)
      obtain ⟨g, off, cap2, eA, _, _, _, hel⟩ := hrw.cells hne
      have eA2 : A = some ⟨g, off, none⟩ := by injection eA
      subst eA2
      have e0 := hel k _ hzk
      have HTK := Lib.hid htk
      clear hel eA hne hrw hzk htk
      go_wp2_with fail
      have plen := numEnc_len zn (by omega)
      (refine (refNumber_any zn (by omega) _).mono ?_; rintro e wb ⟨pv, rfl, hp, hb⟩; obtain ⟨PA, PC, rfl⟩ := own_form hp; have hpl : (numEnc zn).length ≤ 20 := plen; clear plen; obtain ⟨pm, hpm⟩ : ∃ pm, Hid (pm = (numEnc zn).length) := ⟨_, rfl⟩; rw [← hpm.out] at hp hpl ⊢; have H1 := Lib.hid (HO.out.call hb); have HPI := Lib.hid hp; have hle := H1.out.le; have hsz := H1.out.below.size; clear hp HO)
      clear e0
      go_wp2_with (at_builtin; refine wpList_append_rows rfl (.tmp 14) (.tmp 19) _ rfl ei_u8 (.slice A2 m2 c2) m2 _ rfl H1.out.own (.slice PA pm PC) pm _ rfl (Rows.of_own HPI.out) (bytes_one (numEnc zn)) (by omega) (by omega) ?_; intro v' w2 hown2 hg2 _; obtain ⟨A3, c3, m3, rfl, hb2⟩ := H1.out.app hown2 hg2 hpl; have H2 := Lib.hid hb2; clear hb2)
      refine ⟨⟨k + 1, _, _, _, _, by simp, by omega, rfl, rfl, ?_⟩, by simp [intOf]; omega⟩
      have h2 := H2.out
      rw [List.append_assoc] at h2
      rw [HTK.out, numsEnc_snoc, show 20 + 20 * (k + 1) = B2 + 20 by omega]
      exact h2
    · have hkn : ¬ (k : Int) < n := by omega
      have hkk : zs.take k = zs := List.take_of_length_le (by have := hn.out; omega)
      have ho := HO.out
      rw [hkk] at ho
      have HO2 := Lib.hid ho
      clear hkk ho HO hB
      go_wp2_with fail
      go_ret
      rw [hpost.out]
      exact HO2.out.post
end Go.Proofs.Ytejfejckmhoolaa
