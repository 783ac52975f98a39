/- The order of keys: strings.Compare, cmp.Compare, cmp.Or, Key.Cmp; the reference's order and Cmp. -/
import Derived.Test.YtejfejckmhoolaaKey
import Derived.Lib.Bytealg
import Derived.Deep.RegionHeld3
set_option linter.unusedSimpArgs false
set_option linter.unusedVariables false
namespace Go.Proofs.Ytejfejckmhoolaa
open Go.RowKit

/-- An int comes back; the world is as it was. -/
abbrev IntSame (w : World) (n : Int) (e : Ending) (w' : World) : Prop := IntPost w n e w'

set_option maxRecDepth 100000 in
theorem compareString_any (a b : ByteArray) (w : World) : Calls Try.prog 141 #[.string a, .string b] w (IntPost w (Lib.compareBytes a.data.toList b.data.toList)) := by
  go_enter Try.func141, Try.ntmps141
  go_wp2_with fail
  rw [run_callFunc_extern Try.func159 (by kernel_rfl) (by kernel_rfl) (by kernel_rfl) (e := Extern.BytealgCompare.compare) (by kernel_rfl), Lib.run_compareString]
  simp only [Result.andThen]
  rw [Oper.upon_value]
  go_wp2
  go_ret
  exact ⟨rfl, rfl⟩
theorem stringsCompare_any (a b : ByteArray) (w : World) : Calls Try.prog 120 #[.string a, .string b] w (IntPost w (Lib.compareBytes a.data.toList b.data.toList)) := by
  go_enter Try.func120, Try.ntmps120
  go_wp2_with (go_at_call 141; refine (compareString_any a b _).mono ?_; rintro e w' ⟨rfl, rfl⟩)
  go_ret
  exact ⟨rfl, rfl⟩

def cmpInt (x y : Int) : Int := if x < y then -1 else if y < x then 1 else 0
theorem cmpCompare_any (x y : Int) (w : World) : Calls Try.prog 121 #[.int .i64 x, .int .i64 y] w (IntPost w (cmpInt x y)) := by
  obtain ⟨n, hn⟩ : ∃ n, Hid (n = cmpInt x y) := ⟨_, rfl⟩
  rw [← hn.out]
  have hn2 := hn.out
  unfold cmpInt at hn2
  by_cases h1 : x < y
  · rw [if_pos h1] at hn2
    subst hn2
    clear hn
    go_enter Try.func121, Try.ntmps121
    go_wp2
    go_ret
    exact ⟨rfl, rfl⟩
  · by_cases h2 : y < x
    · rw [if_neg h1, if_pos h2] at hn2
      subst hn2
      clear hn
      go_enter Try.func121, Try.ntmps121
      go_wp2
      go_ret
      exact ⟨rfl, rfl⟩
    · rw [if_neg h1, if_neg h2] at hn2
      subst hn2
      clear hn
      go_enter Try.func121, Try.ntmps121
      go_wp2
      go_ret
      exact ⟨rfl, rfl⟩

def orInts : List Int → Int
  | [] => 0
  | z :: zs => if z = 0 then orInts zs else z
def intV (z : Int) : Value := .int .i64 z
def Ints (w : World) (F : Nat → Prop) (v : Value) (zs : List Int) : Prop := Rows w F 3 1 v zs.length (zs.map intV)
theorem Ints.cells {w : World} {F : Nat → Prop} {v : Value} {l : List Int} (h : Ints w F v l) (hl : l ≠ []) : ∃ g off cap, v = .slice (some ⟨g, off, none⟩) l.length cap ∧ l.length ≤ cap ∧ F g ∧ g < w.heap.size ∧
    ∀ i c, l[i]? = some c → w.cell? ⟨g, off + i, none⟩ = some (.int .i64 c) := by
  have h0 : 0 < l.length := List.length_pos_iff.2 hl
  obtain ⟨g, off, cap, e1, e2, e3, e4, e5⟩ := Rows.at_ h (j := 0) (by omega)
  exact ⟨g, off, cap, e1, e2, e3, e4, fun i c hc => e5 i _ (by simp [hc, intV])⟩

set_option maxHeartbeats 400000 in
theorem cmpOr_any (w : World) (F : Nat → Prop) (v : Value) (zs : List Int) (h : Ints w F v zs) (hne : zs ≠ []) (hlen : zs.length ≤ 1000000) :
    Calls Try.prog 119 #[v] w (IntPost w (orInts zs)) := by
  obtain ⟨g, off, cap, rfl, hcap, -, -, hc⟩ := h.cells hne
  obtain ⟨n, hn⟩ : ∃ n, Hid (n = zs.length) := ⟨_, rfl⟩
  rw [← hn.out] at hcap hlen ⊢
  have HC := Lib.hid hc
  clear hc h
  go_enter Try.func119, Try.ntmps119
  go_wp2_with fail
  go_loop [8] (fun i => ∃ k : Nat, i = .int .i64 k ∧ k ≤ n ∧ Hid (orInts zs = orInts (zs.drop k))) (fun i => n - (intOf i).toNat)
  case atStart => exact ⟨0, rfl, by omega, by simp [Hid]⟩
  case round =>
    obtain ⟨k, rfl, hk, HO⟩ := hrel
    by_cases hlt : k < n
    · obtain ⟨z, hz⟩ : ∃ z, zs[k]? = some z := ⟨zs[k]'(by have := hn.out; omega), List.getElem?_eq_getElem _⟩
      have hcell := HC.out k z hz
      have hd : zs.drop k = z :: zs.drop (k + 1) := by
        have h1 : k < zs.length := by have := hn.out; omega
        rw [List.drop_eq_getElem_cons h1]
        rw [List.getElem?_eq_getElem h1] at hz
        injection hz with hz
        rw [hz]
      have HO' := HO.out
      rw [hd, orInts] at HO'
      have HZ := Lib.hid HO'
      clear HO' hd hz
      by_cases h0 : z = 0
      · have hb : (z != 0) = false := by simp [h0]
        have HZ0 := Lib.hid h0
        clear h0
        go_wp2_with fail
        exact ⟨⟨k + 1, by simp, by omega, by have := HZ.out; rw [if_pos HZ0.out] at this; exact this⟩, by simp [intOf]; omega⟩
      · have hb : (z != 0) = true := by simp [h0]
        go_wp2_with fail
        go_ret
        exact ⟨by have := HZ.out; rw [if_neg h0] at this; rw [this]; rfl, rfl⟩
    · have hk' : k = n := by omega
      have HO' := HO.out
      rw [hk', hn.out, List.drop_length] at HO'
      have HZ := Lib.hid HO'
      clear HO' hk'
      go_wp2_with fail
      go_ret
      exact ⟨by rw [HZ.out]; rfl, rfl⟩
end Go.Proofs.Ytejfejckmhoolaa
