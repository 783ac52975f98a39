/- ikey: user, Parse. -/
import Derived.Test.YtejfejckmhoolaaCmp2
set_option linter.unusedSimpArgs false
set_option linter.unusedVariables false
namespace Go.Proofs.Ytejfejckmhoolaa
open Go.RowKit

/-- The user's bytes at the beginning, and what stands behind them. -/
def keyUser : Byts → Option (Byts × Byts)
  | [] => none
  | [c] => none
  | c :: d :: l => if c = 0 then (if d = 1 then some ([], l) else if d = 255 then (keyUser l).map (fun p => (0 :: p.1, p.2)) else none) else (keyUser (d :: l)).map (fun p => (c :: p.1, p.2))

def UserPost (w : World) (b : Byts) (r : Option (Byts × Byts)) (e : Ending) (w' : World) : Prop :=
  Below w.heap.size w w' ∧ match r with
  | some (u, l) => ∃ v, e = .returned (.tuple #[v, .int .i64 ((b.length - l.length : Nat) : Int), .bool true]) ∧ Bts w' (w.heap.size ≤ ·) v u
  | none => e = .returned (.tuple #[.slice none 0 0, .int .i64 0, .bool false])

theorem keyUser_ne {c : UInt8} (l : Byts) (h : c ≠ 0) : keyUser (c :: l) = (keyUser l).map (fun p => (c :: p.1, p.2)) := by
  match l with
  | [] => rw [keyUser]; rfl
  | d :: l => rw [keyUser, if_neg h]
theorem keyUser_zero (d : UInt8) (l : Byts) : keyUser (0 :: d :: l) = if d = 1 then some ([], l) else if d = 255 then (keyUser l).map (fun p => (0 :: p.1, p.2)) else none := by rw [keyUser, if_pos rfl]

theorem user_step {b acc : Byts} {c : UInt8} {k : Nat} (h : keyUser b = Option.map (fun p => (acc ++ p.1, p.2)) ((keyUser (b.drop (k + 1))).map (fun p => (c :: p.1, p.2)))) :
    keyUser b = Option.map (fun p => ((acc ++ [c]) ++ p.1, p.2)) (keyUser (b.drop (k + 1))) := by
  rw [h, Option.map_map]
  congr 1
  funext p
  simp

set_option maxRecDepth 100000 in
set_option maxHeartbeats 1000000 in
theorem user_any (w : World) (F : Nat → Prop) (bv : Value) (b : Byts) (hb : Bts w F bv b) (hl : b.length ≤ 1000000) :
    Calls Try.prog 127 #[bv] w (UserPost w b (keyUser b)) := by
  by_cases hne : b = []
  · subst hne
    obtain ⟨_, A, cap, rfl, hcap, _⟩ := hb
    go_enter Try.func127, Try.ntmps127
    go_wp2_with fail
    go_loop [6] (fun i => i = .int .i64 0) (fun _ => 0)
    case atStart => rfl
    case round =>
      subst hrel
      go_wp2_with fail
      refine bodyPost_ret (results_tmp3 rfl _ _ _) rfl ?_
      exact ⟨Below.refl _ _, rfl⟩
  · obtain ⟨g, off, cap, rfl, hcap, -, hg, hc⟩ := hb.cells hne
    obtain ⟨n, hn⟩ : ∃ n, Hid (n = b.length) := ⟨_, rfl⟩
    rw [← hn.out] at hcap hl
    rw [← hn.out]
    have HC := Lib.hid hc
    clear hc hb
    go_enter Try.func127, Try.ntmps127
    go_wp2_with fail
    go_loopw [5, 6] (fun o i wr => ∃ (k : Nat) (acc : Byts), i = .int .i64 k ∧ k ≤ n ∧ wr.ownsRow w.heap.size 5 1 o acc.length (acc.map byteV) ∧ acc.length ≤ k ∧ Below w.heap.size w wr ∧ Hid (keyUser b = (keyUser (b.drop k)).map (fun p => (acc ++ p.1, p.2)))) (fun _ i _ => n - (intOf i).toNat)
    case atStart => exact ⟨0, [], rfl, by omega, World.ownsRow_nil _ _ _ _, by simp, Below.refl _ _, by unfold Hid; simp⟩
    case round =>
      obtain ⟨k, acc, rfl, hk, hown, hacc, hbel, HK⟩ := hrel
      obtain ⟨A0, c0, rfl⟩ := own_form hown
      have HO := Lib.hid hown
      clear hown
      have hsz := hbel.size
      by_cases h1 : k < n
      · obtain ⟨c, hcc⟩ : ∃ c, b[k]? = some c := ⟨b[k]'(by have := hn.out; omega), List.getElem?_eq_getElem _⟩
        have hcell : wr.cell? ⟨g, off + k, none⟩ = some (.int .u8 (c.toNat : Int)) := (hbel.cell (p := ⟨g, off + k, none⟩) hg).trans (HC.out k c hcc)
        have hd := get_drop hcc
        have HK1 := HK.out
        rw [hd] at HK1
        by_cases h0 : c = 0
        · subst h0
          have hcell' : wr.cell? ⟨g, off + k, none⟩ = some (.int .u8 0) := hcell
          clear hcell
          by_cases h2 : k + 1 < n
          · obtain ⟨d, hdd⟩ : ∃ d, b[k + 1]? = some d := ⟨b[k + 1]'(by have := hn.out; omega), List.getElem?_eq_getElem _⟩
            have hcell2 : wr.cell? ⟨g, off + (k + 1), none⟩ = some (.int .u8 (d.toNat : Int)) := (hbel.cell (p := ⟨g, off + (k + 1), none⟩) hg).trans (HC.out (k + 1) d hdd)
            rw [get_drop hdd, keyUser_zero] at HK1
            by_cases hd1 : d = 1
            · subst hd1
              rw [if_pos rfl] at HK1
              have hcell3 : wr.cell? ⟨g, off + (k + 1), none⟩ = some (.int .u8 1) := hcell2
              have HH := Lib.hid HK1
              clear HK1 hd hcc hcell2 hdd HK
              go_wp2_with fail
              refine bodyPost_ret (results_tmp3 rfl _ _ _) rfl ?_
              refine ⟨hbel, ?_⟩
              rw [HH.out]
              refine ⟨.slice A0 acc.length c0, ?_, by simpa [Bts] using Rows.of_own HO.out⟩
              have hlen : b.length - (b.drop (k + 1 + 1)).length = k + 1 + 1 := by have := hn.out; rw [List.length_drop]; omega
              simp only [List.append_nil]
              rw [hlen]
              rfl
            · rw [if_neg hd1] at HK1
              by_cases hd2 : d = 255
              · subst hd2
                rw [if_pos rfl] at HK1
                have hcell3 : wr.cell? ⟨g, off + (k + 1), none⟩ = some (.int .u8 255) := hcell2
                have HH := Lib.hid (user_step HK1)
                clear HK1 hd hcc hcell2 hdd HK hd1
                go_wp2_with (at_builtin; refine wpList_append_one rfl (.tmp 47) (.tmp 48) _ rfl ei_u8 (.slice A0 acc.length c0) (acc.length) _ rfl (HO.out) [.int .u8 0] 1 rfl (by omega) rfl (by simp [Value.oneCell', byteV]) (by omega) (by omega) ?_; intro v' w1 hown1 hg1 hb1; obtain ⟨A', c', rfl⟩ := own_form hown1)
                refine ⟨⟨k + 1 + 1, acc ++ [0], by simp, by omega, ?_, by simp; omega, hbel.grown hg1 hsz (fun k' hk' => (HO.out.lt k' hk').1), HH⟩, by simp [intOf]; omega⟩
                simpa [byteV] using hown1
              · rw [if_neg hd2] at HK1
                have HH := Lib.hid HK1
                have b1 : ((d.toNat : Int) == 1) = false := by
                  rw [beq_eq_false_iff_ne]
                  intro h
                  exact hd1 (UInt8.toNat_inj.1 (by have h2 : d.toNat = 1 := by omega
                                                   simpa using h2))
                have b2 : ((d.toNat : Int) != 255) = true := by
                  rw [bne_iff_ne]
                  intro h
                  exact hd2 (UInt8.toNat_inj.1 (by have h2 : d.toNat = 255 := by omega
                                                   simpa using h2))
                obtain ⟨q, hqv⟩ : ∃ q, Hid (q = d.toNat) := ⟨_, rfl⟩
                rw [← hqv.out] at hcell2 b1 b2
                clear HK1 hd hcc hdd HK hd1 hd2
                go_wp2_with fail
                refine bodyPost_ret (results_tmp3 rfl _ _ _) rfl ?_
                refine ⟨hbel, ?_⟩
                rw [HH.out]
                rfl
          · have h3 : k + 1 = n := by omega
            have hd0 : b.drop (k + 1) = [] := List.drop_of_length_le (by have := hn.out; omega)
            rw [hd0] at HK1
            have HH := Lib.hid HK1
            have beq : (((k : Int) + 1) == (n : Int)) = true := by rw [beq_iff_eq]; omega
            clear HK1 hd hcc HK h3 hd0
            go_wp2_with fail
            refine bodyPost_ret (results_tmp3 rfl _ _ _) rfl ?_
            refine ⟨hbel, ?_⟩
            rw [HH.out]
            rfl
        · have hq : c.toNat ≠ 0 := by
            intro h
            exact h0 (UInt8.toNat_inj.1 (by simpa using h))
          have hb0 : (((c.toNat : Nat) : Int) != 0) = true := by simp [hq]
          obtain ⟨q, hqv⟩ : ∃ q, Hid (q = c.toNat) := ⟨_, rfl⟩
          rw [← hqv.out] at hcell hb0
          rw [keyUser_ne _ h0] at HK1
          have HH := Lib.hid (user_step HK1)
          clear HK1 hd hcc hq h0 HK
          go_wp2_with (at_builtin; refine wpList_append_one rfl (.tmp 18) (.tmp 23) _ rfl ei_u8 (.slice A0 acc.length c0) (acc.length) _ rfl (HO.out) [.int .u8 (q : Int)] 1 rfl (by omega) rfl (by simp [Value.oneCell', byteV]) (by omega) (by omega) ?_; intro v' w1 hown1 hg1 hb1; obtain ⟨A', c', rfl⟩ := own_form hown1)
          refine ⟨⟨k + 1, acc ++ [c], by simp, by omega, ?_, by simp; omega, hbel.grown hg1 hsz (fun k' hk' => (HO.out.lt k' hk').1), HH⟩, by simp [intOf]; omega⟩
          rw [hqv.out] at hown1
          simpa [byteV] using hown1
      · have hd0 : b.drop k = [] := List.drop_of_length_le (by have := hn.out; omega)
        have HK1 := HK.out
        rw [hd0] at HK1
        have HH := Lib.hid HK1
        clear HK HK1 hd0
        go_wp2_with fail
        refine bodyPost_ret (results_tmp3 rfl _ _ _) rfl ?_
        refine ⟨hbel, ?_⟩
        rw [HH.out]
        rfl
end Go.Proofs.Ytejfejckmhoolaa
