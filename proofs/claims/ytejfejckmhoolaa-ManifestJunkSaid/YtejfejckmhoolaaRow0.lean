/- A statement's byte slice, as the walks take it; the program's own facts. -/
import Derived.Test.YtejfejckmhoolaaBase
import Derived.Test.YtejfejckmhoolaaConv
import Derived.Test.YtejfejckmhoolaaRows
import Derived.WalkKit
import Derived.ProofKit
import Derived.OpenShut
import Derived.ShutString
import Derived.ChangeOld
import Derived.Below
import Derived.SizedLaws
import Derived.ChangeSlices
import Derived.JoinedOf
import Derived.DataShut
set_option linter.unusedSimpArgs false
set_option linter.unusedVariables false
namespace Go.Proofs.Ytejfejckmhoolaa
open Go.ChangeShapes Go.WideShapes Go.ChangeAt Go.RowKit

theorem own : ownKnob Try.prog.godebug = none := by kernel_rfl
theorem laidOut : laidOutB Try.prog = true := by kernel_rfl

/-- Whole numbers of a slice, as a world has them. -/
def IsRow (k : IntKind) (w : World) (a : Option Addr) (len cap : Nat) (zs : List Int) : Prop :=
  (a = none ∧ len = 0 ∧ cap = 0 ∧ zs = []) ∨
  ∃ x, a = some x ∧ len ≤ cap ∧ cap ≤ maxLen ∧ zs.length = cap ∧ (∀ i, i < zs.length → w.cell? (x.add i) = some (.int k (zs.getD i 0))) ∧ ∀ n ∈ zs, (Lit.int k n).wf = true

/-- A byte slice is a row of some bytes, in a block of whatever type. -/
theorem IsRow.bytes {w : World} {a : Option Addr} {len cap : Nat} {zs : List Int} (h : IsRow .u8 w a len cap zs) :
    ∃ (T : TypeId) (b : Byts), Rows w (fun _ => True) T 1 (.slice a len cap) b.length (b.map byteV) := by
  rcases h with ⟨rfl, rfl, rfl, rfl⟩ | ⟨x, rfl, hlc, _, hzl, hcell, hwf⟩
  · exact ⟨0, [], Rows.nil _ _ _ _ _ _⟩
  · let b : Byts := (zs.take len).map fun n => UInt8.ofNat n.toNat
    have hbl : b.length = len := by simp [b, hzl]; omega
    have hv : ∀ j, j < len → (b.map byteV).getD j (.bool false) = .int .u8 (zs.getD j 0) := by
      intro j hj
      have hj2 : j < zs.length := by omega
      have hm := (Lit.wf_int_iff .u8 _).1 (hwf (zs[j]) (List.getElem_mem hj2))
      have h0 : (0 : Int) ≤ zs[j] := hm.1
      have h1 : zs[j] ≤ 255 := hm.2
      have h3 : ((UInt8.ofNat (zs[j]).toNat).toNat : Int) = zs[j] := by
        have h5 : (UInt8.ofNat (zs[j]).toNat).toNat = (zs[j]).toNat % 256 := rfl
        rw [h5]
        omega
      have h6 : (zs.take len)[j]? = some zs[j] := by rw [List.getElem?_take, if_pos hj, List.getElem?_eq_getElem hj2]
      have h7 : zs.getD j 0 = zs[j] := by simp [hj2]
      rw [h7]
      rw [List.getD_eq_getElem?_getD]
      simp only [b, List.map_map, List.getElem?_map, h6, Option.map_some, Option.getD_some, Function.comp, byteV, h3]
    rcases Nat.eq_zero_or_pos len with h0 | h0
    · subst h0
      have : b = [] := List.length_eq_zero_iff.1 hbl
      refine ⟨0, [], ?_⟩
      exact ⟨by simp, _, cap, rfl, Nat.zero_le _, fun h => absurd h (Nat.lt_irrefl 0)⟩
    · have hc0 := hcell 0 (by omega)
      have hsp := World.cell?_spot hc0
      obtain ⟨g, off, sp⟩ := x
      have hsp2 : sp = none := hsp
      subst hsp2
      have hT : ∃ cs T fr, w.heap[g]? = some (.cells cs T fr) := by
        unfold World.cell? at hc0
        split at hc0
        · exact ⟨_, _, _, by assumption⟩
        · cases hc0
      obtain ⟨cs, T, fr, hT⟩ := hT
      refine ⟨T, b, ?_⟩
      have hbb : (b.map byteV).length = len := by rw [List.length_map, hbl]
      rw [hbl]
      refine ⟨by rw [hbb, Nat.mul_one], _, cap, rfl, hlc, fun _ => ⟨g, off, cs, fr, rfl, trivial, hT, fun j u hu => ?_⟩⟩
      have hj : j < len := by
        rcases Nat.lt_or_ge j len with h | h
        · exact h
        · rw [List.getElem?_eq_none (by omega)] at hu
          cases hu
      have hcj := hcell j (by omega)
      have h4 : (b.map byteV).getD j (.bool false) = u := by rw [List.getD_eq_getElem?_getD, hu]; rfl
      rw [hv j hj] at h4
      rw [← h4]
      have ha : (⟨g, off, none⟩ : Addr).add j = ⟨g, off + j, none⟩ := by
        unfold Addr.add
        split
        · subst j; rfl
        · rfl
      rw [ha] at hcj
      simpa [World.cell?, hT] using hcj
end Go.Proofs.Ytejfejckmhoolaa
