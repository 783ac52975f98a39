/- string(b) and []byte(s), over any program. -/
import Derived.Test.YtejfejckmhoolaaApp
import Derived.Lib.ConvBytes
import Derived.Laws.BytesArg
import Derived.Laws.BytesString
set_option linter.unusedSimpArgs false
set_option linter.unusedVariables false
namespace Go.Proofs.Ytejfejckmhoolaa
open Go.RowKit

abbrev Byts := List UInt8
/-- A byte's cell. -/
def byteV (c : UInt8) : Value := .int .u8 (c.toNat : Int)
def strOf (l : Byts) : ByteArray := ⟨l.toArray⟩

theorem foldl_bytes (l : Byts) (s : ByteArray) : (l.map fun c => (c.toNat : Int)).foldl (fun r n => r.push (UInt8.ofNat n.toNat)) s = ⟨s.data ++ l.toArray⟩ := by
  rw [foldl_push_bytes]
  have : ((fun n : Int => UInt8.ofNat n.toNat) ∘ fun c : UInt8 => (c.toNat : Int)) = id := by
    funext c
    simp
  simp [this]

theorem run_bytes_string {P : Program} {w : World} {F : Nat → Prop} {Tn src dst e : TypeId} {v : Value} {l : Byts} (hs : P.underlying src = some (.slice e)) (he : P.underlying e = some (.int .u8)) (hd : P.underlying dst = some .string)
    (h : Rows w F Tn 1 v l.length (l.map byteV)) : (convert src dst v).run P w = .ok (.string (strOf l)) w := by
  obtain ⟨hl, A, cap, rfl, hnc, hcell⟩ := h
  rw [run_convert_bytes_string w src dst e A l.length cap hs he hd]
  match A with
  | none =>
    have h0 : l = [] := by
      match l, hcell with
      | [], _ => rfl
      | c :: l, hcell => obtain ⟨g, off, cs, fr, e1, _⟩ := hcell (by simp); cases e1
    subst h0
    rfl
  | some a =>
    have hm : l.map byteV = (l.map fun c => (c.toNat : Int)).map (Value.int .u8) := by simp [byteV]
    have hc : ∀ j u, (l.map byteV)[j]? = some u → w.cell? (a.add j) = some u := by
      intro j u hu
      have h0 : 0 < l.length := by
        rcases Nat.lt_or_ge j l.length with h0 | h0
        · omega
        · simp [List.getElem?_eq_none (show l.length ≤ j from h0)] at hu
      obtain ⟨g, off, cs, fr, e1, _, e3, e4⟩ := hcell h0
      injection e1 with e1
      subst e1
      have hj : (⟨g, off, none⟩ : Addr).add j = ⟨g, off + j, none⟩ := by
        by_cases hj0 : j = 0
        · simp [Addr.add, hj0]
        · simp [Addr.add, hj0]
      rw [hj]
      simp [World.cell?, e3, e4 j u hu]
    have hr := run_loadCells_list (P := P) w a (l.map byteV) hc
    have hlen : (l.map byteV).length = l.length := by simp
    rw [hlen, hm] at hr
    rw [run_bytesToString w a l.length cap (l.map fun c => (c.toNat : Int)) hr, foldl_bytes]
    simp [strOf, ByteArray.empty, ByteArray.emptyWithCapacity]
    rfl

/-- What []byte(s) gives reads as the string's bytes. -/
theorem rows_bytesWorld (w : World) (e : TypeId) (s : ByteArray) : Rows (Lib.bytesWorld w e s) (w.heap.size ≤ ·) e 1 (.slice (some ⟨w.heap.size, 0, none⟩) s.size (grownCap w s.size 0 e)) s.size (s.data.toList.map byteV) := by
  have hsz : (s.data.toList.map byteV).length = s.size * 1 := by rw [List.length_map, Array.length_toList, Nat.mul_one]; rfl
  refine ⟨hsz, _, _, rfl, grownCap_ge w s.size 0 e, fun _ => ⟨w.heap.size, 0, _, _, rfl, Nat.le_refl _, Lib.bytesWorld_at_new w e s, fun j u hu => ?_⟩⟩
  simp only [List.getElem?_map, Option.map_eq_some_iff] at hu
  obtain ⟨c, hc, rfl⟩ := hu
  have hj : j < s.data.size := by
    rcases Nat.lt_or_ge j s.data.size with h | h
    · exact h
    · rw [List.getElem?_eq_none (by simpa using h)] at hc; cases hc
  simp only [Lib.bytesCells, Nat.zero_add]
  rw [Array.getElem?_append_left (by simpa using hj)]
  have : s.data[j]? = some c := by simpa using hc
  simp [this, byteV]
theorem below_bytesWorld {B : Nat} (w : World) (e : TypeId) (s : ByteArray) (hB : B ≤ w.heap.size) : Below B w (Lib.bytesWorld w e s) :=
  ⟨rfl, rfl, rfl, by rw [Lib.bytesWorld_size]; omega, fun k hk => Lib.bytesWorld_at_old w e s k (by omega)⟩

/-! ### slice expressions, without a split on the capacity -/
theorem EI.elem {P : Program} {t e size bytes : Nat} (E : EI P t e size bytes) : P.elem t = e := by
  obtain ⟨ht, -⟩ := E
  simp [Program.elem, ht]
theorem EI.sizeOf {P : Program} {t e size bytes : Nat} (E : EI P t e size bytes) (w : World) : (sizeOf e).run P w = .ok size w := by
  obtain ⟨ht, i, z, hi, hz, hs, -⟩ := E
  simp [Go.sizeOf, typeInfo, hi, hs]
theorem run_slice_from {P : Program} {t e size bytes : Nat} (E : EI P t e size bytes) (A : Option Addr) (n cap en : Nat) (h : en ≤ n) (w : World) :
    (Instr.slice t (.slice A n cap) (some (.int .i64 (en : Int))) none none).run P w = .ok (.slice (if cap = en then A else A.map (·.add (en * size))) (n - en) (cap - en)) w := by
  rw [run_slice_l w t A n cap (by rw [E.elem]; exact E.1) .i64 en (by omega) (by omega), E.elem, E.sizeOf]
  simp [Result.andThen, sliced]
theorem run_slice_range {P : Program} {t e size bytes : Nat} (E : EI P t e size bytes) (A : Option Addr) (n cap lo hi : Nat) (h : lo ≤ hi) (h2 : hi ≤ cap) (w : World) :
    (Instr.slice t (.slice A n cap) (some (.int .i64 (lo : Int))) (some (.int .i64 (hi : Int))) none).run P w = .ok (.slice (if cap = lo then A else A.map (·.add (lo * size))) (hi - lo) (cap - lo)) w := by
  rw [run_slice_lh w t A n cap (by rw [E.elem]; exact E.1) .i64 .i64 lo hi (by omega) (by omega) (by omega), E.elem, E.sizeOf]
  simp [Result.andThen, sliced]
theorem run_slice_to {P : Program} {t e size bytes : Nat} (E : EI P t e size bytes) (A : Option Addr) (n cap hi : Nat) (h2 : hi ≤ cap) (w : World) :
    (Instr.slice t (.slice A n cap) none (some (.int .i64 (hi : Int))) none).run P w = .ok (.slice (if cap = 0 then A else A.map (·.add 0)) hi cap) w := by
  rw [run_slice_h w t A n cap (by rw [E.elem]; exact E.1) .i64 hi (by omega) (by omega), E.elem, E.sizeOf]
  simp [Result.andThen, sliced]
end Go.Proofs.Ytejfejckmhoolaa
