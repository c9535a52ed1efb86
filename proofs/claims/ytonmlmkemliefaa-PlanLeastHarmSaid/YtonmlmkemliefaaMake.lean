/- make of integers, at a size that is a variable. -/
import Derived.Test.YtonmlmkemliefaaPlanWalksI
import Derived.Laws.MakeOwn
namespace Go.Proofs.Ytonmlmkemliefaa
open Go.RowKit

/-- n zeros -/
def zerosL (n : Nat) : List Int := List.replicate n 0
theorem zerosL_len (n : Nat) : (zerosL n).length = n := by simp [zerosL]
def zerosV (n : Nat) : Array Value := ((zerosL n).map (Value.int .i64)).toArray

theorem made_zeros (n : Nat) : madeCells (Value.int .i64 0).cells n = zerosV n := by
  apply Array.ext_getElem?
  intro k
  by_cases h : k < n
  · simp [madeCells, zerosV, zerosL, h, Value.cells, Nat.mod_one]
  · simp [madeCells, zerosV, zerosL, h]
theorem run_make_any {P : Program} (t e : TypeId) (i : TypeInfo) (z : Value) (ht : P.underlying t = some (.slice e)) (hi : P.info? e = some i) (hz : i.zero = some z)
    (kl kc : IntKind) (n c : Nat) (hnc : n ≤ c) (hbytes : i.bytes * c ≤ 281474976710656) (h63 : c ≤ 9223372036854775807) (w : World) :
    (Instr.makeSlice t (.int kl (n : Int)) (.int kc (c : Int))).run P w = .ok (.slice (some ⟨w.heap.size, 0, none⟩) n c) (w.alloc (.cells (madeCells z.cells (c * i.size)) e)) := by
  have hb : (i.bytes : Int) * (c : Int) ≤ 281474976710656 := by
    have h : ((i.bytes * c : Nat) : Int) ≤ 281474976710656 := by omega
    rwa [Int.natCast_mul] at h
  have hr := run_make (P := P) w t e i z ht hi hz kl kc n c (by omega) (by omega) hb (by omega)
  simp only [Int.toNat_natCast] at hr
  exact hr
theorem run_make_ints (n : Nat) (hn : n ≤ 35184372088832) (w : World) :
    (Instr.makeSlice 28 (.int .i64 (n : Int)) (.int .i64 (n : Int))).run Try.prog w = .ok (.slice (some ⟨w.heap.size, 0, none⟩) n n) (w.alloc (.cells (zerosV n) 3)) := by
  obtain ⟨i0, hi, hz, hs, hb⟩ := info_parts int_info
  have := run_make_any (P := Try.prog) 28 3 i0 _ Try.underlying28 hi hz .i64 .i64 n n (Nat.le_refl _) (by rw [hb]; omega) (by omega) w
  rw [this, hs, Nat.mul_one, made_zeros]

end Go.Proofs.Ytonmlmkemliefaa
