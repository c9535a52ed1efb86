/- Arguments that came in: two and four bytes by value. -/
import Derived.Test.YtcpohkigbaechaaGreatDoorArgsB
namespace Go.Proofs.YtcpohkigbaechaaGreatDoor
open Go.ChangeShapes Go.WideShapes Go.ChangeAt Go.RowKit

theorem cells_u8' : Tryz.prog.cellsOf 5 = 1 := by kernel_rfl
/-- two bytes by value -/
def Two8V (_ : World) (v : Value) (x : Int × Int) : Prop := v = .agg #[.int .u8 x.1, .int .u8 x.2] ∧ (0 ≤ x.1 ∧ x.1 ≤ 255) ∧ 0 ≤ x.2 ∧ x.2 ≤ 255
/-- four bytes by value -/
def Four8V (_ : World) (v : Value) (x : Oct) : Prop := v = .agg #[.int .u8 x.a, .int .u8 x.b, .int .u8 x.c, .int .u8 x.d] ∧ OctOk x
section
variable {H : Type} {enc : TypeId × Value → H} {w : World} {base base' : Nat} {spare : Nat → Bool} {held : Bool}
set_option maxRecDepth 100000 in
theorem bytesV_of_trod {n : Nat} {t : TypeId} (ht : Tryz.prog.underlying t = some (.array n 5)) (hc : Tryz.prog.cellsOf t = n) {r : Reach} {v : Value} {d : DataW H} {ps : List MemPlace} (hv : Value.okWide Tryz.prog w r base t v) (h0 : DataW.Trod enc Tryz.prog w base' spare held t v d ps) :
    ∃ cl : List Value, v = .agg ⟨cl⟩ ∧ cl.length = n ∧ ∀ i, i < n → ∃ k, (0 ≤ k ∧ k ≤ 255) ∧ (cl.drop i).take 1 = [.int .u8 k] := by
  simp only [Value.okWide, ht] at hv
  obtain ⟨ca, rfl, hsz, _⟩ := hv
  obtain ⟨fuel, h⟩ := h0
  obtain ⟨xs, m, _, _, hl, hn, hx⟩ := DataW.trod_array ht h
  rw [hc] at hl
  obtain ⟨cl⟩ := ca
  have e0 : (Value.agg ⟨cl⟩).cells.toList = cl := rfl
  rw [e0] at hx hl
  refine ⟨cl, rfl, hl, fun i hi => ?_⟩
  have := hx i hi
  rw [cells_u8', Nat.mul_one, List.getElem?_eq_getElem (by omega)] at this
  obtain ⟨k, h1, _, hw⟩ := DataW.trod_int Tryz.underlying5 this
  simp [Lit.wf, IntKind.min, IntKind.max, IntKind.signed, IntKind.bits] at hw
  exact ⟨k, hw, h1⟩
set_option maxRecDepth 100000 in
theorem two8V_of_trod {r : Reach} {v : Value} {d : DataW H} {ps : List MemPlace} (hv : Value.okWide Tryz.prog w r base 61 v) (h0 : DataW.Trod enc Tryz.prog w base' spare held 61 v d ps) : ∃ x, Two8V w v x := by
  obtain ⟨cl, rfl, hl, hat⟩ := bytesV_of_trod Tryz.underlying61 (by kernel_rfl) hv h0
  match cl, hl with
  | [c0, c1], _ =>
    obtain ⟨a, ka, ha⟩ := hat 0 (by omega)
    obtain ⟨b, kb, hb⟩ := hat 1 (by omega)
    simp at ha hb
    exact ⟨(a, b), by rw [ha, hb], ka, kb⟩
set_option maxRecDepth 100000 in
theorem four8V_of_trod {r : Reach} {v : Value} {d : DataW H} {ps : List MemPlace} (hv : Value.okWide Tryz.prog w r base 68 v) (h0 : DataW.Trod enc Tryz.prog w base' spare held 68 v d ps) : ∃ x, Four8V w v x := by
  obtain ⟨cl, rfl, hl, hat⟩ := bytesV_of_trod Tryz.underlying68 (by kernel_rfl) hv h0
  match cl, hl with
  | [c0, c1, c2, c3], _ =>
    obtain ⟨a, ka, ha⟩ := hat 0 (by omega)
    obtain ⟨b, kb, hb⟩ := hat 1 (by omega)
    obtain ⟨c, kc, hc⟩ := hat 2 (by omega)
    obtain ⟨d, kd, hd⟩ := hat 3 (by omega)
    simp at ha hb hc hd
    exact ⟨⟨a, b, c, d⟩, by rw [ha, hb, hc, hd], ka, kb, kc, kd⟩
end
end Go.Proofs.YtcpohkigbaechaaGreatDoor
