/- Walks of package span: Union, Minus, Norm. -/
import Derived.Test.YtcmcojmhlgknoaaYE
namespace Go.Proofs.Ytcmcojmhlgknoaa
open Go.RowKit

theorem unionKeep : KeepsB 56 (inB 0) := by
  refine ⟨fun _ _ => by kernel_rfl, fun x y w => ?_⟩
  have R : Hid (inB 0 x y = (x || y)) := by show _ = _; simp [inB]
  cases x with
  | false =>
    go_enter Try.func56, Try.ntmps56
    go_wp2
    go_ret
    rw [R.out]
    exact ⟨rfl, Ext.refl _⟩
  | true =>
    go_enter Try.func56, Try.ntmps56
    go_wp2
    go_ret
    rw [R.out]
    exact ⟨rfl, Ext.refl _⟩
theorem spanUnion_calls (va vb : Value) (a b : List (Int × Int)) (w : World) (ha : Spans w va a) (hb : Spans w vb b) (hla : a.length ≤ 100000) (hlb : b.length ≤ 100000) :
    Calls Try.prog 41 #[va, vb] w (CombOut 0 a b w) := by
  have hc := Lib.hid (combine_calls va vb a b _ 0 w unionKeep ha hb hla hlb)
  go_enter Try.func41, Try.ntmps41
  go_wp2_with fail
  refine hc.out.mono ?_
  rintro e w1 ⟨v, rfl, hv, hx1⟩
  have hv' := Lib.hid hv
  obtain ⟨A, c, rfl⟩ := hv.read.form
  clear hv hc
  obtain ⟨r, hr⟩ : ∃ r, Hid (combT 0 a b = r) := ⟨_, rfl⟩
  obtain ⟨r1, r2⟩ := r
  rw [hr.out] at hv' ⊢
  dsimp only at hv' ⊢
  go_wp2
  go_ret2
  exact comb_end hr.out hv'.out hx1
theorem spanNorm_calls (va : Value) (a : List (Int × Int)) (w : World) (ha : Spans w va a) (hla : a.length ≤ 100000) :
    Calls Try.prog 22 #[va] w (CombOut 0 a [] w) := by
  have hc := Lib.hid (spanUnion_calls va (.slice none 0 0) a [] w ha (spans_nil w) hla (by simp))
  go_enter Try.func22, Try.ntmps22
  go_wp2_with fail
  refine hc.out.mono ?_
  rintro e w1 ⟨v, rfl, hv, hx1⟩
  have hv' := Lib.hid hv
  obtain ⟨A, c, rfl⟩ := hv.read.form
  clear hv hc
  obtain ⟨r, hr⟩ : ∃ r, Hid (combT 0 a [] = r) := ⟨_, rfl⟩
  obtain ⟨r1, r2⟩ := r
  rw [hr.out] at hv' ⊢
  dsimp only at hv' ⊢
  go_wp2
  go_ret2
  exact comb_end hr.out hv'.out hx1
end Go.Proofs.Ytcmcojmhlgknoaa
