/- PlanSymmetry holds: for every list of raw wishes, every four bytes and every number of 32 bits the law is true. -/
import Derived.Test.YtkicielleiafgaaSY
import Derived.Test.YtkicielleiafgaaArgsB
namespace Go.Proofs.Ytkicielleiafgaa
open Go.ChangeShapes Go.WideShapes Go.ChangeAt Go.RowKit

section
variable {H : Type} {enc : TypeId × Value → H} {w : World} {base base' : Nat} {spare : Nat → Bool} {held : Bool}
set_option maxRecDepth 100000 in
theorem octV_of_trod {r : Reach} {v : Value} {d : DataW H} {ps : List MemPlace} (hv : Value.okWide Try.prog w r base 84 v) (h0 : DataW.Trod enc Try.prog w base' spare held 84 v d ps) : ∃ x, OctV w v x := by
  simp only [Value.okWide, Try.underlying84] at hv
  obtain ⟨ca, rfl, hsz, _⟩ := hv
  obtain ⟨fuel, h⟩ := h0
  obtain ⟨xs, m, _, _, hl, hn, hx⟩ := DataW.trod_array Try.underlying84 h
  have hc4 : Try.prog.cellsOf 84 = 4 := by kernel_rfl
  rw [hc4] at hl
  have hat : ∀ i, i < 4 → ∃ n, byteB n ∧ ((Value.agg ca).cells.toList.drop i).take 1 = [.int .u8 n] := by
    intro i hi
    have := hx i hi
    rw [cells_u8, Nat.mul_one, List.getElem?_eq_getElem (by omega)] at this
    obtain ⟨n, h1, h2⟩ := trod_u8 Try.underlying5 this
    exact ⟨n, h2, h1⟩
  obtain ⟨cl⟩ := ca
  have e0 : (Value.agg ⟨cl⟩).cells.toList = cl := rfl
  rw [e0] at hat hl
  match cl, hl with
  | [c0, c1, c2, c3], _ =>
    obtain ⟨a, ka, ha⟩ := hat 0 (by omega)
    obtain ⟨b, kb, hb⟩ := hat 1 (by omega)
    obtain ⟨c, kc, hc⟩ := hat 2 (by omega)
    obtain ⟨d, kd, hd⟩ := hat 3 (by omega)
    simp at ha hb hc hd
    exact ⟨⟨a, b, c, d⟩, by rw [ha, hb, hc, hd], ⟨ka, kb, kc, kd⟩⟩
end
set_option maxRecDepth 100000 in
theorem planSymmetry_lifted (os : Os) (started : os.Started) (H : Type) (enc : TypeId × Value → H) :
    ReturnsInHanded {} Try.checked os 12 .any (Rows.planSymmetrySpec.pre6 enc Try.prog Try.f12 Rows.planSymmetryRow.domain false) (Rows.planSymmetrySpec.post enc Try.prog Try.f12 false true false false) := by
  refine returnsInHanded_of_change (C := Try.checked) own_knob started (by kernel_rfl) Try.func12
    (ChangeSpec.witness6 (enc := enc) (C := Try.checked) false ⟨#[], #[.slice none 0 0, .agg #[.int .u8 0, .int .u8 0, .int .u8 0, .int .u8 0], .int .i32 0], []⟩ 8 (by kernel_rfl) (by kernel_rfl) (by kernel_rfl) (by kernel_rfl)) ?_
  intro W base args ds gs before hval0 hW hcnd _
  have hval : ∀ (j : Nat) t v, Try.f12.params[j]? = some t → args[j]? = some v → Value.okWide Try.prog W .any base t v := hval0
  have hW' := hW
  obtain ⟨p, q, hA0, hV, rfl, hfz, hnd⟩ := hW
  have hA : DataW.TrodAll enc Try.prog W 0 (fun _ => true) true Try.f12.params.toList args.toList ds p := hA0
  rw [Try.params12] at hA hval
  obtain ⟨v0, vs0, d0, ds0, p0, q0, hargs, rfl, rfl, h0, r0⟩ := trodAll_cons hA
  obtain ⟨v1, vs1, d1, ds1, p1, q1, rfl, rfl, rfl, h1, r1⟩ := trodAll_cons r0
  obtain ⟨v2, vs2, d2, ds2, p2, q2, rfl, rfl, rfl, h2, r2⟩ := trodAll_cons r1
  obtain ⟨rfl, rfl, rfl⟩ := trodAll_nil r2
  obtain rfl : args = #[v0, v1, v2] := by cases args; simp_all
  obtain ⟨rfl, rfl⟩ := trodVars_none hV
  have k0 := h0
  have lt0 : ∀ x ∈ p0, x.block < W.heap.size := by obtain ⟨m, hm⟩ := k0; exact DataW.trod_lt m _ _ _ hm
  obtain ⟨l0, hl0⟩ : ∃ l, Raws W v0 l := raws_of_trod (hval 0 22 v0 rfl rfl) h0
  have k1 := h1
  have lt1 : ∀ x ∈ p1, x.block < W.heap.size := by obtain ⟨m, hm⟩ := k1; exact DataW.trod_lt m _ _ _ hm
  obtain ⟨l1, hl1⟩ : ∃ l, OctV W v1 l := octV_of_trod (hval 1 84 v1 rfl rfl) h1
  obtain ⟨a2, rfl, rfl, rfl, w2⟩ := open_int Try.underlying21 (hval 2 21 v2 rfl rfl) h2
  have hb2 := w2
  simp [Lit.wf, IntKind.min, IntKind.max, IntKind.signed, IntKind.bits] at hb2
  clear hA0 hval0
  refine (planSymmetry_calls v0 l0 v1 l1 a2 hb2.1 hb2.2 W hl0 hl1).mono fun e W' ⟨he, bel⟩ => ?_
  subst he
  have bel' : Below W.heap.size W W' := bel
  exact ⟨_, rfl, _, _, _, [], _, [], hW', trodAll_mk1 (shut_bool Try.underlying4 _), (trodAll_cons_mk (Below.trod laid_out (by kernel_rfl) (of_decide_eq_true (by kernel_rfl)) k0 bel' lt0) (trodAll_cons_mk (Below.trod laid_out (by kernel_rfl) (of_decide_eq_true (by kernel_rfl)) k1 bel' lt1) (trodAll_cons_mk (shut_int Try.underlying21 w2) trodAll_mk0))), rfl, bel'.frame _, fun h => by cases h⟩

theorem planSymmetry_holds : Rows.PlanSymmetrySaid :=
  OpenClaim.holds_of_wide 12 Try.f12 rfl rfl rfl rfl rfl rfl rfl ⟨rfl, rfl, rfl, rfl, rfl⟩ rfl rfl rfl rfl rfl (by kernel_rfl) Try.func12 (by kernel_rfl)
    (of_decide_eq_true (by kernel_rfl)) (by unfold Func.isWrapper; rw [if_neg (of_decide_eq_false (by kernel_rfl))]; exact ⟨rfl, rfl⟩)
    (fun os started H enc _ => planSymmetry_lifted os started H enc)
end Go.Proofs.Ytkicielleiafgaa
