/- CarryCheckIsSound holds: for every list of raw wishes, every list of bytes and every list of changes the law is true. -/
import Derived.Test.YtkicielleiafgaaCZL
import Derived.Test.YtkicielleiafgaaArgsB
namespace Go.Proofs.Ytkicielleiafgaa
open Go.ChangeShapes Go.WideShapes Go.ChangeAt Go.RowKit

theorem cells_tri : Try.prog.cellsOf 64 = 3 := by kernel_rfl
section
variable {H : Type} {enc : TypeId × Value → H} {w : World} {base base' : Nat} {spare : Nat → Bool} {held : Bool}
set_option maxRecDepth 100000 in
theorem tri_of_trod {fuel : Nat} {cs : List Value} {x : DataW H × List MemPlace} (h : DataW.trod enc Try.prog w base spare held fuel 64 cs = some x) : ∃ s : TriD, cs = [.int .u8 s.1, .int .u8 s.2.1, .int .u8 s.2.2] ∧ triOk s := by
  obtain ⟨xs, m, _, _, hl, hn, hx⟩ := DataW.trod_array Try.underlying64 h
  rw [cells_tri] at hl
  have hat : ∀ i, i < 3 → ∃ n, byteB n ∧ (cs.drop i).take 1 = [.int .u8 n] := by
    intro i hi
    have := hx i hi
    rw [cells_u8, Nat.mul_one, List.getElem?_eq_getElem (by omega)] at this
    obtain ⟨n, h1, h2⟩ := trod_u8 Try.underlying5 this
    exact ⟨n, h2, h1⟩
  match cs, hl with
  | [c0, c1, c2], _ =>
    obtain ⟨a, ka, ha⟩ := hat 0 (by omega)
    obtain ⟨b, kb, hb⟩ := hat 1 (by omega)
    obtain ⟨c, kc, hc⟩ := hat 2 (by omega)
    simp at ha hb hc
    exact ⟨(a, b, c), by rw [ha, hb, hc], ka, kb, kc⟩
set_option maxRecDepth 100000 in
theorem tris_of_trod {r : Reach} {v : Value} {d : DataW H} {ps : List MemPlace} (hv : Value.okWide Try.prog w r base 63 v) (h0 : DataW.Trod enc Try.prog w base' spare held 63 v d ps) : ∃ l, Tris w v l := by
  obtain ⟨a0, n0, c0, rfl⟩ := okWide_slice Try.underlying63 hv
  obtain ⟨fuel, h⟩ := h0
  obtain ⟨a, len, cap, m, C, e, hl, hm, _, hc, hx⟩ := slice_cells Try.underlying63 (by rw [cells_tri]; omega) h
  rw [cells_tri] at hc
  obtain ⟨f, hf⟩ := Go.Deep.choose_lt (n := len) (p := fun i (y : TriD) => C i = [.int .u8 y.1, .int .u8 y.2.1, .int .u8 y.2.2] ∧ triOk y) (fun i hi => let ⟨_, y, hy⟩ := hx i hi; tri_of_trod hy)
  refine ⟨(List.range len).map f, ⟨a, cap, by rw [e]; simp, by simpa using hl, hm, fun h0 => ?_⟩, fun s hs => ?_⟩
  · obtain ⟨b, off, ha, hb, hcell⟩ := hc (by simpa using h0)
    refine ⟨b, off, ha, hb, fun i hi j hj => ?_⟩
    have hi' : i < len := by simpa using hi
    rw [hcell i hi' j hj, (hf i hi').1]
    match j, hj with
    | 0, _ => simp [hi']
    | 1, _ => simp [hi']
    | 2, _ => simp [hi']
  · obtain ⟨i, hi, rfl⟩ := List.mem_map.1 hs
    exact (hf i (List.mem_range.1 hi)).2
end
set_option maxRecDepth 100000 in
theorem carryCheckIsSound_lifted (os : Os) (started : os.Started) (H : Type) (enc : TypeId × Value → H) :
    ReturnsInHanded {} Try.checked os 9 .any (Rows.carryCheckIsSoundSpec.pre6 enc Try.prog Try.f9 Rows.carryCheckIsSoundRow.domain false) (Rows.carryCheckIsSoundSpec.post enc Try.prog Try.f9 false true false false) := by
  refine returnsInHanded_of_change (C := Try.checked) own_knob started (by kernel_rfl) Try.func9
    (ChangeSpec.witness6 (enc := enc) (C := Try.checked) false ⟨#[], #[.slice none 0 0, .slice none 0 0, .slice none 0 0], []⟩ 8 (by kernel_rfl) (by kernel_rfl) (by kernel_rfl) (by kernel_rfl)) ?_
  intro W base args ds gs before hval0 hW hcnd _
  have hval : ∀ (j : Nat) t v, Try.f9.params[j]? = some t → args[j]? = some v → Value.okWide Try.prog W .any base t v := hval0
  have hW' := hW
  obtain ⟨p, q, hA0, hV, rfl, hfz, hnd⟩ := hW
  have hA : DataW.TrodAll enc Try.prog W 0 (fun _ => true) true Try.f9.params.toList args.toList ds p := hA0
  rw [Try.params9] at hA hval
  obtain ⟨v0, vs0, d0, ds0, p0, q0, hargs, rfl, rfl, h0, r0⟩ := trodAll_cons hA
  obtain ⟨v1, vs1, d1, ds1, p1, q1, rfl, rfl, rfl, h1, r1⟩ := trodAll_cons r0
  obtain ⟨v2, vs2, d2, ds2, p2, q2, rfl, rfl, rfl, h2, r2⟩ := trodAll_cons r1
  obtain ⟨rfl, rfl, rfl⟩ := trodAll_nil r2
  obtain rfl : args = #[v0, v1, v2] := by cases args; simp_all
  obtain ⟨rfl, rfl⟩ := trodVars_none hV
  have k0 := h0
  have lt0 : ∀ x ∈ p0, x.block < W.heap.size := by obtain ⟨m, hm⟩ := k0; exact DataW.trod_lt m _ _ _ hm
  obtain ⟨l0, hl0⟩ : ∃ l, Raws W v0 l := raws_of_trod (hval 0 22 v0 rfl rfl) h0
  have k1 := h1
  have lt1 : ∀ x ∈ p1, x.block < W.heap.size := by obtain ⟨m, hm⟩ := k1; exact DataW.trod_lt m _ _ _ hm
  obtain ⟨l1, hl1⟩ : ∃ l, Bytes W v1 l := bytes_of_trod (hval 1 23 v1 rfl rfl) h1
  have k2 := h2
  have lt2 : ∀ x ∈ p2, x.block < W.heap.size := by obtain ⟨m, hm⟩ := k2; exact DataW.trod_lt m _ _ _ hm
  obtain ⟨l2, hl2⟩ : ∃ l, Tris W v2 l := tris_of_trod (hval 2 63 v2 rfl rfl) h2
  clear hA0 hval0
  refine (carryCheckIsSound_calls v0 l0 v1 l1 v2 l2 W hl0 hl1 hl2).mono fun e W' ⟨he, bel⟩ => ?_
  subst he
  have bel' : Below W.heap.size W W' := bel
  exact ⟨_, rfl, _, _, _, [], _, [], hW', trodAll_mk1 (shut_bool Try.underlying4 _), (trodAll_cons_mk (Below.trod laid_out (by kernel_rfl) (of_decide_eq_true (by kernel_rfl)) k0 bel' lt0) (trodAll_cons_mk (Below.trod laid_out (by kernel_rfl) (of_decide_eq_true (by kernel_rfl)) k1 bel' lt1) (trodAll_cons_mk (Below.trod laid_out (by kernel_rfl) (of_decide_eq_true (by kernel_rfl)) k2 bel' lt2) trodAll_mk0))), rfl, bel'.frame _, fun h => by cases h⟩

theorem carryCheckIsSound_holds : Rows.CarryCheckIsSoundSaid :=
  OpenClaim.holds_of_wide 9 Try.f9 rfl rfl rfl rfl rfl rfl rfl ⟨rfl, rfl, rfl, rfl, rfl⟩ rfl rfl rfl rfl rfl (by kernel_rfl) Try.func9 (by kernel_rfl)
    (of_decide_eq_true (by kernel_rfl)) (by unfold Func.isWrapper; rw [if_neg (of_decide_eq_false (by kernel_rfl))]; exact ⟨rfl, rfl⟩)
    (fun os started H enc _ => carryCheckIsSound_lifted os started H enc)
end Go.Proofs.Ytkicielleiafgaa
