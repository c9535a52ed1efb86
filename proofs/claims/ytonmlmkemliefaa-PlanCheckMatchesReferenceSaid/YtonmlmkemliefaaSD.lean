/- Walks of the reference of plans: Check. -/
import Derived.Test.YtonmlmkemliefaaSC
import Derived.Test.YtonmlmkemliefaaSA
import Derived.Test.YtonmlmkemliefaaRC
namespace Go.Proofs.Ytonmlmkemliefaa
open Go.RowKit

theorem checkR_invalid {t : List WishD} {bound : Int} {c : List NodeD} (h : validT t ≠ 0) : checkR t bound c = validT t := by unfold checkR; rw [if_pos h]
theorem checkR_form {t : List WishD} {bound : Int} {c : List NodeD} (h : validT t = 0) (hf : formedB c = false) : checkR t bound c = 3 := by unfold checkR; simp [h, hf]
theorem checkR_all {t : List WishD} {bound : Int} {c : List NodeD} (h : validT t = 0) (hf : formedB c = true) (ha : ∀ a, a < c.length → rightR t bound c a = true) : checkR t bound c = 0 := by
  unfold checkR
  simp only [h, hf]
  rw [if_neg (by simp), if_neg (by simp), if_pos]
  rw [List.all_eq_true]
  exact fun a h => ha a (List.mem_range.1 h)
theorem checkR_no {t : List WishD} {bound : Int} {c : List NodeD} (h : validT t = 0) (hf : formedB c = true) {a : Nat} (hl : a < c.length) (ha : rightR t bound c a = false) : checkR t bound c = 11 := by
  unfold checkR
  simp only [h, hf]
  rw [if_neg (by simp), if_neg (by simp), if_neg]
  rw [List.all_eq_true]
  intro h'
  have := h' a (List.mem_range.2 hl)
  rw [ha] at this
  cases this
set_option maxHeartbeats 1600000 in
set_option maxRecDepth 100000 in
theorem rCheckR_calls (tv cv : Value) (t : List WishD) (bound : Int) (c : List NodeD) (w : World) (h : Wishes w tv t) (hc : Nodes w cv c) (ho : ∀ x ∈ t, 0 < x.opts.length) (hk : ∀ n ∈ c, n.kids.length ≤ 65536) :
    Calls Try.prog 21 #[.agg #[tv], .int .i64 bound, cv] w fun e w' => e = .returned (.int .i64 (checkR t bound c)) ∧ Ext w w' := by
  have hT := Lib.hid h
  have hN := Lib.hid hc
  obtain ⟨ta, tc, rfl⟩ := h.form
  obtain ⟨ca, cc, rfl, _, hcc, _⟩ := hc.open
  have hval : ∀ z, validT t = z → ∀ W, Ext w W → Calls Try.prog 27 #[.agg #[.slice ta t.length tc]] W fun e w' => e = .returned (.int .i64 z) ∧ Ext W w' :=
    fun z hz W hW => hz ▸ rValid_calls _ t W (hT.out.ext hW)
  have bad : ∀ z, validT t = z → (z == 0) = false → Calls Try.prog 21 #[.agg #[.slice ta t.length tc], .int .i64 bound, .slice ca c.length cc] w fun e w' => e = .returned (.int .i64 (checkR t bound c)) ∧ Ext w w' := by
    intro z hz hz0
    have R : Hid (checkR t bound c = z) := by
      show _ = _
      rw [checkR_invalid (by rw [hz]; intro e; rw [e] at hz0; cases hz0), hz]
    have hc1 := Lib.hid (hval z hz)
    have hz1 : (z != 0) = true := by simpa using hz0
    clear hval hz h hc
    go_enter Try.func21, Try.ntmps21
    go_wp2_with fail
    refine (hc1.out _ (by repeat' (first | (with_reducible exact Ext.refl _) | (with_reducible assumption) | (with_reducible refine Ext.drewN ?_ _) | (with_reducible refine Ext.drew ?_) | (with_reducible refine Ext.alloc ?_ _) | (with_reducible refine Ext.trans ?_ (by with_reducible assumption))))).mono ?_
    rintro e w1 ⟨rfl, hx1⟩
    go_wp2
    go_ret
    rw [R.out]
    exact ⟨rfl, ((Ext.refl _).alloc _).trans hx1⟩
  rcases validT_cases t with hv | hv | hv
  rotate_left
  · exact bad _ hv rfl
  · exact bad _ hv rfl
  have hc1 := Lib.hid (hval _ hv)
  have hv' := Lib.hid hv
  have ho' := Lib.hid ho
  have hkk := Lib.hid hk
  clear hval hv bad h hc ho hk
  have hfo : Hid (∀ W, Ext w W → Calls Try.prog 44 #[.slice ca c.length cc] W fun e w' => e = .returned (.bool (formedB c)) ∧ Ext W w') :=
    fun W hW => rFormed_calls _ c W (hN.out.ext hW) hkk.out
  go_enter Try.func21, Try.ntmps21
  go_wp2_with fail
  refine (hc1.out _ (by repeat' (first | (with_reducible exact Ext.refl _) | (with_reducible assumption) | (with_reducible refine Ext.drewN ?_ _) | (with_reducible refine Ext.drew ?_) | (with_reducible refine Ext.alloc ?_ _) | (with_reducible refine Ext.trans ?_ (by with_reducible assumption))))).mono ?_
  rintro e w1 ⟨rfl, hx1⟩
  have c0 : w1.cell? ⟨w.heap.size, 0, none⟩ = some (.slice ta t.length tc) := hx1.cell (by simp)
  have hxw := Lib.hid (((Ext.refl w).alloc (.cells #[.slice ta t.length tc] 26)).trans hx1)
  clear hx1 hc1
  go_wp2_with fail
  refine (hfo.out _ hxw.out).mono ?_
  rintro e w2 ⟨rfl, hx2⟩
  have hxw2 := Lib.hid (hxw.out.trans hx2)
  have c2 := hx2.cell c0
  clear c0 hx2 hfo hxw
  cases hf : formedB c with
  | false =>
    have R : Hid (checkR t bound c = 3) := Lib.hid (checkR_form hv'.out hf)
    clear hf
    go_wp2
    go_ret
    rw [R.out]
    exact ⟨rfl, hxw2.out⟩
  | true =>
    have hff := Lib.hid hf
    have hcl : c.length ≤ 65536 := (formed_in hf).2.1
    clear hf
    go_wp2_with fail
    go_loopw [8] (fun vi wr => ∃ i : Nat, i ≤ c.length ∧ vi = .int .i64 i ∧ Hid (Ext w2 wr) ∧ Hid (∀ a, a < i → rightR t bound c a = true)) (fun vi _ => c.length - (intOf vi).toNat)
    case atStart => exact ⟨0, by omega, rfl, Lib.hid (Ext.refl _), fun a h => by omega⟩
    case round =>
      obtain ⟨i, hi, rfl, hx, hG⟩ := hrel
      have d0 := hx.out.cell c2
      by_cases h1 : i < c.length
      · have hd : DecOk t (pathP t.length c i) := pathP_dec (fun j n hj hn => right_fits hn (hG.out j hj)) (by omega)
        have hcl := Lib.hid (rRight_calls _ _ t bound c i wr (hT.out.ext (hxw2.out.trans hx.out)) (hN.out.ext (hxw2.out.trans hx.out)) hv'.out ho'.out h1 hcl hkk.out hd)
        obtain ⟨z, hz⟩ : ∃ z, Hid (rightR t bound c i = z) := ⟨_, rfl⟩
        rw [hz.out] at hcl
        clear hd
        cases z with
        | true =>
          have hG' : Hid (∀ a, a < i + 1 → rightR t bound c a = true) := fun a ha => by
            rcases Nat.lt_succ_iff_lt_or_eq.1 ha with h | rfl
            · exact hG.out a h
            · exact hz.out
          clear hG hz
          go_wp2_with fail
          refine hcl.out.mono ?_
          rintro e w3 ⟨rfl, hx3⟩
          have hx3' := Lib.hid (hx.out.trans hx3)
          clear hx3 hcl
          go_wp2
          go_roundw
          case rel => exact ⟨i + 1, by omega, by go_num, hx3', hG'⟩
          case measure => simp [intOf]; omega
        | false =>
          have R : Hid (checkR t bound c = 11) := Lib.hid (checkR_no hv'.out hff.out h1 hz.out)
          clear hG hz
          go_wp2_with fail
          refine hcl.out.mono ?_
          rintro e w3 ⟨rfl, hx3⟩
          clear hcl
          go_wp2
          go_ret
          rw [R.out]
          exact ⟨rfl, (hxw2.out.trans hx.out).trans hx3⟩
      · have R : Hid (checkR t bound c = 0) := Lib.hid (checkR_all hv'.out hff.out fun a ha => hG.out a (by omega))
        clear hG
        go_wp2
        go_ret
        rw [R.out]
        exact ⟨rfl, hxw2.out.trans hx.out⟩
theorem rCheck_calls (tv cv : Value) (t : List WishD) (bound : Int) (c : List NodeD) (w : World) (h : Wishes w tv t) (hc : Nodes w cv c) (ho : ∀ x ∈ t, 0 < x.opts.length) (hk : ∀ n ∈ c, n.kids.length ≤ 65536) :
    Calls Try.prog 21 #[.agg #[tv], .int .i64 bound, cv] w fun e w' => e = .returned (.int .i64 (checkT t bound c)) ∧ Ext w w' := by
  have := rCheckR_calls tv cv t bound c w h hc ho hk
  rwa [checkR_eq] at this
end Go.Proofs.Ytonmlmkemliefaa
