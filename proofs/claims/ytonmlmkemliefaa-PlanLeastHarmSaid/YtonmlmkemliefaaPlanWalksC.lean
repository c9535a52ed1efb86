/- Walks of package plan: validWish, Valid. -/
import Derived.Test.YtonmlmkemliefaaPlanWalksB
namespace Go.Proofs.Ytonmlmkemliefaa
open Go.RowKit

def prevP (l : List Int) (i : Nat) : Option Int := if i = 0 then none else l[i - 1]?
theorem prevP_zero (l : List Int) : prevP l 0 = none := rfl
theorem prevP_succ {l : List Int} {i : Nat} {x : Int} (h : l[i]? = some x) : prevP l (i + 1) = some x := by simp [prevP, h]
theorem prevP_pos {l : List Int} {i : Nat} {x : Int} (h : 0 < i) (hl : l[i - 1]? = some x) : prevP l i = some x := by
  simp only [prevP]; rw [if_neg (by omega), hl]
theorem peopleB_bad {l : List Int} {i : Nat} {x : Int} (d : l.drop i = x :: l.drop (i + 1)) (h : x < 0 ∨ 512 ≤ x) (p : Option Int) : peopleB p (l.drop i) = false := by
  rw [d]
  have : (decide (0 ≤ x) && decide (x < 512)) = false := by simp; omega
  cases p <;> simp only [peopleB, this] <;> rfl
theorem peopleB_step0 {l : List Int} {i : Nat} {x : Int} (d : l.drop i = x :: l.drop (i + 1)) (h : 0 ≤ x) (h' : x < 512) : peopleB none (l.drop i) = peopleB (some x) (l.drop (i + 1)) := by
  rw [d]; simp [peopleB, h, h']
theorem peopleB_step {l : List Int} {i : Nat} {x e : Int} (d : l.drop i = x :: l.drop (i + 1)) (h : 0 ≤ x) (h' : x < 512) (he : e < x) : peopleB (some e) (l.drop i) = peopleB (some x) (l.drop (i + 1)) := by
  rw [d]; simp [peopleB, h, h', he]
theorem peopleB_near {l : List Int} {i : Nat} {x e : Int} (d : l.drop i = x :: l.drop (i + 1)) (he : x ≤ e) : peopleB (some e) (l.drop i) = false := by
  rw [d]; simp [peopleB]; intro _ _ h'; omega

set_option maxHeartbeats 1600000 in
theorem validWish_calls (v : Value) (x : WishD) (w : World) (h : WishV w v x) :
    Calls Try.prog 50 #[v] w fun e w' => e = .returned (.bool (wishOkB x)) ∧ Ext w w' := by
  obtain ⟨pv, ov, rfl, hp, ho⟩ := h
  obtain ⟨pa, pc, rfl, hn, hc, hat⟩ := hp.open
  obtain ⟨oa, oc, rfl⟩ := ho.form
  have lo := ho.len
  have hcall : Hid (∀ W, Ext w W → Calls Try.prog 72 #[.slice oa x.opts.length oc, .func (.func 74) #[] #[]] W fun e w' => e = .returned (.bool (x.opts.any fun o => !optOkB o)) ∧ Ext W w') :=
    fun W hW => containsFunc_opt_calls _ _ _ (fun _ _ => by kernel_rfl) _ _ (ho.ext hW) (fun s _ W _ v hv => validWish1_calls v s W hv)
  clear hp ho
  go_enter Try.func50, Try.ntmps50
  go_wp2_with fail
  refine wp_abs (S := fun W => Ext w W ∧ W.cell? ⟨w.heap.size, 0, none⟩ = some (.int .i64 x.meeting) ∧ W.cell? ⟨w.heap.size, 1, none⟩ = some (.slice pa x.people.length pc) ∧ W.cell? ⟨w.heap.size, 2, none⟩ = some (.slice oa x.opts.length oc))
    ⟨(by repeat' (first | (with_reducible exact Ext.refl _) | (with_reducible assumption) | (with_reducible refine Ext.drewN ?_ _) | (with_reducible refine Ext.drew ?_) | (with_reducible refine Ext.alloc ?_ _) | (with_reducible refine Ext.trans ?_ (by with_reducible assumption)))), by simp, by simp, by simp⟩ ?_
  rintro W1 ⟨hx1, c0, c1, c2⟩
  go_loopw [8] (fun vi wr => ∃ i : Nat, i ≤ x.people.length ∧ vi = .int .i64 i ∧ Ext W1 wr ∧ Hid (peopleB none x.people = peopleB (prevP x.people i) (x.people.drop i))) (fun vi _ => x.people.length - (intOf vi).toNat)
  case atStart => exact ⟨0, by omega, rfl, Ext.refl _, rfl⟩
  case round =>
    obtain ⟨i, hi, rfl, hx, hF⟩ := hrel
    have d0 := hx.cell c0
    have d1 := hx.cell c1
    have d2 := hx.cell c2
    have hxw := hx1.trans hx
    clear c0 c1 c2
    by_cases h1 : i < x.people.length
    · obtain ⟨b1, o1, p, rfl, hb1, dx, ex, g1⟩ := hat i h1 wr hxw
      by_cases h2 : p < 0
      · have R : Hid (wishOkB x = false) := by show _ = _; rw [wishOkB, hF.out, peopleB_bad dx.out (Or.inl h2)]; rfl
        clear hF hat
        go_wp2
        go_ret
        rw [R.out]
        exact ⟨rfl, hxw⟩
      · by_cases h3 : 512 ≤ p
        · have R : Hid (wishOkB x = false) := by show _ = _; rw [wishOkB, hF.out, peopleB_bad dx.out (Or.inr h3)]; rfl
          clear hF hat
          go_wp2
          go_ret
          rw [R.out]
          exact ⟨rfl, hxw⟩
        · by_cases h4 : i = 0
          · have R : Hid (peopleB none x.people = peopleB (prevP x.people (i + 1)) (x.people.drop (i + 1))) := by
              show _ = _
              rw [hF.out, prevP_succ ex.out, h4, prevP_zero, peopleB_step0 (by have := dx.out; rwa [h4] at this) (by omega) (by omega)]
            have hd3 : decide (0 < i) = false := by simp; omega
            clear hF h4 hat
            go_wp2
            go_roundw
            case rel => exact ⟨i + 1, by omega, by go_num, hx, R⟩
            case measure => simp [intOf]; omega
          · obtain ⟨b2, o2, p0, e2, hb2, dx0, ex0, g3⟩ := hat (i - 1) (by omega) wr hxw
            cases e2
            have hp' := Lib.hid (prevP_pos (by omega) ex0.out)
            clear hb2 dx0 ex0 hat
            have hd3 : decide (0 < i) = true := by simp; omega
            have hi1 : 1 ≤ i := by omega
            have hi2 : (1 : Int) ≤ (i : Int) := by omega
            have hi3 : (i : Int) - 1 < (x.people.length : Int) := by omega
            by_cases h5 : p ≤ p0
            · have R : Hid (wishOkB x = false) := by show _ = _; rw [wishOkB, hF.out, hp'.out, peopleB_near dx.out h5]; rfl
              clear hF h4
              go_wp2
              go_ret
              rw [R.out]
              exact ⟨rfl, hxw⟩
            · have R : Hid (peopleB none x.people = peopleB (prevP x.people (i + 1)) (x.people.drop (i + 1))) := by
                show _ = _
                rw [hF.out, prevP_succ ex.out, hp'.out, peopleB_step dx.out (by omega) (by omega) (by omega)]
              have hd5 : decide (p ≤ p0) = false := by simpa using h5
              clear hF h4
              go_wp2
              go_roundw
              case rel => exact ⟨i + 1, by omega, by go_num, hx, R⟩
              case measure => simp [intOf]; omega
    · have hP : peopleB none x.people = true := by rw [hF.out, List.drop_of_length_le (by omega)]; cases prevP x.people i <;> rfl
      by_cases h2 : 1 ≤ x.meeting
      · by_cases h3 : 0 < x.opts.length
        · have R : Hid ((!x.opts.any fun o => !optOkB o) = wishOkB x) := by show _ = _; rw [wishOkB, hP, List.not_any_eq_all_not]; simp [h2, h3]
          clear hF hP hat
          have d3 : decide (0 < x.opts.length) = true := by simpa using h3
          go_wp2_with fail
          refine (hcall.out _ hxw).mono ?_
          rintro e w1 ⟨rfl, hx2⟩
          go_wp2
          go_ret
          rw [R.out]
          exact ⟨rfl, hxw.trans hx2⟩
        · have R : Hid (wishOkB x = false) := by show _ = _; simp [wishOkB, h3]
          clear hF hP hat
          have d3 : decide (0 < x.opts.length) = false := by simpa using h3
          go_wp2
          go_ret
          rw [R.out]
          exact ⟨rfl, hxw⟩
      · have R : Hid (wishOkB x = false) := by show _ = _; simp [wishOkB, h2]
        clear hF hP hat
        go_wp2
        go_ret
        rw [R.out]
        exact ⟨rfl, hxw⟩

end Go.Proofs.Ytonmlmkemliefaa
