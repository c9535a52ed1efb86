/- Walks of package span's small functions: far, ranged, Valid; and of slices.IndexFunc, ContainsFunc at spans. -/
import Derived.Test.YtonmlmkemliefaaPlanPure
namespace Go.Proofs.Ytonmlmkemliefaa
open Go.RowKit

theorem far_calls (t : Int) (w : World) : Calls Try.prog 91 #[.int .i64 t] w fun e w' => e = .returned (.bool (farB t)) ∧ Ext w w' := by
  by_cases h1 : t < -2251799813685248
  · have R : Hid (farB t = true) := by show _ = _; simp [farB, h1]
    go_enter Try.func91, Try.ntmps91
    go_wp2
    go_ret
    rw [R.out]
    exact ⟨rfl, Ext.refl _⟩
  · by_cases h2 : 2251799813685248 < t
    · have R : Hid (farB t = true) := by show _ = _; simp [farB, h2]
      go_enter Try.func91, Try.ntmps91
      go_wp2
      go_ret
      rw [R.out]
      exact ⟨rfl, Ext.refl _⟩
    · have R : Hid (farB t = false) := by show _ = _; simp [farB, h1, h2]
      go_enter Try.func91, Try.ntmps91
      go_wp2
      go_ret
      rw [R.out]
      exact ⟨rfl, Ext.refl _⟩

theorem ranged1_calls (s : Int × Int) (w : World) : Calls Try.prog 90 #[.agg #[.int .i64 s.1, .int .i64 s.2]] w fun e w' => e = .returned (.bool (farB s.1 || farB s.2)) ∧ Ext w w' := by
  obtain ⟨x, y⟩ := s
  dsimp only
  cases h1 : farB x with
  | true =>
    go_enter Try.func90, Try.ntmps90
    go_wp2_with fail
    refine (far_calls _ _).mono ?_
    rintro e w1 ⟨rfl, hx⟩
    go_wp2
    go_ret
    exact ⟨rfl, ((Ext.refl _).alloc _).trans hx⟩
  | false =>
    go_enter Try.func90, Try.ntmps90
    go_wp2_with fail
    refine (far_calls _ _).mono ?_
    rintro e w1 ⟨rfl, hx⟩
    have c1 : w1.cell? ⟨w.heap.size, 1, none⟩ = some (.int .i64 y) := hx.cell (by simp)
    go_wp2_with fail
    refine (far_calls _ _).mono ?_
    rintro e w2 ⟨rfl, hx2⟩
    go_wp2
    go_ret
    exact ⟨rfl, (((Ext.refl _).alloc _).trans hx).trans hx2⟩

set_option maxHeartbeats 400000 in
theorem indexFunc_span_calls (va : Value) (l : List (Int × Int)) (g : Nat) (hg : ∀ (x : Array Value) (W : World), (callFunc g x).run Try.prog W = .ok (.enter g x) W) (p : Int × Int → Bool) (w : World) (h : Spans w va l)
    (hf : ∀ s ∈ l, ∀ W, Ext w W → Calls Try.prog g #[.agg #[.int .i64 s.1, .int .i64 s.2]] W fun e w' => e = .returned (.bool (p s)) ∧ Ext W w') :
    Calls Try.prog 95 #[va, .func (.func g) #[] #[]] w fun e w' => e = .returned (.int .i64 (findI p l)) ∧ Ext w w' := by
  obtain ⟨a, c, rfl, hn, hc, hat⟩ := h.open
  clear h
  have hf' := Lib.hid hf
  clear hf
  go_enter Try.func95, Try.ntmps95
  go_wp2_with fail
  go_loopw [8] (fun vi wr => ∃ i : Nat, i ≤ l.length ∧ vi = .int .i64 i ∧ Ext w wr ∧ Hid (FindAt p l i)) (fun vi _ => l.length - (intOf vi).toNat)
  case atStart => exact ⟨0, by omega, rfl, Ext.refl _, FindAt.zero _ _⟩
  case round =>
    obtain ⟨i, hi, rfl, hx, hF⟩ := hrel
    by_cases h1 : i < l.length
    · obtain ⟨b1, o1, x, y, rfl, hb1, dx, ex, g1, g2⟩ := hat i h1 wr hx
      have hm : (x, y) ∈ l := List.mem_of_getElem? ex.out
      have hcall := Lib.hid (hf'.out (x, y) hm wr hx)
      cases hp : p (x, y) with
      | true =>
        have R := Lib.hid (hF.out.hit ex.out hp)
        have hp' := Lib.hid hp
        clear hp
        go_wp2_with fail
        refine hcall.out.mono ?_
        rintro e w1 ⟨rfl, hx1⟩
        rw [hp'.out]
        go_wp2
        go_ret
        rw [R.out]
        exact ⟨rfl, hx.trans hx1⟩
      | false =>
        have R := Lib.hid (hF.out.miss ex.out hp)
        have hp' := Lib.hid hp
        clear hp
        go_wp2_with fail
        refine hcall.out.mono ?_
        rintro e w1 ⟨rfl, hx1⟩
        rw [hp'.out]
        go_wp2
        go_roundw
        case rel => exact ⟨i + 1, by omega, by go_num, hx.trans hx1, R⟩
        case measure => simp [intOf]; omega
    · have R := Lib.hid (hF.out.none (by omega))
      go_wp2
      go_ret
      rw [R.out]
      exact ⟨rfl, hx⟩

theorem containsFunc_span_calls (va : Value) (l : List (Int × Int)) (g : Nat) (hg : ∀ (x : Array Value) (W : World), (callFunc g x).run Try.prog W = .ok (.enter g x) W) (p : Int × Int → Bool) (w : World) (h : Spans w va l)
    (hf : ∀ s ∈ l, ∀ W, Ext w W → Calls Try.prog g #[.agg #[.int .i64 s.1, .int .i64 s.2]] W fun e w' => e = .returned (.bool (p s)) ∧ Ext W w') :
    Calls Try.prog 89 #[va, .func (.func g) #[] #[]] w fun e w' => e = .returned (.bool (l.any p)) ∧ Ext w w' := by
  have hc := Lib.hid (indexFunc_span_calls va l g hg p w h hf)
  have R := Lib.hid (findI_ge p l)
  clear hf h
  go_enter Try.func89, Try.ntmps89
  go_wp2_with fail
  refine hc.out.mono ?_
  rintro e w1 ⟨rfl, hx1⟩
  go_wp2
  go_ret
  rw [R.out]
  exact ⟨rfl, hx1⟩

theorem ranged_calls (va : Value) (l : List (Int × Int)) (w : World) (h : Spans w va l) :
    Calls Try.prog 79 #[va] w fun e w' => e = .returned (.bool (rangedB l)) ∧ Ext w w' := by
  have hc := Lib.hid (containsFunc_span_calls va l 90 (fun _ _ => by kernel_rfl) (fun s => farB s.1 || farB s.2) w h (fun s _ W _ => ranged1_calls s W))
  have R : Hid ((!l.any fun s => farB s.1 || farB s.2) = rangedB l) := by show _ = _; rw [rangedB, List.not_any_eq_all_not]
  clear h
  go_enter Try.func79, Try.ntmps79
  go_wp2_with fail
  refine hc.out.mono ?_
  rintro e w1 ⟨rfl, hx1⟩
  go_wp2
  go_ret
  rw [R.out]
  exact ⟨rfl, hx1⟩


/-- the bound of the element before place i -/
def prevTo (l : List (Int × Int)) (i : Nat) : Option Int := if i = 0 then none else l[i - 1]?.map (·.2)
theorem prevTo_zero (l : List (Int × Int)) : prevTo l 0 = none := rfl
theorem prevTo_succ {l : List (Int × Int)} {i : Nat} {x y : Int} (h : l[i]? = some (x, y)) : prevTo l (i + 1) = some y := by simp [prevTo, h]
theorem prevTo_pos {l : List (Int × Int)} {i : Nat} {x y : Int} (h : 0 < i) (hl : l[i - 1]? = some (x, y)) : prevTo l i = some y := by
  simp only [prevTo]; rw [if_neg (by omega), hl]; rfl
theorem chainB_first {l : List (Int × Int)} {i : Nat} {x y : Int} (d : l.drop i = (x, y) :: l.drop (i + 1)) (h : y ≤ x) (p : Option Int) : chainB p (l.drop i) = false := by
  rw [d]; cases p <;> (simp [chainB]; intro h'; omega)
theorem chainB_step0 {l : List (Int × Int)} {i : Nat} {x y : Int} (d : l.drop i = (x, y) :: l.drop (i + 1)) (h : x < y) : chainB none (l.drop i) = chainB (some y) (l.drop (i + 1)) := by
  rw [d, chainB]; simp [h]
theorem chainB_step {l : List (Int × Int)} {i : Nat} {x y e : Int} (d : l.drop i = (x, y) :: l.drop (i + 1)) (h : x < y) (he : e < x) : chainB (some e) (l.drop i) = chainB (some y) (l.drop (i + 1)) := by
  rw [d, chainB]; simp [h, he]
theorem chainB_near {l : List (Int × Int)} {i : Nat} {x y e : Int} (d : l.drop i = (x, y) :: l.drop (i + 1)) (he : x ≤ e) : chainB (some e) (l.drop i) = false := by
  rw [d, chainB]; simp; intro _ h'; omega

set_option maxHeartbeats 800000 in
theorem spanValid_calls (va : Value) (l : List (Int × Int)) (w : World) (h : Spans w va l) :
    Calls Try.prog 87 #[va] w fun e w' => e = .returned (.bool (normalB l)) ∧ Ext w w' := by
  have h' := Lib.hid h
  obtain ⟨a, c, rfl, hn, hc, hat⟩ := h.open
  clear h
  go_enter Try.func87, Try.ntmps87
  go_wp2_with fail
  go_loopw [7] (fun vi wr => ∃ i : Nat, i ≤ l.length ∧ vi = .int .i64 i ∧ Ext w wr ∧ Hid (chainB none l = chainB (prevTo l i) (l.drop i))) (fun vi _ => l.length - (intOf vi).toNat)
  case atStart => exact ⟨0, by omega, rfl, Ext.refl _, rfl⟩
  case round =>
    obtain ⟨i, hi, rfl, hx, hF⟩ := hrel
    by_cases h1 : i < l.length
    · obtain ⟨b1, o1, x, y, rfl, hb1, dx, ex, g1, g2⟩ := hat i h1 wr hx
      by_cases h2 : y ≤ x
      · have R : Hid (normalB l = false) := by show _ = _; rw [normalB, hF.out, chainB_first dx.out h2]; rfl
        clear hF
        go_wp2_with fail
        go_quiet (fail)
        go_wp2
        go_ret
        rw [R.out]
        exact ⟨rfl, (hx.alloc _).drewN _⟩
      · have hd2 : decide (y ≤ x) = false := by simpa using h2
        by_cases h3 : i = 0
        · have R : Hid (chainB none l = chainB (prevTo l (i + 1)) (l.drop (i + 1))) := by
            show _ = _
            rw [hF.out, prevTo_succ ex.out, h3, prevTo_zero, chainB_step0 (by have := dx.out; rwa [h3] at this) (by omega)]
          have hd3 : decide (0 < i) = false := by simp; omega
          clear hF h3
          go_wp2_with fail
          go_quiet (fail)
          go_wp2
          go_roundw
          case rel => exact ⟨i + 1, by omega, by go_num, (hx.alloc _).drewN _, R⟩
          case measure => simp [intOf]; omega
        · obtain ⟨b2, o2, x0, y0, e2, hb2, dx0, ex0, g3, g4⟩ := hat (i - 1) (by omega) wr hx
          cases e2
          have hp := prevTo_pos (by omega) ex0.out
          have hp' := Lib.hid hp
          clear hp g3 hb2 dx0 ex0
          have hd3 : decide (0 < i) = true := by simp; omega
          have hi1 : 1 ≤ i := by omega
          have hi2 : (1 : Int) ≤ (i : Int) := by omega
          have hi3 : (i : Int) - 1 < (l.length : Int) := by omega
          by_cases h4 : x ≤ y0
          · have R : Hid (normalB l = false) := by show _ = _; rw [normalB, hF.out, hp'.out, chainB_near dx.out h4]; rfl
            have hd4 : decide (x ≤ y0) = true := by simpa using h4
            clear hF h3
            go_wp2_with fail
            go_quiet (fail)
            go_wp2
            go_ret
            rw [R.out]
            exact ⟨rfl, (hx.alloc _).drewN _⟩
          · have hd4 : decide (x ≤ y0) = false := by simpa using h4
            have R : Hid (chainB none l = chainB (prevTo l (i + 1)) (l.drop (i + 1))) := by
              show _ = _
              rw [hF.out, prevTo_succ ex.out, hp'.out, chainB_step dx.out (by omega) (by omega)]
            clear hF h3
            go_wp2_with fail
            go_quiet (fail)
            go_wp2
            go_roundw
            case rel => exact ⟨i + 1, by omega, by go_num, (hx.alloc _).drewN _, R⟩
            case measure => simp [intOf]; omega
    · have hcall := Lib.hid (ranged_calls _ l wr (h'.out.ext hx))
      have R : Hid (rangedB l = normalB l) := by
        show _ = _
        rw [normalB, hF.out, List.drop_of_length_le (by omega), chainB]; rfl
      clear hF
      go_wp2_with fail
      refine hcall.out.mono ?_
      rintro e w1 ⟨rfl, hx1⟩
      go_wp2
      go_ret
      rw [R.out]
      exact ⟨rfl, hx.trans hx1⟩

end Go.Proofs.Ytonmlmkemliefaa
