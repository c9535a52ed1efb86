/- Walks of the reference of carry: Same, SameSteps. -/
import Derived.Test.YtkicielleiafgaaCN
import Derived.Laws.StructEq
namespace Go.Proofs.Ytkicielleiafgaa
open Go.RowKit

set_option maxHeartbeats 800000 in
theorem rSame35_calls (va vb : Value) (a b : List Int) (w : World) (ha : Ints w va a) (hb : Ints w vb b) :
    Calls Try.prog 22 #[va, vb] w fun e w' => e = .returned (.bool (decide (a = b))) ∧ Ext w w' := by
  obtain ⟨aa, ac, rfl, han, hac, aat⟩ := ha.open
  obtain ⟨ba, bc, rfl, hbn, hbc, bat⟩ := hb.open
  have aat' := Lib.hid aat
  have bat' := Lib.hid bat
  clear ha hb aat bat
  by_cases hl : a.length = b.length
  · have d0 : ((a.length : Int) != b.length) = false := by simp [hl]
    have hl' := Lib.hid hl
    have l1 : a.length ≤ b.length := Nat.le_of_eq hl
    have l2 : b.length ≤ a.length := Nat.le_of_eq hl.symm
    clear hl
    go_enter Try.func22, Try.ntmps22
    go_wp2_with fail
    go_loopw [5] (fun vi wr => ∃ i : Nat, i ≤ a.length ∧ vi = .int .i64 i ∧ Hid (Ext w wr) ∧ Hid (a.take i = b.take i)) (fun vi _ => a.length - (intOf vi).toNat)
    case atStart => exact ⟨0, by omega, rfl, Lib.hid (Ext.refl _), Lib.hid (by simp)⟩
    case round =>
      obtain ⟨i, hi, rfl, hx, hF⟩ := hrel
      by_cases h1 : i < a.length
      · obtain ⟨b1, o1, x, rfl, hb1, _, ex, g0⟩ := aat'.out i h1 wr hx.out
        obtain ⟨b2, o2, y, rfl, hb2, _, ey, g1⟩ := bat'.out i (by omega) wr hx.out
        have hstep := Lib.hid (beq_drop ex.out ey.out hF.out)
        clear ex ey
        by_cases hxy : x = y
        · have d1 : (x != y) = false := by simp [hxy]
          have R : Hid (a.take (i + 1) = b.take (i + 1)) := hstep.out.2 hxy
          clear hxy hstep
          go_upto_region 6 with (fail)
          have z1 := After.cell g0
          have z2 := After.cell g1
          clear g0 g1
          refine wp_region_after (by kernel_rfl) (by kernel_rfl) ?_
          repeat (go_big_quiet_step (fail))
          refine wpQuiet_nil ?_
          rintro _ ⟨u, rfl⟩
          have hu := Lib.hid (hx.out.trans u.ext)
          generalize u.world = W at hu ⊢
          clear z1 z2
          go_wp2
          go_roundw
          case rel => exact ⟨i + 1, by omega, by go_num, hu, R⟩
          case measure => simp [intOf]; omega
        · have d1 : (x != y) = true := by simp [hxy]
          have R : Hid (decide (a = b) = false) := decide_eq_false (fun e => hxy (hstep.out.1 (by rw [e])))
          clear hxy hstep
          go_upto_region 6 with (fail)
          have z1 := After.cell g0
          have z2 := After.cell g1
          clear g0 g1
          refine wp_region_after (by kernel_rfl) (by kernel_rfl) ?_
          repeat (go_big_quiet_step (fail))
          refine wpQuiet_nil ?_
          rintro _ ⟨u, rfl⟩
          have hu := Lib.hid (hx.out.trans u.ext)
          generalize u.world = W at hu ⊢
          clear z1 z2
          go_wp2
          go_ret
          rw [R.out]
          exact ⟨rfl, hu.out⟩
      · have R : Hid (decide (a = b) = true) := decide_eq_true (by
          have := hF.out
          rwa [List.take_of_length_le (by omega), List.take_of_length_le (by omega)] at this)
        go_wp2
        go_ret
        rw [R.out]
        exact ⟨rfl, hx.out⟩
  · have d0 : ((a.length : Int) != b.length) = true := by simp; omega
    have R : Hid (decide (a = b) = false) := decide_eq_false (fun e => hl (by rw [e]))
    clear hl
    go_enter Try.func22, Try.ntmps22
    go_wp2
    go_ret
    rw [R.out]
    exact ⟨rfl, Ext.refl _⟩

theorem stp_eql (x y u v : Int) (w : World) : (binOp .eql 42 (.agg #[.int .i64 x, .int .i64 y]) (.agg #[.int .i64 u, .int .i64 v])).run Try.prog w = .ok (.bool (decide (x = u) && decide (y = v))) w := by
  have u3 := Try.underlying3
  have a3 := Try.isAgg3
  have z3 := Try.sizeOf3
  have hS : Try.prog.underlying 42 = some (.struct (Try.prog.fieldsOf 42)) := by kernel_rfl
  have hp : Try.prog.stoodInHeld 42 = false := by kernel_rfl
  rw [run_eql_struct, show (10000 : Nat) = 9999 + 1 from rfl, run_equalIn_agg w 9999 42 _ _ hS hp]
  simp only [Program.fieldsOf, Try.underlying42]
  go_simp
  by_cases h1 : x = u <;> by_cases h2 : y = v <;> simp [h1, h2]
theorem stp_neq (x y u v : Int) (w : World) : (binOp .neq 42 (.agg #[.int .i64 x, .int .i64 y]) (.agg #[.int .i64 u, .int .i64 v])).run Try.prog w = .ok (.bool (!(decide (x = u) && decide (y = v)))) w := by
  have h := stp_eql x y u v w
  rw [run_eql_struct] at h
  rw [run_neq_struct]
  generalize (Op.equalIn 10000 42 (.agg #[.int .i64 x, .int .i64 y]) (.agg #[.int .i64 u, .int .i64 v])).run Try.prog w = r at h ⊢
  cases r with
  | ok b w1 =>
    simp only [Result.andThen_ok] at h ⊢
    cases h
    rfl
  | _ => simp [Result.andThen] at h
theorem stp_guard (op : BinOp) (a b : Operand) (x y u v : Int) (w : World) : (eqGuard op 42 a b (.agg #[.int .i64 x, .int .i64 y]) (.agg #[.int .i64 u, .int .i64 v])).run Try.prog w = .ok () w :=
  run_eqGuard_agg w op 42 a b #[.int .i64 x, .int .i64 y] #[.int .i64 u, .int .i64 v] (by kernel_rfl)
def sameSt (a b : List (Int × Int)) : Bool := decide (a = b)
set_option maxHeartbeats 1600000 in
theorem rSameSteps_calls (va vb : Value) (a b : List (Int × Int)) (w : World) (ha : Spans w va a) (hb : Spans w vb b) :
    Calls Try.prog 29 #[va, vb] w fun e w' => e = .returned (.bool (sameSt a b)) ∧ Ext w w' := by
  obtain ⟨aa, ac, rfl, han, hac, hata⟩ := ha.open
  obtain ⟨ba, bc, rfl, hbn, hbc, hatb⟩ := hb.open
  clear ha hb
  by_cases hl : a.length = b.length
  · have d0 : ((a.length : Int) != (b.length : Int)) = false := by simp [hl]
    have hll := Lib.hid hl
    have hle : a.length ≤ b.length := by omega
    clear hl
    go_enter Try.func29, Try.ntmps29
    go_wp2_with fail
    go_loopw [5] (fun vi wr => ∃ i : Nat, i ≤ a.length ∧ vi = .int .i64 i ∧ Hid (Ext w wr) ∧ Hid (∀ j, j < i → a[j]? = b[j]?)) (fun vi _ => a.length - (intOf vi).toNat)
    case atStart => exact ⟨0, by omega, rfl, Lib.hid (Ext.refl _), fun j h => by omega⟩
    case round =>
      obtain ⟨i, hi, rfl, hx, hG⟩ := hrel
      by_cases h1 : i < a.length
      · obtain ⟨b1, o1, x, y, rfl, hb1, _, ex, g1, g2⟩ := hata i h1 wr hx.out
        obtain ⟨b2, o2, u, v, rfl, hb2, _, ey, k1, k2⟩ := hatb i (by omega) wr hx.out
        have hne := stp_neq x y u v
        have hgd := fun op p q => stp_guard op p q x y u v
        have z1 := After.cell g1
        have z2 := After.cell g2
        have z3 := After.cell k1
        have z4 := After.cell k2
        have hib : i < b.length := by omega
        obtain ⟨q, hq⟩ : ∃ q, Hid ((decide (x = u) && decide (y = v)) = q) := ⟨_, rfl⟩
        rw [hq.out] at hne
        cases q with
        | true =>
          have hG' : Hid (∀ j, j < i + 1 → a[j]? = b[j]?) := Lib.hid fun j hj => by
            rcases Nat.lt_succ_iff_lt_or_eq.1 hj with h | rfl
            · exact hG.out j h
            · have := hq.out
              simp only [Bool.and_eq_true, decide_eq_true_eq] at this
              rw [ex.out, ey.out, this.1, this.2]
          clear hG hq ex ey g1 g2 k1 k2
          go_wp2_with fail
          refine wp_region_after (by kernel_rfl) (by kernel_rfl) ?_
          repeat (go_big_quiet_step (fail))
          refine wpQuiet_nil ?_
          rintro _ ⟨y, rfl⟩
          have hy := y.ext
          generalize y.world = Y at hy ⊢
          clear z1 z2 z3 z4
          go_wp2
          go_roundw
          case rel => exact ⟨i + 1, by omega, by go_num, Lib.hid (hx.out.trans hy), hG'⟩
          case measure => simp [intOf]; omega
        | false =>
          have R : Hid (sameSt a b = false) := by
            show decide _ = _
            rw [decide_eq_false_iff_not]
            rintro rfl
            have := ex.out.symm.trans ey.out
            cases this
            have := hq.out
            simp at this
          clear hG hq ex ey g1 g2 k1 k2
          go_wp2_with fail
          refine wp_region_after (by kernel_rfl) (by kernel_rfl) ?_
          repeat (go_big_quiet_step (fail))
          refine wpQuiet_nil ?_
          rintro _ ⟨y, rfl⟩
          have hy := y.ext
          generalize y.world = Y at hy ⊢
          clear z1 z2 z3 z4
          go_wp2
          go_ret
          rw [R.out]
          exact ⟨rfl, hx.out.trans hy⟩
      · have R : Hid (sameSt a b = true) := by
          show decide _ = _
          rw [decide_eq_true_iff]
          apply List.ext_getElem?
          intro j
          rcases Nat.lt_or_ge j a.length with h | h
          · exact hG.out j (by omega)
          · rw [List.getElem?_eq_none h, List.getElem?_eq_none (by have := hll.out; omega)]
        clear hG
        go_wp2
        go_ret
        rw [R.out]
        exact ⟨rfl, hx.out⟩
  · have d0 : ((a.length : Int) != (b.length : Int)) = true := by rw [bne_iff_ne]; omega
    have R : Hid (sameSt a b = false) := by
      show decide _ = _
      rw [decide_eq_false_iff_not]
      rintro rfl
      exact hl rfl
    go_enter Try.func29, Try.ntmps29
    go_wp2
    go_ret
    rw [R.out]
    exact ⟨rfl, Ext.refl _⟩
end Go.Proofs.Ytkicielleiafgaa
