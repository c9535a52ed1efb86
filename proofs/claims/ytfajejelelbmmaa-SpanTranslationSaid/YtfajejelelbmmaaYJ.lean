/- Walks of the reference of spans: Same, Norm, Two; the law's few. -/
import Derived.Test.YtfajejelelbmmaaYI
import Derived.Laws.StructEq
namespace Go.Proofs.Ytfajejelelbmmaa
open Go.RowKit

theorem span_eql (x y u v : Int) (w : World) : (binOp .eql 25 (.agg #[.int .i64 x, .int .i64 y]) (.agg #[.int .i64 u, .int .i64 v])).run Try.prog w = .ok (.bool (decide (x = u) && decide (y = v))) w := by
  have u3 := Try.underlying3
  have a3 := Try.isAgg3
  have z3 := Try.sizeOf3
  have hS : Try.prog.underlying 25 = some (.struct (Try.prog.fieldsOf 25)) := by kernel_rfl
  have hp : Try.prog.stoodInHeld 25 = false := by kernel_rfl
  rw [run_eql_struct, show (10000 : Nat) = 9999 + 1 from rfl, run_equalIn_agg w 9999 25 _ _ hS hp]
  simp only [Program.fieldsOf, Try.underlying25]
  go_simp
  by_cases h1 : x = u <;> by_cases h2 : y = v <;> simp [h1, h2]
theorem span_neq (x y u v : Int) (w : World) : (binOp .neq 25 (.agg #[.int .i64 x, .int .i64 y]) (.agg #[.int .i64 u, .int .i64 v])).run Try.prog w = .ok (.bool (!(decide (x = u) && decide (y = v)))) w := by
  have h := span_eql x y u v w
  rw [run_eql_struct] at h
  rw [run_neq_struct]
  generalize (Op.equalIn 10000 25 (.agg #[.int .i64 x, .int .i64 y]) (.agg #[.int .i64 u, .int .i64 v])).run Try.prog w = r at h ⊢
  cases r with
  | ok b w1 =>
    simp only [Result.andThen_ok] at h ⊢
    cases h
    rfl
  | _ => simp [Result.andThen] at h
theorem span_guard (op : BinOp) (a b : Operand) (x y u v : Int) (w : World) : (eqGuard op 25 a b (.agg #[.int .i64 x, .int .i64 y]) (.agg #[.int .i64 u, .int .i64 v])).run Try.prog w = .ok () w :=
  run_eqGuard_agg w op 25 a b #[.int .i64 x, .int .i64 y] #[.int .i64 u, .int .i64 v] (by kernel_rfl)
def sameB (a b : List (Int × Int)) : Bool := decide (a = b)
theorem sameB_self (a : List (Int × Int)) : sameB a a = true := by simp [sameB]
set_option maxHeartbeats 1600000 in
theorem rSameS_calls (va vb : Value) (a b : List (Int × Int)) (w : World) (ha : Spans w va a) (hb : Spans w vb b) :
    Calls Try.prog 20 #[va, vb] w fun e w' => e = .returned (.bool (sameB a b)) ∧ Ext w w' := by
  obtain ⟨aa, ac, rfl, han, hac, hata⟩ := ha.open
  obtain ⟨ba, bc, rfl, hbn, hbc, hatb⟩ := hb.open
  clear ha hb
  by_cases hl : a.length = b.length
  · have d0 : ((a.length : Int) != (b.length : Int)) = false := by simp [hl]
    have hll := Lib.hid hl
    have hle : a.length ≤ b.length := by omega
    clear hl
    go_enter Try.func20, Try.ntmps20
    go_wp2_with fail
    go_loopw [5] (fun vi wr => ∃ i : Nat, i ≤ a.length ∧ vi = .int .i64 i ∧ Hid (Ext w wr) ∧ Hid (∀ j, j < i → a[j]? = b[j]?)) (fun vi _ => a.length - (intOf vi).toNat)
    case atStart => exact ⟨0, by omega, rfl, Lib.hid (Ext.refl _), fun j h => by omega⟩
    case round =>
      obtain ⟨i, hi, rfl, hx, hG⟩ := hrel
      by_cases h1 : i < a.length
      · obtain ⟨b1, o1, x, y, rfl, hb1, _, ex, g1, g2⟩ := hata i h1 wr hx.out
        obtain ⟨b2, o2, u, v, rfl, hb2, _, ey, k1, k2⟩ := hatb i (by omega) wr hx.out
        have hne := span_neq x y u v
        have hgd := fun op p q => span_guard op p q x y u v
        have z1 := After.cell g1
        have z2 := After.cell g2
        have z3 := After.cell k1
        have z4 := After.cell k2
        have hib : i < b.length := by omega
        obtain ⟨q, hq⟩ : ∃ q, Hid ((decide (x = u) && decide (y = v)) = q) := ⟨_, rfl⟩
        rw [hq.out] at hne
        cases q with
        | true =>
          have hG' : Hid (∀ j, j < i + 1 → a[j]? = b[j]?) := Lib.hid fun j hj => by
            rcases Nat.lt_succ_iff_lt_or_eq.1 hj with h | rfl
            · exact hG.out j h
            · have := hq.out
              simp only [Bool.and_eq_true, decide_eq_true_eq] at this
              rw [ex.out, ey.out, this.1, this.2]
          clear hG hq ex ey g1 g2 k1 k2
          go_wp2_with fail
          refine wp_region_after (by kernel_rfl) (by kernel_rfl) ?_
          repeat (go_big_quiet_step (fail))
          refine wpQuiet_nil ?_
          rintro _ ⟨y, rfl⟩
          have hy := y.ext
          generalize y.world = Y at hy ⊢
          clear z1 z2 z3 z4
          go_wp2
          go_roundw
          case rel => exact ⟨i + 1, by omega, by go_num, Lib.hid (hx.out.trans hy), hG'⟩
          case measure => simp [intOf]; omega
        | false =>
          have R : Hid (sameB a b = false) := by
            show decide _ = _
            rw [decide_eq_false_iff_not]
            rintro rfl
            have := ex.out.symm.trans ey.out
            cases this
            have := hq.out
            simp at this
          clear hG hq ex ey g1 g2 k1 k2
          go_wp2_with fail
          refine wp_region_after (by kernel_rfl) (by kernel_rfl) ?_
          repeat (go_big_quiet_step (fail))
          refine wpQuiet_nil ?_
          rintro _ ⟨y, rfl⟩
          have hy := y.ext
          generalize y.world = Y at hy ⊢
          clear z1 z2 z3 z4
          go_wp2
          go_ret
          rw [R.out]
          exact ⟨rfl, hx.out.trans hy⟩
      · have R : Hid (sameB a b = true) := by
          show decide _ = _
          rw [decide_eq_true_iff]
          apply List.ext_getElem?
          intro j
          rcases Nat.lt_or_ge j a.length with h | h
          · exact hG.out j (by omega)
          · rw [List.getElem?_eq_none h, List.getElem?_eq_none (by have := hll.out; omega)]
        clear hG
        go_wp2
        go_ret
        rw [R.out]
        exact ⟨rfl, hx.out⟩
  · have d0 : ((a.length : Int) != (b.length : Int)) = true := by rw [bne_iff_ne]; omega
    have R : Hid (sameB a b = false) := by
      show decide _ = _
      rw [decide_eq_false_iff_not]
      rintro rfl
      exact hl rfl
    go_enter Try.func20, Try.ntmps20
    go_wp2
    go_ret
    rw [R.out]
    exact ⟨rfl, Ext.refl _⟩
/-- what Norm and Two of the reference leave -/
def RefOut (k : Int) (a b : List (Int × Int)) (w : World) (e : Ending) (w' : World) : Prop :=
  ∃ v, e = .returned (.tuple #[v, .int .i64 (combT k a b).2]) ∧ Spans w' v (combT k a b).1 ∧ Ext w w'
theorem ref_end {k : Int} {a b : List (Int × Int)} {w w' : World} {v : Value} {r1 : List (Int × Int)} {r2 : Int} (hr : combT k a b = (r1, r2)) (hv : Spans w' v r1) (hx : Ext w w') : RefOut k a b w (.returned (.tuple #[v, .int .i64 r2])) w' :=
  ⟨v, by rw [hr], by rw [hr]; exact hv, hx⟩
theorem rNorm_calls (va : Value) (a : List (Int × Int)) (w : World) (ha : Spans w va a) (hla : a.length ≤ 64) :
    Calls Try.prog 27 #[va] w (RefOut 0 a [] w) := by
  have ha' := Lib.hid ha
  obtain ⟨aa, ac, rfl⟩ := ha.form
  have h1 := Lib.hid (rInRange_calls (.slice aa a.length ac) a w ha)
  clear ha
  cases hra : rangedB a with
  | false =>
    have R : Hid (combT 0 a [] = ([], 1)) := Lib.hid (combT_no (by rw [hra]; rfl))
    rw [hra] at h1
    clear hra
    go_enter Try.func27, Try.ntmps27
    go_wp2_with fail
    refine h1.out.mono ?_
    rintro e w1 ⟨rfl, hx1⟩
    go_wp2
    go_ret2
    exact ref_end R.out (spans_nil _) hx1
  | true =>
    have R : Hid (combT 0 a [] = (combL 0 a [], 0)) := Lib.hid (combT_ok hra rfl)
    rw [hra] at h1
    clear hra
    go_enter Try.func27, Try.ntmps27
    go_wp2_with fail
    refine h1.out.mono ?_
    rintro e w1 ⟨rfl, hx1⟩
    go_wp2_with fail
    refine (rCombine_calls 0 _ _ a [] w1 (ha'.out.ext hx1) (spans_nil _) hla (by simp)).mono ?_
    rintro e w2 ⟨v, rfl, hv, hx2⟩
    have hv' := Lib.hid hv.read
    obtain ⟨A, c, rfl⟩ := hv.read.form
    clear hv
    go_wp2
    go_ret2
    exact ref_end R.out hv'.out (hx1.trans hx2)
theorem rTwo_calls (k : Int) (va vb : Value) (a b : List (Int × Int)) (w : World) (ha : Spans w va a) (hb : Spans w vb b) (hla : a.length ≤ 64) (hlb : b.length ≤ 64) :
    Calls Try.prog 28 #[.int .i64 k, va, vb] w (RefOut k a b w) := by
  have ha' := Lib.hid ha
  have hb' := Lib.hid hb
  obtain ⟨aa, ac, rfl⟩ := ha.form
  obtain ⟨ba, bc, rfl⟩ := hb.form
  have h1 : Hid (∀ W, Ext w W → Calls Try.prog 32 #[.slice aa a.length ac] W fun e w' => e = .returned (.bool (rangedB a)) ∧ Ext W w') := Lib.hid fun W hW => rInRange_calls _ a W (ha'.out.ext hW)
  have h2 : Hid (∀ W, Ext w W → Calls Try.prog 32 #[.slice ba b.length bc] W fun e w' => e = .returned (.bool (rangedB b)) ∧ Ext W w') := Lib.hid fun W hW => rInRange_calls _ b W (hb'.out.ext hW)
  clear ha hb
  cases hra : rangedB a with
  | false =>
    have R : Hid (combT k a b = ([], 1)) := Lib.hid (combT_no (by rw [hra]; rfl))
    rw [hra] at h1
    clear hra
    go_enter Try.func28, Try.ntmps28
    go_wp2_with fail
    refine (h1.out _ (Ext.refl _)).mono ?_
    rintro e w1 ⟨rfl, hx1⟩
    go_wp2_with fail
    refine (h2.out _ hx1).mono ?_
    rintro e w2 ⟨rfl, hx2⟩
    go_wp2
    go_ret2
    exact ref_end R.out (spans_nil _) (hx1.trans hx2)
  | true =>
    cases hrb : rangedB b with
    | false =>
      have R : Hid (combT k a b = ([], 1)) := Lib.hid (combT_no (by rw [hrb, Bool.and_false]))
      rw [hra] at h1
      rw [hrb] at h2
      clear hra hrb
      go_enter Try.func28, Try.ntmps28
      go_wp2_with fail
      refine (h1.out _ (Ext.refl _)).mono ?_
      rintro e w1 ⟨rfl, hx1⟩
      go_wp2_with fail
      refine (h2.out _ hx1).mono ?_
      rintro e w2 ⟨rfl, hx2⟩
      go_wp2
      go_ret2
      exact ref_end R.out (spans_nil _) (hx1.trans hx2)
    | true =>
      have R : Hid (combT k a b = (combL k a b, 0)) := Lib.hid (combT_ok hra hrb)
      rw [hra] at h1
      rw [hrb] at h2
      clear hra hrb
      go_enter Try.func28, Try.ntmps28
      go_wp2_with fail
      refine (h1.out _ (Ext.refl _)).mono ?_
      rintro e w1 ⟨rfl, hx1⟩
      go_wp2_with fail
      refine (h2.out _ hx1).mono ?_
      rintro e w2 ⟨rfl, hx2⟩
      have hx2' := hx1.trans hx2
      go_wp2_with fail
      refine (rCombine_calls k _ _ a b w2 (ha'.out.ext hx2') (hb'.out.ext hx2') hla hlb).mono ?_
      rintro e w3 ⟨v, rfl, hv, hx3⟩
      have hv' := Lib.hid hv.read
      obtain ⟨A, c, rfl⟩ := hv.read.form
      clear hv
      go_wp2
      go_ret2
      exact ref_end R.out hv'.out (hx2'.trans hx3)
/-- few: the first 30 -/
theorem few_calls (va : Value) (a : List (Int × Int)) (w : World) (ha : Spans w va a) :
    Calls Try.prog 15 #[va] w fun e w' => ∃ v l, e = .returned v ∧ Spans w v l ∧ Hid (l = a.take 30) ∧ l.length ≤ 30 ∧ w' = w := by
  have ha' := Lib.hid ha
  obtain ⟨aa, ac, rfl, hn, hc, _⟩ := ha.open
  clear ha
  obtain ⟨km, hkm⟩ : ∃ km : Nat, Hid ((min (a.length : Int) 30).toNat = km) := ⟨_, rfl⟩
  have hkm1 : km = min 30 a.length := by rw [← hkm.out]; omega
  have hS : Hid (Spans w (.slice aa km ac) (a.take 30)) := by
    have := ha'.out.take (m := km) (by omega)
    have e : a.take km = a.take 30 := by rw [List.take_eq_take_iff]; omega
    show Spans _ _ _
    rwa [e] at this
  go_enter Try.func15, Try.ntmps15
  go_wp2
  go_ret
  rw [hkm.out]
  exact ⟨_, _, rfl, hS.out, rfl, by rw [List.length_take]; omega, rfl⟩
end Go.Proofs.Ytfajejelelbmmaa
