/- Walks of the reference 26 and of the law's helpers: Numbers, SameMarks, Size, grain, Window, Made. -/
import Derived.Test.YtcmcojmhlgknoaaGI
import Derived.Laws.StructEq
import Derived.Laws.ResultCell
namespace Go.Proofs.Ytcmcojmhlgknoaa
open Go.RowKit

/-! ### Numbers -/
set_option maxHeartbeats 800000 in
theorem rNumbersI_calls (va vb : Value) (a b : List Int) (w : World) (ha : Ints w va a) (hb : Ints w vb b) :
    Calls Try.prog 19 #[va, vb] w fun e w' => e = .returned (.bool (decide (a = b))) ∧ Ext w w' := by
  obtain ⟨aa, ac, rfl, han, hac, aat⟩ := ha.open
  obtain ⟨ba, bc, rfl, hbn, hbc, bat⟩ := hb.open
  have aat' := Lib.hid aat
  have bat' := Lib.hid bat
  clear ha hb aat bat
  by_cases hl : a.length = b.length
  · have d0 : ((a.length : Int) != b.length) = false := by simp [hl]
    have l1 : a.length ≤ b.length := Nat.le_of_eq hl
    have l2 : b.length ≤ a.length := Nat.le_of_eq hl.symm
    clear hl
    go_enter Try.func19, Try.ntmps19
    go_wp2_with fail
    go_loopw [5] (fun vi wr => ∃ i : Nat, i ≤ a.length ∧ vi = .int .i64 i ∧ Hid (Ext w wr) ∧ Hid (a.take i = b.take i)) (fun vi _ => a.length - (intOf vi).toNat)
    case atStart => exact ⟨0, by omega, rfl, Lib.hid (Ext.refl _), Lib.hid (by simp)⟩
    case round =>
      obtain ⟨i, hi, rfl, hx, hF⟩ := hrel
      by_cases h1 : i < a.length
      · obtain ⟨b1, o1, x, rfl, hb1, _, ex, g0⟩ := aat'.out i h1 wr hx.out
        obtain ⟨b2, o2, y, rfl, hb2, _, ey, g1⟩ := bat'.out i (by omega) wr hx.out
        have hstep := Lib.hid (beq_drop ex.out ey.out hF.out)
        clear ex ey
        by_cases hxy : x = y
        · have d1 : (x != y) = false := by simp [hxy]
          have R : Hid (a.take (i + 1) = b.take (i + 1)) := hstep.out.2 hxy
          clear hxy hstep
          go_upto_region 6 with (fail)
          have z1 := After.cell g0
          have z2 := After.cell g1
          clear g0 g1
          refine wp_region_after (by kernel_rfl) (by kernel_rfl) ?_
          repeat (go_big_quiet_step (fail))
          refine wpQuiet_nil ?_
          rintro _ ⟨u, rfl⟩
          have hu := Lib.hid (hx.out.trans u.ext)
          generalize u.world = W at hu ⊢
          clear z1 z2
          go_wp2
          go_roundw
          case rel => exact ⟨i + 1, by omega, by go_num, hu, R⟩
          case measure => simp [intOf]; omega
        · have d1 : (x != y) = true := by simp [hxy]
          have R : Hid (decide (a = b) = false) := decide_eq_false (fun e => hxy (hstep.out.1 (by rw [e])))
          clear hxy hstep
          go_upto_region 6 with (fail)
          have z1 := After.cell g0
          have z2 := After.cell g1
          clear g0 g1
          refine wp_region_after (by kernel_rfl) (by kernel_rfl) ?_
          repeat (go_big_quiet_step (fail))
          refine wpQuiet_nil ?_
          rintro _ ⟨u, rfl⟩
          have hu := Lib.hid (hx.out.trans u.ext)
          generalize u.world = W at hu ⊢
          clear z1 z2
          go_wp2
          go_ret
          rw [R.out]
          exact ⟨rfl, hu.out⟩
      · have R : Hid (decide (a = b) = true) := decide_eq_true (by
          have := hF.out
          rwa [List.take_of_length_le (by omega), List.take_of_length_le (by omega)] at this)
        go_wp2
        go_ret
        rw [R.out]
        exact ⟨rfl, hx.out⟩
  · have d0 : ((a.length : Int) != b.length) = true := by simp; omega
    have R : Hid (decide (a = b) = false) := decide_eq_false (fun e => hl (by rw [e]))
    clear hl
    go_enter Try.func19, Try.ntmps19
    go_wp2
    go_ret
    rw [R.out]
    exact ⟨rfl, Ext.refl _⟩
theorem rNumbers_calls (va vb : Value) (a b : List Nat) (w : World) (ha : Nums w va a) (hb : Nums w vb b) :
    Calls Try.prog 19 #[va, vb] w fun e w' => e = .returned (.bool (decide (a = b))) ∧ Ext w w' := by
  have := rNumbersI_calls va vb _ _ w ha hb
  rwa [nums_eq] at this

/-! ### SameMarks -/
theorem mark_eql (x y z u v t : Int) (w : World) : (binOp .eql 47 (.agg #[.int .i64 x, .int .i64 y, .int .i64 z]) (.agg #[.int .i64 u, .int .i64 v, .int .i64 t])).run Try.prog w = .ok (.bool (decide (x = u) && decide (y = v) && decide (z = t))) w := by
  have u3 := Try.underlying3
  have a3 := Try.isAgg3
  have z3 := Try.sizeOf3
  have ia := Try.isAgg28
  have zs := Try.sizeOf28
  have hS : Try.prog.underlying 47 = some (.struct (Try.prog.fieldsOf 47)) := by kernel_rfl
  have hp : Try.prog.stoodInHeld 47 = false := by kernel_rfl
  have hS2 : Try.prog.underlying 28 = some (.struct (Try.prog.fieldsOf 28)) := by kernel_rfl
  have hp2 : Try.prog.stoodInHeld 28 = false := by kernel_rfl
  rw [run_eql_struct, show (10000 : Nat) = 9999 + 1 from rfl, run_equalIn_agg w 9999 47 _ _ hS hp]
  simp only [Program.fieldsOf, Try.underlying47]
  have key : ∀ W : World, (Op.equalIn 9999 28 (.agg #[.int .i64 x, .int .i64 y]) (.agg #[.int .i64 u, .int .i64 v])).run Try.prog W = .ok (decide (x = u) && decide (y = v)) W := fun W => by
    rw [show (9999 : Nat) = 9998 + 1 from rfl, run_equalIn_agg W 9998 28 _ _ hS2 hp2]
    simp only [Program.fieldsOf, Try.underlying28]
    go_simp
    by_cases h1 : x = u <;> by_cases h2 : y = v <;> simp [h1, h2]
  go_simp
  by_cases h1 : x = u <;> by_cases h2 : y = v <;> by_cases h3 : z = t <;> simp [h1, h2, h3]
theorem mark_neq (x y z u v t : Int) (w : World) : (binOp .neq 47 (.agg #[.int .i64 x, .int .i64 y, .int .i64 z]) (.agg #[.int .i64 u, .int .i64 v, .int .i64 t])).run Try.prog w = .ok (.bool (!(decide (x = u) && decide (y = v) && decide (z = t)))) w := by
  have h := mark_eql x y z u v t w
  rw [run_eql_struct] at h
  rw [run_neq_struct]
  generalize (Op.equalIn 10000 47 (.agg #[.int .i64 x, .int .i64 y, .int .i64 z]) (.agg #[.int .i64 u, .int .i64 v, .int .i64 t])).run Try.prog w = r at h ⊢
  cases r with
  | ok b w1 =>
    simp only [Result.andThen_ok] at h ⊢
    cases h
    rfl
  | _ => simp [Result.andThen] at h
theorem mark_guard (op : BinOp) (a b : Operand) (x y z u v t : Int) (w : World) : (eqGuard op 47 a b (.agg #[.int .i64 x, .int .i64 y, .int .i64 z]) (.agg #[.int .i64 u, .int .i64 v, .int .i64 t])).run Try.prog w = .ok () w :=
  run_eqGuard_agg w op 47 a b #[.int .i64 x, .int .i64 y, .int .i64 z] #[.int .i64 u, .int .i64 v, .int .i64 t] (by kernel_rfl)
/-- lists of marks are equal -/
def sameM (a b : List MarkD) : Bool := decide (a.map (fun m => (m.f, m.t, m.k)) = b.map fun m => (m.f, m.t, m.k))
theorem sameM_iff {a b : List MarkD} : sameM a b = true ↔ a = b := by
  unfold sameM
  rw [decide_eq_true_iff]
  refine ⟨fun h => (List.map_inj_right (fun x y e => ?_)).1 h, fun h => by rw [h]⟩
  cases x; cases y
  simp only [Prod.mk.injEq] at e
  obtain ⟨h1, h2, h3⟩ := e
  simp [h1, h2, h3]
theorem sameM_self (a : List MarkD) : sameM a a = true := sameM_iff.2 rfl
set_option maxHeartbeats 1600000 in
theorem rSameMarks_calls (va vb : Value) (a b : List MarkD) (w : World) (ha : Marks w va a) (hb : Marks w vb b) :
    Calls Try.prog 20 #[va, vb] w fun e w' => e = .returned (.bool (sameM a b)) ∧ Ext w w' := by
  obtain ⟨aa, ac, rfl, han, hac, hata⟩ := ha.open
  obtain ⟨ba, bc, rfl, hbn, hbc, hatb⟩ := hb.open
  clear ha hb
  by_cases hl : a.length = b.length
  · have d0 : ((a.length : Int) != (b.length : Int)) = false := by simp [hl]
    have hll := Lib.hid hl
    have hle : a.length ≤ b.length := by omega
    clear hl
    go_enter Try.func20, Try.ntmps20
    go_wp2_with fail
    go_loopw [5] (fun vi wr => ∃ i : Nat, i ≤ a.length ∧ vi = .int .i64 i ∧ Hid (Ext w wr) ∧ Hid (∀ j, j < i → a[j]? = b[j]?)) (fun vi _ => a.length - (intOf vi).toNat)
    case atStart => exact ⟨0, by omega, rfl, Lib.hid (Ext.refl _), fun j h => by omega⟩
    case round =>
      obtain ⟨i, hi, rfl, hx, hG⟩ := hrel
      by_cases h1 : i < a.length
      · obtain ⟨b1, o1, x, y, z, rfl, hb1, _, ex, g1, g2, g3⟩ := hata i h1 wr hx.out
        obtain ⟨b2, o2, u, v, t, rfl, hb2, _, ey, k1, k2, k3⟩ := hatb i (by omega) wr hx.out
        have hne := mark_neq x y z u v t
        have hgd := fun op p q => mark_guard op p q x y z u v t
        have z1 := After.cell g1
        have z2 := After.cell g2
        have z3 := After.cell g3
        have z4 := After.cell k1
        have z5 := After.cell k2
        have z6 := After.cell k3
        have hib : i < b.length := by omega
        obtain ⟨q, hq⟩ : ∃ q, Hid ((decide (x = u) && decide (y = v) && decide (z = t)) = q) := ⟨_, rfl⟩
        rw [hq.out] at hne
        cases q with
        | true =>
          have hG' : Hid (∀ j, j < i + 1 → a[j]? = b[j]?) := Lib.hid fun j hj => by
            rcases Nat.lt_succ_iff_lt_or_eq.1 hj with h | rfl
            · exact hG.out j h
            · have := hq.out
              simp only [Bool.and_eq_true, decide_eq_true_eq] at this
              rw [ex.out, ey.out, this.1.1, this.1.2, this.2]
          clear hG hq ex ey g1 g2 g3 k1 k2 k3
          go_wp2_with fail
          refine wp_region_after (by kernel_rfl) (by kernel_rfl) ?_
          repeat (go_big_quiet_step (fail))
          refine wpQuiet_nil ?_
          rintro _ ⟨y, rfl⟩
          have hy := y.ext
          generalize y.world = Y at hy ⊢
          clear z1 z2 z3 z4 z5 z6
          go_wp2
          go_roundw
          case rel => exact ⟨i + 1, by omega, by go_num, Lib.hid (hx.out.trans hy), hG'⟩
          case measure => simp [intOf]; omega
        | false =>
          have R : Hid (sameM a b = false) := by
            show _ = _
            rw [Bool.eq_false_iff]
            intro h
            have h2 := sameM_iff.1 h
            subst h2
            have := ex.out.symm.trans ey.out
            cases this
            have := hq.out
            simp at this
          clear hG hq ex ey g1 g2 g3 k1 k2 k3
          go_wp2_with fail
          refine wp_region_after (by kernel_rfl) (by kernel_rfl) ?_
          repeat (go_big_quiet_step (fail))
          refine wpQuiet_nil ?_
          rintro _ ⟨y, rfl⟩
          have hy := y.ext
          generalize y.world = Y at hy ⊢
          clear z1 z2 z3 z4 z5 z6
          go_wp2
          go_ret
          rw [R.out]
          exact ⟨rfl, hx.out.trans hy⟩
      · have R : Hid (sameM a b = true) := by
          show _ = _
          rw [sameM_iff]
          apply List.ext_getElem?
          intro j
          rcases Nat.lt_or_ge j a.length with h | h
          · exact hG.out j (by omega)
          · rw [List.getElem?_eq_none h, List.getElem?_eq_none (by have := hll.out; omega)]
        clear hG
        go_wp2
        go_ret
        rw [R.out]
        exact ⟨rfl, hx.out⟩
  · have d0 : ((a.length : Int) != (b.length : Int)) = true := by rw [bne_iff_ne]; omega
    have R : Hid (sameM a b = false) := by
      show _ = _
      rw [Bool.eq_false_iff]
      intro h
      rw [sameM_iff.1 h] at hl
      exact hl rfl
    go_enter Try.func20, Try.ntmps20
    go_wp2
    go_ret
    rw [R.out]
    exact ⟨rfl, Ext.refl _⟩

/-! ### Size, grain, Window -/
theorem rSize_calls (g : Int) (w : World) : Calls Try.prog 26 #[.int .i64 g] w fun e w' => e = .returned (.int .i64 (sizeG g)) ∧ Ext w w' := by
  by_cases h1 : g = 1
  · subst h1
    go_enter Try.func26, Try.ntmps26
    go_wp2
    go_ret
    exact ⟨rfl, Ext.refl _⟩
  · have d1 : (g == 1) = false := by simpa using h1
    by_cases h2 : g = 2
    · subst h2
      go_enter Try.func26, Try.ntmps26
      go_wp2
      go_ret
      exact ⟨rfl, Ext.refl _⟩
    · have d2 : (g == 2) = false := by simpa using h2
      by_cases h3 : g = 3
      · subst h3
        go_enter Try.func26, Try.ntmps26
        go_wp2
        go_ret
        exact ⟨rfl, Ext.refl _⟩
      · have d3 : (g == 3) = false := by simpa using h3
        have R : Hid (sizeG g = 1) := by show _ = _; unfold sizeG; rw [if_neg h1, if_neg h2, if_neg h3]
        clear h1 h2 h3
        go_enter Try.func26, Try.ntmps26
        go_wp2
        go_ret
        rw [R.out]
        exact ⟨rfl, Ext.refl _⟩
def grainL (n : Int) : Int := 1 + n % 4
theorem grain_in (n : Int) : 1 ≤ grainL n ∧ grainL n ≤ 4 := by unfold grainL; omega
theorem tmod4 (n : Int) : -3 ≤ n.tmod 4 ∧ n.tmod 4 ≤ 3 ∧ (n.tmod 4 + 4).tmod 4 = n % 4 := by
  have h : -3 ≤ n.tmod 4 ∧ n.tmod 4 ≤ 3 ∧ (n.tmod 4 + 4) % 4 = n % 4 := by
    by_cases h : 0 ≤ n
    · rw [Int.tmod_eq_emod_of_nonneg h]; omega
    · have e : n.tmod 4 = -((-n) % 4) := by
        rw [show n = -(-n) by omega, Int.neg_tmod, Int.tmod_eq_emod_of_nonneg (by omega), Int.neg_neg]
      rw [e]; omega
  refine ⟨h.1, h.2.1, ?_⟩
  rw [Int.tmod_eq_emod_of_nonneg (by omega)]
  exact h.2.2
theorem grain_calls (n : Int) (w : World) : Calls Try.prog 13 #[.int .i64 n] w fun e w' => e = .returned (.int .i64 (grainL n)) ∧ Ext w w' := by
  obtain ⟨h1, h2, h3⟩ := tmod4 n
  go_enter Try.func13, Try.ntmps13
  go_wp2
  go_ret
  exact ⟨rfl, Ext.refl _⟩
/-- the window of two bytes -/
def winF (g a : Int) : Int := if g = 1 then 1440 * (a % 4 - 1) else sizeG g * (a % 60 - 5)
def winT (g a b : Int) : Int := winF g a + sizeG g * (b % 41)
theorem rWindow_results {tmps : Array Value} {w : World} {g : Nat} {x y : Int} (hp : tmps.getD 4 undef = .pointer (some ⟨g, 0, none⟩)) (hb : Blk w g 28 #[.int .i64 x, .int .i64 y]) :
    (results Try.f12 tmps).run Try.prog w = .ok (.agg #[.int .i64 x, .int .i64 y]) w :=
  results_cell_row Try.results12 tmps w g 28 _ (0, 0) _ hp hb Try.underlying28 rfl (by kernel_rfl)
set_option maxHeartbeats 1600000 in
theorem rWindow_calls (g a b : Int) (ha : 0 ≤ a ∧ a ≤ 255) (hb : 0 ≤ b ∧ b ≤ 255) (w : World) :
    Calls Try.prog 12 #[.int .i64 g, .agg #[.int .u8 a, .int .u8 b]] w fun e w' => e = .returned (.agg #[.int .i64 (winF g a), .int .i64 (winT g a b)]) ∧ Ext w w' := by
  obtain ⟨ha1, ha2⟩ := ha
  obtain ⟨hb1, hb2⟩ := hb
  obtain ⟨s, hs⟩ : ∃ s, Hid (sizeG g = s) := ⟨_, rfl⟩
  have hs1 : 1 ≤ s := by rw [← hs.out]; exact (size_pos g).1
  have hs2 : s ≤ 1440 := by rw [← hs.out]; exact (size_pos g).2
  have hsz : Hid (∀ W, Calls Try.prog 26 #[.int .i64 g] W fun e w' => e = .returned (.int .i64 s) ∧ Ext W w') := fun W => hs.out ▸ rSize_calls g W
  have e1 : a.tmod 60 = a % 60 := Int.tmod_eq_emod_of_nonneg ha1
  have e2 : a.tmod 4 = a % 4 := Int.tmod_eq_emod_of_nonneg ha1
  have e3 : b.tmod 41 = b % 41 := Int.tmod_eq_emod_of_nonneg hb1
  have m1 : -7200 ≤ s * (a % 60 - 5) := by
    have := Int.mul_le_mul_of_nonneg_left (show -5 ≤ a % 60 - 5 by omega) (show 0 ≤ s by omega)
    omega
  have m2 : s * (a % 60 - 5) ≤ 77760 := by
    have := Int.mul_le_mul_of_nonneg_left (show a % 60 - 5 ≤ 54 by omega) (show 0 ≤ s by omega)
    omega
  have m3 : 0 ≤ s * (b % 41) := Int.mul_nonneg (by omega) (by omega)
  have m4 : s * (b % 41) ≤ 57600 := by
    have := Int.mul_le_mul_of_nonneg_left (show b % 41 ≤ 40 by omega) (show 0 ≤ s by omega)
    omega
  by_cases h1 : g = 1
  · have d1 : (g == 1) = true := by simp [h1]
    have R : Hid (winF g a = 1440 * (a % 4 - 1)) := if_pos h1
    clear h1
    go_enter Try.func12, Try.ntmps12
    go_wp2_with fail
    refine (hsz.out _).mono ?_
    rintro e w1 ⟨rfl, hx1⟩
    have k1 : Keep (fun _ => False) ((w.alloc (.cells #[.int .u8 a, .int .u8 b] 23)).alloc (.cells #[.int .i64 0, .int .i64 0] 28)) w1 := Keep.of_ext hx1
    have hA : Blk w1 w.heap.size 23 #[.int .u8 a, .int .u8 b] := k1.blk (Blk.alloc (blk_new' rfl rfl) _) id
    have hB : Blk w1 (w.heap.size + 1) 28 #[.int .i64 0, .int .i64 0] := k1.blk (blk_new' (by rw [World.size_alloc]) rfl) id
    have x0 : w1.cell? ⟨w.heap.size, 0, none⟩ = some (.int .u8 a) := hA.cell 0
    have x1 : w1.cell? ⟨w.heap.size, 1, none⟩ = some (.int .u8 b) := hA.cell 1
    have y0 : w1.cell? ⟨w.heap.size + 1, 0, none⟩ = some (.int .i64 0) := hB.cell 0
    have y1 : w1.cell? ⟨w.heap.size + 1, 1, none⟩ = some (.int .i64 0) := hB.cell 1
    have f0 := hB.frozen 0
    have f1 := hB.frozen 1
    have lt := hB.lt
    have hE := Lib.hid (((Ext.refl w).alloc (.cells #[.int .u8 a, .int .u8 b] 23)).alloc (.cells #[.int .i64 0, .int .i64 0] 28) |>.trans hx1)
    have hBh := Lib.hid hB
    clear k1 hA hB hx1 hsz
    go_wp2
    refine bodyPost_ret (rWindow_results rfl ((hBh.out.set_ 0 _).set_ 1 _)) rfl ?_
    unfold winT
    rw [R.out, hs.out]
    exact ⟨rfl, (hE.out.setCell (p := ⟨w.heap.size + 1, 0, none⟩) (by dsimp only; omega) _).setCell (p := ⟨w.heap.size + 1, 1, none⟩) (by dsimp only; omega) _⟩
  · have d1 : (g == 1) = false := by simpa using h1
    have R : Hid (winF g a = s * (a % 60 - 5)) := by show _ = _; unfold winF; rw [if_neg h1, hs.out]
    clear h1
    go_enter Try.func12, Try.ntmps12
    go_wp2_with fail
    refine (hsz.out _).mono ?_
    rintro e w1 ⟨rfl, hx1⟩
    have k1 : Keep (fun _ => False) ((w.alloc (.cells #[.int .u8 a, .int .u8 b] 23)).alloc (.cells #[.int .i64 0, .int .i64 0] 28)) w1 := Keep.of_ext hx1
    have hA : Blk w1 w.heap.size 23 #[.int .u8 a, .int .u8 b] := k1.blk (Blk.alloc (blk_new' rfl rfl) _) id
    have hB : Blk w1 (w.heap.size + 1) 28 #[.int .i64 0, .int .i64 0] := k1.blk (blk_new' (by rw [World.size_alloc]) rfl) id
    have x0 : w1.cell? ⟨w.heap.size, 0, none⟩ = some (.int .u8 a) := hA.cell 0
    have x1 : w1.cell? ⟨w.heap.size, 1, none⟩ = some (.int .u8 b) := hA.cell 1
    have y0 : w1.cell? ⟨w.heap.size + 1, 0, none⟩ = some (.int .i64 0) := hB.cell 0
    have y1 : w1.cell? ⟨w.heap.size + 1, 1, none⟩ = some (.int .i64 0) := hB.cell 1
    have f0 := hB.frozen 0
    have f1 := hB.frozen 1
    have lt := hB.lt
    have hE := Lib.hid (((Ext.refl w).alloc (.cells #[.int .u8 a, .int .u8 b] 23)).alloc (.cells #[.int .i64 0, .int .i64 0] 28) |>.trans hx1)
    have hBh := Lib.hid hB
    clear k1 hA hB hx1 hsz
    go_wp2
    refine bodyPost_ret (rWindow_results rfl ((hBh.out.set_ 0 _).set_ 1 _)) rfl ?_
    unfold winT
    rw [R.out, hs.out]
    exact ⟨rfl, (hE.out.setCell (p := ⟨w.heap.size + 1, 0, none⟩) (by dsimp only; omega) _).setCell (p := ⟨w.heap.size + 1, 1, none⟩) (by dsimp only; omega) _⟩
end Go.Proofs.Ytcmcojmhlgknoaa
