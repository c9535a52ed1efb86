/- Package coarse's iterator over the cells that a mark touches. -/
import Derived.Test.YtcmcojmhlgknoaaGC
namespace Go.Proofs.Ytcmcojmhlgknoaa
open Go.RowKit Go.Shelf

/-- the iterator's three boxes -/
def TouchC (B : Nat) (f t wf wt c : Int) (W : World) : Prop :=
  W.cell? ⟨B, 0, none⟩ = some (.int .i64 f) ∧ W.cell? ⟨B, 1, none⟩ = some (.int .i64 t) ∧ W.cell? ⟨B + 1, 0, none⟩ = some (.int .i64 wf) ∧ W.cell? ⟨B + 1, 1, none⟩ = some (.int .i64 wt) ∧ W.cell? ⟨B + 2, 0, none⟩ = some (.int .i64 c)
theorem cell_box (w : World) (f t wf wt c : Int) : TouchC w.heap.size f t wf wt c (((w.alloc (.cells #[.int .i64 f, .int .i64 t] 28)).alloc (.cells #[.int .i64 wf, .int .i64 wt] 28)).alloc (.cells #[.int .i64 c] 3)) := by
  have h0 : Blk (((w.alloc (.cells #[.int .i64 f, .int .i64 t] 28)).alloc (.cells #[.int .i64 wf, .int .i64 wt] 28)).alloc (.cells #[.int .i64 c] 3)) w.heap.size 28 #[.int .i64 f, .int .i64 t] := Blk.alloc (Blk.alloc (blk_new' rfl rfl) _) _
  have h1 : Blk (((w.alloc (.cells #[.int .i64 f, .int .i64 t] 28)).alloc (.cells #[.int .i64 wf, .int .i64 wt] 28)).alloc (.cells #[.int .i64 c] 3)) (w.heap.size + 1) 28 #[.int .i64 wf, .int .i64 wt] := Blk.alloc (blk_new' (by rw [World.size_alloc]) rfl) _
  have h2 : Blk (((w.alloc (.cells #[.int .i64 f, .int .i64 t] 28)).alloc (.cells #[.int .i64 wf, .int .i64 wt] 28)).alloc (.cells #[.int .i64 c] 3)) (w.heap.size + 2) 3 #[.int .i64 c] := blk_new' (by rw [World.size_alloc, World.size_alloc]) rfl
  exact ⟨h0.cell 0, h0.cell 1, h1.cell 0, h1.cell 1, h2.cell 0⟩
theorem touched_calls (f t wf wt c : Int) (w : World) :
    Calls Try.prog 48 #[.agg #[.int .i64 f, .int .i64 t], .agg #[.int .i64 wf, .int .i64 wt], .int .i64 c] w fun e w' =>
      e = .returned (.func (.func 62) #[] #[.pointer (some ⟨w.heap.size, 0, none⟩), .pointer (some ⟨w.heap.size + 1, 0, none⟩), .pointer (some ⟨w.heap.size + 2, 0, none⟩)]) ∧ Ext w w' ∧ TouchC w.heap.size f t wf wt c w' := by
  go_enter Try.func48, Try.ntmps48
  go_wp2
  go_ret
  exact ⟨rfl, (by repeat' (first | (with_reducible exact Ext.refl _) | (with_reducible assumption) | (with_reducible refine Ext.drewN ?_ _) | (with_reducible refine Ext.drew ?_) | (with_reducible refine Ext.alloc ?_ _) | (with_reducible refine Ext.trans ?_ (by with_reducible assumption)))), cell_box w f t wf wt c⟩
theorem first_no (p : Nat → Bool) : ∀ (k : Nat), p k = false → ∃ N, (∀ j, j < N → p j = true) ∧ p N = false
  | 0, h => ⟨0, fun j hj => by omega, h⟩
  | k + 1, h => by
    by_cases h2 : ∃ j, j < k + 1 ∧ p j = false
    · obtain ⟨j, hj, hp⟩ := h2
      exact first_no p j hp
    · refine ⟨k + 1, fun j hj => ?_, h⟩
      cases hp : p j with
      | true => rfl
      | false => exact absurd ⟨j, hj, hp⟩ h2
termination_by k => k
theorem TouchC.ext {B : Nat} {f t wf wt c : Int} {W W' : World} (h : TouchC B f t wf wt c W) (e : Ext W W') : TouchC B f t wf wt c W' := ⟨e.cell h.1, e.cell h.2.1, e.cell h.2.2.1, e.cell h.2.2.2.1, e.cell h.2.2.2.2⟩
set_option maxHeartbeats 1600000 in
set_option maxRecDepth 100000 in
theorem touched_iter (B n : Nat) (m : MarkD) (wf wt c : Int) (hc1 : 1 ≤ c) (hc2 : c ≤ 1440) (hm : windowB m.f m.t = true) (hw1 : -2251799813685248 ≤ wf) (hw2 : wt ≤ 2251799813685248) (hwt : wt = wf + n * c) :
    ∃ N : Nat, IterOk 62 #[.pointer (some ⟨B, 0, none⟩), .pointer (some ⟨B + 1, 0, none⟩), .pointer (some ⟨B + 2, 0, none⟩)] N (fun j => .int .i64 (loG m wf c + j)) (TouchC B m.f m.t wf wt c) ∧
      (∀ j : Nat, j < N → hitB m wf wt c (loG m wf c + j) = true) ∧ hitB m wf wt c (loG m wf c + N) = false := by
  have hl := lo_nonneg (m := m) (f := wf) hc1
  obtain ⟨lo, hlo⟩ : ∃ lo : Nat, Hid (loG m wf c = (lo : Int)) := ⟨(loG m wf c).toNat, by show _ = _; omega⟩
  obtain ⟨N, hN1, hN2⟩ := first_no (fun j => hitB m wf wt c (loG m wf c + j)) n (by
    cases hh : hitB m wf wt c (loG m wf c + n) with
    | false => rfl
    | true =>
      rw [hwt] at hh
      have := hit_lt hc1 hh
      omega)
  refine ⟨N, ?_, hN1, hN2⟩
  have hN1' := Lib.hid hN1
  have hN2' := Lib.hid hN2
  have hmw := window_iff.1 hm
  have hwt' := Lib.hid hwt
  have hnc : wf ≤ wt := by
    have := Int.mul_nonneg (show (0 : Int) ≤ n by omega) (show (0 : Int) ≤ c by omega)
    omega
  obtain ⟨mf, mt, mk⟩ := m
  dsimp only at hmw hlo ⊢
  obtain ⟨hm1, hm2, hm3⟩ := hmw
  clear hN1 hN2 hm hwt
  intro nn l W J Jx hn1 hC hJ h00 hY
  have hJ' := Lib.hid hJ
  have hY' := Lib.hid hY
  have h00' := Lib.hid h00
  have hCh := Lib.hid hC
  obtain ⟨c0, c1, c2, c3, c4⟩ := hC
  have z0 := After.cell c0
  have z1 := After.cell c1
  have z2 := After.cell c2
  have z3 := After.cell c3
  clear hY h00 hJ c0 c1 c2 c3 c4
  have ea : #[Value.func (.yield l) #[] #[]] ++ #[Value.pointer (some ⟨B, 0, none⟩), .pointer (some ⟨B + 1, 0, none⟩), .pointer (some ⟨B + 2, 0, none⟩)] = #[.func (.yield l) #[] #[], .pointer (some ⟨B, 0, none⟩), .pointer (some ⟨B + 1, 0, none⟩), .pointer (some ⟨B + 2, 0, none⟩)] := rfl
  rw [ea]
  clear ea
  refine callsIn_of_wp Try.func62 rfl trivial ?_ rfl
  simp only [Try.ntmps62, List.size_toArray, List.length_cons, List.length_nil, Nat.reduceAdd, Nat.reduceSub, Array.replicate_succ, Array.replicate_zero, List.push_toArray, List.append_toArray, List.nil_append, List.cons_append]
  gi_wp2
  refine wpIn_wide.2 (wp_region_after (by kernel_rfl) (by kernel_rfl) ?_)
  repeat (go_big_quiet_step (fail))
  refine wpQuiet_nil ?_
  rintro W1 ⟨u, e⟩
  have hx1 : Ext W W1 := by rw [e]; exact u.ext
  have hJ1 := Lib.hid (hJ'.out 0 _ _ h00'.out hx1)
  have hC1 := Lib.hid (hCh.out.ext hx1)
  clear z0 z1 z2 z3 e u hx1 h00' hCh
  obtain ⟨F, hF⟩ : ∃ F, Hid (max mf wf = F) := ⟨_, rfl⟩
  obtain ⟨T, hT⟩ : ∃ T, Hid (min mt wt = T) := ⟨_, rfl⟩
  rw [hF.out, hT.out]
  have hF1 : wf ≤ F := by rw [← hF.out]; omega
  have hF2 : F ≤ 2251799813685248 := by rw [← hF.out]; omega
  have hT1 : -2251799813685248 ≤ T := by rw [← hT.out]; omega
  have hT2 : T ≤ 2251799813685248 := by rw [← hT.out]; omega
  have hlo1 : (F - wf).tdiv c = (lo : Int) := by
    rw [Int.tdiv_eq_ediv_of_nonneg (by omega), ← hlo.out]
    show _ = (max mf wf - wf) / c
    rw [hF.out]
  have hlo2 : lo ≤ 4503599627370496 := by
    have h1 : (lo : Int) ≤ F - wf := by
      rw [← hlo1, Int.tdiv_eq_ediv_of_nonneg (by omega)]
      exact Int.ediv_le_self _ (by omega)
    omega
  have hhit : Hid (∀ i : Int, hitB ⟨mf, mt, mk⟩ wf wt c i = (decide (F < T) && decide (i * c < T - wf))) := fun i => by
    unfold hitB inT
    dsimp only
    rw [hF.out, hT.out]
  rw [hlo.out] at hN1' hN2' hY' 
  clear hlo hl hF hT
  obtain ⟨_, _, c2, _, c4⟩ := hC1.out
  have hcz : (c == 0) = false := by rw [beq_eq_false_iff_ne]; omega
  gi_wp2
  clear c2 c4
  gi_loopw [7] (fun vi wr => ∃ i j : Nat, j ≤ N ∧ vi = .int .i64 i ∧ Hid (i = lo + j) ∧ Hid (J j wr) ∧ Hid (TouchC B mf mt wf wt c wr)) (fun vi _ => lo + N - (intOf vi).toNat)
  case atStart => exact ⟨lo, 0, by omega, rfl, rfl, hJ1, hC1⟩
  case round =>
    clear hJ1 hC1
    obtain ⟨i, j, hj, rfl, hij, hJj, hC⟩ := hrel
    obtain ⟨_, _, c2, _, c4⟩ := hC.out
    have hij' := hij.out
    have ecast : (i : Int) = (lo : Int) + (j : Int) := by omega
    by_cases h1 : j < N
    · have hh := hN1'.out j h1
      rw [← ecast, hhit.out] at hh
      simp only [Bool.and_eq_true, decide_eq_true_eq] at hh
      obtain ⟨hFT, hlt⟩ := hh
      have d1 : decide (F < T) = true := decide_eq_true hFT
      have hb0 : 0 ≤ (i : Int) * c := Int.mul_nonneg (by omega) (by omega)
      have hb1 : (i : Int) * c ≤ 4503599627370496 := by omega
      have d2 : decide ((i : Int) * c < T - wf) = true := decide_eq_true hlt
      have hi1 : (i : Int) ≤ 4503599627370496 := by
        have := Int.mul_le_mul_of_nonneg_left hc1 (show (0 : Int) ≤ i by omega)
        omega
      obtain ⟨fn, tmps, assign, body, hy, hR⟩ := hY'.out j wr h1 hJj.out hC.out
      rw [← ecast] at hy
      have hR' := Lib.hid hR
      clear hR hhit hlt hij' ecast
      gi_wp2
      refine hR'.out.mono ?_
      rintro e W3 (⟨rfl, hJ3, hC3⟩ | ⟨rfl, hJx⟩)
      · have hJ3' := Lib.hid hJ3
        have hC3' := Lib.hid hC3
        have hij3 : Hid (i + 1 = lo + (j + 1)) := by have := hij.out; show _ = _; omega
        clear hJ3 hC3 hy hR' hij hJj hC c2 c4
        gi_wp2
        go_roundw
        case rel => first | exact ⟨i + 1, j + 1, by omega, by go_num, hij3, hJ3', hC3'⟩ | ((repeat apply Exists.intro); exact ⟨⟨i + 1, j + 1, by omega, by go_num, hij3, hJ3', hC3'⟩, rfl⟩)
        case measure => have := hij3.out; simp [intOf]; omega
      · gi_wp2
        refine bodyPost_ret (results_none rfl _ _ _) rfl ?_
        exact ⟨⟨_, rfl⟩, .inr hJx⟩
    · obtain rfl : j = N := by omega
      have hh := hN2'.out
      rw [← ecast, hhit.out] at hh
      have hfin := Lib.hid hJj.out
      by_cases hFT : F < T
      · have d1 : decide (F < T) = true := decide_eq_true hFT
        rw [d1, Bool.true_and, decide_eq_false_iff_not] at hh
        have hlow : Hid ((i : Int) * c ≤ 4503599627380000 ∧ (i : Int) ≤ 4503599627380000) := by
          have hi0 : (i : Int) ≤ lo + j := by omega
          by_cases hN0 : j = 0
          · have h2 : (lo : Int) * c ≤ F - wf := by
              rw [← hlo1, Int.tdiv_eq_ediv_of_nonneg (by omega), Int.mul_comm]
              exact Int.mul_ediv_self_le (by omega)
            have e2 : (i : Int) = lo := by omega
            show _ ∧ _
            rw [e2]
            exact ⟨by omega, by omega⟩
          · have h2 := hN1'.out (j - 1) (by omega)
            rw [hhit.out] at h2
            simp only [Bool.and_eq_true, decide_eq_true_eq] at h2
            have e3 : (i : Int) = ((lo : Int) + ((j - 1 : Nat) : Int)) + 1 := by omega
            have e4 : (i : Int) * c = ((lo : Int) + ((j - 1 : Nat) : Int)) * c + c := by rw [e3, Int.add_mul, Int.one_mul]
            have hb0 : (i : Int) ≤ (i : Int) * c := by
              have := Int.mul_le_mul_of_nonneg_left hc1 (show (0 : Int) ≤ i by omega)
              omega
            exact ⟨by omega, by omega⟩
        obtain ⟨hb1, hi1⟩ := hlow.out
        have hb0 : 0 ≤ (i : Int) * c := Int.mul_nonneg (by omega) (by omega)
        have d2 : decide ((i : Int) * c < T - wf) = false := decide_eq_false hh
        clear hh hhit hij' ecast hlow
        gi_wp2
        go_end0
        exact ⟨⟨_, rfl⟩, .inl hfin.out⟩
      · have d1 : decide (F < T) = false := decide_eq_false hFT
        clear hh hhit hij' ecast
        gi_wp2
        go_end0
        exact ⟨⟨_, rfl⟩, .inl hfin.out⟩
end Go.Proofs.Ytcmcojmhlgknoaa
