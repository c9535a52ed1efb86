/- Walks of package coarse: Same, Fits. -/
import Derived.Test.YtcmcojmhlgknoaaGE
import Derived.Test.YtcmcojmhlgknoaaYF
namespace Go.Proofs.Ytcmcojmhlgknoaa
open Go.RowKit

/-! ### slices.Equal -/
theorem beq_drop {a b : List Int} {i : Nat} {x y : Int} (hx : a[i]? = some x) (hy : b[i]? = some y) (h : a.take i = b.take i) : (a.take (i + 1) = b.take (i + 1)) ↔ x = y := by
  rw [takeStep hx, takeStep hy, h]
  simp
set_option maxHeartbeats 800000 in
theorem equal_calls (va vb : Value) (a b : List Int) (w : World) (ha : Ints w va a) (hb : Ints w vb b) :
    Calls Try.prog 51 #[va, vb] w fun e w' => e = .returned (.bool (decide (a = b))) ∧ Ext w w' := by
  obtain ⟨aa, ac, rfl, han, hac, aat⟩ := ha.open
  obtain ⟨ba, bc, rfl, hbn, hbc, bat⟩ := hb.open
  have aat' := Lib.hid aat
  have bat' := Lib.hid bat
  clear ha hb aat bat
  by_cases hl : a.length = b.length
  · have d0 : ((a.length : Int) != b.length) = false := by simp [hl]
    have hl' := Lib.hid hl
    have l1 : a.length ≤ b.length := Nat.le_of_eq hl
    have l2 : b.length ≤ a.length := Nat.le_of_eq hl.symm
    clear hl
    go_enter Try.func51, Try.ntmps51
    go_wp2_with fail
    go_loopw [13] (fun vi wr => ∃ i : Nat, i ≤ a.length ∧ vi = .int .i64 i ∧ Hid (Ext w wr) ∧ Hid (a.take i = b.take i)) (fun vi _ => a.length - (intOf vi).toNat)
    case atStart => exact ⟨0, by omega, rfl, Lib.hid (Ext.refl _), Lib.hid (by simp)⟩
    case round =>
      obtain ⟨i, hi, rfl, hx, hF⟩ := hrel
      by_cases h1 : i < a.length
      · obtain ⟨b1, o1, x, rfl, hb1, _, ex, g0⟩ := aat'.out i h1 wr hx.out
        obtain ⟨b2, o2, y, rfl, hb2, _, ey, g1⟩ := bat'.out i (by omega) wr hx.out
        have hstep := Lib.hid (beq_drop ex.out ey.out hF.out)
        clear ex ey
        by_cases hxy : x = y
        · have d1 : (x != y) = false := by simp [hxy]
          have R : Hid (a.take (i + 1) = b.take (i + 1)) := hstep.out.2 hxy
          clear hxy hstep
          go_upto_region 6 with (fail)
          have z1 := After.cell g0
          have z2 := After.cell g1
          clear g0 g1
          refine wp_region_after (by kernel_rfl) (by kernel_rfl) ?_
          repeat (go_big_quiet_step (fail))
          refine wpQuiet_nil ?_
          rintro _ ⟨u, rfl⟩
          have hu := Lib.hid (hx.out.trans u.ext)
          generalize u.world = W at hu ⊢
          clear z1 z2
          go_wp2
          go_roundw
          case rel => exact ⟨i + 1, by omega, by go_num, hu, R⟩
          case measure => simp [intOf]; omega
        · have d1 : (x != y) = true := by simp [hxy]
          have R : Hid (decide (a = b) = false) := decide_eq_false (fun e => hxy (hstep.out.1 (by rw [e])))
          clear hxy hstep
          go_upto_region 6 with (fail)
          have z1 := After.cell g0
          have z2 := After.cell g1
          clear g0 g1
          refine wp_region_after (by kernel_rfl) (by kernel_rfl) ?_
          repeat (go_big_quiet_step (fail))
          refine wpQuiet_nil ?_
          rintro _ ⟨u, rfl⟩
          have hu := Lib.hid (hx.out.trans u.ext)
          generalize u.world = W at hu ⊢
          clear z1 z2
          go_wp2
          go_ret
          rw [R.out]
          exact ⟨rfl, hu.out⟩
      · have R : Hid (decide (a = b) = true) := decide_eq_true (by
          have := hF.out
          rwa [List.take_of_length_le (by omega), List.take_of_length_le (by omega)] at this)
        go_wp2
        go_ret
        rw [R.out]
        exact ⟨rfl, hx.out⟩
  · have d0 : ((a.length : Int) != b.length) = true := by simp; omega
    have R : Hid (decide (a = b) = false) := decide_eq_false (fun e => hl (by rw [e]))
    clear hl
    go_enter Try.func51, Try.ntmps51
    go_wp2
    go_ret
    rw [R.out]
    exact ⟨rfl, Ext.refl _⟩


/-! ### Same -/
def sameG (a b : List MarkD) (g f t : Int) : Bool × Int :=
  if (viewG a g f t).2 = 0 then (if (viewG b g f t).2 = 0 then (decide ((viewG a g f t).1 = (viewG b g f t).1), 0) else (false, (viewG b g f t).2)) else (false, (viewG a g f t).2)
theorem nums_eq {a b : List Nat} : decide ((a.map fun n : Nat => (n : Int)) = b.map fun n : Nat => (n : Int)) = decide (a = b) := by
  rw [decide_eq_decide]
  exact ⟨fun h => List.map_inj_right (fun x y h => Int.ofNat_inj.1 h) |>.1 h, fun h => by rw [h]⟩
theorem numsEqual_calls (va vb : Value) (a b : List Nat) (w : World) (ha : Nums w va a) (hb : Nums w vb b) :
    Calls Try.prog 51 #[va, vb] w fun e w' => e = .returned (.bool (decide (a = b))) ∧ Ext w w' := by
  have := equal_calls va vb _ _ w ha hb
  rwa [nums_eq] at this
theorem Nums.form {w : World} {v : Value} {l : List Nat} (h : Nums w v l) : ∃ a c, v = .slice a l.length c := by
  obtain ⟨a, c, e, _⟩ := Ints.open h
  rw [List.length_map] at e
  exact ⟨a, c, e⟩
set_option maxHeartbeats 1600000 in
theorem same_calls (va vb : Value) (a b : List MarkD) (g f t : Int) (w : World) (ha : Marks w va a) (hb : Marks w vb b) :
    Calls Try.prog 29 #[va, vb, .int .i64 g, .agg #[.int .i64 f, .int .i64 t]] w fun e w' => e = .returned (.tuple #[.bool (sameG a b g f t).1, .int .i64 (sameG a b g f t).2]) ∧ Ext w w' := by
  have ha' := Lib.hid ha
  have hb' := Lib.hid hb
  obtain ⟨aA, aC, rfl⟩ := ha.form
  obtain ⟨bA, bC, rfl⟩ := hb.form
  obtain ⟨x, e1, hv1⟩ : ∃ x e1, Hid (viewG a g f t = (x, e1)) := ⟨_, _, rfl⟩
  obtain ⟨y, e2, hv2⟩ : ∃ y e2, Hid (viewG b g f t = (y, e2)) := ⟨_, _, rfl⟩
  have hc1 : Hid (∀ W, Ext w W → Calls Try.prog 25 #[.slice aA a.length aC, .int .i64 g, .agg #[.int .i64 f, .int .i64 t]] W fun e w' => ∃ v, e = .returned (.tuple #[v, .int .i64 e1]) ∧ Nums w' v x ∧ Ext W w') := fun W hW => by
    have := view_calls _ a g f t W (ha'.out.ext hW)
    rwa [hv1.out] at this
  have hc2 : Hid (∀ W, Ext w W → Calls Try.prog 25 #[.slice bA b.length bC, .int .i64 g, .agg #[.int .i64 f, .int .i64 t]] W fun e w' => ∃ v, e = .returned (.tuple #[v, .int .i64 e2]) ∧ Nums w' v y ∧ Ext W w') := fun W hW => by
    have := view_calls _ b g f t W (hb'.out.ext hW)
    rwa [hv2.out] at this
  clear ha hb ha' hb'
  go_enter Try.func29, Try.ntmps29
  go_wp2_with fail
  refine (hc1.out _ (by repeat' (first | (with_reducible exact Ext.refl _) | (with_reducible assumption) | (with_reducible refine Ext.drewN ?_ _) | (with_reducible refine Ext.drew ?_) | (with_reducible refine Ext.alloc ?_ _) | (with_reducible refine Ext.trans ?_ (by with_reducible assumption))))).mono ?_
  rintro e w1 ⟨vx, rfl, hx, hx1⟩
  obtain ⟨xA, xC, rfl⟩ := hx.form
  have hX := Lib.hid hx
  have c0 : w1.cell? ⟨w.heap.size, 0, none⟩ = some (.int .i64 f) := hx1.cell (by simp)
  have c1 : w1.cell? ⟨w.heap.size, 1, none⟩ = some (.int .i64 t) := hx1.cell (by simp)
  have hE1 := Lib.hid (((Ext.refl w).alloc (.cells #[.int .i64 f, .int .i64 t] 28)).trans hx1)
  clear hx hx1 hc1
  by_cases h1 : e1 = 0
  · have z1 : (e1 != 0) = false := by simp [h1]
    go_wp2_with fail
    refine (hc2.out _ hE1.out).mono ?_
    rintro e w2 ⟨vy, rfl, hy, hx2⟩
    obtain ⟨yA, yC, rfl⟩ := hy.form
    have hE2 := Lib.hid (hE1.out.trans hx2)
    by_cases h2 : e2 = 0
    · have z2 : (e2 != 0) = false := by simp [h2]
      have hq := Lib.hid (numsEqual_calls _ _ x y w2 (hX.out.ext hx2) hy)
      have R : Hid (sameG a b g f t = (decide (x = y), 0)) := by show _ = _; unfold sameG; rw [hv1.out, hv2.out, if_pos h1, if_pos h2]
      clear hx2 hy hX hE1 h1 h2 c0 c1 hv1 hv2
      go_wp2_with fail
      refine hq.out.mono ?_
      rintro e w3 ⟨rfl, hx3⟩
      clear hq
      go_wp2
      go_ret2
      rw [R.out]
      exact ⟨rfl, hE2.out.trans hx3⟩
    · have z2 : (e2 != 0) = true := by simp [h2]
      have R : Hid (sameG a b g f t = (false, e2)) := by show _ = _; unfold sameG; rw [hv1.out, hv2.out, if_pos h1, if_neg h2]
      clear hx2 hy hX hE1 h1 h2 c0 c1 hv1 hv2
      go_wp2
      go_ret2
      rw [R.out]
      exact ⟨rfl, hE2.out⟩
  · have z1 : (e1 != 0) = true := by simp [h1]
    have R : Hid (sameG a b g f t = (false, e1)) := by show _ = _; unfold sameG; rw [hv1.out, if_neg h1]
    clear h1 hv1 hv2
    go_wp2
    go_ret2
    rw [R.out]
    exact ⟨rfl, hE1.out⟩

/-! ### Fits -/
def propB (s : Int × Int) : Bool := windowB s.1 s.2 && !decide (s.1 = s.2)
def busyL (l : List MarkD) : List (Int × Int) := l.map fun m => (m.f, m.t)
def hitsB (l : List MarkD) (q : List (Int × Int)) : Bool := l.any fun m => q.any fun s => touchB m s.1 s.2
def fitsG (l : List MarkD) (g : Int) (q : List (Int × Int)) : Bool × Int :=
  if l.all markB && (grainB g && q.all propB) then (if g < 2 then (false, 12) else if 65536 < q.length then (false, 2) else (!hitsB l q, 0)) else (false, 1)
theorem chain_nil {l : List (Int × Int)} (h : chainB none l = true) : l = [] ↔ ∀ t, hasB l t = false := by
  constructor
  · rintro rfl t; rfl
  · intro hn
    cases l with
    | nil => rfl
    | cons s r =>
      have h1 := (chainB_mem h s List.mem_cons_self).1
      have := hn s.1
      rw [Bool.eq_false_iff] at this
      exact absurd (hasB_iff.2 ⟨s, List.mem_cons_self, by omega, h1⟩) this
theorem prop_iff {s : Int × Int} : propB s = true ↔ -2251799813685248 ≤ s.1 ∧ s.1 < s.2 ∧ s.2 ≤ 2251799813685248 := by
  unfold propB
  rw [Bool.and_eq_true, window_iff, Bool.not_eq_true', decide_eq_false_iff_not]
  omega
theorem meet_hits {l : List MarkD} {q : List (Int × Int)} (hl : l.all markB = true) (hq : q.all propB = true) : decide (combL 1 (combL 0 (busyL l) []) (combL 0 q []) = []) = !hitsB l q := by
  rw [Bool.eq_iff_iff, decide_eq_true_iff, chain_nil (comb_chain _ _ _), Bool.not_eq_true', Bool.eq_false_iff]
  simp only [comb_has, inB, hasB_nil, Bool.or_false, if_true]
  rw [show (∀ t : Int, (if (1 : Int) = 0 then hasB (busyL l) t || hasB q t else hasB (busyL l) t && hasB q t) = false) ↔ ∀ t, (hasB (busyL l) t && hasB q t) = false from Iff.rfl]
  constructor
  · intro h hh
    obtain ⟨m, hm, h2⟩ := List.any_eq_true.1 hh
    obtain ⟨s, hs, h3⟩ := List.any_eq_true.1 h2
    have hmk := mark_iff.1 (List.all_eq_true.1 hl m hm)
    have hw := window_iff.1 hmk.2.2.1
    have hp := prop_iff.1 (List.all_eq_true.1 hq s hs)
    simp only [touchB, Bool.and_eq_true, decide_eq_true_eq] at h3
    have ht := h (max m.f s.1)
    have a1 : hasB (busyL l) (max m.f s.1) = true := hasB_iff.2 ⟨(m.f, m.t), List.mem_map_of_mem hm, by dsimp only; omega, by dsimp only; have := hmk.2.2.2; omega⟩
    have a2 : hasB q (max m.f s.1) = true := hasB_iff.2 ⟨s, hs, by omega, by have := hmk.2.2.2; omega⟩
    rw [a1, a2] at ht
    cases ht
  · intro h t
    rw [Bool.and_eq_false_iff]
    cases h1 : hasB (busyL l) t with
    | false => exact Or.inl rfl
    | true =>
      cases h2 : hasB q t with
      | false => exact Or.inr rfl
      | true =>
        exfalso
        obtain ⟨_, hm0, a, b⟩ := hasB_iff.1 h1
        obtain ⟨m, hm, rfl⟩ := List.mem_map.1 hm0
        obtain ⟨s, hs, c, d⟩ := hasB_iff.1 h2
        dsimp only at a b
        refine h (List.any_eq_true.2 ⟨m, hm, List.any_eq_true.2 ⟨s, hs, ?_⟩⟩)
        simp only [touchB, Bool.and_eq_true, decide_eq_true_eq]
        omega
theorem comb_few {k : Int} (a : List (Int × Int)) (h : a.length ≤ 50000) : (combL k a []).length ≤ 100000 := by
  have h1 := combTo_len k a [] (insAll (a ++ [])) ((insAll (a ++ [])).length - 1)
  have h2 := insAll_len (a ++ [])
  rw [List.length_append, List.length_nil] at h2
  unfold combL
  omega
theorem busy_ranged {l : List MarkD} (hl : l.all markB = true) : rangedB (busyL l) = true := by
  refine List.all_eq_true.2 fun s hs => ?_
  obtain ⟨m, hm, rfl⟩ := List.mem_map.1 hs
  have hw := window_iff.1 (mark_iff.1 (List.all_eq_true.1 hl m hm)).2.2.1
  simp [farB]
  omega
theorem prop_ranged {q : List (Int × Int)} (hq : q.all propB = true) : rangedB q = true := by
  refine List.all_eq_true.2 fun s hs => ?_
  have hw := prop_iff.1 (List.all_eq_true.1 hq s hs)
  simp [farB]
  omega
set_option maxHeartbeats 800000 in
theorem fits1_calls (s : Int × Int) (w : World) : Calls Try.prog 44 #[.agg #[.int .i64 s.1, .int .i64 s.2]] w fun e w' => e = .returned (.bool (!propB s)) ∧ Ext w w' := by
  obtain ⟨f, t⟩ := s
  dsimp only
  obtain ⟨q, hq⟩ : ∃ q, Hid (windowB f t = q) := ⟨_, rfl⟩
  have hw : Hid (∀ W, Ext w W → Calls Try.prog 45 #[.agg #[.int .i64 f, .int .i64 t]] W fun e w' => e = .returned (.bool q) ∧ Ext W w') := fun W _ => hq.out ▸ window_calls f t W
  cases q with
  | false =>
    have R : Hid ((!propB (f, t)) = true) := by show _ = _; unfold propB; rw [hq.out]; rfl
    clear hq
    go_enter Try.func44, Try.ntmps44
    go_wp2_with fail
    refine (hw.out _ (by exact (by repeat' (first | (with_reducible exact Ext.refl _) | (with_reducible assumption) | (with_reducible refine Ext.drewN ?_ _) | (with_reducible refine Ext.drew ?_) | (with_reducible refine Ext.alloc ?_ _) | (with_reducible refine Ext.trans ?_ (by with_reducible assumption)))))).mono ?_
    rintro e w1 ⟨rfl, hx1⟩
    go_wp2
    go_ret
    rw [R.out]
    exact ⟨rfl, ((Ext.refl w).alloc _).trans hx1⟩
  | true =>
    obtain ⟨r, hr⟩ : ∃ r, (f == t) = r := ⟨_, rfl⟩
    have R : Hid ((!propB (f, t)) = r) := by
      show _ = _
      unfold propB
      rw [hq.out, ← hr]
      simp only [Bool.true_and, Bool.not_not]
      rw [Bool.eq_iff_iff, decide_eq_true_iff, beq_iff_eq]
    clear hq
    go_enter Try.func44, Try.ntmps44
    go_wp2_with fail
    refine (hw.out _ (by exact (by repeat' (first | (with_reducible exact Ext.refl _) | (with_reducible assumption) | (with_reducible refine Ext.drewN ?_ _) | (with_reducible refine Ext.drew ?_) | (with_reducible refine Ext.alloc ?_ _) | (with_reducible refine Ext.trans ?_ (by with_reducible assumption)))))).mono ?_
    rintro e w1 ⟨rfl, hx1⟩
    have c0 : w1.cell? ⟨w.heap.size, 0, none⟩ = some (.int .i64 f) := hx1.cell (by simp)
    have c1 : w1.cell? ⟨w.heap.size, 1, none⟩ = some (.int .i64 t) := hx1.cell (by simp)
    have hE1 := Lib.hid (((Ext.refl w).alloc (.cells #[.int .i64 f, .int .i64 t] 28)).trans hx1)
    clear hx1 hw
    go_wp2
    go_ret
    rw [R.out]
    exact ⟨rfl, hE1.out⟩
theorem busy_take {l : List MarkD} {i : Nat} {f t k : Int} (h : l[i]? = some ⟨f, t, k⟩) : busyL (l.take (i + 1)) = busyL (l.take i) ++ [(f, t)] := by rw [takeStep h]; simp [busyL]
theorem busy_len (l : List MarkD) : (busyL l).length = l.length := by simp [busyL]
set_option maxHeartbeats 6400000 in
set_option maxRecDepth 100000 in
theorem fits_calls (va vq : Value) (l : List MarkD) (g : Int) (q : List (Int × Int)) (w : World) (ha : Marks w va l) (hs : Spans w vq q) (hl1 : l.length ≤ 50000) (hl2 : q.length ≤ 50000) :
    Calls Try.prog 24 #[va, .int .i64 g, vq] w fun e w' => e = .returned (.tuple #[.bool (fitsG l g q).1, .int .i64 (fitsG l g q).2]) ∧ Ext w w' := by
  have hM := Lib.hid ha
  have hS := Lib.hid hs
  obtain ⟨la, lc, rfl, hln, hlc, lat⟩ := ha.open
  obtain ⟨qa, qc, rfl⟩ := hs.form
  have lat' := Lib.hid lat
  clear ha hs lat
  obtain ⟨j0, hj0, jz0, jz1, jz2⟩ := info_parts span_info
  obtain ⟨p, hp⟩ : ∃ p, Hid (l.all markB = p) := ⟨_, rfl⟩
  have hval : Hid (∀ W, Ext w W → Calls Try.prog 46 #[.slice la l.length lc] W fun e w' => e = .returned (.bool p) ∧ Ext W w') := fun W hW => hp.out ▸ coarseValid_calls _ l W (hM.out.ext hW)
  obtain ⟨r, hr⟩ : ∃ r, Hid (q.all propB = r) := ⟨_, rfl⟩
  have hprop : Hid (∀ W, Ext w W → Calls Try.prog 47 #[.slice qa q.length qc, .func (.func 44) #[] #[]] W fun e w' => e = .returned (.bool (!r)) ∧ Ext W w') := fun W hW => by
    have := containsFunc_span_calls _ q 44 (fun _ _ => by kernel_rfl) (fun s => !propB s) W (hS.out.ext hW) (fun s _ W _ => fits1_calls s W)
    rwa [any_not, hr.out] at this
  cases p with
  | false =>
    have R : Hid (fitsG l g q = (false, 1)) := by show _ = _; unfold fitsG; rw [hp.out]; rfl
    clear hp hr
    go_enter Try.func24, Try.ntmps24
    go_wp2_with fail
    refine (hval.out _ (by exact (by repeat' (first | (with_reducible exact Ext.refl _) | (with_reducible assumption) | (with_reducible refine Ext.drewN ?_ _) | (with_reducible refine Ext.drew ?_) | (with_reducible refine Ext.alloc ?_ _) | (with_reducible refine Ext.trans ?_ (by with_reducible assumption)))))).mono ?_
    rintro e w1 ⟨rfl, hx1⟩
    clear hval
    go_wp2
    go_ret2
    rw [R.out]
    exact ⟨rfl, hx1⟩
  | true =>
    by_cases h1 : g < 0
    · have d1 : decide (g < 0) = true := decide_eq_true h1
      have R : Hid (fitsG l g q = (false, 1)) := by show _ = _; unfold fitsG grainB; rw [hp.out, decide_eq_false (show ¬ 0 ≤ g by omega)]; rfl
      clear hp hr h1
      go_enter Try.func24, Try.ntmps24
      go_wp2_with fail
      refine (hval.out _ (by exact (by repeat' (first | (with_reducible exact Ext.refl _) | (with_reducible assumption) | (with_reducible refine Ext.drewN ?_ _) | (with_reducible refine Ext.drew ?_) | (with_reducible refine Ext.alloc ?_ _) | (with_reducible refine Ext.trans ?_ (by with_reducible assumption)))))).mono ?_
      rintro e w1 ⟨rfl, hx1⟩
      clear hval
      go_wp2
      go_ret2
      rw [R.out]
      exact ⟨rfl, hx1⟩
    · have d1 : decide (g < 0) = false := decide_eq_false h1
      by_cases h2 : 4 < g
      · have d2 : decide (4 < g) = true := decide_eq_true h2
        have R : Hid (fitsG l g q = (false, 1)) := by show _ = _; unfold fitsG grainB; rw [hp.out, decide_eq_false (show ¬ g ≤ 4 by omega), Bool.and_false]; rfl
        clear hp hr h1 h2
        go_enter Try.func24, Try.ntmps24
        go_wp2_with fail
        refine (hval.out _ (by exact (by repeat' (first | (with_reducible exact Ext.refl _) | (with_reducible assumption) | (with_reducible refine Ext.drewN ?_ _) | (with_reducible refine Ext.drew ?_) | (with_reducible refine Ext.alloc ?_ _) | (with_reducible refine Ext.trans ?_ (by with_reducible assumption)))))).mono ?_
        rintro e w1 ⟨rfl, hx1⟩
        clear hval
        go_wp2
        go_ret2
        rw [R.out]
        exact ⟨rfl, hx1⟩
      · have d2 : decide (4 < g) = false := decide_eq_false h2
        have hgr : Hid (grainB g = true) := by show _ = _; unfold grainB; rw [decide_eq_true (show 0 ≤ g by omega), decide_eq_true (show g ≤ 4 by omega)]; rfl
        clear h1 h2
        cases r with
        | false =>
          have R : Hid (fitsG l g q = (false, 1)) := by show _ = _; unfold fitsG; rw [hp.out, hgr.out, hr.out]; rfl
          clear hp hr hgr
          go_enter Try.func24, Try.ntmps24
          go_wp2_with fail
          refine (hval.out _ (by exact (by repeat' (first | (with_reducible exact Ext.refl _) | (with_reducible assumption) | (with_reducible refine Ext.drewN ?_ _) | (with_reducible refine Ext.drew ?_) | (with_reducible refine Ext.alloc ?_ _) | (with_reducible refine Ext.trans ?_ (by with_reducible assumption)))))).mono ?_
          rintro e w1 ⟨rfl, hx1⟩
          clear hval
          go_wp2_with fail
          refine (hprop.out _ hx1).mono ?_
          rintro e w2 ⟨rfl, hx2⟩
          have hE2 := Lib.hid (hx1.trans hx2)
          clear hx1 hx2 hprop
          go_wp2
          go_ret2
          rw [R.out]
          exact ⟨rfl, hE2.out⟩
        | true =>
          have R0 : Hid (fitsG l g q = if g < 2 then (false, 12) else if 65536 < q.length then (false, 2) else (!hitsB l q, 0)) := by show _ = _; unfold fitsG; rw [hp.out, hgr.out, hr.out]; rfl
          by_cases h3 : g < 2
          · have d3 : decide (g < 2) = true := decide_eq_true h3
            have R : Hid (fitsG l g q = (false, 12)) := by show _ = _; rw [R0.out, if_pos h3]
            clear hp hr hgr h3 R0
            go_enter Try.func24, Try.ntmps24
            go_wp2_with fail
            refine (hval.out _ (by exact (by repeat' (first | (with_reducible exact Ext.refl _) | (with_reducible assumption) | (with_reducible refine Ext.drewN ?_ _) | (with_reducible refine Ext.drew ?_) | (with_reducible refine Ext.alloc ?_ _) | (with_reducible refine Ext.trans ?_ (by with_reducible assumption)))))).mono ?_
            rintro e w1 ⟨rfl, hx1⟩
            clear hval
            go_wp2_with fail
            refine (hprop.out _ hx1).mono ?_
            rintro e w2 ⟨rfl, hx2⟩
            have hE2 := Lib.hid (hx1.trans hx2)
            clear hx1 hx2 hprop
            go_wp2
            go_ret2
            rw [R.out]
            exact ⟨rfl, hE2.out⟩
          · have d3 : decide (g < 2) = false := decide_eq_false h3
            have h4 : ¬ 65536 < q.length := by omega
            · have R : Hid (fitsG l g q = (decide (combL 1 (combL 0 (busyL l) []) (combL 0 q []) = []), 0)) := by show _ = _; rw [R0.out, if_neg h3, if_neg h4, meet_hits hp.out hr.out]
              have hr1 := Lib.hid (busy_ranged hp.out)
              have hr2 := Lib.hid (prop_ranged hr.out)
              clear hp hr hgr h3 R0
              go_enter Try.func24, Try.ntmps24
              go_wp2_with fail
              refine (hval.out _ (by exact (by repeat' (first | (with_reducible exact Ext.refl _) | (with_reducible assumption) | (with_reducible refine Ext.drewN ?_ _) | (with_reducible refine Ext.drew ?_) | (with_reducible refine Ext.alloc ?_ _) | (with_reducible refine Ext.trans ?_ (by with_reducible assumption)))))).mono ?_
              rintro e w1 ⟨rfl, hx1⟩
              clear hval
              go_wp2_with fail
              refine (hprop.out _ hx1).mono ?_
              rintro e w2 ⟨rfl, hx2⟩
              have hE2 := Lib.hid (hx1.trans hx2)
              clear hx1 hx2 hprop
              go_wp2_with fail
              generalize hq0 : decide (65536 < (q.length : Int)) = b0
              clear hq0
              go_loopw [9, 42] (fun v9 vi wr => ∃ (i : Nat) (A : Option Addr) (C : Nat), i ≤ l.length ∧ v9 = .slice A i C ∧ vi = .int .i64 i ∧ Hid (Ext w wr) ∧ Hid (SpansO wr w.heap.size (.slice A i C) (busyL (l.take i)))) (fun _ vi _ => l.length - (intOf vi).toNat)
              case atStart => exact ⟨0, none, 0, by omega, rfl, rfl, hE2, Lib.hid (SpansO.nil _ _)⟩
              case round =>
                clear hE2
                obtain ⟨i, A, C, hi, rfl, rfl, hx, hO⟩ := hrel
                by_cases h1 : i < l.length
                · obtain ⟨b, off, mf, mt, mk, rfl, hb, _, hget, g0, g1, g2⟩ := lat'.out i h1 wr hx.out
                  have hil : i + 1 ≤ 100000 := by omega
                  have hsz := hx.out.size
                  have hO' : Hid (wr.ownsRow w.heap.size 28 2 (.slice A i C) i (spanCells (busyL (l.take i)))) := by
                    have := hO.out
                    unfold SpansO at this
                    rw [busy_len, List.length_take, Nat.min_eq_left hi] at this
                    exact Lib.hid this
                  clear hO
                  go_wp2_with (at_builtin; refine wpList_append_any _ rfl (.tmp 46) (.tmp 49) _ rfl w.heap.size 28 j0 _ 2 16 Try.underlying45 hj0 jz0 jz1 jz2 rfl (by decide) (.slice A i C) i (spanCells (busyL (l.take i))) rfl ((hO'.out.alloc _).alloc _) (wr.heap.size + 2) (some ⟨wr.heap.size + 1, 0, none⟩) 1 1 [.int .i64 mf, .int .i64 mt] rfl (reads_last _ #[_, _] _ 2 1 _ _ (by simp only [World.size_alloc]) (by omega) rfl) (two_ints _ _) (by unfold maxLen; omega) (by omega) (by rw [World.size_alloc, World.size_alloc]; omega) ?_; intro v5 w5 hown5 hg5 hat5; obtain ⟨A5, C5, rfl⟩ := owns_form hown5)
                  have hO5 : Hid (SpansO w5 w.heap.size (.slice A5 (i + 1) C5) (busyL (l.take (i + 1)))) := by
                    show SpansO _ _ _ _
                    unfold SpansO
                    rw [busy_len, List.length_take, Nat.min_eq_left (show i + 1 ≤ l.length by omega), busy_take hget.out, spanCells_app]
                    exact hown5
                  have hx5 := Lib.hid (((hx.out.alloc (.cells #[.int .i64 mf, .int .i64 mt, .int .i64 mk] 47)).alloc (.cells #[.int .i64 mf, .int .i64 mt] 28)).grown hg5 (fun k e => (hO'.out.lt k e).1))
                  clear hown5 hg5 hat5 hO' hx
                  go_wp2
                  go_roundw
                  case rel => first | exact ⟨i + 1, A5, C5, h1, rfl, by go_num, hx5, hO5⟩ | ((repeat apply Exists.intro); exact ⟨⟨i + 1, A5, C5, h1, rfl, by go_num, hx5, hO5⟩, rfl⟩)
                  case measure => simp [intOf]; omega
                · obtain rfl : i = l.length := by omega
                  have hO2 := hO.out.read
                  rw [List.take_length] at hO2
                  have hn1 := Lib.hid (spanNorm_calls _ (busyL l) wr hO2 (by rw [busy_len]; omega))
                  rw [show CombOut 0 (busyL l) [] wr = fun e w' => ∃ v, e = .returned (.tuple #[v, .int .i64 0]) ∧ SpansR w' wr.heap.size v (combL 0 (busyL l) []) ∧ Ext wr w' by
                    unfold CombOut; rw [combT_ok hr1.out rfl]] at hn1
                  clear hO hO2
                  go_wp2_with fail
                  refine hn1.out.mono ?_
                  rintro e w3 ⟨vb, rfl, hvb, hx3⟩
                  obtain ⟨bA, bC, rfl⟩ := hvb.read.form
                  have hB3 := Lib.hid hvb.read
                  have hE3 := Lib.hid (hx.out.trans hx3)
                  have hn2 := Lib.hid (spanNorm_calls _ q w3 (hS.out.ext hE3.out) (by omega))
                  rw [show CombOut 0 q [] w3 = fun e w' => ∃ v, e = .returned (.tuple #[v, .int .i64 0]) ∧ SpansR w' w3.heap.size v (combL 0 q []) ∧ Ext w3 w' by
                    unfold CombOut; rw [combT_ok hr2.out rfl]] at hn2
                  clear hvb hx3 hn1 hx
                  go_wp2_with fail
                  refine hn2.out.mono ?_
                  rintro e w4 ⟨vq, rfl, hvq, hx4⟩
                  obtain ⟨cA, cC, rfl⟩ := hvq.read.form
                  have hB4 := Lib.hid (hB3.out.ext hx4)
                  have hC4 := Lib.hid hvq.read
                  have hE4 := Lib.hid (hE3.out.trans hx4)
                  have hn3 := Lib.hid (spanMeet_calls _ _ (combL 0 (busyL l) []) (combL 0 q []) w4 hB4.out hC4.out (comb_few (busyL l) (by rw [busy_len]; exact hl1)) (comb_few q hl2))
                  rw [show CombOut 1 (combL 0 (busyL l) []) (combL 0 q []) w4 = fun e w' => ∃ v, e = .returned (.tuple #[v, .int .i64 0]) ∧ SpansR w' w4.heap.size v (combL 1 (combL 0 (busyL l) []) (combL 0 q [])) ∧ Ext w4 w' by
                    unfold CombOut; rw [combT_ok (comb_ranged hr1.out rfl) (comb_ranged hr2.out rfl)]] at hn3
                  clear hvq hx4 hn2 hE3 hB3
                  obtain ⟨X, hX⟩ : ∃ X, Hid (combL 1 (combL 0 (busyL l) []) (combL 0 q []) = X) := ⟨_, rfl⟩
                  rw [hX.out] at hn3 R
                  clear hX
                  go_wp2_with fail
                  refine hn3.out.mono ?_
                  rintro e w5 ⟨vm, rfl, hvm, hx5⟩
                  obtain ⟨dA, dC, rfl⟩ := hvm.read.form
                  have hE5 := Lib.hid (hE4.out.trans hx5)
                  clear hvm hx5 hn3 hE4 hB4 hC4
                  obtain ⟨k, hk⟩ : ∃ k, Hid (X.length = k) := ⟨_, rfl⟩
                  rw [hk.out]
                  have R2 : Hid (fitsG l g q = (decide (k = 0), 0)) := by
                    show _ = _
                    rw [R.out, ← hk.out]
                    congr 1
                    rw [decide_eq_decide, List.length_eq_zero_iff]
                  clear R hk
                  by_cases hk0 : k = 0
                  · subst hk0
                    go_wp2
                    go_ret2
                    rw [R2.out]
                    exact ⟨rfl, hE5.out⟩
                  · have z5 : ((k : Int) == 0) = false := by rw [beq_eq_false_iff_ne]; omega
                    have R3 : Hid (fitsG l g q = (false, 0)) := by show _ = _; rw [R2.out, decide_eq_false hk0]
                    go_wp2
                    go_ret2
                    rw [R3.out]
                    exact ⟨rfl, hE5.out⟩
end Go.Proofs.Ytcmcojmhlgknoaa
