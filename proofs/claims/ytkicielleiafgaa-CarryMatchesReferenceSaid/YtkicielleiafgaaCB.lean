/- Walks of package carry: ContainsFunc with a captured variable, validStep, check, Play. -/
import Derived.Test.YtkicielleiafgaaCA
import Derived.Deep.Cut
namespace Go.Proofs.Ytkicielleiafgaa
open Go.RowKit

/-! ### slices.IndexFunc, ContainsFunc with a function that has captured one variable -/
set_option maxHeartbeats 400000 in
theorem indexFunc_stepC_calls (va q : Value) (l : List (Int × Int)) (g : Nat) (hg : ∀ (x : Array Value) (W : World), (callFunc g x).run Try.prog W = .ok (.enter g x) W) (p : Int × Int → Bool) (w : World) (h : Spans w va l)
    (hf : ∀ s ∈ l, ∀ W, Ext w W → Calls Try.prog g #[.agg #[.int .i64 s.1, .int .i64 s.2], q] W fun e w' => e = .returned (.bool (p s)) ∧ Ext W w') :
    Calls Try.prog 113 #[va, .func (.func g) #[] #[q]] w fun e w' => e = .returned (.int .i64 (findI p l)) ∧ Ext w w' := by
  obtain ⟨a, c, rfl, hn, hc, hat⟩ := h.open
  clear h
  have hf' := Lib.hid hf
  clear hf
  go_enter Try.func113, Try.ntmps113
  go_wp2_with fail
  go_loopw [8] (fun vi wr => ∃ i : Nat, i ≤ l.length ∧ vi = .int .i64 i ∧ Ext w wr ∧ Hid (FindAt p l i)) (fun vi _ => l.length - (intOf vi).toNat)
  case atStart => exact ⟨0, by omega, rfl, Ext.refl _, FindAt.zero _ _⟩
  case round =>
    obtain ⟨i, hi, rfl, hx, hF⟩ := hrel
    by_cases h1 : i < l.length
    · obtain ⟨b1, o1, x, y, rfl, hb1, dx, ex, g1, g2⟩ := hat i h1 wr hx
      have hm : (x, y) ∈ l := List.mem_of_getElem? ex.out
      have hcall := Lib.hid (hf'.out (x, y) hm wr hx)
      cases hp : p (x, y) with
      | true =>
        have R := Lib.hid (hF.out.hit ex.out hp)
        have hp' := Lib.hid hp
        clear hp
        go_wp2_with fail
        refine hcall.out.mono ?_
        rintro e w1 ⟨rfl, hx1⟩
        rw [hp'.out]
        go_wp2
        go_ret
        rw [R.out]
        exact ⟨rfl, hx.trans hx1⟩
      | false =>
        have R := Lib.hid (hF.out.miss ex.out hp)
        have hp' := Lib.hid hp
        clear hp
        go_wp2_with fail
        refine hcall.out.mono ?_
        rintro e w1 ⟨rfl, hx1⟩
        rw [hp'.out]
        go_wp2
        go_roundw
        case rel => exact ⟨i + 1, by omega, by go_num, hx.trans hx1, R⟩
        case measure => simp [intOf]; omega
    · have R := Lib.hid (hF.out.none (by omega))
      go_wp2
      go_ret
      rw [R.out]
      exact ⟨rfl, hx⟩

theorem containsFunc_stepC_calls (va q : Value) (l : List (Int × Int)) (g : Nat) (hg : ∀ (x : Array Value) (W : World), (callFunc g x).run Try.prog W = .ok (.enter g x) W) (p : Int × Int → Bool) (w : World) (h : Spans w va l)
    (hf : ∀ s ∈ l, ∀ W, Ext w W → Calls Try.prog g #[.agg #[.int .i64 s.1, .int .i64 s.2], q] W fun e w' => e = .returned (.bool (p s)) ∧ Ext W w') :
    Calls Try.prog 88 #[va, .func (.func g) #[] #[q]] w fun e w' => e = .returned (.bool (l.any p)) ∧ Ext w w' := by
  have hc := Lib.hid (indexFunc_stepC_calls va q l g hg p w h hf)
  have R := Lib.hid (findI_ge p l)
  clear hf h
  go_enter Try.func88, Try.ntmps88
  go_wp2_with fail
  refine hc.out.mono ?_
  rintro e w1 ⟨rfl, hx1⟩
  go_wp2
  go_ret
  rw [R.out]
  exact ⟨rfl, hx1⟩

set_option maxHeartbeats 400000 in
theorem indexFunc_intC_calls (va q : Value) (l : List Int) (g : Nat) (hg : ∀ (x : Array Value) (W : World), (callFunc g x).run Try.prog W = .ok (.enter g x) W) (p : Int → Bool) (w : World) (h : Ints w va l)
    (hf : ∀ s ∈ l, ∀ W, Ext w W → Calls Try.prog g #[.int .i64 s, q] W fun e w' => e = .returned (.bool (p s)) ∧ Ext W w') :
    Calls Try.prog 94 #[va, .func (.func g) #[] #[q]] w fun e w' => e = .returned (.int .i64 (findI p l)) ∧ Ext w w' := by
  obtain ⟨a, c, rfl, hn, hc, hat⟩ := h.open
  clear h
  have hf' := Lib.hid hf
  clear hf
  go_enter Try.func94, Try.ntmps94
  go_wp2_with fail
  go_loopw [8] (fun vi wr => ∃ i : Nat, i ≤ l.length ∧ vi = .int .i64 i ∧ Ext w wr ∧ Hid (FindAt p l i)) (fun vi _ => l.length - (intOf vi).toNat)
  case atStart => exact ⟨0, by omega, rfl, Ext.refl _, FindAt.zero _ _⟩
  case round =>
    obtain ⟨i, hi, rfl, hx, hF⟩ := hrel
    by_cases h1 : i < l.length
    · obtain ⟨b1, o1, x, rfl, hb1, dx, ex, g1⟩ := hat i h1 wr hx
      have hm : x ∈ l := List.mem_of_getElem? ex.out
      have hcall := Lib.hid (hf'.out x hm wr hx)
      cases hp : p x with
      | true =>
        have R := Lib.hid (hF.out.hit ex.out hp)
        have hp' := Lib.hid hp
        clear hp
        go_wp2_with fail
        refine hcall.out.mono ?_
        rintro e w1 ⟨rfl, hx1⟩
        rw [hp'.out]
        go_wp2
        go_ret
        rw [R.out]
        exact ⟨rfl, hx.trans hx1⟩
      | false =>
        have R := Lib.hid (hF.out.miss ex.out hp)
        have hp' := Lib.hid hp
        clear hp
        go_wp2_with fail
        refine hcall.out.mono ?_
        rintro e w1 ⟨rfl, hx1⟩
        rw [hp'.out]
        go_wp2
        go_roundw
        case rel => exact ⟨i + 1, by omega, by go_num, hx.trans hx1, R⟩
        case measure => simp [intOf]; omega
    · have R := Lib.hid (hF.out.none (by omega))
      go_wp2
      go_ret
      rw [R.out]
      exact ⟨rfl, hx⟩

theorem containsFunc_intC_calls (va q : Value) (l : List Int) (g : Nat) (hg : ∀ (x : Array Value) (W : World), (callFunc g x).run Try.prog W = .ok (.enter g x) W) (p : Int → Bool) (w : World) (h : Ints w va l)
    (hf : ∀ s ∈ l, ∀ W, Ext w W → Calls Try.prog g #[.int .i64 s, q] W fun e w' => e = .returned (.bool (p s)) ∧ Ext W w') :
    Calls Try.prog 57 #[va, .func (.func g) #[] #[q]] w fun e w' => e = .returned (.bool (l.any p)) ∧ Ext w w' := by
  have hc := Lib.hid (indexFunc_intC_calls va q l g hg p w h hf)
  have R := Lib.hid (findI_ge p l)
  clear hf h
  go_enter Try.func57, Try.ntmps57
  go_wp2_with fail
  refine hc.out.mono ?_
  rintro e w1 ⟨rfl, hx1⟩
  go_wp2
  go_ret
  rw [R.out]
  exact ⟨rfl, hx1⟩

/-! ### validStep -/
theorem validStep_calls (wv : Value) (t : List WishD) (x y : Int) (w : World) (h : Wishes w wv t) :
    Calls Try.prog 90 #[.agg #[wv], .agg #[.int .i64 x, .int .i64 y]] w fun e w' => e = .returned (.bool (stepOkB t (x, y))) ∧ Ext w w' := by
  obtain ⟨ta, tc, rfl, hn, hc, hat⟩ := h.open
  clear h
  by_cases h1 : 0 ≤ x
  · have d1 : decide (0 ≤ x) = true := decide_eq_true h1
    by_cases h2 : x < (t.length : Int)
    · obtain ⟨n, rfl⟩ : ∃ n : Nat, x = n := ⟨x.toNat, by omega⟩
      have hn' : n < t.length := by omega
      have d2 : decide (n < t.length) = true := decide_eq_true hn'
      obtain ⟨b1, o1, v, pa, pc, oa, oc, rfl, hb1, dx, ex, g0, g1, g2, gp, go⟩ := hat n hn' w (Ext.refl _)
      have R0 : Hid (stepOkB t ((n : Int), y) = (decide (-1 ≤ y) && decide (y < (v.opts.length : Int)))) := by
        show _ = _
        simp only [stepOkB, Int.toNat_natCast, ex.out, Option.getD_some, idxB_of_lt hn', Bool.true_and]
      clear gp go hat h1 h2 g0 g1
      by_cases h3 : -1 ≤ y
      · have d3 : decide (-1 ≤ y) = true := decide_eq_true h3
        have R : Hid (stepOkB t ((n : Int), y) = decide (y < (v.opts.length : Int))) := by show _ = _; rw [R0.out, d3]; rfl
        go_enter Try.func90, Try.ntmps90
        go_upto_region 1 with (fail)
        refine wp_abs (S := fun W => Ext w W ∧ W.cell? ⟨w.heap.size, 0, none⟩ = some (.slice (some ⟨b1, o1, none⟩) t.length tc) ∧ W.cell? ⟨w.heap.size + 1, 0, none⟩ = some (.int .i64 n) ∧ W.cell? ⟨w.heap.size + 1, 1, none⟩ = some (.int .i64 y)) ⟨by exact (by repeat' (first | (with_reducible exact Ext.refl _) | (with_reducible assumption) | (with_reducible refine Ext.drewN ?_ _) | (with_reducible refine Ext.drew ?_) | (with_reducible refine Ext.alloc ?_ _) | (with_reducible refine Ext.trans ?_ (by with_reducible assumption)))), by simp, by simp, by simp⟩ ?_
        rintro W ⟨hW, c0, c1, c2⟩
        have z0 := After.cell c0
        have z1 := After.cell c1
        have z2 := After.cell c2
        have z3 := After.cell (hW.cell g2)
        clear c0 c1 c2
        refine wp_region_after (by kernel_rfl) (by kernel_rfl) ?_
        repeat (go_big_quiet_step (fail))
        refine wpQuiet_nil ?_
        rintro _ ⟨u, rfl⟩
        go_wp2
        go_ret
        rw [R.out]
        exact ⟨rfl, hW.trans u.ext⟩
      · have d3 : decide (-1 ≤ y) = false := decide_eq_false h3
        have R : Hid (stepOkB t ((n : Int), y) = false) := by show _ = _; rw [R0.out, d3]; rfl
        go_enter Try.func90, Try.ntmps90
        go_upto_region 1 with (fail)
        refine wp_abs (S := fun W => Ext w W ∧ W.cell? ⟨w.heap.size, 0, none⟩ = some (.slice (some ⟨b1, o1, none⟩) t.length tc) ∧ W.cell? ⟨w.heap.size + 1, 0, none⟩ = some (.int .i64 n) ∧ W.cell? ⟨w.heap.size + 1, 1, none⟩ = some (.int .i64 y)) ⟨by exact (by repeat' (first | (with_reducible exact Ext.refl _) | (with_reducible assumption) | (with_reducible refine Ext.drewN ?_ _) | (with_reducible refine Ext.drew ?_) | (with_reducible refine Ext.alloc ?_ _) | (with_reducible refine Ext.trans ?_ (by with_reducible assumption)))), by simp, by simp, by simp⟩ ?_
        rintro W ⟨hW, c0, c1, c2⟩
        have z0 := After.cell c0
        have z1 := After.cell c1
        have z2 := After.cell c2
        have z3 := After.cell (hW.cell g2)
        clear c0 c1 c2
        refine wp_region_after (by kernel_rfl) (by kernel_rfl) ?_
        repeat (go_big_quiet_step (fail))
        refine wpQuiet_nil ?_
        rintro _ ⟨u, rfl⟩
        go_wp2
        go_ret
        rw [R.out]
        exact ⟨rfl, hW.trans u.ext⟩
    · have d2 : decide (x < (t.length : Int)) = false := decide_eq_false h2
      have R : Hid (stepOkB t (x, y) = false) := by show _ = _; simp only [stepOkB, idxB, d2]; simp
      go_enter Try.func90, Try.ntmps90
      go_upto_region 1 with (fail)
      refine wp_abs (S := fun W => Ext w W ∧ W.cell? ⟨w.heap.size, 0, none⟩ = some (.slice ta t.length tc) ∧ W.cell? ⟨w.heap.size + 1, 0, none⟩ = some (.int .i64 x) ∧ W.cell? ⟨w.heap.size + 1, 1, none⟩ = some (.int .i64 y)) ⟨by exact (by repeat' (first | (with_reducible exact Ext.refl _) | (with_reducible assumption) | (with_reducible refine Ext.drewN ?_ _) | (with_reducible refine Ext.drew ?_) | (with_reducible refine Ext.alloc ?_ _) | (with_reducible refine Ext.trans ?_ (by with_reducible assumption)))), by simp, by simp, by simp⟩ ?_
      rintro W ⟨hW, c0, c1, c2⟩
      have z0 := After.cell c0
      have z1 := After.cell c1
      have z2 := After.cell c2
      skip
      clear c0 c1 c2
      refine wp_region_after (by kernel_rfl) (by kernel_rfl) ?_
      repeat (go_big_quiet_step (fail))
      refine wpQuiet_nil ?_
      rintro _ ⟨u, rfl⟩
      go_wp2
      go_ret
      rw [R.out]
      exact ⟨rfl, hW.trans u.ext⟩
  · have d1 : decide (0 ≤ x) = false := decide_eq_false h1
    have R : Hid (stepOkB t (x, y) = false) := by show _ = _; simp only [stepOkB, idxB, d1]; simp
    go_enter Try.func90, Try.ntmps90
    go_upto_region 1 with (fail)
    refine wp_abs (S := fun W => Ext w W ∧ W.cell? ⟨w.heap.size, 0, none⟩ = some (.slice ta t.length tc) ∧ W.cell? ⟨w.heap.size + 1, 0, none⟩ = some (.int .i64 x) ∧ W.cell? ⟨w.heap.size + 1, 1, none⟩ = some (.int .i64 y)) ⟨by exact (by repeat' (first | (with_reducible exact Ext.refl _) | (with_reducible assumption) | (with_reducible refine Ext.drewN ?_ _) | (with_reducible refine Ext.drew ?_) | (with_reducible refine Ext.alloc ?_ _) | (with_reducible refine Ext.trans ?_ (by with_reducible assumption)))), by simp, by simp, by simp⟩ ?_
    rintro W ⟨hW, c0, c1, c2⟩
    have z0 := After.cell c0
    have z1 := After.cell c1
    have z2 := After.cell c2
    skip
    clear c0 c1 c2
    refine wp_region_after (by kernel_rfl) (by kernel_rfl) ?_
    repeat (go_big_quiet_step (fail))
    refine wpQuiet_nil ?_
    rintro _ ⟨u, rfl⟩
    go_wp2
    go_ret
    rw [R.out]
    exact ⟨rfl, hW.trans u.ext⟩

theorem check1_calls (wv q : Value) (t : List WishD) (b : Nat) (x y : Int) (w : World) (h : Wishes w wv t) (hb : w.cell? ⟨b, 0, none⟩ = some wv) (hq : q = .pointer (some ⟨b, 0, none⟩)) :
    Calls Try.prog 89 #[.agg #[.int .i64 x, .int .i64 y], q] w fun e w' => e = .returned (.bool (!stepOkB t (x, y))) ∧ Ext w w' := by
  subst hq
  have hT := Lib.hid h
  obtain ⟨ta, tc, rfl⟩ := h.form
  have hlt := World.block_lt_of_cell? _ _ hb
  clear h
  go_enter Try.func89, Try.ntmps89
  go_wp2_with fail
  refine (validStep_calls _ t x y _ (hT.out.ext (by repeat' (first | (with_reducible exact Ext.refl _) | (with_reducible assumption) | (with_reducible refine Ext.drewN ?_ _) | (with_reducible refine Ext.drew ?_) | (with_reducible refine Ext.alloc ?_ _) | (with_reducible refine Ext.trans ?_ (by with_reducible assumption)))))).mono ?_
  rintro e w1 ⟨rfl, hx1⟩
  go_wp2
  go_ret
  exact ⟨rfl, ((Ext.refl _).alloc _).trans hx1⟩

theorem any_not {α : Type} (p : α → Bool) (l : List α) : (l.any fun x => !p x) = !(l.all p) := by
  induction l with
  | nil => rfl
  | cons x l ih => simp only [List.any_cons, List.all_cons, ih, Bool.not_and]

set_option maxHeartbeats 800000 in
theorem carryCheck_calls (wv sv : Value) (t : List WishD) (l : List (Int × Int)) (w : World) (h : Wishes w wv t) (hs : Spans w sv l) :
    Calls Try.prog 52 #[.agg #[wv], sv] w fun e w' => e = .returned (.int .i64 (stepsT t l)) ∧ Ext w w' := by
  have hT := Lib.hid h
  have hS := Lib.hid hs
  obtain ⟨ta, tc, rfl⟩ := h.form
  obtain ⟨sa, sc, rfl⟩ := hs.form
  have ll := hs.len
  clear h hs
  obtain ⟨z, hz⟩ : ∃ z, Hid (validT t = z) := ⟨_, rfl⟩
  have hval : Hid (∀ W, Ext w W → Calls Try.prog 31 #[.agg #[.slice ta t.length tc]] W fun e w' => e = .returned (.int .i64 z) ∧ Ext W w') := fun W hW => hz.out ▸ valid_calls _ t W (hT.out.ext hW)
  go_enter Try.func52, Try.ntmps52
  go_wp2_with fail
  refine (hval.out _ (by repeat' (first | (with_reducible exact Ext.refl _) | (with_reducible assumption) | (with_reducible refine Ext.drewN ?_ _) | (with_reducible refine Ext.drew ?_) | (with_reducible refine Ext.alloc ?_ _) | (with_reducible refine Ext.trans ?_ (by with_reducible assumption))))).mono ?_
  rintro e w1 ⟨rfl, hx1⟩
  have c0 : w1.cell? ⟨w.heap.size, 0, none⟩ = some (.slice ta t.length tc) := hx1.cell (by simp)
  have hW := ((Ext.refl w).alloc (.cells #[.slice ta t.length tc] 27)).trans hx1
  clear hx1 hval
  by_cases h0 : z = 0
  · have hz0 : (z != 0) = false := by simp [h0]
    have hcont := Lib.hid (containsFunc_stepC_calls (.slice sa l.length sc) (.pointer (some ⟨w.heap.size, 0, none⟩)) l 89 (fun _ _ => by kernel_rfl) (fun s => !stepOkB t s) w1 (hS.out.ext hW)
      (fun s _ W hw => check1_calls _ _ t w.heap.size s.1 s.2 W (hT.out.ext (hW.trans hw)) (hw.cell c0) rfl))
    rw [any_not] at hcont
    have hzv : Hid (validT t = 0) := hz.out.trans h0
    clear hz h0
    cases hal : l.all (stepOkB t) with
    | false =>
      rw [hal] at hcont
      have R : Hid (stepsT t l = 1) := by show _ = _; unfold stepsT; rw [if_pos hzv.out, hal]; rfl
      clear hal
      go_wp2_with fail
      refine hcont.out.mono ?_
      rintro e w2 ⟨rfl, hx2⟩
      go_wp2
      go_ret
      rw [R.out]
      exact ⟨rfl, hW.trans hx2⟩
    | true =>
      rw [hal] at hcont
      have hal' := Lib.hid hal
      clear hal
      by_cases h3 : 1024 < l.length
      · have R : Hid (stepsT t l = 2) := by show _ = _; unfold stepsT; rw [if_pos hzv.out, if_pos hal'.out, if_pos h3]
        go_wp2_with fail
        refine hcont.out.mono ?_
        rintro e w2 ⟨rfl, hx2⟩
        go_wp2
        go_ret
        rw [R.out]
        exact ⟨rfl, hW.trans hx2⟩
      · have R : Hid (stepsT t l = 0) := by show _ = _; unfold stepsT; rw [if_pos hzv.out, if_pos hal'.out, if_neg h3]
        go_wp2_with fail
        refine hcont.out.mono ?_
        rintro e w2 ⟨rfl, hx2⟩
        go_wp2
        go_ret
        rw [R.out]
        exact ⟨rfl, hW.trans hx2⟩
  · have hz0 : (z != 0) = true := by simp [h0]
    have R : Hid (stepsT t l = z) := by show _ = _; unfold stepsT; rw [hz.out, if_neg h0]
    clear hz h0
    go_wp2
    go_ret
    rw [R.out]
    exact ⟨rfl, hW⟩

/-! ### a state in memory -/
def St (W : World) (S : Nat) (l : List Int) : Prop := Blk W S 3 (l.map (Value.int .i64)).toArray
section
variable {W W' : World} {S : Nat} {l : List Int}
theorem St.cell (h : St W S l) {i : Nat} (hi : i < l.length) : W.cell? ⟨S, i, none⟩ = some (.int .i64 (atI l i)) := by
  have := Blk.cell h i
  rw [this]
  simp [atI, hi]
theorem St.frozen (h : St W S l) (i : Nat) : W.frozen? ⟨S, i, none⟩ = false := Blk.frozen h i
theorem St.set_ (h : St W S l) (i : Nat) (v : Int) : St (W.setCell ⟨S, i, none⟩ (.int .i64 v)) S (l.set i v) := by
  have := Blk.set_ h i (.int .i64 v)
  have e : (l.map (Value.int .i64)).toArray.setIfInBounds i (.int .i64 v) = ((l.set i v).map (Value.int .i64)).toArray := by simp [List.map_set]
  rw [e] at this
  exact this
theorem St.lt (h : St W S l) : S < W.heap.size := Blk.lt h
theorem St.ext (h : St W S l) (e : Ext W W') : St W' S l := (Keep.of_ext (X := fun _ => False) e).blk h id
theorem St.read (h : St W S l) (hl : l.length ≤ maxLen) : Ints W (.slice (some ⟨S, 0, none⟩) l.length l.length) l := ints_of_blk h (Nat.le_refl _) hl
end
theorem St.new (w : World) (n : Nat) : St (w.alloc (.cells (zerosV n) 3)) w.heap.size (zeros n) := by
  refine blk_new' rfl ?_
  simp [zeros, zerosV, zerosL]

/-! ### Play -/
def playS (t : List WishD) (l : List StepD) (fails : List Int) : List Int × Bool × Int :=
  if stepsT t l = 0 then (if fails.any (fun i => idxB i l.length) then (zeros t.length, false, 0) else (afterS (zeros t.length) l, true, 0)) else ([], false, stepsT t l)

theorem play1_calls (b : Nat) (sa : Option Addr) (n sc : Nat) (q : Value) (i : Int) (w : World) (hb : w.cell? ⟨b, 0, none⟩ = some (.slice sa n sc)) (hq : q = .pointer (some ⟨b, 0, none⟩)) :
    Calls Try.prog 58 #[.int .i64 i, q] w fun e w' => e = .returned (.bool (idxB i n)) ∧ Ext w w' := by
  subst hq
  have hlt := World.block_lt_of_cell? _ _ hb
  by_cases h : 0 ≤ i
  · have d : decide (0 ≤ i) = true := decide_eq_true h
    have R : Hid (idxB i n = decide (i < (n : Int))) := by show _ = _; simp only [idxB, d, Bool.true_and]
    go_enter Try.func58, Try.ntmps58
    go_wp2
    go_ret
    rw [R.out]
    exact ⟨rfl, Ext.refl _⟩
  · have d : decide (0 ≤ i) = false := decide_eq_false h
    have R : Hid (idxB i n = false) := by show _ = _; simp only [idxB, d, Bool.false_and]
    go_enter Try.func58, Try.ntmps58
    go_wp2
    go_ret
    rw [R.out]
    exact ⟨rfl, Ext.refl _⟩
end Go.Proofs.Ytkicielleiafgaa
