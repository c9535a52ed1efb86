/- Walks of package coarse: window, valid, size, Cells. -/
import Derived.Test.YtcmcojmhlgknoaaGA
namespace Go.Proofs.Ytcmcojmhlgknoaa
open Go.RowKit

/-! ### marks in memory -/
def markCell (m : MarkD) (j : Nat) : Int := if j = 0 then m.f else if j = 1 then m.t else m.k
/-- a slice of marks that reads as l -/
def Marks (w : World) (v : Value) (l : List MarkD) : Prop := Sl w 3 v l.length fun i j => .int .i64 (markCell (l[i]?.getD default) j)
theorem Marks.ext {w w' : World} {v : Value} {l : List MarkD} (h : Marks w v l) (e : Ext w w') : Marks w' v l := Sl.ext h e
def MarksAt (a : Option Addr) (w : World) (l : List MarkD) : Prop :=
  ∀ i, i < l.length → ∀ W, Ext w W → ∃ b off f t k, a = some ⟨b, off, none⟩ ∧ b < W.heap.size ∧ Hid (l.drop i = ⟨f, t, k⟩ :: l.drop (i + 1)) ∧ Hid (l[i]? = some ⟨f, t, k⟩) ∧
    W.cell? ⟨b, off + i * 3, none⟩ = some (.int .i64 f) ∧ W.cell? ⟨b, off + i * 3 + 1, none⟩ = some (.int .i64 t) ∧ W.cell? ⟨b, off + i * 3 + 2, none⟩ = some (.int .i64 k)
theorem Marks.open {w : World} {v : Value} {l : List MarkD} (h : Marks w v l) :
    ∃ a c, v = .slice a l.length c ∧ l.length ≤ c ∧ c ≤ 9223372036854775807 ∧ MarksAt a w l := by
  obtain ⟨a, c, hv, hn, hc, h1⟩ := Sl.open h
  refine ⟨a, c, hv, hn, hc, fun i hi W e => ?_⟩
  obtain ⟨b, off, ha, hb, h2⟩ := h1 i hi
  obtain ⟨⟨f, t, k⟩, d, ex⟩ := drop_cons l i hi
  refine ⟨b, off, f, t, k, ha, Nat.lt_of_lt_of_le hb e.size, d, ex, ?_, ?_, ?_⟩
  · have := h2 W e 0 (by omega)
    simpa [ex, markCell] using this
  · have := h2 W e 1 (by omega)
    simpa [ex, markCell] using this
  · have := h2 W e 2 (by omega)
    simpa [ex, markCell] using this
theorem Marks.form {w : World} {v : Value} {l : List MarkD} (h : Marks w v l) : ∃ a c, v = .slice a l.length c := let ⟨a, c, e, _⟩ := Marks.open h; ⟨a, c, e⟩

/-! ### window, valid -/
theorem window_calls (f t : Int) (w : World) : Calls Try.prog 45 #[.agg #[.int .i64 f, .int .i64 t]] w fun e w' => e = .returned (.bool (windowB f t)) ∧ Ext w w' := by
  by_cases h1 : -2251799813685248 ≤ f
  · have d1 : decide (-2251799813685248 ≤ f) = true := decide_eq_true h1
    by_cases h2 : f ≤ t
    · have d2 : decide (f ≤ t) = true := decide_eq_true h2
      obtain ⟨b, hb⟩ : ∃ b, decide (t ≤ 2251799813685248) = b := ⟨_, rfl⟩
      have R : Hid (windowB f t = b) := by show _ = _; unfold windowB; rw [d1, d2, hb]; rfl
      clear h1 h2
      go_enter Try.func45, Try.ntmps45
      go_wp2
      go_ret
      rw [R.out]
      exact ⟨by first | rfl | rw [hb], (by repeat' (first | (with_reducible exact Ext.refl _) | (with_reducible assumption) | (with_reducible refine Ext.drewN ?_ _) | (with_reducible refine Ext.drew ?_) | (with_reducible refine Ext.alloc ?_ _) | (with_reducible refine Ext.trans ?_ (by with_reducible assumption))))⟩
    · have d2 : decide (f ≤ t) = false := decide_eq_false h2
      have R : Hid (windowB f t = false) := by show _ = _; unfold windowB; rw [d1, d2]; rfl
      clear h1 h2
      go_enter Try.func45, Try.ntmps45
      go_wp2
      go_ret
      rw [R.out]
      exact ⟨rfl, (by repeat' (first | (with_reducible exact Ext.refl _) | (with_reducible assumption) | (with_reducible refine Ext.drewN ?_ _) | (with_reducible refine Ext.drew ?_) | (with_reducible refine Ext.alloc ?_ _) | (with_reducible refine Ext.trans ?_ (by with_reducible assumption))))⟩
  · have d1 : decide (-2251799813685248 ≤ f) = false := decide_eq_false h1
    have R : Hid (windowB f t = false) := by show _ = _; unfold windowB; rw [d1]; rfl
    clear h1
    go_enter Try.func45, Try.ntmps45
    go_wp2
    go_ret
    rw [R.out]
    exact ⟨rfl, (by repeat' (first | (with_reducible exact Ext.refl _) | (with_reducible assumption) | (with_reducible refine Ext.drewN ?_ _) | (with_reducible refine Ext.drew ?_) | (with_reducible refine Ext.alloc ?_ _) | (with_reducible refine Ext.trans ?_ (by with_reducible assumption))))⟩
set_option maxHeartbeats 800000 in
theorem valid1_calls (m : MarkD) (w : World) : Calls Try.prog 60 #[.agg #[.int .i64 m.f, .int .i64 m.t, .int .i64 m.k]] w fun e w' => e = .returned (.bool (!markB m)) ∧ Ext w w' := by
  obtain ⟨f, t, k⟩ := m
  dsimp only
  by_cases h1 : 1 ≤ k
  · have d1 : decide (k < 1) = false := decide_eq_false (by omega)
    have e1 : decide (1 ≤ k) = true := decide_eq_true h1
    by_cases h2 : k ≤ 8
    · have d2 : decide (8 < k) = false := decide_eq_false (by omega)
      have e2 : decide (k ≤ 8) = true := decide_eq_true h2
      obtain ⟨q, hq⟩ : ∃ q, Hid (windowB f t = q) := ⟨_, rfl⟩
      have hw : Hid (∀ W, Ext w W → Calls Try.prog 45 #[.agg #[.int .i64 f, .int .i64 t]] W fun e w' => e = .returned (.bool q) ∧ Ext W w') := fun W _ => hq.out ▸ window_calls f t W
      cases q with
      | false =>
        have R : Hid ((!markB ⟨f, t, k⟩) = true) := by show _ = _; unfold markB; rw [e1, e2, hq.out]; rfl
        clear h1 h2 hq e1 e2
        go_enter Try.func60, Try.ntmps60
        go_wp2_with fail
        refine (hw.out _ (by exact (by repeat' (first | (with_reducible exact Ext.refl _) | (with_reducible assumption) | (with_reducible refine Ext.drewN ?_ _) | (with_reducible refine Ext.drew ?_) | (with_reducible refine Ext.alloc ?_ _) | (with_reducible refine Ext.trans ?_ (by with_reducible assumption)))))).mono ?_
        rintro e w1 ⟨rfl, hx1⟩
        go_wp2
        go_ret
        rw [R.out]
        exact ⟨rfl, ((Ext.refl w).alloc _).trans hx1⟩
      | true =>
        obtain ⟨r, hr⟩ : ∃ r, (f == t) = r := ⟨_, rfl⟩
        have R : Hid ((!markB ⟨f, t, k⟩) = r) := by
          show _ = _
          unfold markB
          rw [e1, e2, hq.out, ← hr]
          simp only [Bool.true_and, Bool.not_not]
          rw [Bool.eq_iff_iff, decide_eq_true_iff, beq_iff_eq]
        clear h1 h2 hq e1 e2
        go_enter Try.func60, Try.ntmps60
        go_wp2_with fail
        refine (hw.out _ (by exact (by repeat' (first | (with_reducible exact Ext.refl _) | (with_reducible assumption) | (with_reducible refine Ext.drewN ?_ _) | (with_reducible refine Ext.drew ?_) | (with_reducible refine Ext.alloc ?_ _) | (with_reducible refine Ext.trans ?_ (by with_reducible assumption)))))).mono ?_
        rintro e w1 ⟨rfl, hx1⟩
        have c0 : w1.cell? ⟨w.heap.size, 0, none⟩ = some (.int .i64 f) := hx1.cell (by simp)
        have c1 : w1.cell? ⟨w.heap.size, 1, none⟩ = some (.int .i64 t) := hx1.cell (by simp)
        go_wp2
        go_ret
        rw [R.out]
        exact ⟨by first | rfl | rw [hr], ((Ext.refl w).alloc _).trans hx1⟩
    · have d2 : decide (8 < k) = true := decide_eq_true (by omega)
      have R : Hid ((!markB ⟨f, t, k⟩) = true) := by show _ = _; unfold markB; rw [decide_eq_false h2]; simp
      clear h1 h2
      go_enter Try.func60, Try.ntmps60
      go_wp2
      go_ret
      rw [R.out]
      exact ⟨rfl, (by repeat' (first | (with_reducible exact Ext.refl _) | (with_reducible assumption) | (with_reducible refine Ext.drewN ?_ _) | (with_reducible refine Ext.drew ?_) | (with_reducible refine Ext.alloc ?_ _) | (with_reducible refine Ext.trans ?_ (by with_reducible assumption))))⟩
  · have d1 : decide (k < 1) = true := decide_eq_true (by omega)
    have R : Hid ((!markB ⟨f, t, k⟩) = true) := by show _ = _; unfold markB; rw [decide_eq_false h1]; rfl
    clear h1
    go_enter Try.func60, Try.ntmps60
    go_wp2
    go_ret
    rw [R.out]
    exact ⟨rfl, (by repeat' (first | (with_reducible exact Ext.refl _) | (with_reducible assumption) | (with_reducible refine Ext.drewN ?_ _) | (with_reducible refine Ext.drew ?_) | (with_reducible refine Ext.alloc ?_ _) | (with_reducible refine Ext.trans ?_ (by with_reducible assumption))))⟩
set_option maxHeartbeats 400000 in
theorem indexFunc_mark_calls (va : Value) (l : List MarkD) (g : Nat) (hg : ∀ (x : Array Value) (W : World), (callFunc g x).run Try.prog W = .ok (.enter g x) W) (p : MarkD → Bool) (w : World) (h : Marks w va l)
    (hf : ∀ s ∈ l, ∀ W, Ext w W → Calls Try.prog g #[.agg #[.int .i64 s.f, .int .i64 s.t, .int .i64 s.k]] W fun e w' => e = .returned (.bool (p s)) ∧ Ext W w') :
    Calls Try.prog 67 #[va, .func (.func g) #[] #[]] w fun e w' => e = .returned (.int .i64 (findI p l)) ∧ Ext w w' := by
  obtain ⟨a, c, rfl, hn, hc, hat⟩ := h.open
  clear h
  have hf' := Lib.hid hf
  clear hf
  go_enter Try.func67, Try.ntmps67
  go_wp2_with fail
  go_loopw [8] (fun vi wr => ∃ i : Nat, i ≤ l.length ∧ vi = .int .i64 i ∧ Ext w wr ∧ Hid (FindAt p l i)) (fun vi _ => l.length - (intOf vi).toNat)
  case atStart => exact ⟨0, by omega, rfl, Ext.refl _, FindAt.zero _ _⟩
  case round =>
    obtain ⟨i, hi, rfl, hx, hF⟩ := hrel
    by_cases h1 : i < l.length
    · obtain ⟨b1, o1, x, y, z, rfl, hb1, dx, ex, g1, g2, g3⟩ := hat i h1 wr hx
      have hm : (⟨x, y, z⟩ : MarkD) ∈ l := List.mem_of_getElem? ex.out
      have hcall := Lib.hid (hf'.out ⟨x, y, z⟩ hm wr hx)
      cases hp : p ⟨x, y, z⟩ with
      | true =>
        have R := Lib.hid (hF.out.hit ex.out hp)
        have hp' := Lib.hid hp
        clear hp
        go_wp2_with fail
        refine hcall.out.mono ?_
        rintro e w1 ⟨rfl, hx1⟩
        rw [hp'.out]
        go_wp2
        go_ret
        rw [R.out]
        exact ⟨rfl, hx.trans hx1⟩
      | false =>
        have R := Lib.hid (hF.out.miss ex.out hp)
        have hp' := Lib.hid hp
        clear hp
        go_wp2_with fail
        refine hcall.out.mono ?_
        rintro e w1 ⟨rfl, hx1⟩
        rw [hp'.out]
        go_wp2
        go_roundw
        case rel => exact ⟨i + 1, by omega, by go_num, hx.trans hx1, R⟩
        case measure => simp [intOf]; omega
    · have R := Lib.hid (hF.out.none (by omega))
      go_wp2
      go_ret
      rw [R.out]
      exact ⟨rfl, hx⟩
theorem containsFunc_mark_calls (va : Value) (l : List MarkD) (g : Nat) (hg : ∀ (x : Array Value) (W : World), (callFunc g x).run Try.prog W = .ok (.enter g x) W) (p : MarkD → Bool) (w : World) (h : Marks w va l)
    (hf : ∀ s ∈ l, ∀ W, Ext w W → Calls Try.prog g #[.agg #[.int .i64 s.f, .int .i64 s.t, .int .i64 s.k]] W fun e w' => e = .returned (.bool (p s)) ∧ Ext W w') :
    Calls Try.prog 59 #[va, .func (.func g) #[] #[]] w fun e w' => e = .returned (.bool (l.any p)) ∧ Ext w w' := by
  have hc := Lib.hid (indexFunc_mark_calls va l g hg p w h hf)
  have R := Lib.hid (findI_ge p l)
  clear hf h
  go_enter Try.func59, Try.ntmps59
  go_wp2_with fail
  refine hc.out.mono ?_
  rintro e w1 ⟨rfl, hx1⟩
  go_wp2
  go_ret
  rw [R.out]
  exact ⟨rfl, hx1⟩
theorem any_not {α : Type} (p : α → Bool) (l : List α) : (l.any fun x => !p x) = !(l.all p) := by
  induction l with
  | nil => rfl
  | cons x l ih => simp only [List.any_cons, List.all_cons, ih, Bool.not_and]
theorem coarseValid_calls (va : Value) (l : List MarkD) (w : World) (h : Marks w va l) : Calls Try.prog 46 #[va] w fun e w' => e = .returned (.bool (l.all markB)) ∧ Ext w w' := by
  have hc := Lib.hid (containsFunc_mark_calls va l 60 (fun _ _ => by kernel_rfl) (fun m => !markB m) w h (fun s _ W _ => valid1_calls s W))
  rw [any_not] at hc
  obtain ⟨b, hb⟩ : ∃ b, Hid (l.all markB = b) := ⟨_, rfl⟩
  rw [hb.out] at hc ⊢
  clear h
  go_enter Try.func46, Try.ntmps46
  go_wp2_with fail
  refine hc.out.mono ?_
  rintro e w1 ⟨rfl, hx1⟩
  go_wp2
  go_ret
  exact ⟨by simp, hx1⟩

/-! ### size, Cells -/
set_option maxRecDepth 100000 in
theorem size_calls (g : Int) (h : 1 ≤ g ∧ g ≤ 4) (w : World) : Calls Try.prog 38 #[.int .i64 g] w fun e w' => e = .returned (.int .i64 (sizeG g)) ∧ Ext w w' := by
  have h4 : g = 1 ∨ g = 2 ∨ g = 3 ∨ g = 4 := by omega
  clear h
  rcases h4 with rfl | rfl | rfl | rfl
  · have hi : (Instr.index 83 (.agg #[.int .i64 0, .int .i64 1440, .int .i64 30, .int .i64 30, .int .i64 1]) (.int .i64 1)).run Try.prog w = .ok (.int .i64 1440) w := by kernel_rfl
    go_enter Try.func38, Try.ntmps38
    go_wp2
    go_ret
    exact ⟨rfl, Ext.refl _⟩
  · have hi : (Instr.index 83 (.agg #[.int .i64 0, .int .i64 1440, .int .i64 30, .int .i64 30, .int .i64 1]) (.int .i64 2)).run Try.prog w = .ok (.int .i64 30) w := by kernel_rfl
    go_enter Try.func38, Try.ntmps38
    go_wp2
    go_ret
    exact ⟨rfl, Ext.refl _⟩
  · have hi : (Instr.index 83 (.agg #[.int .i64 0, .int .i64 1440, .int .i64 30, .int .i64 30, .int .i64 1]) (.int .i64 3)).run Try.prog w = .ok (.int .i64 30) w := by kernel_rfl
    go_enter Try.func38, Try.ntmps38
    go_wp2
    go_ret
    exact ⟨rfl, Ext.refl _⟩
  · have hi : (Instr.index 83 (.agg #[.int .i64 0, .int .i64 1440, .int .i64 30, .int .i64 30, .int .i64 1]) (.int .i64 4)).run Try.prog w = .ok (.int .i64 1) w := by kernel_rfl
    go_enter Try.func38, Try.ntmps38
    go_wp2
    go_ret
    exact ⟨rfl, Ext.refl _⟩
theorem tmod_zero (x s : Int) : (x.tmod s != 0) = !decide (x % s = 0) := by
  rw [Bool.eq_iff_iff]
  simp only [bne_iff_ne, Bool.not_eq_true', decide_eq_false_iff_not]
  exact not_congr (Int.dvd_iff_tmod_eq_zero.symm.trans Int.dvd_iff_emod_eq_zero)
set_option maxHeartbeats 1600000 in
theorem cells_calls (g f t : Int) (w : World) : Calls Try.prog 28 #[.int .i64 g, .agg #[.int .i64 f, .int .i64 t]] w fun e w' => e = .returned (.tuple #[.int .i64 (cellsG g f t).1, .int .i64 (cellsG g f t).2]) ∧ Ext w w' := by
  by_cases h1 : g < 0
  · have d1 : decide (g < 0) = true := decide_eq_true h1
    have R : Hid (cellsG g f t = (0, 1)) := by show _ = _; unfold cellsG grainB; rw [decide_eq_false (show ¬ 0 ≤ g by omega)]; rfl
    clear h1
    go_enter Try.func28, Try.ntmps28
    go_wp2
    go_ret2
    rw [R.out]
    exact ⟨rfl, (by repeat' (first | (with_reducible exact Ext.refl _) | (with_reducible assumption) | (with_reducible refine Ext.drewN ?_ _) | (with_reducible refine Ext.drew ?_) | (with_reducible refine Ext.alloc ?_ _) | (with_reducible refine Ext.trans ?_ (by with_reducible assumption))))⟩
  · have d1 : decide (g < 0) = false := decide_eq_false h1
    by_cases h2 : 4 < g
    · have d2 : decide (4 < g) = true := decide_eq_true h2
      have R : Hid (cellsG g f t = (0, 1)) := by show _ = _; unfold cellsG grainB; rw [decide_eq_false (show ¬ g ≤ 4 by omega), Bool.and_false]; rfl
      clear h1 h2
      go_enter Try.func28, Try.ntmps28
      go_wp2
      go_ret2
      rw [R.out]
      exact ⟨rfl, (by repeat' (first | (with_reducible exact Ext.refl _) | (with_reducible assumption) | (with_reducible refine Ext.drewN ?_ _) | (with_reducible refine Ext.drew ?_) | (with_reducible refine Ext.alloc ?_ _) | (with_reducible refine Ext.trans ?_ (by with_reducible assumption))))⟩
    · have d2 : decide (4 < g) = false := decide_eq_false h2
      have hgr : Hid (grainB g = true) := by show _ = _; unfold grainB; rw [decide_eq_true (show 0 ≤ g by omega), decide_eq_true (show g ≤ 4 by omega)]; rfl
      obtain ⟨q, hq⟩ : ∃ q, Hid (windowB f t = q) := ⟨_, rfl⟩
      have hw : Hid (∀ W, Ext w W → Calls Try.prog 45 #[.agg #[.int .i64 f, .int .i64 t]] W fun e w' => e = .returned (.bool q) ∧ Ext W w') := fun W _ => hq.out ▸ window_calls f t W
      cases q with
      | false =>
        have R : Hid (cellsG g f t = (0, 1)) := by show _ = _; unfold cellsG; rw [hgr.out, hq.out]; rfl
        clear h1 h2 hq
        go_enter Try.func28, Try.ntmps28
        go_wp2_with fail
        refine (hw.out _ (by exact (by repeat' (first | (with_reducible exact Ext.refl _) | (with_reducible assumption) | (with_reducible refine Ext.drewN ?_ _) | (with_reducible refine Ext.drew ?_) | (with_reducible refine Ext.alloc ?_ _) | (with_reducible refine Ext.trans ?_ (by with_reducible assumption)))))).mono ?_
        rintro e w1 ⟨rfl, hx1⟩
        have c0 : w1.cell? ⟨w.heap.size, 0, none⟩ = some (.int .i64 f) := hx1.cell (by simp)
        have c1 : w1.cell? ⟨w.heap.size, 1, none⟩ = some (.int .i64 t) := hx1.cell (by simp)
        have hE1 := Lib.hid (((Ext.refl w).alloc (.cells #[.int .i64 f, .int .i64 t] 28)).trans hx1)
        clear hx1 hw
        clear c0 c1
        go_wp2
        go_ret2
        rw [R.out]
        exact ⟨rfl, hE1.out⟩
      | true =>
        have hwin := window_iff.1 hq.out
        by_cases h3 : g = 0
        · subst h3
          have R : Hid (cellsG 0 f t = (0, 12)) := by show _ = _; unfold cellsG; rw [hgr.out, hq.out]; rfl
          clear h1 h2 hq hwin
          go_enter Try.func28, Try.ntmps28
          go_wp2_with fail
          refine (hw.out _ (by exact (by repeat' (first | (with_reducible exact Ext.refl _) | (with_reducible assumption) | (with_reducible refine Ext.drewN ?_ _) | (with_reducible refine Ext.drew ?_) | (with_reducible refine Ext.alloc ?_ _) | (with_reducible refine Ext.trans ?_ (by with_reducible assumption)))))).mono ?_
          rintro e w1 ⟨rfl, hx1⟩
          have c0 : w1.cell? ⟨w.heap.size, 0, none⟩ = some (.int .i64 f) := hx1.cell (by simp)
          have c1 : w1.cell? ⟨w.heap.size, 1, none⟩ = some (.int .i64 t) := hx1.cell (by simp)
          have hE1 := Lib.hid (((Ext.refl w).alloc (.cells #[.int .i64 f, .int .i64 t] 28)).trans hx1)
          clear hx1 hw
          clear c0 c1
          go_wp2
          go_ret2
          rw [R.out]
          exact ⟨rfl, hE1.out⟩
        · have d3 : (g == 0) = false := by rw [beq_eq_false_iff_ne]; exact h3
          obtain ⟨s, hs⟩ : ∃ s, Hid (sizeG g = s) := ⟨_, rfl⟩
          have hs1 : 1 ≤ s := by rw [← hs.out]; exact (size_pos g).1
          have hs2 : s ≤ 1440 := by rw [← hs.out]; exact (size_pos g).2
          have hs0 : (s == 0) = false := by rw [beq_eq_false_iff_ne]; omega
          have hsz : Hid (∀ W, Calls Try.prog 38 #[.int .i64 g] W fun e w' => e = .returned (.int .i64 s) ∧ Ext W w') := fun W => hs.out ▸ size_calls g ⟨by omega, by omega⟩ W
          have hC : Hid (cellsG g f t = if f % s = 0 ∧ t % s = 0 then (if 65536 < (t - f) / s then (0, 2) else ((t - f) / s, 0)) else (0, 1)) := by
            show _ = _
            unfold cellsG
            rw [hgr.out, hq.out, hs.out, if_neg h3]
            rfl
          obtain ⟨hw1, hw2, hw3⟩ := hwin
          clear h1 h2 h3 hq hgr hs
          by_cases hf : f % s = 0
          · have m1 : (f.tmod s != 0) = false := by rw [tmod_zero, decide_eq_true hf]; rfl
            by_cases ht : t % s = 0
            · have m2 : (t.tmod s != 0) = false := by rw [tmod_zero, decide_eq_true ht]; rfl
              have h0 : 0 ≤ (t - f) / s := Int.ediv_nonneg (by omega) (by omega)
              have hle : (t - f) / s ≤ t - f := Int.ediv_le_self _ (by omega)
              obtain ⟨n, hn⟩ : ∃ n : Nat, (t - f) / s = (n : Int) := ⟨((t - f) / s).toNat, by omega⟩
              have hn' : (t - f).tdiv s = (n : Int) := by rw [Int.tdiv_eq_ediv_of_nonneg (by omega)]; exact hn
              have hnb : n ≤ 4503599627370496 := by omega
              have R : Hid (cellsG g f t = if 65536 < n then (0, 2) else ((n : Int), 0)) := by
                show _ = _
                rw [hC.out, if_pos ⟨hf, ht⟩, hn]
                by_cases h5 : 65536 < n
                · rw [if_pos h5, if_pos (by omega)]
                · rw [if_neg h5, if_neg (by omega)]
              clear hf ht hC h0 hle
              go_enter Try.func28, Try.ntmps28
              go_wp2_with fail
              refine (hw.out _ (by exact (by repeat' (first | (with_reducible exact Ext.refl _) | (with_reducible assumption) | (with_reducible refine Ext.drewN ?_ _) | (with_reducible refine Ext.drew ?_) | (with_reducible refine Ext.alloc ?_ _) | (with_reducible refine Ext.trans ?_ (by with_reducible assumption)))))).mono ?_
              rintro e w1 ⟨rfl, hx1⟩
              have c0 : w1.cell? ⟨w.heap.size, 0, none⟩ = some (.int .i64 f) := hx1.cell (by simp)
              have c1 : w1.cell? ⟨w.heap.size, 1, none⟩ = some (.int .i64 t) := hx1.cell (by simp)
              have hE1 := Lib.hid (((Ext.refl w).alloc (.cells #[.int .i64 f, .int .i64 t] 28)).trans hx1)
              clear hx1 hw
              go_wp2_with fail
              have z0 := After.cell c0
              have z1 := After.cell c1
              refine wp_region_after (by kernel_rfl) (by kernel_rfl) ?_
              repeat (go_big_quiet_step (exact After.call _ (hsz.out _)))
              refine wpQuiet_nil ?_
              rintro _ ⟨u, rfl⟩
              have hu := u.ext
              generalize u.world = V at hu ⊢
              clear z0 z1
              have k0 := hu.cell c0
              have k1 := hu.cell c1
              have hE2 := Lib.hid (hE1.out.trans hu)
              clear c0 c1 hE1 hu
              go_wp2_with fail
              have z0 := After.cell k0
              have z1 := After.cell k1
              refine wp_region_after (by kernel_rfl) (by kernel_rfl) ?_
              repeat (go_big_quiet_step (exact After.call _ (hsz.out _)))
              refine wpQuiet_nil ?_
              rintro _ ⟨u, rfl⟩
              have hu := Lib.hid (hE2.out.trans u.ext)
              generalize u.world = V2 at hu ⊢
              clear z0 z1 k0 k1 hE2 hn hn'
              by_cases h5 : 65536 < n
              · have R2 : Hid (cellsG g f t = (0, 2)) := by show _ = _; rw [R.out, if_pos h5]
                go_wp2
                go_ret2
                rw [R2.out]
                exact ⟨rfl, hu.out⟩
              · have R2 : Hid (cellsG g f t = ((n : Int), 0)) := by show _ = _; rw [R.out, if_neg h5]
                go_wp2
                go_ret2
                rw [R2.out]
                exact ⟨rfl, hu.out⟩
            · have m2 : (t.tmod s != 0) = true := by rw [tmod_zero, decide_eq_false ht]; rfl
              have R : Hid (cellsG g f t = (0, 1)) := by show _ = _; rw [hC.out, if_neg (fun h => ht h.2)]
              clear hf ht hC
              go_enter Try.func28, Try.ntmps28
              go_wp2_with fail
              refine (hw.out _ (by exact (by repeat' (first | (with_reducible exact Ext.refl _) | (with_reducible assumption) | (with_reducible refine Ext.drewN ?_ _) | (with_reducible refine Ext.drew ?_) | (with_reducible refine Ext.alloc ?_ _) | (with_reducible refine Ext.trans ?_ (by with_reducible assumption)))))).mono ?_
              rintro e w1 ⟨rfl, hx1⟩
              have c0 : w1.cell? ⟨w.heap.size, 0, none⟩ = some (.int .i64 f) := hx1.cell (by simp)
              have c1 : w1.cell? ⟨w.heap.size, 1, none⟩ = some (.int .i64 t) := hx1.cell (by simp)
              have hE1 := Lib.hid (((Ext.refl w).alloc (.cells #[.int .i64 f, .int .i64 t] 28)).trans hx1)
              clear hx1 hw
              go_wp2_with fail
              have z0 := After.cell c0
              have z1 := After.cell c1
              refine wp_region_after (by kernel_rfl) (by kernel_rfl) ?_
              repeat (go_big_quiet_step (exact After.call _ (hsz.out _)))
              refine wpQuiet_nil ?_
              rintro _ ⟨u, rfl⟩
              have hu := u.ext
              generalize u.world = V at hu ⊢
              clear z0 z1
              have k0 := hu.cell c0
              have k1 := hu.cell c1
              have hE2 := Lib.hid (hE1.out.trans hu)
              clear c0 c1 hE1 hu
              go_wp2
              go_ret2
              rw [R.out]
              exact ⟨rfl, hE2.out⟩
          · have m1 : (f.tmod s != 0) = true := by rw [tmod_zero, decide_eq_false hf]; rfl
            have R : Hid (cellsG g f t = (0, 1)) := by show _ = _; rw [hC.out, if_neg (fun h => hf h.1)]
            clear hf hC
            go_enter Try.func28, Try.ntmps28
            go_wp2_with fail
            refine (hw.out _ (by exact (by repeat' (first | (with_reducible exact Ext.refl _) | (with_reducible assumption) | (with_reducible refine Ext.drewN ?_ _) | (with_reducible refine Ext.drew ?_) | (with_reducible refine Ext.alloc ?_ _) | (with_reducible refine Ext.trans ?_ (by with_reducible assumption)))))).mono ?_
            rintro e w1 ⟨rfl, hx1⟩
            have c0 : w1.cell? ⟨w.heap.size, 0, none⟩ = some (.int .i64 f) := hx1.cell (by simp)
            have c1 : w1.cell? ⟨w.heap.size, 1, none⟩ = some (.int .i64 t) := hx1.cell (by simp)
            have hE1 := Lib.hid (((Ext.refl w).alloc (.cells #[.int .i64 f, .int .i64 t] 28)).trans hx1)
            clear hx1 hw
            go_wp2_with fail
            have z0 := After.cell c0
            have z1 := After.cell c1
            refine wp_region_after (by kernel_rfl) (by kernel_rfl) ?_
            repeat (go_big_quiet_step (exact After.call _ (hsz.out _)))
            refine wpQuiet_nil ?_
            rintro _ ⟨u, rfl⟩
            have hu := u.ext
            generalize u.world = V at hu ⊢
            clear z0 z1
            have k0 := hu.cell c0
            have k1 := hu.cell c1
            have hE2 := Lib.hid (hE1.out.trans hu)
            clear c0 c1 hE1 hu
            go_wp2
            go_ret2
            rw [R.out]
            exact ⟨rfl, hE2.out⟩
end Go.Proofs.Ytcmcojmhlgknoaa
