/- Walks of package span: Has, Within, Total. -/
import Derived.Test.YtfajejelelbmmaaYF
namespace Go.Proofs.Ytfajejelelbmmaa
open Go.RowKit

/-! ### a closure that has captured one variable -/
set_option maxHeartbeats 400000 in
theorem indexFunc_cap_calls (va : Value) (l : List (Int × Int)) (g : Nat) (cp : Value) (hg : ∀ (x : Array Value) (W : World), (callFunc g x).run Try.prog W = .ok (.enter g x) W) (p : Int × Int → Bool) (w : World) (h : Spans w va l)
    (hf : ∀ s ∈ l, ∀ W, Ext w W → Calls Try.prog g #[.agg #[.int .i64 s.1, .int .i64 s.2], cp] W fun e w' => e = .returned (.bool (p s)) ∧ Ext W w') :
    Calls Try.prog 50 #[va, .func (.func g) #[] #[cp]] w fun e w' => e = .returned (.int .i64 (findI p l)) ∧ Ext w w' := by
  obtain ⟨a, c, rfl, hn, hc, hat⟩ := h.open
  clear h
  have hf' := Lib.hid hf
  clear hf
  go_enter Try.func50, Try.ntmps50
  go_wp2_with fail
  go_loopw [8] (fun vi wr => ∃ i : Nat, i ≤ l.length ∧ vi = .int .i64 i ∧ Ext w wr ∧ Hid (FindAt p l i)) (fun vi _ => l.length - (intOf vi).toNat)
  case atStart => exact ⟨0, by omega, rfl, Ext.refl _, FindAt.zero _ _⟩
  case round =>
    obtain ⟨i, hi, rfl, hx, hF⟩ := hrel
    by_cases h1 : i < l.length
    · obtain ⟨b1, o1, x, y, rfl, hb1, dx, ex, g1, g2⟩ := hat i h1 wr hx
      have hm : (x, y) ∈ l := List.mem_of_getElem? ex.out
      have hcall := Lib.hid (hf'.out (x, y) hm wr hx)
      cases hp : p (x, y) with
      | true =>
        have R := Lib.hid (hF.out.hit ex.out hp)
        have hp' := Lib.hid hp
        clear hp
        go_wp2_with fail
        refine hcall.out.mono ?_
        rintro e w1 ⟨rfl, hx1⟩
        rw [hp'.out]
        go_wp2
        go_ret
        rw [R.out]
        exact ⟨rfl, hx.trans hx1⟩
      | false =>
        have R := Lib.hid (hF.out.miss ex.out hp)
        have hp' := Lib.hid hp
        clear hp
        go_wp2_with fail
        refine hcall.out.mono ?_
        rintro e w1 ⟨rfl, hx1⟩
        rw [hp'.out]
        go_wp2
        go_roundw
        case rel => exact ⟨i + 1, by omega, by go_num, hx.trans hx1, R⟩
        case measure => simp [intOf]; omega
    · have R := Lib.hid (hF.out.none (by omega))
      go_wp2
      go_ret
      rw [R.out]
      exact ⟨rfl, hx⟩
theorem containsFunc_cap_calls (va : Value) (l : List (Int × Int)) (g : Nat) (cp : Value) (hg : ∀ (x : Array Value) (W : World), (callFunc g x).run Try.prog W = .ok (.enter g x) W) (p : Int × Int → Bool) (w : World) (h : Spans w va l)
    (hf : ∀ s ∈ l, ∀ W, Ext w W → Calls Try.prog g #[.agg #[.int .i64 s.1, .int .i64 s.2], cp] W fun e w' => e = .returned (.bool (p s)) ∧ Ext W w') :
    Calls Try.prog 44 #[va, .func (.func g) #[] #[cp]] w fun e w' => e = .returned (.bool (l.any p)) ∧ Ext w w' := by
  have hc := Lib.hid (indexFunc_cap_calls va l g cp hg p w h hf)
  have R := Lib.hid (findI_ge p l)
  clear hf h
  go_enter Try.func44, Try.ntmps44
  go_wp2_with fail
  refine hc.out.mono ?_
  rintro e w1 ⟨rfl, hx1⟩
  go_wp2
  go_ret
  rw [R.out]
  exact ⟨rfl, hx1⟩

/-! ### Has -/
theorem has1_calls (s : Int × Int) (t : Int) (g : Nat) (w : World) (h : w.cell? ⟨g, 0, none⟩ = some (.int .i64 t)) :
    Calls Try.prog 46 #[.agg #[.int .i64 s.1, .int .i64 s.2], .pointer (some ⟨g, 0, none⟩)] w fun e w' => e = .returned (.bool (decide (s.1 ≤ t) && decide (t < s.2))) ∧ Ext w w' := by
  obtain ⟨x, y⟩ := s
  dsimp only
  have hlt := World.block_lt_of_cell? _ _ h
  cases h1 : decide (x ≤ t) with
  | false =>
    go_enter Try.func46, Try.ntmps46
    go_wp2
    go_ret
    exact ⟨rfl, (Ext.refl _).alloc _⟩
  | true =>
    go_enter Try.func46, Try.ntmps46
    go_wp2
    go_ret
    exact ⟨by simp, (Ext.refl _).alloc _⟩
theorem spanHas_calls (va : Value) (l : List (Int × Int)) (t : Int) (w : World) (h : Spans w va l) :
    Calls Try.prog 31 #[va, .int .i64 t] w fun e w' => e = .returned (.bool (hasB l t)) ∧ Ext w w' := by
  have h' := Lib.hid h
  obtain ⟨a, c, rfl⟩ := h.form
  have R : Hid ((l.any fun s => decide (s.1 ≤ t) && decide (t < s.2)) = hasB l t) := rfl
  have hc := Lib.hid (containsFunc_cap_calls (.slice a l.length c) l 46 (.pointer (some ⟨w.heap.size, 0, none⟩)) (fun _ _ => by kernel_rfl) (fun s => decide (s.1 ≤ t) && decide (t < s.2)) (w.alloc (.cells #[.int .i64 t] 3)) (h.ext ((Ext.refl w).alloc _))
    (fun s _ W hW => has1_calls s t w.heap.size W (hW.cell (by simp))))
  rw [R.out] at hc
  clear h R
  go_enter Try.func31, Try.ntmps31
  go_wp2_with fail
  refine hc.out.mono ?_
  rintro e w1 ⟨rfl, hx1⟩
  go_wp2
  go_ret
  exact ⟨rfl, ((Ext.refl w).alloc _).trans hx1⟩

/-! ### Within -/
def withinL (l : List (Int × Int)) (s : Int × Int) : Bool := normalB l && decide (s.1 < s.2) && l.any fun x => decide (x.1 ≤ s.1) && decide (s.2 ≤ x.2)
theorem within1_calls (s : Int × Int) (x y : Int) (g : Nat) (w : World) (h0 : w.cell? ⟨g, 0, none⟩ = some (.int .i64 x)) (h1 : w.cell? ⟨g, 1, none⟩ = some (.int .i64 y)) :
    Calls Try.prog 45 #[.agg #[.int .i64 s.1, .int .i64 s.2], .pointer (some ⟨g, 0, none⟩)] w fun e w' => e = .returned (.bool (decide (s.1 ≤ x) && decide (y ≤ s.2))) ∧ Ext w w' := by
  obtain ⟨a, b⟩ := s
  dsimp only
  have hlt := World.block_lt_of_cell? _ _ h0
  cases h1 : decide (a ≤ x) with
  | false =>
    go_enter Try.func45, Try.ntmps45
    go_wp2
    go_ret
    exact ⟨rfl, (Ext.refl _).alloc _⟩
  | true =>
    go_enter Try.func45, Try.ntmps45
    go_wp2
    go_ret
    exact ⟨by simp, (Ext.refl _).alloc _⟩
theorem spanWithin_calls (va : Value) (l : List (Int × Int)) (x y : Int) (w : World) (h : Spans w va l) :
    Calls Try.prog 30 #[va, .agg #[.int .i64 x, .int .i64 y]] w fun e w' => e = .returned (.bool (withinL l (x, y))) ∧ Ext w w' := by
  have h' := Lib.hid h
  obtain ⟨a, c, rfl⟩ := h.form
  have hv := Lib.hid (spanValid_calls (.slice a l.length c) l (w.alloc (.cells #[.int .i64 x, .int .i64 y] 25)) (h.ext ((Ext.refl w).alloc _)))
  have hc : Hid (∀ W, Ext (w.alloc (.cells #[.int .i64 x, .int .i64 y] 25)) W → Calls Try.prog 44 #[.slice a l.length c, .func (.func 45) #[] #[.pointer (some ⟨w.heap.size, 0, none⟩)]] W fun e w' => e = .returned (.bool (l.any fun s => decide (s.1 ≤ x) && decide (y ≤ s.2))) ∧ Ext W w') :=
    Lib.hid fun W hW => containsFunc_cap_calls (.slice a l.length c) l 45 (.pointer (some ⟨w.heap.size, 0, none⟩)) (fun _ _ => by kernel_rfl) (fun s => decide (s.1 ≤ x) && decide (y ≤ s.2)) W (h'.out.ext (((Ext.refl w).alloc _).trans hW))
      (fun s _ W2 hW2 => within1_calls s x y w.heap.size W2 ((hW.trans hW2).cell (by simp)) ((hW.trans hW2).cell (by simp)))
  clear h
  cases hn : normalB l with
  | false =>
    have R : Hid (withinL l (x, y) = false) := by show _ = _; simp [withinL, hn]
    rw [hn] at hv
    clear hn
    go_enter Try.func30, Try.ntmps30
    go_wp2_with fail
    refine hv.out.mono ?_
    rintro e w1 ⟨rfl, hx1⟩
    go_wp2
    go_ret
    rw [R.out]
    exact ⟨rfl, ((Ext.refl w).alloc _).trans hx1⟩
  | true =>
    rw [hn] at hv
    cases hd : decide (x < y) with
    | false =>
      have R : Hid (withinL l (x, y) = false) := by show _ = _; simp only [withinL, hn, hd]; rfl
      clear hn
      go_enter Try.func30, Try.ntmps30
      go_wp2_with fail
      refine hv.out.mono ?_
      rintro e w1 ⟨rfl, hx1⟩
      have c0 : w1.cell? ⟨w.heap.size, 0, none⟩ = some (.int .i64 x) := hx1.cell (by simp)
      have c1 : w1.cell? ⟨w.heap.size, 1, none⟩ = some (.int .i64 y) := hx1.cell (by simp)
      go_wp2
      go_ret
      rw [R.out]
      exact ⟨rfl, ((Ext.refl w).alloc _).trans hx1⟩
    | true =>
      obtain ⟨z, hz⟩ : ∃ z, Hid ((l.any fun s => decide (s.1 ≤ x) && decide (y ≤ s.2)) = z) := ⟨_, rfl⟩
      have R : Hid (withinL l (x, y) = z) := by show _ = _; simp only [withinL, hn, hd, Bool.true_and]; exact hz.out
      rw [hz.out] at hc
      clear hn
      go_enter Try.func30, Try.ntmps30
      go_wp2_with fail
      refine hv.out.mono ?_
      rintro e w1 ⟨rfl, hx1⟩
      have c0 : w1.cell? ⟨w.heap.size, 0, none⟩ = some (.int .i64 x) := hx1.cell (by simp)
      have c1 : w1.cell? ⟨w.heap.size, 1, none⟩ = some (.int .i64 y) := hx1.cell (by simp)
      go_wp2_with fail
      refine (hc.out _ hx1).mono ?_
      rintro e w2 ⟨rfl, hx2⟩
      go_wp2
      go_ret
      rw [R.out]
      exact ⟨rfl, (((Ext.refl w).alloc _).trans hx1).trans hx2⟩

/-! ### Total -/
def totalL : List (Int × Int) → Int
  | [] => 0
  | s :: r => (s.2 - s.1) + totalL r
/-- number and error of Total -/
def totalT (l : List (Int × Int)) : Int × Int := if normalB l then (totalL l, 0) else (0, 1)
theorem totalL_drop {l : List (Int × Int)} {i : Nat} {x y : Int} (d : l.drop i = (x, y) :: l.drop (i + 1)) : totalL (l.drop i) = (y - x) + totalL (l.drop (i + 1)) := by rw [d, totalL]
theorem far_false {x : Int} (h : farB x = false) : -2251799813685248 ≤ x ∧ x ≤ 2251799813685248 := by
  simp [farB] at h
  omega
theorem ranged_at {l : List (Int × Int)} (h : rangedB l = true) {x y : Int} (hs : (x, y) ∈ l) : (-2251799813685248 ≤ x ∧ x ≤ 2251799813685248) ∧ -2251799813685248 ≤ y ∧ y ≤ 2251799813685248 := by
  unfold rangedB at h
  rw [List.all_eq_true] at h
  have := h _ hs
  simp only [Bool.not_eq_true', Bool.or_eq_false_iff] at this
  exact ⟨far_false this.1, far_false this.2⟩
theorem chain_next {l : List (Int × Int)} {i : Nat} {x y u v : Int} (h : chainB none l = true) (h1 : l[i]? = some (x, y)) (h2 : l[i + 1]? = some (u, v)) : y < u := by
  induction l generalizing i with
  | nil => simp at h1
  | cons s r ih =>
    obtain ⟨_, _, c⟩ := chainB_cons.1 h
    cases i with
    | zero =>
      simp at h1
      subst h1
      exact (chainB_mem c (u, v) (List.mem_of_getElem? (by simpa using h2))).2 _ rfl
    | succ i => exact ih (chainB_weak c) (by simpa using h1) (by simpa using h2)
set_option maxHeartbeats 800000 in
theorem spanTotal_calls (va : Value) (l : List (Int × Int)) (w : World) (h : Spans w va l) :
    Calls Try.prog 25 #[va] w fun e w' => e = .returned (.tuple #[.int .i64 (totalT l).1, .int .i64 (totalT l).2]) ∧ Ext w w' := by
  have h' := Lib.hid h
  obtain ⟨a, c, rfl, hn, hc, hat⟩ := h.open
  have hv := Lib.hid (spanValid_calls (.slice a l.length c) l w h)
  clear h
  cases hb : normalB l with
  | false =>
    have R : Hid (totalT l = (0, 1)) := by show _ = _; simp [totalT, hb]
    rw [hb] at hv
    clear hb hat
    go_enter Try.func25, Try.ntmps25
    go_wp2_with fail
    refine hv.out.mono ?_
    rintro e w1 ⟨rfl, hx1⟩
    go_wp2
    go_ret2
    rw [R.out]
    exact ⟨rfl, hx1⟩
  | true =>
    have R : Hid (totalT l = (totalL l, 0)) := by show _ = _; simp [totalT, hb]
    have hch : Hid (chainB none l = true) := by show _ = _; simp only [normalB, Bool.and_eq_true] at hb; exact hb.1
    have hrg : Hid (rangedB l = true) := by show _ = _; simp only [normalB, Bool.and_eq_true] at hb; exact hb.2
    rw [hb] at hv
    clear hb
    go_enter Try.func25, Try.ntmps25
    go_wp2_with fail
    refine hv.out.mono ?_
    rintro e w1 ⟨rfl, hx1⟩
    have hx1' := Lib.hid hx1
    clear hx1 hv
    go_wp2_with fail
    go_loopw [4, 12] (fun vn vi wr => ∃ (i : Nat) (n p : Int), i ≤ l.length ∧ vi = .int .i64 i ∧ vn = .int .i64 n ∧ 0 ≤ n ∧ n ≤ p + 2251799813685248 ∧ p ≤ 2251799813685248 ∧ Hid (∀ x y, l[i]? = some (x, y) → p ≤ x) ∧ Hid (Ext w wr) ∧ Hid (totalL l = n + totalL (l.drop i))) (fun _ vi _ => l.length - (intOf vi).toNat)
    case atStart => exact ⟨0, 0, -2251799813685248, by omega, rfl, rfl, by omega, by omega, by omega, Lib.hid (fun x y hxy => (ranged_at hrg.out (List.mem_of_getElem? hxy)).1.1), hx1', Lib.hid (by simp)⟩
    case round =>
      obtain ⟨i, n, p, hi, rfl, rfl, n0, n1, p1, hp, hx, hF⟩ := hrel
      by_cases h1 : i < l.length
      · obtain ⟨b1, o1, x, y, rfl, hb1, dx, ex, g1, g2⟩ := hat i h1 wr hx.out
        have hxp := hp.out x y ex.out
        obtain ⟨⟨rx0, rx1⟩, ry0, ry1⟩ := ranged_at hrg.out (List.mem_of_getElem? ex.out)
        have hxy := (chainB_mem hch.out (x, y) (List.mem_of_getElem? ex.out)).1
        dsimp only at hxy
        have hF2 : Hid (totalL l = (n + (y - x)) + totalL (l.drop (i + 1))) := by show _ = _; rw [hF.out, totalL_drop dx.out]; omega
        have hp2 : Hid (∀ u v, l[i + 1]? = some (u, v) → y ≤ u) := Lib.hid fun u v huv => Int.le_of_lt (chain_next hch.out ex.out huv)
        have hx2 := Lib.hid (hx.out.alloc (.cells #[.int .i64 x, .int .i64 y] 25))
        clear hF hp dx ex hx
        go_wp2
        go_roundw
        case rel => exact ⟨i + 1, n + (y - x), y, by omega, by go_num, by go_num, by omega, by omega, by omega, hp2, hx2, hF2⟩
        case measure => simp [intOf]; omega
      · have hS : Hid (totalL l = n) := by show _ = _; rw [hF.out, List.drop_of_length_le (by omega)]; simp [totalL]
        clear hF
        go_wp2
        go_ret2
        rw [R.out, hS.out]
        exact ⟨rfl, hx.out⟩
end Go.Proofs.Ytfajejelelbmmaa
