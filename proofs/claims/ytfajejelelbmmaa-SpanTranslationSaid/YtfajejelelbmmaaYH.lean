/- Walks of package span: Grow. -/
import Derived.Test.YtfajejelelbmmaaYG
namespace Go.Proofs.Ytfajejelelbmmaa
open Go.RowKit

def growM (l : List (Int × Int)) (b a : Int) : List (Int × Int) := (l.filter fun s => decide (s.1 < s.2)).map fun s => (s.1 - b, s.2 + a)
def minsB (x : Int) : Bool := decide (x < 0) || decide (2251799813685248 < x)
/-- list and error of Grow -/
def growT (l : List (Int × Int)) (b a : Int) : List (Int × Int) × Int :=
  if minsB b || minsB a || !rangedB l then ([], 1) else if !rangedB (growM l b a) then ([], 2) else (combL 0 (growM l b a) [], 0)
theorem growM_take {l : List (Int × Int)} {i : Nat} {x y b a : Int} (h : l[i]? = some (x, y)) : growM (l.take (i + 1)) b a = growM (l.take i) b a ++ (if x < y then [(x - b, y + a)] else []) := by
  rw [List.take_add_one, h]
  unfold growM
  by_cases hxy : x < y <;> simp [hxy]
theorem growM_len (l : List (Int × Int)) (b a : Int) : (growM l b a).length ≤ l.length := by
  unfold growM
  rw [List.length_map]
  exact List.length_filter_le _ _
def GrowOut' (l : List (Int × Int)) (b a : Int) (w : World) (e : Ending) (w' : World) : Prop :=
  ∃ v, e = .returned (.tuple #[v, .int .i64 (growT l b a).2]) ∧ SpansR w' w.heap.size v (growT l b a).1 ∧ Ext w w'
theorem grow_end {l : List (Int × Int)} {b a : Int} {w w' : World} {v : Value} {r1 : List (Int × Int)} {r2 : Int} (hr : growT l b a = (r1, r2)) (hv : SpansR w' w.heap.size v r1) (hx : Ext w w') : GrowOut' l b a w (.returned (.tuple #[v, .int .i64 r2])) w' :=
  ⟨v, by rw [hr], by rw [hr]; exact hv, hx⟩
set_option maxHeartbeats 3200000 in
set_option maxRecDepth 100000 in
theorem spanGrow_calls (va : Value) (l : List (Int × Int)) (b a : Int) (w : World) (h : Spans w va l) (hl : l.length ≤ 100000) :
    Calls Try.prog 16 #[va, .int .i64 b, .int .i64 a] w (GrowOut' l b a w) := by
  have h' := Lib.hid h
  obtain ⟨j0, hj0, jz0, jz1, jz2⟩ := info_parts span_info
  obtain ⟨la, lc, rfl, hn, hc, hat⟩ := h.open
  have hv := Lib.hid (ranged_calls (.slice la l.length lc) l w h)
  have hat' := Lib.hid hat
  clear h hat
  by_cases b0 : b < 0
  · have R : Hid (growT l b a = ([], 1)) := by show _ = _; simp [growT, minsB, b0]
    have d0 : decide (b < 0) = true := decide_eq_true b0
    clear hv hat'
    go_enter Try.func16, Try.ntmps16
    go_wp2
    go_ret2
    exact grow_end R.out (Or.inr ⟨rfl, rfl⟩) (Ext.refl _)
  have d0 : decide (b < 0) = false := decide_eq_false b0
  by_cases b1 : 2251799813685248 < b
  · have R : Hid (growT l b a = ([], 1)) := by show _ = _; simp [growT, minsB, b1]
    have d1 : decide (2251799813685248 < b) = true := decide_eq_true b1
    clear hv hat'
    go_enter Try.func16, Try.ntmps16
    go_wp2
    go_ret2
    exact grow_end R.out (Or.inr ⟨rfl, rfl⟩) (Ext.refl _)
  have d1 : decide (2251799813685248 < b) = false := decide_eq_false b1
  by_cases a0 : a < 0
  · have R : Hid (growT l b a = ([], 1)) := by show _ = _; simp [growT, minsB, a0]
    have e0 : decide (a < 0) = true := decide_eq_true a0
    clear hv hat'
    go_enter Try.func16, Try.ntmps16
    go_wp2
    go_ret2
    exact grow_end R.out (Or.inr ⟨rfl, rfl⟩) (Ext.refl _)
  have e0 : decide (a < 0) = false := decide_eq_false a0
  by_cases a1 : 2251799813685248 < a
  · have R : Hid (growT l b a = ([], 1)) := by show _ = _; simp [growT, minsB, a1]
    have e1 : decide (2251799813685248 < a) = true := decide_eq_true a1
    clear hv hat'
    go_enter Try.func16, Try.ntmps16
    go_wp2
    go_ret2
    exact grow_end R.out (Or.inr ⟨rfl, rfl⟩) (Ext.refl _)
  have e1 : decide (2251799813685248 < a) = false := decide_eq_false a1
  cases hr : rangedB l with
  | false =>
    have R : Hid (growT l b a = ([], 1)) := by show _ = _; simp [growT, hr]
    rw [hr] at hv
    clear hr hat'
    go_enter Try.func16, Try.ntmps16
    go_wp2_with fail
    refine hv.out.mono ?_
    rintro e w1 ⟨rfl, hx1⟩
    go_wp2
    go_ret2
    exact grow_end R.out (Or.inr ⟨rfl, rfl⟩) hx1
  | true =>
    have R0 : Hid (growT l b a = if !rangedB (growM l b a) then ([], 2) else (combL 0 (growM l b a) [], 0)) := by show _ = _; simp [growT, minsB, b0, b1, a0, a1, hr]
    have hrg : Hid (rangedB l = true) := hr
    rw [hr] at hv
    clear hr
    go_enter Try.func16, Try.ntmps16
    go_wp2_with fail
    refine hv.out.mono ?_
    rintro e w1 ⟨rfl, hx1⟩
    have hx1' := Lib.hid hx1
    clear hx1 hv
    go_wp2_with fail
    go_loopw [8, 32] (fun vo vi wr => ∃ (i n : Nat) (acc : List (Int × Int)) (A : Option Addr) (C : Nat), i ≤ l.length ∧ vi = .int .i64 i ∧ vo = .slice A n C ∧ n ≤ i ∧ Hid (n = acc.length) ∧ Hid (acc = growM (l.take i) b a) ∧ Hid (Ext w wr) ∧ Hid (wr.ownsRow w.heap.size 25 2 (.slice A n C) n (spanCells acc))) (fun _ vi _ => l.length - (intOf vi).toNat)
    case atStart => exact ⟨0, 0, [], none, 0, by omega, rfl, rfl, by omega, rfl, rfl, hx1', World.ownsRow_nil _ _ _ _⟩
    case round =>
      clear hx1'
      obtain ⟨i, n, acc, A, C, hi, rfl, rfl, hni, hnl, hA, hx, hO⟩ := hrel
      by_cases h1 : i < l.length
      · obtain ⟨b1', o1, x, y, rfl, hb1, _, ex, g1, g2⟩ := hat'.out i h1 wr hx.out
        obtain ⟨⟨rx0, rx1⟩, ry0, ry1⟩ := ranged_at hrg.out (List.mem_of_getElem? ex.out)
        have hst := Lib.hid (growM_take (b := b) (a := a) ex.out)
        have lw := hx.out.size
        clear ex
        by_cases hxy : x < y
        · have hd : decide (x < y) = true := decide_eq_true hxy
          have hN : Hid (acc ++ [(x - b, y + a)] = growM (l.take (i + 1)) b a) := by show _ = _; rw [hst.out, if_pos hxy, hA.out]
          clear hst hA hxy
          go_wp2_with (at_builtin; refine wpList_append_any _ rfl (.tmp 41) (.tmp 51) _ rfl w.heap.size 25 j0 _ 2 16 Try.underlying22 hj0 jz0 jz1 jz2 rfl (by decide) (.slice A n C) n (spanCells acc) rfl ((hO.out.alloc _).alloc _) (wr.heap.size + 2) (some ⟨wr.heap.size + 1, 0, none⟩) 1 1 [.int .i64 (x - b), .int .i64 (y + a)] rfl (reads_last _ #[_, _] _ 2 1 _ _ (by simp only [World.size_alloc]) (by omega) rfl) (two_int _ _) (by unfold maxLen; omega) (by omega) (by rw [World.size_alloc, World.size_alloc]; omega) ?_; intro v5 w5 hown5 hg5 hat5; obtain ⟨A5, C5, rfl⟩ := owns_form hown5)
          have hO5 : Hid (w5.ownsRow w.heap.size 25 2 (.slice A5 (n + 1) C5) (n + 1) (spanCells (acc ++ [(x - b, y + a)]))) := Lib.hid (by rw [spanCells_app]; exact hown5)
          have hx5 := Lib.hid (((hx.out.alloc (.cells #[.int .i64 x, .int .i64 y] 25)).alloc (.cells #[.int .i64 (x - b), .int .i64 (y + a)] 25)).grown hg5 (fun k e => (hO.out.lt k e).1))
          have hn5 : Hid (n + 1 = (acc ++ [(x - b, y + a)]).length) := by show _ = _; rw [List.length_append, ← hnl.out]; rfl
          clear hown5 hg5 hat5 hO hx
          go_wp2
          go_roundw
          case rel => exact ⟨i + 1, n + 1, _, A5, C5, by omega, by go_num, rfl, by omega, hn5, hN, hx5, hO5⟩
          case measure => simp [intOf]; omega
        · have hd : decide (x < y) = false := decide_eq_false hxy
          have hN : Hid (acc = growM (l.take (i + 1)) b a) := by show _ = _; rw [hst.out, if_neg hxy, List.append_nil, hA.out]
          have hx5 := Lib.hid (hx.out.alloc (.cells #[.int .i64 x, .int .i64 y] 25))
          have hO5 := Lib.hid (hO.out.alloc (.cells #[.int .i64 x, .int .i64 y] 25))
          clear hst hA hxy hO hx
          go_wp2
          go_roundw
          case rel => exact ⟨i + 1, n, acc, A, C, by omega, by go_num, rfl, by omega, hnl, hN, hx5, hO5⟩
          case measure => simp [intOf]; omega
      · have hG : Hid (acc = growM l b a) := by show _ = _; rw [hA.out, List.take_of_length_le (by omega)]
        have hR : Hid (Spans wr (.slice A n C) acc) := by
          have : SpansO wr w.heap.size (.slice A n C) acc := by unfold SpansO; rw [← hnl.out]; exact hO.out
          exact this.read
        have hac : acc.length ≤ 100000 := by rw [← hnl.out]; omega
        have hv2 := Lib.hid (ranged_calls _ acc wr hR.out)
        rw [← hG.out] at R0
        clear hA hG hO
        cases hr2 : rangedB acc with
        | false =>
          have R : Hid (growT l b a = ([], 2)) := by show _ = _; rw [R0.out, hr2]; rfl
          rw [hr2] at hv2
          clear hr2 R0
          go_wp2_with fail
          refine hv2.out.mono ?_
          rintro e w3 ⟨rfl, hx3⟩
          go_wp2
          go_ret2
          exact grow_end R.out (Or.inr ⟨rfl, rfl⟩) (hx.out.trans hx3)
        | true =>
          have R : Hid (growT l b a = (combL 0 acc [], 0)) := by show _ = _; rw [R0.out, hr2]; rfl
          have hcb : Hid (combT 0 acc [] = (combL 0 acc [], 0)) := Lib.hid (combT_ok hr2 rfl)
          rw [hr2] at hv2
          clear hr2 R0
          go_wp2_with fail
          refine hv2.out.mono ?_
          rintro e w3 ⟨rfl, hx3⟩
          have hx3' := Lib.hid (hx.out.trans hx3)
          go_wp2_with fail
          refine (spanNorm_calls _ acc w3 (hR.out.ext hx3) hac).mono ?_
          rintro e w4 ⟨v, rfl, hv4, hx4⟩
          rw [hcb.out] at hv4 ⊢
          dsimp only at hv4 ⊢
          have hv4' := Lib.hid (hv4.base hx3'.out.size)
          have hx4' := Lib.hid (hx3'.out.trans hx4)
          obtain ⟨A4, C4, rfl⟩ := hv4.read.form
          clear hv4 hx4 hx3
          go_wp2
          go_ret2
          exact grow_end R.out hv4'.out hx4'.out
end Go.Proofs.Ytfajejelelbmmaa
