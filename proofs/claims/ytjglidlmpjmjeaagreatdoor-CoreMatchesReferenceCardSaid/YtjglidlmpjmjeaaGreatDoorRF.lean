/- Walks of the reference of spans: Combine. -/
import Derived.Test.YtjglidlmpjmjeaaGreatDoorRE
namespace Go.Proofs.YtjglidlmpjmjeaaGreatDoor
open Go.RowKit

def combStep (out : List (Int × Int)) (x y : Int) : List (Int × Int) :=
 match out.getLast? with
 | none => out ++ [(x, y)]
 | some s => if s.2 = x then out.set (out.length - 1) (s.1, y) else out ++ [(x, y)]
def combTo (k : Int) (a b : List (Int × Int)) (p : List Int) : Nat → List (Int × Int)
 | 0 => []
 | i + 1 => if inB k (hasB a (p[i]?.getD 0)) (hasB b (p[i]?.getD 0)) then combStep (combTo k a b p i) (p[i]?.getD 0) (p[i + 1]?.getD 0) else combTo k a b p i
def combL (k : Int) (a b : List (Int × Int)) : List (Int × Int) := combTo k a b (insAll (a ++ b)) ((insAll (a ++ b)).length - 1)
section
variable {k : Int} {a b : List (Int × Int)} {p : List Int} {i : Nat} {x y : Int}
theorem combTo_skip (hx : p[i]? = some x) (h : inB k (hasB a x) (hasB b x) = false) : combTo k a b p (i + 1) = combTo k a b p i := by
 rw [combTo, hx, Option.getD_some, h]; rfl
theorem combTo_take (hx : p[i]? = some x) (hy : p[i + 1]? = some y) (h : inB k (hasB a x) (hasB b x) = true) : combTo k a b p (i + 1) = combStep (combTo k a b p i) x y := by
 rw [combTo, hx, hy, Option.getD_some, Option.getD_some, h]; rfl
theorem combStep_nil {out : List (Int × Int)} (h : out.length = 0) : combStep out x y = out ++ [(x, y)] := by
 rw [List.length_eq_zero_iff] at h; subst h; rfl
theorem combStep_far {out : List (Int × Int)} {u v : Int} {n : Nat} (hn : out.length = n + 1) (h : out[n]? = some (u, v)) (hne : v ≠ x) : combStep out x y = out ++ [(x, y)] := by
 rw [combStep, List.getLast?_eq_getElem?, hn, Nat.add_sub_cancel, h]; simp [hne]
theorem combStep_on {out : List (Int × Int)} {u v : Int} {n : Nat} (hn : out.length = n + 1) (h : out[n]? = some (u, v)) (he : v = x) : combStep out x y = out.set n (u, y) := by
 rw [combStep, List.getLast?_eq_getElem?, hn, Nat.add_sub_cancel, h]; simp [he]
theorem combTo_len (k : Int) (a b : List (Int × Int)) (p : List Int) : ∀ i, (combTo k a b p i).length ≤ i
 | 0 => Nat.le_refl _
 | i + 1 => by
  have := combTo_len k a b p i
  rw [combTo]
  split
  ·unfold combStep
   split
   ·simp; omega
   ·split <;> simp <;> omega
  ·omega
end
theorem spanCells_set {y : Int} : ∀ {l : List (Int × Int)} {n : Nat} {u v : Int}, l[n]? = some (u, v) → spanCells (l.set n (u, y)) = (spanCells l).set (n * 2 + 1) (.int .i64 y)
 | [], _, _, _, h => by simp at h
 | s :: r, 0, u, v, h => by simp at h; subst h; rfl
 | s :: r, n + 1, u, v, h => by
  have := spanCells_set (y := y) (l := r) (n := n) (u := u) (v := v) (by simpa using h)
  rw [show (n + 1) * 2 + 1 = (n * 2 + 1) + 1 + 1 by omega]
  show [_, _] ++ spanCells (r.set n (u, y)) = _
  rw [this]; rfl
theorem SpansO.last {w : World} {B g n c : Nat} {l : List (Int × Int)} {u v y : Int} (h : SpansO w B (.slice (some ⟨g, 0, none⟩) l.length c) l) (e : l[n]? = some (u, v)) :
  SpansO (w.setCell ⟨g, n * 2 + 1, none⟩ (.int .i64 y)) B (.slice (some ⟨g, 0, none⟩) (l.set n (u, y)).length c) (l.set n (u, y)) := by
 unfold SpansO
 rw [spanCells_set e, List.length_set]
 exact (World.ownsRow.stored h (n * 2 + 1) (.int .i64 y)).1
theorem SpansO.push {w1 : World} {B n : Nat} {v1 : Value} {l : List (Int × Int)} {x y : Int} (hn : n = l.length) (hown : w1.ownsRow B 84 2 v1 (n + 1) (spanCells l ++ [.int .i64 x, .int .i64 y])) : SpansO w1 B v1 (l ++ [(x, y)]) := by
 unfold SpansO
 rw [List.length_append, spanCells_app, ← hn]
 exact hown
theorem two_int (x y : Int) : ∀ u ∈ [Value.int .i64 x, .int .i64 y], u.oneCell' = true := by intro u hu; simp at hu; rcases hu with rfl | rfl <;> rfl
theorem owns_pos {w : World} {base : Nat} {e : TypeId} {size n : Nat} {v : Value} {xs : List Value} (h : w.ownsRow base e size v n xs) (h0 : 0 < n) : ∃ g c, v = .slice (some ⟨g, 0, none⟩) n c := by
 rcases h.2 with ⟨_, h1⟩ | ⟨g, cap, cur, rfl, _⟩
 ·omega
 ·exact ⟨_, _, rfl⟩
set_option maxHeartbeats 6400000 in
set_option maxRecDepth 100000 in
theorem rCombine_calls (k : Int) (va vb : Value) (a b : List (Int × Int)) (w : World) (ha : Spans w va a) (hb : Spans w vb b) (hla : a.length ≤ 64) (hlb : b.length ≤ 64) :
  Calls Tryz.prog 88 #[.int .i64 k, va, vb] w fun e w' =>
   ∃ v, e = .returned v ∧ SpansO w' w.heap.size v (combL k a b) ∧ Ext w w' := by
 have ha' := Lib.hid ha
 have hb' := Lib.hid hb
 obtain ⟨aa, ac, rfl, _, _, _⟩ := ha.open
 obtain ⟨ba, bc, rfl, _, _, _⟩ := hb.open
 obtain ⟨j0, hj0, jz0, jz1, jz2⟩ := info_parts span_info
 clear ha hb
 go_enter Tryz.func88, Tryz.ntmps88
 go_wp2_with fail
 refine (rBounds_calls _ _ a b _ ha'.out hb'.out hla hlb).mono ?_
 rintro e w1 ⟨g, c, rfl, hP, hx1⟩
 obtain ⟨p, hp⟩ : ∃ p, Hid (insAll (a ++ b) = p) := ⟨_, rfl⟩
 have R0 : Hid (combL k a b = combTo k a b p (p.length - 1)) := by show _ = _; rw [← hp.out]; rfl
 have hlp : p.length ≤ 256 := by have := insAll_len (a ++ b); rw [hp.out, List.length_append] at this; omega
 rw [hp.out] at hP ⊢
 have hx1' := Lib.hid hx1
 have hs1 := hx1.size
 obtain ⟨_, _, e0, hpn, hpc, pat⟩ := hP.read.open
 cases e0
 have pat' := Lib.hid pat
 clear hp hP hx1 pat
 go_wp2_with fail
 have e1 : Hid (SpansO (w1.alloc (.cells #[] 84)) w1.heap.size (.slice (some ⟨w1.heap.size, 0, none⟩) 0 0) []) := Lib.hid (World.ownsRow_made (e := 84) (size := 2) w1 #[] 0 (Nat.le_refl _) (by unfold maxLen; omega) rfl)
 go_loopw [8, 9, 10, 11] (fun vo vi _ _ wr => ∃ (i g0 c0 n : Nat) (o : List (Int × Int)), i ≤ p.length - 1 ∧ vi = .int .i64 i ∧ vo = .slice (some ⟨g0, 0, none⟩) n c0 ∧ Hid (n = o.length) ∧ Hid (o = combTo k a b p i) ∧ Hid (Ext w1 wr) ∧ Hid (w1.heap.size ≤ g0) ∧ Hid (SpansO wr w1.heap.size (.slice (some ⟨g0, 0, none⟩) n c0) o)) (fun _ vi _ _ _ => p.length - (intOf vi).toNat)
 case atStart => exact ⟨0, _, 0, 0, [], by omega, rfl, rfl, rfl, rfl, Lib.hid ((Ext.refl _).alloc _), Nat.le_refl _, e1⟩
 case round =>
  clear e1
  obtain ⟨i, g0, c0, n, o, hi, rfl, rfl, hn, ho, hx, hg0, hO⟩ := hrel
  have hol : n ≤ i := by rw [hn.out, ho.out]; exact combTo_len _ _ _ _ i
  by_cases h1 : i + 1 < p.length
  ·obtain ⟨b1, o1, x, e1, hb1, dx, ex, gx⟩ := pat'.out i (by omega) wr hx.out
   cases e1
   obtain ⟨b1, o1, y, e1, hb1, dy, ey, gy⟩ := pat'.out (i + 1) h1 wr hx.out
   cases e1
   rw [Nat.zero_add] at gx gy
   have hxw := Lib.hid (hx1'.out.trans hx.out)
   have hA := Lib.hid (rHas_calls _ a x wr (ha'.out.ext hxw.out))
   clear dx dy
   go_wp2_with fail
   refine hA.out.mono ?_
   rintro e w2 ⟨rfl, hx2⟩
   have hB := Lib.hid (rHas_calls _ b x w2 (hb'.out.ext (hxw.out.trans hx2)))
   clear hA
   have hxr2 := Lib.hid hx2
   clear hx2
   go_wp2_with fail
   refine hB.out.mono ?_
   rintro e w3 ⟨rfl, hx3⟩
   have hxr3 := Lib.hid (hxr2.out.trans hx3)
   clear hx3 hB hxr2
   go_wp2_with fail
   refine (rIn_calls k _ _ w3).mono ?_
   rintro e w4 ⟨rfl, hx4⟩
   have hxr := Lib.hid (hxr3.out.trans hx4)
   clear hx4 hxr3
   have hxn := Lib.hid (hx.out.trans hxr.out)
   have hO4 := Lib.hid (hO.out.ext hxr.out)
   have hs4 := hxn.out.size
   have gy4 := hxr.out.cell gy
   clear gx gy hO hxr hx
   cases hk : inB k (hasB a x) (hasB b x) with
   | false =>
    have hN : Hid (o = combTo k a b p (i + 1)) := by show _ = _; rw [combTo_skip ex.out hk]; exact ho.out
    clear hk ho gy4 ey ex
    go_wp2
    go_roundw
    case rel => exact ⟨i + 1, g0, c0, n, o, by omega, by go_num, rfl, hn, hN, hxn, hg0, hO4⟩
    case measure => simp [intOf]; omega
   | true =>
    have hN : Hid (combTo k a b p (i + 1) = combStep o x y) := by show _ = _; rw [combTo_take ex.out ey.out hk, ← ho.out]
    clear hk ho ex ey
    by_cases hz : n = 0
    ·subst hz
     have hM : Hid (o ++ [(x, y)] = combTo k a b p (i + 1)) := by show _ = _; rw [hN.out, combStep_nil hn.out.symm]
     have hOn : Hid (w4.ownsRow w1.heap.size 84 2 (.slice (some ⟨g0, 0, none⟩) 0 c0) 0 (spanCells o)) := by have := hO4.out; unfold SpansO at this; rw [← hn.out] at this; exact this
     clear hN
     go_wp2_with (at_builtin; refine wpList_append_any _ rfl (.tmp 60) (.tmp 68) _ rfl w1.heap.size 84 j0 _ 2 16 Tryz.underlying53 hj0 jz0 jz1 jz2 rfl (by decide) (.slice (some ⟨g0, 0, none⟩) 0 c0) 0 (spanCells o) rfl (World.ownsRow.alloc hOn.out _) (w4.heap.size + 1) (some ⟨w4.heap.size, 0, none⟩) 1 1 [.int .i64 x, .int .i64 y] rfl (reads_last _ #[_, _] _ 2 1 _ _ (by simp) (by omega) rfl) (two_int _ _) (by unfold maxLen; omega) (by omega) (by rw [World.size_alloc]; omega) ?_; intro v5 w5 hown5 hg5 hat5; obtain ⟨g5, c5, rfl⟩ := owns_pos hown5 (by omega); have hO5 := Lib.hid (SpansO.push hn.out hown5); have hx5 := Lib.hid ((hxn.out.alloc (.cells #[.int .i64 x, .int .i64 y] 84)).grown hg5 (by intro j e; cases e; exact hg0.out)); have hg5' := Lib.hid (World.ownsRow.lt hown5 g5 rfl).1; clear hown5 hg5 hat5)
     go_roundw
     case rel => exact ⟨i + 1, g5, c5, 0 + 1, o ++ [(x, y)], by omega, by go_num, rfl, by show _ = _; rw [List.length_append, ← hn.out]; rfl, hM, hx5, hg5', hO5⟩
     case measure => simp [intOf]; omega
    ·obtain ⟨m, rfl⟩ : ∃ m, n = m + 1 := ⟨n - 1, by omega⟩
     have hOn : Hid (w4.ownsRow w1.heap.size 84 2 (.slice (some ⟨g0, 0, none⟩) (m + 1) c0) (m + 1) (spanCells o)) := by have := hO4.out; unfold SpansO at this; rw [← hn.out] at this; exact this
     obtain ⟨A0, c6, e0, hn0, hc0, hat0⟩ := hO4.out.read.open
     rw [← hn.out] at e0 hn0
     cases e0
     obtain ⟨b6, p6, u, v, e6, hb6, d6, ex6, k1, k2⟩ := hat0 m (by rw [← hn.out]; omega) w4 (Ext.refl _)
     cases e6
     rw [Nat.zero_add] at k1 k2
     clear hat0 d6
     by_cases hv : v = x
     ·have dv : (v == x) = true := by rw [beq_iff_eq]; exact hv
      have hM : Hid (o.set m (u, y) = combTo k a b p (i + 1)) := by show _ = _; rw [hN.out, combStep_on hn.out.symm ex6.out hv]
      have hO5 : Hid (SpansO (w4.setCell ⟨g0, m * 2 + 1, none⟩ (.int .i64 y)) w1.heap.size (.slice (some ⟨g0, 0, none⟩) (m + 1) c0) (o.set m (u, y))) := by
       have h0 := hO4.out
       rw [hn.out] at h0 ⊢
       have := h0.last (y := y) ex6.out
       rw [List.length_set] at this
       exact this
      have hx5 : Hid (Ext w1 (w4.setCell ⟨g0, m * 2 + 1, none⟩ (.int .i64 y))) := Lib.hid (hxn.out.keep (keep_set w4 g0 (m * 2 + 1) _) fun j hj e => by have := hg0.out; omega)
      have hn5 : Hid (m + 1 = (o.set m (u, y)).length) := by show _ = _; rw [List.length_set]; exact hn.out
      have fr : w4.frozen? ⟨g0, m * 2 + 1, none⟩ = false := by
       obtain ⟨cs, hB⟩ := owns_block hOn.out (g := g0) rfl
       exact hB.frozen _
      clear hN hv ex6 hO4
      go_wp2
      go_roundw
      case rel => exact ⟨i + 1, g0, c0, m + 1, _, by omega, by go_num, rfl, hn5, hM, hx5, hg0, hO5⟩
      case measure => simp [intOf]; omega
     ·have dv : (v == x) = false := by rw [beq_eq_false_iff_ne]; exact hv
      have hM : Hid (o ++ [(x, y)] = combTo k a b p (i + 1)) := by show _ = _; rw [hN.out, combStep_far hn.out.symm ex6.out hv]
      clear hN hv ex6
      go_wp2_with (at_builtin; refine wpList_append_any _ rfl (.tmp 60) (.tmp 68) _ rfl w1.heap.size 84 j0 _ 2 16 Tryz.underlying53 hj0 jz0 jz1 jz2 rfl (by decide) (.slice (some ⟨g0, 0, none⟩) (m + 1) c0) (m + 1) (spanCells o) rfl (World.ownsRow.alloc hOn.out _) (w4.heap.size + 1) (some ⟨w4.heap.size, 0, none⟩) 1 1 [.int .i64 x, .int .i64 y] rfl (reads_last _ #[_, _] _ 2 1 _ _ (by simp) (by omega) rfl) (two_int _ _) (by unfold maxLen; omega) (by omega) (by rw [World.size_alloc]; omega) ?_; intro v5 w5 hown5 hg5 hat5; obtain ⟨g5, c5, rfl⟩ := owns_pos hown5 (by omega); have hO5 := Lib.hid (SpansO.push hn.out hown5); have hx5 := Lib.hid ((hxn.out.alloc (.cells #[.int .i64 x, .int .i64 y] 84)).grown hg5 (by intro j e; cases e; exact hg0.out)); have hg5' := Lib.hid (World.ownsRow.lt hown5 g5 rfl).1; clear hown5 hg5 hat5)
      go_roundw
      case rel => exact ⟨i + 1, g5, c5, (m + 1) + 1, o ++ [(x, y)], by omega, by go_num, rfl, by show _ = _; rw [List.length_append, ← hn.out]; rfl, hM, hx5, hg5', hO5⟩
      case measure => simp [intOf]; omega
  ·have R : Hid (combL k a b = o) := by show _ = _; rw [R0.out, ho.out, show p.length - 1 = i by omega]
   clear ho R0 pat'
   go_wp2
   go_ret
   rw [R.out]
   exact ⟨_, rfl, by rw [hn.out]; exact (hn.out ▸ hO.out).base (by assumption), hx1'.out.trans hx.out⟩
end Go.Proofs.YtjglidlmpjmjeaaGreatDoor
