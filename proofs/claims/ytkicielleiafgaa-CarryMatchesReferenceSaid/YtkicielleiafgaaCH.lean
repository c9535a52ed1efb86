/- A range over the states on the way: the iterator of package carry, and the law for a loop over it. -/
import Derived.Test.YtkicielleiafgaaCG
import Derived.RangeFuncNested
import Derived.RangeFuncBound
import Derived.RangeFuncCalls
import Derived.RangeFuncLeaves
import Derived.Shelf.Abstract
import Derived.Shelf.RegionOpen
import Derived.OwnWalkIn
import Derived.TacticsInMore
import Derived.LoopNIn
import Derived.LoopIn
namespace Go.Proofs.Ytkicielleiafgaa
open Go.RowKit Go.Shelf

theorem grown_set (w : World) (p : Addr) (v : Value) : w.grownBy (w.setCell p v) (some p.block) := by
  refine ⟨rfl, rfl, rfl, ?_, fun i _ hi => Below.heap_setCell w p v i (fun e => hi (by rw [e]))⟩
  show w.heap.size ≤ (w.heap.modify _ _).size
  rw [Array.size_modify]; exact Nat.le_refl _
/-- a state after i steps -/
def stAt (t : List WishD) (l : List StepD) (i : Nat) : List Int := afterS (zeros t.length) (l.take i)
theorem stAt_len (t : List WishD) (l : List StepD) (i : Nat) : (stAt t l i).length = t.length := by simp [stAt, afterS_len, zeros]

set_option maxHeartbeats 1600000 in
set_option maxRecDepth 100000 in
theorem walk1_in (n : Nat) (hn : 1 ≤ n) (l bt bs : Nat) (ta sa : Option Addr) (tc sc : Nat) (t : List WishD) (steps : List StepD) (u W : World) (hu : Ext u W)
    (hbt : W.cell? ⟨bt, 0, none⟩ = some (.slice ta t.length tc)) (hbs : W.cell? ⟨bs, 0, none⟩ = some (.slice sa steps.length sc)) (hS : Spans u (.slice sa steps.length sc) steps)
    (hok : steps.all (stepOkB t) = true) (h512 : t.length ≤ 512) (J : Nat → World → Prop) (Jx : World → Prop)
    (hJ : ∀ i A B row, J i A → A.grownBy B row → (row = none ∨ row = some W.heap.size) → J i B) (h00 : J 0 W)
    (hY : ∀ i W1, i ≤ steps.length → J i W1 → Ext u W1 → W1.cell? ⟨bs, 0, none⟩ = some (.slice sa steps.length sc) → St W1 W.heap.size (stAt t steps i) →
      YieldAt Fence.wide (n - 1) Try.prog l #[.slice (some ⟨W.heap.size, 0, none⟩) t.length t.length] W1 fun e W' =>
        (e = .returned (.bool true) ∧ J (i + 1) W' ∧ Ext u W' ∧ W'.cell? ⟨bs, 0, none⟩ = some (.slice sa steps.length sc) ∧ St W' W.heap.size (stAt t steps i)) ∨ (e = .returned (.bool false) ∧ Jx W')) :
    CallsIn Fence.wide n Try.prog 91 #[.func (.yield l) #[] #[], .pointer (some ⟨bt, 0, none⟩), .pointer (some ⟨bs, 0, none⟩)] W fun e W' => (∃ v, e = .returned v) ∧ (J (steps.length + 1) W' ∨ Jx W') := by
  have hmk := run_make_ints t.length (by omega)
  have hok' := Lib.hid hok
  have hus := hu.size
  have hbl := World.block_lt_of_cell? _ _ hbs
  obtain ⟨_, _, e0, hsn, hsc, sat⟩ := hS.open
  cases e0
  have sat' := Lib.hid sat
  have hY' := Lib.hid hY
  have hJ' := Lib.hid hJ
  have hst0 : Hid (St (W.alloc (.cells (zerosV t.length) 3)) W.heap.size (stAt t steps 0)) := Lib.hid (by have := St.new W t.length; simpa [stAt, afterS] using this)
  obtain ⟨fn, tmps, assign, body, hy, hR⟩ := hY 0 (W.alloc (.cells (zerosV t.length) 3)) (by omega) (hJ 0 W _ none h00 (World.grownBy_alloc W _ none) (Or.inl rfl)) (hu.alloc _) (((Ext.refl W).alloc _).cell hbs) hst0.out
  have hR' := Lib.hid hR
  clear hR hY hJ hS sat hok hst0
  refine callsIn_of_wp Try.func91 rfl trivial ?_ rfl
  simp only [Try.ntmps91, List.size_toArray, List.length_cons, List.length_nil, Nat.reduceAdd, Nat.reduceSub, Array.replicate_succ, Array.replicate_zero, List.push_toArray, List.append_toArray, List.nil_append, List.cons_append]
  gi_wp2
  refine hR'.out.mono ?_
  rintro e W1 (⟨rfl, hJ1, hx1, c1, hS1⟩ | ⟨rfl, hJx⟩)
  · have hJ1' := Lib.hid hJ1
    have c1' := Lib.hid c1
    have hx1' := Lib.hid hx1
    have hS1' := Lib.hid hS1
    clear hJ1 hx1 hS1 hy hR'
    gi_wp2
    gi_loopw [17] (fun vi wr => ∃ i : Nat, i ≤ steps.length ∧ vi = .int .i64 i ∧ Hid (Ext u wr) ∧ Hid (wr.cell? ⟨bs, 0, none⟩ = some (.slice sa steps.length sc)) ∧ Hid (St wr W.heap.size (stAt t steps i)) ∧ Hid (J (i + 1) wr)) (fun vi _ => steps.length - (intOf vi).toNat)
    case atStart => exact ⟨0, by omega, rfl, hx1', c1', hS1', hJ1'⟩
    case round =>
      clear hJ1' hx1' hS1' c1 c1'
      obtain ⟨i, hi, rfl, hx, hcb, hSt, hJi⟩ := hrel
      by_cases h1 : i < steps.length
      · obtain ⟨b1, o1, x, y, rfl, hb3, dx, ex, g1, g2⟩ := sat'.out i h1 wr hx.out
        obtain ⟨m, hm, hmt⟩ := stepOk_idx (all_at hok'.out ex.out)
        dsimp only at hm
        subst hm
        have hsl := stAt_len t steps i
        have hnext : Hid (stAt t steps (i + 1) = (stAt t steps i).set m y) := by
          show _ = _
          unfold stAt
          rw [take_step ex.out, afterS_snoc]
          simp [stepS]
        have hlt := hSt.out.lt
        have m1 := hSt.out.cell (i := m) (by omega)
        have m2 := hSt.out.frozen m
        have hg1 : wr.grownBy (wr.setCell ⟨W.heap.size, m, none⟩ (.int .i64 y)) (some W.heap.size) := grown_set wr _ _
        have hJ2 := hJ'.out (i + 1) _ _ _ (hJ'.out (i + 1) _ _ _ hJi.out hg1 (Or.inr rfl)) (World.grownBy_alloc (wr.setCell ⟨W.heap.size, m, none⟩ (.int .i64 y)) (.cells #[.int .i64 m, .int .i64 y] 42) none) (Or.inl rfl)
        have hx2 : Ext u ((wr.setCell ⟨W.heap.size, m, none⟩ (.int .i64 y)).alloc (.cells #[.int .i64 m, .int .i64 y] 42)) := (hx.out.setCell (p := ⟨W.heap.size, m, none⟩) hus _).alloc _
        have hcb2 : ((wr.setCell ⟨W.heap.size, m, none⟩ (.int .i64 y)).alloc (.cells #[.int .i64 m, .int .i64 y] 42)).cell? ⟨bs, 0, none⟩ = some (.slice (some ⟨b1, o1, none⟩) steps.length sc) := ((Ext.refl _).alloc _).cell ((keep_set wr W.heap.size m (.int .i64 y)).cell hcb.out (by dsimp only; omega))
        have hS2 : St ((wr.setCell ⟨W.heap.size, m, none⟩ (.int .i64 y)).alloc (.cells #[.int .i64 m, .int .i64 y] 42)) W.heap.size (stAt t steps (i + 1)) := by
          rw [hnext.out]
          exact (hSt.out.set_ m y).ext ((Ext.refl _).alloc _)
        obtain ⟨fn, tmps, assign, body, hy, hR⟩ := hY'.out (i + 1) _ (by omega) hJ2 hx2 hcb2 hS2
        have hR' := Lib.hid hR
        clear hR hJ2 hx2 hcb2 hcb hS2 hg1 hnext hJi hSt
        gi_wp2
        refine hR'.out.mono ?_
        rintro e W3 (⟨rfl, hJ3, hx3, c3, hS3⟩ | ⟨rfl, hJx⟩)
        · have hJ3' := Lib.hid hJ3
          have c3' := Lib.hid c3
          have hx3' := Lib.hid hx3
          have hS3' := Lib.hid hS3
          clear hJ3 hx3 c3 hS3 hy hR'
          gi_wp2
          go_roundw
          case rel => first | exact ⟨i + 1, by omega, by go_num, hx3', c3', hS3', hJ3'⟩ | ((repeat apply Exists.intro); exact ⟨⟨i + 1, by omega, by go_num, hx3', c3', hS3', hJ3'⟩, rfl⟩)
          case measure => simp [intOf]; omega
        · gi_wp2
          refine bodyPost_ret (results_none rfl _ _ _) rfl ?_
          exact ⟨⟨_, rfl⟩, .inr hJx⟩
      · have hfin : Hid (J (steps.length + 1) wr) := by have := hJi.out; rwa [show i = steps.length by omega] at this
        gi_wp2
        go_end0
        exact ⟨⟨_, rfl⟩, .inl hfin.out⟩
  · gi_wp2
    refine bodyPost_ret (results_none rfl _ _ _) rfl ?_
    exact ⟨⟨_, rfl⟩, .inr hJx⟩
end Go.Proofs.Ytkicielleiafgaa
