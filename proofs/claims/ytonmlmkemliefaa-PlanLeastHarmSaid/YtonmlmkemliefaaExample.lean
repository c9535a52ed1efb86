/- The law's example: walked and read. -/
import Derived.Test.YtonmlmkemliefaaRead
namespace Go.Proofs.Ytonmlmkemliefaa
open Go.RowKit

def exampleT : List WishD := [⟨1, [4], [⟨0, 2, [(0, 60)]⟩, ⟨3, 2, [(60, 120)]⟩]⟩, ⟨2, [5], [⟨0, 2, [(30, 90)]⟩, ⟨5, 3, [(30, 90)]⟩]⟩]

theorem one_opt {w : World} {o : OptD} {sv : Value} {l : List OptD} {ys : List Value} (h : Spans w sv o.spans) (h' : OptsC w l ys) : OptsC w (o :: l) (.int .i64 o.harm :: .int .i64 o.room :: sv :: ys) := ⟨sv, ys, rfl, h, h'⟩
theorem one_wish {w : World} {x : WishD} {pv ov : Value} {l : List WishD} {ys : List Value} (h : Ints w pv x.people) (h1 : Opts w ov x.opts) (h' : WishesC w l ys) : WishesC w (x :: l) (.int .i64 x.meeting :: pv :: ov :: ys) := ⟨pv, ov, ys, rfl, ⟨h, h1⟩, h'⟩

theorem example_read {w : World} {t1 t2 t3 t4 : TypeId} (b : Nat) (h1 : Blk w (b + 1) t1 #[.int .i64 4]) (h2 : Blk w (b + 1 + 1) t2 #[.int .i64 0, .int .i64 60]) (h3 : Blk w (b + 1 + 1 + 1) t2 #[.int .i64 60, .int .i64 120])
    (h4 : Blk w (b + 1 + 1 + 1 + 1) t3 #[.int .i64 0, .int .i64 2, .slice (some ⟨b + 1 + 1, 0, none⟩) 1 1, .int .i64 3, .int .i64 2, .slice (some ⟨b + 1 + 1 + 1, 0, none⟩) 1 1])
    (h6 : Blk w (b + 1 + 1 + 1 + 1 + 1 + 1) t1 #[.int .i64 5]) (h7 : Blk w (b + 1 + 1 + 1 + 1 + 1 + 1 + 1) t2 #[.int .i64 30, .int .i64 90]) (h8 : Blk w (b + 1 + 1 + 1 + 1 + 1 + 1 + 1 + 1) t2 #[.int .i64 30, .int .i64 90])
    (h9 : Blk w (b + 1 + 1 + 1 + 1 + 1 + 1 + 1 + 1 + 1) t3 #[.int .i64 0, .int .i64 2, .slice (some ⟨b + 1 + 1 + 1 + 1 + 1 + 1 + 1, 0, none⟩) 1 1, .int .i64 5, .int .i64 3, .slice (some ⟨b + 1 + 1 + 1 + 1 + 1 + 1 + 1 + 1, 0, none⟩) 1 1])
    (h10 : Blk w (b + 1 + 1 + 1 + 1 + 1 + 1 + 1 + 1 + 1 + 1 + 1) t4 #[.int .i64 1, .slice (some ⟨b + 1, 0, none⟩) 1 1, .slice (some ⟨b + 1 + 1 + 1 + 1, 0, none⟩) 2 2, .int .i64 2, .slice (some ⟨b + 1 + 1 + 1 + 1 + 1 + 1, 0, none⟩) 1 1, .slice (some ⟨b + 1 + 1 + 1 + 1 + 1 + 1 + 1 + 1 + 1, 0, none⟩) 2 2]) :
    Wishes w (.slice (some ⟨b + 1 + 1 + 1 + 1 + 1 + 1 + 1 + 1 + 1 + 1 + 1, 0, none⟩) 2 2) exampleT := by
  have m1 : (1 : Nat) ≤ maxLen := by unfold maxLen; omega
  have m2 : (2 : Nat) ≤ maxLen := by unfold maxLen; omega
  have i1 := ints_of_blk (l := [4]) h1 (Nat.le_refl 1) m1
  have i2 := ints_of_blk (l := [5]) h6 (Nat.le_refl 1) m1
  have s1 := spans_of_blk (l := [(0, 60)]) h2 (Nat.le_refl 1) m1
  have s2 := spans_of_blk (l := [(60, 120)]) h3 (Nat.le_refl 1) m1
  have s3 := spans_of_blk (l := [(30, 90)]) h7 (Nat.le_refl 1) m1
  have s4 := spans_of_blk (l := [(30, 90)]) h8 (Nat.le_refl 1) m1
  have o1 := opts_of_c (l := [⟨0, 2, [(0, 60)]⟩, ⟨3, 2, [(60, 120)]⟩]) h4.row (one_opt s1 (one_opt s2 rfl)) (Nat.le_refl 2) m2
  have o2 := opts_of_c (l := [⟨0, 2, [(30, 90)]⟩, ⟨5, 3, [(30, 90)]⟩]) h9.row (one_opt s3 (one_opt s4 rfl)) (Nat.le_refl 2) m2
  exact wishes_of_c (l := exampleT) h10.row (one_wish i1 o1 (one_wish i2 o2 rfl)) (Nat.le_refl 2) m2

set_option maxHeartbeats 1600000 in
set_option maxRecDepth 100000 in
theorem example_calls (w : World) : Calls Try.prog 33 #[] w fun e w' => ∃ tv, e = .returned (.agg #[tv]) ∧ Wishes w' tv exampleT ∧ Ext w w' := by
  go_enter Try.func33, Try.ntmps33
  go_wp2
  refine bodyPost_ret (v := .agg #[.slice (some ⟨w.heap.size + 1 + 1 + 1 + 1 + 1 + 1 + 1 + 1 + 1 + 1 + 1, 0, none⟩) 2 2]) (by simp [results, Try.results33, go_sem]) rfl ?_
  refine ⟨_, rfl, ?_, by exact (by repeat' (first | (with_reducible exact Ext.refl _) | (with_reducible assumption) | (with_reducible refine Ext.drewN ?_ _) | (with_reducible refine Ext.drew ?_) | (with_reducible refine Ext.alloc ?_ _) | (with_reducible refine Ext.trans ?_ (by with_reducible assumption))))⟩
  refine example_read w.heap.size (t1 := 3) (t2 := 79) (t3 := 59) (t4 := 56) ?_ ?_ ?_ ?_ ?_ ?_ ?_ ?_ ?_
  all_goals repeat (first | (refine blk_new' ?_ rfl; simp only [World.size_alloc]; done) | refine Blk.alloc ?_ _)
end Go.Proofs.Ytonmlmkemliefaa
