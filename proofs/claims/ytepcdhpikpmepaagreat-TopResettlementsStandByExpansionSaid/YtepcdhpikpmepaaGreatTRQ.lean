/- Walk of the reference's Insert on instances. -/
import Derived.Test.YtepcdhpikpmepaaGreatTMAQ
namespace Go.Proofs.YtepcdhpikpmepaaGreat
open Go.RowKit Go.Shelf
attribute [local go_sem] Oper.semAt_some

theorem three_ints (x y z : Int) : ∀ u ∈ [Value.int .i64 x, .int .i64 y, .int .i64 z], u.oneCell' = true := by intro u hu; simp at hu; rcases hu with rfl | rfl | rfl <;> rfl
def insR (x : InstD) (l : List InstD) : List InstD := if x ∈ l then l else insI x l
structure PutS (x : InstD) (l : List InstD) (i : Nat) (acc : List InstD) (dn : Bool) : Prop where
 no : ∀ y ∈ l.take i, y ≠ x
 yet : dn = false → acc = l.take i ∧ ∀ r, insI x (l.take i ++ r) = l.take i ++ insI x r
 put : dn = true → ∀ r, insI x (l.take i ++ r) = acc ++ r
 len : acc.length ≤ i + 1
theorem PutS.zero (x : InstD) (l : List InstD) : PutS x l 0 [] false := ⟨fun y h => (by simp at h), fun _ => ⟨rfl, fun _ => rfl⟩, fun e => (by cases e), by simp⟩
theorem take_at {l : List InstD} {i : Nat} {y : InstD} (hy : l[i]? = some y) : l.take (i + 1) = l.take i ++ [y] := by rw [List.take_add_one, hy]; rfl
theorem PutS.here {x : InstD} {l : List InstD} {i : Nat} {acc : List InstD} {y : InstD} (h : PutS x l i acc false) (hy : l[i]? = some y) (hne : y ≠ x) (hlt : ltI x y) : PutS x l (i + 1) (acc ++ [x] ++ [y]) true := by
 obtain ⟨h1, h2⟩ := h.yet rfl
 refine ⟨fun z hz => ?_, fun e => (by cases e), fun _ r => ?_, ?_⟩
 ·rw [take_at hy] at hz
  rcases List.mem_append.1 hz with hz | hz
  ·exact h.no z hz
  ·simp at hz; rw [hz]; exact hne
 ·have hn : ¬ ltI y x := by unfold ltI at *; omega
  rw [take_at hy, List.append_assoc, h2]
  simp [insI, hn, h1]
 ·rw [h1]; simp; omega
theorem PutS.later {x : InstD} {l : List InstD} {i : Nat} {acc : List InstD} {y : InstD} (h : PutS x l i acc false) (hy : l[i]? = some y) (hne : y ≠ x) (hlt : ¬ ltI x y) : PutS x l (i + 1) (acc ++ [y]) false := by
 obtain ⟨h1, h2⟩ := h.yet rfl
 have hl : ltI y x := Decidable.byContradiction fun hn => hne (ltI_eq hn hlt)
 refine ⟨fun z hz => ?_, fun _ => ⟨by rw [take_at hy, h1], fun r => ?_⟩, fun e => (by cases e), ?_⟩
 ·rw [take_at hy] at hz
  rcases List.mem_append.1 hz with hz | hz
  ·exact h.no z hz
  ·simp at hz; rw [hz]; exact hne
 ·rw [take_at hy, List.append_assoc, h2]
  simp [insI, hl]
 ·rw [h1]; simp; omega
theorem PutS.past {x : InstD} {l : List InstD} {i : Nat} {acc : List InstD} {y : InstD} (h : PutS x l i acc true) (hy : l[i]? = some y) (hne : y ≠ x) : PutS x l (i + 1) (acc ++ [y]) true := by
 refine ⟨fun z hz => ?_, fun e => (by cases e), fun _ r => ?_, ?_⟩
 ·rw [take_at hy] at hz
  rcases List.mem_append.1 hz with hz | hz
  ·exact h.no z hz
  ·simp at hz; rw [hz]; exact hne
 ·rw [take_at hy, List.append_assoc, h.put rfl]
  simp
 ·have := h.len; simp; omega
theorem PutS.ends {x : InstD} {l : List InstD} {i : Nat} {acc : List InstD} {dn : Bool} (h : PutS x l i acc dn) (hi : l.length ≤ i) : insR x l = if dn then acc else acc ++ [x] := by
 have hno : x ∉ l := fun hx => h.no x (by rwa [List.take_of_length_le hi]) rfl
 unfold insR
 rw [if_neg hno]
 cases dn with
 | true =>
  have := h.put rfl []
  rw [List.take_of_length_le hi] at this
  simpa using this
 | false =>
  obtain ⟨h1, h2⟩ := h.yet rfl
  have := h2 []
  rw [List.take_of_length_le hi] at this h1
  rw [h1]
  simpa [insI] using this
theorem PutS.found {x : InstD} {l : List InstD} {i : Nat} (hy : l[i]? = some x) : insR x l = l := if_pos (List.mem_of_getElem? hy)
set_option maxHeartbeats 6400000 in
set_option maxRecDepth 100000 in
theorem insert_calls (lv : Value) (l : List InstD) (x : InstD) (w : World) (h : Insts w lv l) (hl : l.length ≤ 1000) :
  Calls Tryz.prog 35 #[lv, .agg #[.int .i64 x.1, .int .i64 x.2.1, .int .i64 x.2.2]] w fun e w' => ∃ v, e = .returned v ∧ Insts w' v (insR x l) ∧ Ext w w' ∧ (v = lv ∨ ∀ a n c, v = .slice (some a) n c → w.heap.size ≤ a.block) := by
 have hL := Lib.hid h
 obtain ⟨la, lc, rfl, hln, hlc, lat⟩ := h.open
 have lat' := Lib.hid lat
 obtain ⟨j0, hj0, jz0, jz1, jz2⟩ := info_parts in_info
 obtain ⟨xd, xf, xt⟩ := x
 dsimp only
 clear h lat
 go_enter Tryz.func35, Tryz.ntmps35
 go_upto_region 1 with (fail)
 refine wp_abs (S := fun W => Hid (Ext w W) ∧ Hid (Blk W w.heap.size 105 #[.int .i64 xd, .int .i64 xf, .int .i64 xt])) ?_ ?_
 ·exact ⟨Lib.hid (by exact (by with_reducible repeat' (first | exact Ext.refl _ | assumption | refine Ext.drewN ?_ _ | refine Ext.drew ?_ | refine Ext.alloc ?_ _ | refine Ext.trans ?_ (by with_reducible assumption)))), Lib.hid (blk_new' rfl rfl)⟩
 rintro W1 ⟨hE1, hB1⟩
 have lw1 := hE1.out.size
 have xl := hB1.out.lt
 go_wp2_with fail
 go_loopw [5, 6, 7] (fun vo vd vi wr => ∃ (i n : Nat) (acc : List InstD) (dn : Bool) (A : Option Addr) (C : Nat), i ≤ l.length ∧ vi = .int .i64 i ∧ vo = .slice A n C ∧ vd = .bool dn ∧ n ≤ i + 1 ∧ Hid (n = acc.length) ∧ Hid (PutS (xd, xf, xt) l i acc dn) ∧ Hid (Ext w wr) ∧ Hid (Blk wr w.heap.size 105 #[.int .i64 xd, .int .i64 xf, .int .i64 xt]) ∧ Hid (wr.ownsRow (w.heap.size + 1) 105 3 (.slice A n C) n (inCells acc))) (fun _ _ vi _ => l.length - (intOf vi).toNat)
 case atStart => exact ⟨0, 0, [], false, _, 0, by omega, rfl, rfl, rfl, by omega, rfl, Lib.hid (PutS.zero _ _), Lib.hid (hE1.out.alloc _), Lib.hid (Blk.alloc hB1.out _), Lib.hid (World.ownsRow_lit (e := 105) (size := 3) W1 #[] 0 xl (by unfold maxLen; omega) rfl)⟩
 case round =>
  clear hE1 hB1 lw1 xl
  obtain ⟨i, n, acc, dn, A, C, hi, rfl, rfl, rfl, hni, hnl, hP, hx, hB, hO⟩ := hrel
  by_cases h1 : i < l.length
  ·obtain ⟨b1, o1, d, f, t, rfl, hb1, _, ex, G0, G1, G2⟩ := lat'.out i h1 w (Ext.refl w)
   have hG := Lib.hid (And.intro G0 (And.intro G1 G2))
   have hne := in_eql (d, f, t) (xd, xf, xt)
   have hgd := fun op p q => in_guard op p q (d, f, t) (xd, xf, xt)
   obtain ⟨q, hq⟩ : ∃ q, Hid (decide ((d, f, t) = (xd, xf, xt)) = q) := ⟨_, rfl⟩
   rw [hq.out] at hne
   dsimp only at hne hgd
   have z0 := After.cell (hx.out.cell G0)
   have z1 := After.cell (hx.out.cell G1)
   have z2 := After.cell (hx.out.cell G2)
   have z3 := After.cell (show wr.cell? ⟨w.heap.size, 0, none⟩ = some (.int .i64 xd) from hB.out.cell 0)
   have z4 := After.cell (show wr.cell? ⟨w.heap.size, 1, none⟩ = some (.int .i64 xf) from hB.out.cell 1)
   have z5 := After.cell (show wr.cell? ⟨w.heap.size, 2, none⟩ = some (.int .i64 xt) from hB.out.cell 2)
   clear G0 G1 G2
   go_wp2_with fail
   refine wp_region_after (by kernel_rfl) (by kernel_rfl) ?_
   repeat (go_big_quiet_step (fail))
   refine wpQuiet_nil ?_
   rintro _ ⟨u, rfl⟩
   replace hB := Lib.hid ((Keep.of_ext (X := fun _ => False) u.ext).blk hB.out id)
   replace hO := Lib.hid (owns_ext hO.out u.ext)
   replace hx := Lib.hid (hx.out.trans u.ext)
   generalize u.world = V at hB hO hx ⊢
   clear z0 z1 z2 z3 z4 z5 hne hgd
   cases q with
   | true =>
    have R : Hid (insR (xd, xf, xt) l = l) := Lib.hid (by
     have e := of_decide_eq_true hq.out
     rw [e] at ex
     exact PutS.found ex.out)
    clear hP hO hB ex hq
    go_wp2
    go_ret
    rw [R.out]
    exact ⟨_, rfl, hL.out.ext hx.out, hx.out, Or.inl rfl⟩
   | false =>
    have hyx : Hid ((d, f, t) ≠ (xd, xf, xt)) := Lib.hid (of_decide_eq_false hq.out)
    clear hq
    have bl := Nat.lt_of_lt_of_le hb1 hx.out.size
    cases dn with
    | true =>
     have hP5 := Lib.hid (hP.out.past ex.out hyx.out)
     have hn5 : Hid (n + 1 = (acc ++ [(d, f, t)]).length) := Lib.hid (by rw [List.length_append, ← hnl.out]; rfl)
     clear hP hyx ex hnl
     go_wp2_with fail
     refine wp_region_after (by kernel_rfl) (by kernel_rfl) ?_
     repeat (go_big_quiet_step (fail))
     refine wpQuiet_nil ?_
     rintro _ ⟨u, rfl⟩
     replace hB := Lib.hid ((Keep.of_ext (X := fun _ => False) u.ext).blk hB.out id)
     replace hO := Lib.hid (owns_ext hO.out u.ext)
     replace hx := Lib.hid (hx.out.trans u.ext)
     generalize u.world = V2 at hB hO hx ⊢
     have g0 := hx.out.cell hG.out.1
     have g1 := hx.out.cell hG.out.2.1
     have g2 := hx.out.cell hG.out.2.2
     replace bl := Nat.lt_of_lt_of_le hb1 hx.out.size
     go_wp2_with (at_builtin; refine wpList_append_any _ rfl (.tmp 36) (.tmp 41) _ rfl (w.heap.size + 1) 105 j0 _ 3 24 Tryz.underlying48 hj0 jz0 jz1 jz2 rfl (by decide) (.slice A (n) C) (n) (inCells (acc)) rfl (owns_ext hO.out ((Ext.refl _).alloc _)) (V2.heap.size + 1) (some ⟨V2.heap.size, 0, none⟩) 1 1 [.int .i64 d, .int .i64 f, .int .i64 t] rfl (reads_last V2 #[.int .i64 d, .int .i64 f, .int .i64 t] 105 3 1 V2.heap.size (V2.heap.size + 1) rfl (by omega) rfl) (three_ints _ _ _) (by unfold maxLen; omega) (by omega) (by rw [World.size_alloc]; have := hB.out.lt; omega) ?_; intro v5 w5 hown5 hg5 hat5; obtain ⟨A5, C5, rfl⟩ := owns_form hown5; have hlow5 := (owns_ext hO.out ((Ext.refl V2).alloc (.cells #[.int .i64 d, .int .i64 f, .int .i64 t] 105))).lt; replace hB := Lib.hid ((Blk.alloc hB.out (.cells #[.int .i64 d, .int .i64 f, .int .i64 t] 105)).grown hg5 (fun e => by have := (hlow5 _ e.symm).1; omega)); replace hx := Lib.hid ((hx.out.alloc (.cells #[.int .i64 d, .int .i64 f, .int .i64 t] 105)).grown hg5 (fun k e => by have := (hlow5 k e).1; omega)); replace hO : Hid (w5.ownsRow (w.heap.size + 1) 105 3 (.slice A5 (n + 1) C5) (n + 1) (inCells (acc ++ [(d, f, t)]))) := Lib.hid (by rw [inCells_app]; exact hown5); clear hown5 hg5 hat5 hlow5)
     go_roundw
     case rel => exact ⟨i + 1, n + 1, _, _, A5, C5, by omega, by go_num, rfl, rfl, by omega, hn5, hP5, hx, hB, hO⟩
     case measure => simp [intOf]; omega
    | false =>
     have hni' : n ≤ i := by rw [hnl.out, (hP.out.yet rfl).1, List.length_take]; omega
     obtain ⟨b, hb⟩ : ∃ b, Hid (decide (ltI (xd, xf, xt) (d, f, t)) = b) := ⟨_, rfl⟩
     have hless : Hid (∀ W, Calls Tryz.prog 59 #[.agg #[.int .i64 xd, .int .i64 xf, .int .i64 xt], .agg #[.int .i64 d, .int .i64 f, .int .i64 t]] W fun e w' => e = .returned (.bool b) ∧ Ext W w') := Lib.hid fun W => by
      have := less_callsI (xd, xf, xt) (d, f, t) W
      rw [hb.out] at this
      exact this
     have z0 := After.cell (hx.out.cell hG.out.1)
     have z1 := After.cell (hx.out.cell hG.out.2.1)
     have z2 := After.cell (hx.out.cell hG.out.2.2)
     have z3 := After.cell (show V.cell? ⟨w.heap.size, 0, none⟩ = some (.int .i64 xd) from hB.out.cell 0)
     have z4 := After.cell (show V.cell? ⟨w.heap.size, 1, none⟩ = some (.int .i64 xf) from hB.out.cell 1)
     have z5 := After.cell (show V.cell? ⟨w.heap.size, 2, none⟩ = some (.int .i64 xt) from hB.out.cell 2)
     go_wp2_with fail
     refine wp_region_after (by kernel_rfl) (by kernel_rfl) ?_
     repeat (go_big_quiet_step (exact After.call _ (hless.out _)))
     refine wpQuiet_nil ?_
     rintro _ ⟨u, rfl⟩
     replace hB := Lib.hid ((Keep.of_ext (X := fun _ => False) u.ext).blk hB.out id)
     replace hO := Lib.hid (owns_ext hO.out u.ext)
     replace hx := Lib.hid (hx.out.trans u.ext)
     generalize u.world = V2 at hB hO hx ⊢
     clear z0 z1 z2 z3 z4 z5 hless
     replace bl := Nat.lt_of_lt_of_le hb1 hx.out.size
     cases b with
     | true =>
      have hP5 := Lib.hid (hP.out.here ex.out hyx.out (of_decide_eq_true hb.out))
      have hn5 : Hid (n + 1 + 1 = (acc ++ [(xd, xf, xt)] ++ [(d, f, t)]).length) := Lib.hid (by rw [List.length_append, List.length_append, ← hnl.out]; rfl)
      have x0 : V2.cell? ⟨w.heap.size, 0, none⟩ = some (.int .i64 xd) := hB.out.cell 0
      have x1 : V2.cell? ⟨w.heap.size, 1, none⟩ = some (.int .i64 xf) := hB.out.cell 1
      have x2 : V2.cell? ⟨w.heap.size, 2, none⟩ = some (.int .i64 xt) := hB.out.cell 2
      have xl := hB.out.lt
      clear hP hyx ex hnl hb
      go_upto_region 11 with (at_builtin; refine wpList_append_any _ rfl (.tmp 32) (.tmp 34) _ rfl (w.heap.size + 1) 105 j0 _ 3 24 Tryz.underlying48 hj0 jz0 jz1 jz2 rfl (by decide) (.slice A (n) C) (n) (inCells (acc)) rfl (owns_ext hO.out ((Ext.refl _).alloc _)) (V2.heap.size + 1) (some ⟨V2.heap.size, 0, none⟩) 1 1 [.int .i64 xd, .int .i64 xf, .int .i64 xt] rfl (reads_last V2 #[.int .i64 xd, .int .i64 xf, .int .i64 xt] 105 3 1 V2.heap.size (V2.heap.size + 1) rfl (by omega) rfl) (three_ints _ _ _) (by unfold maxLen; omega) (by omega) (by rw [World.size_alloc]; have := hB.out.lt; omega) ?_; intro v5 w5 hown5 hg5 hat5; obtain ⟨A5, C5, rfl⟩ := owns_form hown5; have hlow5 := (owns_ext hO.out ((Ext.refl V2).alloc (.cells #[.int .i64 xd, .int .i64 xf, .int .i64 xt] 105))).lt; replace hB := Lib.hid ((Blk.alloc hB.out (.cells #[.int .i64 xd, .int .i64 xf, .int .i64 xt] 105)).grown hg5 (fun e => by have := (hlow5 _ e.symm).1; omega)); replace hx := Lib.hid ((hx.out.alloc (.cells #[.int .i64 xd, .int .i64 xf, .int .i64 xt] 105)).grown hg5 (fun k e => by have := (hlow5 k e).1; omega)); replace hO : Hid (w5.ownsRow (w.heap.size + 1) 105 3 (.slice A5 (n + 1) C5) (n + 1) (inCells (acc ++ [(xd, xf, xt)]))) := Lib.hid (by rw [inCells_app]; exact hown5); clear hown5 hg5 hat5 hlow5)
      have g0 := hx.out.cell hG.out.1
      have g1 := hx.out.cell hG.out.2.1
      have g2 := hx.out.cell hG.out.2.2
      replace bl := Nat.lt_of_lt_of_le hb1 hx.out.size
      clear x0 x1 x2 xl
      go_wp2_with (at_builtin; refine wpList_append_any _ rfl (.tmp 36) (.tmp 41) _ rfl (w.heap.size + 1) 105 j0 _ 3 24 Tryz.underlying48 hj0 jz0 jz1 jz2 rfl (by decide) (.slice A5 (n + 1) C5) (n + 1) (inCells (acc ++ [(xd, xf, xt)])) rfl (owns_ext hO.out ((Ext.refl _).alloc _)) (w5.heap.size + 1) (some ⟨w5.heap.size, 0, none⟩) 1 1 [.int .i64 d, .int .i64 f, .int .i64 t] rfl (reads_last w5 #[.int .i64 d, .int .i64 f, .int .i64 t] 105 3 1 w5.heap.size (w5.heap.size + 1) rfl (by omega) rfl) (three_ints _ _ _) (by unfold maxLen; omega) (by omega) (by rw [World.size_alloc]; have := hB.out.lt; omega) ?_; intro v5 w6 hown5 hg5 hat5; obtain ⟨A5, C5, rfl⟩ := owns_form hown5; have hlow5 := (owns_ext hO.out ((Ext.refl w5).alloc (.cells #[.int .i64 d, .int .i64 f, .int .i64 t] 105))).lt; replace hB := Lib.hid ((Blk.alloc hB.out (.cells #[.int .i64 d, .int .i64 f, .int .i64 t] 105)).grown hg5 (fun e => by have := (hlow5 _ e.symm).1; omega)); replace hx := Lib.hid ((hx.out.alloc (.cells #[.int .i64 d, .int .i64 f, .int .i64 t] 105)).grown hg5 (fun k e => by have := (hlow5 k e).1; omega)); replace hO : Hid (w6.ownsRow (w.heap.size + 1) 105 3 (.slice A5 (n + 1 + 1) C5) (n + 1 + 1) (inCells (acc ++ [(xd, xf, xt)] ++ [(d, f, t)]))) := Lib.hid (by rw [inCells_app]; exact hown5); clear hown5 hg5 hat5 hlow5)
      go_roundw
      case rel => exact ⟨i + 1, n + 1 + 1, _, _, A5, C5, by omega, by go_num, rfl, rfl, by omega, hn5, hP5, hx, hB, hO⟩
      case measure => simp [intOf]; omega
     | false =>
      have hP5 := Lib.hid (hP.out.later ex.out hyx.out (of_decide_eq_false hb.out))
      have hn5 : Hid (n + 1 = (acc ++ [(d, f, t)]).length) := Lib.hid (by rw [List.length_append, ← hnl.out]; rfl)
      have g0 := hx.out.cell hG.out.1
      have g1 := hx.out.cell hG.out.2.1
      have g2 := hx.out.cell hG.out.2.2
      clear hP hyx ex hnl hb
      go_wp2_with (at_builtin; refine wpList_append_any _ rfl (.tmp 36) (.tmp 41) _ rfl (w.heap.size + 1) 105 j0 _ 3 24 Tryz.underlying48 hj0 jz0 jz1 jz2 rfl (by decide) (.slice A (n) C) (n) (inCells (acc)) rfl (owns_ext hO.out ((Ext.refl _).alloc _)) (V2.heap.size + 1) (some ⟨V2.heap.size, 0, none⟩) 1 1 [.int .i64 d, .int .i64 f, .int .i64 t] rfl (reads_last V2 #[.int .i64 d, .int .i64 f, .int .i64 t] 105 3 1 V2.heap.size (V2.heap.size + 1) rfl (by omega) rfl) (three_ints _ _ _) (by unfold maxLen; omega) (by omega) (by rw [World.size_alloc]; have := hB.out.lt; omega) ?_; intro v5 w5 hown5 hg5 hat5; obtain ⟨A5, C5, rfl⟩ := owns_form hown5; have hlow5 := (owns_ext hO.out ((Ext.refl V2).alloc (.cells #[.int .i64 d, .int .i64 f, .int .i64 t] 105))).lt; replace hB := Lib.hid ((Blk.alloc hB.out (.cells #[.int .i64 d, .int .i64 f, .int .i64 t] 105)).grown hg5 (fun e => by have := (hlow5 _ e.symm).1; omega)); replace hx := Lib.hid ((hx.out.alloc (.cells #[.int .i64 d, .int .i64 f, .int .i64 t] 105)).grown hg5 (fun k e => by have := (hlow5 k e).1; omega)); replace hO : Hid (w5.ownsRow (w.heap.size + 1) 105 3 (.slice A5 (n + 1) C5) (n + 1) (inCells (acc ++ [(d, f, t)]))) := Lib.hid (by rw [inCells_app]; exact hown5); clear hown5 hg5 hat5 hlow5)
      go_roundw
      case rel => exact ⟨i + 1, n + 1, _, _, A5, C5, by omega, by go_num, rfl, rfl, by omega, hn5, hP5, hx, hB, hO⟩
      case measure => simp [intOf]; omega
  ·have R := Lib.hid (hP.out.ends (show l.length ≤ i by omega))
   cases dn with
   | true =>
    rw [if_pos rfl] at R
    have hfin : Hid (Insts wr (.slice A n C) acc) := Lib.hid (by
     have : InstsO wr (w.heap.size + 1) (.slice A n C) acc := by unfold InstsO; rw [← hnl.out]; exact hO.out
     exact this.read)
    have hlow := hO.out.lt
    clear hP hO hB hnl
    go_wp2
    go_ret
    rw [R.out]
    exact ⟨_, rfl, hfin.out, hx.out, Or.inr fun a n' c' e => by cases e; have := (hlow a.block rfl).1; omega⟩
   | false =>
    rw [if_neg (by decide)] at R
    have hn5 : Hid (n + 1 = (acc ++ [(xd, xf, xt)]).length) := Lib.hid (by rw [List.length_append, ← hnl.out]; rfl)
    have x0 : wr.cell? ⟨w.heap.size, 0, none⟩ = some (.int .i64 xd) := hB.out.cell 0
    have x1 : wr.cell? ⟨w.heap.size, 1, none⟩ = some (.int .i64 xf) := hB.out.cell 1
    have x2 : wr.cell? ⟨w.heap.size, 2, none⟩ = some (.int .i64 xt) := hB.out.cell 2
    have xl := hB.out.lt
    clear hP hnl
    go_wp2_with (at_builtin; refine wpList_append_any _ rfl (.tmp 45) (.tmp 47) _ rfl (w.heap.size + 1) 105 j0 _ 3 24 Tryz.underlying48 hj0 jz0 jz1 jz2 rfl (by decide) (.slice A (n) C) (n) (inCells (acc)) rfl (owns_ext hO.out ((Ext.refl _).alloc _)) (wr.heap.size + 1) (some ⟨wr.heap.size, 0, none⟩) 1 1 [.int .i64 xd, .int .i64 xf, .int .i64 xt] rfl (reads_last wr #[.int .i64 xd, .int .i64 xf, .int .i64 xt] 105 3 1 wr.heap.size (wr.heap.size + 1) rfl (by omega) rfl) (three_ints _ _ _) (by unfold maxLen; omega) (by omega) (by rw [World.size_alloc]; have := hB.out.lt; omega) ?_; intro v5 w5 hown5 hg5 hat5; obtain ⟨A5, C5, rfl⟩ := owns_form hown5; have hlow5 := (owns_ext hO.out ((Ext.refl wr).alloc (.cells #[.int .i64 xd, .int .i64 xf, .int .i64 xt] 105))).lt; replace hB := Lib.hid ((Blk.alloc hB.out (.cells #[.int .i64 xd, .int .i64 xf, .int .i64 xt] 105)).grown hg5 (fun e => by have := (hlow5 _ e.symm).1; omega)); replace hx := Lib.hid ((hx.out.alloc (.cells #[.int .i64 xd, .int .i64 xf, .int .i64 xt] 105)).grown hg5 (fun k e => by have := (hlow5 k e).1; omega)); replace hO : Hid (w5.ownsRow (w.heap.size + 1) 105 3 (.slice A5 (n + 1) C5) (n + 1) (inCells (acc ++ [(xd, xf, xt)]))) := Lib.hid (by rw [inCells_app]; exact hown5); clear hown5 hg5 hat5 hlow5)
    have hfin : Hid (Insts w5 (.slice A5 (n + 1) C5) (acc ++ [(xd, xf, xt)])) := Lib.hid (by
     have : InstsO w5 (w.heap.size + 1) (.slice A5 (n + 1) C5) (acc ++ [(xd, xf, xt)]) := by unfold InstsO; rw [← hn5.out]; exact hO.out
     exact this.read)
    have hlow := hO.out.lt
    go_ret
    rw [R.out]
    exact ⟨_, rfl, hfin.out, hx.out, Or.inr fun a n' c' e => by cases e; have := (hlow a.block rfl).1; omega⟩
end Go.Proofs.YtepcdhpikpmepaaGreat
