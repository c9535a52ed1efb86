/- Walks of package span: sweep. -/
import Derived.Test.YtepcdhpikpmepaaGreatYCQ
import Derived.Test.YtepcdhpikpmepaaGreatHEQ
import Derived.Deep.Cut
namespace Go.Proofs.YtepcdhpikpmepaaGreat
open Go.RowKit

theorem BdsO.at_ {w : World} {B : Nat} {A : Option Addr} {c n : Nat} {l : List BdD} (h : w.ownsRow B 190 3 (.slice A n c) n (bdCells l)) : ∀ i, i < n → ∀ W, Ext w W → ∃ g p, A = some ⟨g, 0, none⟩ ∧ g < W.heap.size ∧ Hid (l[i]? = some p) ∧
  W.cell? ⟨g, i * 3, none⟩ = some (.int .i64 p.at_) ∧ W.cell? ⟨g, i * 3 + 1, none⟩ = some (.int .i64 p.lst) ∧ W.cell? ⟨g, i * 3 + 2, none⟩ = some (.int .i64 p.by_) := by
 intro i hi W hW
 have hn : l.length = n := by have := h.1; rw [bdCells_len] at this; omega
 rcases h.2 with ⟨_, h0⟩ | ⟨g, cap, cur, h', hb, hg, _⟩
 ·omega
 ·cases h'
  have hp : l[i]? = some l[i] := List.getElem?_eq_getElem (by omega)
  obtain ⟨c0, c1, c2⟩ := bdCells_at i l[i] hp
  refine ⟨g, l[i], rfl, Nat.lt_of_lt_of_le (h.lt g rfl).2 hW.size, hp, hW.cell ?_, hW.cell ?_, hW.cell ?_⟩
  ·rw [h.cellAt _ (by omega), c0]
  ·rw [h.cellAt _ (by omega), c1]
  ·rw [h.cellAt _ (by omega), c2]
def BdOk (l : List BdD) : Prop := ∀ p ∈ l, (p.lst = 0 ∨ p.lst = 1) ∧ (p.by_ = 1 ∨ p.by_ = -1)
theorem bdsL_ok {j : Int} (hj : j = 0 ∨ j = 1) (l : List (Int × Int)) : BdOk (bdsL j l) := by
 intro p hp
 unfold bdsL at hp
 obtain ⟨s, _, hs⟩ := List.mem_flatMap.1 hp
 split at hs
 ·simp at hs
  rcases hs with rfl | rfl <;> exact ⟨hj, by simp⟩
 ·cases hs
theorem bdOk_perm {l : List BdD} {a b : List (Int × Int)} (h : l.Perm (bdsL 0 a ++ bdsL 1 b)) : BdOk l := by
 intro p hp
 rcases List.mem_append.1 (h.mem_iff.1 hp) with h | h
 ·exact bdsL_ok (Or.inl rfl) a p h
 ·exact bdsL_ok (Or.inr rfl) b p h
theorem openB_bd {l : List BdD} (h : BdOk l) (j : Int) : ∀ n : Nat, n ≤ l.length → -(n : Int) ≤ openB l j n ∧ openB l j n ≤ n
 | 0, _ => by simp [openB]
 | n + 1, hn => by
  have ih := openB_bd h j n (by omega)
  have e : l[n]? = some (l[n]'(by omega)) := List.getElem?_eq_getElem (by omega)
  have hp := (h _ (List.mem_of_getElem? e)).2
  rw [openB, e]
  simp only [Option.getD_some]
  split
  ·rcases hp with h | h <;> rw [h] <;> omega
  ·omega
theorem sweepL_last {k : Bool → Bool → Bool} {all : List BdD} {i : Nat} (h : ¬ i + 1 < all.length) : sweepL k all (i + 1) = sweepL k all i := by
 unfold sweepL
 rw [runTo, if_neg (by rw [List.length_map]; omega)]
theorem sweepL_tie {k : Bool → Bool → Bool} {all : List BdD} {i : Nat} {p q : BdD} (hp : all[i]? = some p) (hq : all[i + 1]? = some q) (h : q.at_ = p.at_) : sweepL k all (i + 1) = sweepL k all i := by
 unfold sweepL
 rw [runTo, if_neg]
 rw [List.getElem?_map, List.getElem?_map, hp, hq]
 simp only [Option.map_some, Option.getD_some]
 omega
theorem sweepL_drop {k : Bool → Bool → Bool} {all : List BdD} {i : Nat} (h : k (decide (0 < openB all 0 (i + 1))) (decide (0 < openB all 1 (i + 1))) = false) : sweepL k all (i + 1) = sweepL k all i := by
 unfold sweepL
 rw [runTo, if_neg]
 rintro ⟨_, _, h3⟩
 rw [h] at h3
 cases h3
theorem sweepL_take {k : Bool → Bool → Bool} {all : List BdD} {i : Nat} {p q : BdD} (hs : SortedB all) (hp : all[i]? = some p) (hq : all[i + 1]? = some q) (hne : q.at_ ≠ p.at_) (h : k (decide (0 < openB all 0 (i + 1))) (decide (0 < openB all 1 (i + 1))) = true) :
  sweepL k all (i + 1) = combStep (sweepL k all i) p.at_ q.at_ := by
 have hl := (List.getElem?_eq_some_iff.1 hq).1
 unfold SortedB at hs
 rw [List.pairwise_iff_getElem] at hs
 have := hs i (i + 1) (by omega) hl (by omega)
 rw [(List.getElem?_eq_some_iff.1 hp).2, (List.getElem?_eq_some_iff.1 hq).2] at this
 unfold sweepL
 rw [runTo, if_pos, List.getElem?_map, List.getElem?_map, hp, hq]
 ·rfl
 ·rw [List.getElem?_map, List.getElem?_map, hp, hq]
  simp only [Option.map_some, Option.getD_some, List.length_map]
  exact ⟨hl, by omega, h⟩
theorem runTo_len (pts : List Int) (f : Nat → Bool) : ∀ i, (runTo pts f i).length ≤ i
 | 0 => Nat.le_refl _
 | i + 1 => by
  have := runTo_len pts f i
  rw [runTo]
  split
  ·unfold combStep
   split
   ·simp; omega
   ·split <;> simp <;> omega
  ·omega
theorem sweepL_len (k : Bool → Bool → Bool) (all : List BdD) (i : Nat) : (sweepL k all i).length ≤ i := runTo_len _ _ i
theorem reads_blk {w : World} {g size m : Nat} {t : TypeId} {cs : Array Value} (h : Blk w g t cs) (hs : cs.size = m * size) : Reads w (g + 1) size (some ⟨g, 0, none⟩) m cs.toList := by
 refine ⟨by simpa using hs, fun _ => ⟨_, rfl, Nat.lt_succ_self g, fun j u hu => ?_⟩⟩
 have e : (⟨g, 0, none⟩ : Addr).add j = ⟨g, j, none⟩ := by unfold Addr.add; split <;> simp_all
 rw [e, h.cell]
 simpa using hu
def SpansF (w : World) (B : Nat) (v : Value) (l : List (Int × Int)) : Prop :=
 ∃ g c cs, v = .slice (some ⟨g, 0, none⟩) l.length c ∧ l.length ≤ c ∧ c ≤ maxLen ∧ B ≤ g ∧ Blk w g 102 cs ∧ ∀ i, i < l.length * 2 → cs[i]? = (spanCells l)[i]?
theorem SpansF.ext {w w' : World} {B : Nat} {v : Value} {l : List (Int × Int)} (h : SpansF w B v l) (k : Ext w w') : SpansF w' B v l :=
 let ⟨g, c, cs, h1, h2, h3, h4, h5, h6⟩ := h
 ⟨g, c, cs, h1, h2, h3, h4, h5.below k h5.lt, h6⟩
theorem SpansF.base {w : World} {B B' : Nat} {v : Value} {l : List (Int × Int)} (h : SpansF w B v l) (k : B' ≤ B) : SpansF w B' v l :=
 let ⟨g, c, cs, h1, h2, h3, h4, h5, h6⟩ := h
 ⟨g, c, cs, h1, h2, h3, Nat.le_trans k h4, h5, h6⟩
theorem SpansF.read {w : World} {B : Nat} {v : Value} {l : List (Int × Int)} (h : SpansF w B v l) : Spans w v l := by
 obtain ⟨g, c, cs, rfl, hn, hc, _, hb, h⟩ := h
 refine ⟨_, _, rfl, hn, hc, fun _ => ⟨g, 0, rfl, hb.lt, fun i hi j hj => ?_⟩⟩
 have h' := spanCells_at i l[i] (List.getElem?_eq_getElem hi)
 rw [hb.cell, Nat.zero_add, h _ (by omega)]
 rcases j with _ | _ | j
 ·rw [Nat.add_zero, h'.1]; simp [hi]
 ·rw [h'.2]; simp [hi]
 ·omega
theorem SpansO.cutF {w : World} {B g c n m : Nat} {l : List (Int × Int)} (h : SpansO w B (.slice (some ⟨g, 0, none⟩) n c) l) (hn : n = l.length) (hm : l.length ≤ m) (hmc : m ≤ c) : SpansF w B (.slice (some ⟨g, 0, none⟩) n m) l := by
 subst hn
 have hlt := h.lt g rfl
 rcases h.2 with ⟨h', _⟩ | ⟨g', cap, cur, h', hb, hg, hn, hcap, hcs, htake⟩
 ·cases h'
 ·cases h'
  refine ⟨g, m, cur, rfl, hm, Nat.le_trans hmc hcap, hb, hg, fun i hi => ?_⟩
  rw [← htake, List.getElem?_take, if_pos hi]
  simp
theorem grown_block {w : World} {base : Nat} {e : TypeId} {size n g B g5 c5 : Nat} {v : Value} {xs : List Value} {s : Nat} (_h : w.ownsRow base e size v n xs) (hv : v = .slice (some ⟨g5, 0, none⟩) n c5) (hg : B ≤ g) (hs : B ≤ s) (hat : v.ownBlock = some g ∨ v.ownBlock = some s) : B ≤ g5 := by
 subst hv
 rcases hat with h | h
 ·cases h; exact hg
 ·cases h; exact hs
def KeepsB (g : Nat) (k : Bool → Bool → Bool) : Prop := (∀ (x : Array Value) (W : World), (callFunc g x).run Tryz.prog W = .ok (.enter g x) W) ∧ ∀ x y W, Calls Tryz.prog g #[.bool x, .bool y] W fun e w' => e = .returned (.bool (k x y)) ∧ Ext W w'
set_option maxHeartbeats 6400000 in
set_option maxRecDepth 100000 in
theorem sweep_calls (va vb : Value) (a b : List (Int × Int)) (kf : Nat) (k : Int) (w : World) (hkf : KeepsB kf (inB k)) (ha : Spans w va a) (hb : Spans w vb b) (hla : a.length ≤ 100000) (hlb : b.length ≤ 100000) :
  Calls Tryz.prog 83 #[va, vb, .func (.func kf) #[] #[]] w fun e w' => ∃ v, e = .returned v ∧ SpansF w' w.heap.size v (combL k a b) ∧ Ext w w' := by
 have ha' := Lib.hid ha
 have hb' := Lib.hid hb
 have hkg := hkf.1
 have hkc := Lib.hid hkf.2
 obtain ⟨aa, ac, rfl⟩ := ha.form
 obtain ⟨ba, bc, rfl⟩ := hb.form
 obtain ⟨j0, hj0, jz0, jz1, jz2⟩ := info_parts span_info
 have hmk := fun (n : Nat) (hn : n ≤ 1000000) (W : World) => run_make_any (P := Tryz.prog) 60 102 j0 _ Tryz.underlying60 hj0 jz0 .i64 .i64 0 n (Nat.zero_le _) (by rw [jz2]; omega) (by omega) W
 rw [jz1] at hmk
 clear ha hb hkf
 go_enter Tryz.func83, Tryz.ntmps83
 go_wp2_with fail
 refine (bounds_calls _ _ a b w ha'.out hb'.out hla hlb).mono ?_
 rintro e w1 ⟨v, all, rfl, hO, hx1, hp, hs⟩
 have hall : all.length ≤ 400000 := by
  have h1 := bdsL_len 0 a
  have h2 := bdsL_len 1 b
  rw [hp.length_eq, List.length_append]
  omega
 have hok := Lib.hid (bdOk_perm hp)
 have hs' := Lib.hid hs
 have hx1' := Lib.hid hx1
 have hR : Hid (sweepL (inB k) all all.length = combL k a b) := Lib.hid (sweep_is hp hs)
 obtain ⟨n, hn⟩ : ∃ n, Hid (n = all.length) := ⟨_, rfl⟩
 have hO2 : Hid (w1.ownsRow w.heap.size 190 3 v n (bdCells all)) := by
  have := hO
  unfold BdsO at this
  rw [← hn.out] at this
  exact this
 obtain ⟨A0, c0, rfl⟩ := owns_form hO2.out
 have hat := Lib.hid (BdsO.at_ hO2.out)
 have hnl : n ≤ 400000 := by rw [hn.out]; exact hall
 have hmk1 : ∀ W, (Instr.makeSlice 60 (.int .i64 0) (.int .i64 (n : Int))).run Tryz.prog W = .ok (.slice (some ⟨W.heap.size, 0, none⟩) 0 n) (W.alloc (.cells (madeCells (Value.cells (.agg #[.int .i64 0, .int .i64 0])) (n * 2)) 102)) := hmk n (by omega)
 have hsz1 := hx1.size
 clear hO hp hs hx1 hall hmk
 go_wp2_with fail
 refine wp_abs (S := fun W => Hid (Ext w1 W) ∧ Hid (SpansO W w.heap.size (.slice (some ⟨w1.heap.size, 0, none⟩) 0 n) []) ∧ Hid (Blk W (w1.heap.size + 1) 188 #[.int .i64 0, .int .i64 0])) ?_ ?_
 ·refine ⟨Lib.hid (by exact (by with_reducible repeat' (first | exact Ext.refl _ | assumption | refine Ext.drewN ?_ _ | refine Ext.drew ?_ | refine Ext.alloc ?_ _ | refine Ext.trans ?_ (by with_reducible assumption)))), Lib.hid ?_, Lib.hid (blk_new' (by simp only [World.size_alloc]) rfl)⟩
  exact World.ownsRow.alloc (World.ownsRow_made (e := 102) (size := 2) w1 _ n hsz1 (by unfold maxLen; omega) (by rw [size_madeCells])) _
 rintro W1 ⟨hE1, hS1, hB1⟩
 go_loopw [8, 21] (fun vo vi wr => ∃ (i g cc m : Nat) (o : List (Int × Int)) (p0 p1 : Int), i ≤ n ∧ vi = .int .i64 i ∧ vo = .slice (some ⟨g, 0, none⟩) m cc ∧ Hid (m = o.length) ∧ Hid (o = sweepL (inB k) all i) ∧ Hid (Ext w1 wr) ∧ Hid (SpansO wr w.heap.size (.slice (some ⟨g, 0, none⟩) m cc) o) ∧ Hid (w1.heap.size ≤ g) ∧
  Hid (Blk wr (w1.heap.size + 1) 188 #[.int .i64 p0, .int .i64 p1]) ∧ Hid (p0 = openB all 0 i) ∧ Hid (p1 = openB all 1 i)) (fun _ vi _ => n - (intOf vi).toNat)
 case atStart => exact ⟨0, w1.heap.size, n, 0, [], 0, 0, by omega, rfl, rfl, rfl, rfl, hE1, hS1, Nat.le_refl _, hB1, rfl, rfl⟩
 case round =>
  clear hE1 hS1 hB1 hmk1
  obtain ⟨i, g, cc, m, o, p0, p1, hi, rfl, rfl, hm, ho, hx, hO, hg, hB, hp0, hp1⟩ := hrel
  by_cases h1 : i < n
  ·obtain ⟨bg, p, rfl, hbg, hp, q0, q1, q2⟩ := hat.out i h1 wr hx.out
   have hl := hn.out
   have hpm := hok.out p (List.mem_of_getElem? hp.out)
   have b0 := openB_bd hok.out 0 i (by omega)
   have b1 := openB_bd hok.out 1 i (by omega)
   rw [← hp0.out] at b0
   rw [← hp1.out] at b1
   obtain ⟨j, hj, hj2⟩ : ∃ j : Nat, p.lst = j ∧ j < 2 := by
    rcases hpm.1 with h | h
    ·exact ⟨0, by omega, by omega⟩
    ·exact ⟨1, by omega, by omega⟩
   obtain ⟨om, hom⟩ : ∃ om, Hid (om = if j = 0 then p0 else p1) := ⟨_, rfl⟩
   have hom1 : -400000 ≤ om ∧ om ≤ 400000 := by rw [hom.out]; split <;> omega
   obtain ⟨by0, hby⟩ : ∃ y, Hid (p.by_ = y) := ⟨_, rfl⟩
   have hby1 : -1 ≤ by0 ∧ by0 ≤ 1 := by rw [← hby.out]; rcases hpm.2 with h | h <;> omega
   obtain ⟨px, hpx⟩ : ∃ y, Hid (p.at_ = y) := ⟨_, rfl⟩
   rw [hj] at q1
   rw [hby.out] at q2
   rw [hpx.out] at q0
   have hn0 : Hid (#[Value.int .i64 p0, .int .i64 p1].setIfInBounds j (.int .i64 (om + by0)) = #[.int .i64 (openB all 0 (i + 1)), .int .i64 (openB all 1 (i + 1))]) := by
    show _ = _
    have e0 : openB all 0 (i + 1) = p0 + (if j = 0 then by0 else 0) := by
     rw [openB, hp.out, Option.getD_some, hby.out, hj, ← hp0.out]
     congr 1
     by_cases h : j = 0
     ·rw [if_pos (by omega), if_pos h]
     ·rw [if_neg (by omega), if_neg h]
    have e1 : openB all 1 (i + 1) = p1 + (if j = 1 then by0 else 0) := by
     rw [openB, hp.out, Option.getD_some, hby.out, hj, ← hp1.out]
     congr 1
     by_cases h : j = 1
     ·rw [if_pos (by omega), if_pos h]
     ·rw [if_neg (by omega), if_neg h]
    rw [e0, e1, hom.out]
    rcases Nat.lt_or_ge 0 j with h | h
    ·obtain rfl : j = 1 := by omega
     simp
    ·obtain rfl : j = 0 := by omega
     simp
   have hoc : Hid (#[Value.int .i64 p0, .int .i64 p1][j]? = some (.int .i64 om)) := by
    show _ = _
    rw [hom.out]
    rcases Nat.lt_or_ge 0 j with h | h
    ·obtain rfl : j = 1 := by omega
     simp
    ·obtain rfl : j = 0 := by omega
     simp
   obtain ⟨om0, om1⟩ := hom1
   obtain ⟨by1, by2⟩ := hby1
   have hlw := Lib.hid (Nat.le_trans hsz1 hx.out.size)
   have hBlt := hB.out.lt
   clear hl hpm b0 b1 hom hp0 hp1
   go_upto_region 7 with (fail)
   refine wp_abs (S := fun V => Hid (Ext wr V) ∧ Hid (Blk V wr.heap.size 190 #[.int .i64 px, .int .i64 (j : Int), .int .i64 by0]) ∧ Hid (Blk V (w1.heap.size + 1) 188 #[.int .i64 p0, .int .i64 p1])) ?_ ?_
   ·exact ⟨Lib.hid (by exact (by with_reducible repeat' (first | exact Ext.refl _ | assumption | refine Ext.drewN ?_ _ | refine Ext.drew ?_ | refine Ext.alloc ?_ _ | refine Ext.trans ?_ (by with_reducible assumption)))), Lib.hid (blk_new' rfl rfl), Lib.hid (hB.out.alloc _)⟩
   clear q0 q1 q2 hB
   rintro V ⟨hV, hP, hB⟩
   have z0 := After.cell (show V.cell? ⟨wr.heap.size, 1, none⟩ = some (.int .i64 (j : Int)) from hP.out.cell 1)
   have z1 := After.cell (show V.cell? ⟨wr.heap.size, 2, none⟩ = some (.int .i64 by0) from hP.out.cell 2)
   have z2 := After.cell (show V.cell? ⟨w1.heap.size + 1, j, none⟩ = some (.int .i64 om) from (hB.out.cell j).trans hoc.out)
   refine wp_region_tail 8 (by kernel_rfl) (by kernel_rfl) ?_
   simp only [List.take_succ_cons, List.take_zero, List.drop_succ_cons, List.drop_zero]
   repeat (go_big_quiet_step (fail))
   refine wpQuiet_nil ?_
   rintro _ ⟨y, rfl⟩
   have hy := y.ext
   generalize y.world = V2 at hy ⊢
   have c2 := hy.cell (show V.cell? ⟨w1.heap.size + 1, j, none⟩ = some (.int .i64 om) from (hB.out.cell j).trans hoc.out)
   have f2 := (hB.out.below hy hB.out.lt).frozen j
   have hV2 := Lib.hid (hV.out.trans hy)
   have hP2 := Lib.hid (hP.out.below hy hP.out.lt)
   have hB2 := Lib.hid (hB.out.below hy hB.out.lt)
   clear z0 z1 z2 hP hB hV hy
   go_upto_region 8 with (fail)
   refine wp_abs (S := fun V => Hid (Ext w1 V) ∧ Hid (Blk V wr.heap.size 190 #[.int .i64 px, .int .i64 (j : Int), .int .i64 by0]) ∧ Hid (Blk V (w1.heap.size + 1) 188 #[.int .i64 (openB all 0 (i + 1)), .int .i64 (openB all 1 (i + 1))]) ∧ Hid (SpansO V w.heap.size (.slice (some ⟨g, 0, none⟩) m cc) o) ∧ Hid (wr.heap.size < V.heap.size)) ?_ ?_
   ·have ks := keep_set V2 (w1.heap.size + 1) j (.int .i64 (om + by0))
    have hb := hB2.out.set_ j (.int .i64 (om + by0))
    rw [hn0.out] at hb
    refine ⟨Lib.hid ((hx.out.trans hV2.out).setCell (p := ⟨w1.heap.size + 1, j, none⟩) (Nat.le_succ _) _), Lib.hid (hP2.out.far (by have := hBlt; dsimp only; omega) _), Lib.hid hb, Lib.hid ((hO.out.ext hV2.out).keepT ks (TX.one hB2.out) (by decide)), Lib.hid ?_⟩
    show wr.heap.size < (V2.setCell _ _).heap.size
    rw [World.size_setCell]
    exact hP2.out.lt
   clear c2 f2 hV2 hP2 hB2 hx hO hn0 hoc
   rintro V3 ⟨hx, hP, hB, hO, hPl⟩
   obtain ⟨p0', hp0⟩ : ∃ p0', Hid (p0' = openB all 0 (i + 1)) := ⟨_, rfl⟩
   obtain ⟨p1', hp1⟩ : ∃ p1', Hid (p1' = openB all 1 (i + 1)) := ⟨_, rfl⟩
   rw [← hp0.out, ← hp1.out] at hB
   have hlw3 := Lib.hid (Nat.le_trans hsz1 hx.out.size)
   have z0 := After.cell (show V3.cell? ⟨wr.heap.size, 0, none⟩ = some (.int .i64 px) from hP.out.cell 0)
   have z1 := After.cell (show V3.cell? ⟨w1.heap.size + 1, 0, none⟩ = some (.int .i64 p0') from hB.out.cell 0)
   have z2 := After.cell (show V3.cell? ⟨w1.heap.size + 1, 1, none⟩ = some (.int .i64 p1') from hB.out.cell 1)
   obtain ⟨kb, hkb⟩ : ∃ kb, Hid (inB k (decide (0 < p0')) (decide (0 < p1')) = kb) := ⟨_, rfl⟩
   have hcall : Hid (∀ W, Calls Tryz.prog kf #[.bool (decide (0 < p0')), .bool (decide (0 < p1'))] W fun e w' => e = .returned (.bool kb) ∧ Ext W w') := Lib.hid fun W => by
    have := hkc.out (decide (0 < p0')) (decide (0 < p1')) W
    rwa [hkb.out] at this
   by_cases h2 : i + 1 < n
   ·obtain ⟨bg2, q, e2, hbg2, hq, r0, _, _⟩ := hat.out (i + 1) h2 V3 hx.out
    cases e2
    obtain ⟨qx, hqx⟩ : ∃ y, Hid (q.at_ = y) := ⟨_, rfl⟩
    rw [hqx.out] at r0
    have d1 : ((i : Int) + 1 == (n : Int)) = false := by rw [beq_eq_false_iff_ne]; omega
    have z3 := After.cell r0
    by_cases h3 : qx = px
    ·have d2 : (qx == px) = true := by simpa using h3
     have hR1 : Hid (o = sweepL (inB k) all (i + 1)) := by
      show _ = _
      rw [sweepL_tie hp.out hq.out (by rw [hqx.out, hpx.out]; exact h3)]
      exact ho.out
     clear h3 ho
     refine wp_region_after (by kernel_rfl) (by kernel_rfl) ?_
     repeat (go_big_quiet_step (exact After.call _ (hcall.out _)))
     refine wpQuiet_nil ?_
     rintro _ ⟨y, rfl⟩
     have hy := y.ext
     generalize y.world = Y at hy ⊢
     have hxY := Lib.hid (hx.out.trans hy)
     have hOY := Lib.hid (hO.out.ext hy)
     have hBY := Lib.hid (hB.out.below hy hB.out.lt)
     clear z3 r0
     clear z0 z1 z2 hy hx hO hB
     go_wp2
     go_roundw
     case rel => exact ⟨i + 1, g, cc, m, o, p0', p1', by omega, by go_num, rfl, hm, hR1, hxY, hOY, hg, hBY, hp0, hp1⟩
     case measure => simp [intOf]; omega
    ·have d2 : (qx == px) = false := by simpa using h3
     cases kb with
     | false =>
      have hR1 : Hid (o = sweepL (inB k) all (i + 1)) := by
       show _ = _
       rw [sweepL_drop (by rw [← hp0.out, ← hp1.out]; exact hkb.out)]
       exact ho.out
      clear h3 ho
      refine wp_region_after (by kernel_rfl) (by kernel_rfl) ?_
      repeat (go_big_quiet_step (exact After.call _ (hcall.out _)))
      refine wpQuiet_nil ?_
      rintro _ ⟨y, rfl⟩
      have hy := y.ext
      generalize y.world = Y at hy ⊢
      have hxY := Lib.hid (hx.out.trans hy)
      have hOY := Lib.hid (hO.out.ext hy)
      have hBY := Lib.hid (hB.out.below hy hB.out.lt)
      clear z3 r0
      clear z0 z1 z2 hy hx hO hB
      go_wp2
      go_roundw
      case rel => exact ⟨i + 1, g, cc, m, o, p0', p1', by omega, by go_num, rfl, hm, hR1, hxY, hOY, hg, hBY, hp0, hp1⟩
      case measure => simp [intOf]; omega
     | true =>
      have hR1 : Hid (combStep o px qx = sweepL (inB k) all (i + 1)) := by
       show _ = _
       rw [sweepL_take hs'.out hp.out hq.out (by rw [hqx.out, hpx.out]; exact h3) (by rw [← hp0.out, ← hp1.out]; exact hkb.out), hqx.out, hpx.out, ← ho.out]
      have hml : m ≤ i := by rw [hm.out, ho.out]; exact sweepL_len _ _ _
      clear h3 ho hkb
      refine wp_region_after (by kernel_rfl) (by kernel_rfl) ?_
      repeat (go_big_quiet_step (exact After.call _ (hcall.out _)))
      refine wpQuiet_nil ?_
      rintro _ ⟨y, rfl⟩
      have hy := y.ext
      generalize y.world = Y at hy ⊢
      have hxY := Lib.hid (hx.out.trans hy)
      have hOY := Lib.hid (hO.out.ext hy)
      have hBY := Lib.hid (hB.out.below hy hB.out.lt)
      have hPY := Lib.hid (hP.out.below hy hP.out.lt)
      have rY := hy.cell r0
      have q0 : Y.cell? ⟨wr.heap.size, 0, none⟩ = some (.int .i64 px) := hPY.out.cell 0
      have hlwY := hxY.out.size
      clear z0 z1 z2 z3 r0 hy hx hO hB hP hcall hPY hp
      by_cases hz : m = 0
      ·subst hz
       have hM : Hid (o ++ [(px, qx)] = sweepL (inB k) all (i + 1)) := by show _ = _; rw [← hR1.out, combStep_nil hm.out.symm]
       have hOn : Hid (Y.ownsRow w.heap.size 102 2 (.slice (some ⟨g, 0, none⟩) 0 cc) 0 (spanCells o)) := by have := hOY.out; unfold SpansO at this; rw [← hm.out] at this; exact this
       clear hR1 hOY
       go_wp2_with fail
       refine wp_region_after (by kernel_rfl) (by kernel_rfl) ?_
       repeat (go_big_quiet_step (fail))
       refine wpQuiet_nil ?_
       rintro _ ⟨y2, rfl⟩
       have hy2 := y2.ext
       generalize y2.world = Y2 at hy2 ⊢
       have q2 := hy2.cell q0
       have rY2 := hy2.cell rY
       have hxY2 := Lib.hid (hxY.out.trans hy2)
       have hBY2 := Lib.hid (hBY.out.below hy2 hBY.out.lt)
       have hOn2 := Lib.hid (owns_ext hOn.out hy2)
       have hlwY2 := hxY2.out.size
       clear q0 rY hxY hBY hOn hlwY hy2
       go_wp2_with fail
       have y0 := After.cell q2
       have y1 := After.cell rY2
       (refine wp_region_held [] [0, 1, 2, 3, 4, 5, 6, 7, 8, 9, 10] [11, 12] (fun _ _ _ => True) (by kernel_rfl) (by kernel_rfl) ?_; simp only [pickL]; with_reducible refine wpQuiet_nil ?_)
       (refine held_quiet [0, 1, 2, 3, 4, 5, 6, 7, 8, 9] [10] (by kernel_rfl) (by kernel_rfl) ?_; simp only [pickL, List.drop]; (repeat (go_big_quiet_step (fail))); with_reducible refine wpQuiet_nil ?_)
       (refine held_made 10 [] rfl (by kernel_rfl) (fun g => .slice (some ⟨g, 0, none⟩) 1 1) (.cells #[.int .i64 px, .int .i64 qx] 102) (fun W => by kernel_rfl) (fun g g2 e => by cases e; rfl) (fun g => rfl) ?_)
       intro gs
       simp only [Act.put, List.setIfInBounds_toArray, List.set_cons_succ, List.set_cons_zero]
       intro W hW hf ht Q0 hQ0
       have h10 := (hf 10).2 rfl
       have b10 : Hid (Blk W gs 102 #[.int .i64 px, .int .i64 qx]) := Lib.hid h10.1
       have hgs : Y2.heap.size ≤ gs := h10.2
       have hgl : gs < W.heap.size := b10.out.lt
       have hW' := Lib.hid hW
       have hlwW := hW.size
       simp only [pickL, List.drop]
       clear hf ht h10 y0 y1 q2 rY2 hW
       go_wp2_with (at_builtin; refine wpList_append_any _ rfl (.tmp 87) (.tmp 97) _ rfl w.heap.size 102 j0 _ 2 16 Tryz.underlying60 hj0 jz0 jz1 jz2 rfl (by decide) (.slice (some ⟨g, 0, none⟩) 0 cc) 0 (spanCells o) rfl (owns_ext hOn2.out hW'.out) (gs + 1) (some ⟨gs, 0, none⟩) 1 1 [.int .i64 px, .int .i64 qx] rfl (reads_blk b10.out rfl) (two_int _ _) (by unfold maxLen; omega) (by omega) (by omega) ?_; intro v5 w5 hown5 hg5 hat5; obtain ⟨g5, c5, rfl⟩ := owns_pos hown5 (by omega); have hO5 := Lib.hid (SpansO.push hm.out hown5); have hx5 := Lib.hid ((hxY2.out.trans hW'.out).grown hg5 (by intro j e; cases e; exact hg.out)); have hg5' := Lib.hid (grown_block (B := w1.heap.size) hown5 rfl hg.out (by omega) hat5); have hB5 := Lib.hid ((hBY2.out.below hW'.out hBY2.out.lt).grown hg5 (fun e => own_blk_ne (owns_ext hOn2.out hW'.out) (hBY2.out.below hW'.out hBY2.out.lt) (by decide) e.symm)); clear hown5 hg5 hat5)
       go_roundw
       case rel => exact ⟨i + 1, g5, c5, 0 + 1, o ++ [(px, qx)], p0', p1', by omega, by go_num, rfl, by show _ = _; rw [List.length_append, ← hm.out]; rfl, hM, hx5, hO5, hg5', hB5, hp0, hp1⟩
       case measure => simp [intOf]; omega
      ·obtain ⟨u, rfl⟩ : ∃ u, m = u + 1 := ⟨m - 1, by omega⟩
       have hOn : Hid (Y.ownsRow w.heap.size 102 2 (.slice (some ⟨g, 0, none⟩) (u + 1) cc) (u + 1) (spanCells o)) := by have := hOY.out; unfold SpansO at this; rw [← hm.out] at this; exact this
       obtain ⟨A0, c6, e0, hn0, hc0, hat0⟩ := hOY.out.read.open
       rw [← hm.out] at e0 hn0
       cases e0
       obtain ⟨b6, p6, lu, lv, e6, hb6, d6, ex6, k1, k2⟩ := hat0 u (by rw [← hm.out]; omega) Y (Ext.refl _)
       cases e6
       rw [Nat.zero_add] at k1 k2
       have y0 := After.cell q0
       have y1 := After.cell k2
       clear hat0 d6
       by_cases hv : lv = px
       ·have dv : (lv == px) = true := by rw [beq_iff_eq]; exact hv
        have hM : Hid (o.set u (lu, qx) = sweepL (inB k) all (i + 1)) := by show _ = _; rw [← hR1.out, combStep_on hm.out.symm ex6.out hv]
        clear hR1 hOY
        go_wp2_with fail
        refine wp_region_after (by kernel_rfl) (by kernel_rfl) ?_
        repeat (go_big_quiet_step (fail))
        refine wpQuiet_nil ?_
        rintro _ ⟨y2, rfl⟩
        have hy2 := y2.ext
        generalize y2.world = Y2 at hy2 ⊢
        have q2 := hy2.cell q0
        have rY2 := hy2.cell rY
        have hxY2 := Lib.hid (hxY.out.trans hy2)
        have hBY2 := Lib.hid (hBY.out.below hy2 hBY.out.lt)
        have hOn2 := Lib.hid (owns_ext hOn.out hy2)
        have hlwY2 := hxY2.out.size
        have hO5 : Hid (SpansO (Y2.setCell ⟨g, u * 2 + 1, none⟩ (.int .i64 qx)) w.heap.size (.slice (some ⟨g, 0, none⟩) (u + 1) cc) (o.set u (lu, qx))) := by
         have h0 : SpansO Y2 w.heap.size (.slice (some ⟨g, 0, none⟩) (u + 1) cc) o := by unfold SpansO; rw [← hm.out]; exact hOn2.out
         rw [hm.out] at h0 ⊢
         have := h0.last (y := qx) ex6.out
         rw [List.length_set] at this
         exact this
        have kk := keep_set Y2 g (u * 2 + 1) (.int .i64 qx)
        have hx5 : Hid (Ext w1 (Y2.setCell ⟨g, u * 2 + 1, none⟩ (.int .i64 qx))) := Lib.hid (hxY2.out.keep kk fun j hj e => by have := hg.out; omega)
        have hB5 : Hid (Blk (Y2.setCell ⟨g, u * 2 + 1, none⟩ (.int .i64 qx)) (w1.heap.size + 1) 188 #[.int .i64 p0', .int .i64 p1']) := Lib.hid (kk.blk hBY2.out (fun e => own_blk_ne hOn2.out hBY2.out (by decide) (by rw [e]; rfl)))
        have hn5 : Hid (u + 1 = (o.set u (lu, qx)).length) := by show _ = _; rw [List.length_set]; exact hm.out
        have fr : Y2.frozen? ⟨g, u * 2 + 1, none⟩ = false := by
         obtain ⟨cs, hB⟩ := owns_block hOn2.out (g := g) rfl
         exact hB.frozen _
        have k3 := hy2.cell k2
        clear y0 y1 q0 rY hxY hBY hOn hlwY hy2 k1 k2 kk hOn2 hv ex6
        go_wp2
        go_roundw
        case rel => exact ⟨i + 1, g, cc, u + 1, _, p0', p1', by omega, by go_num, rfl, hn5, hM, hx5, hO5, hg, hB5, hp0, hp1⟩
        case measure => simp [intOf]; omega
       ·have dv : (lv == px) = false := by rw [beq_eq_false_iff_ne]; exact hv
        have hM : Hid (o ++ [(px, qx)] = sweepL (inB k) all (i + 1)) := by show _ = _; rw [← hR1.out, combStep_far hm.out.symm ex6.out hv]
        clear hR1 hOY hv
        go_wp2_with fail
        refine wp_region_after (by kernel_rfl) (by kernel_rfl) ?_
        repeat (go_big_quiet_step (fail))
        refine wpQuiet_nil ?_
        rintro _ ⟨y2, rfl⟩
        have hy2 := y2.ext
        generalize y2.world = Y2 at hy2 ⊢
        have q2 := hy2.cell q0
        have rY2 := hy2.cell rY
        have hxY2 := Lib.hid (hxY.out.trans hy2)
        have hBY2 := Lib.hid (hBY.out.below hy2 hBY.out.lt)
        have hOn2 := Lib.hid (owns_ext hOn.out hy2)
        have hlwY2 := hxY2.out.size
        clear y0 y1 q0 rY hxY hBY hOn hlwY hy2 k1 k2 ex6
        go_wp2_with fail
        have y0 := After.cell q2
        have y1 := After.cell rY2
        (refine wp_region_held [] [0, 1, 2, 3, 4, 5, 6, 7, 8, 9, 10] [11, 12] (fun _ _ _ => True) (by kernel_rfl) (by kernel_rfl) ?_; simp only [pickL]; with_reducible refine wpQuiet_nil ?_)
        (refine held_quiet [0, 1, 2, 3, 4, 5, 6, 7, 8, 9] [10] (by kernel_rfl) (by kernel_rfl) ?_; simp only [pickL, List.drop]; (repeat (go_big_quiet_step (fail))); with_reducible refine wpQuiet_nil ?_)
        (refine held_made 10 [] rfl (by kernel_rfl) (fun g => .slice (some ⟨g, 0, none⟩) 1 1) (.cells #[.int .i64 px, .int .i64 qx] 102) (fun W => by kernel_rfl) (fun g g2 e => by cases e; rfl) (fun g => rfl) ?_)
        intro gs
        simp only [Act.put, List.setIfInBounds_toArray, List.set_cons_succ, List.set_cons_zero]
        intro W hW hf ht Q0 hQ0
        have h10 := (hf 10).2 rfl
        have b10 : Hid (Blk W gs 102 #[.int .i64 px, .int .i64 qx]) := Lib.hid h10.1
        have hgs : Y2.heap.size ≤ gs := h10.2
        have hgl : gs < W.heap.size := b10.out.lt
        have hW' := Lib.hid hW
        have hlwW := hW.size
        simp only [pickL, List.drop]
        clear hf ht h10 y0 y1 q2 rY2 hW
        go_wp2_with (at_builtin; refine wpList_append_any _ rfl (.tmp 87) (.tmp 97) _ rfl w.heap.size 102 j0 _ 2 16 Tryz.underlying60 hj0 jz0 jz1 jz2 rfl (by decide) (.slice (some ⟨g, 0, none⟩) (u + 1) cc) (u + 1) (spanCells o) rfl (owns_ext hOn2.out hW'.out) (gs + 1) (some ⟨gs, 0, none⟩) 1 1 [.int .i64 px, .int .i64 qx] rfl (reads_blk b10.out rfl) (two_int _ _) (by unfold maxLen; omega) (by omega) (by omega) ?_; intro v5 w5 hown5 hg5 hat5; obtain ⟨g5, c5, rfl⟩ := owns_pos hown5 (by omega); have hO5 := Lib.hid (SpansO.push hm.out hown5); have hx5 := Lib.hid ((hxY2.out.trans hW'.out).grown hg5 (by intro j e; cases e; exact hg.out)); have hg5' := Lib.hid (grown_block (B := w1.heap.size) hown5 rfl hg.out (by omega) hat5); have hB5 := Lib.hid ((hBY2.out.below hW'.out hBY2.out.lt).grown hg5 (fun e => own_blk_ne (owns_ext hOn2.out hW'.out) (hBY2.out.below hW'.out hBY2.out.lt) (by decide) e.symm)); clear hown5 hg5 hat5)
        go_roundw
        case rel => exact ⟨i + 1, g5, c5, (u + 1) + 1, o ++ [(px, qx)], p0', p1', by omega, by go_num, rfl, by show _ = _; rw [List.length_append, ← hm.out]; rfl, hM, hx5, hO5, hg5', hB5, hp0, hp1⟩
        case measure => simp [intOf]; omega
   ·have d1 : ((i : Int) + 1 == (n : Int)) = true := by rw [beq_iff_eq]; omega
    have hR1 : Hid (o = sweepL (inB k) all (i + 1)) := by
     show _ = _
     rw [sweepL_last (by have := hn.out; omega)]
     exact ho.out
    clear ho
    refine wp_region_after (by kernel_rfl) (by kernel_rfl) ?_
    repeat (go_big_quiet_step (exact After.call _ (hcall.out _)))
    refine wpQuiet_nil ?_
    rintro _ ⟨y, rfl⟩
    have hy := y.ext
    generalize y.world = Y at hy ⊢
    have hxY := Lib.hid (hx.out.trans hy)
    have hOY := Lib.hid (hO.out.ext hy)
    have hBY := Lib.hid (hB.out.below hy hB.out.lt)
    clear z0 z1 z2 hy hx hO hB
    go_wp2
    go_roundw
    case rel => exact ⟨i + 1, g, cc, m, o, p0', p1', by omega, by go_num, rfl, hm, hR1, hxY, hOY, hg, hBY, hp0, hp1⟩
    case measure => simp [intOf]; omega
  ·have R : Hid (o = combL k a b) := by show _ = _; rw [← hR.out, ho.out, ← hn.out, show n = i by omega]
   clear ho
   have hmc : m ≤ cc := by
    rcases hO.out.2 with ⟨h', _⟩ | ⟨g', cap, cur, h', hb, hg, hn, hcap, hcs, htake⟩
    ·cases h'
    ·cases h'; rw [hm.out]; exact hn
   have hF := Lib.hid (hO.out.cutF hm.out (Nat.le_of_eq hm.out.symm) hmc)
   go_wp2
   go_ret
   rw [← R.out]
   exact ⟨_, rfl, hF.out, hx1'.out.trans hx.out⟩
end Go.Proofs.YtepcdhpikpmepaaGreat
