import Derived.Test.YtepcdhpikpmepaaGreatTLQ
import Derived.Test.YtepcdhpikpmepaaGreatTIAQ
import Derived.Laws.ResultCell
namespace Go.Proofs.YtepcdhpikpmepaaGreat
open Go.RowKit Go.Shelf
attribute [local go_sem] Oper.semAt_some

theorem values_calls (v : Value) (w : World) (hv : ∃ a n c, v = .slice a n c) :
  Calls Tryz.prog 94 #[v] w fun e w' => e = .returned (.func (.func 115) #[] #[.pointer (some ⟨w.heap.size, 0, none⟩)]) ∧ Ext w w' ∧ Blk w' w.heap.size 109 #[v] := by
 obtain ⟨a, n, c, rfl⟩ := hv
 go_enter Tryz.func94, Tryz.ntmps94
 go_wp2
 go_ret
 exact ⟨rfl, (by with_reducible repeat' (first | exact Ext.refl _ | assumption | refine Ext.drewN ?_ _ | refine Ext.drew ?_ | refine Ext.alloc ?_ _ | refine Ext.trans ?_ (by with_reducible assumption))), blk_new' rfl rfl⟩
def ValC (g : Nat) (a1 : Addr) (tc : Nat) (x : Value) (W : World) : Prop := W.cell? ⟨g, 0, none⟩ = some (.slice (some a1) 1 tc) ∧ W.cell? a1 = some x
theorem ValC.ext {g : Nat} {a1 : Addr} {tc : Nat} {x : Value} {W W' : World} (h : ValC g a1 tc x W) (e : Ext W W') : ValC g a1 tc x W' := ⟨e.cell h.1, e.cell h.2⟩
set_option maxHeartbeats 1600000 in
set_option maxRecDepth 100000 in
theorem values_iter (g b1 o1 tc pc : Nat) (pa : Option Addr) :
  IterOk 115 #[.pointer (some ⟨g, 0, none⟩)] 1 (fun _ => .slice pa 1 pc) (ValC g ⟨b1, o1, none⟩ tc (.slice pa 1 pc)) := by
 intro nn l W J Jx hn1 hC hJ h00 hY
 have hJ' := Lib.hid hJ
 have hY' := Lib.hid hY
 have h00' := Lib.hid h00
 have hCh := Lib.hid hC
 obtain ⟨c0, c1⟩ := hC
 have l0 := World.block_lt_of_cell? _ _ c0
 have l1 := World.block_lt_of_cell? _ _ c1
 clear hY h00 hJ
 have ea : #[Value.func (.yield l) #[] #[]] ++ #[Value.pointer (some ⟨g, 0, none⟩)] = #[.func (.yield l) #[] #[], .pointer (some ⟨g, 0, none⟩)] := rfl
 rw [ea]
 clear ea
 refine callsIn_of_wp Tryz.func115 rfl trivial ?_ rfl
 simp only [Tryz.ntmps115, List.size_toArray, List.length_cons, List.length_nil, Nat.reduceAdd, Nat.reduceSub, Array.replicate_succ, Array.replicate_zero, List.push_toArray, List.append_toArray, List.nil_append, List.cons_append]
 gi_wp2
 clear c0 c1 l0 l1
 gi_loopw [4, 7] (fun _ vi wr => ∃ i : Nat, i ≤ 1 ∧ vi = .int .i64 i ∧ Hid (J i wr) ∧ Hid (ValC g ⟨b1, o1, none⟩ tc (.slice pa 1 pc) wr)) (fun _ vi _ => 1 - (intOf vi).toNat)
 case atStart => exact ⟨0, by omega, rfl, h00', hCh⟩
 case round =>
  clear h00' hCh
  obtain ⟨i, hi, rfl, hJi, hC⟩ := hrel
  by_cases h1 : i < 1
  ·obtain rfl : i = 0 := by omega
   obtain ⟨c0, c1⟩ := hC.out
   have l1 := World.block_lt_of_cell? _ _ c1
   obtain ⟨fn, tmps, assign, body, hy, hR⟩ := hY'.out 0 wr (by omega) hJi.out hC.out
   have hR' := Lib.hid hR
   clear hR h1
   gi_wp2
   refine hR'.out.mono ?_
   rintro e W3 (⟨rfl, hJ3, hC3⟩ | ⟨rfl, hJx⟩)
   ·have hJ3' := Lib.hid hJ3
    have hC3' := Lib.hid hC3
    clear hJ3 hC3 hy hR' hJi hC c0 c1 l1
    gi_wp2
    go_roundw
    case rel => first | exact ⟨1, by omega, by go_num, hJ3', hC3'⟩ | ((repeat apply Exists.intro); exact ⟨⟨1, by omega, by go_num, hJ3', hC3'⟩, rfl⟩)
    case measure => simp [intOf]
   ·gi_wp2
    refine bodyPost_ret (results_none rfl _ _ _) rfl ?_
    exact ⟨⟨_, rfl⟩, .inr hJx⟩
  ·obtain rfl : i = 1 := by omega
   gi_wp2
   go_end0
   exact ⟨⟨_, rfl⟩, .inl hJi.out⟩
structure LeastI (w : World) (B : Nat) (n : Int) (r : Int × Bool) (W : World) : Prop where
 ext : Ext w W
 nb : Blk W B 3 #[.int .i64 n]
 bb : Blk W (B + 1) 3 #[.int .i64 r.1]
 fb : Blk W (B + 1 + 1) 4 #[.bool r.2]
theorem LeastI.toExt {w W W' : World} {B : Nat} {n : Int} {r : Int × Bool} (h : LeastI w B n r W) (e : Ext W W') : LeastI w B n r W' :=
 have k := Keep.of_ext (X := fun _ => False) e
 ⟨h.ext.trans e, k.blk h.nb id, k.blk h.bb id, k.blk h.fb id⟩
theorem LeastI.stands {w : World} {B : Nat} {n : Int} {r : Int × Bool} {B0 : Nat} (h0 : w.heap.size ≤ B0) (h1 : B + 1 + 1 < B0) : StandsI B0 (LeastI w B n r) := fun A A' h hx =>
 ⟨ext_standsI h0 A A' h.ext hx, blk_standsI (by omega) A A' h.nb hx, blk_standsI (by omega) A A' h.bb hx, blk_standsI h1 A A' h.fb hx⟩
set_option maxHeartbeats 3200000 in
set_option maxRecDepth 100000 in
theorem mixLeast_calls (g : Nat) (tv : Value) (p : PerD) (n : Int) (w : World) (hT : Terms w tv [[p]]) (hg : Blk w g 109 #[tv]) (hok : PerOk p) (n0 : 0 ≤ n) (n1 : n ≤ 1000000000000) :
  Calls Tryz.prog 93 #[.func (.func 115) #[] #[.pointer (some ⟨g, 0, none⟩)], .int .i64 n] w fun e w' => e = .returned (.tuple #[.int .i64 (lateD p n).1, .bool (lateD p n).2]) ∧ Ext w w' := by
 obtain ⟨_, tc, rfl, htn, htc, hat⟩ := hT.open
 obtain ⟨b1, o1, x, pa, pc, rfl, hb1, ex, g0, gp⟩ := hat 0 (by simp) w (Ext.refl _)
 obtain rfl : [p] = x := by simpa using ex.out
 simp only [List.length_singleton, Nat.add_zero] at g0 gp hg
 have hP := Lib.hid gp
 have hok' := Lib.hid hok
 have hC0 : Hid (ValC g ⟨b1, o1, none⟩ tc (.slice pa 1 pc) w) := Lib.hid ⟨hg.cell 0, g0⟩
 obtain ⟨r, hr⟩ : ∃ r, Hid (lateD p n = r) := ⟨_, rfl⟩
 have hel : Hid (∀ W, Ext w W → Calls Tryz.prog 112 #[.slice pa 1 pc, .int .i64 n] W fun e w' => e = .returned (.tuple #[.int .i64 0, .bool false]) ∧ Ext W w') := Lib.hid fun W hW => early_calls _ p n W (hP.out.ext hW) hok'.out
 have hre : Hid (∀ W, Ext w W → Calls Tryz.prog 113 #[.slice pa 1 pc] W fun e w' => e = .returned (.bool true) ∧ Ext W w') := Lib.hid fun W hW => recurs_calls _ p W (hP.out.ext hW) hok'.out
 have hla : Hid (∀ W, Ext w W → Calls Tryz.prog 114 #[.slice pa 1 pc, .int .i64 n] W fun e w' => e = .returned (.tuple #[.int .i64 r.1, .bool r.2]) ∧ Ext W w') := Lib.hid fun W hW => by
  have := late_calls _ p n W (hP.out.ext hW) hok'.out n0 n1
  rwa [hr.out] at this
 have hr0 : Hid (r.2 = false → r = (0, false)) := Lib.hid (by
  rw [← hr.out]
  unfold lateD
  split
  ·intro e; cases e
  ·intro _; rfl)
 rw [hr.out]
 have dfar : decide (n ≤ 1152921504606846976) = true := decide_eq_true (by omega)
 have gl := hg.lt
 clear hT hat hg g0 gp ex hb1 htn htc hok n0 n1 hr
 refine (callsIn_wide (n := 5)).1 ?_
 refine callsIn_of_wp_marks Tryz.func93 rfl trivial ?_ rfl
 simp only [Tryz.ntmps93, List.size_toArray, List.length_cons, List.length_nil, Nat.reduceAdd, Nat.reduceSub, Array.replicate_succ, Array.replicate_zero, List.push_toArray, List.append_toArray, List.nil_append, List.cons_append]
 gi_wp2_with fail
 obtain ⟨W0, hW0⟩ : ∃ W0, Hid (((w.alloc (.cells #[.int .i64 n] 3)).alloc (.cells #[.int .i64 0] 3)).alloc (.cells #[.bool false] 4) = W0) := ⟨_, rfl⟩
 rw [hW0.out]
 have hI0 : Hid (LeastI w w.heap.size n (0, false) W0) := Lib.hid (by
  rw [← hW0.out]
  exact ⟨(((Ext.refl w).alloc _).alloc _).alloc _, Blk.alloc (Blk.alloc (blk_new' rfl rfl) _) _, Blk.alloc (blk_new' (by rw [World.size_alloc]) rfl) _, blk_new' (by rw [World.size_alloc, World.size_alloc]) rfl⟩)
 have hCW := hC0.out.ext hI0.out.ext
 have q1 := hI0.out.fb.lt
 have q2 := hI0.out.ext.size
 have hb1 := World.block_lt_of_cell? _ _ hC0.out.2
 clear hW0 hC0
 refine wpIn_range_iter (n := 5) (F := 115) (N := 1) (val := fun _ => .slice pa 1 pc) (C := ValC g ⟨b1, o1, none⟩ tc (.slice pa 1 pc)) (by omega) ?hg (fun _ _ => by kernel_rfl) (values_iter g b1 o1 tc pc pa)
  ((cell_standsI (by dsimp only; omega)).and (cell_standsI (by dsimp only at hb1 ⊢; omega))) hCW (fun i => LeastI w w.heap.size n (if i = 0 then (0, false) else r)) (fun _ _ => False) (fun _ => LeastI.stands q2 q1) (fun _ _ _ x _ => x) hI0.out 8 ?assign ?body ?done ?stop
 case hg => rfl
 case assign =>
  intro l j W K hK
  simp only [List.setIfInBounds_toArray, List.set_cons_succ, List.set_cons_zero] at hK
  gi_wp2
  exact hK
 case body =>
  intro l' i W hi hI hC hsz2
  simp only [List.setIfInBounds_toArray, List.set_cons_succ, List.set_cons_zero]
  obtain rfl : i = 0 := by omega
  rw [if_pos rfl] at hI
  have hI' := Lib.hid hI
  have hC' := Lib.hid hC
  have n0 : W.cell? ⟨w.heap.size, 0, none⟩ = some (.int .i64 n) := hI.nb.cell 0
  have nl := hI.nb.lt
  clear hI hC hI0 hCW q1
  gi_wp2_with fail
  refine ⟨trivial, (CallsIn.inRound l' (callsIn_wide.2 (hel.out W hI'.out.ext))).mono ?_⟩
  rintro e W1 ⟨rfl, hx1⟩
  have hI1 := Lib.hid (hI'.out.toExt hx1)
  have hC1 := Lib.hid (hC'.out.ext hx1)
  have hxx := Lib.hid hx1
  clear hx1 n0 nl hI' hC'
  have n0 : W1.cell? ⟨w.heap.size, 0, none⟩ = some (.int .i64 n) := hI1.out.nb.cell 0
  have nl := hI1.out.nb.lt
  gi_wp2_with fail
  refine ⟨trivial, (CallsIn.inRound l' (callsIn_wide.2 (hre.out W1 hI1.out.ext))).mono ?_⟩
  rintro e W2 ⟨rfl, hx2⟩
  have hI2 := Lib.hid (hI1.out.toExt hx2)
  have hC2 := Lib.hid (hC1.out.ext hx2)
  have hx12 := Lib.hid (hxx.out.trans hx2)
  clear hx2 n0 nl hI1 hC1 hxx
  have n0 : W2.cell? ⟨w.heap.size, 0, none⟩ = some (.int .i64 n) := hI2.out.nb.cell 0
  have nl := hI2.out.nb.lt
  gi_wp2_with fail
  refine ⟨trivial, (CallsIn.inRound l' (callsIn_wide.2 (hla.out W2 hI2.out.ext))).mono ?_⟩
  rintro e W3 ⟨rfl, hx3⟩
  have hI3 := Lib.hid (hI2.out.toExt hx3)
  have hC3 := Lib.hid (hC2.out.ext hx3)
  have hx13 := Lib.hid (hx12.out.trans hx3)
  clear hx3 n0 nl hI2 hC2 hx12 hel hre hla
  obtain ⟨ra, rb⟩ := r
  dsimp only at hr0 ⊢
  cases rb with
  | false =>
   have hfin : Hid (LeastI w w.heap.size n (if 0 + 1 = 0 then (0, false) else (ra, false)) W3) := Lib.hid (by rw [if_neg (by decide), hr0.out rfl]; exact hI3.out)
   gi_wp2_with fail
   exact ⟨(keepsOthers_extI hx13.out).from _, hC3.out, hfin.out⟩
  | true =>
   have f0 : W3.cell? ⟨w.heap.size + 1 + 1, 0, none⟩ = some (.bool false) := hI3.out.fb.cell 0
   have fl := hI3.out.fb.lt
   have b0 : W3.cell? ⟨w.heap.size + 1, 0, none⟩ = some (.int .i64 0) := hI3.out.bb.cell 0
   have bl := hI3.out.bb.lt
   have bf := hI3.out.bb.frozen 0
   have hf2 := Lib.hid (hI3.out.fb.far (p := ⟨w.heap.size + 1, 0, none⟩) (by dsimp only; omega) (.int .i64 ra))
   have f2 : (W3.setCell ⟨w.heap.size + 1, 0, none⟩ (.int .i64 ra)).cell? ⟨w.heap.size + 1 + 1, 0, none⟩ = some (.bool false) := hf2.out.cell 0
   have fl2 := hf2.out.lt
   have ff2 := hf2.out.frozen 0
   have hlow : Hid (w.heap.size ≤ w.heap.size + 1 ∧ w.heap.size ≤ w.heap.size + 1 + 1 ∧ w.heap.size + 1 + 1 ≠ w.heap.size + 1 ∧ w.heap.size ≠ w.heap.size + 1 ∧ w.heap.size ≠ w.heap.size + 1 + 1 ∧ w.heap.size + 1 ≠ w.heap.size + 1 + 1) := Lib.hid (by omega)
   have hgb : Hid (g ≠ w.heap.size + 1 ∧ g ≠ w.heap.size + 1 + 1 ∧ b1 ≠ w.heap.size + 1 ∧ b1 ≠ w.heap.size + 1 + 1) := Lib.hid (by omega)
   have hfin : Hid (LeastI w w.heap.size n (if 0 + 1 = 0 then (0, false) else (ra, true)) ((W3.setCell ⟨w.heap.size + 1, 0, none⟩ (.int .i64 ra)).setCell ⟨w.heap.size + 1 + 1, 0, none⟩ (.bool true))) := Lib.hid (by
    rw [if_neg (by decide)]
    obtain ⟨h1, h2, h3, h4, h5, h6⟩ := hlow.out
    exact ⟨(hI3.out.ext.setCell (p := ⟨w.heap.size + 1, 0, none⟩) h1 _).setCell (p := ⟨w.heap.size + 1 + 1, 0, none⟩) h2 _, (hI3.out.nb.far (p := ⟨w.heap.size + 1, 0, none⟩) h4 _).far (p := ⟨w.heap.size + 1 + 1, 0, none⟩) h5 _, (hI3.out.bb.set_ 0 _).far (p := ⟨w.heap.size + 1 + 1, 0, none⟩) h6 _, hf2.out.set_ 0 _⟩)
   have hCf : Hid (ValC g ⟨b1, o1, none⟩ tc (.slice pa 1 pc) ((W3.setCell ⟨w.heap.size + 1, 0, none⟩ (.int .i64 ra)).setCell ⟨w.heap.size + 1 + 1, 0, none⟩ (.bool true))) := Lib.hid (by
    obtain ⟨h1, h2, h3, h4⟩ := hgb.out
    exact ⟨(keep_set _ _ 0 _).cell ((keep_set _ _ 0 _).cell hC3.out.1 h1) h2, (keep_set _ _ 0 _).cell ((keep_set _ _ 0 _).cell hC3.out.2 h3) h4⟩)
   clear hI3 hC3 hf2
   gi_wp2_with fail
   exact ⟨(((keepsOthers_extI hx13.out).trans (KeepsOthers.setCell _ _ _)).trans (KeepsOthers.setCell _ _ _)).from _, hCf.out, hfin.out⟩
 case done =>
  intro D W hD hI hK
  rw [if_neg (by decide)] at hI
  have hx := Lib.hid hI.ext
  have b0 : W.cell? ⟨w.heap.size + 1, 0, none⟩ = some (.int .i64 r.1) := hI.bb.cell 0
  have bl := hI.bb.lt
  have f0 : W.cell? ⟨w.heap.size + 1 + 1, 0, none⟩ = some (.bool r.2) := hI.fb.cell 0
  have fl := hI.fb.lt
  have z0 := After.cell b0
  have z1 := After.cell f0
  clear hI b0 f0
  gi_wp2_with fail
  refine wpIn_wide.2 (wp_region_after (by kernel_rfl) (by kernel_rfl) ?_)
  repeat (go_big_quiet_step (fail))
  refine wpQuiet_nil ?_
  rintro _ ⟨u, rfl⟩
  have hu := Lib.hid u.ext
  generalize u.world = V at hu ⊢
  have hKV : V.heap[D]? = some (.deferred (some [])) := (hu.out.heap (Array.getElem?_eq_some_iff.1 hK).1).trans hK
  clear z0 z1
  gi_wp2
  refine postM_ret1 hKV (results_tmp2 rfl _ _ _) ?_
  exact ⟨rfl, (hx.out.trans hu.out).grown (grownBy_putObj' _ _ _) (fun k e => by cases e; omega)⟩
 case stop =>
  intro D c W _ hF
  exact hF.elim
end Go.Proofs.YtepcdhpikpmepaaGreat
namespace Go.Proofs.YtepcdhpikpmepaaGreat
open Go.RowKit Go.Shelf
attribute [local go_sem] Oper.semAt_some

set_option maxHeartbeats 1600000 in
theorem mixNext_calls (tv : Value) (p : PerD) (n : Int) (w : World) (hT : Terms w tv [[p]]) (hok : PerOk p) (n0 : 0 ≤ n) (n1 : n ≤ 1000000000000) :
  Calls Tryz.prog 75 #[.agg #[tv], .int .i64 n] w fun e w' => e = .returned (.tuple #[.int .i64 (lateD p n).1, .bool (lateD p n).2]) ∧ Ext w w' := by
 have hT' := Lib.hid hT
 obtain ⟨a, c, rfl, _⟩ := hT.open
 have hva : Hid (∀ W, Ext w W → Calls Tryz.prog 72 #[.agg #[.slice a [[p]].length c]] W fun e w' => e = .returned (.bool true) ∧ Ext W w') := Lib.hid fun W hW => mixedValid_calls _ p W (hT'.out.ext hW) hok
 have hok' := Lib.hid hok
 have hn := Lib.hid (And.intro n0 n1)
 have hmx : max n 0 = n := by omega
 have d0 : decide (n < 0) = false := decide_eq_false (by omega)
 clear hT hok n0 n1
 go_enter Tryz.func75, Tryz.ntmps75
 go_wp2_with fail
 refine (hva.out _ (by with_reducible repeat' (first | exact Ext.refl _ | assumption | refine Ext.drewN ?_ _ | refine Ext.drew ?_ | refine Ext.alloc ?_ _ | refine Ext.trans ?_ (by with_reducible assumption)))).mono ?_
 rintro e w1 ⟨rfl, hx1⟩
 have hB1 : Hid (Blk w1 w.heap.size 111 #[.slice a [[p]].length c]) := Lib.hid ((Keep.of_ext (X := fun _ => False) hx1).blk (blk_new' rfl rfl) id)
 have hE1 := Lib.hid (((Ext.refl w).alloc (.cells #[.slice a [[p]].length c] 111)).trans hx1)
 have c0 : w1.cell? ⟨w.heap.size, 0, none⟩ = some (.slice a [[p]].length c) := hB1.out.cell 0
 have l0 := hB1.out.lt
 clear hx1 hva
 go_wp2_with fail
 refine (values_calls _ w1 ⟨_, _, _, rfl⟩).mono ?_
 rintro e w2 ⟨rfl, hx2, hg⟩
 have hT2 := Lib.hid (hT'.out.ext (hE1.out.trans hx2))
 have hE2 := Lib.hid (hE1.out.trans hx2)
 have hg2 := Lib.hid hg
 clear hx2 hg c0 l0 hB1 hE1
 go_wp2_with fail
 refine (mixLeast_calls w1.heap.size (.slice a 1 c) p n w2 hT2.out hg2.out hok'.out hn.out.1 hn.out.2).mono ?_
 rintro e w3 ⟨rfl, hx3⟩
 have hE3 := Lib.hid (hE2.out.trans hx3)
 clear hx3 hT2 hE2 hg2
 go_wp2
 go_ret2
 exact ⟨rfl, hE3.out⟩
theorem in_calls (x a b : Int) (w : World) : Calls Tryz.prog 71 #[.int .i64 x, .int .i64 a, .int .i64 b] w fun e w' => e = .returned (.bool (decide (a ≤ x) && decide (x ≤ b))) ∧ Ext w w' := by
 by_cases h1 : a ≤ x
 ·have d1 : decide (a ≤ x) = true := decide_eq_true h1
  rw [d1, Bool.true_and]
  obtain ⟨q, hq⟩ : ∃ q, decide (x ≤ b) = q := ⟨_, rfl⟩
  rw [hq]
  go_enter Tryz.func71, Tryz.ntmps71
  go_wp2
  go_ret
  exact ⟨rfl, (by with_reducible repeat' (first | exact Ext.refl _ | assumption | refine Ext.drewN ?_ _ | refine Ext.drew ?_ | refine Ext.alloc ?_ _ | refine Ext.trans ?_ (by with_reducible assumption)))⟩
 ·have d1 : decide (a ≤ x) = false := decide_eq_false h1
  rw [d1, Bool.false_and]
  go_enter Tryz.func71, Tryz.ntmps71
  go_wp2
  go_ret
  exact ⟨rfl, (by with_reducible repeat' (first | exact Ext.refl _ | assumption | refine Ext.drewN ?_ _ | refine Ext.drew ?_ | refine Ext.alloc ?_ _ | refine Ext.trans ?_ (by with_reducible assumption)))⟩
theorem collide_calls (a b c d : Int) (w : World) : Calls Tryz.prog 54 #[.agg #[.int .i64 a, .int .i64 b], .agg #[.int .i64 c, .int .i64 d]] w fun e w' => e = .returned (.bool (decide (a < d) && decide (c < b))) ∧ Ext w w' := by
 by_cases h1 : a < d
 ·have d1 : decide (a < d) = true := decide_eq_true h1
  rw [d1, Bool.true_and]
  obtain ⟨q, hq⟩ : ∃ q, decide (c < b) = q := ⟨_, rfl⟩
  rw [hq]
  go_enter Tryz.func54, Tryz.ntmps54
  go_wp2
  go_ret
  exact ⟨rfl, (by with_reducible repeat' (first | exact Ext.refl _ | assumption | refine Ext.drewN ?_ _ | refine Ext.drew ?_ | refine Ext.alloc ?_ _ | refine Ext.trans ?_ (by with_reducible assumption)))⟩
 ·have d1 : decide (a < d) = false := decide_eq_false h1
  rw [d1, Bool.false_and]
  go_enter Tryz.func54, Tryz.ntmps54
  go_wp2
  go_ret
  exact ⟨rfl, (by with_reducible repeat' (first | exact Ext.refl _ | assumption | refine Ext.drewN ?_ _ | refine Ext.drew ?_ | refine Ext.alloc ?_ _ | refine Ext.trans ?_ (by with_reducible assumption)))⟩
def StreamF (v : Value) (len : Int) : Prop := ∃ a1 n1 c1 a2 n2 c2, v = .agg #[.slice a1 n1 c1, .int .i64 len, .slice a2 n2 c2]
set_option maxHeartbeats 800000 in
theorem timely_calls (a1 a2 a3 : Option Addr) (n1 c1 n2 c2 n3 c3 : Nat) (len m d : Int) (w : World) (l0 : 1 ≤ len) (l1 : len ≤ 10080) (m0 : 0 ≤ m) (m1 : m ≤ 1439) :
  Calls Tryz.prog 76 #[.agg #[.slice a1 n1 c1, .int .i64 len, .slice a2 n2 c2], .agg #[.slice a3 n3 c3, .int .i64 m], .int .i64 d] w fun e w' => e = .returned (.bool (decide (d ≤ (2251799813685248 - m - len) / 1440))) ∧ Ext w w' := by
 have w1 : wrap64 (2251799813685248 - m) = 2251799813685248 - m := by unfold wrap64; omega
 have w2 : wrap64 (2251799813685248 - m - len) = 2251799813685248 - m - len := by unfold wrap64; omega
 obtain ⟨q, hq⟩ : ∃ q, (2251799813685248 - m - len) / 1440 = q := ⟨_, rfl⟩
 have t1 : (2251799813685248 - m - len).tdiv 1440 = q := by rw [Int.tdiv_eq_ediv_of_nonneg (by omega)]; exact hq
 have w3 : wrap64 q = q := by unfold wrap64; omega
 rw [hq]
 clear hq l0 l1 m0 m1
 go_enter Tryz.func76, Tryz.ntmps76
 go_wp2
 go_ret
 exact ⟨rfl, (by with_reducible repeat' (first | exact Ext.refl _ | assumption | refine Ext.drewN ?_ _ | refine Ext.drew ?_ | refine Ext.alloc ?_ _ | refine Ext.trans ?_ (by with_reducible assumption)))⟩
theorem instance_results {tmps : Array Value} {w : World} {g : Nat} {a b c : Int} (hp : tmps.getD 6 undef = .pointer (some ⟨g, 0, none⟩)) (hb : Blk w g 105 #[.int .i64 a, .int .i64 b, .int .i64 c]) :
  (results Tryz.f53 tmps).run Tryz.prog w = .ok (.agg #[.int .i64 a, .int .i64 b, .int .i64 c]) w :=
 results_cell_row Tryz.results53 tmps w g 105 _ (0, 0) _ hp hb Tryz.underlying105 rfl (by kernel_rfl)
set_option maxHeartbeats 800000 in
theorem instance_calls (a1 a2 a3 : Option Addr) (n1 c1 n2 c2 n3 c3 : Nat) (len m d : Int) (w : World) (l0 : 1 ≤ len) (l1 : len ≤ 10080) (m0 : 0 ≤ m) (m1 : m ≤ 1439) (d0 : 0 ≤ d) (d1 : d ≤ 1000) :
  Calls Tryz.prog 53 #[.agg #[.slice a1 n1 c1, .int .i64 len, .slice a2 n2 c2], .agg #[.slice a3 n3 c3, .int .i64 m], .int .i64 d] w fun e w' => e = .returned (.agg #[.int .i64 (instI len m d).1, .int .i64 (instI len m d).2.1, .int .i64 (instI len m d).2.2]) ∧ Ext w w' := by
 have w1 : wrap64 (d * 1440) = d * 1440 := by unfold wrap64; omega
 have w2 : wrap64 (d * 1440 + m) = d * 1440 + m := by unfold wrap64; omega
 have w3 : wrap64 (d * 1440 + m + len) = d * 1440 + m + len := by unfold wrap64; omega
 have R : Hid (instI len m d = (d, d * 1440 + m, d * 1440 + m + len)) := Lib.hid rfl
 rw [R.out]
 clear R l0 l1 m0 m1 d0 d1
 go_enter Tryz.func53, Tryz.ntmps53
 go_wp2
 refine bodyPost_ret (instance_results rfl (blk_new' (by simp) rfl)) rfl ?_
 exact ⟨rfl, (by with_reducible repeat' (first | exact Ext.refl _ | assumption | refine Ext.drewN ?_ _ | refine Ext.drew ?_ | refine Ext.alloc ?_ _ | refine Ext.trans ?_ (by with_reducible assumption)))⟩

/-! ### the days of a class -/
structure DaysC (u : World) (B : Nat) (a1 a2 a3 : Option Addr) (n1 c1 n2 c2 n3 c3 : Nat) (len m : Int) (W : World) : Prop where
 ext : Ext u W
 sb : Blk W B 50 #[.slice a1 n1 c1, .int .i64 len, .slice a2 n2 c2]
 cb : Blk W (B + 1) 113 #[.slice a3 n3 c3, .int .i64 m]
 wb : Blk W (B + 1 + 1) 102 #[.int .i64 0, .int .i64 20160]
theorem DaysC.toExt {u W W' : World} {B : Nat} {a1 a2 a3 : Option Addr} {n1 c1 n2 c2 n3 c3 : Nat} {len m : Int} (h : DaysC u B a1 a2 a3 n1 c1 n2 c2 n3 c3 len m W) (e : Ext W W') : DaysC u B a1 a2 a3 n1 c1 n2 c2 n3 c3 len m W' :=
 have k := Keep.of_ext (X := fun _ => False) e
 ⟨h.ext.trans e, k.blk h.sb id, k.blk h.cb id, k.blk h.wb id⟩
theorem DaysC.stands {u : World} {B : Nat} {a1 a2 a3 : Option Addr} {n1 c1 n2 c2 n3 c3 : Nat} {len m : Int} {B0 : Nat} (h0 : u.heap.size ≤ B0) (h1 : B + 1 + 1 < B0) : StandsI B0 (DaysC u B a1 a2 a3 n1 c1 n2 c2 n3 c3 len m) := fun A A' h hx =>
 ⟨ext_standsI h0 A A' h.ext hx, blk_standsI (by omega) A A' h.sb hx, blk_standsI (by omega) A A' h.cb hx, blk_standsI h1 A A' h.wb hx⟩
theorem days_calls (a1 a2 a3 : Option Addr) (n1 c1 n2 c2 n3 c3 : Nat) (len m : Int) (w : World) :
  Calls Tryz.prog 52 #[.agg #[.slice a1 n1 c1, .int .i64 len, .slice a2 n2 c2], .agg #[.slice a3 n3 c3, .int .i64 m], .agg #[.int .i64 0, .int .i64 20160]] w fun e w' =>
   e = .returned (.func (.func 73) #[] #[.pointer (some ⟨w.heap.size + 1 + 1, 0, none⟩), .pointer (some ⟨w.heap.size, 0, none⟩), .pointer (some ⟨w.heap.size + 1, 0, none⟩)]) ∧ DaysC w w.heap.size a1 a2 a3 n1 c1 n2 c2 n3 c3 len m w' := by
 go_enter Tryz.func52, Tryz.ntmps52
 go_wp2
 go_ret
 exact ⟨rfl, (by with_reducible repeat' (first | exact Ext.refl _ | assumption | refine Ext.drewN ?_ _ | refine Ext.drew ?_ | refine Ext.alloc ?_ _ | refine Ext.trans ?_ (by with_reducible assumption))), Blk.alloc (Blk.alloc (blk_new' rfl rfl) _) _, Blk.alloc (blk_new' (by rw [World.size_alloc]) rfl) _, blk_new' (by rw [World.size_alloc, World.size_alloc]) rfl⟩
set_option maxHeartbeats 3200000 in
set_option maxRecDepth 100000 in
theorem days_iter (u : World) (p : PerD) (B : Nat) (a1 a2 a3 : Option Addr) (n1 c1 n2 c2 n3 c3 : Nat) (len m : Int) (hT : Terms u (.slice a3 n3 c3) [[p]]) (hok : PerOk p) (l0 : 1 ≤ len) (l1 : len ≤ 10080) (m0 : 0 ≤ m) (m1 : m ≤ 1439) :
  IterOk 73 #[.pointer (some ⟨B + 1 + 1, 0, none⟩), .pointer (some ⟨B, 0, none⟩), .pointer (some ⟨B + 1, 0, none⟩)] (daysL p m).length (fun j => .int .i64 ((daysL p m)[j]?.getD 0)) (DaysC u B a1 a2 a3 n1 c1 n2 c2 n3 c3 len m) := by
 intro nn l W J Jx hn1 hC hJ h00 hY
 have hJ' := Lib.hid hJ
 have hY' := Lib.hid hY
 have h00' := Lib.hid h00
 have hC' := Lib.hid hC
 have hT' := Lib.hid hT
 have hok' := Lib.hid hok
 have k0 : W.cell? ⟨B + 1 + 1, 0, none⟩ = some (.int .i64 0) := hC.wb.cell 0
 have kl := hC.wb.lt
 have k1 : W.cell? ⟨B, 1, none⟩ = some (.int .i64 len) := hC.sb.cell 1
 have sl := hC.sb.lt
 have k2 : W.cell? ⟨B + 1, 1, none⟩ = some (.int .i64 m) := hC.cb.cell 1
 have cl := hC.cb.lt
 clear hY h00 hJ hC hT hok
 have ea : #[Value.func (.yield l) #[] #[]] ++ #[Value.pointer (some ⟨B + 1 + 1, 0, none⟩), .pointer (some ⟨B, 0, none⟩), .pointer (some ⟨B + 1, 0, none⟩)] = #[.func (.yield l) #[] #[], .pointer (some ⟨B + 1 + 1, 0, none⟩), .pointer (some ⟨B, 0, none⟩), .pointer (some ⟨B + 1, 0, none⟩)] := rfl
 rw [ea]
 clear ea
 have w1 : wrap64 (0 - len) = 0 - len := by unfold wrap64; omega
 have w2 : wrap64 (0 - len - m) = 0 - len - m := by unfold wrap64; omega
 refine callsIn_of_wp Tryz.func73 rfl trivial ?_ rfl
 simp only [Tryz.ntmps73, List.size_toArray, List.length_cons, List.length_nil, Nat.reduceAdd, Nat.reduceSub, Array.replicate_succ, Array.replicate_zero, List.push_toArray, List.append_toArray, List.nil_append, List.cons_append]
 gi_wp2_with fail
 obtain ⟨q, hq⟩ : ∃ q, Hid ((-len - m) / 1440 = q) := ⟨_, rfl⟩
 have hq0 : -9 ≤ q ∧ q ≤ -1 := by rw [← hq.out]; omega
 refine ⟨trivial, (callsIn_wide.2 (floor_calls (-len - m) W (by omega) (by omega))).mono ?_⟩
 rw [hq.out]
 rintro e V ⟨rfl, hx1⟩
 have hC1 := Lib.hid (hC'.out.toExt hx1)
 have hJ1 := Lib.hid (hJ'.out _ _ _ h00'.out hx1)
 have w3 : wrap64 (q + 1) = q + 1 := by unfold wrap64; omega
 have d1 : decide (0 < q + 1) = false := decide_eq_false (by omega)
 have hmx : max 0 (q + 1) = 0 := by omega
 clear hx1 k0 kl k1 sl k2 cl w1 w2 hC' h00' hq
 gi_wp2_with fail
 clear w3 d1 hmx
 gi_loopw [5, 6, 7] (fun v5 _ _ wr => ∃ (j : Nat) (n : Int), j ≤ (daysL p m).length ∧ (j : Int) ≤ n ∧ n ≤ 14 ∧ v5 = .int .i64 n ∧ Hid (daysF p m (15 - j) n = (daysL p m).drop j) ∧ Hid (J j wr) ∧ Hid (DaysC u B a1 a2 a3 n1 c1 n2 c2 n3 c3 len m wr)) (fun v5 _ _ _ => (15 - intOf v5).toNat)
 case atStart => exact ⟨0, 0, by omega, by omega, by omega, rfl, Lib.hid rfl, hJ1, hC1⟩
 case round =>
  clear hC1 hJ1
  obtain ⟨j, n, hj, hjn, hn14, rfl, hD, hJj, hC⟩ := hrel
  obtain ⟨⟨d, ok⟩, hr⟩ : ∃ r, Hid (lateD p n = r) := ⟨_, rfl⟩
  have hn0 : 0 ≤ n := by omega
  have hnx : Hid (∀ W, Ext u W → Calls Tryz.prog 75 #[.agg #[.slice a3 n3 c3], .int .i64 n] W fun e w' => e = .returned (.tuple #[.int .i64 d, .bool ok]) ∧ Ext W w') := Lib.hid fun W hW => by
   have := mixNext_calls (.slice a3 n3 c3) p n W (hT'.out.ext hW) hok'.out hn0 (by omega)
   rw [hr.out] at this
   exact this
  have hbd : Hid (ok = true → n ≤ d ∧ d ≤ 1000000002000) := Lib.hid fun e => by
   have := lateD_bd hok'.out hn0 (show n ≤ 1000000000000 by omega) (by rw [hr.out]; exact e)
   rw [hr.out] at this
   exact this
  have k0 : wr.cell? ⟨B + 1, 0, none⟩ = some (.slice a3 n3 c3) := hC.out.cb.cell 0
  have cl := hC.out.cb.lt
  gi_wp2_with fail
  refine ⟨trivial, (callsIn_wide.2 (hnx.out wr hC.out.ext)).mono ?_⟩
  rintro e W1 ⟨rfl, hx1⟩
  have hC1 := Lib.hid (hC.out.toExt hx1)
  have hJ1 := Lib.hid (hJ'.out _ _ _ hJj.out hx1)
  clear hx1 k0 cl hnx hC hJj
  cases ok with
  | false =>
   have hfin : Hid (J (daysL p m).length W1) := Lib.hid (by
    have := days_end hjn hn14 hD.out (by rw [hr.out]; intro h; cases h.1)
    rw [show (daysL p m).length = j by omega]
    exact hJ1.out)
   gi_wp2
   refine ⟨trivial, ?_⟩
   gi_wp2
   refine ⟨fun _ h => (by cases h), ?_⟩
   gi_wp2
   refine bodyPost_ret (results_none rfl _ _ _) rfl ?_
   exact ⟨⟨_, rfl⟩, .inl hfin.out⟩
  | true =>
   obtain ⟨hnd, hdb⟩ := hbd.out rfl
   have s0 : W1.cell? ⟨B, 0, none⟩ = some (.slice a1 n1 c1) := hC1.out.sb.cell 0
   have s1 : W1.cell? ⟨B, 1, none⟩ = some (.int .i64 len) := hC1.out.sb.cell 1
   have s2 : W1.cell? ⟨B, 2, none⟩ = some (.slice a2 n2 c2) := hC1.out.sb.cell 2
   have sl := hC1.out.sb.lt
   have k0 : W1.cell? ⟨B + 1, 0, none⟩ = some (.slice a3 n3 c3) := hC1.out.cb.cell 0
   have k1 : W1.cell? ⟨B + 1, 1, none⟩ = some (.int .i64 m) := hC1.out.cb.cell 1
   have cl := hC1.out.cb.lt
   obtain ⟨tb, htb⟩ : ∃ tb, Hid (decide (d ≤ (2251799813685248 - m - len) / 1440) = tb) := ⟨_, rfl⟩
   have htm := Lib.hid (timely_calls a1 a2 a3 n1 c1 n2 c2 n3 c3 len m d W1 l0 l1 m0 m1)
   rw [htb.out] at htm
   gi_wp2_with fail
   refine ⟨trivial, (callsIn_wide.2 htm.out).mono ?_⟩
   rintro e W2 ⟨rfl, hx2⟩
   have hC2 := Lib.hid (hC1.out.toExt hx2)
   have hJ2 := Lib.hid (hJ'.out _ _ _ hJ1.out hx2)
   clear hx2 s0 s1 s2 sl k0 k1 cl htm hC1 hJ1
   have k1 : W2.cell? ⟨B + 1, 1, none⟩ = some (.int .i64 m) := hC2.out.cb.cell 1
   have cl := hC2.out.cb.lt
   have t1 : W2.cell? ⟨B + 1 + 1, 1, none⟩ = some (.int .i64 20160) := hC2.out.wb.cell 1
   have tl := hC2.out.wb.lt
   have w1 : wrap64 (d * 1440) = d * 1440 := by unfold wrap64; omega
   have w2 : wrap64 (d * 1440 + m) = d * 1440 + m := by unfold wrap64; omega
   by_cases hlt : d * 1440 + m < 20160
   ·obtain rfl : tb = true := by rw [← htb.out]; exact decide_eq_true (by omega)
    have d1 : decide (20160 ≤ d * 1440 + m) = false := decide_eq_false (by omega)
    obtain ⟨hjl, hget, hnext, hd13⟩ := days_step m0 hjn hn14 hD.out hr.out hlt hnd
    have hnext' := Lib.hid hnext
    obtain ⟨fn, tmps, assign, body, hy, hR⟩ := hY'.out j W2 hjl hJ2.out hC2.out
    rw [hget, Option.getD_some] at hy
    have hR' := Lib.hid hR
    have w3 : wrap64 (d + 1) = d + 1 := by unfold wrap64; omega
    clear hR hget hnext hD hr hbd
    gi_wp2
    refine hR'.out.mono ?_
    rintro e W3 (⟨rfl, hJ3, hC3⟩ | ⟨rfl, hJx⟩)
    ·have hJ3' := Lib.hid hJ3
     have hC3' := Lib.hid hC3
     clear hJ3 hC3 hy hR' hC2 hJ2 k1 cl t1 tl
     gi_wp2
     go_roundw
     case rel => first | exact ⟨j + 1, d + 1, by omega, by omega, by omega, by go_num, hnext', hJ3', hC3'⟩ | ((repeat apply Exists.intro); exact ⟨⟨j + 1, d + 1, by omega, by omega, by omega, by go_num, hnext', hJ3', hC3'⟩, rfl⟩)
     case measure => simp [intOf]; omega
    ·gi_wp2
     refine bodyPost_ret (results_none rfl _ _ _) rfl ?_
     exact ⟨⟨_, rfl⟩, .inr hJx⟩
   ·have d1 : decide (20160 ≤ d * 1440 + m) = true := decide_eq_true (by omega)
    have hfin : Hid (J (daysL p m).length W2) := Lib.hid (by
     have := days_end hjn hn14 hD.out (by rw [hr.out]; intro h; exact hlt h.2)
     rw [show (daysL p m).length = j by omega]
     exact hJ2.out)
    clear hlt
    cases tb with
    | true =>
     gi_wp2
     refine ⟨fun _ h => (by cases h), ?_⟩
     gi_wp2
     refine bodyPost_ret (results_none rfl _ _ _) rfl ?_
     exact ⟨⟨_, rfl⟩, .inl hfin.out⟩
    | false =>
     gi_wp2
     refine ⟨fun _ h => (by cases h), ?_⟩
     gi_wp2
     refine bodyPost_ret (results_none rfl _ _ _) rfl ?_
     exact ⟨⟨_, rfl⟩, .inl hfin.out⟩
end Go.Proofs.YtepcdhpikpmepaaGreat
