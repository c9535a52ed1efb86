/- Walks of window35 and spans35. -/
import Derived.Test.YtepcdhpikpmepaaGreatTQQ
import Derived.Test.YtepcdhpikpmepaaGreatYEQ
namespace Go.Proofs.YtepcdhpikpmepaaGreat
open Go.RowKit Go.Shelf
attribute [local go_sem] Oper.semAt_some

theorem window_results {tmps : Array Value} {w : World} {g : Nat} {a b : Int} (hp : tmps.getD 0 undef = .pointer (some ⟨g, 0, none⟩)) (hb : Blk w g 102 #[.int .i64 a, .int .i64 b]) :
  (results Tryz.f33 tmps).run Tryz.prog w = .ok (.agg #[.int .i64 a, .int .i64 b]) w :=
 results_cell_row Tryz.results33 tmps w g 102 _ (0, 0) _ hp hb Tryz.underlying102 rfl (by kernel_rfl)
theorem window35_calls (w : World) : Calls Tryz.prog 33 #[] w fun e w' => e = .returned (.agg #[.int .i64 0, .int .i64 20160]) ∧ Ext w w' := by
 go_enter Tryz.func33, Tryz.ntmps33
 go_wp2
 refine bodyPost_ret (window_results rfl (blk_new' rfl rfl)) rfl ?_
 exact ⟨rfl, (by with_reducible repeat' (first | exact Ext.refl _ | assumption | refine Ext.drewN ?_ _ | refine Ext.drew ?_ | refine Ext.alloc ?_ _ | refine Ext.trans ?_ (by with_reducible assumption)))⟩
def bareS (s : StreamD) : List (Int × Int) := (listI s).map (·.2)
def spansS (s : StreamD) : List (Int × Int) := combL 1 (bareS s) [(0, 20160)]
theorem rawI_few {s : StreamD} (h : StreamOk s) (h3 : s.extra.length ≤ 3) : (rawI s).length ≤ 18 := by
 unfold rawI
 have h1 := List.length_filter_le hitI s.extra
 have h3' := h.few
 have h4 : (s.classes.flatMap (classI s.len)).length ≤ 15 := by
  cases hc : s.classes with
  | nil => simp
  | cons c r =>
   rw [hc] at h3'
   have : r = [] := by cases r with | nil => rfl | cons y z => simp at h3'
   subst this
   simp only [List.flatMap_cons, List.flatMap_nil, List.append_nil, classI, List.length_map]
   exact daysF_len _ _ 15 0
 rw [List.length_append]
 omega
theorem listI_few {s : StreamD} (h : StreamOk s) (h3 : s.extra.length ≤ 3) : (listI s).length ≤ 18 := Nat.le_trans (compI_len _) (by rw [(sortI_perm _).length_eq]; exact rawI_few h h3)
theorem bareS_ranged {s : StreamD} (h : StreamOk s) : rangedB (bareS s) = true := by
 unfold rangedB bareS
 rw [List.all_eq_true]
 intro x hx
 obtain ⟨y, hy, rfl⟩ := List.mem_map.1 hx
 have := listI_ok h hy
 unfold InstOk at this
 unfold farB
 simp
 omega
theorem spansS_len {s : StreamD} (h : StreamOk s) (h3 : s.extra.length ≤ 3) : (spansS s).length ≤ 64 := by
 have h1 : (spansS s).length ≤ (insAll (bareS s ++ [(0, 20160)])).length := by
  unfold spansS
  rw [comb_run]
  exact runTo_len _ _ _
 have h2 : (insAll (bareS s ++ [(0, 20160)])).length ≤ 2 * (bareS s ++ [(0, 20160)]).length := insAll_len _
 have h4 := listI_few h h3
 have h5 : (bareS s).length = (listI s).length := by unfold bareS; rw [List.length_map]
 rw [List.length_append, h5] at h2
 simp at h2
 omega
def SpCon (s : StreamD) (k : Nat) (v : Value) (W : World) : Prop := (k = 1 → v = .agg #[.int .i64 0, .int .i64 20160]) ∧ (k = 2 → ∃ lv, v = .tuple #[lv, .int .i64 0] ∧ Insts W lv (listI s))
set_option maxHeartbeats 3200000 in
set_option maxRecDepth 100000 in
theorem spans35_calls (v : Value) (s : StreamD) (w : World) (h : StreamV w v s) (hok : StreamOk s) (h3 : s.extra.length ≤ 3) :
  Calls Tryz.prog 16 #[v] w fun e w' => ∃ lv, e = .returned (.tuple #[lv, .bool true]) ∧ SpansR w' w.heap.size lv (spansS s) ∧ Ext w w' := by
 have hv := Lib.hid h
 have hok' := Lib.hid hok
 have hfew := listI_few hok h3
 have hR : Hid (combT 1 (bareS s) [(0, 20160)] = (spansS s, 0)) := Lib.hid (combT_ok (bareS_ranged hok) rfl)
 have hRl := spansS_len hok h3
 obtain ⟨j0, hj0, jz0, jz1, jz2⟩ := info_parts span_info
 obtain ⟨cv, ev, rfl, hc, he⟩ := h
 obtain ⟨ca, cc, rfl, _, _, _⟩ := hc.open
 obtain ⟨ea, ec, rfl, _, _, _⟩ := he.open
 obtain ⟨n1, hn1⟩ : ∃ n, Hid (s.classes.length = n) := ⟨_, rfl⟩
 obtain ⟨n2, hn2⟩ : ∃ n, Hid (s.extra.length = n) := ⟨_, rfl⟩
 obtain ⟨len, hlen⟩ : ∃ n, Hid (s.len = n) := ⟨_, rfl⟩
 rw [hn1.out, hn2.out, hlen.out] at hv ⊢
 clear hc he hok h3
 go_enter Tryz.func16, Tryz.ntmps16
 go_upto_region 1 with (fail)
 refine wp_abs (S := fun W => Hid (Ext w W) ∧ Hid (Blk W w.heap.size 50 #[.slice ca n1 cc, .int .i64 len, .slice ea n2 ec])) ?_ ?_
 ·exact ⟨Lib.hid (by exact (by with_reducible repeat' (first | exact Ext.refl _ | assumption | refine Ext.drewN ?_ _ | refine Ext.drew ?_ | refine Ext.alloc ?_ _ | refine Ext.trans ?_ (by with_reducible assumption)))), Lib.hid (blk_new' rfl rfl)⟩
 rintro w1 ⟨hE1, hB1⟩
 have z0 := After.cell (show w1.cell? ⟨w.heap.size, 0, none⟩ = some (.slice ca n1 cc) from hB1.out.cell 0)
 have z1 := After.cell (show w1.cell? ⟨w.heap.size, 1, none⟩ = some (.int .i64 len) from hB1.out.cell 1)
 have z2 := After.cell (show w1.cell? ⟨w.heap.size, 2, none⟩ = some (.slice ea n2 ec) from hB1.out.cell 2)
 (refine wp_region_held [] [0, 1, 2, 3, 4, 5, 6, 7] [] (SpCon s) (by kernel_rfl) (by kernel_rfl) ?_; simp only [pickL]; with_reducible refine wpQuiet_nil ?_)
 (refine held_quiet [0] [1, 2, 3, 4, 5, 6, 7] (by kernel_rfl) (by kernel_rfl) ?_; simp only [pickL, List.drop]; (repeat (go_big_quiet_step (fail))); with_reducible refine wpQuiet_nil ?_)
 (refine held_call 1 [2, 3, 4, 5, 6, 7] rfl (by kernel_rfl) 33 (#[]) (fun W => by kernel_rfl) rfl ?_ ?_ ?_)
 ·exact fun W W' v e hh => ⟨hh.1, fun k => let ⟨lv, a, b⟩ := hh.2 k; ⟨lv, a, b.ext e⟩⟩
 ·refine fun W hW _ => (window35_calls W).mono ?_
  rintro e W' ⟨rfl, hx⟩
  exact ⟨_, rfl, hx, fun _ => rfl, fun k => absurd k (by decide)⟩
 rintro v ⟨Y, hY, hC⟩
 obtain rfl := hC.1 rfl
 clear hC hY Y
 simp only [Act.put, List.setIfInBounds_toArray, List.set_cons_succ, List.set_cons_zero]
 (refine held_call 2 [3, 4, 5, 6, 7] rfl (by kernel_rfl) 32 (#[.agg #[.slice ca n1 cc, .int .i64 len, .slice ea n2 ec], .agg #[.int .i64 0, .int .i64 20160]]) (fun W => by kernel_rfl) rfl ?_ ?_ ?_)
 ·exact fun W W' v e hh => ⟨hh.1, fun k => let ⟨lv, a, b⟩ := hh.2 k; ⟨lv, a, b.ext e⟩⟩
 ·refine fun W hW _ => (list_calls _ s W (hv.out.ext (hE1.out.trans hW)) hok'.out).mono ?_
  rintro e W' ⟨lv, rfl, hl, hx⟩
  exact ⟨_, rfl, hx, fun k => absurd k (by decide), fun _ => ⟨_, rfl, hl⟩⟩
 rintro v ⟨Y, hY, hC⟩
 obtain ⟨lv, rfl, hL⟩ := hC.2 rfl
 obtain ⟨L, hLd⟩ : ∃ L, Hid (listI s = L) := ⟨_, rfl⟩
 rw [hLd.out] at hL hfew
 obtain ⟨la, lc, rfl⟩ := hL.form
 clear hC hY hL Y
 simp only [Act.put, List.setIfInBounds_toArray, List.set_cons_succ, List.set_cons_zero]
 (refine held_quiet [3, 4, 5, 6, 7] [] (by kernel_rfl) (by kernel_rfl) ?_; simp only [pickL, List.drop]; (repeat (go_big_quiet_step (fail))); with_reducible refine wpQuiet_nil ?_)
 intro W hW hf ht Q0 hQ0
 obtain ⟨_, e1, hL⟩ := ((hf 2).2 rfl).2 rfl
 cases e1
 rw [hLd.out] at hL
 obtain ⟨_, _, e1, _, lcap, lat⟩ := hL.open
 cases e1
 have lat' := Lib.hid lat
 have hE2 := Lib.hid (hE1.out.trans hW)
 have hll : L.length ≤ 9223372036854775807 := by omega
 simp only [pickL]
 clear hf ht hW hL lat z0 z1 z2 hB1 hE1
 go_upto_region 3 with (fail)
 refine wp_abs (S := fun U => Hid (Ext W U) ∧ Hid (U.ownsRow W.heap.size 102 2 (.slice (some ⟨W.heap.size, 0, none⟩) 0 0) 0 (spanCells []))) ?_ ?_
 ·exact ⟨Lib.hid (by exact (by with_reducible repeat' (first | exact Ext.refl _ | assumption | refine Ext.drewN ?_ _ | refine Ext.drew ?_ | refine Ext.alloc ?_ _ | refine Ext.trans ?_ (by with_reducible assumption)))), Lib.hid (World.ownsRow_made (e := 102) (size := 2) W #[] 0 (Nat.le_refl _) (by unfold maxLen; omega) rfl)⟩
 rintro W2 ⟨hx2, hO2⟩
 go_wp2_with fail
 go_loopw [6, 7] (fun v6 v7 wr => ∃ (i C : Nat) (A : Option Addr), i ≤ L.length ∧ v7 = .int .i64 i ∧ v6 = .slice A i C ∧ Hid (Ext W wr) ∧ Hid (wr.ownsRow W.heap.size 102 2 (.slice A i C) i (spanCells ((L.take i).map (·.2))))) (fun _ v7 _ => L.length - (intOf v7).toNat)
 case atStart => exact ⟨0, 0, _, by omega, rfl, rfl, hx2, hO2⟩
 case round =>
  obtain ⟨i, oC, oA, hi, rfl, rfl, hx, hO⟩ := hrel
  clear hx2 hO2
  by_cases h1 : i < L.length
  ·obtain ⟨b, o, d, f, t, rfl, hb, _, ex, g0, g1, g2⟩ := lat'.out i h1 wr hx.out
   have hsz := hx.out.size
   have hnx : Hid ((L.take (i + 1)).map (·.2) = (L.take i).map (·.2) ++ [(f, t)]) := Lib.hid (by rw [List.take_add_one, ex.out, List.map_append]; rfl)
   clear ex
   go_wp2_with (at_builtin; refine wpList_append_any _ rfl (.tmp 23) (.tmp 29) _ rfl W.heap.size 102 j0 _ 2 16 Tryz.underlying60 hj0 jz0 jz1 jz2 rfl (by decide) (.slice oA i oC) i _ rfl (hO.out.alloc _) (wr.heap.size + 1) (some ⟨wr.heap.size, 0, none⟩) 1 1 [.int .i64 f, .int .i64 t] rfl (reads_last _ #[_, _] _ 2 1 _ _ rfl (by omega) rfl) (by simp [Value.oneCell']) (by unfold maxLen; omega) (by omega) (by rw [World.size_alloc]; omega) ?_; intro v5 w5 hown5 hg5 hat5; obtain ⟨A5, C5, rfl⟩ := owns_form hown5)
   have hO5 : Hid (w5.ownsRow W.heap.size 102 2 (.slice A5 (i + 1) C5) (i + 1) (spanCells ((L.take (i + 1)).map (·.2)))) := Lib.hid (by rw [hnx.out, spanCells_app]; exact hown5)
   have hx5 := Lib.hid ((hx.out.alloc (.cells #[.int .i64 f, .int .i64 t] 102)).grown hg5 (fun k e => (hO.out.lt k e).1))
   clear hown5 hg5 hat5 hO hx hnx
   go_wp2
   go_roundw
   case rel => exact ⟨i + 1, C5, A5, by omega, by go_num, rfl, hx5, hO5⟩
   case measure => simp [intOf]; omega
  ·obtain rfl : i = L.length := by omega
   have hS : Hid (Spans wr (.slice oA L.length oC) (bareS s)) := Lib.hid (by
    have h2 : SpansO wr W.heap.size (.slice oA L.length oC) ((L.take L.length).map (·.2)) := by
     unfold SpansO
     rw [List.length_map, List.take_length]
     have := hO.out
     rwa [List.take_length] at this
    rw [List.take_length] at h2
    unfold bareS
    rw [hLd.out]
    exact h2.read)
   have hbl : (bareS s).length ≤ 100000 := by unfold bareS; rw [hLd.out, List.length_map]; omega
   clear hO
   go_wp2_with fail
   refine (window35_calls _).mono ?_
   rintro e W3 ⟨rfl, hx3⟩
   have hx3' := Lib.hid hx3
   clear hx3
   go_wp2_with fail
   have hq := Lib.hid (hx3'.out.trans ((Ext.refl W3).alloc (.cells #[.int .i64 0, .int .i64 20160] 102)))
   refine (spanMeet_calls _ _ (bareS s) [(0, 20160)] _ (hS.out.ext hq.out) (SpansF.read (B := 0) ⟨W3.heap.size, 1, _, rfl, Nat.le_refl _, by unfold maxLen; omega, Nat.zero_le _, blk_new' rfl rfl, fun i hi => ?_⟩) hbl (by decide)).mono ?_
   ·match i, hi with
    | 0, _ => rfl
    | 1, _ => rfl
   rintro e W4 ⟨mv, rfl, hm, hx4⟩
   rw [hR.out] at hm ⊢
   dsimp only at hm ⊢
   obtain ⟨R, hRd⟩ : ∃ R, Hid (spansS s = R) := ⟨_, rfl⟩
   rw [hRd.out] at hm hRl
   obtain ⟨ma, mc, rfl⟩ := hm.read.form
   have hfin := Lib.hid (hE2.out.trans (hx.out.trans (hq.out.trans hx4)))
   have hm' := Lib.hid (hm.base (show w.heap.size ≤ _ from (hE2.out.trans (hx.out.trans hq.out)).size))
   have d1 : decide ((R.length : Int) ≤ 64) = true := decide_eq_true (by omega)
   clear hm hx4 hq hx3' hx hS
   go_wp2
   go_ret2
   exact ⟨_, rfl, by rw [hRd.out]; exact hm'.out, hfin.out⟩
end Go.Proofs.YtepcdhpikpmepaaGreat
