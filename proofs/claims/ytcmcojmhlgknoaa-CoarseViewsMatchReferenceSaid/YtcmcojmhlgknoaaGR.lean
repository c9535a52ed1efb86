/- The law CoarseFits, walked: true for every two lists of numbers and every question. -/
import Derived.Test.YtcmcojmhlgknoaaGQ
namespace Go.Proofs.Ytcmcojmhlgknoaa
open Go.RowKit

theorem busy_prop {l : List MarkD} (h : l.all markB = true) : (busyL l).all propB = true := by
  refine List.all_eq_true.2 fun s hs => ?_
  obtain ⟨m, hm, rfl⟩ := List.mem_map.1 hs
  obtain ⟨_, _, h1, h2⟩ := mark_iff.1 (List.all_eq_true.1 h m hm)
  rw [window_iff] at h1
  rw [prop_iff]
  dsimp only
  omega
theorem fits_ok {l : List MarkD} {g : Int} {q : List (Int × Int)} (hl : l.all markB = true) (hq : q.all propB = true) (hg : 2 ≤ g ∧ g ≤ 4) (hn : q.length ≤ 50000) : fitsG l g q = (!hitsB l q, 0) := by
  unfold fitsG
  rw [hl, hq, show grainB g = true by unfold grainB; rw [decide_eq_true (show 0 ≤ g by omega), decide_eq_true (show g ≤ 4 by omega)]; rfl, Bool.and_true, Bool.and_true, if_pos rfl, if_neg (by omega), if_neg (by omega)]
/-- a window is free if all its numbers are 0 -/
theorem view_free {g f : Int} {l : List MarkD} {n : Nat} (hn : 1 ≤ n) (hl : l.all markB = true) : (viewN g l f n).all (fun x => decide (x = 0)) = !hitsB l [(f, f + n * sizeG g)] := by
  have hs := (size_pos g).1
  rw [Bool.eq_iff_iff, List.all_eq_true, Bool.not_eq_true', Bool.eq_false_iff]
  constructor
  · intro h hh
    obtain ⟨m, hm, ht⟩ := List.any_eq_true.1 hh
    simp only [List.any_cons, List.any_nil, Bool.or_false] at ht
    have hmf : m.f < m.t := by
      obtain ⟨_, _, h1, h2⟩ := mark_iff.1 (List.all_eq_true.1 hl m hm)
      rw [window_iff] at h1
      omega
    rw [touch_split hs hmf hn] at ht
    obtain ⟨q, hq, ht⟩ := List.any_eq_true.1 ht
    have := h _ (List.mem_map_of_mem hq)
    rw [decide_eq_true_iff] at this
    have h0 := num_zero.1 this
    rw [Bool.eq_false_iff] at h0
    exact h0 (List.any_eq_true.2 ⟨m, hm, ht⟩)
  · intro h x hx
    obtain ⟨q, hq, rfl⟩ := List.mem_map.1 hx
    rw [decide_eq_true_iff]
    refine num_zero.2 (Bool.eq_false_iff.2 fun h2 => h ?_)
    obtain ⟨m, hm, ht⟩ := List.any_eq_true.1 h2
    refine List.any_eq_true.2 ⟨m, hm, ?_⟩
    simp only [List.any_cons, List.any_nil, Bool.or_false]
    have hmf : m.f < m.t := by
      obtain ⟨_, _, h1, h2⟩ := mark_iff.1 (List.all_eq_true.1 hl m hm)
      rw [window_iff] at h1
      omega
    rw [touch_split hs hmf hn]
    exact List.any_eq_true.2 ⟨q, hq, ht⟩
def WinCon (g f t : Int) (k : Nat) (v : Value) (_ : World) : Prop := (k = 2 → v = .int .i64 g) ∧ (k = 5 → v = .agg #[.int .i64 f, .int .i64 t])
def ViewCon (g : Int) (l : List Nat) (k : Nat) (v : Value) (W : World) : Prop := (k = 3 → v = .int .i64 g) ∧ (k = 5 → ∃ u, v = .tuple #[u, .int .i64 0] ∧ Nums W u l)
set_option maxHeartbeats 12800000 in
set_option maxRecDepth 100000 in
theorem coarseFits_calls (va : Value) (l : List T16) (vb : Value) (l2 : List T16) (vx : Value) (x : AskD) (w : World) (hl : Tri16 w va l) (hl2 : Tri16 w vb l2) (hx : AskV w vx x) :
    Calls Try.prog 4 #[va, vb, vx] w fun e w' => e = .returned (.bool true) ∧ Ext w w' := by
  obtain ⟨gr, tr, a, b⟩ := x
  obtain ⟨rfl, ha, hb⟩ := hx
  dsimp only at ha hb ⊢
  have hL := Lib.hid hl
  have hL2 := Lib.hid hl2
  obtain ⟨lA, lC, rfl⟩ := hl.form
  obtain ⟨kA, kC, rfl⟩ := hl2.form
  clear hl hl2
  obtain ⟨g, hg⟩ : ∃ g, Hid (grainL gr = g) := ⟨_, rfl⟩
  have hg4 : 1 ≤ g ∧ g ≤ 4 := hg.out ▸ grain_in gr
  obtain ⟨f, hf⟩ : ∃ f, Hid (winF g a = f) := ⟨_, rfl⟩
  obtain ⟨t, ht⟩ : ∃ t, Hid (winT g a b = t) := ⟨_, rfl⟩
  obtain ⟨n, hn⟩ : ∃ n : Nat, b % 41 = (n : Int) := ⟨(b % 41).toNat, by omega⟩
  have hn40 : n ≤ 40 := by omega
  have hc := cells_win hg4 a b
  have hbd := win_bd g a b
  rw [hf.out, ht.out, hn] at hc
  rw [hf.out, ht.out, hn] at hbd
  obtain ⟨m1, hm1⟩ : ∃ m, Hid (madeL l = m) := ⟨_, rfl⟩
  obtain ⟨m2, hm2⟩ : ∃ m, Hid (madeL l2 = m) := ⟨_, rfl⟩
  have hval : m1.all markB = true := hm1.out ▸ made_all l
  have hval2 : m2.all markB = true := hm2.out ▸ made_all l2
  have hlen1 : m1.length ≤ 6 := hm1.out ▸ made_len l
  have hlen2 : m2.length ≤ 6 := hm2.out ▸ made_len l2
  have hr1 := Lib.hid (busy_ranged hval)
  have hr2 := Lib.hid (busy_ranged hval2)
  have hfit := Lib.hid (fits_ok hval (busy_prop hval2) (g := 4) (by omega) (by rw [busy_len]; omega))
  rw [← meet_hits hval (busy_prop hval2)] at hfit
  have hview := Lib.hid (view_ok hval hc)
  obtain ⟨v, hv⟩ : ∃ v, Hid (viewN g m1 f n = v) := ⟨_, rfl⟩
  rw [hv.out] at hview
  have hvl : Hid (v.length = n) := by show _ = _; rw [← hv.out, viewN_len]
  have hwhole : Hid (f ≠ t → 1 ≤ n ∧ fitsG m1 2 [(f, t)] = (v.all (fun x => decide (x = 0)), 0)) := fun hne => by
    have hs := (size_pos g).1
    have hn1 : 1 ≤ n := by
      by_cases h0 : n = 0
      · exfalso
        subst h0
        have := hbd.2.2.1
        simp at this
        omega
      · omega
    refine ⟨hn1, ?_⟩
    have hp : [(f, t)].all propB = true := by
      simp only [List.all_cons, List.all_nil, Bool.and_true]
      rw [prop_iff]
      dsimp only
      omega
    rw [fits_ok hval hp (by omega) (by simp), ← hv.out, view_free hn1 hval]
    have : t = f + n * sizeG g := by rw [hbd.2.2.1, Int.mul_comm]
    rw [← this]
  obtain ⟨j0, hj0, jz0, jz1, jz2⟩ := info_parts span_info
  clear hc hbd hn hval hval2 hv
  go_enter Try.func4, Try.ntmps4
  go_wp2_with fail
  refine (sanity_calls _).mono ?_
  rintro e w1 ⟨rfl, hq⟩
  have hA1 : Hid (Blk w1 w.heap.size 25 #[.int .i64 gr, .int .i64 tr, .int .u8 a, .int .u8 b]) := Lib.hid ((Keep.of_ext (X := fun _ => False) hq).blk (blk_new' rfl rfl) id)
  have hE := Lib.hid (((Ext.refl w).alloc (.cells #[.int .i64 gr, .int .i64 tr, .int .u8 a, .int .u8 b] 25)).trans hq)
  clear hq
  go_wp2_with fail
  refine (rMade_calls _ l _ (hL.out.ext hE.out)).mono ?_
  rintro e w2 ⟨vm, rfl, hm, hq⟩
  rw [hm1.out] at hm
  obtain ⟨mA, mC, rfl⟩ := hm.read.form
  (try replace hA1 := Lib.hid ((Keep.of_ext (X := fun _ => False) hq).blk hA1.out id))
  (try replace hWB := Lib.hid ((Keep.of_ext (X := fun _ => False) hq).blk hWB.out id))
  (try replace hM := Lib.hid (hM.out.ext hq))
  (try replace hM2 := Lib.hid (hM2.out.ext hq))
  (try replace hBu := Lib.hid (hBu.out.ext hq))
  (try replace hPr := Lib.hid (hPr.out.ext hq))
  (try replace hNb := Lib.hid (hNb.out.ext hq))
  (try replace hNp := Lib.hid (hNp.out.ext hq))
  (try replace hV := Lib.hid (hV.out.ext hq))
  replace hE := Lib.hid (hE.out.trans hq)
  clear hq
  have hM := Lib.hid hm.read
  clear hm hL hm1
  go_wp2_with fail
  refine (rMade_calls _ l2 _ (hL2.out.ext hE.out)).mono ?_
  rintro e w3 ⟨vm, rfl, hm, hq⟩
  rw [hm2.out] at hm
  obtain ⟨nA, nC, rfl⟩ := hm.read.form
  (try replace hA1 := Lib.hid ((Keep.of_ext (X := fun _ => False) hq).blk hA1.out id))
  (try replace hWB := Lib.hid ((Keep.of_ext (X := fun _ => False) hq).blk hWB.out id))
  (try replace hM := Lib.hid (hM.out.ext hq))
  (try replace hM2 := Lib.hid (hM2.out.ext hq))
  (try replace hBu := Lib.hid (hBu.out.ext hq))
  (try replace hPr := Lib.hid (hPr.out.ext hq))
  (try replace hNb := Lib.hid (hNb.out.ext hq))
  (try replace hNp := Lib.hid (hNp.out.ext hq))
  (try replace hV := Lib.hid (hV.out.ext hq))
  replace hE := Lib.hid (hE.out.trans hq)
  clear hq
  have hM2 := Lib.hid hm.read
  clear hm hL2 hm2
  have hat1 : Hid (MarksAt mA w3 m1) := by
    obtain ⟨_, _, e, _, _, h⟩ := hM.out.open
    cases e
    exact Lib.hid h
  have hat2 : Hid (MarksAt nA w3 m2) := by
    obtain ⟨_, _, e, _, _, h⟩ := hM2.out.open
    cases e
    exact Lib.hid h
  go_wp2_with fail
  go_loopw [10, 11] (fun vS vi wr => ∃ (i : Nat) (A : Option Addr) (C : Nat), i ≤ m1.length ∧ vS = .slice A i C ∧ vi = .int .i64 i ∧ Hid (Ext w3 wr) ∧ Hid (wr.ownsRow w3.heap.size 28 2 (.slice A i C) i (spanCells (busyL (m1.take i))))) (fun _ vi _ => m1.length - (intOf vi).toNat)
  case atStart => exact ⟨0, _, _, by omega, rfl, rfl, Lib.hid (by exact (by repeat' (first | (with_reducible exact Ext.refl _) | (with_reducible assumption) | (with_reducible refine Ext.drewN ?_ _) | (with_reducible refine Ext.drew ?_) | (with_reducible refine Ext.alloc ?_ _) | (with_reducible refine Ext.trans ?_ (by with_reducible assumption))))), Lib.hid (World.ownsRow_made w3 #[] 0 (Nat.le_refl _) (by unfold maxLen; omega) rfl)⟩
  case round =>
    obtain ⟨i, A, C, hi, rfl, rfl, hx, hO⟩ := hrel
    by_cases h1 : i < m1.length
    · obtain ⟨bm, om, mf, mt, mk, rfl, hb, _, hget, g0, g1, g2⟩ := hat1.out i h1 wr hx.out
      have hsz := hx.out.size
      go_wp2_with (at_builtin; refine wpList_append_any _ rfl (.tmp 41) (.tmp 47) _ rfl w3.heap.size 28 j0 _ 2 16 Try.underlying45 hj0 jz0 jz1 jz2 rfl (by decide) (.slice A i C) i (spanCells (busyL (m1.take i))) rfl (hO.out.alloc _) (wr.heap.size + 1) (some ⟨wr.heap.size, 0, none⟩) 1 1 [.int .i64 mf, .int .i64 mt] rfl (reads_last _ #[_, _] _ 2 1 _ _ rfl (by omega) rfl) (two_ints _ _) (by unfold maxLen; omega) (by omega) (by rw [World.size_alloc]; omega) ?_; intro v5 w5 hown5 hg5 hat5; obtain ⟨A5, C5, rfl⟩ := owns_form hown5)
      have hO5 : Hid (w5.ownsRow w3.heap.size 28 2 (.slice A5 (i + 1) C5) (i + 1) (spanCells (busyL (m1.take (i + 1))))) := Lib.hid (by rw [busy_take hget.out, spanCells_app]; exact hown5)
      have hx5 := Lib.hid ((hx.out.alloc (.cells #[.int .i64 mf, .int .i64 mt] 28)).grown hg5 (fun k e => (hO.out.lt k e).1))
      clear hown5 hg5 hat5 hO hx
      go_wp2
      go_roundw
      case rel => first | exact ⟨i + 1, A5, C5, h1, rfl, by go_num, hx5, hO5⟩ | ((repeat apply Exists.intro); exact ⟨⟨i + 1, A5, C5, h1, rfl, by go_num, hx5, hO5⟩, rfl⟩)
      case measure => simp [intOf]; omega
    · obtain rfl : i = m1.length := by omega
      have hBu : Hid (Spans wr (.slice A m1.length C) (busyL m1)) := by
        have h9 : SpansO wr w3.heap.size (.slice A m1.length C) (busyL m1) := by
          have := hO.out
          rw [List.take_length] at this
          unfold SpansO
          rw [busy_len]
          exact this
        exact Lib.hid h9.read
      have hq := hx.out
      clear hO hx hat1 h1 hi
      replace hA1 := Lib.hid ((Keep.of_ext (X := fun _ => False) hq).blk hA1.out id)
      replace hM := Lib.hid (hM.out.ext hq)
      replace hM2 := Lib.hid (hM2.out.ext hq)
      replace hE := Lib.hid (hE.out.trans hq)
      clear hq hat2
      have hat2 : Hid (MarksAt nA wr m2) := by
        obtain ⟨_, _, e, _, _, h⟩ := hM2.out.open
        cases e
        exact Lib.hid h
      rename World => wB
      generalize A = A1 at *
      generalize C = C1 at *
      go_wp2_with fail
      go_loopw [12, 13] (fun vS vi wr => ∃ (i : Nat) (A : Option Addr) (C : Nat), i ≤ m2.length ∧ vS = .slice A i C ∧ vi = .int .i64 i ∧ Hid (Ext wB wr) ∧ Hid (wr.ownsRow wB.heap.size 28 2 (.slice A i C) i (spanCells (busyL (m2.take i))))) (fun _ vi _ => m2.length - (intOf vi).toNat)
      case atStart => exact ⟨0, _, _, by omega, rfl, rfl, Lib.hid (by exact (by repeat' (first | (with_reducible exact Ext.refl _) | (with_reducible assumption) | (with_reducible refine Ext.drewN ?_ _) | (with_reducible refine Ext.drew ?_) | (with_reducible refine Ext.alloc ?_ _) | (with_reducible refine Ext.trans ?_ (by with_reducible assumption))))), Lib.hid (World.ownsRow_made wB #[] 0 (Nat.le_refl _) (by unfold maxLen; omega) rfl)⟩
      case round =>
        obtain ⟨i, A, C, hi, rfl, rfl, hx, hO⟩ := hrel
        by_cases h1 : i < m2.length
        · obtain ⟨bm, om, mf, mt, mk, rfl, hb, _, hget, g0, g1, g2⟩ := hat2.out i h1 wr hx.out
          have hsz := hx.out.size
          go_wp2_with (at_builtin; refine wpList_append_any _ rfl (.tmp 56) (.tmp 62) _ rfl wB.heap.size 28 j0 _ 2 16 Try.underlying45 hj0 jz0 jz1 jz2 rfl (by decide) (.slice A i C) i (spanCells (busyL (m2.take i))) rfl (hO.out.alloc _) (wr.heap.size + 1) (some ⟨wr.heap.size, 0, none⟩) 1 1 [.int .i64 mf, .int .i64 mt] rfl (reads_last _ #[_, _] _ 2 1 _ _ rfl (by omega) rfl) (two_ints _ _) (by unfold maxLen; omega) (by omega) (by rw [World.size_alloc]; omega) ?_; intro v5 w5 hown5 hg5 hat5; obtain ⟨A5, C5, rfl⟩ := owns_form hown5)
          have hO5 : Hid (w5.ownsRow wB.heap.size 28 2 (.slice A5 (i + 1) C5) (i + 1) (spanCells (busyL (m2.take (i + 1))))) := Lib.hid (by rw [busy_take hget.out, spanCells_app]; exact hown5)
          have hx5 := Lib.hid ((hx.out.alloc (.cells #[.int .i64 mf, .int .i64 mt] 28)).grown hg5 (fun k e => (hO.out.lt k e).1))
          clear hown5 hg5 hat5 hO hx
          go_wp2
          go_roundw
          case rel => first | exact ⟨i + 1, A5, C5, h1, rfl, by go_num, hx5, hO5⟩ | ((repeat apply Exists.intro); exact ⟨⟨i + 1, A5, C5, h1, rfl, by go_num, hx5, hO5⟩, rfl⟩)
          case measure => simp [intOf]; omega
        · obtain rfl : i = m2.length := by omega
          have hPr : Hid (Spans wr (.slice A m2.length C) (busyL m2)) := by
            have h9 : SpansO wr wB.heap.size (.slice A m2.length C) (busyL m2) := by
              have := hO.out
              rw [List.take_length] at this
              unfold SpansO
              rw [busy_len]
              exact this
            exact Lib.hid h9.read
          have hq := hx.out
          clear hO hx hat2 h1 hi
          replace hBu := Lib.hid (hBu.out.ext hq)
          replace hA1 := Lib.hid ((Keep.of_ext (X := fun _ => False) hq).blk hA1.out id)
          replace hM := Lib.hid (hM.out.ext hq)
          replace hE := Lib.hid (hE.out.trans hq)
          clear hq hM2
          rename World => wC
          generalize A = A2 at *
          generalize C = C2 at *
          have hn1 := Lib.hid (spanNorm_calls _ (busyL m1) wC hBu.out (by rw [busy_len]; omega))
          rw [show CombOut 0 (busyL m1) [] wC = fun e w' => ∃ v, e = .returned (.tuple #[v, .int .i64 0]) ∧ SpansR w' wC.heap.size v (combL 0 (busyL m1) []) ∧ Ext wC w' by
            unfold CombOut; rw [combT_ok hr1.out rfl]] at hn1
          go_wp2_with fail
          refine hn1.out.mono ?_
          rintro e w4 ⟨vb, rfl, hvb, hq⟩
          obtain ⟨bA, bC, rfl⟩ := hvb.read.form
          clear hn1 hBu
          (try replace hA1 := Lib.hid ((Keep.of_ext (X := fun _ => False) hq).blk hA1.out id))
          (try replace hWB := Lib.hid ((Keep.of_ext (X := fun _ => False) hq).blk hWB.out id))
          (try replace hM := Lib.hid (hM.out.ext hq))
          (try replace hM2 := Lib.hid (hM2.out.ext hq))
          (try replace hBu := Lib.hid (hBu.out.ext hq))
          (try replace hPr := Lib.hid (hPr.out.ext hq))
          (try replace hNb := Lib.hid (hNb.out.ext hq))
          (try replace hNp := Lib.hid (hNp.out.ext hq))
          (try replace hV := Lib.hid (hV.out.ext hq))
          replace hE := Lib.hid (hE.out.trans hq)
          clear hq
          have hNb := Lib.hid hvb.read
          clear hvb
          have hn2 := Lib.hid (spanNorm_calls _ (busyL m2) w4 hPr.out (by rw [busy_len]; omega))
          rw [show CombOut 0 (busyL m2) [] w4 = fun e w' => ∃ v, e = .returned (.tuple #[v, .int .i64 0]) ∧ SpansR w' w4.heap.size v (combL 0 (busyL m2) []) ∧ Ext w4 w' by
            unfold CombOut; rw [combT_ok hr2.out rfl]] at hn2
          go_wp2_with fail
          refine hn2.out.mono ?_
          rintro e w5 ⟨vb, rfl, hvb, hq⟩
          obtain ⟨cA, cC, rfl⟩ := hvb.read.form
          clear hn2
          (try replace hA1 := Lib.hid ((Keep.of_ext (X := fun _ => False) hq).blk hA1.out id))
          (try replace hWB := Lib.hid ((Keep.of_ext (X := fun _ => False) hq).blk hWB.out id))
          (try replace hM := Lib.hid (hM.out.ext hq))
          (try replace hM2 := Lib.hid (hM2.out.ext hq))
          (try replace hBu := Lib.hid (hBu.out.ext hq))
          (try replace hPr := Lib.hid (hPr.out.ext hq))
          (try replace hNb := Lib.hid (hNb.out.ext hq))
          (try replace hNp := Lib.hid (hNp.out.ext hq))
          (try replace hV := Lib.hid (hV.out.ext hq))
          replace hE := Lib.hid (hE.out.trans hq)
          clear hq
          have hNp := Lib.hid hvb.read
          clear hvb
          have hn3 := Lib.hid (spanMeet_calls _ _ (combL 0 (busyL m1) []) (combL 0 (busyL m2) []) w5 hNb.out hNp.out (comb_few (busyL m1) (by rw [busy_len]; omega)) (comb_few (busyL m2) (by rw [busy_len]; omega)))
          rw [show CombOut 1 (combL 0 (busyL m1) []) (combL 0 (busyL m2) []) w5 = fun e w' => ∃ v, e = .returned (.tuple #[v, .int .i64 0]) ∧ SpansR w' w5.heap.size v (combL 1 (combL 0 (busyL m1) []) (combL 0 (busyL m2) [])) ∧ Ext w5 w' by
            unfold CombOut; rw [combT_ok (comb_ranged hr1.out rfl) (comb_ranged hr2.out rfl)]] at hn3
          obtain ⟨X, hX⟩ : ∃ X, Hid (combL 1 (combL 0 (busyL m1) []) (combL 0 (busyL m2) []) = X) := ⟨_, rfl⟩
          rw [hX.out] at hn3 hfit
          go_wp2_with fail
          refine hn3.out.mono ?_
          rintro e w6 ⟨vm, rfl, hvm, hq⟩
          obtain ⟨dA, dC, rfl⟩ := hvm.read.form
          clear hvm hn3 hNb hNp hX hr1 hr2
          (try replace hA1 := Lib.hid ((Keep.of_ext (X := fun _ => False) hq).blk hA1.out id))
          (try replace hWB := Lib.hid ((Keep.of_ext (X := fun _ => False) hq).blk hWB.out id))
          (try replace hM := Lib.hid (hM.out.ext hq))
          (try replace hM2 := Lib.hid (hM2.out.ext hq))
          (try replace hBu := Lib.hid (hBu.out.ext hq))
          (try replace hPr := Lib.hid (hPr.out.ext hq))
          (try replace hNb := Lib.hid (hNb.out.ext hq))
          (try replace hNp := Lib.hid (hNp.out.ext hq))
          (try replace hV := Lib.hid (hV.out.ext hq))
          replace hE := Lib.hid (hE.out.trans hq)
          clear hq
          obtain ⟨k, hk⟩ : ∃ k, Hid (X.length = k) := ⟨_, rfl⟩
          have R2 : Hid (fitsG m1 4 (busyL m2) = (decide (k = 0), 0)) := by
            show _ = _
            rw [hfit.out, ← hk.out]
            congr 1
            rw [decide_eq_decide, List.length_eq_zero_iff]
          rw [hk.out]
          clear hfit hk
          go_wp2_with fail
          refine (fits_calls _ _ m1 4 (busyL m2) _ hM.out hPr.out (by omega) (by rw [busy_len]; omega)).mono ?_
          rw [R2.out]
          rintro e w7 ⟨rfl, hq⟩
          clear hPr R2
          (try replace hA1 := Lib.hid ((Keep.of_ext (X := fun _ => False) hq).blk hA1.out id))
          (try replace hWB := Lib.hid ((Keep.of_ext (X := fun _ => False) hq).blk hWB.out id))
          (try replace hM := Lib.hid (hM.out.ext hq))
          (try replace hM2 := Lib.hid (hM2.out.ext hq))
          (try replace hBu := Lib.hid (hBu.out.ext hq))
          (try replace hPr := Lib.hid (hPr.out.ext hq))
          (try replace hNb := Lib.hid (hNb.out.ext hq))
          (try replace hNp := Lib.hid (hNp.out.ext hq))
          (try replace hV := Lib.hid (hV.out.ext hq))
          replace hE := Lib.hid (hE.out.trans hq)
          clear hq
          have hcmp : ((k : Int) == 0) = decide (k = 0) := by
            rw [Bool.eq_iff_iff, beq_iff_eq, decide_eq_true_iff]
            omega
          go_upto_region 20 with (fail)
          clear hcmp
          obtain ⟨qk, hqk⟩ : ∃ qk, Hid (decide (k = 0) = qk) := ⟨_, rfl⟩
          rw [hqk.out]
          clear hqk
          have z0 := After.cell (show w7.cell? ⟨w.heap.size, 0, none⟩ = some (.int .i64 gr) from hA1.out.cell 0)
          have z2 := After.cell (show w7.cell? ⟨w.heap.size, 2, none⟩ = some (.int .u8 a) from hA1.out.cell 2)
          have z3 := After.cell (show w7.cell? ⟨w.heap.size, 3, none⟩ = some (.int .u8 b) from hA1.out.cell 3)
          (refine wp_region_held [] [0, 1, 2, 3, 4, 5, 6] [7] (WinCon g f t) (by kernel_rfl) (by kernel_rfl) ?_; simp only [pickL]; with_reducible refine wpQuiet_nil ?_)
          (refine held_quiet [0, 1] [2, 3, 4, 5, 6] (by kernel_rfl) (by kernel_rfl) ?_; simp only [pickL, List.drop]; (repeat (go_big_quiet_step (fail))); with_reducible refine wpQuiet_nil ?_)
          (refine held_call 2 [3, 4, 5, 6] rfl (by kernel_rfl) 13 (#[.int .i64 gr]) (fun W => by kernel_rfl) rfl ?_ ?_ ?_)
          · exact fun W W' v e hh => hh
          · refine fun W hW _ => (grain_calls gr W).mono ?_
            rw [hg.out]
            rintro e W' ⟨rfl, hxx⟩
            exact ⟨_, rfl, hxx, fun _ => rfl, fun h => by cases h⟩
          rintro vg ⟨Y, hY, hCv⟩
          obtain rfl := hCv.1 rfl
          clear hCv hY Y
          simp only [Act.put, List.setIfInBounds_toArray, List.set_cons_succ, List.set_cons_zero]
          (refine held_quiet [3, 4] [5, 6] (by kernel_rfl) (by kernel_rfl) ?_; simp only [pickL, List.drop]; (repeat (go_big_quiet_step (fail))); with_reducible refine wpQuiet_nil ?_)
          (refine held_call 5 [6] rfl (by kernel_rfl) 12 (#[.int .i64 g, .agg #[.int .u8 a, .int .u8 b]]) (fun W => by kernel_rfl) rfl ?_ ?_ ?_)
          · exact fun W W' v e hh => hh
          · refine fun W hW _ => (rWindow_calls g a b ha hb W).mono ?_
            rw [hf.out, ht.out]
            rintro e W' ⟨rfl, hxx⟩
            exact ⟨_, rfl, hxx, ⟨(fun h => by cases h), fun _ => rfl⟩⟩
          rintro vg ⟨Y, hY, hCv⟩
          obtain rfl := hCv.2 rfl
          clear hCv hY Y
          simp only [Act.put, List.setIfInBounds_toArray, List.set_cons_succ, List.set_cons_zero]
          (refine held_made 6 [] rfl (by kernel_rfl) (fun g => .pointer (some ⟨g, 0, none⟩)) (.cells #[.int .i64 0, .int .i64 0] 28) (fun W => by kernel_rfl) (fun g g2 e => by cases e; rfl) (fun g => rfl) ?_)
          intro gw
          simp only [Act.put, List.setIfInBounds_toArray, List.set_cons_succ, List.set_cons_zero]
          intro V hxv hfc htk Q0 hQ0
          have h7 := (hfc 6).2 rfl
          have b7 : Blk V gw 28 #[.int .i64 0, .int .i64 0] := h7.1
          have hgw : w7.heap.size ≤ gw := h7.2
          have c7 : V.cell? ⟨gw, 0, none⟩ = some (.int .i64 0) := b7.cell 0
          have c8 : V.cell? ⟨gw, 1, none⟩ = some (.int .i64 0) := b7.cell 1
          have f7 := b7.frozen 0
          have f8 := b7.frozen 1
          have b7' := Lib.hid b7
          have hxv' := Lib.hid hxv
          have hsw := hE.out.size
          simp only [pickL, List.drop]
          clear hfc htk h7 b7 z0 z2 z3 hxv
          go_upto_region 21 with (fail)
          refine wp_abs (S := fun V2 => Hid (Ext w7 V2) ∧ Hid (Blk V2 gw 28 #[.int .i64 f, .int .i64 t])) ?_ ?_
          · exact ⟨Lib.hid ((hxv'.out.setCell (p := ⟨gw, 0, none⟩) hgw _).setCell (p := ⟨gw, 1, none⟩) hgw _), Lib.hid ((b7'.out.set_ 0 _).set_ 1 _)⟩
          clear c7 c8 f7 f8 b7' hxv' hgw hsw
          rintro w8 ⟨hq9, hWB⟩
          have hq := hq9.out
          clear hq9
          replace hA1 := Lib.hid ((Keep.of_ext (X := fun _ => False) hq).blk hA1.out id)
          replace hM := Lib.hid (hM.out.ext hq)
          replace hE := Lib.hid (hE.out.trans hq)
          clear hq hf ht
          have z0 := After.cell (show w8.cell? ⟨w.heap.size, 0, none⟩ = some (.int .i64 gr) from hA1.out.cell 0)
          have z1 := After.cell (show w8.cell? ⟨gw, 0, none⟩ = some (.int .i64 f) from hWB.out.cell 0)
          have z2 := After.cell (show w8.cell? ⟨gw, 1, none⟩ = some (.int .i64 t) from hWB.out.cell 1)
          (refine wp_region_held [] [0, 1, 2, 3, 4, 5, 6, 7, 8, 9, 10] [] (ViewCon g v) (by kernel_rfl) (by kernel_rfl) ?_; simp only [pickL]; with_reducible refine wpQuiet_nil ?_)
          (refine held_quiet [0, 1, 2] [3, 4, 5, 6, 7, 8, 9, 10] (by kernel_rfl) (by kernel_rfl) ?_; simp only [pickL, List.drop]; (repeat (go_big_quiet_step (fail))); with_reducible refine wpQuiet_nil ?_)
          (refine held_call 3 [4, 5, 6, 7, 8, 9, 10] rfl (by kernel_rfl) 13 (#[.int .i64 gr]) (fun W => by kernel_rfl) rfl ?_ ?_ ?_)
          · exact fun W W' v e hh => ⟨hh.1, fun h => let ⟨u, h1, h2⟩ := hh.2 h; ⟨u, h1, h2.ext e⟩⟩
          · refine fun W hW _ => (grain_calls gr W).mono ?_
            rw [hg.out]
            rintro e W' ⟨rfl, hxx⟩
            exact ⟨_, rfl, hxx, fun _ => rfl, fun h => by cases h⟩
          rintro vg ⟨Y, hY, hCv⟩
          obtain rfl := hCv.1 rfl
          clear hCv hY Y
          simp only [Act.put, List.setIfInBounds_toArray, List.set_cons_succ, List.set_cons_zero]
          (refine held_quiet [4] [5, 6, 7, 8, 9, 10] (by kernel_rfl) (by kernel_rfl) ?_; simp only [pickL, List.drop]; (repeat (go_big_quiet_step (fail))); with_reducible refine wpQuiet_nil ?_)
          (refine held_call 5 [6, 7, 8, 9, 10] rfl (by kernel_rfl) 25 (#[.slice mA m1.length mC, .int .i64 g, .agg #[.int .i64 f, .int .i64 t]]) (fun W => by kernel_rfl) rfl ?_ ?_ ?_)
          · exact fun W W' v e hh => ⟨hh.1, fun h => let ⟨u, h1, h2⟩ := hh.2 h; ⟨u, h1, h2.ext e⟩⟩
          · refine fun W hW _ => (view_calls _ m1 g f t W (hM.out.ext hW)).mono ?_
            rw [hview.out]
            rintro e W' ⟨u, rfl, hu, hxx⟩
            exact ⟨_, rfl, hxx, ⟨(fun h => by cases h), fun _ => ⟨u, rfl, hu⟩⟩⟩
          rintro vg ⟨Y, hY, hCv⟩
          obtain ⟨u, rfl, hu⟩ := hCv.2 rfl
          obtain ⟨uA, uC, rfl⟩ := hu.form
          clear hCv hY hu Y
          simp only [Act.put, List.setIfInBounds_toArray, List.set_cons_succ, List.set_cons_zero]
          (refine held_quiet [6, 7, 8, 9, 10] [] (by kernel_rfl) (by kernel_rfl) ?_; simp only [pickL, List.drop]; (repeat (go_big_quiet_step (fail))); with_reducible refine wpQuiet_nil ?_)
          intro w9 hq hfc htk Q0 hQ0
          have hV : Hid (Nums w9 (.slice uA v.length uC) v) := by
            obtain ⟨u2, e2, h2⟩ := ((hfc 5).2 rfl).2 rfl
            cases e2
            exact Lib.hid h2
          simp only [pickL]
          clear hfc htk z0 z1 z2 hview hg
          replace hWB := Lib.hid ((Keep.of_ext (X := fun _ => False) hq).blk hWB.out id)
          replace hM := Lib.hid (hM.out.ext hq)
          replace hE := Lib.hid (hE.out.trans hq)
          clear hq hA1
          refine hQ0 _ _ ?_
          have hvn : v.length = n := hvl.out
          rw [hvn] at hV ⊢
          obtain ⟨p1, p2⟩ := Nums.cap hV.out
          clear hvn
          go_wp2_with fail
          go_loopw [25, 26] (fun vF vi wr => ∃ (i : Nat) (q : Bool), i ≤ n ∧ vF = .bool q ∧ vi = .int .i64 i ∧ Hid (q = (v.take i).all fun x => decide (x = 0)) ∧ Hid (Nums wr (.slice uA n uC) v) ∧ Hid (Blk wr gw 28 #[.int .i64 f, .int .i64 t]) ∧ Hid (Marks wr (.slice mA m1.length mC) m1) ∧ Hid (Ext w wr)) (fun _ vi _ => n - (intOf vi).toNat)
          case atStart => exact ⟨0, true, by omega, rfl, rfl, rfl, hV, hWB, hM, hE⟩
          case round =>
            clear hV hWB hM hE
            obtain ⟨i, q, hi, rfl, rfl, hq0, hV, hWB, hM, hE⟩ := hrel
            by_cases h1 : i < n
            · obtain ⟨x, hx⟩ : ∃ x, v[i]? = some x := ⟨_, List.getElem?_eq_getElem (by have := hvl.out; omega)⟩
              obtain ⟨b1, o1, rfl, q1, g1⟩ := hV.out.get hx
              obtain ⟨y, hy⟩ : ∃ y, Hid (decide (x = 0) = y) := ⟨_, rfl⟩
              have hyx : ((x : Int) == 0) = y := by
                rw [← hy.out, Bool.eq_iff_iff, beq_iff_eq, decide_eq_true_iff]
                omega
              have hq1 : Hid ((q && y) = (v.take (i + 1)).all fun x => decide (x = 0)) := by
                show _ = _
                rw [takeStep hx, List.all_append, ← hq0.out]
                simp only [List.all_cons, List.all_nil, Bool.and_true]
                rw [hy.out]
              clear hx hy hq0
              cases q with
              | false =>
                rw [Bool.false_and] at hq1
                clear hyx
                go_wp2
                go_roundw
                case rel => first | exact ⟨i + 1, _, h1, rfl, by go_num, hq1, hV, hWB, hM, hE⟩ | ((repeat apply Exists.intro); exact ⟨⟨i + 1, _, h1, rfl, by go_num, hq1, hV, hWB, hM, hE⟩, rfl⟩)
                case measure => simp [intOf]; omega
              | true =>
                rw [Bool.true_and] at hq1
                go_wp2
                go_roundw
                case rel => first | exact ⟨i + 1, _, h1, rfl, by go_num, hq1, hV, hWB, hM, hE⟩ | ((repeat apply Exists.intro); exact ⟨⟨i + 1, _, h1, rfl, by go_num, hq1, hV, hWB, hM, hE⟩, rfl⟩)
                case measure => simp [intOf]; omega
            · have hqv : Hid (q = v.all fun x => decide (x = 0)) := by
                show _ = _
                rw [hq0.out, List.take_of_length_le (by have := hvl.out; omega)]
              clear hq0 hV
              have b0 : wr.cell? ⟨gw, 0, none⟩ = some (.int .i64 f) := hWB.out.cell 0
              have b1 : wr.cell? ⟨gw, 1, none⟩ = some (.int .i64 t) := hWB.out.cell 1
              have blt := hWB.out.lt
              by_cases hft : f = t
              · have d9 : (f == t) = true := by rw [beq_iff_eq]; exact hft
                clear hft hwhole
                go_wp2
                go_ret
                exact ⟨rfl, hE.out⟩
              · have d9 : (f == t) = false := by rw [beq_eq_false_iff_ne]; exact hft
                have R9 := hwhole.out hft
                rw [← hqv.out] at R9
                have R9' := Lib.hid R9.2
                have e9 : (q == q) = true := by simp
                clear R9 hft hwhole hqv
                go_wp2_with fail
                refine (fits_calls _ _ m1 2 [(f, t)] _ (hM.out.ext ((Ext.refl wr).alloc _)) (spans_one (blk_new' rfl rfl)) (by omega) (by simp)).mono ?_
                rw [R9'.out]
                rintro e wE ⟨rfl, hq⟩
                replace hE := Lib.hid ((hE.out.alloc (.cells #[.int .i64 f, .int .i64 t] 28)).trans hq)
                clear hq hWB hM b0 b1 blt
                go_wp2
                go_ret
                exact ⟨rfl, hE.out⟩
end Go.Proofs.Ytcmcojmhlgknoaa
