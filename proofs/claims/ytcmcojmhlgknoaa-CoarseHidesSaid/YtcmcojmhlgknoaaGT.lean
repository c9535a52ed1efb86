/- The law CoarseHides, walked: true for every list of numbers, every question and every three bytes. -/
import Derived.Test.YtcmcojmhlgknoaaGS
import Derived.Test.YtcmcojmhlgknoaaGArgs
namespace Go.Proofs.Ytcmcojmhlgknoaa
open Go.RowKit

set_option maxHeartbeats 12800000 in
set_option maxRecDepth 100000 in
theorem coarseHides_calls (va : Value) (l : List T16) (vx : Value) (x : AskD) (vn : Value) (nn : Int × Int × Int) (w : World) (hl : Tri16 w va l) (hx : AskV w vx x) (hnn : Tri8V w vn nn) :
    Calls Try.prog 7 #[va, vx, vn] w fun e w' => e = .returned (.bool true) ∧ Ext w w' := by
  obtain ⟨gr, tr, a, b⟩ := x
  obtain ⟨y0, y1, y2⟩ := nn
  obtain ⟨rfl, ha, hb⟩ := hx
  obtain ⟨rfl, hy0, hy1, hy2⟩ := hnn
  dsimp only at ha hb hy0 hy1 hy2 ⊢
  have hL := Lib.hid hl
  obtain ⟨lA, lC, rfl⟩ := hl.form
  clear hl
  obtain ⟨g, hg⟩ : ∃ g, Hid (grainL gr = g) := ⟨_, rfl⟩
  have hg4 : 1 ≤ g ∧ g ≤ 4 := hg.out ▸ grain_in gr
  obtain ⟨f, hf⟩ : ∃ f, Hid (winF g a = f) := ⟨_, rfl⟩
  obtain ⟨t, ht⟩ : ∃ t, Hid (winT g a b = t) := ⟨_, rfl⟩
  obtain ⟨n, hn⟩ : ∃ n : Nat, b % 41 = (n : Int) := ⟨(b % 41).toNat, by omega⟩
  have hc := cells_win hg4 a b
  have hbd := win_bd g a b
  rw [hf.out, ht.out, hn] at hc
  rw [hf.out, ht.out, hn] at hbd
  have hfs := Lib.hid hbd.2.2.2.2.2
  obtain ⟨m1, hm1⟩ : ∃ m, Hid (madeL l = m) := ⟨_, rfl⟩
  have hval : m1.all markB = true := hm1.out ▸ made_all l
  have hlen1 : m1.length ≤ 6 := hm1.out ▸ made_len l
  have hrng := Lib.hid (hm1.out ▸ made_range l : ∀ m ∈ m1, _)
  have hval' := Lib.hid hval
  have hc' := Lib.hid hc
  obtain ⟨s, hs⟩ : ∃ s, Hid (sizeG g = s) := ⟨_, rfl⟩
  have hs12 := size_pos g
  rw [hs.out] at hs12
  have hsz : Hid (∀ W, Calls Try.prog 26 #[.int .i64 g] W fun e w' => e = .returned (.int .i64 s) ∧ Ext W w') := fun W => hs.out ▸ rSize_calls g W
  have hsz0 : (s == 0) = false := by rw [beq_eq_false_iff_ne]; omega
  obtain ⟨j0, hj0, jz0, jz1, jz2⟩ := info_parts mark_info
  clear hc hbd hval hn
  go_enter Try.func7, Try.ntmps7
  go_wp2_with fail
  refine (sanity_calls _).mono ?_
  rintro e w1 ⟨rfl, hq⟩
  have hA1 : Hid (Blk w1 w.heap.size 25 #[.int .i64 gr, .int .i64 tr, .int .u8 a, .int .u8 b]) := Lib.hid ((Keep.of_ext (X := fun _ => False) hq).blk (Blk.alloc (blk_new' rfl rfl) _) id)
  have hN1 : Hid (Blk w1 (w.heap.size + 1) 57 #[.int .u8 y0, .int .u8 y1, .int .u8 y2]) := Lib.hid ((Keep.of_ext (X := fun _ => False) hq).blk (blk_new' (by simp) rfl) id)
  have hE := Lib.hid ((((Ext.refl w).alloc (.cells #[.int .i64 gr, .int .i64 tr, .int .u8 a, .int .u8 b] 25)).alloc (.cells #[.int .u8 y0, .int .u8 y1, .int .u8 y2] 57)).trans hq)
  clear hq
  go_wp2_with fail
  refine (rMade_calls _ l _ (hL.out.ext hE.out)).mono ?_
  rintro e w2 ⟨vm, rfl, hm, hq⟩
  rw [hm1.out] at hm
  obtain ⟨mA, mC, rfl⟩ := hm.read.form
  (try replace hA1 := Lib.hid ((Keep.of_ext (X := fun _ => False) hq).blk hA1.out id))
  (try replace hN1 := Lib.hid ((Keep.of_ext (X := fun _ => False) hq).blk hN1.out id))
  (try replace hWB := Lib.hid ((Keep.of_ext (X := fun _ => False) hq).blk hWB.out id))
  (try replace hMB := Lib.hid ((Keep.of_ext (X := fun _ => False) hq).blk hMB.out id))
  (try replace hM := Lib.hid (hM.out.ext hq))
  (try replace hR := Lib.hid (hR.out.ext hq))
  (try replace hV := Lib.hid (hV.out.ext hq))
  (try replace hU := Lib.hid (hU.out.ext hq))
  (try replace hT := Lib.hid (hT.out.ext hq))
  replace hE := Lib.hid (hE.out.trans hq)
  clear hq
  have hM := Lib.hid hm.read
  clear hm hL hm1
  by_cases hne : m1.length = 0
  · have d0 : ((m1.length : Int) == 0) = true := by rw [hne]; rfl
    clear hne
    go_wp2
    go_ret
    exact ⟨rfl, hE.out⟩
  have d0 : ((m1.length : Int) == 0) = false := by rw [beq_eq_false_iff_ne]; omega
  obtain ⟨k, hk⟩ : ∃ k : Nat, y0.tmod (m1.length : Int) = (k : Int) ∧ k < m1.length := by
    refine ⟨(y0 % m1.length).toNat, ?_, ?_⟩
    · rw [Int.tmod_eq_emod_of_nonneg hy0.1, Int.toNat_of_nonneg (Int.emod_nonneg _ (by omega))]
    · have := Int.emod_lt_of_pos y0 (show 0 < (m1.length : Int) by omega)
      have := Int.emod_nonneg y0 (show (m1.length : Int) ≠ 0 by omega)
      omega
  obtain ⟨hk1, hk2⟩ := hk
  have c0 : w2.cell? ⟨w.heap.size, 0, none⟩ = some (.int .i64 gr) := hA1.out.cell 0
  go_wp2_with fail
  refine (grain_calls gr _).mono ?_
  rw [hg.out]
  rintro e w3 ⟨rfl, hq⟩
  clear c0 hg
  (try replace hA1 := Lib.hid ((Keep.of_ext (X := fun _ => False) hq).blk hA1.out id))
  (try replace hN1 := Lib.hid ((Keep.of_ext (X := fun _ => False) hq).blk hN1.out id))
  (try replace hWB := Lib.hid ((Keep.of_ext (X := fun _ => False) hq).blk hWB.out id))
  (try replace hMB := Lib.hid ((Keep.of_ext (X := fun _ => False) hq).blk hMB.out id))
  (try replace hM := Lib.hid (hM.out.ext hq))
  (try replace hR := Lib.hid (hR.out.ext hq))
  (try replace hV := Lib.hid (hV.out.ext hq))
  (try replace hU := Lib.hid (hU.out.ext hq))
  (try replace hT := Lib.hid (hT.out.ext hq))
  replace hE := Lib.hid (hE.out.trans hq)
  clear hq
  have c2 : w3.cell? ⟨w.heap.size, 2, none⟩ = some (.int .u8 a) := hA1.out.cell 2
  have c3 : w3.cell? ⟨w.heap.size, 3, none⟩ = some (.int .u8 b) := hA1.out.cell 3
  go_wp2_with fail
  refine (rWindow_calls g a b ha hb _).mono ?_
  rw [hf.out, ht.out]
  rintro e w4 ⟨rfl, hq⟩
  clear c2 c3 hf ht
  (try replace hA1 := Lib.hid ((Keep.of_ext (X := fun _ => False) hq).blk hA1.out id))
  (try replace hN1 := Lib.hid ((Keep.of_ext (X := fun _ => False) hq).blk hN1.out id))
  (try replace hWB := Lib.hid ((Keep.of_ext (X := fun _ => False) hq).blk hWB.out id))
  (try replace hMB := Lib.hid ((Keep.of_ext (X := fun _ => False) hq).blk hMB.out id))
  (try replace hM := Lib.hid (hM.out.ext hq))
  (try replace hR := Lib.hid (hR.out.ext hq))
  (try replace hV := Lib.hid (hV.out.ext hq))
  (try replace hU := Lib.hid (hU.out.ext hq))
  (try replace hT := Lib.hid (hT.out.ext hq))
  replace hE := Lib.hid (hE.out.trans hq)
  clear hq
  clear hA1
  go_wp2_with fail
  have hWB := Lib.hid (blk_new' (w := w4) (g := w4.heap.size) (t := 28) (cs := #[.int .i64 f, .int .i64 t]) rfl rfl)
  replace hM := Lib.hid (hM.out.ext ((Ext.refl w4).alloc (.cells #[.int .i64 f, .int .i64 t] 28)))
  replace hN1 := Lib.hid (hN1.out.alloc (.cells #[.int .i64 f, .int .i64 t] 28))
  replace hE := Lib.hid (hE.out.alloc (.cells #[.int .i64 f, .int .i64 t] 28))
  refine (hsz.out _).mono ?_
  rintro e w5 ⟨rfl, hq⟩
  (try replace hA1 := Lib.hid ((Keep.of_ext (X := fun _ => False) hq).blk hA1.out id))
  (try replace hN1 := Lib.hid ((Keep.of_ext (X := fun _ => False) hq).blk hN1.out id))
  (try replace hWB := Lib.hid ((Keep.of_ext (X := fun _ => False) hq).blk hWB.out id))
  (try replace hMB := Lib.hid ((Keep.of_ext (X := fun _ => False) hq).blk hMB.out id))
  (try replace hM := Lib.hid (hM.out.ext hq))
  (try replace hR := Lib.hid (hR.out.ext hq))
  (try replace hV := Lib.hid (hV.out.ext hq))
  (try replace hU := Lib.hid (hU.out.ext hq))
  (try replace hT := Lib.hid (hT.out.ext hq))
  replace hE := Lib.hid (hE.out.trans hq)
  clear hq
  clear hsz
  have hat1 : Hid (MarksAt mA w5 m1) := by
    obtain ⟨_, _, e, _, _, h⟩ := hM.out.open
    cases e
    exact Lib.hid h
  obtain ⟨bm, om, mf, mt, mk, rfl, hb5, _, hget, g0, g1, g2⟩ := hat1.out k hk2 w5 (Ext.refl _)
  have q0 : w5.cell? ⟨w.heap.size + 1, 0, none⟩ = some (.int .u8 y0) := hN1.out.cell 0
  go_upto_region 12 with (fail)
  refine wp_abs (S := fun W => Hid (Ext w5 W) ∧ Hid (Blk W w5.heap.size 47 #[.int .i64 mf, .int .i64 mt, .int .i64 mk]) ∧ Hid (MTwo (w5.heap.size + 1) W (w5.heap.size + 1) 0 0 [] (w5.heap.size + 2) 0 0 [])) ?_ ?_
  · refine ⟨Lib.hid (by exact (by repeat' (first | (with_reducible exact Ext.refl _) | (with_reducible assumption) | (with_reducible refine Ext.drewN ?_ _) | (with_reducible refine Ext.drew ?_) | (with_reducible refine Ext.alloc ?_ _) | (with_reducible refine Ext.trans ?_ (by with_reducible assumption))))), Lib.hid (Blk.alloc (Blk.alloc (blk_new' rfl rfl) _) _), Lib.hid ⟨MRow.empty (Blk.alloc (blk_new' (by simp) rfl) _) (by omega), MRow.empty (blk_new' (by simp) rfl) (by omega), by omega⟩⟩
  clear g0 g1 g2 q0
  rintro w6 ⟨hx6, hMB, hT⟩
  have hs6 := hx6.out.size
  have hb6 := hMB.out.lt
  go_wp2_with fail
  go_loopw [14, 15, 16] (fun v14 v15 vi wr => ∃ (j g1 c1 n1 g2 c2 n2 : Nat), j ≤ m1.length ∧ n1 ≤ 6 ∧ n2 ≤ 6 ∧ v14 = .slice (some ⟨g1, 0, none⟩) n1 c1 ∧ v15 = .slice (some ⟨g2, 0, none⟩) n2 c2 ∧ vi = .int .i64 ((j : Int) - 1) ∧ Hid (MTwo (w5.heap.size + 1) wr g1 n1 c1 (revAt m1 j) g2 n2 c2 (movAt m1 k j)) ∧ Hid (Blk wr w5.heap.size 47 #[.int .i64 mf, .int .i64 mt, .int .i64 mk]) ∧ Hid (Ext w5 wr)) (fun _ _ vi _ => (intOf vi + 1).toNat)
  case atStart => exact ⟨m1.length, _, _, 0, _, _, 0, Nat.le_refl _, by omega, by omega, rfl, rfl, rfl, Lib.hid (by
    have h1 : revAt m1 m1.length = [] := by unfold revAt; simp
    rw [h1, movAt_end hk2]
    exact hT.out), hMB, hx6⟩
  case round =>
    clear hT hMB hx6 hs6 hb6
    obtain ⟨j, g1, c1, n1, g2, c2, n2, hj, hn1l, hn2l, rfl, rfl, rfl, hT, hMB, hx⟩ := hrel
    by_cases h0 : j = 0
    · subst h0
      have hlen : n1 = m1.length := by have := hT.out.o1.2; rw [this]; unfold revAt; simp
      subst hlen
      have hr0 : Hid (revAt m1 0 = m1.reverse) := by show _ = _; unfold revAt; simp
      have hm0 : Hid (movAt m1 k 0 = (m1.take k ++ m1.drop (k + 1)).reverse) := movAt_zero m1 k
      rw [hr0.out, hm0.out] at hT
      clear hr0 hm0
      have hr := hrng.out _ (List.mem_of_getElem? hget.out)
      dsimp only at hr
      obtain ⟨r1, hr1⟩ : ∃ r, Hid (mf % s = r) := ⟨_, rfl⟩
      obtain ⟨r2, hr2⟩ : ∃ r, Hid ((mt - 1) % s = r) := ⟨_, rfl⟩
      obtain ⟨p1, hp1⟩ : ∃ r, Hid (y1 % s = r) := ⟨_, rfl⟩
      obtain ⟨p2, hp2⟩ : ∃ r, Hid (y2 % s = r) := ⟨_, rfl⟩
      have hr1b : 0 ≤ r1 ∧ r1 < s := by rw [← hr1.out]; exact ⟨Int.emod_nonneg _ (by omega), Int.emod_lt_of_pos _ (by omega)⟩
      have hr2b : 0 ≤ r2 ∧ r2 < s := by rw [← hr2.out]; exact ⟨Int.emod_nonneg _ (by omega), Int.emod_lt_of_pos _ (by omega)⟩
      have hp1b : 0 ≤ p1 ∧ p1 < s := by rw [← hp1.out]; exact ⟨Int.emod_nonneg _ (by omega), Int.emod_lt_of_pos _ (by omega)⟩
      have hp2b : 0 ≤ p2 ∧ p2 < s := by rw [← hp2.out]; exact ⟨Int.emod_nonneg _ (by omega), Int.emod_lt_of_pos _ (by omega)⟩
      have hfl : mf - r1 ≤ mt - 1 - r2 := by
        rw [← hr1.out, ← hr2.out, ← hs.out]
        rcases size_cases (g := g) with h | h | h <;> rw [h] <;> omega
      have e1 : (mf.tmod s + s).tmod s = r1 := by rw [tmod_floor (by omega)]; exact hr1.out
      have e2 : ((mt - 1).tmod s + s).tmod s = r2 := by rw [tmod_floor (by omega)]; exact hr2.out
      have e3 : y1.tmod s = p1 := by rw [Int.tmod_eq_emod_of_nonneg (by omega)]; exact hp1.out
      have e4 : y2.tmod s = p2 := by rw [Int.tmod_eq_emod_of_nonneg (by omega)]; exact hp2.out
      have t1 : -1440 ≤ mf.tmod s ∧ mf.tmod s ≤ 1440 := by have := tmod_in mf s (by omega); omega
      have t2 : -1440 ≤ (mt - 1).tmod s ∧ (mt - 1).tmod s ≤ 1440 := by have := tmod_in (mt - 1) s (by omega); omega
      go_upto_region 18 with (fail)
      have z0 := After.cell (show wr.cell? ⟨w5.heap.size, 0, none⟩ = some (.int .i64 mf) from hMB.out.cell 0)
      have z1 := After.cell (show wr.cell? ⟨w5.heap.size, 1, none⟩ = some (.int .i64 mt) from hMB.out.cell 1)
      refine wp_region_after (by kernel_rfl) (by kernel_rfl) ?_
      repeat (go_big_quiet_step (fail))
      refine wpQuiet_nil ?_
      rintro _ ⟨u, rfl⟩
      have hq := u.ext
      generalize u.world = wA at hq ⊢
      clear z0 z1 u
      replace hT := Lib.hid (hT.out.ext hq)
      replace hMB := Lib.hid ((Keep.of_ext (X := fun _ => False) hq).blk hMB.out id)
      replace hx := Lib.hid (hx.out.trans hq)
      clear hq e1 t1
      go_upto_region 19 with (fail)
      have z0 := After.cell (show wA.cell? ⟨w5.heap.size, 0, none⟩ = some (.int .i64 mf) from hMB.out.cell 0)
      have z1 := After.cell (show wA.cell? ⟨w5.heap.size, 1, none⟩ = some (.int .i64 mt) from hMB.out.cell 1)
      refine wp_region_after (by kernel_rfl) (by kernel_rfl) ?_
      repeat (go_big_quiet_step (fail))
      refine wpQuiet_nil ?_
      rintro _ ⟨u, rfl⟩
      have hq := u.ext
      generalize u.world = wB at hq ⊢
      clear z0 z1 u
      replace hT := Lib.hid (hT.out.ext hq)
      replace hMB := Lib.hid ((Keep.of_ext (X := fun _ => False) hq).blk hMB.out id)
      replace hx := Lib.hid (hx.out.trans hq)
      clear hq e2 t2
      replace hN1 := Lib.hid ((Keep.of_ext (X := fun _ => False) hx.out).blk hN1.out id)
      have hsB := hx.out.size
      have hbm := hMB.out.lt
      have m0 : wB.cell? ⟨w5.heap.size, 0, none⟩ = some (.int .i64 mf) := hMB.out.cell 0
      have m2 : wB.cell? ⟨w5.heap.size, 1, none⟩ = some (.int .i64 mt) := hMB.out.cell 1
      have m3 : wB.cell? ⟨w5.heap.size, 2, none⟩ = some (.int .i64 mk) := hMB.out.cell 2
      have q1 : wB.cell? ⟨w.heap.size + 1, 1, none⟩ = some (.int .u8 y1) := hN1.out.cell 1
      have q2 : wB.cell? ⟨w.heap.size + 1, 2, none⟩ = some (.int .u8 y2) := hN1.out.cell 2
      obtain ⟨dd, hdd⟩ : ∃ d : Nat, (m1.length : Int) - 1 - (k : Int) = (d : Int) := ⟨m1.length - 1 - k, by omega⟩
      have hddn : Hid (dd = m1.length - 1 - k) := by show _ = _; omega
      obtain ⟨q, hqq⟩ : ∃ q, (mt - mf).tdiv 2 = q := ⟨_, rfl⟩
      have hqb : 0 ≤ q ∧ q < mt - mf := by rw [← hqq, Int.tdiv_eq_ediv_of_nonneg (by omega)]; omega
      have hM0 := hM
      have hWB0 := hWB
      have hE0 := hE
      by_cases hge : mt - 1 - r2 + 1 + p2 ≤ mf - r1 + p1
      · have d3 : decide (mt - 1 - r2 + 1 + p2 ≤ mf - r1 + p1) = true := decide_eq_true hge
        go_upto_region 24 with (fail)
        obtain ⟨bg, hbg⟩ : ∃ v, Hid (mf - r1 = v) := ⟨_, rfl⟩
        rw [hbg.out]
        clear d3
        obtain ⟨en, hen⟩ : ∃ v, Hid (mt - 1 - r2 + 1 + p2 = v) := ⟨_, rfl⟩
        rw [hen.out]
        have hmv := Lib.hid (hides_mov (g := g) (f := f) (bg := bg) (en := en) hget.out hval'.out hfs.out ⟨by show -100000 ≤ mf; omega, by show mt ≤ 100000; omega⟩ (by
          show mf - mf % sizeG g ≤ bg
          rw [hs.out, hr1.out]; have := hbg.out; omega) (by
          show bg < mf - mf % sizeG g + sizeG g
          rw [hs.out, hr1.out]; have := hbg.out; omega) (by
          show mt - 1 - (mt - 1) % sizeG g < en
          rw [hs.out, hr2.out]; have := hen.out; omega) (by
          show en ≤ mt - 1 - (mt - 1) % sizeG g + sizeG g
          rw [hs.out, hr2.out]; have := hen.out; omega) (by
          have h1 := hbg.out
          have h2 := hen.out
          omega))
        clear hbg hen
        have hT6 := Lib.hid hT.out.swap
        go_upto_region 25 with (at_builtin; refine wpList_append_any _ rfl (.tmp 129) (.tmp 136) _ rfl (w5.heap.size + 1) 47 j0 _ 3 24 Try.underlying37 hj0 jz0 jz1 jz2 rfl (by decide) (.slice (some ⟨g2, 0, none⟩) n2 c2) n2 _ rfl (hT6.out.o1.1.alloc _) (wB.heap.size + 1) (some ⟨wB.heap.size, 0, none⟩) 1 1 [.int .i64 bg, .int .i64 en, .int .i64 mk] rfl (reads_last _ #[_, _, _] _ 3 1 _ _ rfl (by omega) rfl) (three_ints _ _ _) (by unfold maxLen; omega) (by omega) (by rw [World.size_alloc]; omega) ?_; intro v7 w7 hown7 hg7 hat7; obtain ⟨g7, c7, rfl, hF7⟩ := (hT6.out.ext ((Ext.refl wB).alloc (.cells #[.int .i64 bg, .int .i64 en, .int .i64 mk] 47))).push hown7 hg7 hat7)
        have hT7 := Lib.hid hF7.swap
        have hM7 := Lib.hid ((Blk.alloc hMB.out (.cells #[.int .i64 bg, .int .i64 en, .int .i64 mk] 47)).grown hg7 (fun e => by have h := hT6.out.o1.lt; have h2 : w5.heap.size = g2 := Option.some.inj e; omega))
        have hq : Ext w5 w7 := ((hx.out.alloc (.cells #[.int .i64 bg, .int .i64 en, .int .i64 mk] 47)).grown hg7 (fun k e => by have h := hT6.out.o1.lt; have h2 : g2 = k := Option.some.inj e; omega))
        have hx7 := Lib.hid hq
        replace hM := Lib.hid (hM0.out.ext hq)
        replace hWB := Lib.hid ((Keep.of_ext (X := fun _ => False) hq).blk hWB0.out id)
        replace hE := Lib.hid (hE0.out.trans hq)
        clear hown7 hg7 hat7 hF7 hT6 hT hMB hx m0 m2 m3 q1 q2 hq hN1 hbm hsB
        generalize n2 + 1 = n3 at *
        have m0 : w7.cell? ⟨w5.heap.size, 0, none⟩ = some (.int .i64 mf) := hM7.out.cell 0
        have m2 : w7.cell? ⟨w5.heap.size, 1, none⟩ = some (.int .i64 mt) := hM7.out.cell 1
        have m3 : w7.cell? ⟨w5.heap.size, 2, none⟩ = some (.int .i64 mk) := hM7.out.cell 2
        have hbm := hM7.out.lt
        have hs7 := hx7.out.size
        go_upto_region 26 with (fail)
        obtain ⟨mid, hmid⟩ : ∃ v, Hid (mf + q = v) := ⟨_, rfl⟩
        rw [hmid.out]
        by_cases hlt : mf < mid
        · have d6 : decide (mf < mid) = true := decide_eq_true hlt
          have hrv := Lib.hid (hides_rev (mid := mid) hget.out hval'.out hlt (by have := hmid.out; show mid < mt; omega))
          have hdg : Hid (m1.reverse[dd]? = some ⟨mf, mt, mk⟩) := by
            show _ = _
            rw [List.getElem?_reverse (by omega), ← hget.out]
            congr 1
            have := hddn.out
            omega
          have fr : w7.frozen? ⟨g1, dd * 3 + 1, none⟩ = false := hT7.out.o1.1.frozenAt _
          have cr : w7.cell? ⟨g1, dd * 3 + 1, none⟩ = some (.int .i64 mt) := by
            rw [hT7.out.o1.1.cellAt (dd * 3 + 1) (by omega), markCells_at _ _ (by simp; omega) _ (by omega), hdg.out]
            rfl
          have hdl : dd < m1.length := by omega
          clear hlt hmid
          go_upto_region 28 with (fail)
          refine wp_abs (S := fun W => Hid (MTwo (w5.heap.size + 1) W g1 m1.length c1 (m1.reverse.set dd ⟨mf, mid, mk⟩) g7 n3 c7 ((m1.take k ++ m1.drop (k + 1)).reverse ++ [⟨bg, en, mk⟩])) ∧ Hid (Blk W w5.heap.size 47 #[.int .i64 mf, .int .i64 mt, .int .i64 mk]) ∧ Hid (Ext w5 W)) ?_ ?_
          · have hg1 := hT7.out.o1.lt
            exact ⟨Lib.hid (hT7.out.put hdg.out), Lib.hid (hM7.out.far (by show w5.heap.size ≠ g1; omega) _), Lib.hid (hx7.out.setCell (by show w5.heap.size ≤ g1; omega) _)⟩
          clear fr cr m0 m2 m3 hT7 hM7 hx7 hM hWB hE hs7 hbm
          rintro w8 ⟨hT, hMB, hx⟩
          have m0 : w8.cell? ⟨w5.heap.size, 0, none⟩ = some (.int .i64 mf) := hMB.out.cell 0
          have m2 : w8.cell? ⟨w5.heap.size, 1, none⟩ = some (.int .i64 mt) := hMB.out.cell 1
          have m3 : w8.cell? ⟨w5.heap.size, 2, none⟩ = some (.int .i64 mk) := hMB.out.cell 2
          have hbm := hMB.out.lt
          have hs8 := hx.out.size
          go_upto_region 29 with (at_builtin; refine wpList_append_any _ rfl (.tmp 165) (.tmp 174) _ rfl (w5.heap.size + 1) 47 j0 _ 3 24 Try.underlying37 hj0 jz0 jz1 jz2 rfl (by decide) (.slice (some ⟨g1, 0, none⟩) m1.length c1) m1.length _ rfl (hT.out.o1.1.alloc _) (w8.heap.size + 1) (some ⟨w8.heap.size, 0, none⟩) 1 1 [.int .i64 mid, .int .i64 mt, .int .i64 mk] rfl (reads_last _ #[_, _, _] _ 3 1 _ _ rfl (by omega) rfl) (three_ints _ _ _) (by unfold maxLen; omega) (by omega) (by rw [World.size_alloc]; omega) ?_; intro v9 w9 hown9 hg9 hat9; obtain ⟨g9, c9, rfl, hF9⟩ := (hT.out.ext ((Ext.refl w8).alloc (.cells #[.int .i64 mid, .int .i64 mt, .int .i64 mk] 47))).push hown9 hg9 hat9)
          have hR := Lib.hid hF9.o1.read
          have hV := Lib.hid hF9.o2.read
          have hq : Ext w5 w9 := ((hx.out.alloc (.cells #[.int .i64 mid, .int .i64 mt, .int .i64 mk] 47)).grown hg9 (fun k e => by have h := hT.out.o1.lt; have h2 : g1 = k := Option.some.inj e; omega))
          have hM := Lib.hid (hM0.out.ext hq)
          have hWB := Lib.hid ((Keep.of_ext (X := fun _ => False) hq).blk hWB0.out id)
          have hE := Lib.hid (hE0.out.trans hq)
          obtain ⟨R, hRR⟩ : ∃ R, Hid (m1.reverse.set dd ⟨mf, mid, mk⟩ ++ [(⟨mid, mt, mk⟩ : MarkD)] = R) := ⟨_, rfl⟩
          rw [hRR.out] at hR
          rw [← hddn.out, hRR.out] at hrv
          obtain ⟨rn, hrn⟩ : ∃ n, n = m1.length + 1 := ⟨_, rfl⟩
          rw [← hrn] at hR ⊢
          clear hown9 hg9 hat9 hF9 hT hMB hx m0 m2 m3 hq hs8 hbm hRR hrn hdl
          generalize g9 = rg at *
          generalize c9 = rc at *
          obtain ⟨T, hTT⟩ : ∃ T, Hid ((m1.take k ++ m1.drop (k + 1)).reverse ++ [(⟨bg, en, mk⟩ : MarkD)] = T) := ⟨_, rfl⟩
          have hmv1 : T.all markB = true ∧ ∀ n : Nat, viewN g m1 f n = viewN g T f n := hTT.out ▸ hmv.out
          rw [hTT.out] at hV
          have hS1 : Hid (sameG m1 R g f t = (true, 0)) := by show _ = _; rw [same_ok hval'.out hrv.out.1 hc'.out, decide_eq_true (hrv.out.2 g f n)]
          have hS2 : Hid (sameG m1 T g f t = (true, 0)) := by show _ = _; rw [same_ok hval'.out hmv1.1 hc'.out, decide_eq_true (hmv1.2 n)]
          have hv1 : Hid (viewG m1 g f t = (viewN g m1 f n, 0)) := view_ok hval'.out hc'.out
          have hv2 : Hid (viewG T g f t = (viewN g m1 f n, 0)) := by show _ = _; rw [view_ok hmv1.1 hc'.out, ← hmv1.2 n]
          obtain ⟨v, hvv⟩ : ∃ v, Hid (viewN g m1 f n = v) := ⟨_, rfl⟩
          rw [hvv.out] at hv1 hv2
          clear hmv hmv1 hTT hrv hvv hget
          (try clear hRR)
          (try clear hmid)
          (try clear hrn)
          have b0 : w9.cell? ⟨w4.heap.size, 0, none⟩ = some (.int .i64 f) := hWB.out.cell 0
          have b1 : w9.cell? ⟨w4.heap.size, 1, none⟩ = some (.int .i64 t) := hWB.out.cell 1
          have blt := hWB.out.lt
          go_wp2_with fail
          refine (same_calls _ _ m1 R g f t _ hM.out hR.out).mono ?_
          rw [hS1.out]
          rintro e wa ⟨rfl, hq⟩
          clear b0 b1 blt hS1
          (try replace hA1 := Lib.hid ((Keep.of_ext (X := fun _ => False) hq).blk hA1.out id))
          (try replace hN1 := Lib.hid ((Keep.of_ext (X := fun _ => False) hq).blk hN1.out id))
          (try replace hWB := Lib.hid ((Keep.of_ext (X := fun _ => False) hq).blk hWB.out id))
          (try replace hMB := Lib.hid ((Keep.of_ext (X := fun _ => False) hq).blk hMB.out id))
          (try replace hM := Lib.hid (hM.out.ext hq))
          (try replace hR := Lib.hid (hR.out.ext hq))
          (try replace hV := Lib.hid (hV.out.ext hq))
          (try replace hU := Lib.hid (hU.out.ext hq))
          (try replace hT := Lib.hid (hT.out.ext hq))
          replace hE := Lib.hid (hE.out.trans hq)
          clear hq
          clear hR
          have b0 : wa.cell? ⟨w4.heap.size, 0, none⟩ = some (.int .i64 f) := hWB.out.cell 0
          have b1 : wa.cell? ⟨w4.heap.size, 1, none⟩ = some (.int .i64 t) := hWB.out.cell 1
          have blt := hWB.out.lt
          go_wp2_with fail
          refine (same_calls _ _ m1 T g f t _ hM.out hV.out).mono ?_
          rw [hS2.out]
          rintro e wb ⟨rfl, hq⟩
          clear b0 b1 blt hS2
          (try replace hA1 := Lib.hid ((Keep.of_ext (X := fun _ => False) hq).blk hA1.out id))
          (try replace hN1 := Lib.hid ((Keep.of_ext (X := fun _ => False) hq).blk hN1.out id))
          (try replace hWB := Lib.hid ((Keep.of_ext (X := fun _ => False) hq).blk hWB.out id))
          (try replace hMB := Lib.hid ((Keep.of_ext (X := fun _ => False) hq).blk hMB.out id))
          (try replace hM := Lib.hid (hM.out.ext hq))
          (try replace hR := Lib.hid (hR.out.ext hq))
          (try replace hV := Lib.hid (hV.out.ext hq))
          (try replace hU := Lib.hid (hU.out.ext hq))
          (try replace hT := Lib.hid (hT.out.ext hq))
          replace hE := Lib.hid (hE.out.trans hq)
          clear hq
          have b0 : wb.cell? ⟨w4.heap.size, 0, none⟩ = some (.int .i64 f) := hWB.out.cell 0
          have b1 : wb.cell? ⟨w4.heap.size, 1, none⟩ = some (.int .i64 t) := hWB.out.cell 1
          have blt := hWB.out.lt
          go_wp2_with fail
          refine (view_calls _ m1 g f t _ hM.out).mono ?_
          rw [hv1.out]
          rintro e wc ⟨u, rfl, hu, hq⟩
          obtain ⟨uA, uC, rfl⟩ := hu.form
          clear b0 b1 blt hv1
          (try replace hA1 := Lib.hid ((Keep.of_ext (X := fun _ => False) hq).blk hA1.out id))
          (try replace hN1 := Lib.hid ((Keep.of_ext (X := fun _ => False) hq).blk hN1.out id))
          (try replace hWB := Lib.hid ((Keep.of_ext (X := fun _ => False) hq).blk hWB.out id))
          (try replace hMB := Lib.hid ((Keep.of_ext (X := fun _ => False) hq).blk hMB.out id))
          (try replace hM := Lib.hid (hM.out.ext hq))
          (try replace hR := Lib.hid (hR.out.ext hq))
          (try replace hV := Lib.hid (hV.out.ext hq))
          (try replace hU := Lib.hid (hU.out.ext hq))
          (try replace hT := Lib.hid (hT.out.ext hq))
          replace hE := Lib.hid (hE.out.trans hq)
          clear hq
          have hU := Lib.hid hu
          clear hu hM
          have b0 : wc.cell? ⟨w4.heap.size, 0, none⟩ = some (.int .i64 f) := hWB.out.cell 0
          have b1 : wc.cell? ⟨w4.heap.size, 1, none⟩ = some (.int .i64 t) := hWB.out.cell 1
          have blt := hWB.out.lt
          go_wp2_with fail
          refine (view_calls _ T g f t _ hV.out).mono ?_
          rw [hv2.out]
          rintro e wd ⟨u, rfl, hu, hq⟩
          obtain ⟨zA, zC, rfl⟩ := hu.form
          clear b0 b1 blt hv2
          (try replace hA1 := Lib.hid ((Keep.of_ext (X := fun _ => False) hq).blk hA1.out id))
          (try replace hN1 := Lib.hid ((Keep.of_ext (X := fun _ => False) hq).blk hN1.out id))
          (try replace hWB := Lib.hid ((Keep.of_ext (X := fun _ => False) hq).blk hWB.out id))
          (try replace hMB := Lib.hid ((Keep.of_ext (X := fun _ => False) hq).blk hMB.out id))
          (try replace hM := Lib.hid (hM.out.ext hq))
          (try replace hR := Lib.hid (hR.out.ext hq))
          (try replace hV := Lib.hid (hV.out.ext hq))
          (try replace hU := Lib.hid (hU.out.ext hq))
          (try replace hT := Lib.hid (hT.out.ext hq))
          replace hE := Lib.hid (hE.out.trans hq)
          clear hq
          have hZ := Lib.hid hu
          clear hu hV hWB
          go_wp2_with fail
          refine (rNumbers_calls _ _ v v _ hZ.out hU.out).mono ?_
          rw [decide_eq_true rfl]
          rintro e we ⟨rfl, hq⟩
          replace hE := Lib.hid (hE.out.trans hq)
          clear hq hU hZ
          go_wp2
          go_ret
          exact ⟨rfl, hE.out⟩
        · have d6 : decide (mf < mid) = false := decide_eq_false hlt
          have hrv := Lib.hid (hides_turn hval'.out)
          have hR := Lib.hid hT7.out.o1.read
          have hV := Lib.hid hT7.out.o2.read
          obtain ⟨R, hRR⟩ : ∃ R, Hid (m1.reverse = R) := ⟨_, rfl⟩
          rw [hRR.out] at hR hrv
          obtain ⟨rn, hrn⟩ : ∃ n, n = m1.length := ⟨_, rfl⟩
          generalize g1 = rg at *
          generalize c1 = rc at *
          clear hlt hT7 hM7 hx7
          go_upto_region 29 with (fail)
          clear m0 m2 m3 d6
          obtain ⟨T, hTT⟩ : ∃ T, Hid ((m1.take k ++ m1.drop (k + 1)).reverse ++ [(⟨bg, en, mk⟩ : MarkD)] = T) := ⟨_, rfl⟩
          have hmv1 : T.all markB = true ∧ ∀ n : Nat, viewN g m1 f n = viewN g T f n := hTT.out ▸ hmv.out
          rw [hTT.out] at hV
          have hS1 : Hid (sameG m1 R g f t = (true, 0)) := by show _ = _; rw [same_ok hval'.out hrv.out.1 hc'.out, decide_eq_true (hrv.out.2 g f n)]
          have hS2 : Hid (sameG m1 T g f t = (true, 0)) := by show _ = _; rw [same_ok hval'.out hmv1.1 hc'.out, decide_eq_true (hmv1.2 n)]
          have hv1 : Hid (viewG m1 g f t = (viewN g m1 f n, 0)) := view_ok hval'.out hc'.out
          have hv2 : Hid (viewG T g f t = (viewN g m1 f n, 0)) := by show _ = _; rw [view_ok hmv1.1 hc'.out, ← hmv1.2 n]
          obtain ⟨v, hvv⟩ : ∃ v, Hid (viewN g m1 f n = v) := ⟨_, rfl⟩
          rw [hvv.out] at hv1 hv2
          clear hmv hmv1 hTT hrv hvv hget
          (try clear hRR)
          (try clear hmid)
          (try clear hrn)
          have b0 : w7.cell? ⟨w4.heap.size, 0, none⟩ = some (.int .i64 f) := hWB.out.cell 0
          have b1 : w7.cell? ⟨w4.heap.size, 1, none⟩ = some (.int .i64 t) := hWB.out.cell 1
          have blt := hWB.out.lt
          go_wp2_with fail
          refine (same_calls _ _ m1 R g f t _ hM.out hR.out).mono ?_
          rw [hS1.out]
          rintro e wa ⟨rfl, hq⟩
          clear b0 b1 blt hS1
          (try replace hA1 := Lib.hid ((Keep.of_ext (X := fun _ => False) hq).blk hA1.out id))
          (try replace hN1 := Lib.hid ((Keep.of_ext (X := fun _ => False) hq).blk hN1.out id))
          (try replace hWB := Lib.hid ((Keep.of_ext (X := fun _ => False) hq).blk hWB.out id))
          (try replace hMB := Lib.hid ((Keep.of_ext (X := fun _ => False) hq).blk hMB.out id))
          (try replace hM := Lib.hid (hM.out.ext hq))
          (try replace hR := Lib.hid (hR.out.ext hq))
          (try replace hV := Lib.hid (hV.out.ext hq))
          (try replace hU := Lib.hid (hU.out.ext hq))
          (try replace hT := Lib.hid (hT.out.ext hq))
          replace hE := Lib.hid (hE.out.trans hq)
          clear hq
          clear hR
          have b0 : wa.cell? ⟨w4.heap.size, 0, none⟩ = some (.int .i64 f) := hWB.out.cell 0
          have b1 : wa.cell? ⟨w4.heap.size, 1, none⟩ = some (.int .i64 t) := hWB.out.cell 1
          have blt := hWB.out.lt
          go_wp2_with fail
          refine (same_calls _ _ m1 T g f t _ hM.out hV.out).mono ?_
          rw [hS2.out]
          rintro e wb ⟨rfl, hq⟩
          clear b0 b1 blt hS2
          (try replace hA1 := Lib.hid ((Keep.of_ext (X := fun _ => False) hq).blk hA1.out id))
          (try replace hN1 := Lib.hid ((Keep.of_ext (X := fun _ => False) hq).blk hN1.out id))
          (try replace hWB := Lib.hid ((Keep.of_ext (X := fun _ => False) hq).blk hWB.out id))
          (try replace hMB := Lib.hid ((Keep.of_ext (X := fun _ => False) hq).blk hMB.out id))
          (try replace hM := Lib.hid (hM.out.ext hq))
          (try replace hR := Lib.hid (hR.out.ext hq))
          (try replace hV := Lib.hid (hV.out.ext hq))
          (try replace hU := Lib.hid (hU.out.ext hq))
          (try replace hT := Lib.hid (hT.out.ext hq))
          replace hE := Lib.hid (hE.out.trans hq)
          clear hq
          have b0 : wb.cell? ⟨w4.heap.size, 0, none⟩ = some (.int .i64 f) := hWB.out.cell 0
          have b1 : wb.cell? ⟨w4.heap.size, 1, none⟩ = some (.int .i64 t) := hWB.out.cell 1
          have blt := hWB.out.lt
          go_wp2_with fail
          refine (view_calls _ m1 g f t _ hM.out).mono ?_
          rw [hv1.out]
          rintro e wc ⟨u, rfl, hu, hq⟩
          obtain ⟨uA, uC, rfl⟩ := hu.form
          clear b0 b1 blt hv1
          (try replace hA1 := Lib.hid ((Keep.of_ext (X := fun _ => False) hq).blk hA1.out id))
          (try replace hN1 := Lib.hid ((Keep.of_ext (X := fun _ => False) hq).blk hN1.out id))
          (try replace hWB := Lib.hid ((Keep.of_ext (X := fun _ => False) hq).blk hWB.out id))
          (try replace hMB := Lib.hid ((Keep.of_ext (X := fun _ => False) hq).blk hMB.out id))
          (try replace hM := Lib.hid (hM.out.ext hq))
          (try replace hR := Lib.hid (hR.out.ext hq))
          (try replace hV := Lib.hid (hV.out.ext hq))
          (try replace hU := Lib.hid (hU.out.ext hq))
          (try replace hT := Lib.hid (hT.out.ext hq))
          replace hE := Lib.hid (hE.out.trans hq)
          clear hq
          have hU := Lib.hid hu
          clear hu hM
          have b0 : wc.cell? ⟨w4.heap.size, 0, none⟩ = some (.int .i64 f) := hWB.out.cell 0
          have b1 : wc.cell? ⟨w4.heap.size, 1, none⟩ = some (.int .i64 t) := hWB.out.cell 1
          have blt := hWB.out.lt
          go_wp2_with fail
          refine (view_calls _ T g f t _ hV.out).mono ?_
          rw [hv2.out]
          rintro e wd ⟨u, rfl, hu, hq⟩
          obtain ⟨zA, zC, rfl⟩ := hu.form
          clear b0 b1 blt hv2
          (try replace hA1 := Lib.hid ((Keep.of_ext (X := fun _ => False) hq).blk hA1.out id))
          (try replace hN1 := Lib.hid ((Keep.of_ext (X := fun _ => False) hq).blk hN1.out id))
          (try replace hWB := Lib.hid ((Keep.of_ext (X := fun _ => False) hq).blk hWB.out id))
          (try replace hMB := Lib.hid ((Keep.of_ext (X := fun _ => False) hq).blk hMB.out id))
          (try replace hM := Lib.hid (hM.out.ext hq))
          (try replace hR := Lib.hid (hR.out.ext hq))
          (try replace hV := Lib.hid (hV.out.ext hq))
          (try replace hU := Lib.hid (hU.out.ext hq))
          (try replace hT := Lib.hid (hT.out.ext hq))
          replace hE := Lib.hid (hE.out.trans hq)
          clear hq
          have hZ := Lib.hid hu
          clear hu hV hWB
          go_wp2_with fail
          refine (rNumbers_calls _ _ v v _ hZ.out hU.out).mono ?_
          rw [decide_eq_true rfl]
          rintro e we ⟨rfl, hq⟩
          replace hE := Lib.hid (hE.out.trans hq)
          clear hq hU hZ
          go_wp2
          go_ret
          exact ⟨rfl, hE.out⟩
      · have d3 : decide (mt - 1 - r2 + 1 + p2 ≤ mf - r1 + p1) = false := decide_eq_false hge
        go_upto_region 24 with (fail)
        obtain ⟨bg, hbg⟩ : ∃ v, Hid (mf - r1 + p1 = v) := ⟨_, rfl⟩
        rw [hbg.out]
        clear d3
        obtain ⟨en, hen⟩ : ∃ v, Hid (mt - 1 - r2 + 1 + p2 = v) := ⟨_, rfl⟩
        rw [hen.out]
        have hmv := Lib.hid (hides_mov (g := g) (f := f) (bg := bg) (en := en) hget.out hval'.out hfs.out ⟨by show -100000 ≤ mf; omega, by show mt ≤ 100000; omega⟩ (by
          show mf - mf % sizeG g ≤ bg
          rw [hs.out, hr1.out]; have := hbg.out; omega) (by
          show bg < mf - mf % sizeG g + sizeG g
          rw [hs.out, hr1.out]; have := hbg.out; omega) (by
          show mt - 1 - (mt - 1) % sizeG g < en
          rw [hs.out, hr2.out]; have := hen.out; omega) (by
          show en ≤ mt - 1 - (mt - 1) % sizeG g + sizeG g
          rw [hs.out, hr2.out]; have := hen.out; omega) (by
          have h1 := hbg.out
          have h2 := hen.out
          omega))
        clear hbg hen
        have hT6 := Lib.hid hT.out.swap
        go_upto_region 25 with (at_builtin; refine wpList_append_any _ rfl (.tmp 129) (.tmp 136) _ rfl (w5.heap.size + 1) 47 j0 _ 3 24 Try.underlying37 hj0 jz0 jz1 jz2 rfl (by decide) (.slice (some ⟨g2, 0, none⟩) n2 c2) n2 _ rfl (hT6.out.o1.1.alloc _) (wB.heap.size + 1) (some ⟨wB.heap.size, 0, none⟩) 1 1 [.int .i64 bg, .int .i64 en, .int .i64 mk] rfl (reads_last _ #[_, _, _] _ 3 1 _ _ rfl (by omega) rfl) (three_ints _ _ _) (by unfold maxLen; omega) (by omega) (by rw [World.size_alloc]; omega) ?_; intro v7 w7 hown7 hg7 hat7; obtain ⟨g7, c7, rfl, hF7⟩ := (hT6.out.ext ((Ext.refl wB).alloc (.cells #[.int .i64 bg, .int .i64 en, .int .i64 mk] 47))).push hown7 hg7 hat7)
        have hT7 := Lib.hid hF7.swap
        have hM7 := Lib.hid ((Blk.alloc hMB.out (.cells #[.int .i64 bg, .int .i64 en, .int .i64 mk] 47)).grown hg7 (fun e => by have h := hT6.out.o1.lt; have h2 : w5.heap.size = g2 := Option.some.inj e; omega))
        have hq : Ext w5 w7 := ((hx.out.alloc (.cells #[.int .i64 bg, .int .i64 en, .int .i64 mk] 47)).grown hg7 (fun k e => by have h := hT6.out.o1.lt; have h2 : g2 = k := Option.some.inj e; omega))
        have hx7 := Lib.hid hq
        replace hM := Lib.hid (hM0.out.ext hq)
        replace hWB := Lib.hid ((Keep.of_ext (X := fun _ => False) hq).blk hWB0.out id)
        replace hE := Lib.hid (hE0.out.trans hq)
        clear hown7 hg7 hat7 hF7 hT6 hT hMB hx m0 m2 m3 q1 q2 hq hN1 hbm hsB
        generalize n2 + 1 = n3 at *
        have m0 : w7.cell? ⟨w5.heap.size, 0, none⟩ = some (.int .i64 mf) := hM7.out.cell 0
        have m2 : w7.cell? ⟨w5.heap.size, 1, none⟩ = some (.int .i64 mt) := hM7.out.cell 1
        have m3 : w7.cell? ⟨w5.heap.size, 2, none⟩ = some (.int .i64 mk) := hM7.out.cell 2
        have hbm := hM7.out.lt
        have hs7 := hx7.out.size
        go_upto_region 26 with (fail)
        obtain ⟨mid, hmid⟩ : ∃ v, Hid (mf + q = v) := ⟨_, rfl⟩
        rw [hmid.out]
        by_cases hlt : mf < mid
        · have d6 : decide (mf < mid) = true := decide_eq_true hlt
          have hrv := Lib.hid (hides_rev (mid := mid) hget.out hval'.out hlt (by have := hmid.out; show mid < mt; omega))
          have hdg : Hid (m1.reverse[dd]? = some ⟨mf, mt, mk⟩) := by
            show _ = _
            rw [List.getElem?_reverse (by omega), ← hget.out]
            congr 1
            have := hddn.out
            omega
          have fr : w7.frozen? ⟨g1, dd * 3 + 1, none⟩ = false := hT7.out.o1.1.frozenAt _
          have cr : w7.cell? ⟨g1, dd * 3 + 1, none⟩ = some (.int .i64 mt) := by
            rw [hT7.out.o1.1.cellAt (dd * 3 + 1) (by omega), markCells_at _ _ (by simp; omega) _ (by omega), hdg.out]
            rfl
          have hdl : dd < m1.length := by omega
          clear hlt hmid
          go_upto_region 28 with (fail)
          refine wp_abs (S := fun W => Hid (MTwo (w5.heap.size + 1) W g1 m1.length c1 (m1.reverse.set dd ⟨mf, mid, mk⟩) g7 n3 c7 ((m1.take k ++ m1.drop (k + 1)).reverse ++ [⟨bg, en, mk⟩])) ∧ Hid (Blk W w5.heap.size 47 #[.int .i64 mf, .int .i64 mt, .int .i64 mk]) ∧ Hid (Ext w5 W)) ?_ ?_
          · have hg1 := hT7.out.o1.lt
            exact ⟨Lib.hid (hT7.out.put hdg.out), Lib.hid (hM7.out.far (by show w5.heap.size ≠ g1; omega) _), Lib.hid (hx7.out.setCell (by show w5.heap.size ≤ g1; omega) _)⟩
          clear fr cr m0 m2 m3 hT7 hM7 hx7 hM hWB hE hs7 hbm
          rintro w8 ⟨hT, hMB, hx⟩
          have m0 : w8.cell? ⟨w5.heap.size, 0, none⟩ = some (.int .i64 mf) := hMB.out.cell 0
          have m2 : w8.cell? ⟨w5.heap.size, 1, none⟩ = some (.int .i64 mt) := hMB.out.cell 1
          have m3 : w8.cell? ⟨w5.heap.size, 2, none⟩ = some (.int .i64 mk) := hMB.out.cell 2
          have hbm := hMB.out.lt
          have hs8 := hx.out.size
          go_upto_region 29 with (at_builtin; refine wpList_append_any _ rfl (.tmp 165) (.tmp 174) _ rfl (w5.heap.size + 1) 47 j0 _ 3 24 Try.underlying37 hj0 jz0 jz1 jz2 rfl (by decide) (.slice (some ⟨g1, 0, none⟩) m1.length c1) m1.length _ rfl (hT.out.o1.1.alloc _) (w8.heap.size + 1) (some ⟨w8.heap.size, 0, none⟩) 1 1 [.int .i64 mid, .int .i64 mt, .int .i64 mk] rfl (reads_last _ #[_, _, _] _ 3 1 _ _ rfl (by omega) rfl) (three_ints _ _ _) (by unfold maxLen; omega) (by omega) (by rw [World.size_alloc]; omega) ?_; intro v9 w9 hown9 hg9 hat9; obtain ⟨g9, c9, rfl, hF9⟩ := (hT.out.ext ((Ext.refl w8).alloc (.cells #[.int .i64 mid, .int .i64 mt, .int .i64 mk] 47))).push hown9 hg9 hat9)
          have hR := Lib.hid hF9.o1.read
          have hV := Lib.hid hF9.o2.read
          have hq : Ext w5 w9 := ((hx.out.alloc (.cells #[.int .i64 mid, .int .i64 mt, .int .i64 mk] 47)).grown hg9 (fun k e => by have h := hT.out.o1.lt; have h2 : g1 = k := Option.some.inj e; omega))
          have hM := Lib.hid (hM0.out.ext hq)
          have hWB := Lib.hid ((Keep.of_ext (X := fun _ => False) hq).blk hWB0.out id)
          have hE := Lib.hid (hE0.out.trans hq)
          obtain ⟨R, hRR⟩ : ∃ R, Hid (m1.reverse.set dd ⟨mf, mid, mk⟩ ++ [(⟨mid, mt, mk⟩ : MarkD)] = R) := ⟨_, rfl⟩
          rw [hRR.out] at hR
          rw [← hddn.out, hRR.out] at hrv
          obtain ⟨rn, hrn⟩ : ∃ n, n = m1.length + 1 := ⟨_, rfl⟩
          rw [← hrn] at hR ⊢
          clear hown9 hg9 hat9 hF9 hT hMB hx m0 m2 m3 hq hs8 hbm hRR hrn hdl
          generalize g9 = rg at *
          generalize c9 = rc at *
          obtain ⟨T, hTT⟩ : ∃ T, Hid ((m1.take k ++ m1.drop (k + 1)).reverse ++ [(⟨bg, en, mk⟩ : MarkD)] = T) := ⟨_, rfl⟩
          have hmv1 : T.all markB = true ∧ ∀ n : Nat, viewN g m1 f n = viewN g T f n := hTT.out ▸ hmv.out
          rw [hTT.out] at hV
          have hS1 : Hid (sameG m1 R g f t = (true, 0)) := by show _ = _; rw [same_ok hval'.out hrv.out.1 hc'.out, decide_eq_true (hrv.out.2 g f n)]
          have hS2 : Hid (sameG m1 T g f t = (true, 0)) := by show _ = _; rw [same_ok hval'.out hmv1.1 hc'.out, decide_eq_true (hmv1.2 n)]
          have hv1 : Hid (viewG m1 g f t = (viewN g m1 f n, 0)) := view_ok hval'.out hc'.out
          have hv2 : Hid (viewG T g f t = (viewN g m1 f n, 0)) := by show _ = _; rw [view_ok hmv1.1 hc'.out, ← hmv1.2 n]
          obtain ⟨v, hvv⟩ : ∃ v, Hid (viewN g m1 f n = v) := ⟨_, rfl⟩
          rw [hvv.out] at hv1 hv2
          clear hmv hmv1 hTT hrv hvv hget
          (try clear hRR)
          (try clear hmid)
          (try clear hrn)
          have b0 : w9.cell? ⟨w4.heap.size, 0, none⟩ = some (.int .i64 f) := hWB.out.cell 0
          have b1 : w9.cell? ⟨w4.heap.size, 1, none⟩ = some (.int .i64 t) := hWB.out.cell 1
          have blt := hWB.out.lt
          go_wp2_with fail
          refine (same_calls _ _ m1 R g f t _ hM.out hR.out).mono ?_
          rw [hS1.out]
          rintro e wa ⟨rfl, hq⟩
          clear b0 b1 blt hS1
          (try replace hA1 := Lib.hid ((Keep.of_ext (X := fun _ => False) hq).blk hA1.out id))
          (try replace hN1 := Lib.hid ((Keep.of_ext (X := fun _ => False) hq).blk hN1.out id))
          (try replace hWB := Lib.hid ((Keep.of_ext (X := fun _ => False) hq).blk hWB.out id))
          (try replace hMB := Lib.hid ((Keep.of_ext (X := fun _ => False) hq).blk hMB.out id))
          (try replace hM := Lib.hid (hM.out.ext hq))
          (try replace hR := Lib.hid (hR.out.ext hq))
          (try replace hV := Lib.hid (hV.out.ext hq))
          (try replace hU := Lib.hid (hU.out.ext hq))
          (try replace hT := Lib.hid (hT.out.ext hq))
          replace hE := Lib.hid (hE.out.trans hq)
          clear hq
          clear hR
          have b0 : wa.cell? ⟨w4.heap.size, 0, none⟩ = some (.int .i64 f) := hWB.out.cell 0
          have b1 : wa.cell? ⟨w4.heap.size, 1, none⟩ = some (.int .i64 t) := hWB.out.cell 1
          have blt := hWB.out.lt
          go_wp2_with fail
          refine (same_calls _ _ m1 T g f t _ hM.out hV.out).mono ?_
          rw [hS2.out]
          rintro e wb ⟨rfl, hq⟩
          clear b0 b1 blt hS2
          (try replace hA1 := Lib.hid ((Keep.of_ext (X := fun _ => False) hq).blk hA1.out id))
          (try replace hN1 := Lib.hid ((Keep.of_ext (X := fun _ => False) hq).blk hN1.out id))
          (try replace hWB := Lib.hid ((Keep.of_ext (X := fun _ => False) hq).blk hWB.out id))
          (try replace hMB := Lib.hid ((Keep.of_ext (X := fun _ => False) hq).blk hMB.out id))
          (try replace hM := Lib.hid (hM.out.ext hq))
          (try replace hR := Lib.hid (hR.out.ext hq))
          (try replace hV := Lib.hid (hV.out.ext hq))
          (try replace hU := Lib.hid (hU.out.ext hq))
          (try replace hT := Lib.hid (hT.out.ext hq))
          replace hE := Lib.hid (hE.out.trans hq)
          clear hq
          have b0 : wb.cell? ⟨w4.heap.size, 0, none⟩ = some (.int .i64 f) := hWB.out.cell 0
          have b1 : wb.cell? ⟨w4.heap.size, 1, none⟩ = some (.int .i64 t) := hWB.out.cell 1
          have blt := hWB.out.lt
          go_wp2_with fail
          refine (view_calls _ m1 g f t _ hM.out).mono ?_
          rw [hv1.out]
          rintro e wc ⟨u, rfl, hu, hq⟩
          obtain ⟨uA, uC, rfl⟩ := hu.form
          clear b0 b1 blt hv1
          (try replace hA1 := Lib.hid ((Keep.of_ext (X := fun _ => False) hq).blk hA1.out id))
          (try replace hN1 := Lib.hid ((Keep.of_ext (X := fun _ => False) hq).blk hN1.out id))
          (try replace hWB := Lib.hid ((Keep.of_ext (X := fun _ => False) hq).blk hWB.out id))
          (try replace hMB := Lib.hid ((Keep.of_ext (X := fun _ => False) hq).blk hMB.out id))
          (try replace hM := Lib.hid (hM.out.ext hq))
          (try replace hR := Lib.hid (hR.out.ext hq))
          (try replace hV := Lib.hid (hV.out.ext hq))
          (try replace hU := Lib.hid (hU.out.ext hq))
          (try replace hT := Lib.hid (hT.out.ext hq))
          replace hE := Lib.hid (hE.out.trans hq)
          clear hq
          have hU := Lib.hid hu
          clear hu hM
          have b0 : wc.cell? ⟨w4.heap.size, 0, none⟩ = some (.int .i64 f) := hWB.out.cell 0
          have b1 : wc.cell? ⟨w4.heap.size, 1, none⟩ = some (.int .i64 t) := hWB.out.cell 1
          have blt := hWB.out.lt
          go_wp2_with fail
          refine (view_calls _ T g f t _ hV.out).mono ?_
          rw [hv2.out]
          rintro e wd ⟨u, rfl, hu, hq⟩
          obtain ⟨zA, zC, rfl⟩ := hu.form
          clear b0 b1 blt hv2
          (try replace hA1 := Lib.hid ((Keep.of_ext (X := fun _ => False) hq).blk hA1.out id))
          (try replace hN1 := Lib.hid ((Keep.of_ext (X := fun _ => False) hq).blk hN1.out id))
          (try replace hWB := Lib.hid ((Keep.of_ext (X := fun _ => False) hq).blk hWB.out id))
          (try replace hMB := Lib.hid ((Keep.of_ext (X := fun _ => False) hq).blk hMB.out id))
          (try replace hM := Lib.hid (hM.out.ext hq))
          (try replace hR := Lib.hid (hR.out.ext hq))
          (try replace hV := Lib.hid (hV.out.ext hq))
          (try replace hU := Lib.hid (hU.out.ext hq))
          (try replace hT := Lib.hid (hT.out.ext hq))
          replace hE := Lib.hid (hE.out.trans hq)
          clear hq
          have hZ := Lib.hid hu
          clear hu hV hWB
          go_wp2_with fail
          refine (rNumbers_calls _ _ v v _ hZ.out hU.out).mono ?_
          rw [decide_eq_true rfl]
          rintro e we ⟨rfl, hq⟩
          replace hE := Lib.hid (hE.out.trans hq)
          clear hq hU hZ
          go_wp2
          go_ret
          exact ⟨rfl, hE.out⟩
        · have d6 : decide (mf < mid) = false := decide_eq_false hlt
          have hrv := Lib.hid (hides_turn hval'.out)
          have hR := Lib.hid hT7.out.o1.read
          have hV := Lib.hid hT7.out.o2.read
          obtain ⟨R, hRR⟩ : ∃ R, Hid (m1.reverse = R) := ⟨_, rfl⟩
          rw [hRR.out] at hR hrv
          obtain ⟨rn, hrn⟩ : ∃ n, n = m1.length := ⟨_, rfl⟩
          generalize g1 = rg at *
          generalize c1 = rc at *
          clear hlt hT7 hM7 hx7
          go_upto_region 29 with (fail)
          clear m0 m2 m3 d6
          obtain ⟨T, hTT⟩ : ∃ T, Hid ((m1.take k ++ m1.drop (k + 1)).reverse ++ [(⟨bg, en, mk⟩ : MarkD)] = T) := ⟨_, rfl⟩
          have hmv1 : T.all markB = true ∧ ∀ n : Nat, viewN g m1 f n = viewN g T f n := hTT.out ▸ hmv.out
          rw [hTT.out] at hV
          have hS1 : Hid (sameG m1 R g f t = (true, 0)) := by show _ = _; rw [same_ok hval'.out hrv.out.1 hc'.out, decide_eq_true (hrv.out.2 g f n)]
          have hS2 : Hid (sameG m1 T g f t = (true, 0)) := by show _ = _; rw [same_ok hval'.out hmv1.1 hc'.out, decide_eq_true (hmv1.2 n)]
          have hv1 : Hid (viewG m1 g f t = (viewN g m1 f n, 0)) := view_ok hval'.out hc'.out
          have hv2 : Hid (viewG T g f t = (viewN g m1 f n, 0)) := by show _ = _; rw [view_ok hmv1.1 hc'.out, ← hmv1.2 n]
          obtain ⟨v, hvv⟩ : ∃ v, Hid (viewN g m1 f n = v) := ⟨_, rfl⟩
          rw [hvv.out] at hv1 hv2
          clear hmv hmv1 hTT hrv hvv hget
          (try clear hRR)
          (try clear hmid)
          (try clear hrn)
          have b0 : w7.cell? ⟨w4.heap.size, 0, none⟩ = some (.int .i64 f) := hWB.out.cell 0
          have b1 : w7.cell? ⟨w4.heap.size, 1, none⟩ = some (.int .i64 t) := hWB.out.cell 1
          have blt := hWB.out.lt
          go_wp2_with fail
          refine (same_calls _ _ m1 R g f t _ hM.out hR.out).mono ?_
          rw [hS1.out]
          rintro e wa ⟨rfl, hq⟩
          clear b0 b1 blt hS1
          (try replace hA1 := Lib.hid ((Keep.of_ext (X := fun _ => False) hq).blk hA1.out id))
          (try replace hN1 := Lib.hid ((Keep.of_ext (X := fun _ => False) hq).blk hN1.out id))
          (try replace hWB := Lib.hid ((Keep.of_ext (X := fun _ => False) hq).blk hWB.out id))
          (try replace hMB := Lib.hid ((Keep.of_ext (X := fun _ => False) hq).blk hMB.out id))
          (try replace hM := Lib.hid (hM.out.ext hq))
          (try replace hR := Lib.hid (hR.out.ext hq))
          (try replace hV := Lib.hid (hV.out.ext hq))
          (try replace hU := Lib.hid (hU.out.ext hq))
          (try replace hT := Lib.hid (hT.out.ext hq))
          replace hE := Lib.hid (hE.out.trans hq)
          clear hq
          clear hR
          have b0 : wa.cell? ⟨w4.heap.size, 0, none⟩ = some (.int .i64 f) := hWB.out.cell 0
          have b1 : wa.cell? ⟨w4.heap.size, 1, none⟩ = some (.int .i64 t) := hWB.out.cell 1
          have blt := hWB.out.lt
          go_wp2_with fail
          refine (same_calls _ _ m1 T g f t _ hM.out hV.out).mono ?_
          rw [hS2.out]
          rintro e wb ⟨rfl, hq⟩
          clear b0 b1 blt hS2
          (try replace hA1 := Lib.hid ((Keep.of_ext (X := fun _ => False) hq).blk hA1.out id))
          (try replace hN1 := Lib.hid ((Keep.of_ext (X := fun _ => False) hq).blk hN1.out id))
          (try replace hWB := Lib.hid ((Keep.of_ext (X := fun _ => False) hq).blk hWB.out id))
          (try replace hMB := Lib.hid ((Keep.of_ext (X := fun _ => False) hq).blk hMB.out id))
          (try replace hM := Lib.hid (hM.out.ext hq))
          (try replace hR := Lib.hid (hR.out.ext hq))
          (try replace hV := Lib.hid (hV.out.ext hq))
          (try replace hU := Lib.hid (hU.out.ext hq))
          (try replace hT := Lib.hid (hT.out.ext hq))
          replace hE := Lib.hid (hE.out.trans hq)
          clear hq
          have b0 : wb.cell? ⟨w4.heap.size, 0, none⟩ = some (.int .i64 f) := hWB.out.cell 0
          have b1 : wb.cell? ⟨w4.heap.size, 1, none⟩ = some (.int .i64 t) := hWB.out.cell 1
          have blt := hWB.out.lt
          go_wp2_with fail
          refine (view_calls _ m1 g f t _ hM.out).mono ?_
          rw [hv1.out]
          rintro e wc ⟨u, rfl, hu, hq⟩
          obtain ⟨uA, uC, rfl⟩ := hu.form
          clear b0 b1 blt hv1
          (try replace hA1 := Lib.hid ((Keep.of_ext (X := fun _ => False) hq).blk hA1.out id))
          (try replace hN1 := Lib.hid ((Keep.of_ext (X := fun _ => False) hq).blk hN1.out id))
          (try replace hWB := Lib.hid ((Keep.of_ext (X := fun _ => False) hq).blk hWB.out id))
          (try replace hMB := Lib.hid ((Keep.of_ext (X := fun _ => False) hq).blk hMB.out id))
          (try replace hM := Lib.hid (hM.out.ext hq))
          (try replace hR := Lib.hid (hR.out.ext hq))
          (try replace hV := Lib.hid (hV.out.ext hq))
          (try replace hU := Lib.hid (hU.out.ext hq))
          (try replace hT := Lib.hid (hT.out.ext hq))
          replace hE := Lib.hid (hE.out.trans hq)
          clear hq
          have hU := Lib.hid hu
          clear hu hM
          have b0 : wc.cell? ⟨w4.heap.size, 0, none⟩ = some (.int .i64 f) := hWB.out.cell 0
          have b1 : wc.cell? ⟨w4.heap.size, 1, none⟩ = some (.int .i64 t) := hWB.out.cell 1
          have blt := hWB.out.lt
          go_wp2_with fail
          refine (view_calls _ T g f t _ hV.out).mono ?_
          rw [hv2.out]
          rintro e wd ⟨u, rfl, hu, hq⟩
          obtain ⟨zA, zC, rfl⟩ := hu.form
          clear b0 b1 blt hv2
          (try replace hA1 := Lib.hid ((Keep.of_ext (X := fun _ => False) hq).blk hA1.out id))
          (try replace hN1 := Lib.hid ((Keep.of_ext (X := fun _ => False) hq).blk hN1.out id))
          (try replace hWB := Lib.hid ((Keep.of_ext (X := fun _ => False) hq).blk hWB.out id))
          (try replace hMB := Lib.hid ((Keep.of_ext (X := fun _ => False) hq).blk hMB.out id))
          (try replace hM := Lib.hid (hM.out.ext hq))
          (try replace hR := Lib.hid (hR.out.ext hq))
          (try replace hV := Lib.hid (hV.out.ext hq))
          (try replace hU := Lib.hid (hU.out.ext hq))
          (try replace hT := Lib.hid (hT.out.ext hq))
          replace hE := Lib.hid (hE.out.trans hq)
          clear hq
          have hZ := Lib.hid hu
          clear hu hV hWB
          go_wp2_with fail
          refine (rNumbers_calls _ _ v v _ hZ.out hU.out).mono ?_
          rw [decide_eq_true rfl]
          rintro e we ⟨rfl, hq⟩
          replace hE := Lib.hid (hE.out.trans hq)
          clear hq hU hZ
          go_wp2
          go_ret
          exact ⟨rfl, hE.out⟩
    · obtain ⟨i, rfl⟩ : ∃ i, j = i + 1 := ⟨j - 1, by omega⟩
      have hi1 : ((i + 1 : Nat) : Int) - 1 = (i : Int) := by omega
      rw [hi1]
      have d1 : decide (0 ≤ (i : Int)) = true := decide_eq_true (by omega)
      clear hi1 h0
      have hi : i < m1.length := by omega
      obtain ⟨bm2, om2, xf, xt, xk, e2, hb2, _, hxg, k0, k1, k2⟩ := hat1.out i hi wr hx.out
      cases e2
      have hsz := hx.out.size
      have hle1 : n1 = (revAt m1 (i + 1)).length := hT.out.o1.2
      have hle2 : n1 ≤ 5 := by rw [hle1]; unfold revAt; simp; omega
      clear hle1
      by_cases hik : i = k
      · have d2 : ((i : Int) != (k : Int)) = false := by rw [hik]; simp
        have hstep : Hid (revAt m1 i = revAt m1 (i + 1) ++ [⟨xf, xt, xk⟩]) := revAt_step hxg.out
        have hsame : Hid (movAt m1 k (i + 1) = movAt m1 k i) := by rw [hik]; exact (movAt_same m1 k).symm
        clear hik hxg
        rw [hsame.out] at hT
        go_upto_region 16 with (at_builtin; refine wpList_append_any _ rfl (.tmp 65) (.tmp 70) _ rfl (w5.heap.size + 1) 47 j0 _ 3 24 Try.underlying37 hj0 jz0 jz1 jz2 rfl (by decide) (.slice (some ⟨g1, 0, none⟩) n1 c1) n1 _ rfl (hT.out.o1.1.alloc _) (wr.heap.size + 1) (some ⟨wr.heap.size, 0, none⟩) 1 1 [.int .i64 xf, .int .i64 xt, .int .i64 xk] rfl (reads_last _ #[_, _, _] _ 3 1 _ _ rfl (by omega) rfl) (three_ints _ _ _) (by unfold maxLen; omega) (by omega) (by rw [World.size_alloc]; omega) ?_; intro v5 w5' hown5 hg5 hat5; obtain ⟨g5, c5, rfl, hF5⟩ := (hT.out.ext ((Ext.refl wr).alloc (.cells #[.int .i64 xf, .int .i64 xt, .int .i64 xk] 47))).push hown5 hg5 hat5)
        have hT5 := Lib.hid hF5
        have hM5 := Lib.hid ((Blk.alloc hMB.out (.cells #[.int .i64 xf, .int .i64 xt, .int .i64 xk] 47)).grown hg5 (fun e => by have h := hT.out.o1.lt; have h2 : w5.heap.size = g1 := Option.some.inj e; omega))
        have hx5 := Lib.hid ((hx.out.alloc (.cells #[.int .i64 xf, .int .i64 xt, .int .i64 xk] 47)).grown hg5 (fun k e => by have h := hT.out.o1.lt; have h2 : g1 = k := Option.some.inj e; omega))
        clear hown5 hg5 hat5 hF5 hT hMB hx k0 k1 k2 hb2 hsz
        rw [← hstep.out] at hT5
        clear hstep hsame
        go_wp2
        go_roundw
        case rel => first | exact ⟨i, _, _, _, _, _, _, by omega, by omega, hn2l, rfl, rfl, rfl, hT5, hM5, hx5⟩ | ((repeat apply Exists.intro); exact ⟨⟨i, _, _, _, _, _, _, by omega, by omega, hn2l, rfl, rfl, rfl, hT5, hM5, hx5⟩, rfl⟩)
        case measure => simp [intOf] <;> omega
      · have d2 : ((i : Int) != (k : Int)) = true := by simp; omega
        have hstep : Hid (revAt m1 i = revAt m1 (i + 1) ++ [⟨xf, xt, xk⟩]) := revAt_step hxg.out
        have hstep2 : Hid (movAt m1 k i = movAt m1 k (i + 1) ++ [⟨xf, xt, xk⟩]) := movAt_step hxg.out hik
        have hl2 : n2 = (movAt m1 k (i + 1)).length := hT.out.o2.2
        have hl3 := movAt_len m1 k i
        rw [hstep2.out, List.length_append, List.length_singleton, ← hl2] at hl3
        have hxg2 := hxg
        clear hik hxg hl2
        go_upto_region 16 with (at_builtin; refine wpList_append_any _ rfl (.tmp 65) (.tmp 70) _ rfl (w5.heap.size + 1) 47 j0 _ 3 24 Try.underlying37 hj0 jz0 jz1 jz2 rfl (by decide) (.slice (some ⟨g1, 0, none⟩) n1 c1) n1 _ rfl (hT.out.o1.1.alloc _) (wr.heap.size + 1) (some ⟨wr.heap.size, 0, none⟩) 1 1 [.int .i64 xf, .int .i64 xt, .int .i64 xk] rfl (reads_last _ #[_, _, _] _ 3 1 _ _ rfl (by omega) rfl) (three_ints _ _ _) (by unfold maxLen; omega) (by omega) (by rw [World.size_alloc]; omega) ?_; intro v5 w5' hown5 hg5 hat5; obtain ⟨g5, c5, rfl, hF5⟩ := (hT.out.ext ((Ext.refl wr).alloc (.cells #[.int .i64 xf, .int .i64 xt, .int .i64 xk] 47))).push hown5 hg5 hat5)
        have hT5 := Lib.hid hF5
        have hM5 := Lib.hid ((Blk.alloc hMB.out (.cells #[.int .i64 xf, .int .i64 xt, .int .i64 xk] 47)).grown hg5 (fun e => by have h := hT.out.o1.lt; have h2 : w5.heap.size = g1 := Option.some.inj e; omega))
        have hx5 := Lib.hid ((hx.out.alloc (.cells #[.int .i64 xf, .int .i64 xt, .int .i64 xk] 47)).grown hg5 (fun k e => by have h := hT.out.o1.lt; have h2 : g1 = k := Option.some.inj e; omega))
        clear hown5 hg5 hat5 hF5 hT hMB hx k0 k1 k2 hb2 hsz
        rw [← hstep.out] at hT5
        clear hstep
        obtain ⟨bm3, om3, xf', xt', xk', e2, hb3, _, hxg', k0, k1, k2⟩ := hat1.out i hi w5' hx5.out
        cases e2
        have hsz5 := hx5.out.size
        obtain ⟨rfl, rfl, rfl⟩ : xf' = xf ∧ xt' = xt ∧ xk' = xk := by
          have := hxg'.out.symm.trans hxg2.out
          cases this
          exact ⟨rfl, rfl, rfl⟩
        clear hxg' hxg2
        have hT6 := Lib.hid hT5.out.swap
        clear hT5
        go_upto_region 14 with (at_builtin; refine wpList_append_any _ rfl (.tmp 75) (.tmp 80) _ rfl (w5.heap.size + 1) 47 j0 _ 3 24 Try.underlying37 hj0 jz0 jz1 jz2 rfl (by decide) (.slice (some ⟨g2, 0, none⟩) n2 c2) n2 _ rfl (hT6.out.o1.1.alloc _) (w5'.heap.size + 1) (some ⟨w5'.heap.size, 0, none⟩) 1 1 [.int .i64 xf', .int .i64 xt', .int .i64 xk'] rfl (reads_last _ #[_, _, _] _ 3 1 _ _ rfl (by omega) rfl) (three_ints _ _ _) (by unfold maxLen; omega) (by omega) (by rw [World.size_alloc]; omega) ?_; intro v7 w7 hown7 hg7 hat7; obtain ⟨g7, c7, rfl, hF7⟩ := (hT6.out.ext ((Ext.refl w5').alloc (.cells #[.int .i64 xf', .int .i64 xt', .int .i64 xk'] 47))).push hown7 hg7 hat7)
        rw [← hstep2.out] at hF7
        have hT7 := Lib.hid hF7.swap
        have hM7 := Lib.hid ((Blk.alloc hM5.out (.cells #[.int .i64 xf', .int .i64 xt', .int .i64 xk'] 47)).grown hg7 (fun e => by have h := hT6.out.o1.lt; have h2 : w5.heap.size = g2 := Option.some.inj e; omega))
        have hx7 := Lib.hid ((hx5.out.alloc (.cells #[.int .i64 xf', .int .i64 xt', .int .i64 xk'] 47)).grown hg7 (fun k e => by have h := hT6.out.o1.lt; have h2 : g2 = k := Option.some.inj e; omega))
        clear hown7 hg7 hat7 hF7 hT6 hM5 hx5 k0 k1 k2 hb3 hsz5 hstep2
        go_wp2
        go_roundw
        case rel => first | exact ⟨i, _, _, _, _, _, _, by omega, by omega, by omega, rfl, rfl, rfl, hT7, hM7, hx7⟩ | ((repeat apply Exists.intro); exact ⟨⟨i, _, _, _, _, _, _, by omega, by omega, by omega, rfl, rfl, rfl, hT7, hM7, hx7⟩, rfl⟩)
        case measure => simp [intOf] <;> omega
end Go.Proofs.Ytcmcojmhlgknoaa
