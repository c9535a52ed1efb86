/- The law CoarseGrains, walked: true for every two lists of numbers and every question. -/
import Derived.Test.YtcmcojmhlgknoaaGN
namespace Go.Proofs.Ytcmcojmhlgknoaa
open Go.RowKit

theorem tmodG {g : Int} (hg : 1 ≤ g ∧ g ≤ 4) (x : Int) : -4 ≤ x.tmod g ∧ x.tmod g ≤ 4 ∧ (x.tmod g + g).tmod g = x % g := by
  have h4 : g = 1 ∨ g = 2 ∨ g = 3 ∨ g = 4 := by omega
  have h : -4 ≤ x.tmod g ∧ x.tmod g ≤ 4 ∧ 0 ≤ x.tmod g + g ∧ (x.tmod g + g) % g = x % g := by
    by_cases h : 0 ≤ x
    · rw [Int.tmod_eq_emod_of_nonneg h]
      rcases h4 with rfl | rfl | rfl | rfl <;> omega
    · have e : x.tmod g = -((-x) % g) := by
        rw [show x = -(-x) by omega, Int.neg_tmod, Int.tmod_eq_emod_of_nonneg (by omega), Int.neg_neg]
      rw [e]
      rcases h4 with rfl | rfl | rfl | rfl <;> omega
  refine ⟨h.1, h.2.1, ?_⟩
  rw [Int.tmod_eq_emod_of_nonneg h.2.2.1]
  exact h.2.2.2
/-- windows of whole days -/
theorem cells_day {g f t : Int} (hg : 1 ≤ g ∧ g ≤ 4) (hf : f % 1440 = 0) (ht : t % 1440 = 0) (hft : f ≤ t) (h1 : -100000 ≤ f) (h2 : t ≤ 100000) (h3 : t - f ≤ 50000) : ∃ n : Nat, cellsG g f t = ((n : Int), 0) ∧ n ≤ 50000 := by
  have hw : windowB f t = true := by rw [window_iff]; omega
  have hs := size_pos g
  have hfs : f % sizeG g = 0 ∧ t % sizeG g = 0 := by
    rcases size_cases (g := g) with h | h | h <;> rw [h] <;> omega
  have hd : (t - f) / sizeG g ≤ t - f := Int.ediv_le_self _ (by omega)
  have hd0 : 0 ≤ (t - f) / sizeG g := Int.ediv_nonneg (by omega) (by omega)
  refine ⟨((t - f) / sizeG g).toNat, ?_, by omega⟩
  unfold cellsG
  rw [hw, show grainB g = true by unfold grainB; rw [decide_eq_true (show 0 ≤ g by omega), decide_eq_true (show g ≤ 4 by omega)]; rfl, Bool.and_true, if_pos rfl, if_neg (by omega), if_pos hfs, if_neg (by omega), Int.toNat_of_nonneg hd0]
theorem coars_ok {g to f t : Int} {l : List MarkD} {n m : Nat} (h1 : 1 ≤ to) (h2 : to ≤ g) (hl : l.all markB = true) (hc : cellsG g f t = ((n : Int), 0)) (hd : cellsG to f t = ((m : Int), 0)) :
    coarserG ((viewN g l f n).map fun k : Nat => (k : Int)) g to f t = (viewN to l f m, 0) := by
  have hc0 : (cellsG g f t).2 = 0 := by rw [hc]
  have hd0 : (cellsG to f t).2 = 0 := by rw [hd]
  have hnm := cells_ratio hc0 hd0 h2 (show (cellsG g f t).1 = n by rw [hc]) (show (cellsG to f t).1 = m by rw [hd])
  have e : ((viewN g l f n).map fun k : Nat => (k : Int)).map Int.toNat = viewN g l f n := by
    rw [List.map_map]
    exact (List.map_congr_left fun x _ => Int.toNat_natCast x).trans (List.map_id _)
  unfold coarserG
  rw [hc, if_pos rfl, view_possible n hl, decide_eq_true (show 0 ≤ to by omega), decide_eq_true h2, Bool.and_true, Bool.and_true, if_pos rfl, hd, if_pos rfl, e, Int.toNat_natCast, view_coarser h1 h2 (cells_ok hc0).1.2 rfl hnm hl]
set_option maxHeartbeats 12800000 in
set_option maxRecDepth 100000 in
theorem coarseGrains_calls (va : Value) (l : List T16) (vb : Value) (l2 : List T16) (vx : Value) (x : AskD) (w : World) (hl : Tri16 w va l) (hl2 : Tri16 w vb l2) (hx : AskV w vx x) :
    Calls Try.prog 8 #[va, vb, vx] w fun e w' => e = .returned (.bool true) ∧ Ext w w' := by
  obtain ⟨gr, tr, a, b⟩ := x
  obtain ⟨rfl, ha, hb⟩ := hx
  dsimp only at ha hb ⊢
  obtain ⟨ha0, ha1⟩ := ha
  obtain ⟨hb0, hb1⟩ := hb
  have hL := Lib.hid hl
  have hL2 := Lib.hid hl2
  obtain ⟨lA, lC, rfl⟩ := hl.form
  obtain ⟨kA, kC, rfl⟩ := hl2.form
  clear hl hl2
  obtain ⟨g, hg⟩ : ∃ g, Hid (grainL gr = g) := ⟨_, rfl⟩
  have hg4 : 1 ≤ g ∧ g ≤ 4 := hg.out ▸ grain_in gr
  obtain ⟨to, hto⟩ : ∃ to, Hid (1 + tr % g = to) := ⟨_, rfl⟩
  have hto4 : 1 ≤ to ∧ to ≤ g := by
    rw [← hto.out]
    have := Int.emod_nonneg tr (show g ≠ 0 by omega)
    have := Int.emod_lt_of_pos tr (show 0 < g by omega)
    omega
  obtain ⟨f, hf⟩ : ∃ f, Hid (1440 * (a % 3 - 1) = f) := ⟨_, rfl⟩
  obtain ⟨t, ht⟩ : ∃ t, Hid (1440 * (1 + b % 2) = t) := ⟨_, rfl⟩
  have hfb : -1440 ≤ f ∧ f ≤ 1440 ∧ f % 1440 = 0 := by rw [← hf.out]; omega
  have htb : 1440 ≤ t ∧ t ≤ 2880 ∧ t % 1440 = 0 := by rw [← ht.out]; omega
  have hcells : ∀ k : Int, 1 ≤ k → k ≤ 4 → ∃ n : Nat, cellsG k f t = ((n : Int), 0) ∧ n ≤ 50000 := fun k h1 h2 => cells_day ⟨h1, h2⟩ hfb.2.2 htb.2.2 (by omega) (by omega) (by omega) (by omega)
  obtain ⟨m1, hm1⟩ : ∃ m, Hid (madeL l = m) := ⟨_, rfl⟩
  obtain ⟨m2, hm2⟩ : ∃ m, Hid (madeL l2 = m) := ⟨_, rfl⟩
  have hval : m1.all markB = true := hm1.out ▸ made_all l
  have hval2 : m2.all markB = true := hm2.out ▸ made_all l2
  obtain ⟨n, hc, hnb⟩ := hcells g hg4.1 hg4.2
  obtain ⟨m, hd, _⟩ := hcells to hto4.1 (by omega)
  have hview := Lib.hid (view_ok hval hc)
  have hview2 := Lib.hid (view_ok hval hd)
  have hcoars := Lib.hid (coars_ok hto4.1 hto4.2 hval hc hd)
  have hsame := Lib.hid (same_ok hval hval2 hc)
  have hsame2 := Lib.hid (same_ok hval hval2 hd)
  have himp : Hid (viewN g m1 f n = viewN g m2 f n → viewN to m1 f m = viewN to m2 f m) := fun h => by
    have := same_coarser hto4.1 hto4.2 (show (cellsG g f t).2 = 0 by rw [hc]) (show (cellsG to f t).2 = 0 by rw [hd]) (show (cellsG g f t).1 = n by rw [hc]) hval hval2 h
    rwa [hd, Int.toNat_natCast] at this
  obtain ⟨v, hv⟩ : ∃ v, Hid (viewN g m1 f n = v) := ⟨_, rfl⟩
  obtain ⟨u, hu0⟩ : ∃ u, Hid (viewN to m1 f m = u) := ⟨_, rfl⟩
  have hmid : Hid (∀ k : Int, to ≤ k → k ≤ g → ∃ s : List Nat, coarserG (v.map fun k : Nat => (k : Int)) g k f t = (s, 0) ∧ coarserG (s.map fun k : Nat => (k : Int)) k to f t = (u, 0)) := fun k h1 h2 => by
    obtain ⟨q, hq, _⟩ := hcells k (by omega) (by omega)
    refine ⟨viewN k m1 f q, ?_, ?_⟩
    · rw [← hv.out]; exact coars_ok (by omega) h2 hval hc hq
    · rw [← hu0.out]; exact coars_ok hto4.1 h1 hval hq hd
  obtain ⟨p1, hp1⟩ : ∃ p, Hid (decide (viewN g m1 f n = viewN g m2 f n) = p) := ⟨_, rfl⟩
  obtain ⟨p2, hp2⟩ : ∃ p, Hid (decide (viewN to m1 f m = viewN to m2 f m) = p) := ⟨_, rfl⟩
  have hpp : p1 = true → p2 = true := fun h => by
    rw [← hp2.out, decide_eq_true_iff]
    rw [← hp1.out, decide_eq_true_iff] at h
    exact himp.out h
  rw [hp1.out] at hsame
  rw [hp2.out] at hsame2
  rw [hv.out] at hview hcoars
  rw [hu0.out] at hview2 hcoars
  obtain ⟨t1, t2, t3⟩ := tmodG hg4 tr
  have e1 : a.tmod 3 = a % 3 := Int.tmod_eq_emod_of_nonneg ha0
  have e2 : b.tmod 2 = b % 2 := Int.tmod_eq_emod_of_nonneg hb0
  have tb0 := Int.emod_nonneg tr (show g ≠ 0 by omega)
  have tb1 := Int.emod_lt_of_pos tr (show 0 < g by omega)
  have hgz : (g == 0) = false := by rw [beq_eq_false_iff_ne]; omega
  have hft : Hid (f ≤ t) := by show f ≤ t; omega
  clear hc hd hcells hval hval2 himp hv hu0 hp1 hp2
  go_enter Try.func8, Try.ntmps8
  go_wp2_with fail
  refine (sanity_calls _).mono ?_
  rintro e w1 ⟨rfl, hq⟩
  have hA1 : Hid (Blk w1 w.heap.size 25 #[.int .i64 gr, .int .i64 tr, .int .u8 a, .int .u8 b]) := Lib.hid ((Keep.of_ext (X := fun _ => False) hq).blk (blk_new' rfl rfl) id)
  have hE := Lib.hid (((Ext.refl w).alloc (.cells #[.int .i64 gr, .int .i64 tr, .int .u8 a, .int .u8 b] 25)).trans hq)
  clear hq
  go_wp2_with fail
  refine (rMade_calls _ l _ (hL.out.ext hE.out)).mono ?_
  rintro e w2 ⟨vm, rfl, hm, hq⟩
  rw [hm1.out] at hm
  obtain ⟨mA, mC, rfl⟩ := hm.read.form
  (try replace hA1 := Lib.hid ((Keep.of_ext (X := fun _ => False) hq).blk hA1.out id))
  (try replace hWB := Lib.hid ((Keep.of_ext (X := fun _ => False) hq).blk hWB.out id))
  (try replace hM := Lib.hid (hM.out.ext hq))
  (try replace hM2 := Lib.hid (hM2.out.ext hq))
  (try replace hV := Lib.hid (hV.out.ext hq))
  (try replace hU := Lib.hid (hU.out.ext hq))
  (try replace hC := Lib.hid (hC.out.ext hq))
  (try replace hS := Lib.hid (hS.out.ext hq))
  replace hE := Lib.hid (hE.out.trans hq)
  clear hq
  have hM := Lib.hid hm.read
  clear hm hL hm1
  go_wp2_with fail
  refine (rMade_calls _ l2 _ (hL2.out.ext hE.out)).mono ?_
  rintro e w3 ⟨vm, rfl, hm, hq⟩
  rw [hm2.out] at hm
  obtain ⟨nA, nC, rfl⟩ := hm.read.form
  (try replace hA1 := Lib.hid ((Keep.of_ext (X := fun _ => False) hq).blk hA1.out id))
  (try replace hWB := Lib.hid ((Keep.of_ext (X := fun _ => False) hq).blk hWB.out id))
  (try replace hM := Lib.hid (hM.out.ext hq))
  (try replace hM2 := Lib.hid (hM2.out.ext hq))
  (try replace hV := Lib.hid (hV.out.ext hq))
  (try replace hU := Lib.hid (hU.out.ext hq))
  (try replace hC := Lib.hid (hC.out.ext hq))
  (try replace hS := Lib.hid (hS.out.ext hq))
  replace hE := Lib.hid (hE.out.trans hq)
  clear hq
  have hM2 := Lib.hid hm.read
  clear hm hL2 hm2
  have c0 : w3.cell? ⟨w.heap.size, 0, none⟩ = some (.int .i64 gr) := hA1.out.cell 0
  go_wp2_with fail
  refine (grain_calls gr _).mono ?_
  rw [hg.out]
  rintro e w4 ⟨rfl, hq⟩
  clear c0 hg
  (try replace hA1 := Lib.hid ((Keep.of_ext (X := fun _ => False) hq).blk hA1.out id))
  (try replace hWB := Lib.hid ((Keep.of_ext (X := fun _ => False) hq).blk hWB.out id))
  (try replace hM := Lib.hid (hM.out.ext hq))
  (try replace hM2 := Lib.hid (hM2.out.ext hq))
  (try replace hV := Lib.hid (hV.out.ext hq))
  (try replace hU := Lib.hid (hU.out.ext hq))
  (try replace hC := Lib.hid (hC.out.ext hq))
  (try replace hS := Lib.hid (hS.out.ext hq))
  replace hE := Lib.hid (hE.out.trans hq)
  clear hq
  have c1 : w4.cell? ⟨w.heap.size, 1, none⟩ = some (.int .i64 tr) := hA1.out.cell 1
  have c2 : w4.cell? ⟨w.heap.size, 2, none⟩ = some (.int .u8 a) := hA1.out.cell 2
  have c3 : w4.cell? ⟨w.heap.size, 3, none⟩ = some (.int .u8 b) := hA1.out.cell 3
  go_wp2_with fail
  rw [hf.out, ht.out, hto.out]
  clear c1 c2 c3 hA1 hf ht t1 t2 t3 e1 e2 tb0 tb1 hgz
  have hWB := Lib.hid (blk_new' (w := w4) (g := w4.heap.size) (t := 28) (cs := #[.int .i64 f, .int .i64 t]) rfl rfl)
  replace hM := Lib.hid (hM.out.ext ((Ext.refl w4).alloc (.cells #[.int .i64 f, .int .i64 t] 28)))
  replace hM2 := Lib.hid (hM2.out.ext ((Ext.refl w4).alloc (.cells #[.int .i64 f, .int .i64 t] 28)))
  replace hE := Lib.hid (hE.out.alloc (.cells #[.int .i64 f, .int .i64 t] 28))
  refine (view_calls _ m1 g f t _ hM.out).mono ?_
  rw [hview.out]
  rintro e w5 ⟨v, rfl, hu, hq⟩
  obtain ⟨VA, VC, rfl⟩ := hu.form
  (try clear b0 b1 blt)
  (try replace hA1 := Lib.hid ((Keep.of_ext (X := fun _ => False) hq).blk hA1.out id))
  (try replace hWB := Lib.hid ((Keep.of_ext (X := fun _ => False) hq).blk hWB.out id))
  (try replace hM := Lib.hid (hM.out.ext hq))
  (try replace hM2 := Lib.hid (hM2.out.ext hq))
  (try replace hV := Lib.hid (hV.out.ext hq))
  (try replace hU := Lib.hid (hU.out.ext hq))
  (try replace hC := Lib.hid (hC.out.ext hq))
  (try replace hS := Lib.hid (hS.out.ext hq))
  replace hE := Lib.hid (hE.out.trans hq)
  clear hq
  have hV := Lib.hid hu
  clear hu
  have b0 : w5.cell? ⟨w4.heap.size, 0, none⟩ = some (.int .i64 f) := hWB.out.cell 0
  have b1 : w5.cell? ⟨w4.heap.size, 1, none⟩ = some (.int .i64 t) := hWB.out.cell 1
  have blt := hWB.out.lt
  generalize tr % g = trg at hto ⊢
  generalize tr.tmod g = tmg
  clear hto
  go_wp2_with fail
  refine (view_calls _ m1 to f t _ hM.out).mono ?_
  rw [hview2.out]
  rintro e w6 ⟨v, rfl, hu, hq⟩
  obtain ⟨UA, UC, rfl⟩ := hu.form
  (try clear b0 b1 blt)
  (try replace hA1 := Lib.hid ((Keep.of_ext (X := fun _ => False) hq).blk hA1.out id))
  (try replace hWB := Lib.hid ((Keep.of_ext (X := fun _ => False) hq).blk hWB.out id))
  (try replace hM := Lib.hid (hM.out.ext hq))
  (try replace hM2 := Lib.hid (hM2.out.ext hq))
  (try replace hV := Lib.hid (hV.out.ext hq))
  (try replace hU := Lib.hid (hU.out.ext hq))
  (try replace hC := Lib.hid (hC.out.ext hq))
  (try replace hS := Lib.hid (hS.out.ext hq))
  replace hE := Lib.hid (hE.out.trans hq)
  clear hq
  have hU := Lib.hid hu
  clear hu
  have b0 : w6.cell? ⟨w4.heap.size, 0, none⟩ = some (.int .i64 f) := hWB.out.cell 0
  have b1 : w6.cell? ⟨w4.heap.size, 1, none⟩ = some (.int .i64 t) := hWB.out.cell 1
  have blt := hWB.out.lt
  go_wp2_with fail
  have hVi : Ints w6 (.slice VA v.length VC) (v.map fun k : Nat => (k : Int)) := hV.out
  refine (coarser_calls _ _ g to f t _ hVi).mono ?_
  rw [hcoars.out]
  clear hVi
  rintro e w7 ⟨v, rfl, hu, hq⟩
  obtain ⟨CA, CC, rfl⟩ := hu.form
  (try clear b0 b1 blt)
  (try replace hA1 := Lib.hid ((Keep.of_ext (X := fun _ => False) hq).blk hA1.out id))
  (try replace hWB := Lib.hid ((Keep.of_ext (X := fun _ => False) hq).blk hWB.out id))
  (try replace hM := Lib.hid (hM.out.ext hq))
  (try replace hM2 := Lib.hid (hM2.out.ext hq))
  (try replace hV := Lib.hid (hV.out.ext hq))
  (try replace hU := Lib.hid (hU.out.ext hq))
  (try replace hC := Lib.hid (hC.out.ext hq))
  (try replace hS := Lib.hid (hS.out.ext hq))
  replace hE := Lib.hid (hE.out.trans hq)
  clear hq
  have hC := Lib.hid hu
  clear hu
  have b0 : w7.cell? ⟨w4.heap.size, 0, none⟩ = some (.int .i64 f) := hWB.out.cell 0
  have b1 : w7.cell? ⟨w4.heap.size, 1, none⟩ = some (.int .i64 t) := hWB.out.cell 1
  have blt := hWB.out.lt
  have hnlt : decide (t < f) = false := decide_eq_false (by have := hft.out; omega)
  go_wp2_with fail
  refine (rNumbers_calls _ _ u u _ hC.out hU.out).mono ?_
  rw [show decide (u = u) = true by simp]
  rintro e w8 ⟨rfl, hq⟩
  clear b0 b1 blt hnlt
  (try replace hA1 := Lib.hid ((Keep.of_ext (X := fun _ => False) hq).blk hA1.out id))
  (try replace hWB := Lib.hid ((Keep.of_ext (X := fun _ => False) hq).blk hWB.out id))
  (try replace hM := Lib.hid (hM.out.ext hq))
  (try replace hM2 := Lib.hid (hM2.out.ext hq))
  (try replace hV := Lib.hid (hV.out.ext hq))
  (try replace hU := Lib.hid (hU.out.ext hq))
  (try replace hC := Lib.hid (hC.out.ext hq))
  (try replace hS := Lib.hid (hS.out.ext hq))
  replace hE := Lib.hid (hE.out.trans hq)
  clear hq
  clear hview hview2 hcoars hC
  go_wp2_with fail
  go_loopw [19] (fun vi wr => ∃ k : Int, to ≤ k ∧ k ≤ g + 1 ∧ vi = .int .i64 k ∧ Hid (Blk wr w4.heap.size 28 #[.int .i64 f, .int .i64 t]) ∧ Hid (Marks wr (.slice mA m1.length mC) m1) ∧ Hid (Marks wr (.slice nA m2.length nC) m2) ∧ Hid (Nums wr (.slice VA v.length VC) v) ∧ Hid (Nums wr (.slice UA u.length UC) u) ∧ Hid (Ext w wr)) (fun vi _ => (5 - intOf vi).toNat)
  case atStart => exact ⟨to, by omega, by omega, rfl, hWB, hM, hM2, hV, hU, hE⟩
  case round =>
    clear hWB hM hM2 hV hU hE
    obtain ⟨k, hk1, hkg, rfl, hWB, hM, hM2, hV, hU, hE⟩ := hrel
    by_cases h1 : k ≤ g
    · obtain ⟨s, hs1, hs2⟩ := hmid.out k hk1 h1
      have hs1' := Lib.hid hs1
      have hs2' := Lib.hid hs2
      clear hs1 hs2
      have b0 : wr.cell? ⟨w4.heap.size, 0, none⟩ = some (.int .i64 f) := hWB.out.cell 0
      have b1 : wr.cell? ⟨w4.heap.size, 1, none⟩ = some (.int .i64 t) := hWB.out.cell 1
      have blt := hWB.out.lt
      go_wp2_with fail
      have hVi : Ints wr (.slice VA v.length VC) (v.map fun k : Nat => (k : Int)) := hV.out
      refine (coarser_calls _ _ g k f t _ hVi).mono ?_
      rw [hs1'.out]
      clear hVi
      rintro e wB ⟨v, rfl, hu, hq⟩
      obtain ⟨SA, SC, rfl⟩ := hu.form
      (try clear b0 b1 blt)
      (try replace hA1 := Lib.hid ((Keep.of_ext (X := fun _ => False) hq).blk hA1.out id))
      (try replace hWB := Lib.hid ((Keep.of_ext (X := fun _ => False) hq).blk hWB.out id))
      (try replace hM := Lib.hid (hM.out.ext hq))
      (try replace hM2 := Lib.hid (hM2.out.ext hq))
      (try replace hV := Lib.hid (hV.out.ext hq))
      (try replace hU := Lib.hid (hU.out.ext hq))
      (try replace hC := Lib.hid (hC.out.ext hq))
      (try replace hS := Lib.hid (hS.out.ext hq))
      replace hE := Lib.hid (hE.out.trans hq)
      clear hq
      have hS := Lib.hid hu
      clear hu
      have b0 : wB.cell? ⟨w4.heap.size, 0, none⟩ = some (.int .i64 f) := hWB.out.cell 0
      have b1 : wB.cell? ⟨w4.heap.size, 1, none⟩ = some (.int .i64 t) := hWB.out.cell 1
      have blt := hWB.out.lt
      go_wp2_with fail
      have hSi : Ints wB (.slice SA s.length SC) (s.map fun k : Nat => (k : Int)) := hS.out
      refine (coarser_calls _ _ k to f t _ hSi).mono ?_
      rw [hs2'.out]
      clear hSi
      rintro e wC ⟨v, rfl, hu, hq⟩
      obtain ⟨CA, CC, rfl⟩ := hu.form
      (try clear b0 b1 blt)
      (try replace hA1 := Lib.hid ((Keep.of_ext (X := fun _ => False) hq).blk hA1.out id))
      (try replace hWB := Lib.hid ((Keep.of_ext (X := fun _ => False) hq).blk hWB.out id))
      (try replace hM := Lib.hid (hM.out.ext hq))
      (try replace hM2 := Lib.hid (hM2.out.ext hq))
      (try replace hV := Lib.hid (hV.out.ext hq))
      (try replace hU := Lib.hid (hU.out.ext hq))
      (try replace hC := Lib.hid (hC.out.ext hq))
      (try replace hS := Lib.hid (hS.out.ext hq))
      replace hE := Lib.hid (hE.out.trans hq)
      clear hq
      have hC := Lib.hid hu
      clear hu
      go_wp2_with fail
      refine (rNumbers_calls _ _ u u _ hC.out hU.out).mono ?_
      rw [show decide (u = u) = true by simp]
      rintro e wD ⟨rfl, hq⟩
      (try replace hA1 := Lib.hid ((Keep.of_ext (X := fun _ => False) hq).blk hA1.out id))
      (try replace hWB := Lib.hid ((Keep.of_ext (X := fun _ => False) hq).blk hWB.out id))
      (try replace hM := Lib.hid (hM.out.ext hq))
      (try replace hM2 := Lib.hid (hM2.out.ext hq))
      (try replace hV := Lib.hid (hV.out.ext hq))
      (try replace hU := Lib.hid (hU.out.ext hq))
      (try replace hC := Lib.hid (hC.out.ext hq))
      (try replace hS := Lib.hid (hS.out.ext hq))
      replace hE := Lib.hid (hE.out.trans hq)
      clear hq
      clear hC hS
      go_wp2
      go_roundw
      case rel => first | exact ⟨k + 1, by omega, by omega, by go_num, hWB, hM, hM2, hV, hU, hE⟩ | ((repeat apply Exists.intro); exact ⟨⟨k + 1, by omega, by omega, by go_num, hWB, hM, hM2, hV, hU, hE⟩, rfl⟩)
      case measure => simp [intOf]; omega
    · skip
      have b0 : wr.cell? ⟨w4.heap.size, 0, none⟩ = some (.int .i64 f) := hWB.out.cell 0
      have b1 : wr.cell? ⟨w4.heap.size, 1, none⟩ = some (.int .i64 t) := hWB.out.cell 1
      have blt := hWB.out.lt
      clear hmid hV hU
      go_wp2_with fail
      refine (same_calls _ _ m1 m2 g f t _ hM.out hM2.out).mono ?_
      rw [hsame.out]
      rintro e wB ⟨rfl, hq⟩
      clear b0 b1 blt
      (try replace hA1 := Lib.hid ((Keep.of_ext (X := fun _ => False) hq).blk hA1.out id))
      (try replace hWB := Lib.hid ((Keep.of_ext (X := fun _ => False) hq).blk hWB.out id))
      (try replace hM := Lib.hid (hM.out.ext hq))
      (try replace hM2 := Lib.hid (hM2.out.ext hq))
      (try replace hV := Lib.hid (hV.out.ext hq))
      (try replace hU := Lib.hid (hU.out.ext hq))
      (try replace hC := Lib.hid (hC.out.ext hq))
      (try replace hS := Lib.hid (hS.out.ext hq))
      replace hE := Lib.hid (hE.out.trans hq)
      clear hq
      have b0 : wB.cell? ⟨w4.heap.size, 0, none⟩ = some (.int .i64 f) := hWB.out.cell 0
      have b1 : wB.cell? ⟨w4.heap.size, 1, none⟩ = some (.int .i64 t) := hWB.out.cell 1
      have blt := hWB.out.lt
      go_wp2_with fail
      refine (same_calls _ _ m1 m2 to f t _ hM.out hM2.out).mono ?_
      rw [hsame2.out]
      rintro e wC ⟨rfl, hq⟩
      clear b0 b1 blt
      (try replace hA1 := Lib.hid ((Keep.of_ext (X := fun _ => False) hq).blk hA1.out id))
      (try replace hWB := Lib.hid ((Keep.of_ext (X := fun _ => False) hq).blk hWB.out id))
      (try replace hM := Lib.hid (hM.out.ext hq))
      (try replace hM2 := Lib.hid (hM2.out.ext hq))
      (try replace hV := Lib.hid (hV.out.ext hq))
      (try replace hU := Lib.hid (hU.out.ext hq))
      (try replace hC := Lib.hid (hC.out.ext hq))
      (try replace hS := Lib.hid (hS.out.ext hq))
      replace hE := Lib.hid (hE.out.trans hq)
      clear hq
      cases p1 with
      | false =>
        go_wp2
        go_ret
        exact ⟨rfl, hE.out⟩
      | true =>
        obtain rfl := hpp rfl
        go_wp2
        go_ret
        exact ⟨rfl, hE.out⟩
end Go.Proofs.Ytcmcojmhlgknoaa
