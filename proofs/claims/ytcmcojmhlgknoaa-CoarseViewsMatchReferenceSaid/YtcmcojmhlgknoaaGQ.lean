/- The law CoarseRejectsInvalid, walked: true for every list of numbers, every byte and every question. -/
import Derived.Test.YtcmcojmhlgknoaaGP
namespace Go.Proofs.Ytcmcojmhlgknoaa
open Go.RowKit

theorem view_bad {l : List MarkD} (h : l.all markB = false) (g f t : Int) : viewG l g f t = ([], 1) := by
  unfold viewG
  rw [h, if_neg (by decide)]
theorem fits_bad {l : List MarkD} (h : l.all markB = false) (g : Int) (q : List (Int × Int)) : fitsG l g q = (false, 1) := by
  unfold fitsG
  rw [h]
  rfl
theorem same_bad {a b : List MarkD} {g f t : Int} (ha : (viewG a g f t).2 = 0) (hb : b.all markB = false) : sameG a b g f t = (false, 1) := by
  unfold sameG
  rw [if_pos ha, view_bad hb, if_neg (by decide)]
theorem view_err {l : List MarkD} {g f t e : Int} (hl : l.all markB = true) (h : (cellsG g f t).2 = e) (he : e ≠ 0) : viewG l g f t = ([], e) := by
  unfold viewG
  rw [hl, if_pos rfl, if_neg (by rw [h]; exact he), h]
def zeros41 : List Int := List.replicate 41 0
def RejCon (k : Nat) (v : Value) (_ : World) : Prop := k = 3 → ∃ u, v = .tuple #[u, .int .i64 1]
set_option maxHeartbeats 12800000 in
set_option maxRecDepth 100000 in
theorem coarseRejectsInvalid_calls (va : Value) (l : List T16) (sp : Int) (hsp0 : 0 ≤ sp) (hsp1 : sp ≤ 255) (vx : Value) (x : AskD) (w : World) (hl : Tri16 w va l) (hx : AskV w vx x) :
    Calls Try.prog 10 #[va, .int .u8 sp, vx] w fun e w' => e = .returned (.bool true) ∧ Ext w w' := by
  obtain ⟨gr, tr, a, b⟩ := x
  obtain ⟨rfl, ha, hb⟩ := hx
  dsimp only at ha hb ⊢
  have hL := Lib.hid hl
  obtain ⟨lA, lC, rfl⟩ := hl.form
  clear hl
  obtain ⟨g, hg⟩ : ∃ g, Hid (grainL gr = g) := ⟨_, rfl⟩
  have hg4 : 1 ≤ g ∧ g ≤ 4 := hg.out ▸ grain_in gr
  obtain ⟨f, hf⟩ : ∃ f, Hid (winF g a = f) := ⟨_, rfl⟩
  obtain ⟨t, ht⟩ : ∃ t, Hid (winT g a b = t) := ⟨_, rfl⟩
  obtain ⟨n, hn⟩ : ∃ n : Nat, b % 41 = (n : Int) := ⟨(b % 41).toNat, by omega⟩
  have hn40 : n ≤ 40 := by omega
  have hc := cells_win hg4 a b
  have hbd := win_bd g a b
  rw [hf.out, ht.out, hn] at hc
  rw [hf.out, ht.out, hn] at hbd
  have hfb1 : -100000 ≤ f := by omega
  have hfb2 : f ≤ 100000 := by omega
  have htb1 : f ≤ t := by omega
  have htb2 : t ≤ 200000 := by omega
  obtain ⟨m1, hm1⟩ : ∃ m, Hid (madeL l = m) := ⟨_, rfl⟩
  have hval : m1.all markB = true := hm1.out ▸ made_all l
  have hlen1 : m1.length ≤ 6 := hm1.out ▸ made_len l
  have hview0 : (viewG m1 g f t).2 = 0 := by rw [view_ok hval hc]
  have hw : windowB f t = true := by rw [window_iff]; omega
  have hv0 : Hid (viewG m1 0 f t = ([], 12)) := view_err hval (by unfold cellsG; rw [hw]; rfl) (by decide)
  have hv1 : Hid (viewG m1 g (t + 1) f = ([], 1)) := view_err hval (by
    have hw2 : windowB (t + 1) f = false := by rw [Bool.eq_false_iff]; intro h; rw [window_iff] at h; omega
    unfold cellsG; rw [hw2, Bool.and_false]; rfl) (by decide)
  have hwz : Hid (witG (zeros41) g f t = ([], 1)) := by
    show _ = _
    unfold witG
    rw [hc, if_pos rfl, if_neg (by
      unfold possB
      rw [decide_eq_false (by unfold zeros41; simp; omega), Bool.false_and]
      decide)]
  obtain ⟨j0, hj0, jz0, jz1, jz2⟩ := info_parts mark_info
  obtain ⟨k, hk⟩ : ∃ k : Int, sp / 4 = k := ⟨_, rfl⟩
  have hk0 : 0 ≤ k := by omega
  have hk1 : k ≤ 63 := by omega
  have e1 : sp.tdiv 4 = k := by rw [Int.tdiv_eq_ediv_of_nonneg hsp0]; exact hk
  have e2 : sp.tmod 4 = sp % 4 := Int.tmod_eq_emod_of_nonneg hsp0
  clear hc hbd hn hw hval hk
  go_enter Try.func10, Try.ntmps10
  go_wp2_with fail
  refine (sanity_calls _).mono ?_
  rintro e w1 ⟨rfl, hq⟩
  have hA1 : Hid (Blk w1 w.heap.size 25 #[.int .i64 gr, .int .i64 tr, .int .u8 a, .int .u8 b]) := Lib.hid ((Keep.of_ext (X := fun _ => False) hq).blk (blk_new' rfl rfl) id)
  have hE := Lib.hid (((Ext.refl w).alloc (.cells #[.int .i64 gr, .int .i64 tr, .int .u8 a, .int .u8 b] 25)).trans hq)
  have hs1 := hA1.out.lt
  clear hq
  go_wp2_with fail
  refine (rMade_calls _ l _ (hL.out.ext hE.out)).mono ?_
  rintro e w2 ⟨vm, rfl, hm, hq⟩
  rw [hm1.out] at hm
  obtain ⟨mA, mC, rfl⟩ := hm.read.form
  have hs12 := hq.size
  (try replace hA1 := Lib.hid ((Keep.of_ext (X := fun _ => False) hq).blk hA1.out id))
  (try replace hWB := Lib.hid ((Keep.of_ext (X := fun _ => False) hq).blk hWB.out id))
  (try replace hM := Lib.hid (hM.out.ext hq))
  (try replace hG := Lib.hid (hG.out.ext hq))
  replace hE := Lib.hid (hE.out.trans hq)
  clear hq
  have hM := Lib.hid hm
  have hMlt : Hid (∀ g1, (Value.slice mA m1.length mC).ownBlock = some g1 → g1 < w2.heap.size) := fun g1 e => (hm.lt g1 e).2
  clear hm
  go_wp2_with fail
  refine (rMade_calls _ l _ (hL.out.ext hE.out)).mono ?_
  rintro e w3 ⟨vm, rfl, hm, hq⟩
  rw [hm1.out] at hm
  obtain ⟨nA, nC, rfl⟩ := hm.read.form
  have hs23 := hq.size
  (try replace hA1 := Lib.hid ((Keep.of_ext (X := fun _ => False) hq).blk hA1.out id))
  (try replace hWB := Lib.hid ((Keep.of_ext (X := fun _ => False) hq).blk hWB.out id))
  (try replace hM := Lib.hid (hM.out.ext hq))
  (try replace hG := Lib.hid (hG.out.ext hq))
  replace hE := Lib.hid (hE.out.trans hq)
  clear hq
  have hG := Lib.hid hm
  clear hm hL hm1
  have h4 : sp % 4 = 0 ∨ sp % 4 = 1 ∨ sp % 4 = 2 ∨ sp % 4 = 3 := by omega
  rcases h4 with hsp | hsp | hsp | hsp
  · have s0 : (sp % 4 == 0) = true := by simp [hsp]
    clear hsp
    have hMo : Hid (w3.ownsRow w1.heap.size 47 3 (.slice mA m1.length mC) m1.length (markCells m1)) := hM
    go_upto_region 16 with (at_builtin; refine wpList_append_any _ rfl (.tmp 66) (.tmp 68) _ rfl w1.heap.size 47 j0 _ 3 24 Try.underlying37 hj0 jz0 jz1 jz2 rfl (by decide) (.slice mA m1.length mC) m1.length (markCells m1) rfl ((hMo.out.alloc _).alloc _) (w3.heap.size + 2) (some ⟨w3.heap.size + 1, 0, none⟩) 1 1 [.int .i64 5, .int .i64 6, .int .i64 (9 + k)] rfl (reads_last _ #[_, _, _] _ 3 1 _ _ (by simp only [World.size_alloc]) (by omega) rfl) (three_ints _ _ _) (by unfold maxLen; omega) (by omega) (by rw [World.size_alloc, World.size_alloc]; omega) ?_; intro v4 w4 hown4 hg4' hat4; obtain ⟨A4, C4, rfl⟩ := owns_form hown4)
    have hbad : (m1 ++ [(⟨5, 6, (9 + k)⟩ : MarkD)]).all markB = false := by
      rw [List.all_append, Bool.and_eq_false_iff]
      right
      show (markB _ && true) = false
      rw [Bool.and_true, Bool.eq_false_iff]
      intro h
      rw [mark_iff, window_iff] at h
      dsimp only at h
      omega
    have hM4 : Hid (Marks w4 (.slice A4 (m1.length + 1) C4) (m1 ++ [(⟨5, 6, (9 + k)⟩ : MarkD)])) := by
      have h9 : MarksO w4 w1.heap.size (.slice A4 (m1.length + 1) C4) (m1 ++ [(⟨5, 6, (9 + k)⟩ : MarkD)]) := by
        unfold MarksO
        rw [List.length_append, markCells_app]
        exact hown4
      exact Lib.hid h9.read
    have hG4 : Hid (Marks w4 (.slice nA m1.length nC) m1) := by
      have h9 := ((owns_ext hG.out (((Ext.refl w3).alloc (.cells #[.int .i64 5, .int .i64 6, .int .i64 (9 + k)] 47)).alloc (.cells #[.int .i64 5, .int .i64 6, .int .i64 (9 + k)] 47))).kept hg4' (by
        cases e : (Value.slice nA m1.length nC).ownBlock with
        | none => exact Or.inl rfl
        | some g1 =>
          refine Or.inr (fun e2 => ?_)
          have h1 := (hG.out.lt g1 e).1
          have h2 := hMlt.out g1 e2.symm
          omega))
      exact Lib.hid (MarksO.read h9)
    have hE4 := Lib.hid (((hE.out.alloc (.cells #[.int .i64 5, .int .i64 6, .int .i64 (9 + k)] 47)).alloc (.cells #[.int .i64 5, .int .i64 6, .int .i64 (9 + k)] 47)).grown hg4' (fun k e => by have := (hMo.out.lt k e).1; omega))
    have hA4 : Hid (Blk w4 w.heap.size 25 #[.int .i64 gr, .int .i64 tr, .int .u8 a, .int .u8 b]) := Lib.hid ((Blk.alloc (Blk.alloc hA1.out _) _).grown hg4' (fun e => by have := (hMo.out.lt _ e.symm).1; omega))
    have hvb : Hid (∀ (x y z : Int), viewG (m1 ++ [(⟨5, 6, (9 + k)⟩ : MarkD)]) x y z = ([], 1)) := fun _ _ _ => view_bad hbad _ _ _
    have hfb : Hid (∀ x, fitsG (m1 ++ [(⟨5, 6, (9 + k)⟩ : MarkD)]) x [] = (false, 1)) := fun _ => fits_bad hbad _ _
    have hsb : Hid (sameG m1 (m1 ++ [(⟨5, 6, (9 + k)⟩ : MarkD)]) g f t = (false, 1)) := same_bad hview0 hbad
    have hlen7 : (m1 ++ [(⟨5, 6, (9 + k)⟩ : MarkD)]).length ≤ 50000 := by rw [List.length_append]; simp; omega
    obtain ⟨mb, hmb⟩ : ∃ mb, Hid (m1 ++ [(⟨5, 6, (9 + k)⟩ : MarkD)] = mb) := ⟨_, rfl⟩
    rw [hmb.out] at hM4 hvb hfb hsb hlen7
    clear hbad hown4 hg4' hat4 hM hMo hG hMlt hE hA1 hmb hview0
    generalize m1.length + 1 = n1 at hM4 ⊢
    have c0 : w4.cell? ⟨w.heap.size, 0, none⟩ = some (.int .i64 gr) := hA4.out.cell 0
    go_wp2_with fail
    refine (grain_calls gr _).mono ?_
    rw [hg.out]
    rintro e w6 ⟨rfl, hq⟩
    clear c0 hg
    have hA1 := Lib.hid ((Keep.of_ext (X := fun _ => False) hq).blk hA4.out id)
    have hM := Lib.hid (hM4.out.ext hq)
    have hG := Lib.hid (hG4.out.ext hq)
    have hE := Lib.hid (hE4.out.trans hq)
    clear hA4 hM4 hG4 hE4 hq
    have c2 : w6.cell? ⟨w.heap.size, 2, none⟩ = some (.int .u8 a) := hA1.out.cell 2
    have c3 : w6.cell? ⟨w.heap.size, 3, none⟩ = some (.int .u8 b) := hA1.out.cell 3
    go_wp2_with fail
    refine (rWindow_calls g a b ha hb _).mono ?_
    rw [hf.out, ht.out]
    rintro e w7 ⟨rfl, hq⟩
    clear c2 c3 hf ht
    (try replace hA1 := Lib.hid ((Keep.of_ext (X := fun _ => False) hq).blk hA1.out id))
    (try replace hWB := Lib.hid ((Keep.of_ext (X := fun _ => False) hq).blk hWB.out id))
    (try replace hM := Lib.hid (hM.out.ext hq))
    (try replace hG := Lib.hid (hG.out.ext hq))
    replace hE := Lib.hid (hE.out.trans hq)
    clear hq
    clear hA1
    go_wp2_with fail
    have hWB := Lib.hid (blk_new' (w := w7) (g := w7.heap.size) (t := 28) (cs := #[.int .i64 f, .int .i64 t]) rfl rfl)
    replace hM := Lib.hid (hM.out.ext ((Ext.refl w7).alloc (.cells #[.int .i64 f, .int .i64 t] 28)))
    replace hG := Lib.hid (hG.out.ext ((Ext.refl w7).alloc (.cells #[.int .i64 f, .int .i64 t] 28)))
    replace hE := Lib.hid (hE.out.alloc (.cells #[.int .i64 f, .int .i64 t] 28))
    refine (view_calls _ mb g f t _ hM.out).mono ?_
    rw [hvb.out]
    rintro e w8 ⟨v, rfl, hu, hq⟩
    obtain ⟨VA, VC, rfl⟩ := hu.form
    clear hu
    (try replace hA1 := Lib.hid ((Keep.of_ext (X := fun _ => False) hq).blk hA1.out id))
    (try replace hWB := Lib.hid ((Keep.of_ext (X := fun _ => False) hq).blk hWB.out id))
    (try replace hM := Lib.hid (hM.out.ext hq))
    (try replace hG := Lib.hid (hG.out.ext hq))
    replace hE := Lib.hid (hE.out.trans hq)
    clear hq
    go_wp2_with fail
    refine (fits_calls _ _ mb g [] _ hM.out (spans_nil _) hlen7 (by decide)).mono ?_
    rw [hfb.out]
    rintro e w9 ⟨rfl, hq⟩
    (try replace hA1 := Lib.hid ((Keep.of_ext (X := fun _ => False) hq).blk hA1.out id))
    (try replace hWB := Lib.hid ((Keep.of_ext (X := fun _ => False) hq).blk hWB.out id))
    (try replace hM := Lib.hid (hM.out.ext hq))
    (try replace hG := Lib.hid (hG.out.ext hq))
    replace hE := Lib.hid (hE.out.trans hq)
    clear hq
    have b0 : w9.cell? ⟨w7.heap.size, 0, none⟩ = some (.int .i64 f) := hWB.out.cell 0
    have b1 : w9.cell? ⟨w7.heap.size, 1, none⟩ = some (.int .i64 t) := hWB.out.cell 1
    have blt := hWB.out.lt
    go_wp2_with fail
    refine (same_calls _ _ m1 mb g f t _ hG.out hM.out).mono ?_
    rw [hsb.out]
    rintro e w10 ⟨rfl, hq⟩
    clear b0 b1 blt
    (try replace hA1 := Lib.hid ((Keep.of_ext (X := fun _ => False) hq).blk hA1.out id))
    (try replace hWB := Lib.hid ((Keep.of_ext (X := fun _ => False) hq).blk hWB.out id))
    (try replace hM := Lib.hid (hM.out.ext hq))
    (try replace hG := Lib.hid (hG.out.ext hq))
    replace hE := Lib.hid (hE.out.trans hq)
    clear hq
    have b0 : w10.cell? ⟨w7.heap.size, 0, none⟩ = some (.int .i64 f) := hWB.out.cell 0
    have b1 : w10.cell? ⟨w7.heap.size, 1, none⟩ = some (.int .i64 t) := hWB.out.cell 1
    have blt := hWB.out.lt
    go_wp2_with fail
    refine (view_calls _ m1 0 f t _ hG.out).mono ?_
    rw [hv0.out]
    rintro e w11 ⟨v, rfl, hu, hq⟩
    obtain ⟨UA, UC, rfl⟩ := hu.form
    clear b0 b1 blt hu
    (try replace hA1 := Lib.hid ((Keep.of_ext (X := fun _ => False) hq).blk hA1.out id))
    (try replace hWB := Lib.hid ((Keep.of_ext (X := fun _ => False) hq).blk hWB.out id))
    (try replace hM := Lib.hid (hM.out.ext hq))
    (try replace hG := Lib.hid (hG.out.ext hq))
    replace hE := Lib.hid (hE.out.trans hq)
    clear hq
    have b0 : w11.cell? ⟨w7.heap.size, 0, none⟩ = some (.int .i64 f) := hWB.out.cell 0
    have b1 : w11.cell? ⟨w7.heap.size, 1, none⟩ = some (.int .i64 t) := hWB.out.cell 1
    have blt := hWB.out.lt
    go_wp2_with fail
    refine (view_calls _ m1 g (t + 1) f _ hG.out).mono ?_
    rw [hv1.out]
    rintro e w12 ⟨v, rfl, hu, hq⟩
    obtain ⟨SA, SC, rfl⟩ := hu.form
    clear b0 b1 blt hu
    (try replace hA1 := Lib.hid ((Keep.of_ext (X := fun _ => False) hq).blk hA1.out id))
    (try replace hWB := Lib.hid ((Keep.of_ext (X := fun _ => False) hq).blk hWB.out id))
    (try replace hM := Lib.hid (hM.out.ext hq))
    (try replace hG := Lib.hid (hG.out.ext hq))
    replace hE := Lib.hid (hE.out.trans hq)
    clear hq
    clear hM hG hvb hfb hsb hv0 hv1
    go_upto_region 23 with (fail)
    have z0 := After.cell (show w12.cell? ⟨w7.heap.size, 0, none⟩ = some (.int .i64 f) from hWB.out.cell 0)
    have z1 := After.cell (show w12.cell? ⟨w7.heap.size, 1, none⟩ = some (.int .i64 t) from hWB.out.cell 1)
    (refine wp_region_held [] [0, 1, 2, 3, 4, 5, 6, 7, 8] [] (RejCon) (by kernel_rfl) (by kernel_rfl) ?_; simp only [pickL]; with_reducible refine wpQuiet_nil ?_)
    refine held_made 0 [1, 2, 3, 4, 5, 6, 7, 8] rfl (by kernel_rfl) (fun g => .slice (some ⟨g, 0, none⟩) 41 41) (.cells (zerosV 41) 3) (fun W => ?_) (fun g g2 e => by cases e; rfl) (fun g => rfl) ?_
    · have h : (Instr.makeSlice 22 (.int .i64 41) (.int .i64 41)).run Try.prog W = .ok (.slice (some ⟨W.heap.size, 0, none⟩) 41 41) (W.alloc (.cells (zerosV 41) 3)) := run_make_ints 41 (by omega) W
      simp [execOp, go_sem, h]
    intro gz
    simp only [Act.put, List.setIfInBounds_toArray, List.set_cons_succ, List.set_cons_zero]
    (refine held_quiet [1, 2] [3, 4, 5, 6, 7, 8] (by kernel_rfl) (by kernel_rfl) ?_; simp only [pickL, List.drop]; (repeat (go_big_quiet_step (fail))); with_reducible refine wpQuiet_nil ?_)
    (refine held_call 3 [4, 5, 6, 7, 8] rfl (by kernel_rfl) 17 (#[.slice (some ⟨gz, 0, none⟩) 41 41, .int .i64 g, .agg #[.int .i64 f, .int .i64 t]]) (fun W => by kernel_rfl) rfl ?_ ?_ ?_)
    · exact fun W W' v e hh => hh
    · refine fun W hW hD => ?_
      have hB : Blk W gz 3 (zerosV 41) := ((hD 0 (dep_of 3 3 0 (by kernel_rfl))).2 rfl).1
      have hZ : Ints W (.slice (some ⟨gz, 0, none⟩) 41 41) zeros41 := ints_blk (l := zeros41) hB (by decide)
      refine (witness_calls _ zeros41 g f t W hZ).mono ?_
      rw [hwz.out]
      rintro e W' ⟨v, rfl, _, hxx⟩
      exact ⟨_, rfl, hxx, fun _ => ⟨_, rfl⟩⟩
    rintro v ⟨Y, hY, hCv⟩
    obtain ⟨vw, rfl⟩ := hCv rfl
    clear hCv hY Y
    simp only [Act.put, List.setIfInBounds_toArray, List.set_cons_succ, List.set_cons_zero]
    (refine held_quiet [4, 5, 6, 7, 8] [] (by kernel_rfl) (by kernel_rfl) ?_; simp only [pickL, List.drop]; (repeat (go_big_quiet_step (fail))); with_reducible refine wpQuiet_nil ?_)
    intro w13 hq hf9 ht9 Q0 hQ0
    simp only [pickL]
    replace hE := Lib.hid (hE.out.trans hq)
    clear hf9 ht9 hq z0 z1 hWB
    refine hQ0 _ _ ?_
    go_wp2_with fail
    have hi := ints_blk (w := w13.alloc (.cells #[.int .i64 2] 3)) (g := w13.heap.size) (l := [2]) (blk_new' rfl rfl) (by decide)
    refine (coarser_calls _ [2] 2 1 0 30 _ hi).mono ?_
    rw [show coarserG [2] 2 1 0 30 = ([], 1) by kernel_rfl]
    rintro e w14 ⟨v, rfl, hu, hq⟩
    obtain ⟨PA, PC, rfl⟩ := hu.form
    replace hE := Lib.hid ((hE.out.alloc _).trans hq)
    clear hu hq hi
    go_wp2_with fail
    have hi := ints_blk (w := w14.alloc (.cells #[.int .i64 1] 3)) (g := w14.heap.size) (l := [1]) (blk_new' rfl rfl) (by decide)
    refine (coarser_calls _ [1] 2 0 0 30 _ hi).mono ?_
    rw [show coarserG [1] 2 0 0 30 = ([], 12) by kernel_rfl]
    rintro e w15 ⟨v, rfl, hu, hq⟩
    obtain ⟨QA, QC, rfl⟩ := hu.form
    replace hE := Lib.hid ((hE.out.alloc _).trans hq)
    clear hu hq hi
    go_wp2_with fail
    have hi := ints_blk (w := w15.alloc (.cells #[.int .i64 1] 3)) (g := w15.heap.size) (l := [1]) (blk_new' rfl rfl) (by decide)
    refine (coarser_calls _ [1] 2 1 0 30 _ hi).mono ?_
    rw [show coarserG [1] 2 1 0 30 = ([], 1) by kernel_rfl]
    rintro e w16 ⟨v, rfl, hu, hq⟩
    obtain ⟨RA, RC, rfl⟩ := hu.form
    replace hE := Lib.hid ((hE.out.alloc _).trans hq)
    clear hu hq hi
    go_wp2
    go_ret
    exact ⟨rfl, hE.out⟩
  · have s0 : (sp % 4 == 0) = false := by simp [hsp]
    have s1 : (sp % 4 == 1) = true := by simp [hsp]
    clear hsp
    have hMo : Hid (w3.ownsRow w1.heap.size 47 3 (.slice mA m1.length mC) m1.length (markCells m1)) := hM
    go_upto_region 16 with (at_builtin; refine wpList_append_any _ rfl (.tmp 66) (.tmp 68) _ rfl w1.heap.size 47 j0 _ 3 24 Try.underlying37 hj0 jz0 jz1 jz2 rfl (by decide) (.slice mA m1.length mC) m1.length (markCells m1) rfl ((hMo.out.alloc _).alloc _) (w3.heap.size + 2) (some ⟨w3.heap.size + 1, 0, none⟩) 1 1 [.int .i64 5, .int .i64 6, .int .i64 (-k)] rfl (reads_last _ #[_, _, _] _ 3 1 _ _ (by simp only [World.size_alloc]) (by omega) rfl) (three_ints _ _ _) (by unfold maxLen; omega) (by omega) (by rw [World.size_alloc, World.size_alloc]; omega) ?_; intro v4 w4 hown4 hg4' hat4; obtain ⟨A4, C4, rfl⟩ := owns_form hown4)
    have hbad : (m1 ++ [(⟨5, 6, (-k)⟩ : MarkD)]).all markB = false := by
      rw [List.all_append, Bool.and_eq_false_iff]
      right
      show (markB _ && true) = false
      rw [Bool.and_true, Bool.eq_false_iff]
      intro h
      rw [mark_iff, window_iff] at h
      dsimp only at h
      omega
    have hM4 : Hid (Marks w4 (.slice A4 (m1.length + 1) C4) (m1 ++ [(⟨5, 6, (-k)⟩ : MarkD)])) := by
      have h9 : MarksO w4 w1.heap.size (.slice A4 (m1.length + 1) C4) (m1 ++ [(⟨5, 6, (-k)⟩ : MarkD)]) := by
        unfold MarksO
        rw [List.length_append, markCells_app]
        exact hown4
      exact Lib.hid h9.read
    have hG4 : Hid (Marks w4 (.slice nA m1.length nC) m1) := by
      have h9 := ((owns_ext hG.out (((Ext.refl w3).alloc (.cells #[.int .i64 5, .int .i64 6, .int .i64 (-k)] 47)).alloc (.cells #[.int .i64 5, .int .i64 6, .int .i64 (-k)] 47))).kept hg4' (by
        cases e : (Value.slice nA m1.length nC).ownBlock with
        | none => exact Or.inl rfl
        | some g1 =>
          refine Or.inr (fun e2 => ?_)
          have h1 := (hG.out.lt g1 e).1
          have h2 := hMlt.out g1 e2.symm
          omega))
      exact Lib.hid (MarksO.read h9)
    have hE4 := Lib.hid (((hE.out.alloc (.cells #[.int .i64 5, .int .i64 6, .int .i64 (-k)] 47)).alloc (.cells #[.int .i64 5, .int .i64 6, .int .i64 (-k)] 47)).grown hg4' (fun k e => by have := (hMo.out.lt k e).1; omega))
    have hA4 : Hid (Blk w4 w.heap.size 25 #[.int .i64 gr, .int .i64 tr, .int .u8 a, .int .u8 b]) := Lib.hid ((Blk.alloc (Blk.alloc hA1.out _) _).grown hg4' (fun e => by have := (hMo.out.lt _ e.symm).1; omega))
    have hvb : Hid (∀ (x y z : Int), viewG (m1 ++ [(⟨5, 6, (-k)⟩ : MarkD)]) x y z = ([], 1)) := fun _ _ _ => view_bad hbad _ _ _
    have hfb : Hid (∀ x, fitsG (m1 ++ [(⟨5, 6, (-k)⟩ : MarkD)]) x [] = (false, 1)) := fun _ => fits_bad hbad _ _
    have hsb : Hid (sameG m1 (m1 ++ [(⟨5, 6, (-k)⟩ : MarkD)]) g f t = (false, 1)) := same_bad hview0 hbad
    have hlen7 : (m1 ++ [(⟨5, 6, (-k)⟩ : MarkD)]).length ≤ 50000 := by rw [List.length_append]; simp; omega
    obtain ⟨mb, hmb⟩ : ∃ mb, Hid (m1 ++ [(⟨5, 6, (-k)⟩ : MarkD)] = mb) := ⟨_, rfl⟩
    rw [hmb.out] at hM4 hvb hfb hsb hlen7
    clear hbad hown4 hg4' hat4 hM hMo hG hMlt hE hA1 hmb hview0
    generalize m1.length + 1 = n1 at hM4 ⊢
    have c0 : w4.cell? ⟨w.heap.size, 0, none⟩ = some (.int .i64 gr) := hA4.out.cell 0
    go_wp2_with fail
    refine (grain_calls gr _).mono ?_
    rw [hg.out]
    rintro e w6 ⟨rfl, hq⟩
    clear c0 hg
    have hA1 := Lib.hid ((Keep.of_ext (X := fun _ => False) hq).blk hA4.out id)
    have hM := Lib.hid (hM4.out.ext hq)
    have hG := Lib.hid (hG4.out.ext hq)
    have hE := Lib.hid (hE4.out.trans hq)
    clear hA4 hM4 hG4 hE4 hq
    have c2 : w6.cell? ⟨w.heap.size, 2, none⟩ = some (.int .u8 a) := hA1.out.cell 2
    have c3 : w6.cell? ⟨w.heap.size, 3, none⟩ = some (.int .u8 b) := hA1.out.cell 3
    go_wp2_with fail
    refine (rWindow_calls g a b ha hb _).mono ?_
    rw [hf.out, ht.out]
    rintro e w7 ⟨rfl, hq⟩
    clear c2 c3 hf ht
    (try replace hA1 := Lib.hid ((Keep.of_ext (X := fun _ => False) hq).blk hA1.out id))
    (try replace hWB := Lib.hid ((Keep.of_ext (X := fun _ => False) hq).blk hWB.out id))
    (try replace hM := Lib.hid (hM.out.ext hq))
    (try replace hG := Lib.hid (hG.out.ext hq))
    replace hE := Lib.hid (hE.out.trans hq)
    clear hq
    clear hA1
    go_wp2_with fail
    have hWB := Lib.hid (blk_new' (w := w7) (g := w7.heap.size) (t := 28) (cs := #[.int .i64 f, .int .i64 t]) rfl rfl)
    replace hM := Lib.hid (hM.out.ext ((Ext.refl w7).alloc (.cells #[.int .i64 f, .int .i64 t] 28)))
    replace hG := Lib.hid (hG.out.ext ((Ext.refl w7).alloc (.cells #[.int .i64 f, .int .i64 t] 28)))
    replace hE := Lib.hid (hE.out.alloc (.cells #[.int .i64 f, .int .i64 t] 28))
    refine (view_calls _ mb g f t _ hM.out).mono ?_
    rw [hvb.out]
    rintro e w8 ⟨v, rfl, hu, hq⟩
    obtain ⟨VA, VC, rfl⟩ := hu.form
    clear hu
    (try replace hA1 := Lib.hid ((Keep.of_ext (X := fun _ => False) hq).blk hA1.out id))
    (try replace hWB := Lib.hid ((Keep.of_ext (X := fun _ => False) hq).blk hWB.out id))
    (try replace hM := Lib.hid (hM.out.ext hq))
    (try replace hG := Lib.hid (hG.out.ext hq))
    replace hE := Lib.hid (hE.out.trans hq)
    clear hq
    go_wp2_with fail
    refine (fits_calls _ _ mb g [] _ hM.out (spans_nil _) hlen7 (by decide)).mono ?_
    rw [hfb.out]
    rintro e w9 ⟨rfl, hq⟩
    (try replace hA1 := Lib.hid ((Keep.of_ext (X := fun _ => False) hq).blk hA1.out id))
    (try replace hWB := Lib.hid ((Keep.of_ext (X := fun _ => False) hq).blk hWB.out id))
    (try replace hM := Lib.hid (hM.out.ext hq))
    (try replace hG := Lib.hid (hG.out.ext hq))
    replace hE := Lib.hid (hE.out.trans hq)
    clear hq
    have b0 : w9.cell? ⟨w7.heap.size, 0, none⟩ = some (.int .i64 f) := hWB.out.cell 0
    have b1 : w9.cell? ⟨w7.heap.size, 1, none⟩ = some (.int .i64 t) := hWB.out.cell 1
    have blt := hWB.out.lt
    go_wp2_with fail
    refine (same_calls _ _ m1 mb g f t _ hG.out hM.out).mono ?_
    rw [hsb.out]
    rintro e w10 ⟨rfl, hq⟩
    clear b0 b1 blt
    (try replace hA1 := Lib.hid ((Keep.of_ext (X := fun _ => False) hq).blk hA1.out id))
    (try replace hWB := Lib.hid ((Keep.of_ext (X := fun _ => False) hq).blk hWB.out id))
    (try replace hM := Lib.hid (hM.out.ext hq))
    (try replace hG := Lib.hid (hG.out.ext hq))
    replace hE := Lib.hid (hE.out.trans hq)
    clear hq
    have b0 : w10.cell? ⟨w7.heap.size, 0, none⟩ = some (.int .i64 f) := hWB.out.cell 0
    have b1 : w10.cell? ⟨w7.heap.size, 1, none⟩ = some (.int .i64 t) := hWB.out.cell 1
    have blt := hWB.out.lt
    go_wp2_with fail
    refine (view_calls _ m1 0 f t _ hG.out).mono ?_
    rw [hv0.out]
    rintro e w11 ⟨v, rfl, hu, hq⟩
    obtain ⟨UA, UC, rfl⟩ := hu.form
    clear b0 b1 blt hu
    (try replace hA1 := Lib.hid ((Keep.of_ext (X := fun _ => False) hq).blk hA1.out id))
    (try replace hWB := Lib.hid ((Keep.of_ext (X := fun _ => False) hq).blk hWB.out id))
    (try replace hM := Lib.hid (hM.out.ext hq))
    (try replace hG := Lib.hid (hG.out.ext hq))
    replace hE := Lib.hid (hE.out.trans hq)
    clear hq
    have b0 : w11.cell? ⟨w7.heap.size, 0, none⟩ = some (.int .i64 f) := hWB.out.cell 0
    have b1 : w11.cell? ⟨w7.heap.size, 1, none⟩ = some (.int .i64 t) := hWB.out.cell 1
    have blt := hWB.out.lt
    go_wp2_with fail
    refine (view_calls _ m1 g (t + 1) f _ hG.out).mono ?_
    rw [hv1.out]
    rintro e w12 ⟨v, rfl, hu, hq⟩
    obtain ⟨SA, SC, rfl⟩ := hu.form
    clear b0 b1 blt hu
    (try replace hA1 := Lib.hid ((Keep.of_ext (X := fun _ => False) hq).blk hA1.out id))
    (try replace hWB := Lib.hid ((Keep.of_ext (X := fun _ => False) hq).blk hWB.out id))
    (try replace hM := Lib.hid (hM.out.ext hq))
    (try replace hG := Lib.hid (hG.out.ext hq))
    replace hE := Lib.hid (hE.out.trans hq)
    clear hq
    clear hM hG hvb hfb hsb hv0 hv1
    go_upto_region 23 with (fail)
    have z0 := After.cell (show w12.cell? ⟨w7.heap.size, 0, none⟩ = some (.int .i64 f) from hWB.out.cell 0)
    have z1 := After.cell (show w12.cell? ⟨w7.heap.size, 1, none⟩ = some (.int .i64 t) from hWB.out.cell 1)
    (refine wp_region_held [] [0, 1, 2, 3, 4, 5, 6, 7, 8] [] (RejCon) (by kernel_rfl) (by kernel_rfl) ?_; simp only [pickL]; with_reducible refine wpQuiet_nil ?_)
    refine held_made 0 [1, 2, 3, 4, 5, 6, 7, 8] rfl (by kernel_rfl) (fun g => .slice (some ⟨g, 0, none⟩) 41 41) (.cells (zerosV 41) 3) (fun W => ?_) (fun g g2 e => by cases e; rfl) (fun g => rfl) ?_
    · have h : (Instr.makeSlice 22 (.int .i64 41) (.int .i64 41)).run Try.prog W = .ok (.slice (some ⟨W.heap.size, 0, none⟩) 41 41) (W.alloc (.cells (zerosV 41) 3)) := run_make_ints 41 (by omega) W
      simp [execOp, go_sem, h]
    intro gz
    simp only [Act.put, List.setIfInBounds_toArray, List.set_cons_succ, List.set_cons_zero]
    (refine held_quiet [1, 2] [3, 4, 5, 6, 7, 8] (by kernel_rfl) (by kernel_rfl) ?_; simp only [pickL, List.drop]; (repeat (go_big_quiet_step (fail))); with_reducible refine wpQuiet_nil ?_)
    (refine held_call 3 [4, 5, 6, 7, 8] rfl (by kernel_rfl) 17 (#[.slice (some ⟨gz, 0, none⟩) 41 41, .int .i64 g, .agg #[.int .i64 f, .int .i64 t]]) (fun W => by kernel_rfl) rfl ?_ ?_ ?_)
    · exact fun W W' v e hh => hh
    · refine fun W hW hD => ?_
      have hB : Blk W gz 3 (zerosV 41) := ((hD 0 (dep_of 3 3 0 (by kernel_rfl))).2 rfl).1
      have hZ : Ints W (.slice (some ⟨gz, 0, none⟩) 41 41) zeros41 := ints_blk (l := zeros41) hB (by decide)
      refine (witness_calls _ zeros41 g f t W hZ).mono ?_
      rw [hwz.out]
      rintro e W' ⟨v, rfl, _, hxx⟩
      exact ⟨_, rfl, hxx, fun _ => ⟨_, rfl⟩⟩
    rintro v ⟨Y, hY, hCv⟩
    obtain ⟨vw, rfl⟩ := hCv rfl
    clear hCv hY Y
    simp only [Act.put, List.setIfInBounds_toArray, List.set_cons_succ, List.set_cons_zero]
    (refine held_quiet [4, 5, 6, 7, 8] [] (by kernel_rfl) (by kernel_rfl) ?_; simp only [pickL, List.drop]; (repeat (go_big_quiet_step (fail))); with_reducible refine wpQuiet_nil ?_)
    intro w13 hq hf9 ht9 Q0 hQ0
    simp only [pickL]
    replace hE := Lib.hid (hE.out.trans hq)
    clear hf9 ht9 hq z0 z1 hWB
    refine hQ0 _ _ ?_
    go_wp2_with fail
    have hi := ints_blk (w := w13.alloc (.cells #[.int .i64 2] 3)) (g := w13.heap.size) (l := [2]) (blk_new' rfl rfl) (by decide)
    refine (coarser_calls _ [2] 2 1 0 30 _ hi).mono ?_
    rw [show coarserG [2] 2 1 0 30 = ([], 1) by kernel_rfl]
    rintro e w14 ⟨v, rfl, hu, hq⟩
    obtain ⟨PA, PC, rfl⟩ := hu.form
    replace hE := Lib.hid ((hE.out.alloc _).trans hq)
    clear hu hq hi
    go_wp2_with fail
    have hi := ints_blk (w := w14.alloc (.cells #[.int .i64 1] 3)) (g := w14.heap.size) (l := [1]) (blk_new' rfl rfl) (by decide)
    refine (coarser_calls _ [1] 2 0 0 30 _ hi).mono ?_
    rw [show coarserG [1] 2 0 0 30 = ([], 12) by kernel_rfl]
    rintro e w15 ⟨v, rfl, hu, hq⟩
    obtain ⟨QA, QC, rfl⟩ := hu.form
    replace hE := Lib.hid ((hE.out.alloc _).trans hq)
    clear hu hq hi
    go_wp2_with fail
    have hi := ints_blk (w := w15.alloc (.cells #[.int .i64 1] 3)) (g := w15.heap.size) (l := [1]) (blk_new' rfl rfl) (by decide)
    refine (coarser_calls _ [1] 2 1 0 30 _ hi).mono ?_
    rw [show coarserG [1] 2 1 0 30 = ([], 1) by kernel_rfl]
    rintro e w16 ⟨v, rfl, hu, hq⟩
    obtain ⟨RA, RC, rfl⟩ := hu.form
    replace hE := Lib.hid ((hE.out.alloc _).trans hq)
    clear hu hq hi
    go_wp2
    go_ret
    exact ⟨rfl, hE.out⟩
  · have s0 : (sp % 4 == 0) = false := by simp [hsp]
    have s1 : (sp % 4 == 1) = false := by simp [hsp]
    have s2 : (sp % 4 == 2) = true := by simp [hsp]
    clear hsp
    have hMo : Hid (w3.ownsRow w1.heap.size 47 3 (.slice mA m1.length mC) m1.length (markCells m1)) := hM
    go_upto_region 16 with (at_builtin; refine wpList_append_any _ rfl (.tmp 66) (.tmp 68) _ rfl w1.heap.size 47 j0 _ 3 24 Try.underlying37 hj0 jz0 jz1 jz2 rfl (by decide) (.slice mA m1.length mC) m1.length (markCells m1) rfl ((hMo.out.alloc _).alloc _) (w3.heap.size + 2) (some ⟨w3.heap.size + 1, 0, none⟩) 1 1 [.int .i64 5, .int .i64 (5 - k), .int .i64 1] rfl (reads_last _ #[_, _, _] _ 3 1 _ _ (by simp only [World.size_alloc]) (by omega) rfl) (three_ints _ _ _) (by unfold maxLen; omega) (by omega) (by rw [World.size_alloc, World.size_alloc]; omega) ?_; intro v4 w4 hown4 hg4' hat4; obtain ⟨A4, C4, rfl⟩ := owns_form hown4)
    have hbad : (m1 ++ [(⟨5, (5 - k), 1⟩ : MarkD)]).all markB = false := by
      rw [List.all_append, Bool.and_eq_false_iff]
      right
      show (markB _ && true) = false
      rw [Bool.and_true, Bool.eq_false_iff]
      intro h
      rw [mark_iff, window_iff] at h
      dsimp only at h
      omega
    have hM4 : Hid (Marks w4 (.slice A4 (m1.length + 1) C4) (m1 ++ [(⟨5, (5 - k), 1⟩ : MarkD)])) := by
      have h9 : MarksO w4 w1.heap.size (.slice A4 (m1.length + 1) C4) (m1 ++ [(⟨5, (5 - k), 1⟩ : MarkD)]) := by
        unfold MarksO
        rw [List.length_append, markCells_app]
        exact hown4
      exact Lib.hid h9.read
    have hG4 : Hid (Marks w4 (.slice nA m1.length nC) m1) := by
      have h9 := ((owns_ext hG.out (((Ext.refl w3).alloc (.cells #[.int .i64 5, .int .i64 (5 - k), .int .i64 1] 47)).alloc (.cells #[.int .i64 5, .int .i64 (5 - k), .int .i64 1] 47))).kept hg4' (by
        cases e : (Value.slice nA m1.length nC).ownBlock with
        | none => exact Or.inl rfl
        | some g1 =>
          refine Or.inr (fun e2 => ?_)
          have h1 := (hG.out.lt g1 e).1
          have h2 := hMlt.out g1 e2.symm
          omega))
      exact Lib.hid (MarksO.read h9)
    have hE4 := Lib.hid (((hE.out.alloc (.cells #[.int .i64 5, .int .i64 (5 - k), .int .i64 1] 47)).alloc (.cells #[.int .i64 5, .int .i64 (5 - k), .int .i64 1] 47)).grown hg4' (fun k e => by have := (hMo.out.lt k e).1; omega))
    have hA4 : Hid (Blk w4 w.heap.size 25 #[.int .i64 gr, .int .i64 tr, .int .u8 a, .int .u8 b]) := Lib.hid ((Blk.alloc (Blk.alloc hA1.out _) _).grown hg4' (fun e => by have := (hMo.out.lt _ e.symm).1; omega))
    have hvb : Hid (∀ (x y z : Int), viewG (m1 ++ [(⟨5, (5 - k), 1⟩ : MarkD)]) x y z = ([], 1)) := fun _ _ _ => view_bad hbad _ _ _
    have hfb : Hid (∀ x, fitsG (m1 ++ [(⟨5, (5 - k), 1⟩ : MarkD)]) x [] = (false, 1)) := fun _ => fits_bad hbad _ _
    have hsb : Hid (sameG m1 (m1 ++ [(⟨5, (5 - k), 1⟩ : MarkD)]) g f t = (false, 1)) := same_bad hview0 hbad
    have hlen7 : (m1 ++ [(⟨5, (5 - k), 1⟩ : MarkD)]).length ≤ 50000 := by rw [List.length_append]; simp; omega
    obtain ⟨mb, hmb⟩ : ∃ mb, Hid (m1 ++ [(⟨5, (5 - k), 1⟩ : MarkD)] = mb) := ⟨_, rfl⟩
    rw [hmb.out] at hM4 hvb hfb hsb hlen7
    clear hbad hown4 hg4' hat4 hM hMo hG hMlt hE hA1 hmb hview0
    generalize m1.length + 1 = n1 at hM4 ⊢
    have c0 : w4.cell? ⟨w.heap.size, 0, none⟩ = some (.int .i64 gr) := hA4.out.cell 0
    go_wp2_with fail
    refine (grain_calls gr _).mono ?_
    rw [hg.out]
    rintro e w6 ⟨rfl, hq⟩
    clear c0 hg
    have hA1 := Lib.hid ((Keep.of_ext (X := fun _ => False) hq).blk hA4.out id)
    have hM := Lib.hid (hM4.out.ext hq)
    have hG := Lib.hid (hG4.out.ext hq)
    have hE := Lib.hid (hE4.out.trans hq)
    clear hA4 hM4 hG4 hE4 hq
    have c2 : w6.cell? ⟨w.heap.size, 2, none⟩ = some (.int .u8 a) := hA1.out.cell 2
    have c3 : w6.cell? ⟨w.heap.size, 3, none⟩ = some (.int .u8 b) := hA1.out.cell 3
    go_wp2_with fail
    refine (rWindow_calls g a b ha hb _).mono ?_
    rw [hf.out, ht.out]
    rintro e w7 ⟨rfl, hq⟩
    clear c2 c3 hf ht
    (try replace hA1 := Lib.hid ((Keep.of_ext (X := fun _ => False) hq).blk hA1.out id))
    (try replace hWB := Lib.hid ((Keep.of_ext (X := fun _ => False) hq).blk hWB.out id))
    (try replace hM := Lib.hid (hM.out.ext hq))
    (try replace hG := Lib.hid (hG.out.ext hq))
    replace hE := Lib.hid (hE.out.trans hq)
    clear hq
    clear hA1
    go_wp2_with fail
    have hWB := Lib.hid (blk_new' (w := w7) (g := w7.heap.size) (t := 28) (cs := #[.int .i64 f, .int .i64 t]) rfl rfl)
    replace hM := Lib.hid (hM.out.ext ((Ext.refl w7).alloc (.cells #[.int .i64 f, .int .i64 t] 28)))
    replace hG := Lib.hid (hG.out.ext ((Ext.refl w7).alloc (.cells #[.int .i64 f, .int .i64 t] 28)))
    replace hE := Lib.hid (hE.out.alloc (.cells #[.int .i64 f, .int .i64 t] 28))
    refine (view_calls _ mb g f t _ hM.out).mono ?_
    rw [hvb.out]
    rintro e w8 ⟨v, rfl, hu, hq⟩
    obtain ⟨VA, VC, rfl⟩ := hu.form
    clear hu
    (try replace hA1 := Lib.hid ((Keep.of_ext (X := fun _ => False) hq).blk hA1.out id))
    (try replace hWB := Lib.hid ((Keep.of_ext (X := fun _ => False) hq).blk hWB.out id))
    (try replace hM := Lib.hid (hM.out.ext hq))
    (try replace hG := Lib.hid (hG.out.ext hq))
    replace hE := Lib.hid (hE.out.trans hq)
    clear hq
    go_wp2_with fail
    refine (fits_calls _ _ mb g [] _ hM.out (spans_nil _) hlen7 (by decide)).mono ?_
    rw [hfb.out]
    rintro e w9 ⟨rfl, hq⟩
    (try replace hA1 := Lib.hid ((Keep.of_ext (X := fun _ => False) hq).blk hA1.out id))
    (try replace hWB := Lib.hid ((Keep.of_ext (X := fun _ => False) hq).blk hWB.out id))
    (try replace hM := Lib.hid (hM.out.ext hq))
    (try replace hG := Lib.hid (hG.out.ext hq))
    replace hE := Lib.hid (hE.out.trans hq)
    clear hq
    have b0 : w9.cell? ⟨w7.heap.size, 0, none⟩ = some (.int .i64 f) := hWB.out.cell 0
    have b1 : w9.cell? ⟨w7.heap.size, 1, none⟩ = some (.int .i64 t) := hWB.out.cell 1
    have blt := hWB.out.lt
    go_wp2_with fail
    refine (same_calls _ _ m1 mb g f t _ hG.out hM.out).mono ?_
    rw [hsb.out]
    rintro e w10 ⟨rfl, hq⟩
    clear b0 b1 blt
    (try replace hA1 := Lib.hid ((Keep.of_ext (X := fun _ => False) hq).blk hA1.out id))
    (try replace hWB := Lib.hid ((Keep.of_ext (X := fun _ => False) hq).blk hWB.out id))
    (try replace hM := Lib.hid (hM.out.ext hq))
    (try replace hG := Lib.hid (hG.out.ext hq))
    replace hE := Lib.hid (hE.out.trans hq)
    clear hq
    have b0 : w10.cell? ⟨w7.heap.size, 0, none⟩ = some (.int .i64 f) := hWB.out.cell 0
    have b1 : w10.cell? ⟨w7.heap.size, 1, none⟩ = some (.int .i64 t) := hWB.out.cell 1
    have blt := hWB.out.lt
    go_wp2_with fail
    refine (view_calls _ m1 0 f t _ hG.out).mono ?_
    rw [hv0.out]
    rintro e w11 ⟨v, rfl, hu, hq⟩
    obtain ⟨UA, UC, rfl⟩ := hu.form
    clear b0 b1 blt hu
    (try replace hA1 := Lib.hid ((Keep.of_ext (X := fun _ => False) hq).blk hA1.out id))
    (try replace hWB := Lib.hid ((Keep.of_ext (X := fun _ => False) hq).blk hWB.out id))
    (try replace hM := Lib.hid (hM.out.ext hq))
    (try replace hG := Lib.hid (hG.out.ext hq))
    replace hE := Lib.hid (hE.out.trans hq)
    clear hq
    have b0 : w11.cell? ⟨w7.heap.size, 0, none⟩ = some (.int .i64 f) := hWB.out.cell 0
    have b1 : w11.cell? ⟨w7.heap.size, 1, none⟩ = some (.int .i64 t) := hWB.out.cell 1
    have blt := hWB.out.lt
    go_wp2_with fail
    refine (view_calls _ m1 g (t + 1) f _ hG.out).mono ?_
    rw [hv1.out]
    rintro e w12 ⟨v, rfl, hu, hq⟩
    obtain ⟨SA, SC, rfl⟩ := hu.form
    clear b0 b1 blt hu
    (try replace hA1 := Lib.hid ((Keep.of_ext (X := fun _ => False) hq).blk hA1.out id))
    (try replace hWB := Lib.hid ((Keep.of_ext (X := fun _ => False) hq).blk hWB.out id))
    (try replace hM := Lib.hid (hM.out.ext hq))
    (try replace hG := Lib.hid (hG.out.ext hq))
    replace hE := Lib.hid (hE.out.trans hq)
    clear hq
    clear hM hG hvb hfb hsb hv0 hv1
    go_upto_region 23 with (fail)
    have z0 := After.cell (show w12.cell? ⟨w7.heap.size, 0, none⟩ = some (.int .i64 f) from hWB.out.cell 0)
    have z1 := After.cell (show w12.cell? ⟨w7.heap.size, 1, none⟩ = some (.int .i64 t) from hWB.out.cell 1)
    (refine wp_region_held [] [0, 1, 2, 3, 4, 5, 6, 7, 8] [] (RejCon) (by kernel_rfl) (by kernel_rfl) ?_; simp only [pickL]; with_reducible refine wpQuiet_nil ?_)
    refine held_made 0 [1, 2, 3, 4, 5, 6, 7, 8] rfl (by kernel_rfl) (fun g => .slice (some ⟨g, 0, none⟩) 41 41) (.cells (zerosV 41) 3) (fun W => ?_) (fun g g2 e => by cases e; rfl) (fun g => rfl) ?_
    · have h : (Instr.makeSlice 22 (.int .i64 41) (.int .i64 41)).run Try.prog W = .ok (.slice (some ⟨W.heap.size, 0, none⟩) 41 41) (W.alloc (.cells (zerosV 41) 3)) := run_make_ints 41 (by omega) W
      simp [execOp, go_sem, h]
    intro gz
    simp only [Act.put, List.setIfInBounds_toArray, List.set_cons_succ, List.set_cons_zero]
    (refine held_quiet [1, 2] [3, 4, 5, 6, 7, 8] (by kernel_rfl) (by kernel_rfl) ?_; simp only [pickL, List.drop]; (repeat (go_big_quiet_step (fail))); with_reducible refine wpQuiet_nil ?_)
    (refine held_call 3 [4, 5, 6, 7, 8] rfl (by kernel_rfl) 17 (#[.slice (some ⟨gz, 0, none⟩) 41 41, .int .i64 g, .agg #[.int .i64 f, .int .i64 t]]) (fun W => by kernel_rfl) rfl ?_ ?_ ?_)
    · exact fun W W' v e hh => hh
    · refine fun W hW hD => ?_
      have hB : Blk W gz 3 (zerosV 41) := ((hD 0 (dep_of 3 3 0 (by kernel_rfl))).2 rfl).1
      have hZ : Ints W (.slice (some ⟨gz, 0, none⟩) 41 41) zeros41 := ints_blk (l := zeros41) hB (by decide)
      refine (witness_calls _ zeros41 g f t W hZ).mono ?_
      rw [hwz.out]
      rintro e W' ⟨v, rfl, _, hxx⟩
      exact ⟨_, rfl, hxx, fun _ => ⟨_, rfl⟩⟩
    rintro v ⟨Y, hY, hCv⟩
    obtain ⟨vw, rfl⟩ := hCv rfl
    clear hCv hY Y
    simp only [Act.put, List.setIfInBounds_toArray, List.set_cons_succ, List.set_cons_zero]
    (refine held_quiet [4, 5, 6, 7, 8] [] (by kernel_rfl) (by kernel_rfl) ?_; simp only [pickL, List.drop]; (repeat (go_big_quiet_step (fail))); with_reducible refine wpQuiet_nil ?_)
    intro w13 hq hf9 ht9 Q0 hQ0
    simp only [pickL]
    replace hE := Lib.hid (hE.out.trans hq)
    clear hf9 ht9 hq z0 z1 hWB
    refine hQ0 _ _ ?_
    go_wp2_with fail
    have hi := ints_blk (w := w13.alloc (.cells #[.int .i64 2] 3)) (g := w13.heap.size) (l := [2]) (blk_new' rfl rfl) (by decide)
    refine (coarser_calls _ [2] 2 1 0 30 _ hi).mono ?_
    rw [show coarserG [2] 2 1 0 30 = ([], 1) by kernel_rfl]
    rintro e w14 ⟨v, rfl, hu, hq⟩
    obtain ⟨PA, PC, rfl⟩ := hu.form
    replace hE := Lib.hid ((hE.out.alloc _).trans hq)
    clear hu hq hi
    go_wp2_with fail
    have hi := ints_blk (w := w14.alloc (.cells #[.int .i64 1] 3)) (g := w14.heap.size) (l := [1]) (blk_new' rfl rfl) (by decide)
    refine (coarser_calls _ [1] 2 0 0 30 _ hi).mono ?_
    rw [show coarserG [1] 2 0 0 30 = ([], 12) by kernel_rfl]
    rintro e w15 ⟨v, rfl, hu, hq⟩
    obtain ⟨QA, QC, rfl⟩ := hu.form
    replace hE := Lib.hid ((hE.out.alloc _).trans hq)
    clear hu hq hi
    go_wp2_with fail
    have hi := ints_blk (w := w15.alloc (.cells #[.int .i64 1] 3)) (g := w15.heap.size) (l := [1]) (blk_new' rfl rfl) (by decide)
    refine (coarser_calls _ [1] 2 1 0 30 _ hi).mono ?_
    rw [show coarserG [1] 2 1 0 30 = ([], 1) by kernel_rfl]
    rintro e w16 ⟨v, rfl, hu, hq⟩
    obtain ⟨RA, RC, rfl⟩ := hu.form
    replace hE := Lib.hid ((hE.out.alloc _).trans hq)
    clear hu hq hi
    go_wp2
    go_ret
    exact ⟨rfl, hE.out⟩
  · have s0 : (sp % 4 == 0) = false := by simp [hsp]
    have s1 : (sp % 4 == 1) = false := by simp [hsp]
    have s2 : (sp % 4 == 2) = false := by simp [hsp]
    have s3 : (sp % 4 == 3) = true := by simp [hsp]
    clear hsp
    have hMo : Hid (w3.ownsRow w1.heap.size 47 3 (.slice mA m1.length mC) m1.length (markCells m1)) := hM
    go_upto_region 16 with (at_builtin; refine wpList_append_any _ rfl (.tmp 66) (.tmp 68) _ rfl w1.heap.size 47 j0 _ 3 24 Try.underlying37 hj0 jz0 jz1 jz2 rfl (by decide) (.slice mA m1.length mC) m1.length (markCells m1) rfl ((hMo.out.alloc _).alloc _) (w3.heap.size + 2) (some ⟨w3.heap.size + 1, 0, none⟩) 1 1 [.int .i64 (-2251799813685249 - k), .int .i64 6, .int .i64 1] rfl (reads_last _ #[_, _, _] _ 3 1 _ _ (by simp only [World.size_alloc]) (by omega) rfl) (three_ints _ _ _) (by unfold maxLen; omega) (by omega) (by rw [World.size_alloc, World.size_alloc]; omega) ?_; intro v4 w4 hown4 hg4' hat4; obtain ⟨A4, C4, rfl⟩ := owns_form hown4)
    have hbad : (m1 ++ [(⟨(-2251799813685249 - k), 6, 1⟩ : MarkD)]).all markB = false := by
      rw [List.all_append, Bool.and_eq_false_iff]
      right
      show (markB _ && true) = false
      rw [Bool.and_true, Bool.eq_false_iff]
      intro h
      rw [mark_iff, window_iff] at h
      dsimp only at h
      omega
    have hM4 : Hid (Marks w4 (.slice A4 (m1.length + 1) C4) (m1 ++ [(⟨(-2251799813685249 - k), 6, 1⟩ : MarkD)])) := by
      have h9 : MarksO w4 w1.heap.size (.slice A4 (m1.length + 1) C4) (m1 ++ [(⟨(-2251799813685249 - k), 6, 1⟩ : MarkD)]) := by
        unfold MarksO
        rw [List.length_append, markCells_app]
        exact hown4
      exact Lib.hid h9.read
    have hG4 : Hid (Marks w4 (.slice nA m1.length nC) m1) := by
      have h9 := ((owns_ext hG.out (((Ext.refl w3).alloc (.cells #[.int .i64 (-2251799813685249 - k), .int .i64 6, .int .i64 1] 47)).alloc (.cells #[.int .i64 (-2251799813685249 - k), .int .i64 6, .int .i64 1] 47))).kept hg4' (by
        cases e : (Value.slice nA m1.length nC).ownBlock with
        | none => exact Or.inl rfl
        | some g1 =>
          refine Or.inr (fun e2 => ?_)
          have h1 := (hG.out.lt g1 e).1
          have h2 := hMlt.out g1 e2.symm
          omega))
      exact Lib.hid (MarksO.read h9)
    have hE4 := Lib.hid (((hE.out.alloc (.cells #[.int .i64 (-2251799813685249 - k), .int .i64 6, .int .i64 1] 47)).alloc (.cells #[.int .i64 (-2251799813685249 - k), .int .i64 6, .int .i64 1] 47)).grown hg4' (fun k e => by have := (hMo.out.lt k e).1; omega))
    have hA4 : Hid (Blk w4 w.heap.size 25 #[.int .i64 gr, .int .i64 tr, .int .u8 a, .int .u8 b]) := Lib.hid ((Blk.alloc (Blk.alloc hA1.out _) _).grown hg4' (fun e => by have := (hMo.out.lt _ e.symm).1; omega))
    have hvb : Hid (∀ (x y z : Int), viewG (m1 ++ [(⟨(-2251799813685249 - k), 6, 1⟩ : MarkD)]) x y z = ([], 1)) := fun _ _ _ => view_bad hbad _ _ _
    have hfb : Hid (∀ x, fitsG (m1 ++ [(⟨(-2251799813685249 - k), 6, 1⟩ : MarkD)]) x [] = (false, 1)) := fun _ => fits_bad hbad _ _
    have hsb : Hid (sameG m1 (m1 ++ [(⟨(-2251799813685249 - k), 6, 1⟩ : MarkD)]) g f t = (false, 1)) := same_bad hview0 hbad
    have hlen7 : (m1 ++ [(⟨(-2251799813685249 - k), 6, 1⟩ : MarkD)]).length ≤ 50000 := by rw [List.length_append]; simp; omega
    obtain ⟨mb, hmb⟩ : ∃ mb, Hid (m1 ++ [(⟨(-2251799813685249 - k), 6, 1⟩ : MarkD)] = mb) := ⟨_, rfl⟩
    rw [hmb.out] at hM4 hvb hfb hsb hlen7
    clear hbad hown4 hg4' hat4 hM hMo hG hMlt hE hA1 hmb hview0
    generalize m1.length + 1 = n1 at hM4 ⊢
    have c0 : w4.cell? ⟨w.heap.size, 0, none⟩ = some (.int .i64 gr) := hA4.out.cell 0
    go_wp2_with fail
    refine (grain_calls gr _).mono ?_
    rw [hg.out]
    rintro e w6 ⟨rfl, hq⟩
    clear c0 hg
    have hA1 := Lib.hid ((Keep.of_ext (X := fun _ => False) hq).blk hA4.out id)
    have hM := Lib.hid (hM4.out.ext hq)
    have hG := Lib.hid (hG4.out.ext hq)
    have hE := Lib.hid (hE4.out.trans hq)
    clear hA4 hM4 hG4 hE4 hq
    have c2 : w6.cell? ⟨w.heap.size, 2, none⟩ = some (.int .u8 a) := hA1.out.cell 2
    have c3 : w6.cell? ⟨w.heap.size, 3, none⟩ = some (.int .u8 b) := hA1.out.cell 3
    go_wp2_with fail
    refine (rWindow_calls g a b ha hb _).mono ?_
    rw [hf.out, ht.out]
    rintro e w7 ⟨rfl, hq⟩
    clear c2 c3 hf ht
    (try replace hA1 := Lib.hid ((Keep.of_ext (X := fun _ => False) hq).blk hA1.out id))
    (try replace hWB := Lib.hid ((Keep.of_ext (X := fun _ => False) hq).blk hWB.out id))
    (try replace hM := Lib.hid (hM.out.ext hq))
    (try replace hG := Lib.hid (hG.out.ext hq))
    replace hE := Lib.hid (hE.out.trans hq)
    clear hq
    clear hA1
    go_wp2_with fail
    have hWB := Lib.hid (blk_new' (w := w7) (g := w7.heap.size) (t := 28) (cs := #[.int .i64 f, .int .i64 t]) rfl rfl)
    replace hM := Lib.hid (hM.out.ext ((Ext.refl w7).alloc (.cells #[.int .i64 f, .int .i64 t] 28)))
    replace hG := Lib.hid (hG.out.ext ((Ext.refl w7).alloc (.cells #[.int .i64 f, .int .i64 t] 28)))
    replace hE := Lib.hid (hE.out.alloc (.cells #[.int .i64 f, .int .i64 t] 28))
    refine (view_calls _ mb g f t _ hM.out).mono ?_
    rw [hvb.out]
    rintro e w8 ⟨v, rfl, hu, hq⟩
    obtain ⟨VA, VC, rfl⟩ := hu.form
    clear hu
    (try replace hA1 := Lib.hid ((Keep.of_ext (X := fun _ => False) hq).blk hA1.out id))
    (try replace hWB := Lib.hid ((Keep.of_ext (X := fun _ => False) hq).blk hWB.out id))
    (try replace hM := Lib.hid (hM.out.ext hq))
    (try replace hG := Lib.hid (hG.out.ext hq))
    replace hE := Lib.hid (hE.out.trans hq)
    clear hq
    go_wp2_with fail
    refine (fits_calls _ _ mb g [] _ hM.out (spans_nil _) hlen7 (by decide)).mono ?_
    rw [hfb.out]
    rintro e w9 ⟨rfl, hq⟩
    (try replace hA1 := Lib.hid ((Keep.of_ext (X := fun _ => False) hq).blk hA1.out id))
    (try replace hWB := Lib.hid ((Keep.of_ext (X := fun _ => False) hq).blk hWB.out id))
    (try replace hM := Lib.hid (hM.out.ext hq))
    (try replace hG := Lib.hid (hG.out.ext hq))
    replace hE := Lib.hid (hE.out.trans hq)
    clear hq
    have b0 : w9.cell? ⟨w7.heap.size, 0, none⟩ = some (.int .i64 f) := hWB.out.cell 0
    have b1 : w9.cell? ⟨w7.heap.size, 1, none⟩ = some (.int .i64 t) := hWB.out.cell 1
    have blt := hWB.out.lt
    go_wp2_with fail
    refine (same_calls _ _ m1 mb g f t _ hG.out hM.out).mono ?_
    rw [hsb.out]
    rintro e w10 ⟨rfl, hq⟩
    clear b0 b1 blt
    (try replace hA1 := Lib.hid ((Keep.of_ext (X := fun _ => False) hq).blk hA1.out id))
    (try replace hWB := Lib.hid ((Keep.of_ext (X := fun _ => False) hq).blk hWB.out id))
    (try replace hM := Lib.hid (hM.out.ext hq))
    (try replace hG := Lib.hid (hG.out.ext hq))
    replace hE := Lib.hid (hE.out.trans hq)
    clear hq
    have b0 : w10.cell? ⟨w7.heap.size, 0, none⟩ = some (.int .i64 f) := hWB.out.cell 0
    have b1 : w10.cell? ⟨w7.heap.size, 1, none⟩ = some (.int .i64 t) := hWB.out.cell 1
    have blt := hWB.out.lt
    go_wp2_with fail
    refine (view_calls _ m1 0 f t _ hG.out).mono ?_
    rw [hv0.out]
    rintro e w11 ⟨v, rfl, hu, hq⟩
    obtain ⟨UA, UC, rfl⟩ := hu.form
    clear b0 b1 blt hu
    (try replace hA1 := Lib.hid ((Keep.of_ext (X := fun _ => False) hq).blk hA1.out id))
    (try replace hWB := Lib.hid ((Keep.of_ext (X := fun _ => False) hq).blk hWB.out id))
    (try replace hM := Lib.hid (hM.out.ext hq))
    (try replace hG := Lib.hid (hG.out.ext hq))
    replace hE := Lib.hid (hE.out.trans hq)
    clear hq
    have b0 : w11.cell? ⟨w7.heap.size, 0, none⟩ = some (.int .i64 f) := hWB.out.cell 0
    have b1 : w11.cell? ⟨w7.heap.size, 1, none⟩ = some (.int .i64 t) := hWB.out.cell 1
    have blt := hWB.out.lt
    go_wp2_with fail
    refine (view_calls _ m1 g (t + 1) f _ hG.out).mono ?_
    rw [hv1.out]
    rintro e w12 ⟨v, rfl, hu, hq⟩
    obtain ⟨SA, SC, rfl⟩ := hu.form
    clear b0 b1 blt hu
    (try replace hA1 := Lib.hid ((Keep.of_ext (X := fun _ => False) hq).blk hA1.out id))
    (try replace hWB := Lib.hid ((Keep.of_ext (X := fun _ => False) hq).blk hWB.out id))
    (try replace hM := Lib.hid (hM.out.ext hq))
    (try replace hG := Lib.hid (hG.out.ext hq))
    replace hE := Lib.hid (hE.out.trans hq)
    clear hq
    clear hM hG hvb hfb hsb hv0 hv1
    go_upto_region 23 with (fail)
    have z0 := After.cell (show w12.cell? ⟨w7.heap.size, 0, none⟩ = some (.int .i64 f) from hWB.out.cell 0)
    have z1 := After.cell (show w12.cell? ⟨w7.heap.size, 1, none⟩ = some (.int .i64 t) from hWB.out.cell 1)
    (refine wp_region_held [] [0, 1, 2, 3, 4, 5, 6, 7, 8] [] (RejCon) (by kernel_rfl) (by kernel_rfl) ?_; simp only [pickL]; with_reducible refine wpQuiet_nil ?_)
    refine held_made 0 [1, 2, 3, 4, 5, 6, 7, 8] rfl (by kernel_rfl) (fun g => .slice (some ⟨g, 0, none⟩) 41 41) (.cells (zerosV 41) 3) (fun W => ?_) (fun g g2 e => by cases e; rfl) (fun g => rfl) ?_
    · have h : (Instr.makeSlice 22 (.int .i64 41) (.int .i64 41)).run Try.prog W = .ok (.slice (some ⟨W.heap.size, 0, none⟩) 41 41) (W.alloc (.cells (zerosV 41) 3)) := run_make_ints 41 (by omega) W
      simp [execOp, go_sem, h]
    intro gz
    simp only [Act.put, List.setIfInBounds_toArray, List.set_cons_succ, List.set_cons_zero]
    (refine held_quiet [1, 2] [3, 4, 5, 6, 7, 8] (by kernel_rfl) (by kernel_rfl) ?_; simp only [pickL, List.drop]; (repeat (go_big_quiet_step (fail))); with_reducible refine wpQuiet_nil ?_)
    (refine held_call 3 [4, 5, 6, 7, 8] rfl (by kernel_rfl) 17 (#[.slice (some ⟨gz, 0, none⟩) 41 41, .int .i64 g, .agg #[.int .i64 f, .int .i64 t]]) (fun W => by kernel_rfl) rfl ?_ ?_ ?_)
    · exact fun W W' v e hh => hh
    · refine fun W hW hD => ?_
      have hB : Blk W gz 3 (zerosV 41) := ((hD 0 (dep_of 3 3 0 (by kernel_rfl))).2 rfl).1
      have hZ : Ints W (.slice (some ⟨gz, 0, none⟩) 41 41) zeros41 := ints_blk (l := zeros41) hB (by decide)
      refine (witness_calls _ zeros41 g f t W hZ).mono ?_
      rw [hwz.out]
      rintro e W' ⟨v, rfl, _, hxx⟩
      exact ⟨_, rfl, hxx, fun _ => ⟨_, rfl⟩⟩
    rintro v ⟨Y, hY, hCv⟩
    obtain ⟨vw, rfl⟩ := hCv rfl
    clear hCv hY Y
    simp only [Act.put, List.setIfInBounds_toArray, List.set_cons_succ, List.set_cons_zero]
    (refine held_quiet [4, 5, 6, 7, 8] [] (by kernel_rfl) (by kernel_rfl) ?_; simp only [pickL, List.drop]; (repeat (go_big_quiet_step (fail))); with_reducible refine wpQuiet_nil ?_)
    intro w13 hq hf9 ht9 Q0 hQ0
    simp only [pickL]
    replace hE := Lib.hid (hE.out.trans hq)
    clear hf9 ht9 hq z0 z1 hWB
    refine hQ0 _ _ ?_
    go_wp2_with fail
    have hi := ints_blk (w := w13.alloc (.cells #[.int .i64 2] 3)) (g := w13.heap.size) (l := [2]) (blk_new' rfl rfl) (by decide)
    refine (coarser_calls _ [2] 2 1 0 30 _ hi).mono ?_
    rw [show coarserG [2] 2 1 0 30 = ([], 1) by kernel_rfl]
    rintro e w14 ⟨v, rfl, hu, hq⟩
    obtain ⟨PA, PC, rfl⟩ := hu.form
    replace hE := Lib.hid ((hE.out.alloc _).trans hq)
    clear hu hq hi
    go_wp2_with fail
    have hi := ints_blk (w := w14.alloc (.cells #[.int .i64 1] 3)) (g := w14.heap.size) (l := [1]) (blk_new' rfl rfl) (by decide)
    refine (coarser_calls _ [1] 2 0 0 30 _ hi).mono ?_
    rw [show coarserG [1] 2 0 0 30 = ([], 12) by kernel_rfl]
    rintro e w15 ⟨v, rfl, hu, hq⟩
    obtain ⟨QA, QC, rfl⟩ := hu.form
    replace hE := Lib.hid ((hE.out.alloc _).trans hq)
    clear hu hq hi
    go_wp2_with fail
    have hi := ints_blk (w := w15.alloc (.cells #[.int .i64 1] 3)) (g := w15.heap.size) (l := [1]) (blk_new' rfl rfl) (by decide)
    refine (coarser_calls _ [1] 2 1 0 30 _ hi).mono ?_
    rw [show coarserG [1] 2 1 0 30 = ([], 1) by kernel_rfl]
    rintro e w16 ⟨v, rfl, hu, hq⟩
    obtain ⟨RA, RC, rfl⟩ := hu.form
    replace hE := Lib.hid ((hE.out.alloc _).trans hq)
    clear hu hq hi
    go_wp2
    go_ret
    exact ⟨rfl, hE.out⟩
end Go.Proofs.Ytcmcojmhlgknoaa
