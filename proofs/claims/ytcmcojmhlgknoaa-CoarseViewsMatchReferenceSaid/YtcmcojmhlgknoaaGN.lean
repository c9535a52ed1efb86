/- The law CoarseWitnesses, walked: true for every list of numbers and every question. -/
import Derived.Test.YtcmcojmhlgknoaaGM
namespace Go.Proofs.Ytcmcojmhlgknoaa
open Go.RowKit

/-! ### a question -/
structure AskD where
  g : Int
  to : Int
  a : Int
  b : Int
def AskV (_ : World) (v : Value) (x : AskD) : Prop := v = .agg #[.int .i64 x.g, .int .i64 x.to, .int .u8 x.a, .int .u8 x.b] ∧ (0 ≤ x.a ∧ x.a ≤ 255) ∧ 0 ≤ x.b ∧ x.b ≤ 255
theorem win_bd (g a b : Int) : -100000 ≤ winF g a ∧ winF g a ≤ 100000 ∧ winT g a b = winF g a + sizeG g * (b % 41) ∧ 0 ≤ sizeG g * (b % 41) ∧ sizeG g * (b % 41) ≤ 57600 ∧ winF g a % sizeG g = 0 := by
  have hs := size_pos g
  have m1 := Int.mul_le_mul_of_nonneg_left (show -5 ≤ a % 60 - 5 by omega) (show 0 ≤ sizeG g by omega)
  have m2 := Int.mul_le_mul_of_nonneg_left (show a % 60 - 5 ≤ 54 by omega) (show 0 ≤ sizeG g by omega)
  have m3 : 0 ≤ sizeG g * (b % 41) := Int.mul_nonneg (by omega) (by omega)
  have m4 := Int.mul_le_mul_of_nonneg_left (show b % 41 ≤ 40 by omega) (show 0 ≤ sizeG g by omega)
  refine ⟨?_, ?_, rfl, m3, by omega, ?_⟩
  · unfold winF; split <;> omega
  · unfold winF; split <;> omega
  · unfold winF
    split
    · rename_i h
      subst h
      exact Int.mul_emod_right _ _
    · exact Int.mul_emod_right _ _
theorem cells_win {g : Int} (hg : 1 ≤ g ∧ g ≤ 4) (a b : Int) : cellsG g (winF g a) (winT g a b) = (b % 41, 0) := by
  obtain ⟨h1, h2, h3, h4, h5, h6⟩ := win_bd g a b
  have hs := size_pos g
  have hw : windowB (winF g a) (winT g a b) = true := by rw [window_iff]; omega
  have ht : winT g a b % sizeG g = 0 := by rw [h3, Int.add_emod, h6, Int.mul_emod_right]; rfl
  have hd : (winT g a b - winF g a) / sizeG g = b % 41 := by
    rw [h3, show winF g a + sizeG g * (b % 41) - winF g a = sizeG g * (b % 41) by omega]
    exact Int.mul_ediv_cancel_left _ (by omega)
  unfold cellsG
  rw [hw, show grainB g = true by unfold grainB; rw [decide_eq_true (show 0 ≤ g by omega), decide_eq_true (show g ≤ 4 by omega)]; rfl, Bool.and_true, if_pos rfl, if_neg (by omega), if_pos ⟨h6, ht⟩, hd, if_neg (by omega)]
theorem view_ok {g f t : Int} {l : List MarkD} {n : Nat} (hl : l.all markB = true) (hc : cellsG g f t = ((n : Int), 0)) : viewG l g f t = (viewN g l f n, 0) := by
  unfold viewG
  rw [hl, if_pos rfl, hc, if_pos rfl]
  rfl
theorem wit_ok {g f t : Int} {l : List MarkD} {n : Nat} (hl : l.all markB = true) (hc : cellsG g f t = ((n : Int), 0)) : witG ((viewN g l f n).map fun k : Nat => (k : Int)) g f t = (witL g f ((viewN g l f n).map fun k : Nat => (k : Int)) n, 0) := by
  unfold witG
  rw [hc, if_pos rfl, view_possible n hl, if_pos rfl, List.length_map, viewN_len]
theorem same_ok {g f t : Int} {a b : List MarkD} {n : Nat} (ha : a.all markB = true) (hb : b.all markB = true) (hc : cellsG g f t = ((n : Int), 0)) : sameG a b g f t = (decide (viewN g a f n = viewN g b f n), 0) := by
  unfold sameG
  rw [view_ok ha hc, view_ok hb hc, if_pos rfl, if_pos rfl]
/-- at a coarser grain the answer is that they are the same, or an error -/
theorem same_low {g to f t : Int} {a b : List MarkD} {n : Nat} (h1 : 1 ≤ to) (h2 : to ≤ g) (hg : g ≤ 4) (ha : a.all markB = true) (hb : b.all markB = true) (hc : cellsG g f t = ((n : Int), 0)) (hn : n ≤ 65536) (h : viewN g a f n = viewN g b f n) :
    sameG a b to f t = (true, 0) ∨ sameG a b to f t = (false, 1) := by
  have hc0 : (cellsG g f t).2 = 0 := by rw [hc]
  have hc1 : (cellsG g f t).1 = n := by rw [hc]
  by_cases h0 : (cellsG to f t).2 = 0
  · left
    obtain ⟨m, hm, _⟩ := cells_num h0
    have hcm : cellsG to f t = ((m : Int), 0) := by rw [← hm, ← h0]
    rw [same_ok ha hb hcm]
    have := same_coarser h1 h2 hc0 h0 hc1 ha hb h
    rw [hm, Int.toNat_natCast] at this
    rw [decide_eq_true this]
  · right
    have he : (cellsG to f t).2 = 1 := by
      obtain ⟨_, hw, _, _, _, _⟩ := cells_ok hc0
      obtain ⟨n', e1, _, e2⟩ := cells_num hc0
      unfold cellsG at h0 ⊢
      rw [hw, show grainB to = true by unfold grainB; rw [decide_eq_true (show 0 ≤ to by omega), decide_eq_true (show to ≤ 4 by omega)]; rfl, Bool.and_true, if_pos rfl, if_neg (by omega)] at h0 ⊢
      split at h0
      · rename_i h5
        split at h0
        · rename_i h6
          exfalso
          have hsm := size_mono h1 h2 hg
          have hs := (size_pos g).1
          have : (t - f) / sizeG to ≤ n' := by
            have h7 : t - f ≤ n' * sizeG to := by
              have := Int.mul_le_mul_of_nonneg_left hsm (show (0 : Int) ≤ n' by omega)
              omega
            have h8 := Int.ediv_le_ediv (show 0 < sizeG to by omega) h7
            rwa [Int.mul_ediv_cancel _ (by omega)] at h8
          omega
        · exact absurd rfl h0
      · rename_i h5
        rw [if_neg h5]
    unfold sameG viewG
    rw [ha, if_pos rfl, if_neg h0, he, if_neg (by decide)]
set_option maxHeartbeats 6400000 in
set_option maxRecDepth 100000 in
theorem coarseWitnesses_calls (va : Value) (l : List T16) (vx : Value) (x : AskD) (w : World) (hl : Tri16 w va l) (hx : AskV w vx x) :
    Calls Try.prog 9 #[va, vx] w fun e w' => e = .returned (.bool true) ∧ Ext w w' := by
  obtain ⟨gr, to, a, b⟩ := x
  obtain ⟨rfl, ha, hb⟩ := hx
  dsimp only at ha hb ⊢
  have hL := Lib.hid hl
  obtain ⟨lA, lC, rfl⟩ := hl.form
  clear hl
  obtain ⟨g, hg⟩ : ∃ g, Hid (grainL gr = g) := ⟨_, rfl⟩
  have hg4 : 1 ≤ g ∧ g ≤ 4 := hg.out ▸ grain_in gr
  obtain ⟨f, hf⟩ : ∃ f, Hid (winF g a = f) := ⟨_, rfl⟩
  obtain ⟨t, ht⟩ : ∃ t, Hid (winT g a b = t) := ⟨_, rfl⟩
  obtain ⟨n, hn⟩ : ∃ n : Nat, b % 41 = (n : Int) := ⟨(b % 41).toNat, by omega⟩
  have hn40 : n ≤ 40 := by omega
  have hc := cells_win hg4 a b
  rw [hf.out, ht.out, hn] at hc
  obtain ⟨marks, hmk⟩ : ∃ marks, Hid (madeL l = marks) := ⟨_, rfl⟩
  have hval : marks.all markB = true := hmk.out ▸ made_all l
  have hview := Lib.hid (view_ok hval hc)
  have hwit := Lib.hid (wit_ok hval hc)
  have hc0 : (cellsG g f t).2 = 0 := by rw [hc]
  have hc1 : (cellsG g f t).1 = n := by rw [hc]
  have hwv := wit_valid (view := (viewN g marks f n).map fun k : Nat => (k : Int)) hc0 hc1
  have hvw := view_wit (g := g) (f := f) (n := n) hval
  obtain ⟨v, hv⟩ : ∃ v, Hid (viewN g marks f n = v) := ⟨_, rfl⟩
  obtain ⟨wit, hwt⟩ : ∃ wit, Hid (witL g f (v.map fun k : Nat => (k : Int)) n = wit) := ⟨_, rfl⟩
  rw [hv.out] at hview hwit hwv hvw
  rw [hwt.out] at hwit hwv hvw
  have hview2 := Lib.hid (view_ok hwv hc)
  rw [hvw] at hview2
  have hsame := Lib.hid (same_ok hval hwv hc)
  rw [hvw, hv.out, decide_eq_true rfl] at hsame
  have hlow : Hid (∀ to', 1 ≤ to' → to' ≤ g → sameG marks wit to' f t = (true, 0) ∨ sameG marks wit to' f t = (false, 1)) := fun to' h1 h2 => same_low h1 h2 hg4.2 hval hwv hc (by omega) (by rw [hv.out, hvw])
  clear hc hc0 hc1 hval hwv hvw hn hv hwt
  go_enter Try.func9, Try.ntmps9
  go_wp2_with fail
  refine (sanity_calls _).mono ?_
  rintro e w1 ⟨rfl, hq⟩
  have hA1 : Hid (Blk w1 w.heap.size 25 #[.int .i64 gr, .int .i64 to, .int .u8 a, .int .u8 b]) := Lib.hid ((Keep.of_ext (X := fun _ => False) hq).blk (blk_new' rfl rfl) id)
  have hE := Lib.hid (((Ext.refl w).alloc (.cells #[.int .i64 gr, .int .i64 to, .int .u8 a, .int .u8 b] 25)).trans hq)
  clear hq
  go_wp2_with fail
  refine (rMade_calls _ l _ (hL.out.ext hE.out)).mono ?_
  rintro e w2 ⟨vm, rfl, hm, hq⟩
  rw [hmk.out] at hm
  obtain ⟨mA, mC, rfl⟩ := hm.read.form
  (try replace hA1 := Lib.hid ((Keep.of_ext (X := fun _ => False) hq).blk hA1.out id))
  (try replace hWB := Lib.hid ((Keep.of_ext (X := fun _ => False) hq).blk hWB.out id))
  (try replace hM := Lib.hid (hM.out.ext hq))
  (try replace hV := Lib.hid (hV.out.ext hq))
  (try replace hWit := Lib.hid (hWit.out.ext hq))
  (try replace hU := Lib.hid (hU.out.ext hq))
  replace hE := Lib.hid (hE.out.trans hq)
  clear hq
  have hM := Lib.hid hm.read
  have c0 : w2.cell? ⟨w.heap.size, 0, none⟩ = some (.int .i64 gr) := hA1.out.cell 0
  clear hm hL hmk
  go_wp2_with fail
  refine (grain_calls gr _).mono ?_
  rw [hg.out]
  rintro e w3 ⟨rfl, hq⟩
  clear c0
  (try replace hA1 := Lib.hid ((Keep.of_ext (X := fun _ => False) hq).blk hA1.out id))
  (try replace hWB := Lib.hid ((Keep.of_ext (X := fun _ => False) hq).blk hWB.out id))
  (try replace hM := Lib.hid (hM.out.ext hq))
  (try replace hV := Lib.hid (hV.out.ext hq))
  (try replace hWit := Lib.hid (hWit.out.ext hq))
  (try replace hU := Lib.hid (hU.out.ext hq))
  replace hE := Lib.hid (hE.out.trans hq)
  clear hq
  have c2 : w3.cell? ⟨w.heap.size, 2, none⟩ = some (.int .u8 a) := hA1.out.cell 2
  have c3 : w3.cell? ⟨w.heap.size, 3, none⟩ = some (.int .u8 b) := hA1.out.cell 3
  go_wp2_with fail
  refine (rWindow_calls g a b ha hb _).mono ?_
  rw [hf.out, ht.out]
  rintro e w4 ⟨rfl, hq⟩
  clear c2 c3
  (try replace hA1 := Lib.hid ((Keep.of_ext (X := fun _ => False) hq).blk hA1.out id))
  (try replace hWB := Lib.hid ((Keep.of_ext (X := fun _ => False) hq).blk hWB.out id))
  (try replace hM := Lib.hid (hM.out.ext hq))
  (try replace hV := Lib.hid (hV.out.ext hq))
  (try replace hWit := Lib.hid (hWit.out.ext hq))
  (try replace hU := Lib.hid (hU.out.ext hq))
  replace hE := Lib.hid (hE.out.trans hq)
  clear hq
  clear hA1 hg hf ht
  go_wp2_with fail
  have hWB := Lib.hid (blk_new' (w := w4) (g := w4.heap.size) (t := 28) (cs := #[.int .i64 f, .int .i64 t]) rfl rfl)
  replace hM := Lib.hid (hM.out.ext ((Ext.refl w4).alloc (.cells #[.int .i64 f, .int .i64 t] 28)))
  replace hE := Lib.hid (hE.out.alloc (.cells #[.int .i64 f, .int .i64 t] 28))
  refine (view_calls _ marks g f t _ hM.out).mono ?_
  rw [hview.out]
  rintro e w5 ⟨u, rfl, hu, hq⟩
  obtain ⟨vA, vC, rfl⟩ := hu.form
  (try replace hA1 := Lib.hid ((Keep.of_ext (X := fun _ => False) hq).blk hA1.out id))
  (try replace hWB := Lib.hid ((Keep.of_ext (X := fun _ => False) hq).blk hWB.out id))
  (try replace hM := Lib.hid (hM.out.ext hq))
  (try replace hV := Lib.hid (hV.out.ext hq))
  (try replace hWit := Lib.hid (hWit.out.ext hq))
  (try replace hU := Lib.hid (hU.out.ext hq))
  replace hE := Lib.hid (hE.out.trans hq)
  clear hq
  have hV := Lib.hid hu
  clear hu
  have b0 : w5.cell? ⟨w4.heap.size, 0, none⟩ = some (.int .i64 f) := hWB.out.cell 0
  have b1 : w5.cell? ⟨w4.heap.size, 1, none⟩ = some (.int .i64 t) := hWB.out.cell 1
  have blt := hWB.out.lt
  go_wp2_with fail
  have hVi : Ints w5 (.slice vA v.length vC) (v.map fun k : Nat => (k : Int)) := hV.out
  refine (witness_calls _ _ g f t _ hVi).mono ?_
  rw [hwit.out]
  rintro e w6 ⟨u, rfl, hu, hq⟩
  obtain ⟨kA, kC, rfl⟩ := hu.read.form
  clear b0 b1 blt hVi
  (try replace hA1 := Lib.hid ((Keep.of_ext (X := fun _ => False) hq).blk hA1.out id))
  (try replace hWB := Lib.hid ((Keep.of_ext (X := fun _ => False) hq).blk hWB.out id))
  (try replace hM := Lib.hid (hM.out.ext hq))
  (try replace hV := Lib.hid (hV.out.ext hq))
  (try replace hWit := Lib.hid (hWit.out.ext hq))
  (try replace hU := Lib.hid (hU.out.ext hq))
  replace hE := Lib.hid (hE.out.trans hq)
  clear hq
  have hWit := Lib.hid hu.read
  clear hu
  have b0 : w6.cell? ⟨w4.heap.size, 0, none⟩ = some (.int .i64 f) := hWB.out.cell 0
  have b1 : w6.cell? ⟨w4.heap.size, 1, none⟩ = some (.int .i64 t) := hWB.out.cell 1
  have blt := hWB.out.lt
  go_wp2_with fail
  refine (view_calls _ wit g f t _ hWit.out).mono ?_
  rw [hview2.out]
  rintro e w7 ⟨u, rfl, hu, hq⟩
  obtain ⟨uA, uC, rfl⟩ := hu.form
  clear b0 b1 blt
  (try replace hA1 := Lib.hid ((Keep.of_ext (X := fun _ => False) hq).blk hA1.out id))
  (try replace hWB := Lib.hid ((Keep.of_ext (X := fun _ => False) hq).blk hWB.out id))
  (try replace hM := Lib.hid (hM.out.ext hq))
  (try replace hV := Lib.hid (hV.out.ext hq))
  (try replace hWit := Lib.hid (hWit.out.ext hq))
  (try replace hU := Lib.hid (hU.out.ext hq))
  replace hE := Lib.hid (hE.out.trans hq)
  clear hq
  have hU := Lib.hid hu
  clear hu
  have b0 : w7.cell? ⟨w4.heap.size, 0, none⟩ = some (.int .i64 f) := hWB.out.cell 0
  have b1 : w7.cell? ⟨w4.heap.size, 1, none⟩ = some (.int .i64 t) := hWB.out.cell 1
  have blt := hWB.out.lt
  go_wp2_with fail
  refine (same_calls _ _ marks wit g f t _ hM.out hWit.out).mono ?_
  rw [hsame.out]
  rintro e w8 ⟨rfl, hq⟩
  clear b0 b1 blt
  (try replace hA1 := Lib.hid ((Keep.of_ext (X := fun _ => False) hq).blk hA1.out id))
  (try replace hWB := Lib.hid ((Keep.of_ext (X := fun _ => False) hq).blk hWB.out id))
  (try replace hM := Lib.hid (hM.out.ext hq))
  (try replace hV := Lib.hid (hV.out.ext hq))
  (try replace hWit := Lib.hid (hWit.out.ext hq))
  (try replace hU := Lib.hid (hU.out.ext hq))
  replace hE := Lib.hid (hE.out.trans hq)
  clear hq
  go_wp2_with fail
  refine (rNumbers_calls _ _ v v _ hU.out hV.out).mono ?_
  rw [show decide (v = v) = true by simp]
  rintro e w9 ⟨rfl, hq⟩
  (try replace hA1 := Lib.hid ((Keep.of_ext (X := fun _ => False) hq).blk hA1.out id))
  (try replace hWB := Lib.hid ((Keep.of_ext (X := fun _ => False) hq).blk hWB.out id))
  (try replace hM := Lib.hid (hM.out.ext hq))
  (try replace hV := Lib.hid (hV.out.ext hq))
  (try replace hWit := Lib.hid (hWit.out.ext hq))
  (try replace hU := Lib.hid (hU.out.ext hq))
  replace hE := Lib.hid (hE.out.trans hq)
  clear hq
  clear hV hU hview hview2 hwit hsame
  go_wp2_with fail
  go_loopw [17] (fun vi wr => ∃ k : Nat, 1 ≤ k ∧ (k : Int) ≤ g ∧ vi = .int .i64 k ∧ Hid (Blk wr w4.heap.size 28 #[.int .i64 f, .int .i64 t]) ∧ Hid (Marks wr (.slice mA marks.length mC) marks) ∧ Hid (Marks wr (.slice kA wit.length kC) wit) ∧ Hid (Ext w wr)) (fun vi _ => 5 - (intOf vi).toNat)
  case atStart => exact ⟨1, by omega, by omega, rfl, hWB, hM, hWit, hE⟩
  case round =>
    clear hWB hM hWit hE
    obtain ⟨k, hk1, hkg, rfl, hWB, hM, hWit, hE⟩ := hrel
    by_cases h1 : (k : Int) < g
    · skip
      have b0 : wr.cell? ⟨w4.heap.size, 0, none⟩ = some (.int .i64 f) := hWB.out.cell 0
      have b1 : wr.cell? ⟨w4.heap.size, 1, none⟩ = some (.int .i64 t) := hWB.out.cell 1
      have blt := hWB.out.lt
      rcases hlow.out k (by omega) hkg with hs | hs
      · have hs' := Lib.hid hs
        clear hs
        go_wp2_with fail
        refine (same_calls _ _ marks wit k f t _ hM.out hWit.out).mono ?_
        rw [hs'.out]
        rintro e wB ⟨rfl, hq⟩
        clear b0 b1 blt
        (try replace hA1 := Lib.hid ((Keep.of_ext (X := fun _ => False) hq).blk hA1.out id))
        (try replace hWB := Lib.hid ((Keep.of_ext (X := fun _ => False) hq).blk hWB.out id))
        (try replace hM := Lib.hid (hM.out.ext hq))
        (try replace hV := Lib.hid (hV.out.ext hq))
        (try replace hWit := Lib.hid (hWit.out.ext hq))
        (try replace hU := Lib.hid (hU.out.ext hq))
        replace hE := Lib.hid (hE.out.trans hq)
        clear hq
        go_wp2
        go_roundw
        case rel => first | exact ⟨k + 1, by omega, by omega, by go_num, hWB, hM, hWit, hE⟩ | ((repeat apply Exists.intro); exact ⟨⟨k + 1, by omega, by omega, by go_num, hWB, hM, hWit, hE⟩, rfl⟩)
        case measure => simp [intOf]; omega
      · have hs' := Lib.hid hs
        clear hs
        go_wp2_with fail
        refine (same_calls _ _ marks wit k f t _ hM.out hWit.out).mono ?_
        rw [hs'.out]
        rintro e wB ⟨rfl, hq⟩
        clear b0 b1 blt
        (try replace hA1 := Lib.hid ((Keep.of_ext (X := fun _ => False) hq).blk hA1.out id))
        (try replace hWB := Lib.hid ((Keep.of_ext (X := fun _ => False) hq).blk hWB.out id))
        (try replace hM := Lib.hid (hM.out.ext hq))
        (try replace hV := Lib.hid (hV.out.ext hq))
        (try replace hWit := Lib.hid (hWit.out.ext hq))
        (try replace hU := Lib.hid (hU.out.ext hq))
        replace hE := Lib.hid (hE.out.trans hq)
        clear hq
        go_wp2
        go_roundw
        case rel => first | exact ⟨k + 1, by omega, by omega, by go_num, hWB, hM, hWit, hE⟩ | ((repeat apply Exists.intro); exact ⟨⟨k + 1, by omega, by omega, by go_num, hWB, hM, hWit, hE⟩, rfl⟩)
        case measure => simp [intOf]; omega
    · go_wp2
      go_ret
      exact ⟨rfl, hE.out⟩
end Go.Proofs.Ytcmcojmhlgknoaa
