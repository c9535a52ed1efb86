/- The law CoarseGrows, walked: true for every two lists of numbers and every question. -/
import Derived.Test.YtcmcojmhlgknoaaGO
namespace Go.Proofs.Ytcmcojmhlgknoaa
open Go.RowKit

theorem cell_app (g : Int) (a b : List MarkD) (f : Int) (i : Nat) : cellN g (a ++ b) f i = cellN g a f i ||| cellN g b f i := by
  apply Nat.eq_of_testBit_eq
  intro p
  rw [Nat.testBit_or, cellN, cellN, cellN, num_bit, num_bit, num_bit, List.any_append]
theorem cell_shift (g : Int) (a : List MarkD) (f : Int) (h i : Nat) : cellN g a (f + h * sizeG g) i = cellN g a f (h + i) := by
  unfold cellN
  rw [show f + (h : Int) * sizeG g + i * sizeG g = f + ((h + i : Nat) : Int) * sizeG g by rw [Int.natCast_add, Int.add_mul]; omega]
theorem Nums.get {w : World} {a : Option Addr} {n c : Nat} {l : List Nat} (h : Nums w (.slice a n c) l) {i x : Nat} (hx : l[i]? = some x) : ∃ b off, a = some ⟨b, off, none⟩ ∧ b < w.heap.size ∧ w.cell? ⟨b, off + i, none⟩ = some (.int .i64 (x : Int)) := by
  obtain ⟨a', c', e, h1, h2, h3⟩ := h
  cases e
  have hi : i < l.length := (List.getElem?_eq_some_iff.1 hx).1
  obtain ⟨b, off, e1, e2, e3⟩ := h3 (by rw [List.length_map]; omega)
  refine ⟨b, off, e1, e2, ?_⟩
  have := e3 i (by rw [List.length_map]; exact hi) 0 (by omega)
  rw [Nat.mul_one, Nat.add_zero] at this
  rw [this]
  dsimp only
  rw [List.getElem?_map, hx]
  rfl
theorem markCells_one (l : List MarkD) : ∀ u ∈ markCells l, u.oneCell' = true := by
  intro u hu
  obtain ⟨m, _, hm⟩ := List.mem_flatMap.1 hu
  simp only [List.mem_cons, List.not_mem_nil, or_false] at hm
  rcases hm with rfl | rfl | rfl <;> rfl
theorem Nums.cap {w : World} {a : Option Addr} {n c : Nat} {l : List Nat} (h : Nums w (.slice a n c) l) : n ≤ c ∧ c ≤ 9223372036854775807 := by
  obtain ⟨a', c', e, h1, h2, _⟩ := h
  cases e
  exact ⟨h1, by unfold maxLen at h2; omega⟩
set_option maxHeartbeats 12800000 in
set_option maxRecDepth 100000 in
theorem coarseGrows_calls (va : Value) (l : List T16) (vb : Value) (l2 : List T16) (vx : Value) (x : AskD) (w : World) (hl : Tri16 w va l) (hl2 : Tri16 w vb l2) (hx : AskV w vx x) :
    Calls Try.prog 5 #[va, vb, vx] w fun e w' => e = .returned (.bool true) ∧ Ext w w' := by
  obtain ⟨gr, tr, a, b⟩ := x
  obtain ⟨rfl, ha, hb⟩ := hx
  dsimp only at ha hb ⊢
  have hL := Lib.hid hl
  have hL2 := Lib.hid hl2
  obtain ⟨lA, lC, rfl⟩ := hl.form
  obtain ⟨kA, kC, rfl⟩ := hl2.form
  clear hl hl2
  obtain ⟨g, hg⟩ : ∃ g, Hid (grainL gr = g) := ⟨_, rfl⟩
  have hg4 : 1 ≤ g ∧ g ≤ 4 := hg.out ▸ grain_in gr
  obtain ⟨f, hf⟩ : ∃ f, Hid (winF g a = f) := ⟨_, rfl⟩
  obtain ⟨t, ht⟩ : ∃ t, Hid (winT g a b = t) := ⟨_, rfl⟩
  obtain ⟨n, hn⟩ : ∃ n : Nat, b % 41 = (n : Int) := ⟨(b % 41).toNat, by omega⟩
  have hn40 : n ≤ 40 := by omega
  have hc := cells_win hg4 a b
  have hbd := win_bd g a b
  rw [hf.out, ht.out, hn] at hc
  rw [hf.out, ht.out, hn] at hbd
  obtain ⟨m1, hm1⟩ : ∃ m, Hid (madeL l = m) := ⟨_, rfl⟩
  obtain ⟨m2, hm2⟩ : ∃ m, Hid (madeL l2 = m) := ⟨_, rfl⟩
  have hval : m1.all markB = true := hm1.out ▸ made_all l
  have hval2 : m2.all markB = true := hm2.out ▸ made_all l2
  have hlen1 : m1.length ≤ 6 := hm1.out ▸ made_len l
  have hlen2 : m2.length ≤ 6 := hm2.out ▸ made_len l2
  have hval3 : (m1 ++ m2).all markB = true := by rw [List.all_append, hval, hval2]; rfl
  obtain ⟨h, hh⟩ : ∃ h, Hid (n / 2 = h) := ⟨_, rfl⟩
  have hhn : h ≤ n := by rw [← hh.out]; omega
  obtain ⟨s, hs⟩ : ∃ s, Hid (sizeG g = s) := ⟨_, rfl⟩
  have hs12 := size_pos g
  rw [hs.out] at hbd hs12
  obtain ⟨mid, hmid⟩ : ∃ mid, Hid (f + (h : Int) * s = mid) := ⟨_, rfl⟩
  have hts : t = f + n * s := by rw [hbd.2.2.1, Int.mul_comm]
  have hhs : (h : Int) * s ≤ n * s := mul_mono hs12.1 (by omega)
  have hhs0 : 0 ≤ (h : Int) * s := Int.mul_nonneg (by omega) (by omega)
  have hns : (n : Int) * s ≤ 57600 := by rw [Int.mul_comm]; exact hbd.2.2.2.2.1
  have hc0 : (cellsG g f t).2 = 0 := by rw [hc]
  have hck := cells_ok hc0
  have hf0 := hck.2.2.1
  have ht0 := hck.2.2.2.1
  clear hck
  rw [hs.out] at hf0 ht0
  have hm0 : mid % s = 0 := by rw [← hmid.out, Int.add_emod, hf0, Int.mul_emod_left]; rfl
  have hcg : ∀ (p q : Int) (k : Nat), p % s = 0 → q % s = 0 → -200000 ≤ p → p ≤ q → q ≤ 200000 → q = p + k * s → k ≤ 40 → cellsG g p q = ((k : Int), 0) := fun p q k h1 h2 h3 h4 h5 h6 h7 => by
    have hw : windowB p q = true := by rw [window_iff]; omega
    have hd : (q - p) / s = k := by rw [h6, show p + (k : Int) * s - p = k * s by omega]; exact Int.mul_ediv_cancel _ (by omega)
    unfold cellsG
    rw [hs.out, hw, show grainB g = true by unfold grainB; rw [decide_eq_true (show 0 ≤ g by omega), decide_eq_true (show g ≤ 4 by omega)]; rfl, Bool.and_true, if_pos rfl, if_neg (by omega), if_pos ⟨h1, h2⟩, hd, if_neg (by omega)]
  have hcl := hcg f mid h hf0 hm0 (by omega) (by rw [← hmid.out]; omega) (by rw [← hmid.out]; omega) hmid.out.symm (by omega)
  have hcr := hcg mid t (n - h) hm0 ht0 (by rw [← hmid.out]; omega) (by rw [← hmid.out]; omega) (by omega) (by
    rw [← hmid.out, hts, show ((n - h : Nat) : Int) = n - h by omega, Int.sub_mul]; omega) (by omega)
  have hview1 := Lib.hid (view_ok hval hc)
  have hview2 := Lib.hid (view_ok hval2 hc)
  have hview3 := Lib.hid (view_ok hval3 hc)
  have hviewL := Lib.hid (view_ok hval hcl)
  have hviewR := Lib.hid (view_ok hval hcr)
  obtain ⟨u1, hu1⟩ : ∃ u, Hid (viewN g m1 f n = u) := ⟨_, rfl⟩
  obtain ⟨u2, hu2⟩ : ∃ u, Hid (viewN g m2 f n = u) := ⟨_, rfl⟩
  obtain ⟨u3, hu3⟩ : ∃ u, Hid (viewN g (m1 ++ m2) f n = u) := ⟨_, rfl⟩
  obtain ⟨uL, huL⟩ : ∃ u, Hid (viewN g m1 f h = u) := ⟨_, rfl⟩
  obtain ⟨uR, huR⟩ : ∃ u, Hid (viewN g m1 mid (n - h) = u) := ⟨_, rfl⟩
  rw [hu1.out] at hview1
  rw [hu2.out] at hview2
  rw [hu3.out] at hview3
  rw [huL.out] at hviewL
  rw [huR.out] at hviewR
  have k1 : Hid (u1.length = n) := by show _ = _; rw [← hu1.out, viewN_len]
  have k2 : Hid (u2.length = n) := by show _ = _; rw [← hu2.out, viewN_len]
  have k3 : Hid (u3.length = n) := by show _ = _; rw [← hu3.out, viewN_len]
  have kL : Hid (uL.length = h) := by show _ = _; rw [← huL.out, viewN_len]
  have kR : Hid (uR.length = n - h) := by show _ = _; rw [← huR.out, viewN_len]
  have hat : Hid (∀ k : Nat, k < n → ∃ x y : Nat, x < 2 ^ 8 ∧ y < 2 ^ 8 ∧ u1[k]? = some x ∧ u2[k]? = some y ∧ u3[k]? = some (x ||| y) ∧ (k < h → uL[k]? = some x) ∧ (h ≤ k → uR[k - h]? = some x)) := fun k hk => by
    refine ⟨cellN g m1 f k, cellN g m2 f k, cell_lt hval k, cell_lt hval2 k, ?_, ?_, ?_, fun h1 => ?_, fun h1 => ?_⟩
    · rw [← hu1.out, viewN_at hk]
    · rw [← hu2.out, viewN_at hk]
    · rw [← hu3.out, viewN_at hk, cell_app]
    · rw [← huL.out, viewN_at h1]
    · rw [← huR.out, viewN_at (by omega), ← hmid.out, ← hs.out, cell_shift, show h + (k - h) = k by omega]
  have htd : (t - f).tdiv s = (n : Int) := by
    rw [hts, show f + (n : Int) * s - f = n * s by omega, Int.tdiv_eq_ediv_of_nonneg (Int.mul_nonneg (by omega) (by omega))]
    exact Int.mul_ediv_cancel _ (by omega)
  have htd2 : (n : Int).tdiv 2 = (h : Int) := by rw [Int.tdiv_eq_ediv_of_nonneg (by omega), ← hh.out]; omega
  have hsz : Hid (∀ W, Calls Try.prog 26 #[.int .i64 g] W fun e w' => e = .returned (.int .i64 s) ∧ Ext W w') := fun W => hs.out ▸ rSize_calls g W
  have hfb1 : -100000 ≤ f := by omega
  have hfb2 : f ≤ 100000 := by omega
  have htb1 : f ≤ t := by omega
  have htb2 : t ≤ 200000 := by omega
  have hs1 := hs12.1
  have hs2 := hs12.2
  have hsz0 : (s == 0) = false := by rw [beq_eq_false_iff_ne]; omega
  have hhs2 : (h : Int) * s ≤ 57600 := by omega
  obtain ⟨j0, hj0, jz0, jz1, jz2⟩ := info_parts mark_info
  clear hc hval hval2 hval3 hn hu1 hu2 hu3 huL huR hts hhs hns hc0 hf0 ht0 hm0 hcg hcl hcr hbd hs12 hh
  go_enter Try.func5, Try.ntmps5
  go_wp2_with fail
  refine (sanity_calls _).mono ?_
  rintro e w1 ⟨rfl, hq⟩
  have hA1 : Hid (Blk w1 w.heap.size 25 #[.int .i64 gr, .int .i64 tr, .int .u8 a, .int .u8 b]) := Lib.hid ((Keep.of_ext (X := fun _ => False) hq).blk (blk_new' rfl rfl) id)
  have hE := Lib.hid (((Ext.refl w).alloc (.cells #[.int .i64 gr, .int .i64 tr, .int .u8 a, .int .u8 b] 25)).trans hq)
  clear hq
  go_wp2_with fail
  refine (rMade_calls _ l _ (hL.out.ext hE.out)).mono ?_
  rintro e w2 ⟨vm, rfl, hm, hq⟩
  rw [hm1.out] at hm
  obtain ⟨mA, mC, rfl⟩ := hm.read.form
  (try replace hA1 := Lib.hid ((Keep.of_ext (X := fun _ => False) hq).blk hA1.out id))
  (try replace hWB := Lib.hid ((Keep.of_ext (X := fun _ => False) hq).blk hWB.out id))
  (try replace hM := Lib.hid (hM.out.ext hq))
  (try replace hM2 := Lib.hid (hM2.out.ext hq))
  (try replace hM3 := Lib.hid (hM3.out.ext hq))
  (try replace hV := Lib.hid (hV.out.ext hq))
  (try replace hU := Lib.hid (hU.out.ext hq))
  (try replace hC := Lib.hid (hC.out.ext hq))
  (try replace hS := Lib.hid (hS.out.ext hq))
  (try replace hR := Lib.hid (hR.out.ext hq))
  replace hE := Lib.hid (hE.out.trans hq)
  clear hq
  have hM := Lib.hid hm
  clear hm hL hm1
  go_wp2_with fail
  refine (rMade_calls _ l2 _ (hL2.out.ext hE.out)).mono ?_
  rintro e w3 ⟨vm, rfl, hm, hq⟩
  rw [hm2.out] at hm
  obtain ⟨nA, nC, rfl⟩ := hm.read.form
  (try replace hA1 := Lib.hid ((Keep.of_ext (X := fun _ => False) hq).blk hA1.out id))
  (try replace hWB := Lib.hid ((Keep.of_ext (X := fun _ => False) hq).blk hWB.out id))
  (try replace hM := Lib.hid (hM.out.ext hq))
  (try replace hM2 := Lib.hid (hM2.out.ext hq))
  (try replace hM3 := Lib.hid (hM3.out.ext hq))
  (try replace hV := Lib.hid (hV.out.ext hq))
  (try replace hU := Lib.hid (hU.out.ext hq))
  (try replace hC := Lib.hid (hC.out.ext hq))
  (try replace hS := Lib.hid (hS.out.ext hq))
  (try replace hR := Lib.hid (hR.out.ext hq))
  replace hE := Lib.hid (hE.out.trans hq)
  clear hq
  have hM2 := Lib.hid hm
  clear hm hL2 hm2
  have c0 : w3.cell? ⟨w.heap.size, 0, none⟩ = some (.int .i64 gr) := hA1.out.cell 0
  go_wp2_with fail
  refine (grain_calls gr _).mono ?_
  rw [hg.out]
  rintro e w4 ⟨rfl, hq⟩
  clear c0 hg
  (try replace hA1 := Lib.hid ((Keep.of_ext (X := fun _ => False) hq).blk hA1.out id))
  (try replace hWB := Lib.hid ((Keep.of_ext (X := fun _ => False) hq).blk hWB.out id))
  (try replace hM := Lib.hid (hM.out.ext hq))
  (try replace hM2 := Lib.hid (hM2.out.ext hq))
  (try replace hM3 := Lib.hid (hM3.out.ext hq))
  (try replace hV := Lib.hid (hV.out.ext hq))
  (try replace hU := Lib.hid (hU.out.ext hq))
  (try replace hC := Lib.hid (hC.out.ext hq))
  (try replace hS := Lib.hid (hS.out.ext hq))
  (try replace hR := Lib.hid (hR.out.ext hq))
  replace hE := Lib.hid (hE.out.trans hq)
  clear hq
  have c2 : w4.cell? ⟨w.heap.size, 2, none⟩ = some (.int .u8 a) := hA1.out.cell 2
  have c3 : w4.cell? ⟨w.heap.size, 3, none⟩ = some (.int .u8 b) := hA1.out.cell 3
  go_wp2_with fail
  refine (rWindow_calls g a b ha hb _).mono ?_
  rw [hf.out, ht.out]
  rintro e w5 ⟨rfl, hq⟩
  clear c2 c3 hf ht
  (try replace hA1 := Lib.hid ((Keep.of_ext (X := fun _ => False) hq).blk hA1.out id))
  (try replace hWB := Lib.hid ((Keep.of_ext (X := fun _ => False) hq).blk hWB.out id))
  (try replace hM := Lib.hid (hM.out.ext hq))
  (try replace hM2 := Lib.hid (hM2.out.ext hq))
  (try replace hM3 := Lib.hid (hM3.out.ext hq))
  (try replace hV := Lib.hid (hV.out.ext hq))
  (try replace hU := Lib.hid (hU.out.ext hq))
  (try replace hC := Lib.hid (hC.out.ext hq))
  (try replace hS := Lib.hid (hS.out.ext hq))
  (try replace hR := Lib.hid (hR.out.ext hq))
  replace hE := Lib.hid (hE.out.trans hq)
  clear hq
  clear hA1
  go_upto_region 6 with (fail)
  refine wp_abs (S := fun W => Hid (Blk W w5.heap.size 28 #[.int .i64 f, .int .i64 t]) ∧ Hid (MarksO W w1.heap.size (.slice mA m1.length mC) m1) ∧ Hid (MarksO W w2.heap.size (.slice nA m2.length nC) m2) ∧ Hid (Ext w W)) ?_ ?_
  · exact ⟨Lib.hid (blk_new' rfl rfl), Lib.hid (hM.out.ext ((Ext.refl w5).alloc _)), Lib.hid (hM2.out.ext ((Ext.refl w5).alloc _)), Lib.hid (hE.out.alloc _)⟩
  clear hM hM2 hE
  rintro w6 ⟨hWB, hM, hM2, hE⟩
  have hs6 := hE.out.size
  have hone1 := Lib.hid (markCells_one m1)
  have hone2 := Lib.hid (markCells_one m2)
  go_upto_region 7 with (at_builtin; refine wpList_append_any _ rfl (.tmp 37) (.tmp 38) _ rfl w6.heap.size 47 j0 _ 3 24 Try.underlying37 hj0 jz0 jz1 jz2 rfl (by decide) (.slice (some ⟨w6.heap.size, 0, none⟩) 0 0) 0 [] rfl (World.ownsRow_made w6 #[] 0 (Nat.le_refl _) (by unfold maxLen; omega) rfl) w6.heap.size mA m1.length mC (markCells m1) rfl ((Reads.of_own hM.out).alloc (Nat.le_refl _) _) hone1.out (by unfold maxLen; omega) (by omega) (by rw [World.size_alloc]; omega) ?_; intro v7 w7 hown7 hg7 hat7; rw [Nat.zero_add, List.nil_append] at hown7; obtain ⟨A7, C7, rfl⟩ := owns_form hown7)
  have hq7 : Ext w6 w7 := ((Ext.refl w6).alloc (.cells #[] 47)).grown hg7 (by intro k hk; simp [Value.ownBlock] at hk; omega)
  have hs7 := hq7.size
  have hq7' := Lib.hid hq7
  have hM2' := Lib.hid (hM2.out.ext hq7)
  have hO7 := Lib.hid hown7
  clear hg7 hat7 hq7 hown7
  go_upto_region 8 with (at_builtin; refine wpList_append_any _ rfl (.tmp 40) (.tmp 41) _ rfl w6.heap.size 47 j0 _ 3 24 Try.underlying37 hj0 jz0 jz1 jz2 rfl (by decide) (.slice A7 m1.length C7) m1.length (markCells m1) rfl hO7.out w7.heap.size nA m2.length nC (markCells m2) rfl (Reads.of_own hM2'.out) hone2.out (by unfold maxLen; omega) (by omega) (by omega) ?_; intro v8 w8 hown8 hg8 hat8; obtain ⟨A8, C8, rfl⟩ := owns_form hown8)
  have hM3 : Hid (Marks w8 (.slice A8 (m1.length + m2.length) C8) (m1 ++ m2)) := by
    have h9 : MarksO w8 w6.heap.size (.slice A8 (m1.length + m2.length) C8) (m1 ++ m2) := by
      unfold MarksO
      rw [List.length_append, markCells_app]
      exact hown8
    exact Lib.hid h9.read
  have hq : Ext w6 w8 := hq7'.out.grown hg8 (fun k e => (hO7.out.lt k e).1)
  clear hown8 hg8 hat8 hO7 hM2' hq7' hone1 hone2 hs7 hs6
  (try replace hM := Lib.hid hM.out.read)
  (try replace hM2 := Lib.hid hM2.out.read)
  replace hM := Lib.hid (hM.out.ext hq)
  replace hM2 := Lib.hid (hM2.out.ext hq)
  replace hWB := Lib.hid ((Keep.of_ext (X := fun _ => False) hq).blk hWB.out id)
  replace hE := Lib.hid (hE.out.trans hq)
  clear hq
  have b0 : w8.cell? ⟨w5.heap.size, 0, none⟩ = some (.int .i64 f) := hWB.out.cell 0
  have b1 : w8.cell? ⟨w5.heap.size, 1, none⟩ = some (.int .i64 t) := hWB.out.cell 1
  have blt := hWB.out.lt
  go_wp2_with fail
  refine (view_calls _ m1 g f t _ hM.out).mono ?_
  rw [hview1.out]
  rintro e w9 ⟨v, rfl, hu, hq⟩
  obtain ⟨UA, UC, rfl⟩ := hu.form
  (try clear b0 b1 blt)
  (try replace hA1 := Lib.hid ((Keep.of_ext (X := fun _ => False) hq).blk hA1.out id))
  (try replace hWB := Lib.hid ((Keep.of_ext (X := fun _ => False) hq).blk hWB.out id))
  (try replace hM := Lib.hid (hM.out.ext hq))
  (try replace hM2 := Lib.hid (hM2.out.ext hq))
  (try replace hM3 := Lib.hid (hM3.out.ext hq))
  (try replace hV := Lib.hid (hV.out.ext hq))
  (try replace hU := Lib.hid (hU.out.ext hq))
  (try replace hC := Lib.hid (hC.out.ext hq))
  (try replace hS := Lib.hid (hS.out.ext hq))
  (try replace hR := Lib.hid (hR.out.ext hq))
  replace hE := Lib.hid (hE.out.trans hq)
  clear hq
  have hU := Lib.hid hu
  clear hu
  have b0 : w9.cell? ⟨w5.heap.size, 0, none⟩ = some (.int .i64 f) := hWB.out.cell 0
  have b1 : w9.cell? ⟨w5.heap.size, 1, none⟩ = some (.int .i64 t) := hWB.out.cell 1
  have blt := hWB.out.lt
  go_wp2_with fail
  refine (view_calls _ m2 g f t _ hM2.out).mono ?_
  rw [hview2.out]
  rintro e w10 ⟨v, rfl, hu, hq⟩
  obtain ⟨VA, VC, rfl⟩ := hu.form
  (try clear b0 b1 blt)
  (try replace hA1 := Lib.hid ((Keep.of_ext (X := fun _ => False) hq).blk hA1.out id))
  (try replace hWB := Lib.hid ((Keep.of_ext (X := fun _ => False) hq).blk hWB.out id))
  (try replace hM := Lib.hid (hM.out.ext hq))
  (try replace hM2 := Lib.hid (hM2.out.ext hq))
  (try replace hM3 := Lib.hid (hM3.out.ext hq))
  (try replace hV := Lib.hid (hV.out.ext hq))
  (try replace hU := Lib.hid (hU.out.ext hq))
  (try replace hC := Lib.hid (hC.out.ext hq))
  (try replace hS := Lib.hid (hS.out.ext hq))
  (try replace hR := Lib.hid (hR.out.ext hq))
  replace hE := Lib.hid (hE.out.trans hq)
  clear hq
  have hV := Lib.hid hu
  clear hu
  have b0 : w10.cell? ⟨w5.heap.size, 0, none⟩ = some (.int .i64 f) := hWB.out.cell 0
  have b1 : w10.cell? ⟨w5.heap.size, 1, none⟩ = some (.int .i64 t) := hWB.out.cell 1
  have blt := hWB.out.lt
  go_wp2_with fail
  refine (view_calls _ (m1 ++ m2) g f t _ hM3.out).mono ?_
  rw [hview3.out]
  rintro e w11 ⟨v, rfl, hu, hq⟩
  obtain ⟨CA, CC, rfl⟩ := hu.form
  (try clear b0 b1 blt)
  (try replace hA1 := Lib.hid ((Keep.of_ext (X := fun _ => False) hq).blk hA1.out id))
  (try replace hWB := Lib.hid ((Keep.of_ext (X := fun _ => False) hq).blk hWB.out id))
  (try replace hM := Lib.hid (hM.out.ext hq))
  (try replace hM2 := Lib.hid (hM2.out.ext hq))
  (try replace hM3 := Lib.hid (hM3.out.ext hq))
  (try replace hV := Lib.hid (hV.out.ext hq))
  (try replace hU := Lib.hid (hU.out.ext hq))
  (try replace hC := Lib.hid (hC.out.ext hq))
  (try replace hS := Lib.hid (hS.out.ext hq))
  (try replace hR := Lib.hid (hR.out.ext hq))
  replace hE := Lib.hid (hE.out.trans hq)
  clear hq
  have hC := Lib.hid hu
  clear hu
  rw [k1.out, k2.out, k3.out]
  clear hM2 hM3 hview1 hview2 hview3
  go_upto_region 13 with (fail)
  have z0 := After.cell (show w11.cell? ⟨w5.heap.size, 0, none⟩ = some (.int .i64 f) from hWB.out.cell 0)
  have z1 := After.cell (show w11.cell? ⟨w5.heap.size, 1, none⟩ = some (.int .i64 t) from hWB.out.cell 1)
  refine wp_region_after (by kernel_rfl) (by kernel_rfl) ?_
  repeat (go_big_quiet_step (exact After.call _ (hsz.out _)))
  refine wpQuiet_nil ?_
  rintro _ ⟨u, rfl⟩
  have hq := u.ext
  generalize u.world = w12 at hq ⊢
  clear z0 z1 u
  (try replace hA1 := Lib.hid ((Keep.of_ext (X := fun _ => False) hq).blk hA1.out id))
  (try replace hWB := Lib.hid ((Keep.of_ext (X := fun _ => False) hq).blk hWB.out id))
  (try replace hM := Lib.hid (hM.out.ext hq))
  (try replace hM2 := Lib.hid (hM2.out.ext hq))
  (try replace hM3 := Lib.hid (hM3.out.ext hq))
  (try replace hV := Lib.hid (hV.out.ext hq))
  (try replace hU := Lib.hid (hU.out.ext hq))
  (try replace hC := Lib.hid (hC.out.ext hq))
  (try replace hS := Lib.hid (hS.out.ext hq))
  (try replace hR := Lib.hid (hR.out.ext hq))
  replace hE := Lib.hid (hE.out.trans hq)
  clear hq
  rw [hmid.out]
  clear hmid htd htd2 hsz hhs0 hhs2
  have b0 : w12.cell? ⟨w5.heap.size, 0, none⟩ = some (.int .i64 f) := hWB.out.cell 0
  have b1 : w12.cell? ⟨w5.heap.size, 1, none⟩ = some (.int .i64 t) := hWB.out.cell 1
  have blt := hWB.out.lt
  go_wp2_with fail
  refine (view_calls _ m1 g f mid _ hM.out).mono ?_
  rw [hviewL.out]
  rintro e w13 ⟨v, rfl, hu, hq⟩
  obtain ⟨SA, SC, rfl⟩ := hu.form
  (try clear b0 b1 blt)
  (try replace hA1 := Lib.hid ((Keep.of_ext (X := fun _ => False) hq).blk hA1.out id))
  (try replace hWB := Lib.hid ((Keep.of_ext (X := fun _ => False) hq).blk hWB.out id))
  (try replace hM := Lib.hid (hM.out.ext hq))
  (try replace hM2 := Lib.hid (hM2.out.ext hq))
  (try replace hM3 := Lib.hid (hM3.out.ext hq))
  (try replace hV := Lib.hid (hV.out.ext hq))
  (try replace hU := Lib.hid (hU.out.ext hq))
  (try replace hC := Lib.hid (hC.out.ext hq))
  (try replace hS := Lib.hid (hS.out.ext hq))
  (try replace hR := Lib.hid (hR.out.ext hq))
  replace hE := Lib.hid (hE.out.trans hq)
  clear hq
  have hS := Lib.hid hu
  clear hu
  have b0 : w13.cell? ⟨w5.heap.size, 0, none⟩ = some (.int .i64 f) := hWB.out.cell 0
  have b1 : w13.cell? ⟨w5.heap.size, 1, none⟩ = some (.int .i64 t) := hWB.out.cell 1
  have blt := hWB.out.lt
  go_wp2_with fail
  refine (view_calls _ m1 g mid t _ hM.out).mono ?_
  rw [hviewR.out]
  rintro e w14 ⟨v, rfl, hu, hq⟩
  obtain ⟨RA, RC, rfl⟩ := hu.form
  (try clear b0 b1 blt)
  (try replace hA1 := Lib.hid ((Keep.of_ext (X := fun _ => False) hq).blk hA1.out id))
  (try replace hWB := Lib.hid ((Keep.of_ext (X := fun _ => False) hq).blk hWB.out id))
  (try replace hM := Lib.hid (hM.out.ext hq))
  (try replace hM2 := Lib.hid (hM2.out.ext hq))
  (try replace hM3 := Lib.hid (hM3.out.ext hq))
  (try replace hV := Lib.hid (hV.out.ext hq))
  (try replace hU := Lib.hid (hU.out.ext hq))
  (try replace hC := Lib.hid (hC.out.ext hq))
  (try replace hS := Lib.hid (hS.out.ext hq))
  (try replace hR := Lib.hid (hR.out.ext hq))
  replace hE := Lib.hid (hE.out.trans hq)
  clear hq
  have hR := Lib.hid hu
  clear hu
  rw [kL.out, kR.out]
  obtain ⟨r, hr⟩ : ∃ r, Hid (n - h = r) := ⟨_, rfl⟩
  rw [hr.out]
  have d0 : ((h : Int) + (r : Int) != (n : Int)) = false := by
    have := hr.out
    rw [bne_eq_false_iff_eq]
    omega
  obtain ⟨p1, p2⟩ := Nums.cap hU.out
  obtain ⟨p3, p4⟩ := Nums.cap hV.out
  obtain ⟨p5, p6⟩ := Nums.cap hC.out
  obtain ⟨p7, p8⟩ := Nums.cap hS.out
  obtain ⟨p9, p10⟩ := Nums.cap hR.out
  rw [k1.out] at hU p1
  rw [k2.out] at hV p3
  rw [k3.out] at hC p5
  rw [kL.out] at hS p7
  rw [kR.out, hr.out] at hR p9
  have hrn : r ≤ n := by have := hr.out; omega
  clear hviewL hviewR k1 k2 k3 kL kR hWB hM
  go_wp2_with fail
  go_loopw [24] (fun vi wr => ∃ k : Nat, k ≤ n ∧ vi = .int .i64 k ∧ Hid (Nums wr (.slice UA n UC) u1) ∧ Hid (Nums wr (.slice VA n VC) u2) ∧ Hid (Nums wr (.slice CA n CC) u3) ∧ Hid (Nums wr (.slice SA h SC) uL) ∧ Hid (Nums wr (.slice RA r RC) uR) ∧ Hid (Ext w wr)) (fun vi _ => n - (intOf vi).toNat)
  case atStart => exact ⟨0, by omega, rfl, hU, hV, hC, hS, hR, hE⟩
  case round =>
    clear hU hV hC hS hR hE
    obtain ⟨k, hk, rfl, hU, hV, hC, hS, hR, hE⟩ := hrel
    by_cases h1 : k < n
    · obtain ⟨x, y, hx8, hy8, hx, hy, hxy, hl1, hl2⟩ := hat.out k h1
      have hor : bits .or .i64 (x : Int) (y : Int) = ((x ||| y : Nat) : Int) := or_nat x y hx8 hy8
      obtain ⟨b1, o1, rfl, q1, g1⟩ := hU.out.get hx
      obtain ⟨b2, o2, rfl, q2, g2⟩ := hV.out.get hy
      obtain ⟨b3, o3, rfl, q3, g3⟩ := hC.out.get hxy
      obtain ⟨z, hz⟩ : ∃ z : Nat, Hid (x ||| y = z) := ⟨_, rfl⟩
      rw [hz.out] at g3 hor
      have d1 : ((z : Int) != (z : Int)) = false := by simp
      have z1 := After.cell g1
      have z2 := After.cell g2
      have z3 := After.cell g3
      by_cases h2 : k < h
      · obtain ⟨b4, o4, rfl, q4, g4⟩ := hS.out.get (hl1 h2)
        have z4 := After.cell g4
        have d2 : decide ((k : Int) < (h : Int)) = true := decide_eq_true (by omega)
        have d3 : decide ((h : Int) ≤ (k : Int)) = false := decide_eq_false (by omega)
        have d4 : decide (h ≤ k) = false := decide_eq_false (by omega)
        clear g1 g2 g3 g4 hx hy hxy hl1 hl2 hz hx8 hy8
        go_upto_region 21 with (fail)
        refine wp_region_after (by kernel_rfl) (by kernel_rfl) ?_
        repeat (go_big_quiet_step (fail))
        refine wpQuiet_nil ?_
        rintro _ ⟨u, rfl⟩
        have hq := u.ext
        generalize u.world = wB at hq ⊢
        clear z1 z2 z3 z4 u
        (try replace hA1 := Lib.hid ((Keep.of_ext (X := fun _ => False) hq).blk hA1.out id))
        (try replace hWB := Lib.hid ((Keep.of_ext (X := fun _ => False) hq).blk hWB.out id))
        (try replace hM := Lib.hid (hM.out.ext hq))
        (try replace hM2 := Lib.hid (hM2.out.ext hq))
        (try replace hM3 := Lib.hid (hM3.out.ext hq))
        (try replace hV := Lib.hid (hV.out.ext hq))
        (try replace hU := Lib.hid (hU.out.ext hq))
        (try replace hC := Lib.hid (hC.out.ext hq))
        (try replace hS := Lib.hid (hS.out.ext hq))
        (try replace hR := Lib.hid (hR.out.ext hq))
        replace hE := Lib.hid (hE.out.trans hq)
        clear hq
        go_wp2
        go_roundw
        case rel => first | exact ⟨k + 1, h1, by go_num, hU, hV, hC, hS, hR, hE⟩ | ((repeat apply Exists.intro); exact ⟨⟨k + 1, h1, by go_num, hU, hV, hC, hS, hR, hE⟩, rfl⟩)
        case measure => simp [intOf]; omega
      · obtain ⟨q, hkq⟩ : ∃ q, Hid (k - h = q) := ⟨_, rfl⟩
        have dsub : (k : Int) - (h : Int) = (q : Int) := by have := hkq.out; omega
        have hqr : q < r := by have := hkq.out; have := hr.out; omega
        have hl3 := hl2 (by omega)
        rw [hkq.out] at hl3
        obtain ⟨b4, o4, rfl, q4, g4⟩ := hR.out.get hl3
        have z4 := After.cell g4
        have d2 : decide ((k : Int) < (h : Int)) = false := decide_eq_false (by omega)
        have d3 : decide ((h : Int) ≤ (k : Int)) = true := decide_eq_true (by omega)
        have d4 : decide (h ≤ k) = true := decide_eq_true (by omega)
        have d5 : decide (k < h) = false := decide_eq_false (by omega)
        clear g1 g2 g3 g4 hx hy hxy hl1 hl2 hl3 hz hx8 hy8 hkq
        go_upto_region 21 with (fail)
        refine wp_region_after (by kernel_rfl) (by kernel_rfl) ?_
        repeat (go_big_quiet_step (fail))
        refine wpQuiet_nil ?_
        rintro _ ⟨u, rfl⟩
        have hq := u.ext
        generalize u.world = wB at hq ⊢
        clear z1 z2 z3 z4 u
        (try replace hA1 := Lib.hid ((Keep.of_ext (X := fun _ => False) hq).blk hA1.out id))
        (try replace hWB := Lib.hid ((Keep.of_ext (X := fun _ => False) hq).blk hWB.out id))
        (try replace hM := Lib.hid (hM.out.ext hq))
        (try replace hM2 := Lib.hid (hM2.out.ext hq))
        (try replace hM3 := Lib.hid (hM3.out.ext hq))
        (try replace hV := Lib.hid (hV.out.ext hq))
        (try replace hU := Lib.hid (hU.out.ext hq))
        (try replace hC := Lib.hid (hC.out.ext hq))
        (try replace hS := Lib.hid (hS.out.ext hq))
        (try replace hR := Lib.hid (hR.out.ext hq))
        replace hE := Lib.hid (hE.out.trans hq)
        clear hq
        clear dsub d2 d3 d4 d5
        go_wp2
        go_roundw
        case rel => first | exact ⟨k + 1, h1, by go_num, hU, hV, hC, hS, hR, hE⟩ | ((repeat apply Exists.intro); exact ⟨⟨k + 1, h1, by go_num, hU, hV, hC, hS, hR, hE⟩, rfl⟩)
        case measure => simp [intOf]; omega
    · go_wp2
      go_ret
      exact ⟨rfl, hE.out⟩
end Go.Proofs.Ytcmcojmhlgknoaa
