/- The law CoreHarmless, walked: true for every list of raw wishes and every number. -/
import Derived.Test.YtcpohkigbaechaaGreatDoorU3
import Derived.Test.YtcpohkigbaechaaGreatDoorUJ
import Derived.Test.YtcpohkigbaechaaGreatDoorUO
import Derived.Deep.RegionHeld3
namespace Go.Proofs.YtcpohkigbaechaaGreatDoor
open Go.RowKit Go.Shelf List

theorem rows_snoc {W : World} {B : Nat} {xs : List Value} {A : List (List Int)} {v lv : Value} {L : List Int} (h : KeptS W xs A) (hL : Ints W lv L) (ho : W.ownsRow B 23 1 v (A.length + 1) (xs ++ [lv])) : RowsI W v (A ++ [L]) := by
  have ho' : W.ownsRow B 23 1 v (A ++ [L]).length (xs ++ [lv]) := by rw [List.length_append]; exact ho
  refine ⟨fun i => (xs ++ [lv])[i]?.getD undef, sl_of_owns ho' fun i hi j hj => ?_, fun i hi => ?_⟩
  · obtain rfl : j = 0 := by omega
    rw [Nat.mul_one, Nat.add_zero]
    have : i < (xs ++ [lv]).length := by simp at hi ⊢; have := h.1; omega
    show (xs ++ [lv])[i]? = some ((xs ++ [lv])[i]?.getD undef)
    rw [List.getElem?_eq_getElem this]
    rfl
  · by_cases e : i < A.length
    · obtain ⟨v', B', a, c⟩ := h.2 i A[i] (List.getElem?_eq_getElem e)
      dsimp only
      rw [List.getElem?_append_left (by rw [h.1]; exact e), List.getElem?_append_left e, a, List.getElem?_eq_getElem e]
      exact c.read
    · obtain rfl : i = A.length := by simp at hi; omega
      dsimp only
      rw [List.getElem?_append_right (Nat.le_of_eq h.1), h.1, List.getElem?_append_right (Nat.le_refl _), Nat.sub_self]
      exact hL
/-- a row of integers that lies behind a mark stands when blocks ahead of the mark change -/
theorem ints_keepN {W W' : World} {X : Nat → Prop} {B : Nat} {v : Value} {l : List Int} (h : Ints W v l) (hN : NewR B v) (k : Keep X W W') (hX : ∀ g, X g → g < B) : Ints W' v l := by
  obtain ⟨a, c, e, h1, h2, h3⟩ := h
  refine ⟨a, c, e, h1, h2, fun hp => ?_⟩
  obtain ⟨b, off, e1, e2, e3⟩ := h3 hp
  subst e1
  have hb : B ≤ b := hN b (by rw [e]; rfl)
  exact ⟨b, off, rfl, Nat.lt_of_lt_of_le e2 k.size, fun j hj q hq => k.cell (e3 j hj q hq) fun hx => by have : b < B := hX _ hx; omega⟩
theorem ints_new1 (w : World) (z : Int) : Ints (w.alloc (.cells #[.int .i64 z] 3)) (.slice (some ⟨w.heap.size, 0, none⟩) 1 1) [z] :=
  ints_of_owns (base := w.heap.size) ⟨by simp, .inr ⟨w.heap.size, 1, #[.int .i64 z], rfl, Nat.le_refl _, World.alloc_heap_new w _, Nat.le_refl _, by unfold maxLen; omega, rfl, by simp⟩⟩
theorem rows_info4 : (Tryz.prog.info? 23).map (fun i => (i.zero, i.size, i.bytes)) = some (some (.slice none 0 0), 1, 24) := by kernel_rfl
set_option maxHeartbeats 12800000 in
set_option maxRecDepth 100000 in
theorem coreHarmless_calls (va : Value) (l : List RawD) (n : Int) (hn0 : 0 ≤ n) (hn1 : n ≤ 255) (w : World) (hl : Raws w va l) (hTab : Tab10 w) :
    Calls Tryz.prog 8 #[va, .int .u8 n] w fun e w' => e = .returned (.bool true) ∧ Ext w w' := by
  have hok := hl.ok
  obtain ⟨T, hTd⟩ : ∃ T, Hid (made34 l = T) := ⟨_, rfl⟩
  have hs : SmallT T := hTd.out ▸ made34_small hok
  have hv : validT T = 0 := hTd.out ▸ made34_valid hok
  have hlen : 0 < T.length ∧ T.length ≤ 6 := hTd.out ▸ made34_len (l := l)
  obtain ⟨hlen0, hlen6⟩ := hlen
  have hs' := Lib.hid hs
  have hv' := Lib.hid hv
  have hRw := Lib.hid hl
  have hTb := Lib.hid hTab
  obtain ⟨lA, lC, rfl, _, _, _⟩ := hl.open
  have h4 : ∀ x ∈ T, 0 < x.opts.length ∧ x.opts.length ≤ 4 := fun x hx => by
    have := made34_opts hok (hTd.out.symm ▸ hx : x ∈ made34 l)
    exact ⟨this.1, this.2.1⟩
  obtain ⟨m, hmod⟩ : ∃ m : Nat, n % (T.length : Int) = (m : Int) := ⟨(n % (T.length : Int)).toNat, by have := Int.emod_nonneg n (show (T.length : Int) ≠ 0 by omega); omega⟩
  have hmn : m < T.length := by have := Int.emod_lt_of_pos n (show (0 : Int) < (T.length : Int) by omega); omega
  have hmodt : n.tmod (T.length : Int) = (m : Int) := by rw [Int.tmod_eq_emod_of_nonneg hn0, hmod]
  obtain ⟨x, hxm⟩ : ∃ x, Hid (T[m]? = some x) := ⟨T[m], List.getElem?_eq_getElem hmn⟩
  have hx4 := h4 x (List.mem_of_getElem? hxm.out)
  obtain ⟨xo0, xo4⟩ := hx4
  obtain ⟨F, hF⟩ : ∃ F, Hid (moreT T m ⟨0, -1, []⟩ = F) := ⟨_, rfl⟩
  have hFs : Hid (SmallT F) := Lib.hid (hF.out ▸ moreT_small hmn hlen6 h4)
  have hFv : Hid (validT F = 0) := Lib.hid (hF.out ▸ moreT_valid hv hmn (fun x hx => by have := h4 x hx; omega) (by decide) (by simp))
  have hFl : F.length = T.length := by rw [← hF.out, moreT_len]
  have hFx : Hid (F = T.set m (addO x ⟨0, -1, []⟩)) := Lib.hid (by rw [← hF.out, moreT, hxm.out]; rfl)
  obtain ⟨L, hof, hL1, hL2⟩ := of_is hFs.out hFv.out
  obtain ⟨A, hAd⟩ : ∃ A, Hid (allC F = A) := ⟨_, rfl⟩
  have hno : Hid (∀ r ∈ A ++ [L], ([(m : Int)].isSublist r) = false) := Lib.hid fun r hr => by
    have key : ∀ r, r ∈ allC F → (m : Int) ∉ r := fun r hr => by
      obtain ⟨a, b⟩ := mem_allC.1 hr
      rw [← hF.out] at b
      exact harmless hmn rfl b
    have hnot : (m : Int) ∉ r := by
      rcases List.mem_append.1 hr with hr | hr
      · exact key r (hAd.out ▸ hr)
      · rw [List.mem_singleton.1 hr]
        cases hb : standB F with
        | true => rw [hL1 hb]; simp
        | false => exact key L (hL2 hb)
    cases hs : [(m : Int)].isSublist r with
    | false => rfl
    | true =>
      rw [List.isSublist_iff_sublist] at hs
      exact absurd (hs.subset (List.mem_singleton.2 rfl)) hnot
  obtain ⟨ok, hokd⟩ : ∃ ok, Hid ((!standB F) = ok) := ⟨_, rfl⟩
  have hof' : Hid (ofT F = (L, ok, 0)) := Lib.hid (by rw [hof, hokd.out])
  have hA64 : Hid (A.length ≤ 100) := Lib.hid (by
    rw [← hAd.out]
    have h1 := List.length_filter_le (coreB F) (sels F.length)
    have h2 : ∀ k, k ≤ 6 → (sels k).length ≤ 100 := by decide
    have := h2 F.length (by omega)
    unfold allC
    omega)
  clear hok hof hL1 hL2 hl hTab hs hv hokd h4 hmod
  obtain ⟨m0, hm0, mz0, mz1, mz2⟩ := info_parts wish_info
  obtain ⟨k0, hk0, kz0, kz1, kz2⟩ := info_parts option_info
  go_enter Tryz.func8, Tryz.ntmps8
  go_wp2_with fail
  refine (sanity34_calls _ (hTb.out.ext (by exact (by repeat' (first | (with_reducible exact Ext.refl _) | (with_reducible assumption) | (with_reducible refine Ext.drewN ?_ _) | (with_reducible refine Ext.drew ?_) | (with_reducible refine Ext.alloc ?_ _) | (with_reducible refine Ext.trans ?_ (by with_reducible assumption))))))).mono ?_
  rintro e w1 ⟨rfl, hx⟩
  have hE := Lib.hid (show Ext w w1 from Ext.trans (by exact (by repeat' (first | (with_reducible exact Ext.refl _) | (with_reducible assumption) | (with_reducible refine Ext.drewN ?_ _) | (with_reducible refine Ext.drew ?_) | (with_reducible refine Ext.alloc ?_ _) | (with_reducible refine Ext.trans ?_ (by with_reducible assumption))))) hx)
  replace hTb := Lib.hid (hTb.out.ext hE.out)
  replace hRw := Lib.hid (hRw.out.ext hE.out)
  clear hx
  go_wp2_with fail
  refine (made34_calls _ l w1 hRw.out).mono ?_
  rw [hTd.out]
  rintro e w2 ⟨tv, rfl, ht, hq⟩
  have hTo := Lib.hid ht
  obtain ⟨xs0, hr0, _⟩ := ht
  obtain ⟨tg, tc, rfl⟩ := owns_pos hr0 hlen0
  replace hTb := Lib.hid (hTb.out.ext hq)
  replace hE := Lib.hid (hE.out.trans hq)
  have hbase : Hid (w1.heap.size ≤ w2.heap.size) := Lib.hid hq.size
  clear hr0 hq hRw
  go_upto_region 4 with (fail)
  refine wp_abs (S := fun V => Hid (Ext w2 V) ∧ Hid (Blk V w2.heap.size 27 #[.slice (some ⟨tg, 0, none⟩) T.length tc])) ⟨Lib.hid (by exact (by repeat' (first | (with_reducible exact Ext.refl _) | (with_reducible assumption) | (with_reducible refine Ext.drewN ?_ _) | (with_reducible refine Ext.drew ?_) | (with_reducible refine Ext.alloc ?_ _) | (with_reducible refine Ext.trans ?_ (by with_reducible assumption))))), Lib.hid (blk_new' rfl rfl)⟩ ?_
  rintro V4 ⟨hE4, hB4⟩
  obtain ⟨xs, hrow0, hxs⟩ := hTo.out.ext hE4.out
  have hone := Lib.hid hxs.one
  have hrd := Lib.hid (Reads.of_own hrow0)
  have hxs' := Lib.hid hxs
  have hrowT := Lib.hid hrow0
  have hxl : Hid (xs.length = T.length * 3) := Lib.hid hrow0.1
  have c4 : V4.cell? ⟨w2.heap.size, 0, none⟩ = some (.slice (some ⟨tg, 0, none⟩) T.length tc) := hB4.out.cell 0
  have l4 := hB4.out.lt
  clear hrow0 hxs
  go_upto_region 5 with (at_builtin; refine wpList_append_any _ rfl (.tmp 24) (.tmp 26) _ rfl V4.heap.size 52 m0 _ 3 56 Tryz.underlying25 hm0 mz0 mz1 mz2 rfl (by decide) (.slice (some ⟨V4.heap.size, 0, none⟩) 0 0) 0 [] rfl (World.ownsRow_made V4 #[] 0 (Nat.le_refl _) (by unfold maxLen; omega) rfl) V4.heap.size (some ⟨tg, 0, none⟩) T.length tc xs rfl (hrd.out.alloc (Nat.le_refl _) _) hone.out (by unfold maxLen; omega) (by omega) (by rw [World.size_alloc]; omega) ?_; intro v1 w5 hown1 hg1 hat1; rw [Nat.zero_add, List.nil_append] at hown1; obtain ⟨g1, c1, rfl⟩ := owns_pos hown1 hlen0; have hE5 := Lib.hid (((Ext.refl V4).alloc (.cells #[] 52)).grown hg1 (by intro k hk; simp [Value.ownBlock] at hk; omega)); have hown5 := Lib.hid hown1; clear hown1 hg1 hat1)
  obtain ⟨gu, hgu⟩ : ∃ gu, Hid (w5.heap.size = gu) := ⟨_, rfl⟩
  rw [hgu.out]
  refine wp_abs (S := fun V => Hid (Ext V4 V) ∧ Hid (V.ownsRow V4.heap.size 52 3 (.slice (some ⟨g1, 0, none⟩) T.length c1) T.length xs) ∧ Hid (Blk V gu 27 #[.slice (some ⟨g1, 0, none⟩) T.length c1]) ∧ V4.heap.size ≤ gu) ?_ ?_
  · have e6 := hE5.out.alloc (.cells #[.slice (some ⟨g1, 0, none⟩) T.length c1] 27)
    exact ⟨Lib.hid e6, Lib.hid (hown5.out.alloc _), Lib.hid (blk_new' hgu.out.symm rfl), by rw [← hgu.out]; exact hE5.out.size⟩
  clear hown5 hgu hE5 c4 l4 hrd hone
  rintro V6 ⟨hE6, hrow, qu, lgu⟩
  obtain ⟨pv, ov, i0, i1, i2, iP, iO⟩ := hxs'.out.at_ m x hxm.out
  obtain ⟨ys, hro, hys⟩ := iO
  obtain ⟨og, oc, rfl⟩ := owns_pos hro xo0
  have hyl : Hid (ys.length = x.opts.length * 3) := Lib.hid hro.1
  have hyc : Hid (∀ W, Ext V6 W → ∀ j u, ys[j]? = some u → W.cell? ((⟨og, 0, none⟩ : Addr).add j) = some u) := Lib.hid fun W hW j u hu => by
    have := (owns_ext hro (hE6.out.trans hW)).cells (g := og) rfl j u hu
    exact this
  have hyone := Lib.hid hys.one
  have hys' := Lib.hid hys
  have hi2 := Lib.hid i2
  have t2 := hrowT.out.cellAt (m * 3 + 2) (by omega)
  rw [i2] at t2
  have z1 := After.cell (show V6.cell? ⟨gu, 0, none⟩ = some (.slice (some ⟨g1, 0, none⟩) T.length c1) from qu.out.cell 0)
  have z2 := After.cell (show V6.cell? ⟨w2.heap.size, 0, none⟩ = some (.slice (some ⟨tg, 0, none⟩) T.length tc) from hE6.out.cell (hB4.out.cell 0))
  have z3 := After.cell (hE6.out.cell t2)
  clear hys hro i0 i1 iP t2 i2
  (refine wp_region_held [] [0, 1, 2, 3, 4, 5, 6, 7, 8, 9, 10, 11, 12] [13] (CopyCon 10 x.opts.length V6.heap.size ys) (by kernel_rfl) (by kernel_rfl) ?_; simp only [pickL]; with_reducible refine wpQuiet_nil ?_)
  (refine held_quiet [0, 1, 2] [3, 4, 5, 6, 7, 8, 9, 10, 11, 12] (by kernel_rfl) (by kernel_rfl) ?_; simp only [pickL, List.drop]; (repeat (go_big_quiet_step (fail))); with_reducible refine wpQuiet_nil ?_)
  (refine held_made 3 [4, 5, 6, 7, 8, 9, 10, 11, 12] rfl (by kernel_rfl) (fun g => .slice (some ⟨g, 0, none⟩) 0 0) (.cells #[] 55) (fun W => by kernel_rfl) (fun g g2 e => by cases e; rfl) (fun g => rfl) ?_)
  intro gs
  simp only [Act.put, List.setIfInBounds_toArray, List.set_cons_succ, List.set_cons_zero]
  (refine held_quiet [4, 5, 6, 7, 8, 9] [10, 11, 12] (by kernel_rfl) (by kernel_rfl) ?_; simp only [pickL, List.drop]; (repeat (go_big_quiet_step (fail))); with_reducible refine wpQuiet_nil ?_)
  refine held_grow 10 [11, 12] rfl (by kernel_rfl) rfl ?_ ?_ ?_
  · exact fun A A' v e hh => CopyCon.ext e hh
  · intro V hV hD
    exact run_copy_opts (.tmp 32) (.tmp 38) rfl gs rfl og 0 x.opts.length oc ys rfl xo0 (by omega) hyl.out (hyc.out V hV) hyone.out 10 V6.heap.size hV.size
  rintro v ⟨Y, hY, hCv⟩
  obtain ⟨g4, c4, rfl, h00⟩ := hCv rfl
  clear hCv h00 hY Y
  simp only [Act.put, List.setIfInBounds_toArray, List.set_cons_succ, List.set_cons_zero]
  (refine held_quiet [11, 12] [] (by kernel_rfl) (by kernel_rfl) ?_; simp only [pickL, List.drop]; (repeat (go_big_quiet_step (fail))); with_reducible refine wpQuiet_nil ?_)
  intro V7 hx7 hf ht Q0 hQ0
  obtain ⟨_, _, e9, hro7⟩ := (hf 10).2 rfl rfl
  cases e9
  have hro7' := Lib.hid (owns_base hro7 hE6.out.size)
  have hE7 := Lib.hid (hE6.out.trans hx7)
  have hrow7 := Lib.hid (owns_ext hrow.out hx7)
  have qu7 := Lib.hid ((Keep.of_ext (X := fun _ => False) hx7).blk qu.out id)
  have d2 := hrow7.out.cellAt (m * 3 + 2) (by omega)
  rw [hi2.out] at d2
  have e2 := hrow7.out.frozenAt (m * 3 + 2)
  simp only [pickL, List.drop]
  clear hf ht hx7 hro7 z1 z2 z3 hyc hi2
  go_upto_region 6 with (fail)
  refine wp_abs (S := fun V => Hid (Ext V4 V) ∧ Hid (V.ownsRow V4.heap.size 52 3 (.slice (some ⟨g1, 0, none⟩) T.length c1) T.length (xs.set (m * 3 + 2) (.slice (some ⟨g4, 0, none⟩) x.opts.length c4))) ∧ Hid (V.ownsRow V4.heap.size 55 3 (.slice (some ⟨g4, 0, none⟩) x.opts.length c4) x.opts.length ys) ∧ Hid (Blk V gu 27 #[.slice (some ⟨g1, 0, none⟩) T.length c1])) ?_ ?_
  · have hg1 : V4.heap.size ≤ g1 := (hrow7.out.lt g1 rfl).1
    have hgu1 : gu ≠ g1 := fun e => own_blk_ne hrow7.out qu7.out (by decide) (by rw [e]; rfl)
    have r1 := (hrow7.out.stored (m * 3 + 2) (.slice (some ⟨g4, 0, none⟩) x.opts.length c4)).1
    exact ⟨Lib.hid (hE7.out.setCell (p := ⟨g1, m * 3 + 2, none⟩) hg1 _), Lib.hid r1, Lib.hid (owns_keepT hro7'.out (keep_set V7 g1 (m * 3 + 2) _) (T := 52) (by rintro _ rfl _; exact owns_block hrow7.out rfl) (by decide)), Lib.hid (qu7.out.far (p := ⟨g1, m * 3 + 2, none⟩) hgu1 _)⟩
  clear d2 e2 hrow7 qu7 hE7 hro7' hrow qu hE6
  rintro V8 ⟨hE8, hrw8, hro8, hb8⟩
  have c1' : V8.cell? ⟨gu, 0, none⟩ = some (.slice (some ⟨g1, 0, none⟩) T.length c1) := hb8.out.cell 0
  have c2' := hrw8.out.cellAt (m * 3 + 2) (by omega)
  rw [List.getElem?_set_self (by rw [hxl.out]; omega)] at c2'
  have s48 := hE8.out.size
  have l8 := hb8.out.lt
  have l9 : g1 < V8.heap.size := (hrw8.out.lt g1 rfl).2
  go_cut [8] from 42 (fun p8 wx => p8 = .pointer (some ⟨gu, 0, none⟩) ∧ Hid (Ext V4 wx) ∧ Hid (Wishes wx (.slice (some ⟨g1, 0, none⟩) T.length c1) F) ∧ Hid (Blk wx gu 27 #[.slice (some ⟨g1, 0, none⟩) T.length c1]))
  case first =>
    go_region_law ((refine step_append_any _ (by rfl) (.tmp 50) (.tmp 52) _ (by rfl) V4.heap.size 55 k0 _ 3 40 Tryz.underlying50 hk0 kz0 kz1 kz2 (by rfl) (by decide) (.slice (some ⟨g4, 0, none⟩) x.opts.length c4) x.opts.length ys (by rfl) (World.ownsRow.drew (World.ownsRow.alloc hro8.out _)) (V8.heap.size + 1) (some ⟨V8.heap.size, 0, none⟩) 1 1 [.int .i64 0, .int .i64 (-1), .slice none 0 0] (by rfl) (Reads.drew (reads_last V8 #[.int .i64 0, .int .i64 (-1), .slice none 0 0] 55 3 1 V8.heap.size (V8.heap.size + 1) rfl (by omega) rfl)) (by simp [Value.oneCell']) (by unfold maxLen; omega) (by omega) (by show _ ≤ (V8.alloc _).heap.size; rw [World.size_alloc]; omega) ?_; intro v9 w9 hown9 hg9 hat9; obtain ⟨g9, c9, rfl⟩ := owns_pos hown9 (by omega); have hE9 := Lib.hid (((hE8.out.alloc (.cells #[.int .i64 0, .int .i64 (-1), .slice none 0 0] 55)).drew).grown hg9 (by intro k hk; simp [Value.ownBlock] at hk; subst hk; exact (hro8.out.lt g4 rfl).1)); have b9 := Lib.hid (((hb8.out.alloc (.cells #[.int .i64 0, .int .i64 (-1), .slice none 0 0] 55)).drew).grown hg9 (Ne.symm (own_blk_ne hro8.out hb8.out (by decide)))); have hown9' := Lib.hid hown9; have hrw9 := Lib.hid (owns_keepT hrw8.out (Keep.grown (X := fun g => Value.ownBlock (.slice (some ⟨g4, 0, none⟩) x.opts.length c4) = some g) (Keep.of_ext ((Ext.refl V8).alloc _).drew) hg9 (fun g h => Or.inl h)) (TX.row hro8.out) (by decide)); have y1 : w9.cell? ⟨gu, 0, none⟩ = some (.slice (some ⟨g1, 0, none⟩) T.length c1) := b9.out.cell 0; have y2 := hrw9.out.cellAt (m * 3 + 2) (by omega); rw [List.getElem?_set_self (by rw [hxl.out]; omega)] at y2; have y3 := hrw9.out.frozenAt (m * 3 + 2); clear hg9 hat9 hown9))
    all_goals
      go_wp2_with fail
      go_meet
      have hg1 : V4.heap.size ≤ g1 := (hrw9.out.lt g1 rfl).1
      have hgu1 : gu ≠ g1 := fun e => own_blk_ne hrw9.out b9.out (by decide) (by rw [e]; rfl)
      have r1 := (hrw9.out.stored (m * 3 + 2) (.slice (some ⟨g9, 0, none⟩) (x.opts.length + 1) c9)).1
      rw [List.set_set] at r1
      have ee := hE9.out.setCell (p := ⟨g1, m * 3 + 2, none⟩) hg1 (.slice (some ⟨g9, 0, none⟩) (x.opts.length + 1) c9)
      have ho3 := owns_keepT hown9'.out (keep_set w9 g1 (m * 3 + 2) (.slice (some ⟨g9, 0, none⟩) (x.opts.length + 1) c9)) (T := 52) (by rintro _ rfl _; exact owns_block hrw9.out rfl) (by decide)
      refine ⟨rfl, Lib.hid ee, Lib.hid ?_, Lib.hid (b9.out.far (p := ⟨g1, m * 3 + 2, none⟩) hgu1 _)⟩
      have hO : Opts _ (.slice (some ⟨g9, 0, none⟩) (x.opts.length + 1) c9) (x.opts ++ [(⟨0, -1, []⟩ : OptD)]) := opts_of_row (by rw [List.length_append]; exact ho3) (OptsC.snoc (SpansO.nil _ 0).read (hys'.out.read.ext ee))
      rw [hFx.out]
      exact wishes_of_rowK (l := T.set m (addO x ⟨0, -1, []⟩)) (by rw [List.length_set]; exact r1) (WishesC.set2 (y := addO x ⟨0, -1, []⟩) ((WishesCO.read hxs'.out).ext ee) hxm.out rfl rfl hO)
  case rest =>
  obtain ⟨rfl, hEc, hWc, hbc⟩ := hcut
  clear c1' c2' s48 l8 l9 hE8 hrw8 hro8 hb8 hyl hyone hys' hxs' hxl hrowT hB4 lgu hFx hxm xo0 xo4 hbase hTo
  have hall := all_callsO (.slice (some ⟨g1, 0, none⟩) T.length c1) F wc hWc.out hFs.out hFv.out
  rw [show (sels F.length).filter (coreB F) = A from hAd.out] at hall
  have hall' := Lib.hid hall
  clear hall
  have b0 : wc.cell? ⟨gu, 0, none⟩ = some (.slice (some ⟨g1, 0, none⟩) T.length c1) := hbc.out.cell 0
  have bl := hbc.out.lt
  go_wp2_with fail
  refine hall'.out.mono ?_
  rintro e w10 ⟨v, ks, rfl, hown, hkept, hq⟩
  obtain ⟨va, vc, rfl⟩ := owns_form hown
  have hown0 := Lib.hid hown
  have hkept0 := Lib.hid hkept
  have hq10 := Lib.hid hq
  have hW10 := Lib.hid (hWc.out.ext hq)
  have hb10 := Lib.hid ((Keep.of_ext (X := fun _ => False) hq).blk hbc.out id)
  clear b0 bl hall' hown hkept hq hbc
  have b0 : w10.cell? ⟨gu, 0, none⟩ = some (.slice (some ⟨g1, 0, none⟩) T.length c1) := hb10.out.cell 0
  have bl := hb10.out.lt
  go_wp2_with fail
  refine (of_callsN (.slice (some ⟨g1, 0, none⟩) T.length c1) F w10 hW10.out).mono ?_
  rw [hof'.out]
  rintro e w11 ⟨lv, rfl, hlv, hnw, hq⟩
  obtain ⟨la, lc, rfl⟩ := hlv.form
  have hL := Lib.hid hlv
  have hLn := Lib.hid hnw
  have hown1 := Lib.hid (owns_ext hown0.out hq)
  have hkept1 := Lib.hid (hkept0.out.kt (KT.of_ext hq))
  have hq11 := Lib.hid hq
  have sc10 := hq10.out.size
  have s11 := hq.size
  have hA100 := hA64.out
  clear b0 bl hlv hnw hq hb10 hW10 hWc hof' hkept0
  obtain ⟨j0, hj0, jz0, jz1, jz2⟩ := info_parts rows_info4
  go_upto_region 10 with (at_builtin; refine wpList_append_any _ rfl (.tmp 67) (.tmp 69) _ rfl wc.heap.size 23 j0 _ 1 24 Tryz.underlying32 hj0 jz0 jz1 jz2 rfl (by decide) (.slice va A.length vc) A.length ks rfl (hown1.out.alloc _) (w11.heap.size + 1) (some ⟨w11.heap.size, 0, none⟩) 1 1 [.slice la L.length lc] rfl (reads_last _ #[_] _ 1 1 _ _ (by simp) (by omega) rfl) (by simp [Value.oneCell']) (by unfold maxLen; omega) (by omega) (by rw [World.size_alloc]; omega) ?_; intro v12 w12 hown12 hg12 hat12; obtain ⟨a12, c12, rfl⟩ := owns_form hown12; have hk12 := Keep.grown (X := fun g => Value.ownBlock (.slice va A.length vc) = some g) (Keep.of_ext ((Ext.refl w11).alloc (.cells #[.slice la L.length lc] 23))) hg12 (fun g h => Or.inl h); have hE12 : Hid (Ext wc w12) := Lib.hid (((hq10.out.trans hq11.out).alloc (.cells #[.slice la L.length lc] 23)).grown hg12 (fun g h => (hown1.out.lt g h).1)); have hR12 := Lib.hid (rows_snoc (hkept1.out.keepX hk12 (fun g cs hx hb => own_blk_ne hown1.out hb (by decide) hx)) (ints_keepN hL.out hLn.out hk12 (fun g hx => (hown0.out.lt g hx).2)) hown12); clear hown12 hg12 hat12 hk12)
  clear hown0 hown1 hkept1 hL hLn hq10 hq11 sc10 s11
  obtain ⟨M, hM⟩ : ∃ M, Hid (A ++ [L] = M) := ⟨_, rfl⟩
  have hMl : A.length + 1 = M.length := by rw [← hM.out, List.length_append]; rfl
  rw [hM.out] at hR12 hno
  rw [hMl]
  obtain ⟨aa, ac, eM, hAn, hAc, hAat0⟩ := hR12.out.open
  rw [hMl] at eM
  cases eM
  have hAat := Lib.hid hAat0
  have hM100 : M.length ≤ 101 := by omega
  clear hAat0 hR12
  go_wp2_with fail
  go_loopw [14] (fun vi wr => ∃ i : Nat, i ≤ M.length ∧ vi = .int .i64 i ∧ Hid (Ext w12 wr)) (fun vi _ => M.length - (intOf vi).toNat)
  case atStart => exact ⟨0, Nat.zero_le _, rfl, Lib.hid (Ext.refl _)⟩
  case round =>
    obtain ⟨i, hi, rfl, hx⟩ := hrel
    by_cases i1 : i < M.length
    · obtain ⟨b1, o1, r, ra, rc, rfl, hb1, er, g1', gr⟩ := hAat.out i i1 wr hx.out
      have gr' := Lib.hid gr
      have hnr := Lib.hid (hno.out r (List.mem_of_getElem? er.out))
      clear gr er
      go_wp2_with fail
      refine (contains34_calls (.slice ra r.length rc) (.slice (some ⟨wr.heap.size, 0, none⟩) 1 1) r [(m : Int)] _ (gr'.out.ext ((Ext.refl wr).alloc _)) (ints_new1 wr m)).mono ?_
      rw [hnr.out]
      rintro e wq ⟨rfl, hxq⟩
      have hx2 := Lib.hid (hx.out.trans (((Ext.refl wr).alloc _).trans hxq))
      clear hxq hnr gr' g1'
      go_wp2
      go_roundw
      case rel => exact ⟨i + 1, i1, by go_num, hx2⟩
      case measure => simp [intOf]; omega
    · have hfin := Lib.hid (hE.out.trans (hE4.out.trans (hEc.out.trans (hE12.out.trans hx.out))))
      go_wp2
      go_ret
      exact ⟨rfl, hfin.out⟩
end Go.Proofs.YtcpohkigbaechaaGreatDoor
