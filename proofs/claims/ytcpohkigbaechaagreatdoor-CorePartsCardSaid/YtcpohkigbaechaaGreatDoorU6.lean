/- The law CoreParts, walked: true for every list of raw wishes, every two numbers and every four numbers. -/
import Derived.Test.YtcpohkigbaechaaGreatDoorU3
import Derived.Test.YtcpohkigbaechaaGreatDoorUJ
import Derived.Test.YtcpohkigbaechaaGreatDoorUM
import Derived.Test.YtcpohkigbaechaaGreatDoorUH
import Derived.Test.YtcpohkigbaechaaGreatDoorHK
import Derived.Deep.RegionHeld3
namespace Go.Proofs.YtcpohkigbaechaaGreatDoor
open Go.RowKit Go.Shelf List

theorem and_nat8 (x y : Nat) (hx : x ≤ 255) (hy : y ≤ 255) : bits .and .u8 (x : Int) (y : Int) = ((x &&& y : Nat) : Int) := by
  have h1 : (BitVec.ofInt 8 (x : Int)).toNat = x := by
    rw [BitVec.ofInt_natCast, BitVec.toNat_ofNat]; exact Nat.mod_eq_of_lt (by omega)
  have h2 : (BitVec.ofInt 8 (y : Int)).toNat = y := by
    rw [BitVec.ofInt_natCast, BitVec.toNat_ofNat]; exact Nat.mod_eq_of_lt (by omega)
  have hle : x &&& y ≤ x := Nat.and_le_left
  show IntKind.u8.wrap ((BitVec.ofInt 8 (x : Int) &&& BitVec.ofInt 8 (y : Int)).toNat : Int) = _
  rw [BitVec.toNat_and, h1, h2, IntKind.wrap_u8]
  omega
theorem people_and (x y n : Nat) : peopleTo ((x &&& y : Nat) : Int) n <+ peopleTo (x : Int) n := by
  induction n with
  | zero => simp [peopleTo]
  | succ n ih =>
    rw [peopleTo_step, peopleTo_step, bitB_test, bitB_test, Nat.testBit_and]
    cases h1 : x.testBit n <;> cases h2 : y.testBit n <;> simp
    · exact ih
    · exact ih
    · exact ih.trans (List.sublist_append_left _ _)
    · exact ih
theorem and_sub {a b : Int} (ha : 0 ≤ a ∧ a ≤ 255) (hb : 0 ≤ b ∧ b ≤ 255) (n : Nat) : byteB (bits .and .u8 a b) ∧ peopleTo (bits .and .u8 a b) n <+ peopleTo a n := by
  obtain ⟨x, rfl⟩ := Int.eq_ofNat_of_zero_le ha.1
  obtain ⟨y, rfl⟩ := Int.eq_ofNat_of_zero_le hb.1
  have hle : x &&& y ≤ x := Nat.and_le_left
  rw [and_nat8 x y (by omega) (by omega)]
  exact ⟨⟨by omega, by omega⟩, people_and x y n⟩
theorem more_ok {r a d : Int} (h0 : 0 ≤ r) (h1 : r ≤ 2) (ha : 0 ≤ a ∧ a ≤ 255) (hd : 0 ≤ d ∧ d ≤ 255) : optOkB ⟨0, r, [(a, a + 1 + d)]⟩ = true := by
  have h2 : normalB [(a, a + 1 + d)] = true := by
    simp [normalB, chainB, rangedB, farB]
    omega
  simp only [optOkB, h2, Bool.and_true, Bool.and_eq_true, decide_eq_true_eq]
  omega
set_option maxHeartbeats 12800000 in
set_option maxRecDepth 100000 in
theorem coreParts_calls (va : Value) (l : List RawD) (vb : Value) (b : Int × Int) (vx : Value) (xx : Oct) (w : World) (hl : Raws w va l) (hb2 : Two8V w vb b) (hx4 : Four8V w vx xx) (hTab : Tab10 w) :
    Calls Tryz.prog 11 #[va, vb, vx] w fun e w' => e = .returned (.bool true) ∧ Ext w w' := by
  have hok := hl.ok
  obtain ⟨T, hTd⟩ : ∃ T, Hid (made34 l = T) := ⟨_, rfl⟩
  have hs : SmallT T := hTd.out ▸ made34_small hok
  have hv : validT T = 0 := hTd.out ▸ made34_valid hok
  have hlen : 0 < T.length ∧ T.length ≤ 6 := hTd.out ▸ made34_len (l := l)
  obtain ⟨hlen0, hlen6⟩ := hlen
  have hs' := Lib.hid hs
  have hv' := Lib.hid hv
  have hRw := Lib.hid hl
  have hTb := Lib.hid hTab
  obtain ⟨lA, lC, rfl, _, _, _⟩ := hl.open
  obtain ⟨b1, b2⟩ := b
  obtain ⟨rfl, hb1, hb2⟩ := hb2
  obtain ⟨xa, xb, xc, xd⟩ := xx
  obtain ⟨rfl, ⟨xa0, xa1⟩, ⟨xb0, xb1⟩, ⟨xc0, xc1⟩, ⟨xd0, xd1⟩⟩ := hx4
  dsimp only at hb1 hb2 xa0 xa1 xb0 xb1 xc0 xc1 xd0 xd1 ⊢
  have h4 : ∀ x ∈ T, 0 < x.opts.length ∧ x.opts.length ≤ 4 := fun x hx => by
    have := made34_opts hok (hTd.out.symm ▸ hx : x ∈ made34 l)
    exact ⟨this.1, this.2.1⟩
  obtain ⟨m, hmod⟩ : ∃ m : Nat, xa % (T.length : Int) = (m : Int) := ⟨(xa % (T.length : Int)).toNat, by have := Int.emod_nonneg xa (show (T.length : Int) ≠ 0 by omega); omega⟩
  have hmn : m < T.length := by have := Int.emod_lt_of_pos xa (show (0 : Int) < (T.length : Int) by omega); omega
  have hmodt : xa.tmod (T.length : Int) = (m : Int) := by rw [Int.tmod_eq_emod_of_nonneg xa0, hmod]
  obtain ⟨rm, hrm⟩ : ∃ rm : Int, xb.tmod 3 = rm := ⟨_, rfl⟩
  have hrm0 : 0 ≤ rm ∧ rm ≤ 2 := by rw [← hrm, Int.tmod_eq_emod_of_nonneg xb0]; omega
  obtain ⟨rm0, rm1⟩ := hrm0
  obtain ⟨x, hxm⟩ : ∃ x, Hid (T[m]? = some x) := ⟨T[m], List.getElem?_eq_getElem hmn⟩
  have hx4 := h4 x (List.mem_of_getElem? hxm.out)
  obtain ⟨xo0, xo4⟩ := hx4
  obtain ⟨o, hod⟩ : ∃ o : OptD, Hid (o = ⟨0, rm, [(xc, xc + 1 + xd)]⟩) := ⟨_, rfl⟩
  have hoo : optOkB o = true := by rw [hod.out]; exact more_ok rm0 rm1 ⟨xc0, xc1⟩ ⟨xd0, xd1⟩
  obtain ⟨F, hF⟩ : ∃ F, Hid (moreT T m o = F) := ⟨_, rfl⟩
  have hFs : SmallT F := hF.out ▸ moreT_small hmn hlen6 h4
  have hFv : validT F = 0 := hF.out ▸ moreT_valid hv hmn (fun x hx => by have := h4 x hx; omega) hoo (by rw [hod.out]; simp)
  have hFl : F.length = T.length := by rw [← hF.out, moreT_len]
  have hFx : Hid (F = T.set m (addO x o)) := Lib.hid (by rw [← hF.out, moreT, hxm.out]; rfl)
  obtain ⟨S, hSd⟩ : ∃ S, Hid (peopleTo b1 T.length = S) := ⟨_, rfl⟩
  have hSs : S <+ upI T.length := hSd.out ▸ peopleTo_sub b1 T.length
  obtain ⟨pb, hpb⟩ : ∃ pb : Int, bits .and .u8 b1 b2 = pb := ⟨_, rfl⟩
  have hpbb : byteB pb := hpb ▸ (and_sub hb1 hb2 T.length).1
  obtain ⟨P, hPd⟩ : ∃ P, Hid (peopleTo pb T.length = P) := ⟨_, rfl⟩
  have hPS : P <+ S := by rw [← hPd.out, ← hSd.out, ← hpb]; exact (and_sub hb1 hb2 T.length).2
  obtain ⟨qa, hqa⟩ : ∃ q, Hid (selSt T S = q) := ⟨_, rfl⟩
  obtain ⟨qb, hqb⟩ : ∃ q, Hid (selSt T P = q) := ⟨_, rfl⟩
  obtain ⟨qc, hqc⟩ : ∃ q, Hid (selSt F S = q) := ⟨_, rfl⟩
  have hstS : Hid (StandsT T S = (qa, 0)) := Lib.hid (by rw [StandsT_sel hs hv hSs, hqa.out])
  have hstP : Hid (StandsT T P = (qb, 0)) := Lib.hid (by rw [StandsT_sel hs hv (hPS.trans hSs), hqb.out])
  have hstF : Hid (StandsT F S = (qc, 0)) := Lib.hid (by rw [StandsT_sel hFs hFv (hFl.symm ▸ hSs), hqc.out])
  have hab : Hid (qa = true → qb = true) := Lib.hid fun h => by rw [← hqb.out]; exact selSt_sub (hqa.out.trans h) hPS
  have hac : Hid (qa = true → qc = true) := Lib.hid fun h => by rw [← hqc.out, ← hF.out]; exact selSt_more hSs (hqa.out.trans h)
  have hemp : Hid (S = [] → qa = true) := Lib.hid fun h => by rw [← hqa.out, h]; show standB [] = true; decide
  have hSi := Lib.hid (up_idx hSs)
  have hS6 : S.length ≤ 6 := by have := up_len hSs; omega
  have hsubv : Hid (S ≠ [] → validT (subT T S) = 0) := Lib.hid (subT_valid hv hSs)
  have htree : Hid (treeMax (subT T S) ≤ 65536) := Lib.hid (hs.tree (up_idx hSs) (Nat.le_trans (up_len hSs) hs.len))
  have hsb : Hid (standB (subT T S) = qa) := hqa
  have w1' : IntKind.u8.wrap rm = rm := by rw [IntKind.wrap_u8]; omega
  have w2' : IntKind.i64.wrap rm = rm := IntWalk.i64_in _ (by omega)
  have w3' : IntKind.i64.wrap xc = xc := IntWalk.i64_in _ (by omega)
  have w4' : IntKind.i64.wrap (xc + 1) = xc + 1 := IntWalk.i64_in _ (by omega)
  have w5' : IntKind.i64.wrap (xc + 1 + xd) = xc + 1 + xd := IntWalk.i64_in _ (by omega)
  have w6' : IntKind.i64.wrap xd = xd := IntWalk.i64_in _ (by omega)
  clear hok hl hTab hs hv h4 hmod hF hFs hFv hFl hqb hqc hSs hPS hoo
  obtain ⟨m0, hm0, mz0, mz1, mz2⟩ := info_parts wish_info
  obtain ⟨k0, hk0, kz0, kz1, kz2⟩ := info_parts option_info
  go_enter Tryz.func11, Tryz.ntmps11
  go_wp2_with fail
  refine (sanity34_calls _ (hTb.out.ext (by exact (by repeat' (first | (with_reducible exact Ext.refl _) | (with_reducible assumption) | (with_reducible refine Ext.drewN ?_ _) | (with_reducible refine Ext.drew ?_) | (with_reducible refine Ext.alloc ?_ _) | (with_reducible refine Ext.trans ?_ (by with_reducible assumption))))))).mono ?_
  rintro e w1 ⟨rfl, hx⟩
  have hE := Lib.hid (show Ext w w1 from Ext.trans (by exact (by repeat' (first | (with_reducible exact Ext.refl _) | (with_reducible assumption) | (with_reducible refine Ext.drewN ?_ _) | (with_reducible refine Ext.drew ?_) | (with_reducible refine Ext.alloc ?_ _) | (with_reducible refine Ext.trans ?_ (by with_reducible assumption))))) hx)
  replace hTb := Lib.hid (hTb.out.ext hE.out)
  replace hRw := Lib.hid (hRw.out.ext hE.out)
  have hX : Hid (Blk w1 w.heap.size 61 #[.int .u8 b1, .int .u8 b2]) := Lib.hid ((Keep.of_ext (X := fun _ => False) hx).blk ((blk_new' rfl rfl).alloc _) id)
  have hY : Hid (Blk w1 (w.heap.size + 1) 68 #[.int .u8 xa, .int .u8 xb, .int .u8 xc, .int .u8 xd]) := Lib.hid ((Keep.of_ext (X := fun _ => False) hx).blk (blk_new' (by rw [World.size_alloc]) rfl) id)
  clear hx
  go_wp2_with fail
  refine (made34_calls _ l w1 hRw.out).mono ?_
  rw [hTd.out]
  rintro e w2 ⟨tv, rfl, ht, hq⟩
  have hTo := Lib.hid ht
  have hTw := Lib.hid ht.read
  obtain ⟨xs0, hr0, _⟩ := ht
  obtain ⟨tg, tc, rfl⟩ := owns_pos hr0 hlen0
  replace hX := Lib.hid ((Keep.of_ext (X := fun _ => False) hq).blk hX.out id)
  replace hY := Lib.hid ((Keep.of_ext (X := fun _ => False) hq).blk hY.out id)
  replace hE := Lib.hid (hE.out.trans hq)
  clear hr0 hq hRw hTb
  have hBase := Lib.hid (Ext.refl w2)
  have x0 : w2.cell? ⟨w.heap.size, 0, none⟩ = some (.int .u8 b1) := hX.out.cell 0
  have xl := hX.out.lt
  go_wp2_with fail
  have hq0 := Lib.hid ((Ext.refl w2).alloc (.cells #[.slice (some ⟨tg, 0, none⟩) T.length tc] 27))
  refine (selection_calls (.slice (some ⟨tg, 0, none⟩) T.length tc) T b1 _ (hTw.out.ext hq0.out) hb1 hlen6).mono ?_
  rw [hSd.out]
  rintro e w3 ⟨sv, rfl, hsv, hx⟩
  obtain ⟨sa, sc, rfl⟩ := owns_form hsv
  have hS := Lib.hid hsv.read
  have hB : Hid (Blk w3 w2.heap.size 27 #[.slice (some ⟨tg, 0, none⟩) T.length tc]) := Lib.hid ((Keep.of_ext (X := fun _ => False) hx).blk (blk_new' rfl rfl) id)
  have hq := hq0.out.trans hx
  clear hsv hx hq0 x0 xl
  replace hTw := Lib.hid (hTw.out.ext hq)
  replace hX := Lib.hid ((Keep.of_ext (X := fun _ => False) hq).blk hX.out id)
  replace hY := Lib.hid ((Keep.of_ext (X := fun _ => False) hq).blk hY.out id)
  replace hE := Lib.hid (hE.out.trans hq)
  replace hBase := Lib.hid (hBase.out.trans hq)
  clear hq
  have b0 : w3.cell? ⟨w2.heap.size, 0, none⟩ = some (.slice (some ⟨tg, 0, none⟩) T.length tc) := hB.out.cell 0
  have bl := hB.out.lt
  have x0 : w3.cell? ⟨w.heap.size, 0, none⟩ = some (.int .u8 b1) := hX.out.cell 0
  have x1 : w3.cell? ⟨w.heap.size, 1, none⟩ = some (.int .u8 b2) := hX.out.cell 1
  have xl := hX.out.lt
  go_wp2_with fail

  refine (selection_calls (.slice (some ⟨tg, 0, none⟩) T.length tc) T pb _ hTw.out hpbb hlen6).mono ?_
  rw [hPd.out]
  rintro e w4 ⟨sv, rfl, hsv, hq⟩
  obtain ⟨pa, pc, rfl⟩ := owns_form hsv
  clear b0 bl x0 x1 xl
  replace hTw := Lib.hid (hTw.out.ext hq)
  (try replace hS := Lib.hid (hS.out.ext hq))
  (try replace hP := Lib.hid (hP.out.ext hq))
  (try replace hB := Lib.hid ((Keep.of_ext (X := fun _ => False) hq).blk hB.out id))
  replace hX := Lib.hid ((Keep.of_ext (X := fun _ => False) hq).blk hX.out id)
  replace hY := Lib.hid ((Keep.of_ext (X := fun _ => False) hq).blk hY.out id)
  replace hE := Lib.hid (hE.out.trans hq)
  replace hBase := Lib.hid (hBase.out.trans hq)
  clear hq
  have hP := Lib.hid hsv.read
  clear hsv
  have b0 : w4.cell? ⟨w2.heap.size, 0, none⟩ = some (.slice (some ⟨tg, 0, none⟩) T.length tc) := hB.out.cell 0
  have bl := hB.out.lt
  have x0 : w4.cell? ⟨w.heap.size, 0, none⟩ = some (.int .u8 b1) := hX.out.cell 0
  have x1 : w4.cell? ⟨w.heap.size, 1, none⟩ = some (.int .u8 b2) := hX.out.cell 1
  have xl := hX.out.lt
  go_wp2_with fail
  refine (Stands_calls (.slice (some ⟨tg, 0, none⟩) T.length tc) (.slice sa S.length sc) T S w4 hTw.out hS.out).mono ?_
  rw [hstS.out]
  rintro e w5 ⟨rfl, hq⟩
  clear b0 bl x0 x1 xl
  replace hTw := Lib.hid (hTw.out.ext hq)
  (try replace hS := Lib.hid (hS.out.ext hq))
  (try replace hP := Lib.hid (hP.out.ext hq))
  (try replace hB := Lib.hid ((Keep.of_ext (X := fun _ => False) hq).blk hB.out id))
  replace hX := Lib.hid ((Keep.of_ext (X := fun _ => False) hq).blk hX.out id)
  replace hY := Lib.hid ((Keep.of_ext (X := fun _ => False) hq).blk hY.out id)
  replace hE := Lib.hid (hE.out.trans hq)
  replace hBase := Lib.hid (hBase.out.trans hq)
  clear hq
  have b0 : w5.cell? ⟨w2.heap.size, 0, none⟩ = some (.slice (some ⟨tg, 0, none⟩) T.length tc) := hB.out.cell 0
  have bl := hB.out.lt
  have x0 : w5.cell? ⟨w.heap.size, 0, none⟩ = some (.int .u8 b1) := hX.out.cell 0
  have x1 : w5.cell? ⟨w.heap.size, 1, none⟩ = some (.int .u8 b2) := hX.out.cell 1
  have xl := hX.out.lt
  go_wp2_with fail
  refine (Stands_calls (.slice (some ⟨tg, 0, none⟩) T.length tc) (.slice pa P.length pc) T P w5 hTw.out hP.out).mono ?_
  rw [hstP.out]
  rintro e V4 ⟨rfl, hq⟩
  clear b0 bl x0 x1 xl
  replace hTw := Lib.hid (hTw.out.ext hq)
  (try replace hS := Lib.hid (hS.out.ext hq))
  (try replace hP := Lib.hid (hP.out.ext hq))
  (try replace hB := Lib.hid ((Keep.of_ext (X := fun _ => False) hq).blk hB.out id))
  replace hX := Lib.hid ((Keep.of_ext (X := fun _ => False) hq).blk hX.out id)
  replace hY := Lib.hid ((Keep.of_ext (X := fun _ => False) hq).blk hY.out id)
  replace hE := Lib.hid (hE.out.trans hq)
  replace hBase := Lib.hid (hBase.out.trans hq)
  clear hq
  clear hP hstS hstP hPd
  obtain ⟨xs, hrow0, hxs⟩ := hTo.out.ext hBase.out
  have hone := Lib.hid hxs.one
  have hrd := Lib.hid (Reads.of_own hrow0)
  have hxs' := Lib.hid hxs
  have hrowT := Lib.hid hrow0
  have hxl : Hid (xs.length = T.length * 3) := Lib.hid hrow0.1
  have c4 : V4.cell? ⟨w2.heap.size, 0, none⟩ = some (.slice (some ⟨tg, 0, none⟩) T.length tc) := hB.out.cell 0
  have l4 := hB.out.lt
  clear hrow0 hxs
  have hY0 : V4.cell? ⟨w.heap.size + 1, 0, none⟩ = some (.int .u8 xa) := hY.out.cell 0
  have hYl := hY.out.lt
  go_upto_region 9 with (at_builtin; refine wpList_append_any _ rfl (.tmp 48) (.tmp 50) _ rfl V4.heap.size 52 m0 _ 3 56 Tryz.underlying25 hm0 mz0 mz1 mz2 rfl (by decide) (.slice (some ⟨V4.heap.size, 0, none⟩) 0 0) 0 [] rfl (World.ownsRow_made V4 #[] 0 (Nat.le_refl _) (by unfold maxLen; omega) rfl) V4.heap.size (some ⟨tg, 0, none⟩) T.length tc xs rfl (hrd.out.alloc (Nat.le_refl _) _) hone.out (by unfold maxLen; omega) (by omega) (by rw [World.size_alloc]; omega) ?_; intro v1 w5 hown1 hg1 hat1; rw [Nat.zero_add, List.nil_append] at hown1; obtain ⟨g1, c1, rfl⟩ := owns_pos hown1 hlen0; have hE5 := Lib.hid (((Ext.refl V4).alloc (.cells #[] 52)).grown hg1 (by intro k hk; simp [Value.ownBlock] at hk; omega)); have hown5 := Lib.hid hown1; have y0 := hE5.out.cell hY0; have yl : w.heap.size + 1 < w5.heap.size := Nat.lt_of_lt_of_le hYl hE5.out.size; clear hown1 hg1 hat1)
  obtain ⟨gu, hgu⟩ : ∃ gu, Hid (w5.heap.size = gu) := ⟨_, rfl⟩
  rw [hgu.out]
  refine wp_abs (S := fun V => Hid (Ext V4 V) ∧ Hid (V.ownsRow V4.heap.size 52 3 (.slice (some ⟨g1, 0, none⟩) T.length c1) T.length xs) ∧ Hid (Blk V gu 27 #[.slice (some ⟨g1, 0, none⟩) T.length c1]) ∧ V4.heap.size ≤ gu) ?_ ?_
  · have e6 := hE5.out.alloc (.cells #[.slice (some ⟨g1, 0, none⟩) T.length c1] 27)
    exact ⟨Lib.hid e6, Lib.hid (hown5.out.alloc _), Lib.hid (blk_new' hgu.out.symm rfl), by rw [← hgu.out]; exact hE5.out.size⟩
  clear hown5 hgu hE5 c4 l4 hrd hone hY0 hYl y0 yl
  rintro V6 ⟨hE6, hrow, qu, lgu⟩
  obtain ⟨pv, ov, i0, i1, i2, iP, iO⟩ := hxs'.out.at_ m x hxm.out
  obtain ⟨ys, hro, hys⟩ := iO
  obtain ⟨og, oc, rfl⟩ := owns_pos hro xo0
  have hyl : Hid (ys.length = x.opts.length * 3) := Lib.hid hro.1
  have hyc : Hid (∀ W, Ext V6 W → ∀ j u, ys[j]? = some u → W.cell? ((⟨og, 0, none⟩ : Addr).add j) = some u) := Lib.hid fun W hW j u hu => by
    have := (owns_ext hro (hE6.out.trans hW)).cells (g := og) rfl j u hu
    exact this
  have hyone := Lib.hid hys.one
  have hys' := Lib.hid hys
  have hi2 := Lib.hid i2
  have t2 := hrowT.out.cellAt (m * 3 + 2) (by omega)
  rw [i2] at t2
  have z1 := After.cell (show V6.cell? ⟨gu, 0, none⟩ = some (.slice (some ⟨g1, 0, none⟩) T.length c1) from qu.out.cell 0)
  have z2 := After.cell (show V6.cell? ⟨w2.heap.size, 0, none⟩ = some (.slice (some ⟨tg, 0, none⟩) T.length tc) from hE6.out.cell (hB.out.cell 0))
  have z3 := After.cell (hE6.out.cell t2)
  clear hys hro i0 i1 iP t2 i2
  (refine wp_region_held [] [0, 1, 2, 3, 4, 5, 6, 7, 8, 9, 10, 11, 12] [13] (CopyCon 10 x.opts.length V6.heap.size ys) (by kernel_rfl) (by kernel_rfl) ?_; simp only [pickL]; with_reducible refine wpQuiet_nil ?_)
  (refine held_quiet [0, 1, 2] [3, 4, 5, 6, 7, 8, 9, 10, 11, 12] (by kernel_rfl) (by kernel_rfl) ?_; simp only [pickL, List.drop]; (repeat (go_big_quiet_step (fail))); with_reducible refine wpQuiet_nil ?_)
  (refine held_made 3 [4, 5, 6, 7, 8, 9, 10, 11, 12] rfl (by kernel_rfl) (fun g => .slice (some ⟨g, 0, none⟩) 0 0) (.cells #[] 55) (fun W => by kernel_rfl) (fun g g2 e => by cases e; rfl) (fun g => rfl) ?_)
  intro gs
  simp only [Act.put, List.setIfInBounds_toArray, List.set_cons_succ, List.set_cons_zero]
  (refine held_quiet [4, 5, 6, 7, 8, 9] [10, 11, 12] (by kernel_rfl) (by kernel_rfl) ?_; simp only [pickL, List.drop]; (repeat (go_big_quiet_step (fail))); with_reducible refine wpQuiet_nil ?_)
  refine held_grow 10 [11, 12] rfl (by kernel_rfl) rfl ?_ ?_ ?_
  · exact fun A A' v e hh => CopyCon.ext e hh
  · intro V hV hD
    exact run_copy_opts (.tmp 63) (.tmp 69) rfl gs rfl og 0 x.opts.length oc ys rfl xo0 (by omega) hyl.out (hyc.out V hV) hyone.out 10 V6.heap.size hV.size
  rintro v ⟨Y, hY', hCv⟩
  obtain ⟨g4, c4, rfl, h00⟩ := hCv rfl
  clear hCv h00 hY' Y
  simp only [Act.put, List.setIfInBounds_toArray, List.set_cons_succ, List.set_cons_zero]
  (refine held_quiet [11, 12] [] (by kernel_rfl) (by kernel_rfl) ?_; simp only [pickL, List.drop]; (repeat (go_big_quiet_step (fail))); with_reducible refine wpQuiet_nil ?_)
  intro V7 hx7 hf ht Q0 hQ0
  obtain ⟨_, _, e9, hro7⟩ := (hf 10).2 rfl rfl
  cases e9
  have hro7' := Lib.hid (owns_base hro7 hE6.out.size)
  have hE7 := Lib.hid (hE6.out.trans hx7)
  have hrow7 := Lib.hid (owns_ext hrow.out hx7)
  have qu7 := Lib.hid ((Keep.of_ext (X := fun _ => False) hx7).blk qu.out id)
  have d2 := hrow7.out.cellAt (m * 3 + 2) (by omega)
  rw [hi2.out] at d2
  have e2 := hrow7.out.frozenAt (m * 3 + 2)
  simp only [pickL, List.drop]
  clear hf ht hx7 hro7 z1 z2 z3 hyc hi2
  go_upto_region 10 with (fail)
  refine wp_abs (S := fun V => Hid (Ext V4 V) ∧ Hid (V.ownsRow V4.heap.size 52 3 (.slice (some ⟨g1, 0, none⟩) T.length c1) T.length (xs.set (m * 3 + 2) (.slice (some ⟨g4, 0, none⟩) x.opts.length c4))) ∧ Hid (V.ownsRow V4.heap.size 55 3 (.slice (some ⟨g4, 0, none⟩) x.opts.length c4) x.opts.length ys) ∧ Hid (Blk V gu 27 #[.slice (some ⟨g1, 0, none⟩) T.length c1])) ?_ ?_
  · have hg1 : V4.heap.size ≤ g1 := (hrow7.out.lt g1 rfl).1
    have hgu1 : gu ≠ g1 := fun e => own_blk_ne hrow7.out qu7.out (by decide) (by rw [e]; rfl)
    have r1 := (hrow7.out.stored (m * 3 + 2) (.slice (some ⟨g4, 0, none⟩) x.opts.length c4)).1
    exact ⟨Lib.hid (hE7.out.setCell (p := ⟨g1, m * 3 + 2, none⟩) hg1 _), Lib.hid r1, Lib.hid (owns_keepT hro7'.out (keep_set V7 g1 (m * 3 + 2) _) (T := 52) (by rintro _ rfl _; exact owns_block hrow7.out rfl) (by decide)), Lib.hid (qu7.out.far (p := ⟨g1, m * 3 + 2, none⟩) hgu1 _)⟩
  clear d2 e2 hrow7 qu7 hE7 hro7' hrow qu hE6
  rintro V8 ⟨hE8, hrw8, hro8, hb8⟩
  have c2' := hrw8.out.cellAt (m * 3 + 2) (by omega)
  rw [List.getElem?_set_self (by rw [hxl.out]; omega)] at c2'
  have s48 := hE8.out.size
  have l8 := hb8.out.lt
  have l9 : g1 < V8.heap.size := (hrw8.out.lt g1 rfl).2
  have hg14 : V4.heap.size ≤ g1 := (hrw8.out.lt g1 rfl).1
  have hg44 : V4.heap.size ≤ g4 := (hro8.out.lt g4 rfl).1
  have hgu1 : gu ≠ g1 := fun e => own_blk_ne hrw8.out hb8.out (by decide) (by rw [e]; rfl)
  have hgu4 : gu ≠ g4 := fun e => own_blk_ne hro8.out hb8.out (by decide) (by rw [e]; rfl)
  have hYl := Nat.lt_of_lt_of_le hY.out.lt hE8.out.size
  have hSx : Hid (∀ W', Keep (fun g => g = g4 ∨ g = g1) V8 W' → W'.cell? ⟨gu, 0, none⟩ = some (.slice (some ⟨g1, 0, none⟩) T.length c1) ∧ W'.cell? ⟨w.heap.size + 1, 1, none⟩ = some (.int .u8 xb) ∧ W'.cell? ⟨w.heap.size + 1, 2, none⟩ = some (.int .u8 xc) ∧ W'.cell? ⟨w.heap.size + 1, 3, none⟩ = some (.int .u8 xd)) := Lib.hid fun W' hk => by
    have hY8 := (Keep.of_ext (X := fun _ => False) hE8.out).blk hY.out id
    have hY9 := hY.out.lt
    have a1 := hk.blk hb8.out (fun h => by rcases h with h | h; exact hgu4 h; exact hgu1 h)
    have a2 := hk.blk hY8 (fun h => by rcases h with h | h <;> omega)
    exact ⟨a1.cell 0, a2.cell 1, a2.cell 2, a2.cell 3⟩
  obtain ⟨hc1, hc2, hc3, hc4⟩ := hSx.out V8 (Keep.refl _ _)
  go_cut [15] from 73 (fun p8 wx => p8 = .pointer (some ⟨gu, 0, none⟩) ∧ Hid (Ext V4 wx) ∧ Hid (Wishes wx (.slice (some ⟨g1, 0, none⟩) T.length c1) F) ∧ Hid (Blk wx gu 27 #[.slice (some ⟨g1, 0, none⟩) T.length c1]))
  case first =>
    have z1 := After.cell hc1
    have z2 := After.cell hc2
    have z3 := After.cell hc3
    have z4 := After.cell hc4
    have z5 := After.cell c2'
    refine wp_region_split 1 28 (by decide) (by kernel_rfl) ?_ ?_
    · simp only [edgeL, edgeO, List.push_toArray, List.cons_append, List.nil_append]
      refine wpAny_held0 [2] [0, 1, 3, 4, 5, 6, 7, 8, 9, 10, 11, 12, 13, 14, 15, 16, 17, 18, 19, 20, 21, 22, 23, 24, 25, 26, 27] [28, 29, 30, 31] (fun _ _ _ => True) (by kernel_rfl) (by rfl) ?_
      simp only [pickL, List.drop]
      repeat (go_big_quiet_step (fail))
      with_reducible refine wpQuiet_nil ?_
      (refine held_quiet [0, 1, 3, 4, 5, 6, 7, 8, 9, 10, 11, 12, 13, 14, 15, 16, 17, 18, 19, 20, 21, 22, 23, 24] [25, 26, 27] (by kernel_rfl) (by kernel_rfl) ?_; simp only [pickL, List.drop]; (repeat (go_big_quiet_step (fail))); with_reducible refine wpQuiet_nil ?_)
      (refine held_made 25 [26, 27] rfl (by kernel_rfl) (fun g => .slice (some ⟨g, 0, none⟩) 1 1) (.cells #[.int .i64 xc, .int .i64 (xc + 1 + xd)] 70) (fun W => by kernel_rfl) (fun g g2 e => by cases e; rfl) (fun g => rfl) ?_)
      intro gS
      simp only [Act.put, List.setIfInBounds_toArray, List.set_cons_succ, List.set_cons_zero]
      (refine held_quiet [26] [27] (by kernel_rfl) (by kernel_rfl) ?_; simp only [pickL, List.drop]; (repeat (go_big_quiet_step (fail))); with_reducible refine wpQuiet_nil ?_)
      (refine held_made 27 [] rfl (by kernel_rfl) (fun g => .slice (some ⟨g, 0, none⟩) 1 1) (.cells #[.int .i64 0, .int .i64 rm, .slice (some ⟨gS, 0, none⟩) 1 1] 55) (fun W => by kernel_rfl) (fun g g2 e => by cases e; rfl) (fun g => rfl) ?_)
      intro gO
      simp only [Act.put, List.setIfInBounds_toArray, List.set_cons_succ, List.set_cons_zero]
      intro V hxV hf ht Q0 hQ0
      have bS : Hid (Blk V gS 70 #[.int .i64 xc, .int .i64 (xc + 1 + xd)]) := Lib.hid (by first | exact ((hf 25).1.1.2 rfl).1 | exact ((hf 25).1.2 rfl).1)
      have bO : Blk V gO 55 #[.int .i64 0, .int .i64 rm, .slice (some ⟨gS, 0, none⟩) 1 1] := ((hf 27).2 rfl).1
      have hrO := Lib.hid (Reads.of_own (w := V) (base := 0) (e := 55) (size := 3) (A := some ⟨gO, 0, none⟩) (n := 1) (c := 1) (xs := [.int .i64 0, .int .i64 rm, .slice (some ⟨gS, 0, none⟩) 1 1]) ⟨rfl, .inr ⟨gO, 1, #[.int .i64 0, .int .i64 rm, .slice (some ⟨gS, 0, none⟩) 1 1], rfl, Nat.zero_le _, bO, Nat.le_refl _, by unfold maxLen; omega, rfl, rfl⟩⟩)
      have hEV := Lib.hid (hE8.out.trans hxV)
      have hroV := Lib.hid (owns_ext hro8.out hxV)
      have hrwV := Lib.hid (owns_ext hrw8.out hxV)
      have hbV := Lib.hid ((Keep.of_ext (X := fun _ => False) hxV).blk hb8.out id)
      have sV := hEV.out.size
      simp only [pickL, List.drop]
      clear hf ht hxV bO z1 z2 z3 z4 z5
      go_wp2_with (at_builtin; refine wpList_append_any _ rfl (.tmp 81) (.tmp 100) _ rfl V4.heap.size 55 k0 _ 3 40 Tryz.underlying50 hk0 kz0 kz1 kz2 rfl (by decide) (.slice (some ⟨g4, 0, none⟩) x.opts.length c4) x.opts.length ys rfl hroV.out V.heap.size (some ⟨gO, 0, none⟩) 1 1 _ rfl hrO.out (by simp [Value.oneCell']) (by unfold maxLen; omega) (by omega) sV ?_; intro v9 w9 hown9 hg9 hat9; obtain ⟨g9, c9, rfl⟩ := owns_pos hown9 (by omega); have kk := Keep.grown (X := fun g => Value.ownBlock (.slice (some ⟨g4, 0, none⟩) x.opts.length c4) = some g) (Keep.refl _ V) hg9 (fun g h => Or.inl h); have hE9 := Lib.hid (hEV.out.keep kk (fun i hi h => by simp [Value.ownBlock] at h; omega)); have b9 := Lib.hid (kk.blk hbV.out (fun h => own_blk_ne hroV.out hbV.out (by decide) h)); have hbS := kk.blk bS.out (fun h => own_blk_ne hroV.out bS.out (by decide) h); have hrw9 := Lib.hid (owns_keepT hrwV.out kk (TX.row hroV.out) (by decide)); have hown9' := Lib.hid hown9; have hsp9 : Hid (SpansO w9 0 (.slice (some ⟨gS, 0, none⟩) 1 1) [(xc, xc + 1 + xd)]) := Lib.hid ⟨by simp [spanCells], .inr ⟨gS, 1, #[.int .i64 xc, .int .i64 (xc + 1 + xd)], rfl, Nat.zero_le _, hbS, Nat.le_refl _, by unfold maxLen; omega, rfl, by simp [spanCells]⟩⟩; have y1 : w9.cell? ⟨gu, 0, none⟩ = some (.slice (some ⟨g1, 0, none⟩) T.length c1) := b9.out.cell 0; have y2 := hrw9.out.cellAt (m * 3 + 2) (by omega); rw [List.getElem?_set_self (by rw [hxl.out]; omega)] at y2; have y3 := hrw9.out.frozenAt (m * 3 + 2); clear hg9 hat9 hown9 kk hbS)
      go_meet
      have r1 := (hrw9.out.stored (m * 3 + 2) (.slice (some ⟨g9, 0, none⟩) (x.opts.length + 1) c9)).1
      rw [List.set_set] at r1
      have ee := hE9.out.setCell (p := ⟨g1, m * 3 + 2, none⟩) hg14 (.slice (some ⟨g9, 0, none⟩) (x.opts.length + 1) c9)
      have htx : TX w9 (fun k => k = g1) 52 := by rintro _ rfl _; exact owns_block hrw9.out rfl
      have ho3 := owns_keepT hown9'.out (keep_set w9 g1 (m * 3 + 2) (.slice (some ⟨g9, 0, none⟩) (x.opts.length + 1) c9)) htx (by decide)
      have hs3 := SpansO.keepT hsp9.out (keep_set w9 g1 (m * 3 + 2) (.slice (some ⟨g9, 0, none⟩) (x.opts.length + 1) c9)) htx (by decide)
      refine ⟨rfl, Lib.hid ee, Lib.hid ?_, Lib.hid (b9.out.far (p := ⟨g1, m * 3 + 2, none⟩) hgu1 _)⟩
      have hO : Opts _ (.slice (some ⟨g9, 0, none⟩) (x.opts.length + 1) c9) (x.opts ++ [(⟨0, rm, [(xc, xc + 1 + xd)]⟩ : OptD)]) := opts_of_row (by rw [List.length_append]; exact ho3) (OptsC.snoc hs3.read (hys'.out.read.ext ee))
      rw [← hod.out] at hO
      rw [hFx.out]
      exact wishes_of_rowK (l := T.set m (addO x o)) (by rw [List.length_set]; exact r1) (WishesC.set2 (y := addO x o) ((WishesCO.read hxs'.out).ext ee) hxm.out rfl rfl hO)
    · simp only [edgeL, edgeO, List.push_toArray, List.cons_append, List.nil_append]
      refine wpAny_held0 [2, 0] [3, 4, 5, 6, 7, 8, 9, 10, 11, 12, 13, 14, 15, 16, 17, 18, 19, 20, 21, 22, 23, 24, 25, 26, 27] [28, 1, 29, 30, 31] (fun _ _ _ => True) (by kernel_rfl) (by rfl) ?_
      simp only [pickL, List.drop]
      repeat (go_big_quiet_step (fail))
      with_reducible refine wpQuiet_nil ?_
      (refine held_quiet [3, 4, 5, 6, 7, 8, 9, 10, 11, 12, 13, 14, 15, 16, 17, 18, 19, 20, 21, 22, 23, 24] [25, 26, 27] (by kernel_rfl) (by kernel_rfl) ?_; simp only [pickL, List.drop]; (repeat (go_big_quiet_step (fail))); with_reducible refine wpQuiet_nil ?_)
      (refine held_made 25 [26, 27] rfl (by kernel_rfl) (fun g => .slice (some ⟨g, 0, none⟩) 1 1) (.cells #[.int .i64 xc, .int .i64 (xc + 1 + xd)] 70) (fun W => by kernel_rfl) (fun g g2 e => by cases e; rfl) (fun g => rfl) ?_)
      intro gS
      simp only [Act.put, List.setIfInBounds_toArray, List.set_cons_succ, List.set_cons_zero]
      (refine held_quiet [26] [27] (by kernel_rfl) (by kernel_rfl) ?_; simp only [pickL, List.drop]; (repeat (go_big_quiet_step (fail))); with_reducible refine wpQuiet_nil ?_)
      (refine held_made 27 [] rfl (by kernel_rfl) (fun g => .slice (some ⟨g, 0, none⟩) 1 1) (.cells #[.int .i64 0, .int .i64 rm, .slice (some ⟨gS, 0, none⟩) 1 1] 55) (fun W => by kernel_rfl) (fun g g2 e => by cases e; rfl) (fun g => rfl) ?_)
      intro gO
      simp only [Act.put, List.setIfInBounds_toArray, List.set_cons_succ, List.set_cons_zero]
      intro V hxV hf ht Q0 hQ0
      have bS : Hid (Blk V gS 70 #[.int .i64 xc, .int .i64 (xc + 1 + xd)]) := Lib.hid (by first | exact ((hf 25).1.1.2 rfl).1 | exact ((hf 25).1.2 rfl).1)
      have bO : Blk V gO 55 #[.int .i64 0, .int .i64 rm, .slice (some ⟨gS, 0, none⟩) 1 1] := ((hf 27).2 rfl).1
      have hrO := Lib.hid (Reads.of_own (w := V) (base := 0) (e := 55) (size := 3) (A := some ⟨gO, 0, none⟩) (n := 1) (c := 1) (xs := [.int .i64 0, .int .i64 rm, .slice (some ⟨gS, 0, none⟩) 1 1]) ⟨rfl, .inr ⟨gO, 1, #[.int .i64 0, .int .i64 rm, .slice (some ⟨gS, 0, none⟩) 1 1], rfl, Nat.zero_le _, bO, Nat.le_refl _, by unfold maxLen; omega, rfl, rfl⟩⟩)
      have hEV := Lib.hid (hE8.out.trans hxV)
      have hroV := Lib.hid (owns_ext hro8.out hxV)
      have hrwV := Lib.hid (owns_ext hrw8.out hxV)
      have hbV := Lib.hid ((Keep.of_ext (X := fun _ => False) hxV).blk hb8.out id)
      have sV := hEV.out.size
      simp only [pickL, List.drop]
      clear hf ht hxV bO z1 z2 z3 z4 z5
      go_wp2_with (at_builtin; refine wpList_append_any _ rfl (.tmp 81) (.tmp 100) _ rfl V4.heap.size 55 k0 _ 3 40 Tryz.underlying50 hk0 kz0 kz1 kz2 rfl (by decide) (.slice (some ⟨g4, 0, none⟩) x.opts.length c4) x.opts.length ys rfl hroV.out V.heap.size (some ⟨gO, 0, none⟩) 1 1 _ rfl hrO.out (by simp [Value.oneCell']) (by unfold maxLen; omega) (by omega) sV ?_; intro v9 w9 hown9 hg9 hat9; obtain ⟨g9, c9, rfl⟩ := owns_pos hown9 (by omega); have kk := Keep.grown (X := fun g => Value.ownBlock (.slice (some ⟨g4, 0, none⟩) x.opts.length c4) = some g) (Keep.refl _ V) hg9 (fun g h => Or.inl h); have hE9 := Lib.hid (hEV.out.keep kk (fun i hi h => by simp [Value.ownBlock] at h; omega)); have b9 := Lib.hid (kk.blk hbV.out (fun h => own_blk_ne hroV.out hbV.out (by decide) h)); have hbS := kk.blk bS.out (fun h => own_blk_ne hroV.out bS.out (by decide) h); have hrw9 := Lib.hid (owns_keepT hrwV.out kk (TX.row hroV.out) (by decide)); have hown9' := Lib.hid hown9; have hsp9 : Hid (SpansO w9 0 (.slice (some ⟨gS, 0, none⟩) 1 1) [(xc, xc + 1 + xd)]) := Lib.hid ⟨by simp [spanCells], .inr ⟨gS, 1, #[.int .i64 xc, .int .i64 (xc + 1 + xd)], rfl, Nat.zero_le _, hbS, Nat.le_refl _, by unfold maxLen; omega, rfl, by simp [spanCells]⟩⟩; have y1 : w9.cell? ⟨gu, 0, none⟩ = some (.slice (some ⟨g1, 0, none⟩) T.length c1) := b9.out.cell 0; have y2 := hrw9.out.cellAt (m * 3 + 2) (by omega); rw [List.getElem?_set_self (by rw [hxl.out]; omega)] at y2; have y3 := hrw9.out.frozenAt (m * 3 + 2); clear hg9 hat9 hown9 kk hbS)
      go_meet
      have r1 := (hrw9.out.stored (m * 3 + 2) (.slice (some ⟨g9, 0, none⟩) (x.opts.length + 1) c9)).1
      rw [List.set_set] at r1
      have ee := hE9.out.setCell (p := ⟨g1, m * 3 + 2, none⟩) hg14 (.slice (some ⟨g9, 0, none⟩) (x.opts.length + 1) c9)
      have htx : TX w9 (fun k => k = g1) 52 := by rintro _ rfl _; exact owns_block hrw9.out rfl
      have ho3 := owns_keepT hown9'.out (keep_set w9 g1 (m * 3 + 2) (.slice (some ⟨g9, 0, none⟩) (x.opts.length + 1) c9)) htx (by decide)
      have hs3 := SpansO.keepT hsp9.out (keep_set w9 g1 (m * 3 + 2) (.slice (some ⟨g9, 0, none⟩) (x.opts.length + 1) c9)) htx (by decide)
      refine ⟨rfl, Lib.hid ee, Lib.hid ?_, Lib.hid (b9.out.far (p := ⟨g1, m * 3 + 2, none⟩) hgu1 _)⟩
      have hO : Opts _ (.slice (some ⟨g9, 0, none⟩) (x.opts.length + 1) c9) (x.opts ++ [(⟨0, rm, [(xc, xc + 1 + xd)]⟩ : OptD)]) := opts_of_row (by rw [List.length_append]; exact ho3) (OptsC.snoc hs3.read (hys'.out.read.ext ee))
      rw [← hod.out] at hO
      rw [hFx.out]
      exact wishes_of_rowK (l := T.set m (addO x o)) (by rw [List.length_set]; exact r1) (WishesC.set2 (y := addO x o) ((WishesCO.read hxs'.out).ext ee) hxm.out rfl rfl hO)
  case rest =>
  obtain ⟨rfl, hEc, hWc, hbc⟩ := hcut
  clear c2' s48 l8 l9 hg14 hg44 hgu1 hgu4 hYl hSx hc1 hc2 hc3 hc4 hE8 hrw8 hro8 hb8 hyl hyone hys' hxs' hxl hrowT lgu hFx hxm xo0 xo4 hTo w1' w2' w3' w4' w5' w6' hod hX hY
  have hq := hEc.out
  replace hTw := Lib.hid (hTw.out.ext hq)
  replace hS := Lib.hid (hS.out.ext hq)
  replace hB := Lib.hid ((Keep.of_ext (X := fun _ => False) hq).blk hB.out id)
  replace hE := Lib.hid (hE.out.trans hq)
  clear hq
  have b0 : wc.cell? ⟨gu, 0, none⟩ = some (.slice (some ⟨g1, 0, none⟩) T.length c1) := hbc.out.cell 0
  have bl := hbc.out.lt
  go_wp2_with fail
  refine (Stands_calls (.slice (some ⟨g1, 0, none⟩) T.length c1) (.slice sa S.length sc) F S wc hWc.out hS.out).mono ?_
  rw [hstF.out]
  rintro e Vd ⟨rfl, hq⟩
  clear b0 bl hbc hWc
  replace hTw := Lib.hid (hTw.out.ext hq)
  replace hS := Lib.hid (hS.out.ext hq)
  replace hB := Lib.hid ((Keep.of_ext (X := fun _ => False) hq).blk hB.out id)
  replace hE := Lib.hid (hE.out.trans hq)
  clear hq
  cases qa with
  | false =>
    have hS0 : S ≠ [] := fun h => by have := hemp.out h; cases this
    have d1 : ((S.length : Int) == 0) = false := by
      have := List.length_pos_iff.2 hS0
      rw [beq_eq_false_iff_ne]; omega
    have hsv := Lib.hid (hsubv.out hS0)
    clear hS0
    have b0 : Vd.cell? ⟨w2.heap.size, 0, none⟩ = some (.slice (some ⟨tg, 0, none⟩) T.length tc) := hB.out.cell 0
    have bl := hB.out.lt
    go_wp2_with fail
    refine (rSub_calls (.slice (some ⟨tg, 0, none⟩) T.length tc) (.slice sa S.length sc) T S Vd hTw.out hS.out hSi.out (by omega)).mono ?_
    rintro e Ve ⟨uv, rfl, huv, hq⟩
    obtain ⟨ua, uc, rfl⟩ := huv.form
    have hU := Lib.hid huv
    clear b0 bl huv
    replace hTw := Lib.hid (hTw.out.ext hq)
    replace hS := Lib.hid (hS.out.ext hq)
    replace hB := Lib.hid ((Keep.of_ext (X := fun _ => False) hq).blk hB.out id)
    replace hE := Lib.hid (hE.out.trans hq)
    clear hq
    go_wp2_with fail
    refine (best_calls (.slice ua (subT T S).length uc) (subT T S) Ve hU.out (fun _ => htree.out)).mono ?_
    intro e Vf hbest
    obtain ⟨pA, pN, pC, q, cv, rfl, hq, hpl⟩ := best_stand hsv.out hbest
    rw [hsb.out] at hpl ⊢
    clear hbest hU
    replace hTw := Lib.hid (hTw.out.ext hq)
    replace hS := Lib.hid (hS.out.ext hq)
    replace hB := Lib.hid ((Keep.of_ext (X := fun _ => False) hq).blk hB.out id)
    replace hE := Lib.hid (hE.out.trans hq)
    clear hq
    rw [show (if false = true then (0 : Int) else 4) = 4 from rfl]
    clear hpl
    go_upto_region 17 with (fail)
    obtain ⟨gb, hgb⟩ : ∃ gb, Hid (Vf.heap.size = gb) := ⟨_, rfl⟩
    rw [hgb.out]
    refine wp_abs (S := fun V => Hid (Ext Vf V) ∧ Hid (Blk V gb 64 #[.slice pA pN pC, .int .i64 q])) ⟨Lib.hid (by exact (by repeat' (first | (with_reducible exact Ext.refl _) | (with_reducible assumption) | (with_reducible refine Ext.drewN ?_ _) | (with_reducible refine Ext.drew ?_) | (with_reducible refine Ext.alloc ?_ _) | (with_reducible refine Ext.trans ?_ (by with_reducible assumption))))), Lib.hid (blk_new' hgb.out.symm rfl)⟩ ?_
    rintro Vg ⟨hxg, hbg⟩
    have hq := hxg.out
    replace hTw := Lib.hid (hTw.out.ext hq)
    replace hS := Lib.hid (hS.out.ext hq)
    replace hB := Lib.hid ((Keep.of_ext (X := fun _ => False) hq).blk hB.out id)
    replace hE := Lib.hid (hE.out.trans hq)
    clear hq
    have n1 : Vg.cell? ⟨w2.heap.size, 0, none⟩ = some (.slice (some ⟨tg, 0, none⟩) T.length tc) := hB.out.cell 0
    have n2 : Vg.cell? ⟨gb, 0, none⟩ = some (.slice pA pN pC) := hbg.out.cell 0
    have e40 : ((4 : Int) == 0) = false := rfl
    refine wp_region_after (by kernel_rfl) (by kernel_rfl) ?_
    repeat (go_big_quiet_step (fail))
    refine wpQuiet_nil ?_
    rintro _ ⟨u, rfl⟩
    have hu := Lib.hid (hE.out.trans u.ext)
    generalize u.world = V at hu ⊢
    go_wp2
    go_ret
    exact ⟨rfl, hu.out⟩
  | true =>
    obtain rfl := hab.out rfl
    obtain rfl := hac.out rfl
    by_cases hS0 : S = []
    · have d1 : ((S.length : Int) == 0) = true := by rw [hS0]; rfl
      clear hS0
      go_wp2
      go_ret
      exact ⟨rfl, hE.out⟩
    · have hS1 := hS0
      clear hS1
      have d1 : ((S.length : Int) == 0) = false := by
        have := List.length_pos_iff.2 hS0
        rw [beq_eq_false_iff_ne]; omega
      have hsv := Lib.hid (hsubv.out hS0)
      clear hS0
      have b0 : Vd.cell? ⟨w2.heap.size, 0, none⟩ = some (.slice (some ⟨tg, 0, none⟩) T.length tc) := hB.out.cell 0
      have bl := hB.out.lt
      go_wp2_with fail
      refine (rSub_calls (.slice (some ⟨tg, 0, none⟩) T.length tc) (.slice sa S.length sc) T S Vd hTw.out hS.out hSi.out (by omega)).mono ?_
      rintro e Ve ⟨uv, rfl, huv, hq⟩
      obtain ⟨ua, uc, rfl⟩ := huv.form
      have hU := Lib.hid huv
      clear b0 bl huv
      replace hTw := Lib.hid (hTw.out.ext hq)
      replace hS := Lib.hid (hS.out.ext hq)
      replace hB := Lib.hid ((Keep.of_ext (X := fun _ => False) hq).blk hB.out id)
      replace hE := Lib.hid (hE.out.trans hq)
      clear hq
      go_wp2_with fail
      refine (best_calls (.slice ua (subT T S).length uc) (subT T S) Ve hU.out (fun _ => htree.out)).mono ?_
      intro e Vf hbest
      obtain ⟨pA, pN, pC, q, cv, rfl, hq, hpl⟩ := best_stand hsv.out hbest
      rw [hsb.out] at hpl ⊢
      clear hbest hU
      replace hTw := Lib.hid (hTw.out.ext hq)
      replace hS := Lib.hid (hS.out.ext hq)
      replace hB := Lib.hid ((Keep.of_ext (X := fun _ => False) hq).blk hB.out id)
      replace hE := Lib.hid (hE.out.trans hq)
      clear hq
      rw [show (if true = true then (0 : Int) else 4) = 0 from rfl]
      obtain ⟨p, hp, hlaw⟩ := hpl rfl
      have hp' := Lib.hid hp
      have hlaw' := Lib.hid hlaw
      clear hp hlaw hpl
      go_upto_region 17 with (fail)
      obtain ⟨gb, hgb⟩ : ∃ gb, Hid (Vf.heap.size = gb) := ⟨_, rfl⟩
      rw [hgb.out]
      refine wp_abs (S := fun V => Hid (Ext Vf V) ∧ Hid (Blk V gb 64 #[.slice pA pN pC, .int .i64 q])) ⟨Lib.hid (by exact (by repeat' (first | (with_reducible exact Ext.refl _) | (with_reducible assumption) | (with_reducible refine Ext.drewN ?_ _) | (with_reducible refine Ext.drew ?_) | (with_reducible refine Ext.alloc ?_ _) | (with_reducible refine Ext.trans ?_ (by with_reducible assumption))))), Lib.hid (blk_new' hgb.out.symm rfl)⟩ ?_
      rintro Vg ⟨hxg, hbg⟩
      have hq := hxg.out
      replace hTw := Lib.hid (hTw.out.ext hq)
      replace hS := Lib.hid (hS.out.ext hq)
      replace hB := Lib.hid ((Keep.of_ext (X := fun _ => False) hq).blk hB.out id)
      replace hE := Lib.hid (hE.out.trans hq)
      clear hq
      have n1 : Vg.cell? ⟨w2.heap.size, 0, none⟩ = some (.slice (some ⟨tg, 0, none⟩) T.length tc) := hB.out.cell 0
      have n2 : Vg.cell? ⟨gb, 0, none⟩ = some (.slice pA pN pC) := hbg.out.cell 0
      have hpg := Lib.hid (hp'.out.ext hxg.out)
      go_region_held3 (fun W' => W'.cell? ⟨w2.heap.size, 0, none⟩ = some (.slice (some ⟨tg, 0, none⟩) T.length tc) ∧ W'.cell? ⟨gb, 0, none⟩ = some (.slice pA pN pC))
        (first | exact ⟨n1, n2⟩ | exact ⟨n3, n4⟩ | exact ⟨n5, n6⟩)
        (first
        | (go_at_call 31; refine (rSub_calls (.slice (some ⟨tg, 0, none⟩) T.length tc) (.slice sa S.length sc) T S _ (hTw.out.ext (Ext.drew (Ext.refl _))) (hS.out.ext (Ext.drew (Ext.refl _))) hSi.out (by omega)).mono ?_; rintro e Wy ⟨uv2, rfl, huv2, hqy⟩; obtain ⟨ua2, uc2, rfl⟩ := huv2.form; have hqy1 : Ext Vg Wy := (Ext.drew (Ext.refl _)).trans hqy; have n3 := hqy1.cell n1; have n4 := hqy1.cell n2; have hU2 := Lib.hid huv2; have hqy' := Lib.hid hqy1; clear huv2 hqy hqy1)
        | (go_at_call 36; refine (lawful_calls (.slice ua2 (subT T S).length uc2) (.slice pA pN pC) (subT T S) p Wy hU2.out (hpg.out.ext hqy'.out)).mono ?_; rw [hlaw'.out]; rintro e Wz ⟨rfl, hqz⟩; have n5 := hqz.cell n3; have n6 := hqz.cell n4; have hqz' := Lib.hid hqz; clear hqz))
      all_goals
        go_wp2
        go_ret
        exact ⟨rfl, hE.out.trans (hqy'.out.trans hqz'.out)⟩
end Go.Proofs.YtcpohkigbaechaaGreatDoor
