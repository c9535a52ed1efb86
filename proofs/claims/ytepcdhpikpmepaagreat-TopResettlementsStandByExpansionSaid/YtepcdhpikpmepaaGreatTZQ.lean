/- The law TopResettlementsStandByExpansion, walked. -/
import Derived.Test.YtepcdhpikpmepaaGreatTZAQ
import Derived.Test.YtepcdhpikpmepaaGreatTYQ
import Derived.Test.YtepcdhpikpmepaaGreatTVSQ
namespace Go.Proofs.YtepcdhpikpmepaaGreat
open Go.RowKit Go.Shelf
attribute [local go_sem] Oper.semAt_some

theorem RawsS.firstN {w : World} {a : Option Addr} {n c m : Nat} {l : List RawS} (h : RawsS w (.slice a n c) l) (hm : m ≤ n) : RawsS w (.slice a m c) (l.take m) := by
 obtain ⟨E, h1, h2⟩ := h
 obtain ⟨a', c', e, hn, hc, h3⟩ := h1
 cases e
 have hl : (l.take m).length = m := by rw [List.length_take]; omega
 have hg : ∀ i, i < m → (l.take m)[i]? = l[i]? := fun i hi => by rw [List.getElem?_take, if_pos hi]
 refine ⟨E, ⟨a, c, by rw [hl], by rw [hl]; omega, hc, fun hp => ?_⟩, fun i hi => ?_⟩
 ·rw [hl] at hp
  obtain ⟨b, off, e1, e2, e3⟩ := h3 (by omega)
  refine ⟨b, off, e1, e2, fun i hi j hj => ?_⟩
  rw [hl] at hi
  show _ = some (rawCell ((l.take m)[i]?.getD default) (E i) j)
  rw [hg i hi]
  exact e3 i (by omega) j hj
 ·rw [hl] at hi
  rw [hg i hi]
  exact h2 i (by omega)
theorem madeSTo_ok {l : List RawS} (h : ∀ x ∈ l, RawSOk x) : ∀ i, i ≤ l.length → ∀ x ∈ madeSTo l i, StandOk x
 | 0, _, x, hx => by cases hx
 | i + 1, hi, x, hx => by
  have hlt : i < l.length := by omega
  unfold madeSTo addS at hx
  rw [List.getElem?_eq_getElem hlt, Option.getD_some] at hx
  have ih := madeSTo_ok h i (by omega)
  split at hx
  ·exact ih x hx
  ·simp only [List.mem_append, List.mem_filter, List.mem_singleton] at hx
   rcases hx with (hx | rfl) | hx
   ·exact ih x hx.1
   ·exact standOk_of (h _ (List.getElem_mem hlt))
   ·exact ih x hx.1
theorem RawsS.ok {w : World} {v : Value} {l : List RawS} (h : RawsS w v l) : ∀ x ∈ l, RawSOk x := fun x hx => by
 obtain ⟨E, _, h2⟩ := h
 obtain ⟨i, hi⟩ := List.mem_iff_getElem?.1 hx
 have hlt := (List.getElem?_eq_some_iff.1 hi).1
 have := (h2 i hlt).2
 rwa [hi] at this
/-! ### the way, for the walk -/
theorem trail_atZ {t : List WishD} {l : List StepD} {n i : Nat} (h : i < n) : (trailTo t l n)[i]? = some (stAt t l i) := by simp [trailTo, h]
theorem stAt_lenZ (t : List WishD) (l : List StepD) (i : Nat) : (stAt t l i).length = t.length := by unfold stAt; rw [afterS_len]; simp [zeros]
theorem statesS_okZ {t : List WishD} {p : List Int} (h : lawfulB t p = true) (h512 : t.length ≤ 512) : statesS t (orderL t p) = (trailTo t (orderL t p) ((orderL t p).length + 1), 0) := by
 unfold statesS
 rw [if_pos (order_steps h h512)]
theorem way_at {S : List StandD} {T : List WishD} {p : List Int} {ol : List StepD} (h : ∀ x ∈ S, StandOk x) (hT : taskS S = T) (hv : validT T = 0) (hl : lawfulB T p = true) (hol : orderL T p = ol) {n i k A B : Nat} {x y : StandD} {a b : Int} {r : List Int}
  (hr : r = stAt T ol n) (hn : n ≤ ol.length) (hx : S[i]? = some x) (hy : S[k]? = some y) (hk : k < i) (ea : r[i]? = some a) (eb : r[k]? = some b) (ha : a = A) (hb : b = B) (h0 : ¬ (a = 0 ∧ b = 0 ∧ n < ol.length))
  (h1 : 0 ≤ placeT T i A) (h2 : placeT T i A = placeT T k B) : collB x.stream y.stream = false := by
 subst hT hol hr ha hb
 have hi := (List.getElem?_eq_some_iff.1 hx).1
 have := way_quiet h hv hl hn hi hk (atI_some ea) (atI_some eb) (fun ⟨e1, e2, e3⟩ => h0 ⟨by omega, by omega, e3⟩) h1 h2
 rwa [hx, hy] at this
def calmRow (S : List StandD) (i k : Nat) : Bool := (List.range k).all fun k => calmAt S i k
def calmUp (S : List StandD) (i : Nat) : Bool := (List.range i).all fun i => calmRow S i i
theorem calmRow_step (S : List StandD) (i k : Nat) : calmRow S i (k + 1) = (calmRow S i k && calmAt S i k) := by simp [calmRow, List.range_succ]
theorem calmUp_step (S : List StandD) (i : Nat) : calmUp S (i + 1) = (calmUp S i && calmRow S i i) := by simp [calmUp, List.range_succ]
theorem calmUp_all (S : List StandD) : calmUp S S.length = calmL S := rfl
theorem calmAt_is {S : List StandD} {i k : Nat} {x y : StandD} (hx : S[i]? = some x) (hy : S[k]? = some y) : calmAt S i k = !(decide (x.room = y.room) && collB x.stream y.stream) := by unfold calmAt; rw [hx, hy]; rfl

/-! ### rows at a place that is known -/
theorem IntRowsAt.fix {w : World} {a : Option Addr} {ls : List (List Int)} (h : IntRowsAt a w ls) (h0 : 0 < ls.length) : ∃ g o, a = some ⟨g, o, none⟩ ∧
  ∀ i, i < ls.length → ∀ W, Ext w W → ∃ r ra rc, g < W.heap.size ∧ Hid (ls[i]? = some r) ∧ W.cell? ⟨g, o + i, none⟩ = some (.slice ra r.length rc) ∧ Ints W (.slice ra r.length rc) r := by
 obtain ⟨g, o, _, _, _, e, _⟩ := h 0 h0 w (Ext.refl _)
 subst e
 refine ⟨g, o, rfl, fun i hi W k => ?_⟩
 obtain ⟨b, o', r, ra, rc, e1, h1, h2, h3, h4⟩ := h i hi W k
 cases e1
 exact ⟨r, ra, rc, h1, h2, h3, h4⟩
theorem Ints.fix {w : World} {a : Option Addr} {n c : Nat} {r : List Int} (h : Ints w (.slice a n c) r) (h0 : 0 < r.length) : ∃ g o, a = some ⟨g, o, none⟩ ∧
  ∀ i, i < r.length → ∀ W, Ext w W → ∃ x, g < W.heap.size ∧ Hid (r[i]? = some x) ∧ W.cell? ⟨g, o + i, none⟩ = some (.int .i64 x) := by
 obtain ⟨_, _, e0, _, _, hat⟩ := h.open
 cases e0
 obtain ⟨g, o, _, e, _⟩ := hat 0 h0 w (Ext.refl _)
 subst e
 refine ⟨g, o, rfl, fun i hi W k => ?_⟩
 obtain ⟨b, o', x, e1, h1, _, h2, h3⟩ := hat i hi W k
 cases e1
 exact ⟨x, h1, h2, h3⟩
theorem StandsAt.fix {w : World} {a : Option Addr} {l : List StandD} (h : StandsAt a w l) (h0 : 0 < l.length) : ∃ g o, a = some ⟨g, o, none⟩ ∧
  ∀ i, i < l.length → ∀ W, Ext w W → ∃ x ca n1 cc n3 ea n2 ec, Hid (l[i]? = some x) ∧ g < W.heap.size ∧ W.cell? ⟨g, o + i * 7 + 1, none⟩ = some (.int .i64 x.room) ∧
   W.cell? ⟨g, o + i * 7 + 4, none⟩ = some (.slice ca n1 cc) ∧ W.cell? ⟨g, o + i * 7 + 5, none⟩ = some (.int .i64 n3) ∧ W.cell? ⟨g, o + i * 7 + 6, none⟩ = some (.slice ea n2 ec) ∧
   StreamV W (.agg #[.slice ca n1 cc, .int .i64 n3, .slice ea n2 ec]) x.stream := by
 obtain ⟨g, o, _, _, _, _, _, e, _⟩ := h 0 h0 w (Ext.refl _)
 subst e
 refine ⟨g, o, rfl, fun i hi W k => ?_⟩
 obtain ⟨b, o', x, ca, cc, ea, ec, e1, h1, h2, _, g1, _, _, g4, g5, g6, hc, he⟩ := h i hi W k
 cases e1
 exact ⟨x, ca, _, cc, _, ea, _, ec, h2, h1, g1, g4, g5, g6, _, _, rfl, hc, he⟩

set_option maxHeartbeats 12800000 in
set_option maxRecDepth 100000 in
theorem topResettlementsStandByExpansion_calls (rv : Value) (l : List RawS) (w : World) (h : RawsS w rv l) :
  Calls Tryz.prog 3 #[rv] w fun e w' => e = .returned (.bool true) ∧ Ext w w' := by
 have hraw := Lib.hid h
 obtain ⟨la, lc, rfl, hlc0, hlc, hlat⟩ := h.open
 have hll : l.length ≤ 9223372036854775807 := by omega
 clear h hlat
 go_enter Tryz.func3, Tryz.ntmps3
 go_wp2_with fail
 refine (sanity35_calls _).mono ?_
 rintro e w1 ⟨rfl, hx1⟩
 have hE1 := Lib.hid hx1
 clear hx1
 obtain ⟨km, hkm⟩ : ∃ km : Nat, Hid ((min (l.length : Int) 4).toNat = km) := ⟨_, rfl⟩
 have hkm1 : km = min 4 l.length := by rw [← hkm.out]; omega
 have hS1 : Hid (RawsS w1 (.slice la km lc) (l.take km)) := Lib.hid ((hraw.out.ext hE1.out).firstN (by omega))
 go_wp2_with fail
 rw [hkm.out]
 refine (madeStands_calls _ (l.take km) w1 hS1.out).mono ?_
 rintro e w2 ⟨lv, rfl, hl2, hx2⟩
 have hRok : ∀ x ∈ l.take km, RawSOk x := fun x hx => hraw.out.ok x (List.mem_of_mem_take hx)
 obtain ⟨S, hSd⟩ : ∃ S, Hid (madeS (l.take km) = S) := ⟨_, rfl⟩
 have hok : Hid (∀ x ∈ S, StandOk x) := Lib.hid (by rw [← hSd.out]; exact madeSTo_ok hRok _ (by omega))
 have hS4 : S.length ≤ 4 := by
  rw [← hSd.out]
  have := madeSTo_len (l.take km) (min (l.take km).length 5)
  have h4 : (l.take km).length ≤ 4 := by rw [List.length_take]; omega
  unfold madeS
  omega
 rw [hSd.out] at hl2
 obtain ⟨sa, sc, rfl, hsc1, hsc2, sat⟩ := hl2.open
 have hSt := Lib.hid hl2
 have sat2 := Lib.hid sat
 have hE2 := Lib.hid (hE1.out.trans hx2)
 clear hl2 hx2 sat hRok hSd hS1 hraw hkm hkm1 hE1 hll hlc hlc0 hsc1 hsc2
 obtain ⟨sn, hsn⟩ : ∃ n, Hid (S.length = n) := ⟨_, rfl⟩
 have hs4 : sn ≤ 4 := by rw [← hsn.out]; exact hS4
 rw [hsn.out] at hSt ⊢
 go_wp2_with fail
 refine (task35_calls _ S w2 hSt.out hok.out hS4).mono ?_
 rintro e w3 ⟨tv, rfl, ht, hx3⟩
 obtain ⟨T, hTd⟩ : ∃ T, Hid (taskS S = T) := ⟨_, rfl⟩
 rw [hTd.out] at ht
 obtain ⟨ta, tc, rfl⟩ := ht.form
 have hTl : Hid (T.length = sn) := Lib.hid (by rw [← hTd.out, ← hsn.out]; exact taskS_len S)
 rw [hTl.out] at ht ⊢
 have hT3 := Lib.hid ht
 have hE3 := Lib.hid (hE2.out.trans hx3)
 have hx3' := Lib.hid hx3
 clear ht hx3 hE2
 rcases Nat.eq_zero_or_pos sn with hz | hp0
 ·subst hz
  go_wp2_with fail
  go_ret
  exact ⟨rfl, hE3.out.trans (by exact (by with_reducible repeat' (first | exact Ext.refl _ | assumption | refine Ext.drewN ?_ _ | refine Ext.drew ?_ | refine Ext.alloc ?_ _ | refine Ext.trans ?_ (by with_reducible assumption))))⟩
 ·have d0 : ((sn : Int) == 0) = false := by rw [beq_eq_false_iff_ne]; omega
  have hv : Hid (validT T = 0) := Lib.hid (by rw [← hTd.out]; exact taskS_valid hok.out (by rw [hsn.out]; exact hp0) hS4)
  have hm : Hid (treeMax T ≤ 65536) := Lib.hid (by rw [← hTd.out]; exact Nat.le_trans (taskS_tree hok.out hS4) (by decide))
  have ho4 : Hid (∀ x ∈ T, x.opts.length ≤ 4) := Lib.hid (by
   rw [← hTd.out]
   intro x hx
   obtain ⟨i, y, hy, rfl⟩ := taskS_mem hx
   have hs := hok.out y hy
   have := optsS_four (spansS y.stream) hs.room0 hs.room1
   show (optsS y.room (spansS y.stream)).length ≤ 4
   omega)
  have hdrop : Hid (lawfulL T ≠ []) := Lib.hid (by
   intro e
   have h1 := drop_lawful hok.out (by rw [hTd.out]; exact hv.out)
   rw [hTd.out, bestOf_none hv.out e] at h1
   cases h1)
  go_wp2_with fail
  have hq := Lib.hid ((Ext.refl w3).alloc (.cells #[.slice ta sn tc] 28))
  refine (best_calls _ T _ (hT3.out.ext hq.out) (fun _ => hm.out)).mono ?_
  intro e w4 hb
  rcases best_out hv.out hb with ⟨h1, _, _⟩ | ⟨pv, cv, p, q, hbo, rfl, hx4, hp, hcert⟩
  ·exact absurd h1 hdrop.out
  have hlw : Hid (lawfulB T p = true) := Lib.hid (bestOf_spec hv.out hbo).1
  have hcalm : Hid (calmL S = decide (q = 0)) := Lib.hid (calm_harm hok.out (by rw [hTd.out]; exact hv.out) (by rw [hTd.out]; exact hbo))
  have hpl : Hid (p.length = sn) := Lib.hid ((lawful_len hlw.out).trans hTl.out)
  have hB4 : Hid (Blk w4 w3.heap.size 28 #[.slice ta sn tc]) := Lib.hid ((Keep.of_ext (X := fun _ => False) hx4).blk (blk_new' rfl rfl) id)
  have hq4 := Lib.hid (hq.out.trans hx4)
  obtain ⟨pa, pc, rfl⟩ := hp.form
  obtain ⟨cN, hcN⟩ : ∃ N, Hid ((growL T q T [] 0 0).nodes = N) := ⟨_, rfl⟩
  have hck : Hid (checkT T q cN = 0) := Lib.hid (by rw [← hcN.out]; exact cert_small hv.out hm.out hbo (Int.le_refl _))
  have hkd : Hid (∀ n ∈ cN, n.kids.length ≤ 65536) := Lib.hid (by
   rw [← hcN.out]
   exact fun n hn => by have := growL_kids T q 4 T ho4.out [] 0 0 n hn; omega)
  rw [hcN.out] at hcert
  obtain ⟨ca, cc, rfl⟩ := hcert.form
  rw [hpl.out] at hp ⊢
  have hP4 := Lib.hid hp
  have hN4 := Lib.hid hcert
  obtain ⟨cn, hcn⟩ : ∃ n, Hid (cN.length = n) := ⟨_, rfl⟩
  rw [hcn.out] at hN4 ⊢
  clear hb hbo hx4 hp hcert hcN hcn hq hdrop ho4
  go_upto_region 7 with (fail)
  refine wp_abs (S := fun W => Hid (Ext w4 W) ∧ Hid (Blk W w3.heap.size 28 #[.slice ta sn tc]) ∧ Hid (Blk W w4.heap.size 33 #[.slice pa sn pc, .int .i64 q])) ?_ ?_
  ·exact ⟨Lib.hid (by exact (by with_reducible repeat' (first | exact Ext.refl _ | assumption | refine Ext.drewN ?_ _ | refine Ext.drew ?_ | refine Ext.alloc ?_ _ | refine Ext.trans ?_ (by with_reducible assumption)))), Lib.hid (Blk.alloc hB4.out _), Lib.hid (blk_new' rfl rfl)⟩
  rintro w5 ⟨hx5, hB5, hPl5⟩
  obtain ⟨gt, hgt⟩ : ∃ g, Hid (w3.heap.size = g) := ⟨_, rfl⟩
  obtain ⟨gp, hgp⟩ : ∃ g, Hid (w4.heap.size = g) := ⟨_, rfl⟩
  rw [hgt.out] at hB5 ⊢
  rw [hgp.out] at hPl5 ⊢
  have hq5 := Lib.hid (hq4.out.trans hx5.out)
  have hP5 := Lib.hid (hP4.out.ext hx5.out)
  have hN5 := Lib.hid (hN4.out.ext hx5.out)
  have c0 : w5.cell? ⟨gt, 0, none⟩ = some (.slice ta sn tc) := hB5.out.cell 0
  have l0 := hB5.out.lt
  have c1 : w5.cell? ⟨gp, 0, none⟩ = some (.slice pa sn pc) := hPl5.out.cell 0
  have c2 : w5.cell? ⟨gp, 1, none⟩ = some (.int .i64 q) := hPl5.out.cell 1
  have l1 := hPl5.out.lt
  clear hB4 hq4 hx5 hP4 hN4 hgt hgp hB5 hPl5
  go_wp2_with fail
  refine (check_calls _ _ T q cN w5 (hT3.out.ext hq5.out) hN5.out hkd.out).mono ?_
  rw [hck.out]
  rintro e w6 ⟨rfl, hx6⟩
  replace c0 := hx6.cell c0
  replace c1 := hx6.cell c1
  replace c2 := hx6.cell c2
  replace l0 := Nat.lt_of_lt_of_le l0 hx6.size
  replace l1 := Nat.lt_of_lt_of_le l1 hx6.size
  have hq6 := Lib.hid (hq5.out.trans hx6)
  have hP6 := Lib.hid (hP5.out.ext hx6)
  clear hx6 hq5 hP5 hN5 hkd hck
  go_wp2_with fail
  refine (order_calls _ _ T p w6 (hT3.out.ext hq6.out) hP6.out).mono ?_
  rw [orderS_okS hlw.out]
  obtain ⟨ol, hol⟩ : ∃ ol, Hid (orderL T p = ol) := ⟨_, rfl⟩
  have hon0 : ol.length ≤ 1024 := by rw [← hol.out]; exact (stepsT_ok (order_steps hlw.out (by rw [hTl.out]; omega))).2.2
  have hR : Hid (statesS T ol = (trailTo T ol (ol.length + 1), 0)) := Lib.hid (by rw [← hol.out]; exact statesS_okZ hlw.out (by rw [hTl.out]; omega))
  rw [hol.out]
  rintro e w7 ⟨sv, rfl, hst, hx7⟩
  have hS7 := Lib.hid hst.read
  obtain ⟨oa, oc, rfl⟩ := hst.read.form
  obtain ⟨on, hon⟩ : ∃ n, Hid (ol.length = n) := ⟨_, rfl⟩
  have hon1 : on ≤ 1024 := by rw [← hon.out]; exact hon0
  rw [hon.out] at hS7 hR ⊢
  replace c0 := hx7.cell c0
  replace c1 := hx7.cell c1
  replace c2 := hx7.cell c2
  replace l0 := Nat.lt_of_lt_of_le l0 hx7.size
  replace l1 := Nat.lt_of_lt_of_le l1 hx7.size
  have hq7 := Lib.hid (hq6.out.trans hx7)
  clear hx7 hq6 hP6 hst hon0
  go_wp2_with fail
  refine (states_calls _ _ T ol w7 (hT3.out.ext hq7.out) hS7.out).mono ?_
  rw [hR.out]
  obtain ⟨ls, hls⟩ : ∃ ls, Hid (trailTo T ol (on + 1) = ls) := ⟨_, rfl⟩
  have hlsn : Hid (ls.length = on + 1) := Lib.hid (by rw [← hls.out, trailTo_len])
  have hlsr : Hid (∀ n r, ls[n]? = some r → n ≤ on ∧ r = stAt T ol n ∧ r.length = sn) := Lib.hid (fun n r hr => by
   have h2 := (List.getElem?_eq_some_iff.1 hr).1
   rw [hlsn.out] at h2
   rw [← hls.out, trail_atZ h2] at hr
   cases hr
   exact ⟨by omega, rfl, by rw [stAt_lenZ, hTl.out]⟩)
  rw [hls.out]
  rintro e w8 ⟨lv, rfl, hl8, hx8⟩
  dsimp only at hl8 ⊢
  obtain ⟨ra, rc, rfl, hrc1, hrc2, rat⟩ := hl8.open
  have rat' := Lib.hid rat
  rw [hlsn.out]
  replace c0 := hx8.cell c0
  replace c1 := hx8.cell c1
  replace c2 := hx8.cell c2
  replace l0 := Nat.lt_of_lt_of_le l0 hx8.size
  replace l1 := Nat.lt_of_lt_of_le l1 hx8.size
  have hq8 := Lib.hid (hq7.out.trans hx8)
  have hE8 := Lib.hid (hE3.out.trans hq8.out)
  have hT8 := Lib.hid (hT3.out.ext hq8.out)
  have sat1 : Hid (StandsAt sa w8 S) := Lib.hid (fun i hi W hW => sat2.out i hi W (hx3'.out.trans (hq8.out.trans hW)))
  obtain ⟨gr, og, e1, hrat⟩ := rat'.out.fix (by rw [hlsn.out]; omega)
  subst e1
  obtain ⟨gs, oz, e1, hsat⟩ := sat1.out.fix (by rw [hsn.out]; exact hp0)
  subst e1
  have rat' := Lib.hid hrat
  have sat' := Lib.hid hsat
  clear hx8 hl8 rat hrat hsat sat1 hrc1 hrc2 hq7 hS7 hR hls sat2 hE3 hT3 hx3' hq8 hSt hS4
  go_wp2_with fail
  go_loopw [14, 15, 16, 17, 18] (fun v14 _ _ _ _ wr => ∃ n : Nat, n ≤ on + 1 ∧ v14 = .int .i64 n ∧ Hid (Ext w8 wr)) (fun v14 _ _ _ _ _ => on + 1 - (intOf v14).toNat)
  case atStart => exact ⟨0, by omega, rfl, Lib.hid (Ext.refl _)⟩
  case round =>
   obtain ⟨n, hn, rfl, hxn⟩ := hrel
   rename World => wn
   by_cases h1 : n < on + 1
   ·obtain ⟨r, ra', rc', hb0, er, g0, ir⟩ := rat'.out n (by rw [hlsn.out]; exact h1) wn hxn.out
    obtain ⟨hn1, hr0, hrl0⟩ := hlsr.out n r er.out
    have hr := Lib.hid hr0
    have hrl := Lib.hid hrl0
    obtain ⟨gi, oi, e1, iat⟩ := ir.fix (by rw [hrl0]; exact hp0)
    subst e1
    have iat' := Lib.hid iat
    have dn : decide ((n : Int) < (on : Int) + 1) = true := decide_eq_true (by omega)
    rw [hrl.out] at g0
    clear ir iat hr0 hrl0 er
    go_wp2_with fail
    go_loopw [15, 16, 17, 18] (fun v15 _ _ _ wr => ∃ i : Nat, i ≤ sn ∧ v15 = .int .i64 i ∧ Hid (Ext wn wr)) (fun v15 _ _ _ _ => sn - (intOf v15).toNat)
    case atStart => exact ⟨0, by omega, rfl, Lib.hid (Ext.refl _)⟩
    case round =>
     obtain ⟨i, hi, rfl, hxi⟩ := hrel
     rename World => wi
     by_cases h2 : i < sn
     ·go_wp2_with fail
      go_loopw [16, 17, 18] (fun v16 _ _ wr => ∃ k : Nat, k ≤ i ∧ v16 = .int .i64 k ∧ Hid (Ext wi wr)) (fun v16 _ _ _ => i - (intOf v16).toNat)
      case atStart => exact ⟨0, by omega, rfl, Lib.hid (Ext.refl _)⟩
      case round =>
       obtain ⟨k, hk, rfl, hxb⟩ := hrel
       rename World => wb
       by_cases h3 : k < i
       ·have hxbn := Lib.hid (hxi.out.trans hxb.out)
        obtain ⟨a, hgi, ea, ga⟩ := iat'.out i (by rw [hrl.out]; exact h2) wb hxbn.out
        obtain ⟨b, _, eb, gb⟩ := iat'.out k (by rw [hrl.out]; omega) wb hxbn.out
        have z0 := After.cell (hxbn.out.cell g0)
        have z1 := After.cell ga
        have z2 := After.cell gb
        clear ga gb
        go_wp2_with fail
        refine wp_region_after (by kernel_rfl) (by kernel_rfl) ?_
        repeat (go_big_quiet_step (fail))
        refine wpQuiet_nil ?_
        rintro _ ⟨y0, rfl⟩
        have hxc := Lib.hid (hxb.out.trans y0.ext)
        generalize y0.world = wc at hxc ⊢
        clear z0 z1 z2 hxb hxbn
        have hxc8 := Lib.hid (hxn.out.trans (hxi.out.trans hxc.out))
        obtain ⟨x, xca, xn1, xcc, xn3, xea, xn2, xec, xe, xlt, xg1, xg4, xg5, xg6, xsv⟩ := sat'.out i (by rw [hsn.out]; omega) wc hxc8.out
        have xv := Lib.hid xsv
        have xs := Lib.hid (hok.out x (List.mem_of_getElem? xe.out)).stream
        have xz4 := After.cell xg4
        have xz5 := After.cell xg5
        have xz6 := After.cell xg6
        clear xsv xg4 xg5 xg6 xlt
        obtain ⟨y, yca, yn1, ycc, yn3, yea, yn2, yec, ye, ylt, yg1, yg4, yg5, yg6, ysv⟩ := sat'.out k (by rw [hsn.out]; omega) wc hxc8.out
        have yv := Lib.hid ysv
        have ys := Lib.hid (hok.out y (List.mem_of_getElem? ye.out)).stream
        have yz4 := After.cell yg4
        have yz5 := After.cell yg5
        have yz6 := After.cell yg6
        clear ysv yg4 yg5 yg6 ylt
        have z3 := After.cell (hxc8.out.cell c0)
        clear xg1 yg1
        by_cases qa : a < 0
        ·have da : decide (a < 0) = true := decide_eq_true qa
         have hy := hxc
         clear z3 xz4 xz5 xz6 yz4 yz5 yz6 ea eb xe ye
         go_wp2
         first
         | (refine ⟨⟨k + 1, by omega, by go_num, hy⟩, ?_⟩; simp [intOf]; omega)
         | (refine ⟨?_, ?_⟩
            · ((repeat apply Exists.intro); refine ⟨?_, rfl⟩; exact ⟨k + 1, by omega, by go_num, hy⟩)
            · simp [intOf]; omega)
        ·have da : decide (a < 0) = false := decide_eq_false qa
         by_cases qb : b < 0
         ·have db : decide (b < 0) = true := decide_eq_true qb
          have hy := hxc
          clear z3 xz4 xz5 xz6 yz4 yz5 yz6 ea eb xe ye
          go_wp2
          first
          | (refine ⟨⟨k + 1, by omega, by go_num, hy⟩, ?_⟩; simp [intOf]; omega)
          | (refine ⟨?_, ?_⟩
             · ((repeat apply Exists.intro); refine ⟨?_, rfl⟩; exact ⟨k + 1, by omega, by go_num, hy⟩)
             · simp [intOf]; omega)
         ·have db : decide (b < 0) = false := decide_eq_false qb
          by_cases ra0 : a = 0
          ·have dra : (a == 0) = true := by rw [beq_iff_eq]; exact ra0
           by_cases rb0 : b = 0
           ·have drb : (b == 0) = true := by rw [beq_iff_eq]; exact rb0
            by_cases rn : n < on
            ·have drn : decide ((n : Int) < (on : Int)) = true := decide_eq_true (by omega)
             clear ra0 rb0
             have hy := hxc
             clear z3 xz4 xz5 xz6 yz4 yz5 yz6 ea eb xe ye
             go_wp2
             first
             | (refine ⟨⟨k + 1, by omega, by go_num, hy⟩, ?_⟩; simp [intOf]; omega)
             | (refine ⟨?_, ?_⟩
                · ((repeat apply Exists.intro); refine ⟨?_, rfl⟩; exact ⟨k + 1, by omega, by go_num, hy⟩)
                · simp [intOf]; omega)
            ·have drn : decide ((n : Int) < (on : Int)) = false := decide_eq_false (by omega)
             have hz : Hid (¬ (a = 0 ∧ b = 0 ∧ n < ol.length)) := Lib.hid (by rw [hon.out]; exact fun h => rn h.2.2)
             clear ra0 rb0
             obtain ⟨A, hA⟩ : ∃ A : Nat, Hid (a = (A : Int)) := ⟨a.toNat, Lib.hid (by omega)⟩
             obtain ⟨B, hB⟩ : ∃ B : Nat, Hid (b = (B : Int)) := ⟨b.toNat, Lib.hid (by omega)⟩
             have hW0 : Hid (0 ≤ placeT T i A → placeT T i A = placeT T k B → collB x.stream y.stream = false) := Lib.hid (way_at hok.out hTd.out hv.out hlw.out hol.out hr.out (by rw [hon.out]; exact hn1) xe.out ye.out h3 ea.out eb.out hA.out hB.out hz.out)
             obtain ⟨pa0, hpa⟩ : ∃ q, Hid (placeT T i A = q) := ⟨_, rfl⟩
             obtain ⟨pb0, hpb⟩ : ∃ q, Hid (placeT T k B = q) := ⟨_, rfl⟩
             obtain ⟨cb, hcb⟩ : ∃ q, Hid (collB x.stream y.stream = q) := ⟨_, rfl⟩
             rw [hpa.out, hpb.out, hcb.out] at hW0
             have hP1 : Hid (∀ X, Ext wc X → Calls Tryz.prog 11 #[.agg #[.slice ta sn tc], .int .i64 i, .int .i64 a] X fun e w' => e = .returned (.int .i64 pa0) ∧ Ext X w') := Lib.hid (fun X hX => by
              have := place35_calls (.slice ta sn tc) T i A X (hT8.out.ext (hxc8.out.trans hX)) (by rw [hTl.out]; omega)
              rwa [hpa.out, ← hA.out] at this)
             have hP2 : Hid (∀ X, Ext wc X → Calls Tryz.prog 11 #[.agg #[.slice ta sn tc], .int .i64 k, .int .i64 b] X fun e w' => e = .returned (.int .i64 pb0) ∧ Ext X w') := Lib.hid (fun X hX => by
              have := place35_calls (.slice ta sn tc) T k B X (hT8.out.ext (hxc8.out.trans hX)) (by rw [hTl.out]; omega)
              rwa [hpb.out, ← hB.out] at this)
             have hC : Hid (∀ X, Ext wc X → Calls Tryz.prog 12 #[.agg #[.slice xca xn1 xcc, .int .i64 xn3, .slice xea xn2 xec], .agg #[.slice yca yn1 ycc, .int .i64 yn3, .slice yea yn2 yec]] X fun e w' => e = .returned (.bool cb) ∧ Ext X w') := Lib.hid (fun X hX => by
              have := collide35_calls _ _ x.stream y.stream X (xv.out.ext hX) (yv.out.ext hX) xs.out ys.out
              rwa [hcb.out] at this)
             clear hA hB hpa hpb hcb hz ea eb xe ye
             by_cases q1 : 0 ≤ pa0
             ·have d1 : decide (0 ≤ pa0) = true := decide_eq_true q1
              by_cases q2 : pa0 = pb0
              ·have d2 : (pa0 == pb0) = true := by rw [beq_iff_eq]; exact q2
               obtain rfl : cb = false := hW0.out q1 q2
               clear q1 q2 hW0
               go_wp2_with fail
               refine wp_region_after (by kernel_rfl) (by kernel_rfl) ?_
               repeat (go_big_quiet_step (first | (with_reducible exact After.call _ (hP1.out _ (After.ext _))) | (with_reducible exact After.call _ (hP2.out _ (After.ext _))) | (with_reducible exact After.call _ (hC.out _ (After.ext _)))))
               refine wpQuiet_nil ?_
               rintro _ ⟨y9, rfl⟩
               have hy := Lib.hid (hxc.out.trans y9.ext)
               generalize y9.world = Y at hy ⊢
               clear hP1 hP2 hC z3 xz4 xz5 xz6 yz4 yz5 yz6
               go_wp2
               first
               | (refine ⟨⟨k + 1, by omega, by go_num, hy⟩, ?_⟩; simp [intOf]; omega)
               | (refine ⟨?_, ?_⟩
                  · ((repeat apply Exists.intro); refine ⟨?_, rfl⟩; exact ⟨k + 1, by omega, by go_num, hy⟩)
                  · simp [intOf]; omega)
              ·have d2 : (pa0 == pb0) = false := by rw [beq_eq_false_iff_ne]; exact q2
               clear q1 q2 hW0
               go_wp2_with fail
               refine wp_region_after (by kernel_rfl) (by kernel_rfl) ?_
               repeat (go_big_quiet_step (first | (with_reducible exact After.call _ (hP1.out _ (After.ext _))) | (with_reducible exact After.call _ (hP2.out _ (After.ext _))) | (with_reducible exact After.call _ (hC.out _ (After.ext _)))))
               refine wpQuiet_nil ?_
               rintro _ ⟨y9, rfl⟩
               have hy := Lib.hid (hxc.out.trans y9.ext)
               generalize y9.world = Y at hy ⊢
               clear hP1 hP2 hC z3 xz4 xz5 xz6 yz4 yz5 yz6
               go_wp2
               first
               | (refine ⟨⟨k + 1, by omega, by go_num, hy⟩, ?_⟩; simp [intOf]; omega)
               | (refine ⟨?_, ?_⟩
                  · ((repeat apply Exists.intro); refine ⟨?_, rfl⟩; exact ⟨k + 1, by omega, by go_num, hy⟩)
                  · simp [intOf]; omega)
             ·have d1 : decide (0 ≤ pa0) = false := decide_eq_false q1
              clear q1 hW0
              go_wp2_with fail
              refine wp_region_after (by kernel_rfl) (by kernel_rfl) ?_
              repeat (go_big_quiet_step (first | (with_reducible exact After.call _ (hP1.out _ (After.ext _))) | (with_reducible exact After.call _ (hP2.out _ (After.ext _))) | (with_reducible exact After.call _ (hC.out _ (After.ext _)))))
              refine wpQuiet_nil ?_
              rintro _ ⟨y9, rfl⟩
              have hy := Lib.hid (hxc.out.trans y9.ext)
              generalize y9.world = Y at hy ⊢
              clear hP1 hP2 hC z3 xz4 xz5 xz6 yz4 yz5 yz6
              go_wp2
              first
              | (refine ⟨⟨k + 1, by omega, by go_num, hy⟩, ?_⟩; simp [intOf]; omega)
              | (refine ⟨?_, ?_⟩
                 · ((repeat apply Exists.intro); refine ⟨?_, rfl⟩; exact ⟨k + 1, by omega, by go_num, hy⟩)
                 · simp [intOf]; omega)
           ·have drb : (b == 0) = false := by rw [beq_eq_false_iff_ne]; exact rb0
            have hz : Hid (¬ (a = 0 ∧ b = 0 ∧ n < ol.length)) := Lib.hid (fun h => rb0 h.2.1)
            clear ra0 rb0
            obtain ⟨A, hA⟩ : ∃ A : Nat, Hid (a = (A : Int)) := ⟨a.toNat, Lib.hid (by omega)⟩
            obtain ⟨B, hB⟩ : ∃ B : Nat, Hid (b = (B : Int)) := ⟨b.toNat, Lib.hid (by omega)⟩
            have hW0 : Hid (0 ≤ placeT T i A → placeT T i A = placeT T k B → collB x.stream y.stream = false) := Lib.hid (way_at hok.out hTd.out hv.out hlw.out hol.out hr.out (by rw [hon.out]; exact hn1) xe.out ye.out h3 ea.out eb.out hA.out hB.out hz.out)
            obtain ⟨pa0, hpa⟩ : ∃ q, Hid (placeT T i A = q) := ⟨_, rfl⟩
            obtain ⟨pb0, hpb⟩ : ∃ q, Hid (placeT T k B = q) := ⟨_, rfl⟩
            obtain ⟨cb, hcb⟩ : ∃ q, Hid (collB x.stream y.stream = q) := ⟨_, rfl⟩
            rw [hpa.out, hpb.out, hcb.out] at hW0
            have hP1 : Hid (∀ X, Ext wc X → Calls Tryz.prog 11 #[.agg #[.slice ta sn tc], .int .i64 i, .int .i64 a] X fun e w' => e = .returned (.int .i64 pa0) ∧ Ext X w') := Lib.hid (fun X hX => by
             have := place35_calls (.slice ta sn tc) T i A X (hT8.out.ext (hxc8.out.trans hX)) (by rw [hTl.out]; omega)
             rwa [hpa.out, ← hA.out] at this)
            have hP2 : Hid (∀ X, Ext wc X → Calls Tryz.prog 11 #[.agg #[.slice ta sn tc], .int .i64 k, .int .i64 b] X fun e w' => e = .returned (.int .i64 pb0) ∧ Ext X w') := Lib.hid (fun X hX => by
             have := place35_calls (.slice ta sn tc) T k B X (hT8.out.ext (hxc8.out.trans hX)) (by rw [hTl.out]; omega)
             rwa [hpb.out, ← hB.out] at this)
            have hC : Hid (∀ X, Ext wc X → Calls Tryz.prog 12 #[.agg #[.slice xca xn1 xcc, .int .i64 xn3, .slice xea xn2 xec], .agg #[.slice yca yn1 ycc, .int .i64 yn3, .slice yea yn2 yec]] X fun e w' => e = .returned (.bool cb) ∧ Ext X w') := Lib.hid (fun X hX => by
             have := collide35_calls _ _ x.stream y.stream X (xv.out.ext hX) (yv.out.ext hX) xs.out ys.out
             rwa [hcb.out] at this)
            clear hA hB hpa hpb hcb hz ea eb xe ye
            by_cases q1 : 0 ≤ pa0
            ·have d1 : decide (0 ≤ pa0) = true := decide_eq_true q1
             by_cases q2 : pa0 = pb0
             ·have d2 : (pa0 == pb0) = true := by rw [beq_iff_eq]; exact q2
              obtain rfl : cb = false := hW0.out q1 q2
              clear q1 q2 hW0
              go_wp2_with fail
              refine wp_region_after (by kernel_rfl) (by kernel_rfl) ?_
              repeat (go_big_quiet_step (first | (with_reducible exact After.call _ (hP1.out _ (After.ext _))) | (with_reducible exact After.call _ (hP2.out _ (After.ext _))) | (with_reducible exact After.call _ (hC.out _ (After.ext _)))))
              refine wpQuiet_nil ?_
              rintro _ ⟨y9, rfl⟩
              have hy := Lib.hid (hxc.out.trans y9.ext)
              generalize y9.world = Y at hy ⊢
              clear hP1 hP2 hC z3 xz4 xz5 xz6 yz4 yz5 yz6
              go_wp2
              first
              | (refine ⟨⟨k + 1, by omega, by go_num, hy⟩, ?_⟩; simp [intOf]; omega)
              | (refine ⟨?_, ?_⟩
                 · ((repeat apply Exists.intro); refine ⟨?_, rfl⟩; exact ⟨k + 1, by omega, by go_num, hy⟩)
                 · simp [intOf]; omega)
             ·have d2 : (pa0 == pb0) = false := by rw [beq_eq_false_iff_ne]; exact q2
              clear q1 q2 hW0
              go_wp2_with fail
              refine wp_region_after (by kernel_rfl) (by kernel_rfl) ?_
              repeat (go_big_quiet_step (first | (with_reducible exact After.call _ (hP1.out _ (After.ext _))) | (with_reducible exact After.call _ (hP2.out _ (After.ext _))) | (with_reducible exact After.call _ (hC.out _ (After.ext _)))))
              refine wpQuiet_nil ?_
              rintro _ ⟨y9, rfl⟩
              have hy := Lib.hid (hxc.out.trans y9.ext)
              generalize y9.world = Y at hy ⊢
              clear hP1 hP2 hC z3 xz4 xz5 xz6 yz4 yz5 yz6
              go_wp2
              first
              | (refine ⟨⟨k + 1, by omega, by go_num, hy⟩, ?_⟩; simp [intOf]; omega)
              | (refine ⟨?_, ?_⟩
                 · ((repeat apply Exists.intro); refine ⟨?_, rfl⟩; exact ⟨k + 1, by omega, by go_num, hy⟩)
                 · simp [intOf]; omega)
            ·have d1 : decide (0 ≤ pa0) = false := decide_eq_false q1
             clear q1 hW0
             go_wp2_with fail
             refine wp_region_after (by kernel_rfl) (by kernel_rfl) ?_
             repeat (go_big_quiet_step (first | (with_reducible exact After.call _ (hP1.out _ (After.ext _))) | (with_reducible exact After.call _ (hP2.out _ (After.ext _))) | (with_reducible exact After.call _ (hC.out _ (After.ext _)))))
             refine wpQuiet_nil ?_
             rintro _ ⟨y9, rfl⟩
             have hy := Lib.hid (hxc.out.trans y9.ext)
             generalize y9.world = Y at hy ⊢
             clear hP1 hP2 hC z3 xz4 xz5 xz6 yz4 yz5 yz6
             go_wp2
             first
             | (refine ⟨⟨k + 1, by omega, by go_num, hy⟩, ?_⟩; simp [intOf]; omega)
             | (refine ⟨?_, ?_⟩
                · ((repeat apply Exists.intro); refine ⟨?_, rfl⟩; exact ⟨k + 1, by omega, by go_num, hy⟩)
                · simp [intOf]; omega)
          ·have dra : (a == 0) = false := by rw [beq_eq_false_iff_ne]; exact ra0
           have hz : Hid (¬ (a = 0 ∧ b = 0 ∧ n < ol.length)) := Lib.hid (fun h => ra0 h.1)
           clear ra0
           obtain ⟨A, hA⟩ : ∃ A : Nat, Hid (a = (A : Int)) := ⟨a.toNat, Lib.hid (by omega)⟩
           obtain ⟨B, hB⟩ : ∃ B : Nat, Hid (b = (B : Int)) := ⟨b.toNat, Lib.hid (by omega)⟩
           have hW0 : Hid (0 ≤ placeT T i A → placeT T i A = placeT T k B → collB x.stream y.stream = false) := Lib.hid (way_at hok.out hTd.out hv.out hlw.out hol.out hr.out (by rw [hon.out]; exact hn1) xe.out ye.out h3 ea.out eb.out hA.out hB.out hz.out)
           obtain ⟨pa0, hpa⟩ : ∃ q, Hid (placeT T i A = q) := ⟨_, rfl⟩
           obtain ⟨pb0, hpb⟩ : ∃ q, Hid (placeT T k B = q) := ⟨_, rfl⟩
           obtain ⟨cb, hcb⟩ : ∃ q, Hid (collB x.stream y.stream = q) := ⟨_, rfl⟩
           rw [hpa.out, hpb.out, hcb.out] at hW0
           have hP1 : Hid (∀ X, Ext wc X → Calls Tryz.prog 11 #[.agg #[.slice ta sn tc], .int .i64 i, .int .i64 a] X fun e w' => e = .returned (.int .i64 pa0) ∧ Ext X w') := Lib.hid (fun X hX => by
            have := place35_calls (.slice ta sn tc) T i A X (hT8.out.ext (hxc8.out.trans hX)) (by rw [hTl.out]; omega)
            rwa [hpa.out, ← hA.out] at this)
           have hP2 : Hid (∀ X, Ext wc X → Calls Tryz.prog 11 #[.agg #[.slice ta sn tc], .int .i64 k, .int .i64 b] X fun e w' => e = .returned (.int .i64 pb0) ∧ Ext X w') := Lib.hid (fun X hX => by
            have := place35_calls (.slice ta sn tc) T k B X (hT8.out.ext (hxc8.out.trans hX)) (by rw [hTl.out]; omega)
            rwa [hpb.out, ← hB.out] at this)
           have hC : Hid (∀ X, Ext wc X → Calls Tryz.prog 12 #[.agg #[.slice xca xn1 xcc, .int .i64 xn3, .slice xea xn2 xec], .agg #[.slice yca yn1 ycc, .int .i64 yn3, .slice yea yn2 yec]] X fun e w' => e = .returned (.bool cb) ∧ Ext X w') := Lib.hid (fun X hX => by
            have := collide35_calls _ _ x.stream y.stream X (xv.out.ext hX) (yv.out.ext hX) xs.out ys.out
            rwa [hcb.out] at this)
           clear hA hB hpa hpb hcb hz ea eb xe ye
           by_cases q1 : 0 ≤ pa0
           ·have d1 : decide (0 ≤ pa0) = true := decide_eq_true q1
            by_cases q2 : pa0 = pb0
            ·have d2 : (pa0 == pb0) = true := by rw [beq_iff_eq]; exact q2
             obtain rfl : cb = false := hW0.out q1 q2
             clear q1 q2 hW0
             go_wp2_with fail
             refine wp_region_after (by kernel_rfl) (by kernel_rfl) ?_
             repeat (go_big_quiet_step (first | (with_reducible exact After.call _ (hP1.out _ (After.ext _))) | (with_reducible exact After.call _ (hP2.out _ (After.ext _))) | (with_reducible exact After.call _ (hC.out _ (After.ext _)))))
             refine wpQuiet_nil ?_
             rintro _ ⟨y9, rfl⟩
             have hy := Lib.hid (hxc.out.trans y9.ext)
             generalize y9.world = Y at hy ⊢
             clear hP1 hP2 hC z3 xz4 xz5 xz6 yz4 yz5 yz6
             go_wp2
             first
             | (refine ⟨⟨k + 1, by omega, by go_num, hy⟩, ?_⟩; simp [intOf]; omega)
             | (refine ⟨?_, ?_⟩
                · ((repeat apply Exists.intro); refine ⟨?_, rfl⟩; exact ⟨k + 1, by omega, by go_num, hy⟩)
                · simp [intOf]; omega)
            ·have d2 : (pa0 == pb0) = false := by rw [beq_eq_false_iff_ne]; exact q2
             clear q1 q2 hW0
             go_wp2_with fail
             refine wp_region_after (by kernel_rfl) (by kernel_rfl) ?_
             repeat (go_big_quiet_step (first | (with_reducible exact After.call _ (hP1.out _ (After.ext _))) | (with_reducible exact After.call _ (hP2.out _ (After.ext _))) | (with_reducible exact After.call _ (hC.out _ (After.ext _)))))
             refine wpQuiet_nil ?_
             rintro _ ⟨y9, rfl⟩
             have hy := Lib.hid (hxc.out.trans y9.ext)
             generalize y9.world = Y at hy ⊢
             clear hP1 hP2 hC z3 xz4 xz5 xz6 yz4 yz5 yz6
             go_wp2
             first
             | (refine ⟨⟨k + 1, by omega, by go_num, hy⟩, ?_⟩; simp [intOf]; omega)
             | (refine ⟨?_, ?_⟩
                · ((repeat apply Exists.intro); refine ⟨?_, rfl⟩; exact ⟨k + 1, by omega, by go_num, hy⟩)
                · simp [intOf]; omega)
           ·have d1 : decide (0 ≤ pa0) = false := decide_eq_false q1
            clear q1 hW0
            go_wp2_with fail
            refine wp_region_after (by kernel_rfl) (by kernel_rfl) ?_
            repeat (go_big_quiet_step (first | (with_reducible exact After.call _ (hP1.out _ (After.ext _))) | (with_reducible exact After.call _ (hP2.out _ (After.ext _))) | (with_reducible exact After.call _ (hC.out _ (After.ext _)))))
            refine wpQuiet_nil ?_
            rintro _ ⟨y9, rfl⟩
            have hy := Lib.hid (hxc.out.trans y9.ext)
            generalize y9.world = Y at hy ⊢
            clear hP1 hP2 hC z3 xz4 xz5 xz6 yz4 yz5 yz6
            go_wp2
            first
            | (refine ⟨⟨k + 1, by omega, by go_num, hy⟩, ?_⟩; simp [intOf]; omega)
            | (refine ⟨?_, ?_⟩
               · ((repeat apply Exists.intro); refine ⟨?_, rfl⟩; exact ⟨k + 1, by omega, by go_num, hy⟩)
               · simp [intOf]; omega)
       ·go_wp2
        go_roundw
        case rel => exact ⟨i + 1, by omega, by go_num, Lib.hid (hxi.out.trans hxb.out)⟩
        case measure => simp [intOf]; omega
     ·go_wp2
      go_roundw
      case rel => exact ⟨n + 1, by omega, by go_num, Lib.hid (hxn.out.trans hxi.out)⟩
      case measure => simp [intOf]; omega
   ·obtain rfl : n = on + 1 := by omega
    go_wp2_with fail
    go_loopw [19, 20, 21] (fun v19 v20 _ wr => ∃ (i : Nat) (c : Bool), i ≤ sn ∧ v20 = .int .i64 i ∧ v19 = .bool c ∧ Hid (Ext w8 wr) ∧ Hid (calmUp S i = c)) (fun _ v20 _ _ => sn - (intOf v20).toNat)
    case atStart => exact ⟨0, true, by omega, rfl, rfl, hxn, Lib.hid rfl⟩
    case round =>
     clear hxn
     obtain ⟨i, c, hi, rfl, rfl, hxi, hc⟩ := hrel
     rename World => wi
     by_cases h2 : i < sn
     ·go_wp2_with fail
      go_loopw [19, 21] (fun v19 v21 wr => ∃ (k : Nat) (c : Bool), k ≤ i ∧ v21 = .int .i64 k ∧ v19 = .bool c ∧ Hid (Ext w8 wr) ∧ Hid ((calmUp S i && calmRow S i k) = c)) (fun _ v21 _ => i - (intOf v21).toNat)
      case atStart => exact ⟨0, c, by omega, rfl, rfl, hxi, Lib.hid (by rw [hc.out]; simp [calmRow])⟩
      case round =>
       clear hc hxi
       obtain ⟨k, d, hk, rfl, rfl, hxb, hd⟩ := hrel
       rename World => wb
       by_cases h3 : k < i
       ·skip
        obtain ⟨x, xca, xn1, xcc, xn3, xea, xn2, xec, xe, xlt, xg1, xg4, xg5, xg6, xsv⟩ := sat'.out i (by rw [hsn.out]; omega) wb hxb.out
        have xv := Lib.hid xsv
        have xs := Lib.hid (hok.out x (List.mem_of_getElem? xe.out)).stream
        have xz4 := After.cell xg4
        have xz5 := After.cell xg5
        have xz6 := After.cell xg6
        clear xsv xg4 xg5 xg6 xlt
        obtain ⟨y, yca, yn1, ycc, yn3, yea, yn2, yec, ye, ylt, yg1, yg4, yg5, yg6, ysv⟩ := sat'.out k (by rw [hsn.out]; omega) wb hxb.out
        have yv := Lib.hid ysv
        have ys := Lib.hid (hok.out y (List.mem_of_getElem? ye.out)).stream
        have yz4 := After.cell yg4
        have yz5 := After.cell yg5
        have yz6 := After.cell yg6
        clear ysv yg4 yg5 yg6 ylt
        have hnx : Hid ((calmUp S i && calmRow S i (k + 1)) = (d && !(decide (x.room = y.room) && collB x.stream y.stream))) := Lib.hid (by rw [calmRow_step, ← Bool.and_assoc, hd.out, calmAt_is xe.out ye.out])
        obtain ⟨cb, hcb⟩ : ∃ q, Hid (collB x.stream y.stream = q) := ⟨_, rfl⟩
        have hC : Hid (∀ X, Ext wb X → Calls Tryz.prog 12 #[.agg #[.slice xca xn1 xcc, .int .i64 xn3, .slice xea xn2 xec], .agg #[.slice yca yn1 ycc, .int .i64 yn3, .slice yea yn2 yec]] X fun e w' => e = .returned (.bool cb) ∧ Ext X w') := Lib.hid (fun X hX => by
         have := collide35_calls _ _ x.stream y.stream X (xv.out.ext hX) (yv.out.ext hX) xs.out ys.out
         rwa [hcb.out] at this)
        obtain ⟨xr, hxr⟩ : ∃ q, Hid (x.room = q) := ⟨_, rfl⟩
        obtain ⟨yr, hyr⟩ : ∃ q, Hid (y.room = q) := ⟨_, rfl⟩
        rw [hxr.out] at xg1
        rw [hyr.out] at yg1
        rw [hxr.out, hyr.out, hcb.out] at hnx
        have xz1 := After.cell xg1
        have yz1 := After.cell yg1
        clear xg1 yg1 hxr hyr hcb hd xe ye
        cases d with
        | false =>
         have hN : Hid ((calmUp S i && calmRow S i (k + 1)) = false) := Lib.hid (by rw [hnx.out]; rfl)
         clear hnx
         go_wp2_with fail
         refine wp_region_after (by kernel_rfl) (by kernel_rfl) ?_
         repeat (go_big_quiet_step (with_reducible exact After.call _ (hC.out _ (After.ext _))))
         refine wpQuiet_nil ?_
         rintro _ ⟨y9, rfl⟩
         have hy := Lib.hid (hxb.out.trans y9.ext)
         generalize y9.world = Y at hy ⊢
         clear hC xz1 yz1 xz4 xz5 xz6 yz4 yz5 yz6
         go_wp2
         go_roundw
         case rel => exact ⟨k + 1, false, by omega, by go_num, rfl, hy, hN⟩
         case measure => simp [intOf]; omega
        | true =>
         by_cases q1 : xr = yr
         ·have d1 : (xr != yr) = false := by simp [q1]
          have hN : Hid ((calmUp S i && calmRow S i (k + 1)) = !cb) := Lib.hid (by rw [hnx.out, decide_eq_true q1]; rfl)
          clear hnx q1
          go_wp2_with fail
          refine wp_region_after (by kernel_rfl) (by kernel_rfl) ?_
          repeat (go_big_quiet_step (with_reducible exact After.call _ (hC.out _ (After.ext _))))
          refine wpQuiet_nil ?_
          rintro _ ⟨y9, rfl⟩
          have hy := Lib.hid (hxb.out.trans y9.ext)
          generalize y9.world = Y at hy ⊢
          clear hC xz1 yz1 xz4 xz5 xz6 yz4 yz5 yz6
          go_wp2
          go_roundw
          case rel => exact ⟨k + 1, !cb, by omega, by go_num, rfl, hy, hN⟩
          case measure => simp [intOf]; omega
         ·have d1 : (xr != yr) = true := by simp [q1]
          have hN : Hid ((calmUp S i && calmRow S i (k + 1)) = true) := Lib.hid (by rw [hnx.out, decide_eq_false q1]; rfl)
          clear hnx q1
          go_wp2_with fail
          refine wp_region_after (by kernel_rfl) (by kernel_rfl) ?_
          repeat (go_big_quiet_step (with_reducible exact After.call _ (hC.out _ (After.ext _))))
          refine wpQuiet_nil ?_
          rintro _ ⟨y9, rfl⟩
          have hy := Lib.hid (hxb.out.trans y9.ext)
          generalize y9.world = Y at hy ⊢
          clear hC xz1 yz1 xz4 xz5 xz6 yz4 yz5 yz6
          go_wp2
          go_roundw
          case rel => exact ⟨k + 1, true, by omega, by go_num, rfl, hy, hN⟩
          case measure => simp [intOf]; omega
       ·obtain rfl : k = i := by omega
        have hN : Hid (calmUp S (k + 1) = d) := Lib.hid (by rw [calmUp_step, hd.out])
        clear hd
        go_wp2
        go_roundw
        case rel => exact ⟨k + 1, d, by omega, by go_num, rfl, hxb, hN⟩
        case measure => simp [intOf]; omega
     ·obtain rfl : i = sn := by omega
      have hcq : c = decide (q = 0) := by rw [← hc.out, ← hcalm.out, ← hsn.out, calmUp_all]
      have cq := hxi.out.cell c2
      have hEf := Lib.hid (hE8.out.trans hxi.out)
      by_cases q0 : q = 0
      ·have dq : (q == 0) = true := by rw [beq_iff_eq]; exact q0
       obtain rfl : c = true := by rw [hcq]; exact decide_eq_true q0
       clear hc hcq q0
       go_wp2
       go_ret
       exact ⟨rfl, hEf.out.trans (by exact (by with_reducible repeat' (first | exact Ext.refl _ | assumption | refine Ext.drewN ?_ _ | refine Ext.drew ?_ | refine Ext.alloc ?_ _ | refine Ext.trans ?_ (by with_reducible assumption))))⟩
      ·have dq : (q == 0) = false := by rw [beq_eq_false_iff_ne]; exact q0
       obtain rfl : c = false := by rw [hcq]; exact decide_eq_false q0
       clear hc hcq q0
       go_wp2
       go_ret
       exact ⟨rfl, hEf.out.trans (by exact (by with_reducible repeat' (first | exact Ext.refl _ | assumption | refine Ext.drewN ?_ _ | refine Ext.drew ?_ | refine Ext.alloc ?_ _ | refine Ext.trans ?_ (by with_reducible assumption))))⟩
end Go.Proofs.YtepcdhpikpmepaaGreat
