/- Walks of the reference of plans: right. -/
import Derived.Test.YtonmlmkemliefaaSE
import Derived.Test.YtonmlmkemliefaaRS
import Derived.Test.YtonmlmkemliefaaHE
import Derived.Deep.Cut
namespace Go.Proofs.Ytonmlmkemliefaa
open Go.RowKit

theorem sumD_step {t : List WishD} {dec : List Int} {i : Nat} {x : WishD} {d : Int} (h : t.drop i = x :: t.drop (i + 1)) (h' : dec.drop i = d :: dec.drop (i + 1)) :
    sumD (t.drop i) (dec.drop i) = (if d < 0 then leastB x else harmK x d) + sumD (t.drop (i + 1)) (dec.drop (i + 1)) := by rw [h, h', sumD]
theorem leastB_bd {x : WishD} (h : ∀ o ∈ x.opts, 0 ≤ o.harm) : 0 ≤ leastB x ∧ leastB x ≤ 1000000 := by
  have := leastSum_bd [x] (by intro y hy; simp at hy; subst hy; exact h)
  have e : leastSum [x] = leastB x := by simp [leastSum]
  rw [e] at this
  exact ⟨this.1, by have := this.2; simpa using this⟩
def PathCon (B : Nat) (t : List WishD) (c : List NodeD) (a : Nat) (k : Nat) (v : Value) (W : World) : Prop := k = 7 → IntsO W B v (pathP t.length c a)
set_option maxHeartbeats 6400000 in
set_option maxRecDepth 100000 in
theorem rRight_calls (tv cv : Value) (t : List WishD) (bound : Int) (c : List NodeD) (a : Nat) (w : World) (h : Wishes w tv t) (hc : Nodes w cv c) (hv : validT t = 0) (ho : ∀ x ∈ t, 0 < x.opts.length) (ha : a < c.length) (hl : c.length ≤ 65536)
    (hk : ∀ n ∈ c, n.kids.length ≤ 65536) (hd : DecOk t (pathP t.length c a)) :
    Calls Try.prog 45 #[.agg #[tv], .int .i64 bound, cv, .int .i64 (a : Int)] w fun e w' => e = .returned (.bool (rightR t bound c a)) ∧ Ext w w' := by
  have hT := Lib.hid h
  have hN := Lib.hid hc
  obtain ⟨ta, tc, rfl⟩ := h.form
  obtain ⟨ca, cc, rfl, hcn, hcc, hca⟩ := hc.open
  obtain ⟨hat, _⟩ := Wishes.at_ h
  have hat' := Lib.hid hat
  have hv' := Lib.hid hv
  have ho' := Lib.hid ho
  have hd' := Lib.hid hd
  have hkk := Lib.hid hk
  have h512 := tooLarge_len (validT_ok hv).1
  have hharm := Lib.hid (harms_of hv)
  obtain ⟨b1, o1, n, ka, kc, rfl, hb1, _, ex, g0, g1, g2, g3, gk⟩ := hca a ha w (Ext.refl _)
  have hex := Lib.hid ex.out
  clear h hc hca hat hv ho hd hk ex gk
  go_enter Try.func45, Try.ntmps45
  go_upto_region 1 with (fail)
  refine wp_abs (S := fun W => Hid (Ext w W) ∧ Hid (Blk W w.heap.size 26 #[.slice ta t.length tc])) ?_ ?_
  · exact ⟨Lib.hid (by exact (by repeat' (first | (with_reducible exact Ext.refl _) | (with_reducible assumption) | (with_reducible refine Ext.drewN ?_ _) | (with_reducible refine Ext.drew ?_) | (with_reducible refine Ext.alloc ?_ _) | (with_reducible refine Ext.trans ?_ (by with_reducible assumption))))), Lib.hid (blk_new' rfl rfl)⟩
  rintro w1 ⟨hE1, hB1⟩
  have z0 := After.cell (show w1.cell? ⟨w.heap.size, 0, none⟩ = some (.slice ta t.length tc) from hB1.out.cell 0)
  have y0 := After.cell (hE1.out.cell g0)
  have y1 := After.cell (hE1.out.cell g1)
  have y2 := After.cell (hE1.out.cell g2)
  have y3 := After.cell (hE1.out.cell g3)
  clear g0 g1 g2 g3
  (refine wp_region_held [0, 1, 2, 5, 6] [3, 4, 7, 8] [9, 10] (PathCon w.heap.size t c a) (by kernel_rfl) (by kernel_rfl) ?_; simp only [pickL, List.drop]; (repeat (go_big_quiet_step (fail))); with_reducible refine wpQuiet_nil ?_)
  (refine held_quiet [3, 4] [7, 8] (by kernel_rfl) (by kernel_rfl) ?_; simp only [pickL, List.drop]; (repeat (go_big_quiet_step (fail))); with_reducible refine wpQuiet_nil ?_)
  (refine held_call 7 [8] rfl (by kernel_rfl) 65 (#[.agg #[.slice ta t.length tc], .slice (some ⟨b1, o1, none⟩) c.length cc, .int .i64 (a : Int)]) (fun W => by kernel_rfl) rfl ?_ ?_ ?_)
  · exact fun W W' v e h hk => (h hk).ext e
  · refine fun W hW _ => (rPath_calls _ _ t c a W (hT.out.ext (hE1.out.trans hW)) (hN.out.ext (hE1.out.trans hW)) (by omega) hl h512 hkk.out).mono ?_
    rintro e W' ⟨v, rfl, hi, hx⟩
    exact ⟨_, rfl, hx, fun _ => hi.base (hE1.out.trans hW).size⟩
  rintro v ⟨Y, hY, hC⟩
  obtain ⟨da, dc, rfl⟩ := (hC rfl).read.form
  rw [pathP_len]
  clear hC hY Y
  simp only [Act.put, List.setIfInBounds_toArray, List.set_cons_succ, List.set_cons_zero]
  (refine held_made 8 [] rfl (by kernel_rfl) (fun g => .pointer (some ⟨g, 0, none⟩)) (.cells #[.int .i64 0, .slice none 0 0, .int .i64 0, .int .i64 0] 49) (fun W => by kernel_rfl) (fun g g2 e => by cases e; rfl) (fun g => rfl) ?_)
  intro gu
  simp only [Act.put, List.setIfInBounds_toArray, List.set_cons_succ, List.set_cons_zero]
  intro W hW hf ht Q0 hQ0
  have hI := Lib.hid ((hf 7).1.2 rfl rfl)
  have h8 := (hf 8).2 rfl
  have b8 : Blk W gu 49 #[.int .i64 0, .slice none 0 0, .int .i64 0, .int .i64 0] := h8.1
  have hgu : w1.heap.size ≤ gu := h8.2
  have c80 : W.cell? ⟨gu, 0, none⟩ = some (.int .i64 0) := b8.cell 0
  have c81 : W.cell? ⟨gu, 1, none⟩ = some (.slice none 0 0) := b8.cell 1
  have c82 : W.cell? ⟨gu, 2, none⟩ = some (.int .i64 0) := b8.cell 2
  have c83 : W.cell? ⟨gu, 3, none⟩ = some (.int .i64 0) := b8.cell 3
  have f80 := b8.frozen 0
  have f81 := b8.frozen 1
  have f82 := b8.frozen 2
  have f83 := b8.frozen 3
  have b8' := Lib.hid b8
  have hW' := Lib.hid hW
  simp only [pickL, List.drop]
  clear hf ht h8 b8 hW z0 y0 y1 y2 y3
  go_upto_region 2 with (fail)
  refine wp_abs (S := fun V => Hid (Ext w V) ∧ Hid (Blk V gu 49 #[.int .i64 n.wish, .slice ka n.kids.length kc, .int .i64 n.clA, .int .i64 n.clB]) ∧ Hid (Ints V (.slice da t.length dc) (pathP t.length c a)) ∧ Hid (Blk V w.heap.size 26 #[.slice ta t.length tc])) ?_ ?_
  · have hx := (((hW'.out.setCell (p := ⟨gu, 0, none⟩) hgu (.int .i64 n.wish)).setCell (p := ⟨gu, 1, none⟩) hgu (.slice ka n.kids.length kc)).setCell (p := ⟨gu, 2, none⟩) hgu (.int .i64 n.clA)).setCell (p := ⟨gu, 3, none⟩) hgu (.int .i64 n.clB)
    have hB := hB1.out.below hx hB1.out.lt
    have hI' := hI.out
    have k : ∀ {W' : World} {cs : Array Value} (_ : Blk W' gu 49 cs) (j : Nat) (u : Value), IntsO W' w.heap.size (.slice da t.length dc) (pathP t.length c a) → IntsO (W'.setCell ⟨gu, j, none⟩ u) w.heap.size (.slice da t.length dc) (pathP t.length c a) := fun hb j u h => h.keepT (keep_set _ gu j u) (TX.one hb) (by decide)
    exact ⟨Lib.hid (hE1.out.trans hx), Lib.hid ((((b8'.out.set_ 0 _).set_ 1 _).set_ 2 _).set_ 3 _), Lib.hid (k (((b8'.out.set_ 0 _).set_ 1 _).set_ 2 _) 3 _ (k ((b8'.out.set_ 0 _).set_ 1 _) 2 _ (k (b8'.out.set_ 0 _) 1 _ (k b8'.out 0 _ hI')))).read, Lib.hid hB⟩
  rintro V ⟨hE, hB8, hID, hB0⟩
  clear hW' b8' hI hB1 hE1 c80 c81 c82 c83 f80 f81 f82 f83
  have c0 : V.cell? ⟨gu, 0, none⟩ = some (.int .i64 n.wish) := hB8.out.cell 0
  have c1 : V.cell? ⟨gu, 1, none⟩ = some (.slice ka n.kids.length kc) := hB8.out.cell 1
  have c2 : V.cell? ⟨gu, 2, none⟩ = some (.int .i64 n.clA) := hB8.out.cell 2
  have c3 : V.cell? ⟨gu, 3, none⟩ = some (.int .i64 n.clB) := hB8.out.cell 3
  have t0 : V.cell? ⟨w.heap.size, 0, none⟩ = some (.slice ta t.length tc) := hB0.out.cell 0
  obtain ⟨dec, hdec⟩ : ∃ dec, Hid (pathP t.length c a = dec) := ⟨_, rfl⟩
  have hdl : dec.length = t.length := by rw [← hdec.out, pathP_len]
  rw [hdec.out] at hID hd'
  have hR : Hid (rightR t bound c a = rightR t bound c a) := rfl
  have hRw := hR.out
  conv at hRw => rhs; unfold rightR
  simp only [hex.out, Option.getD_some, hdec.out] at hRw
  obtain ⟨nw, nk, nA, nB⟩ := n
  dsimp only at *
  have hID0 := hID.out
  rw [← hdl] at hID0
  obtain ⟨hda, _⟩ := hID0.at_
  have hda' := Lib.hid hda
  clear hID0 hda hR hex hkk
  by_cases w0 : 0 ≤ nw
  · rw [if_pos w0] at hRw
    have w0' : decide (0 ≤ nw) = true := by simpa using w0
    by_cases w1 : (t.length : Int) ≤ nw
    · have R : Hid (rightR t bound c a = false) := by show _ = _; rw [hRw, if_pos (Or.inl w1)]
      have w1' : decide ((t.length : Int) ≤ nw) = true := by simpa using w1
      clear hRw
      go_wp2
      go_ret
      rw [R.out]
      exact ⟨rfl, hE.out⟩
    have w1' : decide ((t.length : Int) ≤ nw) = false := by simpa using w1
    by_cases hA : nA = 0
    · by_cases hB : nB = 0
      · rw [if_neg (by omega)] at hRw
        obtain ⟨m, rfl⟩ : ∃ m : Nat, nw = m := ⟨nw.toNat, by omega⟩
        have hm : m < t.length := by omega
        obtain ⟨b2, o2, x, pa, pc, oa, oc, e2, hb2, _, ex, _, _, q2, _, _⟩ := hat'.out m hm V hE.out
        obtain ⟨b3, o3, d, rfl, hb3, _, ed, k0⟩ := hda'.out m (by omega) V (Ext.refl _)
        cases e2
        have hdv : decAt dec (m : Int) = d := by simp [decAt, ed.out]
        rw [hdv] at hRw
        simp only [Int.toNat_natCast, ex.out, Option.getD_some] at hRw
        subst hA hB
        have z0 := After.cell c0
        have z1 := After.cell c1
        have zt := After.cell t0
        have zq := After.cell q2
        have zk := After.cell k0
        have hcast : ((nk.length : Int) == (x.opts.length : Int)) = (nk.length == x.opts.length) := by
          rw [Bool.eq_iff_iff]; simp only [beq_iff_eq]; omega
        by_cases hd0 : d < 0
        · have R : Hid (rightR t bound c a = (nk.length == x.opts.length)) := by show _ = _; rw [hRw, decide_eq_true hd0, Bool.true_and]
          have hd0' : decide (d < 0) = true := by simpa using hd0
          clear hRw hdv
          go_wp2_with fail
          refine wp_region_after (by kernel_rfl) (by kernel_rfl) ?_
          repeat (go_big_quiet_step (fail))
          refine wpQuiet_nil ?_
          rintro _ ⟨z, rfl⟩
          have hz := z.ext
          generalize z.world = Z at hz ⊢
          try rw [hcast]
          clear z0 z1 zt zq zk
          go_wp2
          go_ret
          rw [R.out]
          exact ⟨rfl, hE.out.trans hz⟩
        · have R : Hid (rightR t bound c a = false) := by show _ = _; rw [hRw, decide_eq_false hd0, Bool.false_and]
          have hd0' : decide (d < 0) = false := by simpa using hd0
          clear hRw hdv
          go_wp2_with fail
          refine wp_region_after (by kernel_rfl) (by kernel_rfl) ?_
          repeat (go_big_quiet_step (fail))
          refine wpQuiet_nil ?_
          rintro _ ⟨z, rfl⟩
          have hz := z.ext
          generalize z.world = Z at hz ⊢
          clear z0 z1 zt zq zk
          go_wp2
          go_ret
          rw [R.out]
          exact ⟨rfl, hE.out.trans hz⟩
      · have R : Hid (rightR t bound c a = false) := by show _ = _; rw [hRw, if_pos (Or.inr (Or.inr hB))]
        have hB' : (nB != 0) = true := by simpa using hB
        subst hA
        clear hRw
        go_wp2
        go_ret
        rw [R.out]
        exact ⟨rfl, hE.out⟩
    · have R : Hid (rightR t bound c a = false) := by show _ = _; rw [hRw, if_pos (Or.inr (Or.inl hA))]
      have hA' : (nA != 0) = true := by simpa using hA
      clear hRw
      go_wp2
      go_ret
      rw [R.out]
      exact ⟨rfl, hE.out⟩
  rw [if_neg w0] at hRw
  have w0' : decide (0 ≤ nw) = false := by simpa using w0
  by_cases w1 : nw = -1
  rotate_left
  · have R : Hid (rightR t bound c a = false) := by show _ = _; rw [hRw, if_pos (Or.inl w1)]
    have w1' : (nw != -1) = true := by simpa using w1
    clear hRw
    go_wp2
    go_ret
    rw [R.out]
    exact ⟨rfl, hE.out⟩
  by_cases hk : 0 < nk.length
  · have R : Hid (rightR t bound c a = false) := by show _ = _; rw [hRw, if_pos (Or.inr hk)]
    have hk' : decide (0 < (nk.length : Int)) = true := by simpa using hk
    subst w1
    clear hRw
    go_wp2
    go_ret
    rw [R.out]
    exact ⟨rfl, hE.out⟩
  rw [if_neg (by omega)] at hRw
  have hk' : decide (0 < (nk.length : Int)) = false := by simpa using hk
  subst w1
  clear w0 w0'
  by_cases hA : nA = -1
  · rw [if_pos hA] at hRw
    subst hA
    have hRh := Lib.hid hRw
    clear hRw
    go_wp2_with fail
    go_loopw [11, 12] (fun vn vi wr => ∃ (i : Nat) (h : Int), i ≤ t.length ∧ vi = .int .i64 i ∧ vn = .int .i64 h ∧ 0 ≤ h ∧ h ≤ 1000000 * (i : Int) ∧ Hid (Ext V wr) ∧ Hid (sumD t dec = h + sumD (t.drop i) (dec.drop i))) (fun _ vi _ => t.length - (intOf vi).toNat)
    case atStart => exact ⟨0, 0, by omega, rfl, rfl, by omega, by omega, Lib.hid (Ext.refl _), Lib.hid (by simp)⟩
    case round =>
      obtain ⟨i, hh, hi, rfl, rfl, hh0, hh1, hx, hF⟩ := hrel
      have d3 := hx.out.cell c3
      by_cases h1 : i < t.length
      · obtain ⟨b2, o2, x, pa, pc, oa, oc, e2, hb2, dx, ex, p0, p1, p2, gp, go⟩ := hat'.out i h1 wr (hE.out.trans hx.out)
        obtain ⟨b3, o3, d, rfl, hb3, dd, ed, k0⟩ := hda'.out i (by omega) wr hx.out
        have dt := hx.out.cell t0
        have hxm := List.mem_of_getElem? ex.out
        have hst := Lib.hid (sumD_step dx.out dd.out)
        by_cases hd0 : d < 0
        · have hd0' : decide (d < 0) = true := by simpa using hd0
          have hlb := leastB_bd (x := x) (fun o ho => (hharm.out x hxm o ho).1)
          have hcl := Lib.hid (rLeast_calls _ x wr ⟨_, _, rfl, gp, go⟩ (ho'.out x hxm) (fun o ho => (hharm.out x hxm o ho).2))
          obtain ⟨L, hL⟩ : ∃ L, Hid (leastB x = L) := ⟨_, rfl⟩
          rw [hL.out] at hlb hcl
          have R : Hid (sumD t dec = (hh + L) + sumD (t.drop (i + 1)) (dec.drop (i + 1))) := by show _ = _; rw [hF.out, hst.out, if_pos hd0, hL.out]; omega
          have l0 := hlb.1
          have l1 := hlb.2
          clear hF hst gp go hlb hL
          cases e2
          go_wp2_with fail
          refine hcl.out.mono ?_
          rintro e w2 ⟨rfl, hx2⟩
          have hx2' := Lib.hid (hx.out.trans hx2)
          clear hx2 hcl
          go_wp2
          go_roundw
          case rel => exact ⟨i + 1, hh + L, by omega, by go_num, by go_num, by omega, by omega, hx2', R⟩
          case measure => simp [intOf]; omega
        · have hd0' : decide (d < 0) = false := by simpa using hd0
          obtain ⟨j, rfl⟩ : ∃ j : Nat, d = j := ⟨d.toNat, by omega⟩
          have hjr := (hd'.out.2 i x _ ex.out ed.out).2
          have hjl : j < x.opts.length := by omega
          have gol := go.len
          obtain ⟨_, _, e0, _, _, oat⟩ := go.open
          cases e0
          obtain ⟨b4, o4, q, sa, sc, rfl, hb4, _, eq, r0, _, _, _⟩ := oat j hjl wr (Ext.refl _)
          have hqb := hharm.out x hxm q (List.mem_of_getElem? eq.out)
          have R : Hid (sumD t dec = (hh + q.harm) + sumD (t.drop (i + 1)) (dec.drop (i + 1))) := by
            show _ = _
            rw [hF.out, hst.out, if_neg hd0]
            simp [harmK, eq.out]
            omega
          obtain ⟨hq0, hq1⟩ := hqb
          cases e2
          generalize q.harm = qh at *
          clear hF hst gp go oat eq
          have z1 := After.cell dt
          have z2 := After.cell p2
          have z3 := After.cell k0
          have z4 := After.cell r0
          go_wp2_with fail
          refine wp_region_after (by kernel_rfl) (by kernel_rfl) ?_
          repeat (go_big_quiet_step (fail))
          refine wpQuiet_nil ?_
          rintro _ ⟨z, rfl⟩
          have hz := z.ext
          generalize z.world = Z at hz ⊢
          clear z1 z2 z3 z4
          go_wp2
          go_roundw
          case rel => exact ⟨i + 1, hh + qh, by omega, by go_num, by go_num, by omega, by omega, Lib.hid (hx.out.trans hz), R⟩
          case measure => simp [intOf]; omega
      · have hS : Hid (sumD t dec = hh) := by show _ = _; rw [hF.out, List.drop_of_length_le (l := t) (by omega)]; simp [sumD]
        have R : Hid (rightR t bound c a = ((nB == 0) && decide (bound ≤ hh))) := by show _ = _; rw [hRh.out, hS.out]
        clear hF hS hRh
        cases hb : (nB == 0) with
        | false =>
          rw [hb, Bool.false_and] at R
          go_wp2
          go_ret
          rw [R.out]
          exact ⟨rfl, hE.out.trans hx.out⟩
        | true =>
          rw [hb, Bool.true_and] at R
          go_wp2
          go_ret
          rw [R.out]
          exact ⟨rfl, hE.out.trans hx.out⟩
  rw [if_neg hA] at hRw
  have hA' : (nA == -1) = false := by simpa using hA
  by_cases a0 : nA < 0
  · have R : Hid (rightR t bound c a = false) := by show _ = _; rw [hRw, if_pos (by omega)]
    have a0' : decide (nA < 0) = true := by simpa using a0
    clear hRw
    go_wp2
    go_ret
    rw [R.out]
    exact ⟨rfl, hE.out⟩
  have a0' : decide (nA < 0) = false := by simpa using a0
  by_cases a1 : (t.length : Int) ≤ nA
  · have R : Hid (rightR t bound c a = false) := by show _ = _; rw [hRw, if_pos (by omega)]
    have a1' : decide ((t.length : Int) ≤ nA) = true := by simpa using a1
    clear hRw
    go_wp2
    go_ret
    rw [R.out]
    exact ⟨rfl, hE.out⟩
  have a1' : decide ((t.length : Int) ≤ nA) = false := by simpa using a1
  by_cases b0 : nB < 0
  · have R : Hid (rightR t bound c a = false) := by show _ = _; rw [hRw, if_pos (by omega)]
    have b0' : decide (nB < 0) = true := by simpa using b0
    clear hRw
    go_wp2
    go_ret
    rw [R.out]
    exact ⟨rfl, hE.out⟩
  have b0' : decide (nB < 0) = false := by simpa using b0
  by_cases b1' : (t.length : Int) ≤ nB
  · have R : Hid (rightR t bound c a = false) := by show _ = _; rw [hRw, if_pos (by omega)]
    have b1'' : decide ((t.length : Int) ≤ nB) = true := by simpa using b1'
    clear hRw
    go_wp2
    go_ret
    rw [R.out]
    exact ⟨rfl, hE.out⟩
  have b1'' : decide ((t.length : Int) ≤ nB) = false := by simpa using b1'
  rw [if_neg (by omega)] at hRw
  obtain ⟨i, rfl⟩ : ∃ i : Nat, nA = i := ⟨nA.toNat, by omega⟩
  obtain ⟨j, rfl⟩ : ∃ j : Nat, nB = j := ⟨nB.toNat, by omega⟩
  obtain ⟨b3, o3, d, rfl, hb3, _, ed, k0⟩ := hda'.out i (by omega) V (Ext.refl _)
  obtain ⟨b4, o4, e, e4, hb4, _, ee, k1⟩ := hda'.out j (by omega) V (Ext.refl _)
  cases e4
  have hv1 : decAt dec (i : Int) = d := by simp [decAt, ed.out]
  have hv2 : decAt dec (j : Int) = e := by simp [decAt, ee.out]
  rw [hv1, hv2] at hRw
  obtain ⟨z, hz⟩ : ∃ z, Hid (clashT t i d j e = z) := ⟨_, rfl⟩
  have R : Hid (rightR t bound c a = z) := by show _ = _; rw [hRw, hz.out]
  have hcl : Hid (∀ W, Ext V W → Calls Try.prog 48 #[.agg #[.slice ta t.length tc], .agg #[.int .i64 (i : Int), .int .i64 d], .agg #[.int .i64 (j : Int), .int .i64 e]] W fun e w' => e = .returned (.bool z) ∧ Ext W w') := fun W hW => by
    have := rMeets_calls _ t i d j e W (hT.out.ext (hE.out.trans hW)) hv'.out
    rwa [hz.out] at this
  have hil : i < t.length := by omega
  have hjl : j < t.length := by omega
  clear hRw hv1 hv2 hz hA a0 a1 b0 b1' ed ee
  have z2 := After.cell c2
  have z3 := After.cell c3
  have zt := After.cell t0
  have zk := After.cell k0
  have zl := After.cell k1
  go_wp2_with fail
  refine wp_region_after (by kernel_rfl) (by kernel_rfl) ?_
  repeat (go_big_quiet_step (exact After.call _ (hcl.out _ (After.ext _))))
  refine wpQuiet_nil ?_
  rintro _ ⟨y, rfl⟩
  have hy := y.ext
  generalize y.world = Y at hy ⊢
  clear z2 z3 zt zk zl
  go_wp2
  go_ret
  rw [R.out]
  exact ⟨rfl, hE.out.trans hy⟩
end Go.Proofs.Ytonmlmkemliefaa
