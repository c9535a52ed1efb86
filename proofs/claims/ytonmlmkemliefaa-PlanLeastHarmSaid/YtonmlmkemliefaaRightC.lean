/- Walks of the check: right, a node that decides a wish. -/
import Derived.Test.YtonmlmkemliefaaRightB
namespace Go.Proofs.Ytonmlmkemliefaa
open Go.RowKit

theorem DecOk.set_ {t : List WishD} {dec : List Int} (h : DecOk t dec) {m : Nat} {x : WishD} (hx : t[m]? = some x) {d : Int} (h1 : -1 ≤ d) (h2 : d < x.opts.length) : DecOk t (dec.set m d) := by
  refine ⟨by rw [List.length_set]; exact h.1, fun i y e hy he => ?_⟩
  by_cases hi : m = i
  · subst hi
    rw [hx] at hy; cases hy
    rw [List.getElem?_set_self' ] at he
    cases hd : dec[m]? with
    | none => simp [hd] at he
    | some v => simp [hd] at he; omega
  · rw [List.getElem?_set_ne hi] at he
    exact h.2 i y e hy he


set_option maxHeartbeats 3200000 in
set_option maxRecDepth 100000 in
theorem right_node (w0 w : World) (K D : Nat) (tv cv : Value) (t : List WishD) (bound : Int) (c : List NodeD) (dec : List Int) (lst : Int) (f at_ : Nat) (harm : Int) (n : NodeD)
    (ih : ∀ (w : World) (dec : List Int) (lst : Int) (at_ : Nat) (harm : Int), RightIn w0 w K D tv cv t bound c dec lst f at_ harm →
      Calls Try.prog 43 #[.pointer (some ⟨K, 0, none⟩), .int .i64 at_, .int .i64 harm] w (RightOut w0 w K D tv cv t bound c dec lst (rightP t bound c f dec lst at_ harm)))
    (H : RightIn w0 w K D tv cv t bound c dec lst (f + 1) at_ harm) (hn : c[at_]? = some n) (hw : n.wish ≠ -1) (hi : idxB n.wish t.length = true) (hd : decAt dec n.wish < 0) (hA : n.clA = 0) (hB : n.clB = 0) (x : WishD) (hx : t[n.wish.toNat]? = some x) (hl : n.kids.length = x.opts.length) :
    Calls Try.prog 43 #[.pointer (some ⟨K, 0, none⟩), .int .i64 at_, .int .i64 harm] w (RightOut w0 w K D tv cv t bound c dec lst (rightP t bound c (f + 1) dec lst at_ harm)) := by
  have hH := Lib.hid H
  have hih := Lib.hid ih
  clear ih
  have hnn := Lib.hid hn
  obtain ⟨ta, tc, rfl, _, _, hat⟩ := H.chk.wishes.open
  obtain ⟨ca, cc, rfl, hcn, hcc, hca⟩ := H.chk.nodes.open
  obtain ⟨b1, o1, n', ka, kc, rfl, hb1', _, en, g0', g1', g2', g3', gk⟩ := hca at_ H.lt w0 (Ext.refl _)
  have g0 := H.chk.ext.cell g0'
  have g1 := H.chk.ext.cell g1'
  have g2 := H.chk.ext.cell g2'
  have g3 := H.chk.ext.cell g3'
  have hb1 : b1 < w.heap.size := Nat.lt_of_lt_of_le hb1' H.chk.ext.size
  clear g0' g1' g2' g3' hb1'
  obtain rfl : n = n' := Option.some.inj (hn.symm.trans en.out)
  have k0 : w.cell? ⟨K, 0, none⟩ = some (.slice ta t.length tc) := H.chk.blk.cell 0
  have k2 : w.cell? ⟨K, 2, none⟩ = some (.slice (some ⟨b1, o1, none⟩) c.length cc) := H.chk.blk.cell 2
  have k3 : w.cell? ⟨K, 3, none⟩ = some (.slice (some ⟨D, 0, none⟩) dec.length dec.length) := H.chk.blk.cell 3
  have k4 : w.cell? ⟨K, 4, none⟩ = some (.int .i64 lst) := H.chk.blk.cell 4
  have hKw : K < w.heap.size := H.chk.blk.lt
  have hDw : D < w.heap.size := H.chk.db.lt
  have hlt := H.lt
  have hfew := H.few
  have hh0 := H.h0
  have hh1 := H.h1
  have hl0 := H.l0
  have hl1 := H.l1
  have hatw := Lib.hid hat
  have hgk := Lib.hid gk
  clear H hn hat hca en gk
  obtain ⟨nw, nk, nA, nB⟩ := n
  simp only at *
  have hI1 : Hid (∀ W, Calls Try.prog 53 #[.int .i64 nw, .int .i64 t.length] W fun e w' => e = .returned (.bool true) ∧ Ext W w') := fun W => by have := index_calls nw t.length W; rwa [hi] at this
  obtain ⟨m, rfl, hm⟩ := idxB_nat hi
  have hw' : ((m : Int) == -1) = false := by rw [beq_eq_false_iff_ne]; omega
  have hdl := hH.out.dec.1
  obtain ⟨dm, hdm⟩ : ∃ d, dec[m]? = some d := ⟨dec[m], List.getElem?_eq_getElem (by omega)⟩
  have hdv : decAt dec m = dm := by simp [decAt, hdm]
  have l0 : w.cell? ⟨D, m, none⟩ = some (.int .i64 dm) := by
    rw [hH.out.chk.db.cell m]; simp [hdm]
  have hml : m < dec.length := by omega
  have e0 := After.cell l0
  have hd1 : dm < 0 := by rw [hdv] at hd; exact hd
  have hd' : decide (0 ≤ dm) = false := by simp; omega
  subst hA hB
  obtain ⟨b2, o2, x', xa, xc, oa, oc, rfl, hb2', _, ex, w0'', w1'', w2'', gp, go⟩ := hatw.out m hm w0 (Ext.refl _)
  have w0' := hH.out.chk.ext.cell w0''
  have w1' := hH.out.chk.ext.cell w1''
  have w2' := hH.out.chk.ext.cell w2''
  have hb2 : b2 < w.heap.size := Nat.lt_of_lt_of_le hb2' hH.out.chk.ext.size
  have hgo := Lib.hid go
  have hgp := Lib.hid gp
  clear w0'' w1'' w2'' hb2' go gp
  obtain rfl : x = x' := Option.some.inj (hx.symm.trans ex.out)
  have hl' : ((nk.length : Int) != (x.opts.length : Int)) = false := by rw [bne_eq_false_iff_eq]; omega
  have hxt : Hid (t[m]? = some x) := hx
  have hdm1 : Hid (dm = -1) := by
    have := (hH.out.dec.2 m x dm hxt.out hdm).1
    show _ = _; omega
  have hdecm : Hid (dec.set m (-1) = dec) := by
    show _ = _
    rw [← hdm1.out]
    have e := List.getElem?_eq_some_iff.1 hdm
    obtain ⟨e1, e2⟩ := e
    rw [← e2, List.set_getElem_self]
  have R : Hid (rightP t bound c (f + 1) dec lst at_ harm = kidsR (fun i kid o => rightP t bound c f (dec.set m i) (lst - leastB x) kid.toNat (harm + o.harm)) 0 nk x.opts) := by
    show _ = _
    have hx' : t[m]? = some x := hx
    simp [rightP, hnn.out, hw, hi, hx', hl, hdv]
    omega
  have hle := leastSum_bd [x] (fun y hy o ho => by simp at hy; subst hy; exact (hH.out.harms y (List.mem_of_getElem? ex.out) o ho).1)
  have hlx0 : 0 ≤ leastB x := by have := hle.1; simpa [leastSum] using this
  have hlx1 : leastB x ≤ 1000000 := by have := hle.2; simpa [leastSum] using this
  clear hle hw hi hdm hdv e0 hx hd
  have hll := Lib.hid hl
  clear hl
  go_enter Try.func43, Try.ntmps43
  go_wp2_with fail
  refine wp_abs (S := fun W => Ext w W ∧ W.cell? ⟨w.heap.size, 0, none⟩ = some (.int .i64 (m:Int)) ∧ W.cell? ⟨w.heap.size, 1, none⟩ = some (.slice ka nk.length kc) ∧ W.cell? ⟨w.heap.size, 2, none⟩ = some (.int .i64 0) ∧ W.cell? ⟨w.heap.size, 3, none⟩ = some (.int .i64 0)) ⟨by exact (by repeat' (first | (with_reducible exact Ext.refl _) | (with_reducible assumption) | (with_reducible refine Ext.drewN ?_ _) | (with_reducible refine Ext.drew ?_) | (with_reducible refine Ext.alloc ?_ _) | (with_reducible refine Ext.trans ?_ (by with_reducible assumption)))), by simp, by simp, by simp, by simp⟩ ?_
  rintro W ⟨hx, n0, n1, n2, n3⟩
  have m0 := After.cell n0
  have m2 := After.cell n2
  have m3 := After.cell n3
  have d0 := After.cell (hx.cell k0)
  have d3 := After.cell (hx.cell k3)
  go_wp2_with fail
  have e0 := After.cell (hx.cell l0)
  refine wp_region_after (by kernel_rfl) (by kernel_rfl) ?_
  repeat (go_big_quiet_step (exact After.call _ (by first | (with_reducible exact hI1.out _) | exact hcl.out _ (After.ext _))))
  refine wpQuiet_nil ?_
  rintro _ ⟨z, rfl⟩
  go_step; go_step
  refine wp_abs (S := fun W' => Ext W W') z.ext ?_
  clear z m0 m2 m3 d0 d3 e0
  intro W2 hx2
  have hxx := hx.trans hx2
  have v0 := hx2.cell n0
  have v1 := hx2.cell n1
  have vK := hxx.cell k0
  have vx0 := hxx.cell w0'
  have vx1 := hxx.cell w1'
  have vx2 := hxx.cell w2'
  have sz2 := hxx.size
  have hwW : w.heap.size < W2.heap.size := World.block_lt_of_cell? _ _ v0
  have hb22 : b2 < W2.heap.size := by omega
  have hK2 : K < W2.heap.size := by omega
  go_wp2_with fail
  go_region
  go_step; go_step
  have hE23 := (((Ext.refl W2).alloc (Obj.cells #[Value.int IntKind.i64 x.meeting, Value.slice xa x.people.length xc, Value.slice oa x.opts.length oc] 56))).drew
  refine wp_abs (S := fun W3 => Ext w W3 ∧ W3.cell? ⟨w.heap.size, 0, none⟩ = some (.int .i64 (m : Int)) ∧ W3.cell? ⟨w.heap.size, 1, none⟩ = some (.slice ka nk.length kc) ∧ W3.cell? ⟨W2.heap.size, 0, none⟩ = some (.int .i64 x.meeting) ∧
    W3.cell? ⟨W2.heap.size, 1, none⟩ = some (.slice xa x.people.length xc) ∧ W3.cell? ⟨W2.heap.size, 2, none⟩ = some (.slice oa x.opts.length oc)) ⟨(hxx.alloc _).drew, hE23.cell v0, hE23.cell v1, by simp, by simp, by simp⟩ ?_
  clear hE23
  rintro W3 ⟨hE3, n0', n1', p0, p1, p2⟩
  obtain ⟨B8, hB8⟩ : ∃ B8, Hid (W2.heap.size = B8) := ⟨_, rfl⟩
  have hB8w : w.heap.size < B8 := by rw [← hB8.out]; exact hwW
  rw [hB8.out] at p0 p1 p2 ⊢
  have hEE := Lib.hid hE3
  have aK4 := After.cell (hE3.cell k4)
  have a0 := After.cell p0
  have a1 := After.cell p1
  have a2 := After.cell p2
  have hx03 := Lib.hid (hH.out.chk.ext.trans hE3)
  have hcl : Hid (∀ W, Ext W3 W → Calls Try.prog 42 #[.agg #[.int .i64 x.meeting, .slice xa x.people.length xc, .slice oa x.opts.length oc]] W
        fun e w' => e = .returned (.int .i64 (leastB x)) ∧ Ext W w') := fun W hW => least_calls _ x W ⟨_, _, rfl, hgp.out.ext (hx03.out.trans hW), hgo.out.ext (hx03.out.trans hW)⟩
  obtain ⟨lx, hlx⟩ : ∃ lx, Hid (leastB x = lx) := ⟨_, rfl⟩
  rw [hlx.out] at hcl hlx0 hlx1 R
  clear n0 n1 n2 n3 v0 v1 vK vx0 vx1 vx2 hx hx2 hxx hE3 hwW hb22 hK2
  go_wp2_with fail
  refine wp_region_tail 7 (by kernel_rfl) (by kernel_rfl) ?_
  simp only [List.take_succ_cons, List.take_zero, List.drop_succ_cons, List.drop_zero]
  repeat (go_big_quiet_step ((exact After.call _ (hcl.out _ (After.ext _)))))
  refine wpQuiet_nil ?_
  rintro _ ⟨y, rfl⟩
  have hy := y.ext
  generalize y.world = W4 at hy ⊢
  have hE4 := Lib.hid (hEE.out.trans hy)
  have q4 := hE4.out.cell k4
  have hC4 := Lib.hid (hH.out.chk.toExt hE4.out)
  have fr4 : W4.frozen? ⟨K, 4, none⟩ = false := hC4.out.blk.frozen 4
  have n1'' : (W4.setCell ⟨K, 4, none⟩ (.int .i64 (lst - lx))).cell? ⟨w.heap.size, 1, none⟩ = some (.slice ka nk.length kc) := by
    rw [World.cell?_setCell_other _ _ _ _ (by simp; try omega)]; exact hy.cell n1'
  have n0'' : (W4.setCell ⟨K, 4, none⟩ (.int .i64 (lst - lx))).cell? ⟨w.heap.size, 0, none⟩ = some (.int .i64 (m : Int)) := by
    rw [World.cell?_setCell_other _ _ _ _ (by simp; try omega)]; exact hy.cell n0'
  have p0'' : (W4.setCell ⟨K, 4, none⟩ (.int .i64 (lst - lx))).cell? ⟨B8, 0, none⟩ = some (.int .i64 x.meeting) := by
    rw [World.cell?_setCell_other _ _ _ _ (by simp; try omega)]; exact hy.cell p0
  have p1'' : (W4.setCell ⟨K, 4, none⟩ (.int .i64 (lst - lx))).cell? ⟨B8, 1, none⟩ = some (.slice xa x.people.length xc) := by
    rw [World.cell?_setCell_other _ _ _ _ (by simp; try omega)]; exact hy.cell p1
  have p2'' : (W4.setCell ⟨K, 4, none⟩ (.int .i64 (lst - lx))).cell? ⟨B8, 2, none⟩ = some (.slice oa x.opts.length oc) := by
    rw [World.cell?_setCell_other _ _ _ _ (by simp; try omega)]; exact hy.cell p2
  have hC5 := Lib.hid (hC4.out.setLst (lst - lx))
  have hk5 : Hid (Keep (fun g => g = K ∨ g = D) w (W4.setCell ⟨K, 4, none⟩ (.int .i64 (lst - lx)))) := Lib.hid ((Keep.of_ext hE4.out).setCell (Or.inl (Or.inl rfl)) _)
  obtain ⟨g, hg⟩ : ∃ g : Int → Int → OptD → Bool, Hid ((fun i kid o => rightP t bound c f (dec.set m i) (lst - lx) kid.toNat (harm + o.harm)) = g) := ⟨_, rfl⟩
  rw [hg.out] at R
  have hnp := Lib.hid n0''
  have hpp := Lib.hid (And.intro p0'' (And.intro p1'' p2''))
  clear n0'' p0'' p1'' p2'' n0' n1' p0 p1 p2 a0 a1 a2 aK4
  have hxl : nk.length ≤ 9223372036854775807 := hgk.out.len
  go_wp2_with fail
  have hW5 : ∃ W5, Hid (W4.setCell ⟨K, 4, none⟩ (.int .i64 (lst - lx)) = W5) := ⟨_, rfl⟩
  obtain ⟨W5, hW5⟩ := hW5
  rw [hW5.out] at hnp hpp hC5 hk5 ⊢
  go_loopw [9, 10, 90] (fun v9 v10 vi wr => ∃ (i : Nat) (d0 : Int), i ≤ nk.length ∧ vi = .int .i64 i ∧ Hid (Chk w0 wr K D (.slice (some ⟨b2, o2, none⟩) t.length tc) (.slice (some ⟨b1, o1, none⟩) c.length cc) t bound c (dec.set m d0) (lst - lx)) ∧ Hid (Keep (fun g => g = K ∨ g = D) W5 wr) ∧
    Hid (rightP t bound c (f + 1) dec lst at_ harm = kidsR g i (nk.drop i) (x.opts.drop i))) (fun _ _ vi _ => nk.length - (intOf vi).toNat)
  case atStart => exact ⟨0, -1, by omega, rfl, by rw [hdecm.out]; exact hC5, Lib.hid (Keep.refl _ _), R⟩
  case round =>
    obtain ⟨i, d0, hi, rfl, hC, hK, hRi⟩ := hrel
    have hxw := Lib.hid hC.out.ext
    have hbD := hH.out.chk.bD
    have hbK := hH.out.chk.bK
    have hws : w0.heap.size ≤ w.heap.size := hH.out.chk.ext.size
    have kn0 := hK.out.cell hnp.out (by rintro (e | e) <;> (simp at e; omega))
    have kp0 := hK.out.cell hpp.out.1 (by rintro (e | e) <;> (simp at e; omega))
    have kp1 := hK.out.cell hpp.out.2.1 (by rintro (e | e) <;> (simp at e; omega))
    have kp2 := hK.out.cell hpp.out.2.2 (by rintro (e | e) <;> (simp at e; omega))
    have kk3 : wr.cell? ⟨K, 3, none⟩ = some (.slice (some ⟨D, 0, none⟩) dec.length dec.length) := by
      have := hC.out.blk.cell 3
      rw [this, List.length_set]; rfl
    have hKD := hC.out.ne
    have hdl : dec.length = t.length := hH.out.dec.1
    have dfr : wr.frozen? ⟨D, m, none⟩ = false := hC.out.db.frozen _
    by_cases h1 : i < nk.length
    · obtain ⟨b3, o3, kid, rfl, hb3, dk, ek, c1⟩ := hgk.out.at_.1 i h1 wr hxw.out
      obtain ⟨b4, o4, o, sa, sc, rfl, hb4, do_, eo, r1, r2, r3, _⟩ := hgo.out.at_.1 i (by have := hll.out; omega) w0 (Ext.refl _)
      have hkr := hH.out.kids at_ _ hnn.out kid (List.mem_of_getElem? ek.out)
      obtain ⟨kd, rfl⟩ : ∃ kd : Nat, kid = kd := ⟨kid.toNat, by omega⟩
      have hho := hH.out.harms x (List.mem_of_getElem? hxt.out) o (List.mem_of_getElem? eo.out)
      have ho0 := hho.1
      have ho1 := hho.2
      have hil : i < x.opts.length := by have := hll.out; omega
      have q3 := After.cell kk3
      have q0 := After.cell kn0
      go_wp2_with fail
      refine wp_region_tail 7 (by kernel_rfl) (by kernel_rfl) ?_
      simp only [List.take_succ_cons, List.take_zero, List.drop_succ_cons, List.drop_zero]
      repeat (go_big_quiet_step (fail))
      refine wpQuiet_nil ?_
      rintro _ ⟨y, rfl⟩
      have hy' := y.ext
      generalize y.world = V at hy' ⊢
      have hCV := Lib.hid (hC.out.toExt hy')
      have dc : V.cell? ⟨D, m, none⟩ = some (.int .i64 ((dec.set m d0)[m]?.getD 0)) := by
        rw [hCV.out.db.cell m]
        simp [hml]
      generalize (dec.set m d0)[m]?.getD 0 = old at dc
      have dfr' : V.frozen? ⟨D, m, none⟩ = false := hCV.out.db.frozen _
      have hCn : Hid (Chk w0 (V.setCell ⟨D, m, none⟩ (.int .i64 (i : Int))) K D (.slice (some ⟨b2, o2, none⟩) t.length tc) (.slice (some ⟨b1, o1, none⟩) c.length cc) t bound c (dec.set m (i : Int)) (lst - lx)) := by
        have := hCV.out.setDec m (i : Int)
        rw [List.set_set] at this
        exact this
      have hKn : Hid (Keep (fun g => g = K ∨ g = D) W5 (V.setCell ⟨D, m, none⟩ (.int .i64 (i : Int)))) := Lib.hid ((hK.out.trans (Keep.of_ext hy')).setCell (Or.inl (Or.inr rfl)) _)
      have y2 : (V.setCell ⟨D, m, none⟩ (.int .i64 (i : Int))).cell? ⟨B8, 2, none⟩ = some (.slice (some ⟨b4, o4, none⟩) x.opts.length oc) := by
        rw [World.cell?_setCell_other _ _ _ _ (by simp; try omega)]; exact hy'.cell kp2
      have y4 : (V.setCell ⟨D, m, none⟩ (.int .i64 (i : Int))).cell? ⟨b4, o4 + i * 3, none⟩ = some (.int .i64 o.harm) := hCn.out.ext.cell r1
      have hRn : Hid (rightP t bound c (f + 1) dec lst at_ harm = (rightP t bound c f (dec.set m (i : Int)) (lst - lx) kd (harm + o.harm) && kidsR g ((i + 1 : Nat) : Int) (nk.drop (i + 1)) (x.opts.drop (i + 1)))) := by
        show _ = _
        rw [hRi.out, dk.out, do_.out]
        simp only [kidsR]
        rw [← hg.out]
        rfl
      have hI := Lib.hid (hih.out (V.setCell ⟨D, m, none⟩ (.int .i64 (i : Int))) (dec.set m (i : Int)) (lst - lx) kd (harm + o.harm)
        ⟨hCn.out, hH.out.task, hH.out.harms, hH.out.dec.set_ hxt.out (by omega) (by omega), hH.out.kids, hH.out.few, by omega, by have := hH.out.fuel; omega, by omega, by omega, by omega, by omega⟩)
      clear hRi r1 r2 r3 c1 kp0 kp1 kp2 kn0 q3 q0
      obtain ⟨rb, hrb⟩ : ∃ rb, Hid (rightP t bound c f (dec.set m (i : Int)) (lst - lx) kd (harm + o.harm) = rb) := ⟨_, rfl⟩
      rw [hrb.out] at hRn hI
      have hml' : m < dec.length := hml
      go_wp2_with fail
      refine hI.out.mono ?_
      rintro e w7 ⟨rfl, hk7, hc7⟩
      have hk7' := Lib.hid hk7
      have hc7' := Lib.hid hc7
      clear hk7 hc7 hI y2 y4
      cases rb with
      | false =>
        have hRf : Hid (rightP t bound c (f + 1) dec lst at_ harm = false) := by show _ = _; rw [hRn.out]; rfl
        go_wp2
        go_ret
        rw [hRf.out]
        exact ⟨rfl, (hk5.out.trans hKn.out).trans hk7'.out, fun h => by cases h⟩
      | true =>
        have hRt : Hid (rightP t bound c (f + 1) dec lst at_ harm = kidsR g ((i + 1 : Nat) : Int) (nk.drop (i + 1)) (x.opts.drop (i + 1))) := by show _ = _; rw [hRn.out]; rfl
        have hc8 := Lib.hid (hc7'.out rfl)
        have hk8 := Lib.hid (hKn.out.trans hk7'.out)
        go_wp2
        go_roundw
        case rel => exact ⟨i + 1, (i : Int), by omega, by go_num, hc8, hk8, hRt⟩
        case measure => simp [intOf]; omega
    · have hRt : Hid (rightP t bound c (f + 1) dec lst at_ harm = true) := by
        show _ = _
        rw [hRi.out, List.drop_eq_nil_of_le (by omega)]
        rfl
      have q3 := After.cell kk3
      have q0 := After.cell kn0
      have hxl2 := hll.out
      clear hRi
      go_wp2_with fail
      refine wp_region_tail 6 (by kernel_rfl) (by kernel_rfl) ?_
      simp only [List.take_succ_cons, List.take_zero, List.drop_succ_cons, List.drop_zero]
      repeat (go_big_quiet_step (fail))
      refine wpQuiet_nil ?_
      rintro _ ⟨y, rfl⟩
      have hy' := y.ext
      generalize y.world = V at hy' ⊢
      have hCV := Lib.hid (hC.out.toExt hy')
      have dc : V.cell? ⟨D, m, none⟩ = some (.int .i64 ((dec.set m d0)[m]?.getD 0)) := by
        rw [hCV.out.db.cell m]
        simp [hml]
      generalize (dec.set m d0)[m]?.getD 0 = old at dc
      have dfr' : V.frozen? ⟨D, m, none⟩ = false := hCV.out.db.frozen _
      have hCn : Hid (Chk w0 (V.setCell ⟨D, m, none⟩ (.int .i64 (-1))) K D (.slice (some ⟨b2, o2, none⟩) t.length tc) (.slice (some ⟨b1, o1, none⟩) c.length cc) t bound c dec (lst - lx)) := by
        have := hCV.out.setDec m (-1)
        rw [List.set_set, hdecm.out] at this
        exact this
      have hKn : Hid (Keep (fun g => g = K ∨ g = D) W5 (V.setCell ⟨D, m, none⟩ (.int .i64 (-1)))) := Lib.hid ((hK.out.trans (Keep.of_ext hy')).setCell (Or.inl (Or.inr rfl)) _)
      have y0 := After.cell (show (V.setCell ⟨D, m, none⟩ (.int .i64 (-1))).cell? ⟨B8, 0, none⟩ = some (.int .i64 x.meeting) from by
        rw [World.cell?_setCell_other _ _ _ _ (by simp; try omega)]; exact hy'.cell kp0)
      have y1 := After.cell (show (V.setCell ⟨D, m, none⟩ (.int .i64 (-1))).cell? ⟨B8, 1, none⟩ = some (.slice xa x.people.length xc) from by
        rw [World.cell?_setCell_other _ _ _ _ (by simp; try omega)]; exact hy'.cell kp1)
      have y2 := After.cell (show (V.setCell ⟨D, m, none⟩ (.int .i64 (-1))).cell? ⟨B8, 2, none⟩ = some (.slice oa x.opts.length oc) from by
        rw [World.cell?_setCell_other _ _ _ _ (by simp; try omega)]; exact hy'.cell kp2)
      have y4 := After.cell (show (V.setCell ⟨D, m, none⟩ (.int .i64 (-1))).cell? ⟨K, 4, none⟩ = some (.int .i64 (lst - lx)) from hCn.out.blk.cell 4)
      have hcl : Hid (∀ W, Ext (V.setCell ⟨D, m, none⟩ (.int .i64 (-1))) W → Calls Try.prog 42 #[.agg #[.int .i64 x.meeting, .slice xa x.people.length xc, .slice oa x.opts.length oc]] W
          fun e w' => e = .returned (.int .i64 lx) ∧ Ext W w') := fun W hW => by
        have := least_calls _ x W ⟨_, _, rfl, hgp.out.ext (hCn.out.ext.trans hW), hgo.out.ext (hCn.out.ext.trans hW)⟩
        rwa [hlx.out] at this
      have hml' : m < dec.length := hml
      clear kp0 kp1 kp2 kn0 q3 q0
      go_wp2_with fail
      refine wp_region_tail 7 (by kernel_rfl) (by kernel_rfl) ?_
      simp only [List.take_succ_cons, List.take_zero, List.drop_succ_cons, List.drop_zero]
      repeat (go_big_quiet_step ((exact After.call _ (hcl.out _ (After.ext _)))))
      refine wpQuiet_nil ?_
      rintro _ ⟨y', rfl⟩
      have hy2 := y'.ext
      generalize y'.world = V2 at hy2 ⊢
      clear y0 y1 y2 y4
      have hC2 := Lib.hid (hCn.out.toExt hy2)
      have fr4' : V2.frozen? ⟨K, 4, none⟩ = false := hC2.out.blk.frozen 4
      have q4' : V2.cell? ⟨K, 4, none⟩ = some (.int .i64 (lst - lx)) := hC2.out.blk.cell 4
      have hCe : Hid (Chk w0 (V2.setCell ⟨K, 4, none⟩ (.int .i64 lst)) K D (.slice (some ⟨b2, o2, none⟩) t.length tc) (.slice (some ⟨b1, o1, none⟩) c.length cc) t bound c dec lst) := Lib.hid (hC2.out.setLst lst)
      have hKe : Hid (Keep (fun g => g = K ∨ g = D) w (V2.setCell ⟨K, 4, none⟩ (.int .i64 lst))) := Lib.hid (((hk5.out.trans hKn.out).trans (Keep.of_ext hy2)).setCell (Or.inl (Or.inl rfl)) _)
      have hee : lst - lx + lx = lst := by omega
      go_wp2
      go_ret
      rw [hRt.out]
      exact ⟨rfl, hKe.out, fun _ => hCe.out⟩

theorem right_calls (w0 : World) (K D : Nat) (tv cv : Value) (t : List WishD) (bound : Int) (c : List NodeD) : ∀ (f : Nat) (w : World) (dec : List Int) (lst : Int) (at_ : Nat) (harm : Int),
    RightIn w0 w K D tv cv t bound c dec lst f at_ harm →
    Calls Try.prog 43 #[.pointer (some ⟨K, 0, none⟩), .int .i64 at_, .int .i64 harm] w (RightOut w0 w K D tv cv t bound c dec lst (rightP t bound c f dec lst at_ harm)) := by
  intro f
  induction f with
  | zero => intro w dec lst at_ harm H; have := H.lt; have := H.fuel; omega
  | succ f ih =>
    intro w dec lst at_ harm H
    obtain ⟨n, hn⟩ : ∃ n, c[at_]? = some n := ⟨c[at_]'H.lt, List.getElem?_eq_getElem H.lt⟩
    by_cases hw : n.wish = -1
    · exact right_leaf w0 w K D tv cv t bound c dec lst f at_ harm n H hn hw
    cases hi : idxB n.wish t.length with
    | false => exact right_idx w0 w K D tv cv t bound c dec lst f at_ harm n H hn hw hi
    | true =>
    rcases Int.lt_or_le (decAt dec n.wish) 0 with hd | hd
    case inr => exact right_decided w0 w K D tv cv t bound c dec lst f at_ harm n H hn hw hi hd
    by_cases hA : n.clA = 0
    case neg => exact right_clA w0 w K D tv cv t bound c dec lst f at_ harm n H hn hw hi hd hA
    by_cases hB : n.clB = 0
    case neg => exact right_clB w0 w K D tv cv t bound c dec lst f at_ harm n H hn hw hi hd hA hB
    obtain ⟨m, hm, hml⟩ := idxB_nat hi
    obtain ⟨x, hx⟩ : ∃ x, t[n.wish.toNat]? = some x := ⟨t[m], by rw [hm, Int.toNat_natCast]; exact List.getElem?_eq_getElem hml⟩
    by_cases hl : n.kids.length = x.opts.length
    · exact right_node w0 w K D tv cv t bound c dec lst f at_ harm n ih H hn hw hi hd hA hB x hx hl
    · exact right_len w0 w K D tv cv t bound c dec lst f at_ harm n H hn hw hi hd hA hB x hx hl
end Go.Proofs.Ytonmlmkemliefaa
