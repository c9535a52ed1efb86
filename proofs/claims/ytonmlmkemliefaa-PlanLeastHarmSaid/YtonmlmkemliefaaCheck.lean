/- Walks of the check: Check. -/
import Derived.Test.YtonmlmkemliefaaRightC
import Derived.Test.YtonmlmkemliefaaBestB
namespace Go.Proofs.Ytonmlmkemliefaa
open Go.RowKit

theorem tickKids_in {n i : Int} : ∀ {l ps qs : List Int}, tickKids n i l ps = some qs → ∀ k ∈ l, i < k ∧ k < n
  | [], _, _, _, k, hk => by cases hk
  | k' :: r, ps, qs, h, k, hk => by
    simp only [tickKids] at h
    split at h
    · cases h
    · rcases List.mem_cons.1 hk with rfl | hk
      · omega
      · exact tickKids_in h k hk
theorem tickAll_in {n : Int} : ∀ {l : List NodeD} {i : Int} {ps qs : List Int}, tickAll n l i ps = some qs → ∀ (j : Nat) (x : NodeD), l[j]? = some x → ∀ k ∈ x.kids, i + j < k ∧ k < n
  | [], _, _, _, _, j, x, hx, _, _ => by simp at hx
  | y :: r, i, ps, qs, h, j, x, hx, k, hk => by
    simp only [tickAll] at h
    split at h
    · cases h
    · rename_i ps' he
      cases j with
      | zero =>
        simp at hx; subst hx
        have := tickKids_in he k hk
        omega
      | succ j =>
        have := tickAll_in h j x (by simpa using hx) k hk
        omega
theorem formed_in {c : List NodeD} (h : formedB c = true) : 0 < c.length ∧ c.length ≤ 65536 ∧ ∀ (i : Nat) (n : NodeD), c[i]? = some n → ∀ k ∈ n.kids, (i : Int) < k ∧ k < c.length := by
  unfold formedB at h
  split at h
  · cases h
  · refine ⟨by omega, by omega, fun i n hn k hk => ?_⟩
    cases he : tickAll c.length c 0 (zerosL c.length) with
    | none => rw [he] at h; simp [tickOk] at h
    | some ps =>
      have := tickAll_in he i n hn k hk
      omega
def checkT (t : List WishD) (bound : Int) (c : List NodeD) : Int :=
  if validT t ≠ 0 then validT t else if formedB c = false then 3 else if rightP t bound c c.length (List.replicate t.length (-1)) (leastSum t) 0 0 then 0 else 11

def decI (n i : Nat) : List Int := List.replicate i (-1) ++ zerosL (n - i)
theorem decI_len {n i : Nat} (h : i ≤ n) : (decI n i).length = n := by simp [decI, zerosL]; omega
theorem decI_step {n i : Nat} (h : i < n) : (decI n i).set i (-1) = decI n (i + 1) := by
  unfold decI
  obtain ⟨k, hk⟩ : ∃ k, n - i = k + 1 := ⟨n - i - 1, by omega⟩
  have e : n - (i + 1) = k := by omega
  rw [hk, e, List.set_append_right _ _ (by simp)]
  simp [zerosL, List.replicate_succ]
  rw [show List.replicate i (-1 : Int) ++ -1 :: List.replicate k 0 = (List.replicate i (-1) ++ [-1]) ++ List.replicate k 0 by simp, ← List.replicate_succ', List.replicate_succ]
  simp
theorem decI_end (n : Nat) : decI n n = List.replicate n (-1) := by simp [decI, zerosL]

set_option maxHeartbeats 1600000 in
set_option maxRecDepth 100000 in
theorem check_invalid (tv cv : Value) (t : List WishD) (bound : Int) (c : List NodeD) (w : World) (h : Wishes w tv t) (hv : validT t ≠ 0) :
    Calls Try.prog 19 #[.agg #[tv], .int .i64 bound, cv] w fun e w' => e = .returned (.int .i64 (checkT t bound c)) ∧ Ext w w' := by
  have hh := Lib.hid h
  have hvv := Lib.hid hv
  obtain ⟨ta, tc, rfl⟩ := h.form
  have hnb : (validT t == 0) = false := by simpa using hv
  obtain ⟨vt, hvt⟩ : ∃ vt, Hid (validT t = vt) := ⟨_, rfl⟩
  have R : Hid (checkT t bound c = vt) := by show _ = _; unfold checkT; rw [if_pos hvv.out, hvt.out]
  rw [hvt.out] at hnb
  clear h hv
  go_enter Try.func19, Try.ntmps19
  go_wp2_with fail
  refine (valid_calls _ t _ (hh.out.ext (by exact (by repeat' (first | (with_reducible exact Ext.refl _) | (with_reducible assumption) | (with_reducible refine Ext.drewN ?_ _) | (with_reducible refine Ext.drew ?_) | (with_reducible refine Ext.alloc ?_ _) | (with_reducible refine Ext.trans ?_ (by with_reducible assumption))))))).mono ?_
  rintro e w1 ⟨rfl, hx1⟩
  have hx2 : Hid (Ext w w1) := Lib.hid (Ext.trans (by exact (by repeat' (first | (with_reducible exact Ext.refl _) | (with_reducible assumption) | (with_reducible refine Ext.drewN ?_ _) | (with_reducible refine Ext.drew ?_) | (with_reducible refine Ext.alloc ?_ _) | (with_reducible refine Ext.trans ?_ (by with_reducible assumption))))) hx1)
  rw [hvt.out]
  go_wp2
  go_ret
  rw [R.out]
  exact ⟨rfl, hx2.out⟩

set_option maxHeartbeats 1600000 in
set_option maxRecDepth 100000 in
theorem check_unformed (tv cv : Value) (t : List WishD) (bound : Int) (c : List NodeD) (w : World) (h : Wishes w tv t) (hc : Nodes w cv c) (hk : ∀ n ∈ c, n.kids.length ≤ 65536) (hv : validT t = 0) (hf : formedB c = false) :
    Calls Try.prog 19 #[.agg #[tv], .int .i64 bound, cv] w fun e w' => e = .returned (.int .i64 (checkT t bound c)) ∧ Ext w w' := by
  have hh := Lib.hid h
  have hcc := Lib.hid hc
  have hkk := Lib.hid hk
  have hvv := Lib.hid hv
  have hff := Lib.hid hf
  obtain ⟨ta, tc, rfl⟩ := h.form
  obtain ⟨ca, cc, rfl⟩ := hc.form
  have R : Hid (checkT t bound c = 3) := by show _ = _; unfold checkT; rw [if_neg (by simp [hv]), if_pos hf]
  clear h hv hc hk hf
  go_enter Try.func19, Try.ntmps19
  go_wp2_with fail
  refine (valid_calls _ t _ (hh.out.ext (by exact (by repeat' (first | (with_reducible exact Ext.refl _) | (with_reducible assumption) | (with_reducible refine Ext.drewN ?_ _) | (with_reducible refine Ext.drew ?_) | (with_reducible refine Ext.alloc ?_ _) | (with_reducible refine Ext.trans ?_ (by with_reducible assumption))))))).mono ?_
  rintro e w1 ⟨rfl, hx1⟩
  have hx2 : Hid (Ext w w1) := Lib.hid (Ext.trans (by exact (by repeat' (first | (with_reducible exact Ext.refl _) | (with_reducible assumption) | (with_reducible refine Ext.drewN ?_ _) | (with_reducible refine Ext.drew ?_) | (with_reducible refine Ext.alloc ?_ _) | (with_reducible refine Ext.trans ?_ (by with_reducible assumption))))) hx1)
  rw [hvv.out]
  clear hx1
  go_wp2_with fail
  refine (formed_calls _ c w1 (hcc.out.ext hx2.out) hkk.out).mono ?_
  rintro e w2 ⟨rfl, hx3⟩
  have hx4 := Lib.hid hx3
  rw [hff.out]
  clear hx3
  go_wp2
  go_ret
  rw [R.out]
  exact ⟨rfl, hx2.out.trans hx4.out⟩

set_option maxHeartbeats 3200000 in
set_option maxRecDepth 100000 in
theorem check_formed (tv cv : Value) (t : List WishD) (bound : Int) (c : List NodeD) (w : World) (h : Wishes w tv t) (hc : Nodes w cv c) (hk : ∀ n ∈ c, n.kids.length ≤ 65536) (hv : validT t = 0) (hf : formedB c = true) :
    Calls Try.prog 19 #[.agg #[tv], .int .i64 bound, cv] w fun e w' => e = .returned (.int .i64 (checkT t bound c)) ∧ Ext w w' := by
  have hh := Lib.hid h
  have hcc := Lib.hid hc
  have hkk := Lib.hid hk
  have hvv := Lib.hid hv
  have hff := Lib.hid hf
  obtain ⟨ta, tc, rfl, _, _, hat⟩ := h.open
  obtain ⟨ca, cc, rfl⟩ := hc.form
  have hL : t.length ≤ 512 := by
    have := (validT_ok hv).1
    simp [tooLargeB] at this
    exact this.1
  have hmk := run_make_ints t.length (by omega)
  obtain ⟨rb, hrb⟩ : ∃ rb, Hid (rightP t bound c c.length (List.replicate t.length (-1)) (leastSum t) 0 0 = rb) := ⟨_, rfl⟩
  have R : Hid (checkT t bound c = if rb = true then 0 else 11) := by show _ = _; unfold checkT; rw [if_neg (by simp [hv]), if_neg (by simp [hf]), hrb.out]
  have hat' := Lib.hid hat
  clear h hv hc hk hf hat
  go_enter Try.func19, Try.ntmps19
  go_wp2_with fail
  refine (valid_calls _ t _ (hh.out.ext (by exact (by repeat' (first | (with_reducible exact Ext.refl _) | (with_reducible assumption) | (with_reducible refine Ext.drewN ?_ _) | (with_reducible refine Ext.drew ?_) | (with_reducible refine Ext.alloc ?_ _) | (with_reducible refine Ext.trans ?_ (by with_reducible assumption))))))).mono ?_
  rintro e w1 ⟨rfl, hx1⟩
  have c0 : w1.cell? ⟨w.heap.size, 0, none⟩ = some (.slice ta t.length tc) := hx1.cell (by simp)
  have hx2 : Hid (Ext w w1) := Lib.hid (Ext.trans (by exact (by repeat' (first | (with_reducible exact Ext.refl _) | (with_reducible assumption) | (with_reducible refine Ext.drewN ?_ _) | (with_reducible refine Ext.drew ?_) | (with_reducible refine Ext.alloc ?_ _) | (with_reducible refine Ext.trans ?_ (by with_reducible assumption))))) hx1)
  rw [hvv.out]
  clear hx1
  go_wp2_with fail
  refine (formed_calls _ c w1 (hcc.out.ext hx2.out) hkk.out).mono ?_
  rintro e w2 ⟨rfl, hx3⟩
  have hx4 := Lib.hid (hx2.out.trans hx3)
  have c0' := hx3.cell c0
  rw [hff.out]
  clear hx3 c0 hx2
  have hw0 : w.heap.size < w2.heap.size := World.block_lt_of_cell? _ _ c0'
  go_wp2_with fail
  go_region
  go_step; go_step
  have hC0 : Hid (Chk w2 (((w2.alloc (Obj.cells (zerosV t.length) 3)).alloc (Obj.cells #[Value.slice ta t.length tc, Value.int IntKind.i64 bound, Value.slice ca c.length cc, Value.slice (some { block := w2.heap.size, off := 0 }) t.length t.length, Value.int IntKind.i64 0] 100)).drew)
      (w2.heap.size + 1) w2.heap.size (.slice ta t.length tc) (.slice ca c.length cc) t bound c (decI t.length 0) 0) := by
    refine ⟨(((Ext.refl w2).alloc _).alloc _).drew, hh.out.ext hx4.out, hcc.out.ext hx4.out, by omega, by omega, ?_, ?_⟩
    · rw [decI_len (Nat.zero_le _)]
      exact (blk_new' (by simp only [World.size_alloc]) rfl).drew
    · exact ((blk_new' rfl (by simp [decI, zerosV])).alloc _).drew
  refine wp_abs (S := fun W => Hid (Chk w2 W (w2.heap.size + 1) w2.heap.size (.slice ta t.length tc) (.slice ca c.length cc) t bound c (decI t.length 0) 0)) hC0 ?_
  clear hC0
  intro W2 hC2
  generalize w2.heap.size + 1 = K at hC2 ⊢
  obtain ⟨D, hD⟩ : ∃ D, Hid (w2.heap.size = D) := ⟨_, rfl⟩
  rw [hD.out] at hC2 ⊢
  have c0 := hC2.out.ext.cell c0'
  have hharm := Lib.hid (harms_of hvv.out)
  go_wp2_with fail
  go_loopw [9, 10, 31] (fun _ _ vi wr => ∃ i : Nat, i ≤ t.length ∧ vi = .int .i64 i ∧ Hid (Chk w2 wr K D (.slice ta t.length tc) (.slice ca c.length cc) t bound c (decI t.length i) (leastSum t - leastSum (t.drop i)))) (fun _ _ vi _ => t.length - (intOf vi).toNat)
  case atStart => exact ⟨0, by omega, rfl, by simpa using hC2⟩
  case round =>
    obtain ⟨i, hi, rfl, hC⟩ := hrel
    by_cases h1 : i < t.length
    · obtain ⟨b1, o1, x, xa, xc, oa, oc, rfl, hb1, dx, ex, g0, g1, g2, gp, go⟩ := hat'.out i h1 w2 hx4.out
      have g0 := hC.out.ext.cell g0
      have g1 := hC.out.ext.cell g1
      have g2 := hC.out.ext.cell g2
      have hb1 : b1 < wr.heap.size := Nat.lt_of_lt_of_le hb1 hC.out.ext.size
      have hls : Hid (leastSum (t.drop i) = leastSum (t.drop (i + 1)) + leastB x) := by show _ = _; rw [dx.out]; rfl
      have hb0 := leastSum_bd t (fun x hx o ho => (hharm.out x hx o ho).1)
      have hb2 := leastSum_bd (t.drop i) (fun x hx o ho => (hharm.out x (List.mem_of_mem_drop hx) o ho).1)
      have hb3 := leastSum_bd [x] (fun y hy o ho => by simp at hy; subst hy; exact (hharm.out y (List.mem_of_getElem? ex.out) o ho).1)
      have hlx0 : 0 ≤ leastB x := by have := hb3.1; simpa [leastSum] using this
      have hlx1 : leastB x ≤ 1000000 := by have := hb3.2; simpa [leastSum] using this
      obtain ⟨li, hli⟩ : ∃ li, Hid (leastSum t - leastSum (t.drop i) = li) := ⟨_, rfl⟩
      have hli0 : -1000000000 ≤ li := by rw [← hli.out]; have := hb0.1; have := hb2.2; simp at this; omega
      have hli1 : li ≤ 1000000000 := by rw [← hli.out]; have := hb0.2; have := hb2.1; omega
      rw [hli.out] at hC
      have hgp := Lib.hid gp
      have hgo := Lib.hid go
      have kk3 : wr.cell? ⟨K, 3, none⟩ = some (.slice (some ⟨D, 0, none⟩) t.length t.length) := by
        have := hC.out.blk.cell 3
        rw [this, decI_len (by omega)]; rfl
      have kd : wr.cell? ⟨D, i, none⟩ = some (.int .i64 ((decI t.length i)[i]?.getD 0)) := by
        rw [hC.out.db.cell i]
        simp [decI_len (Nat.le_of_lt h1), h1]
      generalize (decI t.length i)[i]?.getD 0 = old at kd
      have kf : wr.frozen? ⟨D, i, none⟩ = false := hC.out.db.frozen _
      have hKw : K < wr.heap.size := hC.out.blk.lt
      have hDw : D < wr.heap.size := hC.out.db.lt
      have hKD := hC.out.ne
      have hCn := Lib.hid (hC.out.setDec i (-1))
      rw [decI_step h1] at hCn
      clear hb0 hb2 hb3 gp go
      go_wp2_with fail
      refine wp_abs (S := fun V => Hid (Chk w2 V K D (.slice (some ⟨b1, o1, none⟩) t.length tc) (.slice ca c.length cc) t bound c (decI t.length (i + 1)) li) ∧ V.cell? ⟨wr.heap.size, 0, none⟩ = some (.int .i64 x.meeting) ∧
        V.cell? ⟨wr.heap.size, 1, none⟩ = some (.slice xa x.people.length xc) ∧ V.cell? ⟨wr.heap.size, 2, none⟩ = some (.slice oa x.opts.length oc)) ?_ ?_
      · have hcell := fun k => (Blk.new (wr.setCell ⟨D, i, none⟩ (.int .i64 (-1))) 56 #[Value.int IntKind.i64 x.meeting, Value.slice xa x.people.length xc, Value.slice oa x.opts.length oc]).cell k
        rw [World.size_setCell] at hcell
        exact ⟨Lib.hid (hCn.out.toExt ((Ext.refl _).alloc _)), hcell 0, hcell 1, hcell 2⟩
      rintro V ⟨hCV, p0, p1, p2⟩
      have a0 := After.cell p0
      have a1 := After.cell p1
      have a2 := After.cell p2
      have a4 := After.cell (show V.cell? ⟨K, 4, none⟩ = some (.int .i64 li) from hCV.out.blk.cell 4)
      have hcl : Hid (∀ W, Ext V W → Calls Try.prog 42 #[.agg #[.int .i64 x.meeting, .slice xa x.people.length xc, .slice oa x.opts.length oc]] W
          fun e w' => e = .returned (.int .i64 (leastB x)) ∧ Ext W w') := fun W hW => least_calls _ x W ⟨_, _, rfl, hgp.out.ext (hCV.out.ext.trans hW), hgo.out.ext (hCV.out.ext.trans hW)⟩
      obtain ⟨lx, hlx⟩ : ∃ lx, Hid (leastB x = lx) := ⟨_, rfl⟩
      rw [hlx.out] at hcl hlx0 hlx1 hls
      clear kk3 kd kf p0 p1 p2 g0 g1 g2
      go_wp2_with fail
      refine wp_region_tail 7 (by kernel_rfl) (by kernel_rfl) ?_
      simp only [List.take_succ_cons, List.take_zero, List.drop_succ_cons, List.drop_zero]
      repeat (go_big_quiet_step ((exact After.call _ (hcl.out _ (After.ext _)))))
      refine wpQuiet_nil ?_
      rintro _ ⟨y, rfl⟩
      have hy := y.ext
      generalize y.world = V2 at hy ⊢
      clear a0 a1 a2 a4
      have hC2' := Lib.hid (hCV.out.toExt hy)
      have fr4 : V2.frozen? ⟨K, 4, none⟩ = false := hC2'.out.blk.frozen 4
      have q4 : V2.cell? ⟨K, 4, none⟩ = some (.int .i64 li) := hC2'.out.blk.cell 4
      have hCe : Hid (Chk w2 (V2.setCell ⟨K, 4, none⟩ (.int .i64 (li + lx))) K D (.slice (some ⟨b1, o1, none⟩) t.length tc) (.slice ca c.length cc) t bound c (decI t.length (i + 1)) (leastSum t - leastSum (t.drop (i + 1)))) := by
        have e : leastSum t - leastSum (t.drop (i + 1)) = li + lx := by rw [← hli.out, hls.out]; omega
        rw [e]
        exact hC2'.out.setLst (li + lx)
      go_wp2
      go_roundw
      case rel => exact ⟨i + 1, by omega, by go_num, hCe⟩
      case measure => simp [intOf]; omega
    · have hie : i = t.length := by omega
      obtain ⟨f1, f2, f3⟩ := formed_in hff.out
      have hb0 := leastSum_bd t (fun x hx o ho => (hharm.out x hx o ho).1)
      have hC' : Hid (Chk w2 wr K D (.slice ta t.length tc) (.slice ca c.length cc) t bound c (List.replicate t.length (-1)) (leastSum t)) := by
        have := hC.out
        rw [hie, decI_end, List.drop_length] at this
        simp only [leastSum, Int.sub_zero] at this
        exact this
      have hr := Lib.hid (right_calls w2 K D _ _ t bound c c.length wr (List.replicate t.length (-1)) (leastSum t) 0 0
        ⟨hC'.out, taskIn_of hvv.out, hharm.out, ⟨by simp, fun i x d hx hd => by
          rw [List.getElem?_replicate] at hd
          split at hd
          · cases hd; omega
          · cases hd⟩, f3, f2, f1, by omega, Int.le_refl _, by simp, by have := hb0.1; omega, by have := hb0.2; omega⟩)
      rw [hrb.out] at hr
      clear hC hb0
      go_wp2_with fail
      refine hr.out.mono ?_
      rintro e w7 ⟨rfl, hk7, _⟩
      have hbK := hC'.out.bK
      have hbD := hC'.out.bD
      have hxe : Hid (Ext w w7) := Lib.hid ((hx4.out.trans hC'.out.ext).keep hk7 (by
        have := hx4.out.size
        rintro i hi (rfl | rfl) <;> omega))
      cases rb with
      | false =>
        go_wp2
        go_ret
        rw [R.out]
        exact ⟨rfl, hxe.out⟩
      | true =>
        go_wp2
        go_ret
        rw [R.out]
        exact ⟨rfl, hxe.out⟩

theorem check_calls (tv cv : Value) (t : List WishD) (bound : Int) (c : List NodeD) (w : World) (h : Wishes w tv t) (hc : Nodes w cv c) (hk : ∀ n ∈ c, n.kids.length ≤ 65536) :
    Calls Try.prog 19 #[.agg #[tv], .int .i64 bound, cv] w fun e w' => e = .returned (.int .i64 (checkT t bound c)) ∧ Ext w w' := by
  by_cases hv : validT t = 0
  · cases hf : formedB c with
    | false => exact check_unformed tv cv t bound c w h hc hk hv hf
    | true => exact check_formed tv cv t bound c w h hc hk hv hf
  · exact check_invalid tv cv t bound c w h hv
end Go.Proofs.Ytonmlmkemliefaa
