/- The law PlanWithoutClashes, walked: true for every task that Made makes. -/
import Derived.Test.YtonmlmkemliefaaWoA
import Derived.Test.YtonmlmkemliefaaRO
import Derived.Test.YtonmlmkemliefaaSanLaw
namespace Go.Proofs.Ytonmlmkemliefaa
open Go.RowKit

theorem want_step {t : List WishD} {i : Nat} {x : WishD} (hx : t[i]? = some x) : wantT (t.take (i + 1)) = wantT (t.take i) ++ [(firstW x : Int)] := by
  unfold wantT; rw [List.take_add_one, hx]; simp
theorem sumH_snoc : ∀ {t : List WishD} {p : List Int} {x : WishD} {k : Int}, t.length = p.length → sumH (t ++ [x]) (p ++ [k]) = sumH t p + ((x.opts[k.toNat]?).getD default).harm
  | [], [], x, k, _ => by simp [sumH]
  | [], _ :: _, _, _, h => by simp at h
  | _ :: _, [], _, _, h => by simp at h
  | y :: t, m :: p, x, k, h => by
    have := sumH_snoc (t := t) (p := p) (x := x) (k := k) (by simpa using h)
    simp only [List.cons_append, sumH, this]; omega
theorem total_step {t : List WishD} {i : Nat} {x : WishD} (hx : t[i]? = some x) : totalT (t.take (i + 1)) = totalT (t.take i) + ((x.opts[firstW x]?).getD default).harm := by
  unfold totalT
  rw [want_step hx, show t.take (i + 1) = t.take i ++ [x] by rw [List.take_add_one, hx]; rfl, sumH_snoc (by simp [wantT])]
  simp
theorem total_bd : ∀ {t : List WishD}, (∀ x ∈ t, ∀ o ∈ x.opts, 0 ≤ o.harm ∧ o.harm ≤ 5) → 0 ≤ totalT t ∧ totalT t ≤ 5 * (t.length : Int)
  | [], _ => by simp [totalT, sumH]
  | x :: t, h => by
    have ih := total_bd (t := t) fun y hy => h y (List.mem_cons_of_mem _ hy)
    have e1 : totalT (x :: t) = (x.opts[firstW x]?.getD default).harm + totalT t := by simp [totalT, wantT, sumH]
    have hb : 0 ≤ (x.opts[firstW x]?.getD default).harm ∧ (x.opts[firstW x]?.getD default).harm ≤ 5 := by
      cases e : x.opts[firstW x]? with
      | none => exact ⟨Int.le_refl _, by decide⟩
      | some o => exact h x List.mem_cons_self o (List.mem_of_getElem? e)
    simp only [List.length_cons]
    omega
set_option maxHeartbeats 6400000 in
set_option maxRecDepth 100000 in
theorem planWithoutClashes_calls (rv : Value) (l : List RawD) (w : World) (h : Raws w rv l) :
    Calls Try.prog 7 #[rv] w fun e w' => e = .returned (.bool true) ∧ Ext w w' := by
  have hraw := Lib.hid h
  have hok := Lib.hid h.ok
  obtain ⟨j0, hj0, jz0, jz1, jz2⟩ := info_parts int_info
  clear h
  go_enter Try.func7, Try.ntmps7
  go_wp2_with fail
  refine (sanity_calls _).mono ?_
  rintro e' w1 ⟨rfl, hx1⟩
  have hx1' := Lib.hid hx1
  clear hx1
  go_wp2_with fail
  refine (madeS_calls rv l w1 (hraw.out.ext hx1'.out)).mono ?_
  rintro e' w2 ⟨tv, rfl, ht, hx2⟩
  obtain ⟨t, ht0⟩ : ∃ t, Hid (madeT l = t) := ⟨_, rfl⟩
  have hv : Hid (validT t = 0) := by rw [← ht0.out]; exact made_valid hok.out
  have hm : Hid (∀ x ∈ t, x.opts.length ≤ 4) := by rw [← ht0.out]; exact fun x hx => (made_opts hok.out hx).2.1
  have ho : Hid (∀ x ∈ t, 0 < x.opts.length) := by rw [← ht0.out]; exact fun x hx => (made_opts hok.out hx).1
  have hh : Hid (∀ x ∈ t, ∀ o ∈ x.opts, 0 ≤ o.harm ∧ o.harm ≤ 5) := by rw [← ht0.out]; exact fun x hx o ho => ⟨(harms_of (made_valid hok.out) x hx o ho).1, ((made_opts hok.out hx).2.2.2 o ho).2⟩
  have hlen : 0 < t.length ∧ t.length ≤ 4 := by rw [← ht0.out]; exact made_len
  rw [ht0.out] at ht
  clear ht0
  obtain ⟨xs0, hrow0, hparts0, hsep0⟩ := ht
  obtain ⟨g0, c0, rfl⟩ := owns_posS hrow0 hlen.1
  have hx2' := Lib.hid hx2
  have hrow0' := Lib.hid hrow0
  have hparts0' := Lib.hid hparts0
  have hsep0' := Lib.hid hsep0
  clear hrow0 hparts0 hsep0 hx2
  go_wp2_with fail
  refine wp_abs (S := fun W => Hid (CalmAt w1 W w2.heap.size g0 c0 (stateT t 0) xs0) ∧ Hid (IntsO W w1.heap.size (.slice (some ⟨w2.heap.size + 1, 0, none⟩) 0 0) []) ∧ Hid (Apart xs0 (w2.heap.size + 1))) ?_ ?_
  · rw [stateT_zero]
    have e1 : Ext w2 ((w2.alloc (.cells #[.slice (some ⟨g0, 0, none⟩) t.length c0] 26)).alloc (.cells #[] 3)) := by exact (by repeat' (first | (with_reducible exact Ext.refl _) | (with_reducible assumption) | (with_reducible refine Ext.drewN ?_ _) | (with_reducible refine Ext.drew ?_) | (with_reducible refine Ext.alloc ?_ _) | (with_reducible refine Ext.trans ?_ (by with_reducible assumption))))
    refine ⟨Lib.hid ⟨hx2'.out.trans e1, hx2'.out.size, Blk.alloc (blk_new' rfl rfl) _, owns_ext hrow0'.out e1, WishesCO.ext e1 hparts0'.out, hsep0'.out⟩, Lib.hid ?_, Lib.hid fun j e => ?_⟩
    · have := World.ownsRow_made (base := w1.heap.size) (e := 3) (size := 1) (w2.alloc (.cells #[.slice (some ⟨g0, 0, none⟩) t.length c0] 26)) #[] 0 (by have := hx2'.out.size; rw [World.size_alloc]; omega) (by unfold maxLen; omega) rfl
      rw [World.size_alloc] at this
      exact this
    · have := hparts0'.out.pplLt e
      omega
  clear hrow0' hparts0' hsep0'
  rintro W0 ⟨hC0, hI0, hA0⟩
  obtain ⟨gt, hgt⟩ : ∃ gt, Hid (w2.heap.size = gt) := ⟨_, rfl⟩
  rw [hgt.out] at hC0 hI0 hA0 ⊢
  clear hgt
  go_loopw [5, 6, 7] (fun vt vw vi wr => ∃ (i : Nat) (xs : List Value), i ≤ t.length ∧ vi = .int .i64 i ∧ vt = .int .i64 (totalT (t.take i)) ∧ Hid (CalmAt w1 wr gt g0 c0 (stateT t i) xs) ∧ Hid (IntsO wr w1.heap.size vw (wantT (t.take i))) ∧ Hid (∀ g, vw.ownBlock = some g → Apart xs g)) (fun _ _ vi _ => t.length - (intOf vi).toNat)
  case atStart => exact ⟨0, xs0, by omega, rfl, rfl, hC0, hI0, by intro g hg; simp [Value.ownBlock] at hg; subst hg; exact hA0.out⟩
  case round =>
    clear hC0 hI0 hA0
    obtain ⟨i, xs, hi, rfl, rfl, hC, hI, hA⟩ := hrel
    have hsl := stateT_len hi
    have ct : wr.cell? ⟨gt, 0, none⟩ = some (.slice (some ⟨g0, 0, none⟩) t.length c0) := by have := hC.out.task.cell 0; rw [hsl] at this; exact this
    have htb := total_bd (t := t.take i) fun x hx => hh.out x (List.mem_of_mem_take hx)
    have htl : (t.take i).length = i := by simp; omega
    rw [htl] at htb
    by_cases h1 : i < t.length
    · have hx := Lib.hid (List.getElem?_eq_getElem h1)
      have hxo := Lib.hid (ho.out _ (List.getElem_mem h1))
      have hxm := Lib.hid (hm.out _ (List.getElem_mem h1))
      have hxh := Lib.hid (hh.out _ (List.getElem_mem h1))
      generalize t[i] = x at hx hxo hxm hxh
      have hsx : Hid ((stateT t i)[i]? = some x) := by show _ = _; rw [stateT_get hi, if_neg (by omega)]; exact hx.out
      obtain ⟨xn, hxn⟩ : ∃ n, Hid (x.opts.length = n) := ⟨_, rfl⟩
      have hxn0 : 0 < xn ∧ xn ≤ 4 := by rw [← hxn.out]; exact ⟨hxo.out, hxm.out⟩
      obtain ⟨pv, ov, k0, k1, k2, kp, ko⟩ := hC.out.parts.atO i x hsx.out
      have hrow := hC.out.row
      rw [hsl] at hrow
      have hxl := hC.out.parts.len
      rw [hsl] at hxl
      have d1 := hrow.cellAt (i * 3 + 1) (by omega)
      rw [k1] at d1
      obtain ⟨pA, pC, rfl⟩ := owns_form kp
      have f1 := hrow.frozenAt (i * 3 + 1)
      have lg0 := (hrow.lt g0 rfl).2
      have lgt := hC.out.task.lt
      have hIw := hI.out
      obtain ⟨wA, wC, rfl⟩ := owns_form hIw
      have lvw : ∀ g, Value.ownBlock (.slice wA (wantT (t.take i)).length wC) = some g → g < wr.heap.size := fun g hg => (World.ownsRow.lt hIw g hg).2
      have lvw' := Lib.hid lvw
      clear k0 k1 hrow kp ko hIw lvw
      have hwl : (wantT (t.take i)).length = i := by simp [wantT]; omega
      obtain ⟨tot, htot⟩ : ∃ tot, Hid (totalT (t.take i) = tot) := ⟨_, rfl⟩
      rw [htot.out] at htb ⊢
      rw [hwl] at hA lvw' ⊢
      have hwl' := Lib.hid hwl
      clear hwl
      obtain ⟨gp, hgp⟩ : ∃ gp, Hid (wr.heap.size = gp) := ⟨_, rfl⟩
      go_upto_region 10 with (fail)
      refine wp_abs (S := fun W => Hid (CalmAt w1 W gt g0 c0 ((stateT t i).set i (inW i x 0)) (xs.set (i * 3 + 1) (.slice (some ⟨gp, 0, none⟩) 1 1))) ∧ Hid (IntsO W w1.heap.size (.slice wA i wC) (wantT (t.take i))) ∧ Hid (∀ g, Value.ownBlock (.slice wA i wC) = some g → Apart (xs.set (i * 3 + 1) (.slice (some ⟨gp, 0, none⟩) 1 1)) g)) ?_ ?_
      · have e1 := (Ext.refl wr).alloc (.cells #[.int .i64 (100 + (i : Int))] 3)
        have hnew : IntsO (wr.alloc (.cells #[.int .i64 (100 + (i : Int))] 3)) w1.heap.size (.slice (some ⟨wr.heap.size, 0, none⟩) 1 1) [100 + (i : Int)] :=
          World.ownsRow_lit (base := w1.heap.size) (e := 3) (size := 1) wr #[.int .i64 (100 + (i : Int))] 1 hC.out.ext.size (by decide) rfl
        have hC1 := (hC.out.toExt e1).people hsx.out hnew
        rw [show ({ x with people := [100 + (i : Int)] } : WishD) = inW i x 0 by simp [inW]] at hC1
        rw [hgp.out] at hC1 ⊢
        have hkp := keep_set (wr.alloc (.cells #[.int .i64 (100 + (i : Int))] 3)) g0 (i * 3 + 1) (.slice (some ⟨gp, 0, none⟩) 1 1)
        rw [← World.setCell_alloc_past (w := wr) (.cells #[.int .i64 (100 + (i : Int))] 3) g0 (i * 3 + 1) (.slice (some ⟨gp, 0, none⟩) 1 1) lg0]
        refine ⟨Lib.hid hC1, Lib.hid ?_, Lib.hid fun g hg => (hA.out g hg).setPeople i ?_⟩
        · have h2 := hI.out.ext e1
          unfold IntsO at h2 ⊢
          rw [hwl'.out] at h2 ⊢
          exact owns_keepT (T := 56) h2 hkp (by rintro _ rfl _; exact owns_block (owns_ext hC.out.row e1) rfl) (by decide)
        · intro e
          have := lvw'.out g hg
          simp [Value.ownBlock] at e
          have := hgp.out
          omega
      clear hC hI hA d1 f1 lvw' ct hgp
      rintro W5 ⟨hC5, hI5, hA5⟩
      generalize xs.set (i * 3 + 1) (.slice (some ⟨gp, 0, none⟩) 1 1) = xp at hC5 hA5
      go_wp2_with fail
      go_loopw [8, 9] (fun vf vk wk => ∃ k : Nat, k ≤ xn ∧ vk = .int .i64 k ∧ vf = .int .i64 (firstTo x.opts k) ∧ Hid (CalmAt w1 wk gt g0 c0 ((stateT t i).set i (inW i x k)) xp) ∧ Hid (IntsO wk w1.heap.size (.slice wA i wC) (wantT (t.take i)))) (fun _ vk _ => xn - (intOf vk).toNat)
      case atStart => exact ⟨0, by omega, rfl, rfl, hC5, hI5⟩
      case round =>
        clear hC5 hI5
        obtain ⟨k, hk, rfl, rfl, hC, hI⟩ := hrel
        have hset : Hid (((stateT t i).set i (inW i x k))[i]? = some (inW i x k)) := by show _ = _; rw [List.getElem?_set, if_pos rfl, if_pos (by omega)]
        have hsl2 : ((stateT t i).set i (inW i x k)).length = t.length := by rw [List.length_set]; exact hsl
        have ct : wr.cell? ⟨gt, 0, none⟩ = some (.slice (some ⟨g0, 0, none⟩) t.length c0) := by have := hC.out.task.cell 0; rw [hsl2] at this; exact this
        obtain ⟨pv, ov, k0, k1, k2, kp, ko⟩ := hC.out.parts.atO i _ hset.out
        have hrow := hC.out.row
        rw [hsl2] at hrow
        have d2 := hrow.cellAt (i * 3 + 2) (by omega)
        rw [k2] at d2
        obtain ⟨ys, hyr, hyo⟩ := ko
        rw [inW_len, hxn.out] at hyr
        obtain ⟨go, oc, rfl⟩ := owns_posS hyr hxn0.1
        have hyl := hyr.1
        have hff := firstTo_le x.opts k
        obtain ⟨f, hf⟩ : ∃ f, Hid (firstTo x.opts k = f) := ⟨_, rfl⟩
        rw [hf.out] at hff ⊢
        by_cases q1 : k < xn
        · have hkx : k < x.opts.length := by rw [hxn.out]; exact q1
          have ho1 := Lib.hid (List.getElem?_eq_getElem hkx)
          generalize x.opts[k] = o at ho1
          have hin : Hid ((inW i x k).opts[k]? = some o) := by show _ = _; rw [inW_get (by omega), if_neg (by omega)]; exact ho1.out
          have r1 := hyr.cellAt (k * 3 + 1) (by omega)
          have hfr1 := hyr.frozenAt (k * 3 + 1)
          obtain ⟨_, a0, a1, a2, _⟩ := hyo.read.at_ k o hin.out
          rw [a1] at r1
          have lgo := (hyr.lt go rfl).2
          have k2' := Lib.hid k2
          have hyr' := Lib.hid hyr
          clear k0 k1 k2 hrow kp hyr hyo a0 a1 a2
          go_upto_region 14 with (fail)
          refine wp_abs (S := fun W => Hid (CalmAt w1 W gt g0 c0 ((stateT t i).set i (inW i x (k + 1))) xp) ∧ Hid (IntsO W w1.heap.size (.slice wA i wC) (wantT (t.take i)))) ?_ ?_
          · have hC1 := hC.out.room (k := k) (go := go) (oc := oc) hset.out hin.out (by rw [inW_len, hxn.out]; exact k2'.out)
            rw [List.set_set, show ({ inW i x k with opts := (inW i x k).opts.set k { o with room := -1 } } : WishD) = inW i x (k + 1) by rw [← inW_step ho1.out]; rfl] at hC1
            have kk := keep_set wr go (k * 3 + 1) (.int .i64 (-1))
            exact ⟨Lib.hid hC1, Lib.hid (hI.out.keepT kk (T := 59) (by rintro _ rfl _; exact owns_block hyr'.out rfl) (by decide))⟩
          clear hC hI ct d2 r1 hfr1 hset hsl2 k2' hyr' hin hyl lgo
          rintro W6 ⟨hC, hI⟩
          have hset : Hid (((stateT t i).set i (inW i x (k + 1)))[i]? = some (inW i x (k + 1))) := by show _ = _; rw [List.getElem?_set, if_pos rfl, if_pos (by omega)]
          have hsl2 : ((stateT t i).set i (inW i x (k + 1))).length = t.length := by rw [List.length_set]; exact hsl
          have ct : W6.cell? ⟨gt, 0, none⟩ = some (.slice (some ⟨g0, 0, none⟩) t.length c0) := by have := hC.out.task.cell 0; rw [hsl2] at this; exact this
          obtain ⟨pv, ov, k0, k1, k2, kp, ko⟩ := hC.out.parts.atO i _ hset.out
          have hrow := hC.out.row
          rw [hsl2] at hrow
          have d2 := hrow.cellAt (i * 3 + 2) (by omega)
          rw [k2] at d2
          obtain ⟨ys, hyr, hyo⟩ := ko
          rw [inW_len, hxn.out] at hyr
          obtain ⟨go, oc, rfl⟩ := owns_posS hyr hxn0.1
          have hyl := hyr.1
          have r0 := hyr.cellAt (k * 3) (by omega)
          have r1 := hyr.cellAt (f * 3) (by omega)
          have hl1 : k < (inW i x (k + 1)).opts.length := by rw [inW_len, hxn.out]; exact q1
          have hl2 : f < (inW i x (k + 1)).opts.length := by rw [inW_len, hxn.out]; omega
          obtain ⟨_, a0, _⟩ := hyo.read.at_ k _ (List.getElem?_eq_getElem hl1)
          obtain ⟨_, b0, _⟩ := hyo.read.at_ f _ (List.getElem?_eq_getElem hl2)
          rw [a0] at r0
          rw [b0] at r1
          obtain ⟨ha, hha⟩ : ∃ ha, Hid (((inW i x (k + 1)).opts[k]'hl1).harm = ha) := ⟨_, rfl⟩
          obtain ⟨hb, hhb⟩ : ∃ hb, Hid (((inW i x (k + 1)).opts[f]'hl2).harm = hb) := ⟨_, rfl⟩
          have hha' : Hid (((x.opts[k]?).getD default).harm = ha) := by
            show _ = _
            rw [← inW_harm (i := i) (k := k + 1) (by omega) k, List.getElem?_eq_getElem hl1]; exact hha.out
          have hhb' : Hid (((x.opts[f]?).getD default).harm = hb) := by
            show _ = _
            rw [← inW_harm (i := i) (k := k + 1) (by omega) f, List.getElem?_eq_getElem hl2]; exact hhb.out
          rw [hha.out] at r0
          rw [hhb.out] at r1
          have z0 := After.cell ct
          have z1 := After.cell d2
          have z2 := After.cell r0
          have z3 := After.cell r1
          clear k0 k1 k2 hrow kp hyr hyo a0 b0 hset hsl2 hyl hha hhb
          by_cases hlt : ha < hb
          · have hN : Hid (firstTo x.opts (k + 1) = k) := by show _ = _; simp only [firstTo]; rw [hf.out, hha'.out, hhb'.out, if_pos hlt]
            have hd : decide (ha < hb) = true := decide_eq_true hlt
            clear hlt
            refine wp_region_after (by kernel_rfl) (by kernel_rfl) ?_
            (repeat (go_big_quiet_step (fail)))
            with_reducible refine wpQuiet_nil ?_
            rintro _ ⟨u, rfl⟩
            have hu := u.ext
            generalize u.world = V at hu ⊢
            clear z0 z1 z2 z3
            go_wp2
            go_roundw
            case rel => exact ⟨k + 1, by omega, by go_num, by rw [hN.out], Lib.hid (hC.out.toExt hu), Lib.hid (hI.out.ext hu)⟩
            case measure => simp [intOf]; omega
          · have hN : Hid (firstTo x.opts (k + 1) = f) := by show _ = _; simp only [firstTo]; rw [hf.out, hha'.out, hhb'.out, if_neg hlt]
            have hd : decide (ha < hb) = false := decide_eq_false hlt
            clear hlt
            refine wp_region_after (by kernel_rfl) (by kernel_rfl) ?_
            (repeat (go_big_quiet_step (fail)))
            with_reducible refine wpQuiet_nil ?_
            rintro _ ⟨u, rfl⟩
            have hu := u.ext
            generalize u.world = V at hu ⊢
            clear z0 z1 z2 z3
            go_wp2
            go_roundw
            case rel => exact ⟨k + 1, by omega, by go_num, by rw [hN.out], Lib.hid (hC.out.toExt hu), Lib.hid (hI.out.ext hu)⟩
            case measure => simp [intOf]; omega
        · have hke : Hid (k = x.opts.length) := by show _ = _; rw [hxn.out]; omega
          have hfw : Hid (firstW x = f) := by rw [hke.out] at hf; exact hf
          have hst : Hid ((stateT t i).set i (inW i x k) = stateT t (i + 1)) := by show _ = _; rw [hke.out, inW_all, stateT_step hx.out]
          rw [hst.out] at hC
          have hcd : decide ((k : Int) < (xn : Int)) = false := decide_eq_false (by omega)
          have hfx : f < xn := by
            have := (firstTo_spec x.opts x.opts.length (by rw [hxn.out]; exact hxn0.1)).1
            rw [← hfw.out]; rw [hxn.out] at this; unfold firstW; rw [hxn.out]; exact this
          have hl2 : f < x.opts.length := by rw [hxn.out]; exact hfx
          obtain ⟨hb, hhb⟩ : ∃ hb, Hid ((x.opts[f]'hl2).harm = hb) := ⟨_, rfl⟩
          have hhb0 := hxh.out _ (List.getElem_mem hl2)
          rw [hhb.out] at hhb0
          have r1 := hyr.cellAt (f * 3) (by omega)
          have hl3 : f < (inW i x k).opts.length := by rw [inW_len]; exact hl2
          obtain ⟨_, b0, _⟩ := hyo.read.at_ f _ (List.getElem?_eq_getElem hl3)
          have hhe : ((inW i x k).opts[f]'hl3).harm = hb := by
            have := inW_harm (i := i) (x := x) (k := k) (by rw [hxn.out]; exact hk) f
            rw [List.getElem?_eq_getElem hl3, List.getElem?_eq_getElem hl2] at this
            exact this.trans hhb.out
          rw [b0, hhe] at r1
          have lgo := (hyr.lt go rfl).2
          have hyr' := Lib.hid hyr
          have hIw := hI.out
          unfold IntsO at hIw
          rw [hwl'.out] at hIw
          have hIw' := Lib.hid hIw
          have hcr := hC.out.ext.size
          have lgt := hC.out.task.lt
          have lg0' := (hC.out.row.lt g0 rfl).2
          have goW : ∀ g, Value.ownBlock (.slice wA i wC) = some g → g ≠ go := fun g hg e => by
            have := owns_block hIw hg
            obtain ⟨cs, hc⟩ := this
            obtain ⟨cs', hc'⟩ := owns_block hyr (g := go) rfl
            rw [e] at hc
            exact absurd (blk_type hc hc') (by decide)
          have goW' := Lib.hid goW
          have hWW : Hid (∀ g, Value.ownBlock (.slice wA i wC) = some g → g ≠ g0 ∧ g ≠ gt) := fun g hg => by
            obtain ⟨cs, hc⟩ := owns_block hIw hg
            refine ⟨fun e => ?_, fun e => ?_⟩
            · obtain ⟨cs', hc'⟩ := owns_block hC.out.row (g := g0) rfl
              rw [e] at hc
              exact absurd (blk_type hc hc') (by decide)
            · rw [e] at hc
              exact absurd (blk_type hc hC.out.task) (by decide)
          clear k0 k1 k2 hrow kp hyr hyo b0 hset hsl2 hyl hhe hIw goW
          go_upto_region 17 with (at_builtin; refine wpList_append_any _ rfl (.tmp 74) (.tmp 76) _ rfl w1.heap.size 3 j0 _ 1 8 Try.underlying28 hj0 jz0 jz1 jz2 rfl (by decide) (.slice wA i wC) i _ rfl (hIw'.out.alloc _) (wr.heap.size + 1) (some ⟨wr.heap.size, 0, none⟩) 1 1 [.int .i64 f] rfl (reads_last _ #[_] _ 1 1 _ _ (by simp) (by omega) rfl) (one_int _) (by unfold maxLen; omega) (by omega) (by rw [World.size_alloc]; omega) ?_; intro v1 w6 hown1 hg1 hat1; obtain ⟨A1, C1, rfl⟩ := owns_form hown1; have hE6 := (Ext.refl wr).alloc (.cells #[.int .i64 f] 3); have hC6 := (hC.out.toExt hE6).grow (hIw'.out.alloc _) hg1 hA5.out; have hI6 : Hid (IntsO w6 w1.heap.size (.slice A1 (i + 1) C1) (wantT (t.take (i + 1)))) := Lib.hid (by rw [want_step hx.out, hfw.out]; unfold IntsO; rw [List.length_append, hwl'.out, List.map_append]; exact hown1); have hA6 : Hid (∀ g, Value.ownBlock (.slice A1 (i + 1) C1) = some g → Apart xp g) := Lib.hid (by intro g hg; rcases hat1 with h1 | h1; (rw [h1] at hg; exact hA5.out g hg); (rw [h1] at hg; cases hg; intro j e; have := (WishesCO.ext hE6 hC.out.parts).pplLt e; omega)); have hC6' := Lib.hid hC6; have r1' : w6.cell? ⟨go, f * 3, none⟩ = some (.int .i64 hb) := ((Keep.refl (fun g => Value.ownBlock (.slice wA i wC) = some g) (wr.alloc (.cells #[.int .i64 f] 3))).grown hg1 (fun g e => Or.inl e)).cell (hE6.cell r1) (fun e => goW'.out go e rfl); have ct' : w6.cell? ⟨gt, 0, none⟩ = some (.slice (some ⟨g0, 0, none⟩) t.length c0) := ((Keep.refl (fun g => Value.ownBlock (.slice wA i wC) = some g) (wr.alloc (.cells #[.int .i64 f] 3))).grown hg1 (fun g e => Or.inl e)).cell (hE6.cell ct) (fun e => (hWW.out gt e).2 rfl); have d2' : w6.cell? ⟨g0, i * 3 + 2, none⟩ = some (.slice (some ⟨go, 0, none⟩) xn oc) := ((Keep.refl (fun g => Value.ownBlock (.slice wA i wC) = some g) (wr.alloc (.cells #[.int .i64 f] 3))).grown hg1 (fun g e => Or.inl e)).cell (hE6.cell d2) (fun e => (hWW.out g0 e).1 rfl); clear hown1 hg1 hat1 hC6 hE6)
          have htn : Hid (totalT (t.take (i + 1)) = tot + hb) := by show _ = _; rw [total_step hx.out, htot.out, hfw.out, List.getElem?_eq_getElem hl2]; simp only [Option.getD_some]; rw [hhb.out]
          clear ct d2 r1 hC hI
          go_wp2
          go_roundw
          case rel => exact ⟨i + 1, xp, by omega, by go_num, by rw [htn.out], hC6', hI6, hA6⟩
          case measure => simp [intOf]; omega
    · obtain rfl : i = t.length := by omega
      rw [stateT_end] at hC
      rw [List.take_length] at hI htb ⊢
      obtain ⟨wA, wC, rfl⟩ := owns_form hI.out
      obtain ⟨tot, htot⟩ : ∃ tot, Hid (totalT t = tot) := ⟨_, rfl⟩
      rw [htot.out] at htb ⊢
      have hv2 : Hid (validT (calmFrom 0 t) = 0) := calm_valid hv.out hlen.2
      have hb2 : Hid (bestOf (calmFrom 0 t) = some (wantT t, tot)) := by rw [← htot.out]; exact calm_best hv.out hlen.2
      have hm2 : Hid (treeMax (calmFrom 0 t) ≤ 65536) := Nat.le_trans (tree_four (fun y hy => by
        obtain ⟨j, x, hx, rfl⟩ := calmFrom_mem hy
        simpa [calmW] using hm.out x (List.mem_of_getElem? hx)) (by rw [calmFrom_len]; exact hlen.2)) (by decide)
      have hn2 : Hid ((growL (calmFrom 0 t) tot (calmFrom 0 t) [] 0 0).nodes.length = 1) := by rw [← htot.out]; exact calm_nodes hv.out
      have hcl : (calmFrom 0 t).length = t.length := calmFrom_len t 0
      have hW : Hid (Wishes wr (.slice (some ⟨g0, 0, none⟩) t.length c0) (calmFrom 0 t)) := by
        have := WishesO.read ⟨xs, hC.out.row, hC.out.parts⟩
        rw [hcl] at this
        exact this
      have hcl' := Lib.hid hcl
      have hE := Lib.hid hC.out.ext
      have hIr := Lib.hid hI.out.read
      generalize calmFrom 0 t = u at hv2 hb2 hm2 hn2 hW
      obtain ⟨wn, hwn⟩ : ∃ n, Hid ((wantT t).length = n) := ⟨_, rfl⟩
      rw [hwn.out] at hIr ⊢
      have hdi : decide ((t.length : Int) < (t.length : Int)) = false := decide_eq_false (by omega)
      clear hC hI hA hsl hcl hcl' htl
      go_wp2_with fail
      refine (best_calls _ u _ hW.out (fun _ => hm2.out)).mono ?_
      intro e' w7 hb
      rcases best_out hv2.out hb with ⟨hn, _, _⟩ | ⟨pv, cv, p, q, hq, rfl, hx7, hp, hc⟩
      · have := hb2.out
        rw [bestOf, hn] at this
        cases this
      obtain ⟨rfl, rfl⟩ : p = wantT t ∧ q = tot := by have := hq.symm.trans hb2.out; cases this; exact ⟨rfl, rfl⟩
      obtain ⟨pa, pc, rfl⟩ := hp.form
      obtain ⟨ca, cc, rfl⟩ := hc.form
      have hp7 := Lib.hid hp
      have hx7' := Lib.hid (hE.out.trans hx7)
      have hI7 := Lib.hid (hIr.out.ext hx7)
      rw [hn2.out]
      rw [hwn.out] at hp7 ⊢
      have hR : Hid (samePlanB (wantT t) q (wantT t) q = true) := by show _ = _; simp [samePlanB]
      clear hb hq hx7 hp hc hIr hb2
      go_wp2_with fail
      refine (samePlan_calls (.slice pa wn pc) (.slice wA wn wC) (wantT t) (wantT t) q q _ (hp7.out.ext (by exact (by repeat' (first | (with_reducible exact Ext.refl _) | (with_reducible assumption) | (with_reducible refine Ext.drewN ?_ _) | (with_reducible refine Ext.drew ?_) | (with_reducible refine Ext.alloc ?_ _) | (with_reducible refine Ext.trans ?_ (by with_reducible assumption)))))) (hI7.out.ext (by exact (by repeat' (first | (with_reducible exact Ext.refl _) | (with_reducible assumption) | (with_reducible refine Ext.drewN ?_ _) | (with_reducible refine Ext.drew ?_) | (with_reducible refine Ext.alloc ?_ _) | (with_reducible refine Ext.trans ?_ (by with_reducible assumption))))))).mono ?_
      rw [hR.out]
      rintro e' w8 ⟨rfl, hx8⟩
      go_wp2
      go_ret
      exact ⟨rfl, ((hx1'.out.trans hx7'.out).alloc _).trans hx8⟩
end Go.Proofs.Ytonmlmkemliefaa
