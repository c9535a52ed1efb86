import Derived.Test.YtonmlmkemliefaaBestB
namespace Go.Proofs.Ytonmlmkemliefaa
open Go.RowKit


set_option maxHeartbeats 3200000 in
set_option maxRecDepth 100000 in
theorem best_valid (tv : Value) (t : List WishD) (w : World) (h : Wishes w tv t) (hv : validT t = 0) (hm : treeMax t ≤ 65536) : Calls Try.prog 14 #[.agg #[tv]] w (BestOut t w) := by
  have hh := Lib.hid h
  have hvv := Lib.hid hv
  have hmm := Lib.hid hm
  obtain ⟨ta, tc, rfl⟩ := h.form
  have hL : t.length ≤ 512 := by
    have := (validT_ok hv).1
    simp [tooLargeB] at this
    exact this.1
  have hharm := Lib.hid (harms_of hv)
  have hls := leastSum_bd t (fun x hx o ho => (hharm.out x hx o ho).1)
  have hls0 := hls.1
  have hls1 : leastSum t ≤ 512000000 := by omega
  have hmf : ∀ (fn : Fn) (first cap : Array Value) (w : World), (Instr.makeFunc fn first cap).run Try.prog w = .ok (.func fn first cap) w := fun _ _ _ _ => rfl
  clear h hv hls hm
  go_enter_defers Try.func14, Try.ntmps14
  go_wp2_with fail
  refine (valid_calls _ t _ (hh.out.ext (by exact (by repeat' (first | (with_reducible exact Ext.refl _) | (with_reducible assumption) | (with_reducible refine Ext.drewN ?_ _) | (with_reducible refine Ext.drew ?_) | (with_reducible refine Ext.alloc ?_ _) | (with_reducible refine Ext.trans ?_ (by with_reducible assumption))))))).mono ?_
  rintro e w1 ⟨rfl, hx1⟩
  rw [hvv.out]
  have hBX := Lib.hid ((BX.start w (.slice ta t.length tc) (.slice none 0 0) (.int .i64 0) (.slice none 0 0) (.int .i64 0)).toExt hx1)
  have x0 : w1.cell? ⟨w.heap.size, 0, none⟩ = some (.slice ta t.length tc) := hBX.out.2.1.cell 0
  clear hx1
  go_wp2_with fail
  refine (begin_calls _ t 0 w1 (hh.out.ext hBX.out.1) hL (fun x hx o ho => (hharm.out x hx o ho).1)).mono ?_
  rintro e w2 ⟨S0, Pk0, Rb0, rest0, rfl, hG0, hR0⟩
  have hs0 : Srch _ _ _ _ _ _ _ _ _ _ _ _ _ _ _ _ := hG0
  have hBX2 := Lib.hid (hBX.out.toExt hs0.ext)
  have z1 : w2.cell? ⟨S0, 2, none⟩ = some (.slice (some ⟨Rb0, 0, none⟩) rest0.length rest0.length) := hs0.blk.cell 2
  have z2 : w2.cell? ⟨Rb0, 0, none⟩ = some (.int .i64 (leastSum t)) := by
    have h0 := hR0.2 0 (Nat.le_refl _) (Nat.zero_le _)
    have := hs0.rb.cell 0
    rw [this]
    simp [h0]
  have hrl : 0 < rest0.length := by have := hR0.1; omega
  clear hs0 hG0 hR0 hBX x0
  obtain ⟨ls, hlsv⟩ : ∃ ls, Hid (leastSum t = ls) := ⟨_, rfl⟩
  rw [hlsv.out] at z2 hls0 hls1
  go_wp2_with fail
  go_loopw [6, 7] (fun vi vs wr => ∃ b : Int, 1 ≤ b ∧ b ≤ 512000001 ∧ vi = .int .i64 b ∧ Hid (BX w wr (.slice ta t.length tc) (.slice none 0 0) (.int .i64 0) (.slice none 0 0) (.int .i64 0))) (fun vi _ _ => (1000000000 - intOf vi).toNat)
  case atStart => exact ⟨ls + 1, by omega, by omega, rfl, hBX2⟩
  case round =>
    clear hBX2 z1 z2 hls0 hls1 hrl
    obtain ⟨b, hb1, hb2, rfl, hBX⟩ := hrel
    have x0 : wr.cell? ⟨w.heap.size, 0, none⟩ = some (.slice ta t.length tc) := hBX.out.2.1.cell 0
    go_wp2_with fail
    refine (begin_calls _ t b wr (hh.out.ext hBX.out.1) hL (fun x hx o ho => (hharm.out x hx o ho).1)).mono ?_
    rintro e w3 ⟨S, Pk, Rb, rest, rfl, hG, hR⟩
    have hgr := Lib.hid (grow_calls wr S Pk Rb _ t b rest t _ w3 _ _ _ _ _ _ [] 0 (hG.root hR hvv.out hmm.out) rfl)
    clear hG hR x0
    go_wp2_with fail
    refine hgr.out.mono ?_
    rintro e w4 ⟨nv, fv, pick, rfl, hs2, _, _, _, _⟩
    have hs := Lib.hid hs2
    obtain ⟨R, hRR⟩ : ∃ R, Hid (growL t b t [] 0 0 = R) := ⟨_, rfl⟩
    simp only [List.nil_append, List.length_nil] at hs2
    rw [hRR.out] at hs2
    have hs := Lib.hid hs2
    have hBX' := Lib.hid (hBX.out.toExt hs2.ext)
    have hwr : w.heap.size + 1 + 1 + 1 < wr.heap.size := hBX.out.2.2.2.2.lt
    clear hBX hs2 hgr
    have hBX := hBX'
    clear hBX'
    obtain ⟨ov, hov⟩ : ∃ ov, Hid (foldOver 9223372036854775807 R.ests = ov) := ⟨_, rfl⟩
    have n6 : w4.cell? ⟨S, 6, none⟩ = some (.int .i64 ov) := by rw [← hov.out]; exact hs.out.blk.cell 6
    have n5 : w4.cell? ⟨S, 5, none⟩ = some fv := hs.out.blk.cell 5
    have x0 : w4.cell? ⟨w.heap.size, 0, none⟩ = some (.slice ta t.length tc) := hBX.out.2.1.cell 0
    have x1 : w4.cell? ⟨w.heap.size + 1, 0, none⟩ = some (.slice none 0 0) := hBX.out.2.2.1.cell 0
    have x2 : w4.cell? ⟨w.heap.size + 1, 1, none⟩ = some (.int .i64 0) := hBX.out.2.2.1.cell 1
    have x3 : w4.cell? ⟨w.heap.size + 1 + 1, 0, none⟩ = some (.slice none 0 0) := hBX.out.2.2.2.1.cell 0
    have x4 : w4.cell? ⟨w.heap.size + 1 + 1 + 1, 0, none⟩ = some (.int .i64 0) := hBX.out.2.2.2.2.cell 0
    have y1 := hBX.out.2.2.1.frozen 0
    have y2 := hBX.out.2.2.1.frozen 1
    have y3 := hBX.out.2.2.2.1.frozen 0
    have y4 := hBX.out.2.2.2.2.frozen 0
    cases hf : foldFound none R.opens with
    | none =>
      have hfv : fv = .pointer none := by have := hs.out.fnd; rw [hf] at this; exact this
      subst hfv
      have hof := Lib.hid (foldFound_none hf).1
      clear hf
      by_cases he : R.ests = []
      · have hov2 : ov = 9223372036854775807 := by rw [← hov.out, he]; rfl
        subst hov2
        go_wp2
        have hbs := hBX.out.set_ (.slice none 0 0) (.int .i64 0) (.slice none 0 0) (.int .i64 4)
        refine leaves_cons (f := 35) (args := #[.pointer (some ⟨w.heap.size + 1, 0, none⟩), .pointer (some ⟨w.heap.size + 1 + 1, 0, none⟩), .pointer (some ⟨w.heap.size + 1 + 1 + 1, 0, none⟩)]) (by simp) (by simp [go_sem]) ?_
        refine (best1_idle _ _ _ _).mono ?_
        rintro e u' w'' ⟨rfl, rfl, hxd⟩
        have hbd := hbs.toExt hxd
        refine leaves_end hbd _ rfl rfl rfl ?_
        exact ⟨_, _, (0, 4), rfl, hbd.1, Or.inr (Or.inl ⟨hvv.out, ⟨b, by rw [hRR.out]; exact hof.out, by rw [hRR.out]; exact he⟩, rfl, rfl, rfl⟩)⟩
      · have hbd : b ≤ ov ∧ ov ≤ 512000000 := by
          have h1 := growL_ests t b t hharm.out [] 0 0
          rw [hRR.out] at h1
          have := foldOver_cons he (lo := b) (hi := 512000000) (fun e he => by have := h1 e he; omega) 9223372036854775807 (by omega)
          rwa [hov.out] at this
        have ho1 := hbd.1
        have ho2 := hbd.2
        clear hbd
        go_wp2
        go_roundw
        case rel => exact ⟨ov + 1, by omega, by omega, by go_num, hBX⟩
        case measure => simp [intOf]; omega
    | some r =>
      obtain ⟨p, q⟩ := r
      obtain ⟨F, pv, rfl, hF, hFb, hpo, hpz⟩ : FoundC w4 wr.heap.size _ fv (some (p, q)) := by have := hs.out.fnd; rw [hf] at this; exact this
      have hFb' := Lib.hid hFb
      have hpo' := Lib.hid hpo
      obtain ⟨pA, pC, rfl⟩ := owns_form hpo
      have z0 := After.cell x0
      have z5 := After.cell n5
      have zq := After.cell (show w4.cell? ⟨F, 1, none⟩ = some (.int .i64 q) from hFb.cell 1)
      have hff := Lib.hid hf
      clear hf hFb hpo hpz hF
      go_wp2_with fail
      refine wp_region_tail 8 (by kernel_rfl) (by kernel_rfl) ?_
      simp only [List.take_succ_cons, List.take_zero, List.drop_succ_cons, List.drop_zero]
      repeat (go_big_quiet_step (fail))
      refine wpQuiet_nil ?_
      rintro _ ⟨y, rfl⟩
      have hy := y.ext
      generalize y.world = w5 at hy ⊢
      clear z0 z5 zq x0 x1 x2 x3 x4 y1 y2 y3 y4 n5 n6
      have hBX5 := Lib.hid (hBX.out.toExt hy)
      have hFb5 : Hid (Blk w5 F 30 _) := Lib.hid ((Keep.of_ext (X := fun _ => False) hy).blk hFb'.out id)
      have hpo5 := Lib.hid ((Keep.of_ext (X := fun _ => False) hy).owns hpo'.out (fun _ _ => id))
      have hs5 := Lib.hid (hs.out.toExt hy)
      go_wp2_with fail
      refine (begin_calls _ t q w5 (hh.out.ext hBX5.out.1) hL (fun x hx o ho => (hharm.out x hx o ho).1)).mono ?_
      rintro e w6 ⟨S', Pk', Rb', rest', rfl, hG, hR⟩
      have hgr := Lib.hid (grow_calls w5 S' Pk' Rb' _ t q rest' t _ w6 _ _ _ _ _ _ [] 0 (hG.root hR hvv.out hmm.out) rfl)
      clear hG hR
      go_wp2_with fail
      refine hgr.out.mono ?_
      rintro e w7 ⟨nv', fv', pick', rfl, hs7, _, _, _, _⟩
      simp only [List.nil_append, List.length_nil] at hs7
      have hs' := Lib.hid hs7
      clear hs7 hgr
      have hx7 := Lib.hid hs'.out.ext
      have hBX := Lib.hid (hBX5.out.toExt hx7.out)
      have hs4 := Lib.hid (hs5.out.toExt hx7.out)
      have hFb := (Keep.of_ext (X := fun _ => False) hx7.out).blk hFb5.out id
      have hpi := Lib.hid ((Keep.of_ext (X := fun _ => False) hx7.out).owns hpo5.out (fun _ _ => id))
      obtain ⟨xs, o1, o2⟩ := hs'.out.owns
      obtain ⟨nA, nC, rfl⟩ := owns_form o1
      have m5 : w7.cell? ⟨S, 5, none⟩ = some (.pointer (some ⟨F, 0, none⟩)) := hs4.out.blk.cell 5
      have mp : w7.cell? ⟨F, 0, none⟩ = some (.slice pA p.length pC) := hFb.cell 0
      have mq : w7.cell? ⟨F, 1, none⟩ = some (.int .i64 q) := hFb.cell 1
      have m4 : w7.cell? ⟨S', 4, none⟩ = some (.slice nA (growL t q t [] 0 0).nodes.length nC) := hs'.out.blk.cell 4
      have x0 : w7.cell? ⟨w.heap.size, 0, none⟩ = some (.slice ta t.length tc) := hBX.out.2.1.cell 0
      have x1 : w7.cell? ⟨w.heap.size + 1, 0, none⟩ = some (.slice none 0 0) := hBX.out.2.2.1.cell 0
      have x2 : w7.cell? ⟨w.heap.size + 1, 1, none⟩ = some (.int .i64 0) := hBX.out.2.2.1.cell 1
      have x3 : w7.cell? ⟨w.heap.size + 1 + 1, 0, none⟩ = some (.slice none 0 0) := hBX.out.2.2.2.1.cell 0
      have x4 : w7.cell? ⟨w.heap.size + 1 + 1 + 1, 0, none⟩ = some (.int .i64 0) := hBX.out.2.2.2.2.cell 0
      have y1 := hBX.out.2.2.1.frozen 0
      have y2 := hBX.out.2.2.1.frozen 1
      have y3 := hBX.out.2.2.2.1.frozen 0
      have y4 := hBX.out.2.2.2.2.frozen 0
      have ho1 := Lib.hid o1
      have ho2 := Lib.hid o2
      have a0 := hBX5.out.1.size
      have a8 : w.heap.size + 1 + 1 + 1 < wr.heap.size := hwr
      have a1 := hx7.out.size
      have a2 := hBX5.out.2.2.2.2.lt
      have a3 := hs'.out.bS
      obtain ⟨LN, hLN⟩ : ∃ LN, Hid ((growL t q t [] 0 0).nodes.length = LN) := ⟨_, rfl⟩
      rw [hLN.out] at m4
      have a4 : w.heap.size + 1 + 1 + 1 < S' := by omega
      have a5 : w.heap.size + 1 < S' := by omega
      have a6 : w.heap.size + 1 ≠ S' := by omega
      have a7 : S' ≠ w.heap.size + 1 := by omega
      clear hFb o1 o2
      go_wp2_with fail
      go_region
      go_step; go_step
      go_wp2
      have hbs := (hBX.out.set_ (.slice pA p.length pC) (.int .i64 q) (.slice nA LN nC) (.int .i64 0)).toExt ((Ext.refl _).drew)
      refine leaves_cons (f := 35) (args := #[.pointer (some ⟨w.heap.size + 1, 0, none⟩), .pointer (some ⟨w.heap.size + 1 + 1, 0, none⟩), .pointer (some ⟨w.heap.size + 1 + 1 + 1, 0, none⟩)]) (by simp) (by simp [go_sem]) ?_
      refine (best1_idle _ _ _ _).mono ?_
      rintro e u' w'' ⟨rfl, rfl, hxd⟩
      have hbd := hbs.toExt hxd
      refine leaves_end hbd _ rfl rfl rfl ?_
      have hk : Keep (fun g => g = w.heap.size + 1 ∨ g = w.heap.size + 1 + 1 ∨ g = w.heap.size + 1 + 1 + 1) w7 w'' :=
        (((((((Keep.refl _ w7).setCell (Or.inl (Or.inl rfl)) _).setCell (Or.inl (Or.inl rfl)) _).setCell (Or.inl (Or.inr (Or.inl rfl))) _).setCell (Or.inl (Or.inr (Or.inr rfl))) _).drew).trans (Keep.of_ext hxd))
      have hpe := ints_of_owns (hk.owns hpi.out (fun g hg => by have := (hpi.out.lt g hg).1; omega))
      have hfar : IntFar w7 (fun g => g = Rb' ∨ g = Pk') (fun g => g = w.heap.size + 1 ∨ g = w.heap.size + 1 + 1 ∨ g = w.heap.size + 1 + 1 + 1) := by
        rintro g (rfl | rfl | rfl)
        · exact Or.inr fun cs hc => by have := blk_type hc hBX.out.2.2.1; revert this; decide
        · exact Or.inr fun cs hc => by have := blk_type hc hBX.out.2.2.2.1; revert this; decide
        · exact Or.inr fun cs hc => by have := blk_type hc hBX.out.2.2.2.2; revert this; decide
      have hne := nodes_of (hk.owns ho1.out (fun g hg => by have := (ho1.out.lt g hg).1; omega)) (ho2.out.keep hk hfar)
      rw [hLN.out] at hne
      exact ⟨_, _, (q, 0), rfl, hbd.1, Or.inr (Or.inr ⟨hvv.out, p, q, ⟨b, by rw [hRR.out]; exact hff.out⟩, hpe, hne, rfl⟩)⟩
theorem best_calls (tv : Value) (t : List WishD) (w : World) (h : Wishes w tv t) (hm : validT t = 0 → treeMax t ≤ 65536) : Calls Try.prog 14 #[.agg #[tv]] w (BestOut t w) := by
  by_cases hv : validT t = 0
  · exact best_valid tv t w h hv (hm hv)
  · exact best_invalid tv t w h hv
end Go.Proofs.Ytonmlmkemliefaa
