/- Walks of the reference of plans: Best, by trying all choices. -/
import Derived.Test.YtkicielleiafgaaRQ
import Derived.Test.YtkicielleiafgaaRK
namespace Go.Proofs.Ytkicielleiafgaa
open Go.RowKit

def bD (b : Option (List Int × Int)) : List Int × Int := b.getD ([], 0)
def RBest (t : List WishD) (w : World) (e : Ending) (w' : World) : Prop :=
  ∃ v, e = .returned (.tuple #[.agg #[v, .int .i64 (bD (bestOf t)).2], .bool (bestOf t).isSome]) ∧ Ints w' v (bD (bestOf t)).1 ∧ Ext w w'
theorem after_len {t : List WishD} {p q : List Int} (ho : ∀ x ∈ t, 0 < x.opts.length) (hc : choiceB t p = true) (hn : nextL t p = some q) : (afterC t p [] 0).length = (afterC t q [] 0).length + 1 := by
  rw [after_next [] 0 ho hc, hn]; rfl
theorem after_pos {t : List WishD} {p : List Int} (ho : ∀ x ∈ t, 0 < x.opts.length) (hc : choiceB t p = true) : 0 < (afterC t p [] 0).length := by
  rw [after_next [] 0 ho hc]; simp
def nextS (t : List WishD) (p : List Int) : List (List Int × Int) := match nextL t p with | some q => afterC t q [] 0 | none => []
theorem made_zerosT (t : List WishD) : zerosV t.length = ((zerosT t).map (Value.int .i64)).toArray := by
  unfold zerosV zerosL zerosT
  rw [List.map_const']
theorem rBest_results {tmps : Array Value} {w : World} {g : Nat} {v : Value} {h : Int} (hp : tmps.getD 2 undef = .pointer (some ⟨g, 0, none⟩)) (hb : Blk w g 67 #[v, .int .i64 h]) :
    (results Try.f45 tmps).run Try.prog w = .ok (.tuple #[.agg #[v, .int .i64 h], tmps.getD 3 undef]) w := by
  have hp' : tmps[2]?.getD undef = .pointer (some ⟨g, 0, none⟩) := by simpa using hp
  rw [results_cell_tmp Try.results45]
  simp [hp', asAddr, run_loadVar_row w g 67 67 #[v, .int .i64 h] (0, 0) _ hb Try.underlying67 rfl (by kernel_rfl), Result.andThen]
set_option maxHeartbeats 6400000 in
set_option maxRecDepth 100000 in
theorem rBest_calls (wv : Value) (t : List WishD) (w : World) (h : Wishes w wv t) (hv : validT t = 0) (ho : ∀ x ∈ t, 0 < x.opts.length) (h0 : 0 < t.length) (h512 : t.length ≤ 512) :
    Calls Try.prog 45 #[.agg #[wv]] w (RBest t w) := by
  have hT := Lib.hid h
  obtain ⟨ta, tc, rfl, hn, htc, _⟩ := h.open
  obtain ⟨j0, hj0, jz0, jz1, jz2⟩ := info_parts int_info
  have hv' := Lib.hid hv
  have ho' := Lib.hid ho
  have hmk := run_make_ints t.length (by omega)
  clear h hv ho
  go_enter Try.func45, Try.ntmps45
  go_wp2_with fail
  refine wp_abs (S := fun W => Hid (Ext w W) ∧ Hid (Blk W w.heap.size 27 #[.slice ta t.length tc]) ∧ Hid (Blk W (w.heap.size + 1) 67 #[.slice none 0 0, .int .i64 0]) ∧ Hid (Blk W (w.heap.size + 1 + 1) 67 #[.slice none 0 0, .int .i64 0]) ∧ Hid (IntsO W w.heap.size (.slice (some ⟨w.heap.size + 1 + 1 + 1, 0, none⟩) t.length t.length) (zerosT t))) ?_ ?_
  · refine ⟨Lib.hid (by exact (by repeat' (first | (with_reducible exact Ext.refl _) | (with_reducible assumption) | (with_reducible refine Ext.drewN ?_ _) | (with_reducible refine Ext.drew ?_) | (with_reducible refine Ext.alloc ?_ _) | (with_reducible refine Ext.trans ?_ (by with_reducible assumption))))), Lib.hid ((((blk_new' rfl rfl).alloc _).alloc _).alloc _), Lib.hid (((blk_new' (by simp only [World.size_alloc]) rfl).alloc _).alloc _), Lib.hid ((blk_new' (by simp only [World.size_alloc]) rfl).alloc _), Lib.hid ?_⟩
    have := World.ownsRow_lit (base := w.heap.size) (size := 1) (e := 3) (((w.alloc (.cells #[.slice ta t.length tc] 27)).alloc (.cells #[.slice none 0 0, .int .i64 0] 67)).alloc (.cells #[.slice none 0 0, .int .i64 0] 67)) (zerosV t.length) t.length (by simp only [World.size_alloc]; omega) (by unfold maxLen; omega) (by simp [zerosV, zerosL_len])
    simp only [World.size_alloc] at this
    unfold IntsO
    rw [zerosT_len]
    rw [made_zerosT] at this ⊢
    exact this
  rintro W1 ⟨hx1, hB1, hR1, hC1, hO1⟩
  have hs1 := Lib.hid (bestFrom_start ho'.out)
  have hz1 := Lib.hid (zeros_choice ho'.out)
  go_loopg [5, 6, 7, 8, 9] (afterC t (zerosT t) [] 0).length (fun gm v5 v6 v7 v8 v9 wr => ∃ (b : Option (List Int × Int)) (p : List Int) (more : Bool) (bv : Value), v5 = .bool b.isSome ∧ v7 = .bool more ∧ Hid (Ext w wr) ∧ Hid (Blk wr w.heap.size 27 #[.slice ta t.length tc]) ∧ Hid (Blk wr (w.heap.size + 1) 67 #[.slice none 0 0, .int .i64 0]) ∧ Hid (Blk wr (w.heap.size + 1 + 1) 67 #[bv, .int .i64 (bD b).2]) ∧ Hid (IntsO wr w.heap.size bv (bD b).1) ∧ Hid (IntsO wr w.heap.size v6 p) ∧ Hid (more = true → choiceB t p = true) ∧ Hid (bestFrom t b (if more then afterC t p [] 0 else []) = bestOf t) ∧ Hid (gm = if more then (afterC t p [] 0).length else 0))
  case atStart => exact ⟨none, zerosT t, true, .slice none 0 0, rfl, rfl, hx1, hB1, hR1, hC1, Lib.hid (IntsO.nil _ _), Lib.hid (by have := hO1.out; exact this), Lib.hid (fun _ => hz1.out), hs1, Lib.hid rfl⟩
  case round =>
    clear hx1 hB1 hR1 hC1 hO1 hs1 hz1 hmk
    obtain ⟨b, p, more, bv, rfl, rfl, hE, hB, hR, hC, hbv, hp, hcp, hbf, hgm⟩ := hrel
    obtain ⟨pa, pc, rfl⟩ := owns_form hp.out
    cases more with
    | false =>
      have c0 : wr.cell? ⟨w.heap.size + 1 + 1, 0, none⟩ = some bv := hC.out.cell 0
      have c1 : wr.cell? ⟨w.heap.size + 1 + 1, 1, none⟩ = some (.int .i64 (bD b).2) := hC.out.cell 1
      have r0 : wr.cell? ⟨w.heap.size + 1, 0, none⟩ = some (.slice none 0 0) := hR.out.cell 0
      have r1 : wr.cell? ⟨w.heap.size + 1, 1, none⟩ = some (.int .i64 0) := hR.out.cell 1
      have fr0 := hR.out.frozen 0
      have fr1 := hR.out.frozen 1
      have e : Hid (b = bestOf t) := Lib.hid (by have := hbf.out; simpa [bestFrom, foldFound] using this)
      obtain ⟨va, vc, rfl⟩ := owns_form hbv.out
      have k := ((keep_set wr (w.heap.size + 1) 0 (.slice va (bD b).1.length vc)).trans (keep_set _ (w.heap.size + 1) 1 (.int .i64 (bD b).2)))
      have hE2 := Lib.hid ((hE.out.setCell (p := ⟨w.heap.size + 1, 0, none⟩) (by show _ ≤ w.heap.size + 1; omega) (.slice va (bD b).1.length vc)).setCell (p := ⟨w.heap.size + 1, 1, none⟩) (by show _ ≤ w.heap.size + 1; omega) (.int .i64 (bD b).2))
      have hV2 := Lib.hid (hbv.out.keepT k (TX.one hR.out) (by decide)).read
      have hR2 := Lib.hid ((hR.out.set_ 0 (.slice va (bD b).1.length vc)).set_ 1 (.int .i64 (bD b).2))
      clear k hB hR hC hbv hp hcp hbf hgm hE
      go_wp2
      (try simp only [Exit.inBlock, Exit.then])
      refine bodyPost_ret (rBest_results rfl hR2.out) rfl ?_
      rw [RBest, ← e.out]
      exact ⟨_, rfl, hV2.out, hE2.out⟩
    | true =>
      have hcp' := Lib.hid (hcp.out rfl)
      have hpl := Lib.hid (choiceB_len hcp'.out)
      have hst := Lib.hid (hbf.out)
      rw [if_pos rfl, bestFrom_step ho'.out hcp'.out] at hst
      have hsb := sumH_bd (harms_of hv'.out) hcp'.out
      have hH : Hid (harmT t p = (sumH t p, 0)) := Lib.hid (by simp only [harmT]; rw [if_pos hv'.out, if_pos hcp'.out])
      obtain ⟨H, hHe⟩ : ∃ H, Hid (sumH t p = H) := ⟨_, rfl⟩
      obtain ⟨F, hFe⟩ : ∃ F, Hid (freeB t p = F) := ⟨_, rfl⟩
      rw [hHe.out] at hsb hH hst
      rw [hFe.out] at hst
      have s0 := hsb.1
      have s1 := hsb.2
      have c0 : wr.cell? ⟨w.heap.size, 0, none⟩ = some (.slice ta t.length tc) := hB.out.cell 0
      clear hbf hcp hsb
      have tb := hE.out.size
      go_upto_region 4 with fail
      go_wp2_with fail
      refine (rHarm_calls _ _ t p wr (hT.out.ext hE.out) hp.out.read).mono ?_
      rw [hH.out]
      rintro e w2 ⟨rfl, hx2⟩
      have hE2 := Lib.hid (hE.out.trans hx2)
      have hB2 := Lib.hid (hB.out.below hx2 hB.out.lt)
      have hR2 := Lib.hid (hR.out.below hx2 hR.out.lt)
      have hC2 := Lib.hid (hC.out.below hx2 hC.out.lt)
      have hbv2 := Lib.hid (hbv.out.ext hx2)
      have hp2 := Lib.hid (hp.out.ext hx2)
      clear hE hB hR hC hbv hp hx2 c0
      have c0 : w2.cell? ⟨w.heap.size, 0, none⟩ = some (.slice ta t.length tc) := hB2.out.cell 0
      go_wp2_with fail
      refine (rFree_calls _ _ t p w2 (hT.out.ext hE2.out) hp2.out.read hv'.out hcp'.out).mono ?_
      rw [hFe.out]
      rintro e w3 ⟨rfl, hx3⟩
      have hE := Lib.hid (hE2.out.trans hx3)
      have hB := Lib.hid (hB2.out.below hx3 hB2.out.lt)
      have hR := Lib.hid (hR2.out.below hx3 hR2.out.lt)
      have hC := Lib.hid (hC2.out.below hx3 hC2.out.lt)
      have hbv := Lib.hid (hbv2.out.ext hx3)
      have hp := Lib.hid (hp2.out.ext hx3)
      clear hE2 hB2 hR2 hC2 hbv2 hp2 hx3 c0
      have c0 : w3.cell? ⟨w.heap.size, 0, none⟩ = some (.slice ta t.length tc) := hB.out.cell 0
      have c1 : w3.cell? ⟨w.heap.size + 1 + 1, 1, none⟩ = some (.int .i64 (bD b).2) := hC.out.cell 1
      have hst' := hst
      clear hst
      cases F with
      | false =>
        have hst : Hid (bestFrom t b (nextS t p) = bestOf t) := hst'
        clear hst'
        unfold nextS at hst
        go_wp2_with fail
        refine (rNext_calls _ _ t p w3 (hT.out.ext hE.out) hp.out.read hcp'.out h0 h512).mono ?_
        rintro e w9 ⟨v9, q9, nb, rfl, hq9, hx9, hm9⟩
        have hE9 := Lib.hid (hE.out.trans hx9)
        have hB9 := Lib.hid (hB.out.below hx9 hB.out.lt)
        have hR9 := Lib.hid (hR.out.below hx9 hR.out.lt)
        have hC9 := Lib.hid (hC.out.below hx9 hC.out.lt)
        have hbv9 := Lib.hid (hbv.out.ext hx9)
        have hq9' := Lib.hid (IntsO.base hq9 hE.out.size)
        have hnp := Lib.hid (after_pos ho'.out hcp'.out)
        cases hn9 : nextL t p with
        | none =>
          rw [hn9] at hm9 hst
          have hm9 : nb = false := hm9
          subst hm9
          have hst9 : Hid (bestFrom t b [] = bestOf t) := hst
          have hlt : 0 < gk := by rw [hgm.out]; simpa using hnp.out
          clear hE hB hR hC hbv hp hx9 hq9 hst c0 hn9
          go_wp2
          go_roundg 0
          all_goals first | exact ⟨b, q9, false, _, rfl, rfl, hE9, hB9, hR9, hC9, hbv9, hq9', Lib.hid (fun h => by cases h), hst9, Lib.hid rfl⟩ | omega
        | some q8 =>
          rw [hn9] at hm9 hst
          obtain ⟨rfl, rfl⟩ : nb = true ∧ q9 = q8 := hm9
          have hst9 : Hid (bestFrom t b (afterC t q9 [] 0) = bestOf t) := hst
          have hlt : (afterC t q9 [] 0).length < gk := by rw [hgm.out]; simp only [if_true]; rw [after_len ho'.out hcp'.out hn9]; omega
          have hcq := Lib.hid (next_choice ho'.out hcp'.out hn9)
          clear hE hB hR hC hbv hp hx9 hq9 hst c0 hn9
          go_wp2
          go_roundg (afterC t q9 [] 0).length
          all_goals first | exact ⟨b, q9, true, _, rfl, rfl, hE9, hB9, hR9, hC9, hbv9, hq9', Lib.hid (fun _ => hcq.out), Lib.hid (by rw [if_pos rfl]; exact hst9.out), Lib.hid rfl⟩ | omega
      | true =>
        rw [if_pos rfl] at hst'
        cases b with
        | none =>
          have hst : Hid (bestFrom t (some (p, H)) (nextS t p) = bestOf t) := hst'
          clear hst'
          unfold nextS at hst
          simp only [Option.isSome_none]
          have hrd := Lib.hid (Ints.reads hp.out.read)
          have hp0 : 0 < p.length := by have := hpl.out; omega
          have hp5 : p.length ≤ 512 := by have := hpl.out; omega
          go_upto_region 7 with (at_builtin; refine wpList_append_any _ rfl (.tmp 35) (.tmp 36) _ rfl w3.heap.size 3 j0 _ 1 8 Try.underlying29 hj0 jz0 jz1 jz2 rfl (by decide) (.slice (some ⟨w3.heap.size, 0, none⟩) 0 0) 0 [] rfl (World.ownsRow_made w3 #[] 0 (Nat.le_refl _) (by unfold maxLen; omega) rfl) w3.heap.size pa p.length pc (p.map (Value.int .i64)) rfl (hrd.out.alloc (Nat.le_refl _) _) (by intro u hu; simp at hu; obtain ⟨y, _, rfl⟩ := hu; rfl) (by unfold maxLen; omega) (by omega) (by rw [World.size_alloc]; omega) ?_; intro v1 w4 hown1 hg1 hat1; rw [Nat.zero_add, List.nil_append] at hown1; obtain ⟨ga, gc, rfl⟩ := owns_form hown1; have hown := Lib.hid hown1; have hx4 := Lib.hid (((Ext.refl w3).alloc (.cells #[] 3)).grown hg1 (by intro k hk; simp [Value.ownBlock] at hk; omega)); clear hown1 hg1 hat1; have fr0 := (hC.out.below hx4.out hC.out.lt).frozen 0; have fr1 := (hC.out.below hx4.out hC.out.lt).frozen 1; have cc0 : w4.cell? ⟨w.heap.size + 1 + 1, 0, none⟩ = some bv := (hC.out.below hx4.out hC.out.lt).cell 0; have cc1 := hx4.out.cell c1)
          refine wp_abs (S := fun V => Hid (Ext w V) ∧ Hid (Blk V w.heap.size 27 #[.slice ta t.length tc]) ∧ Hid (Blk V (w.heap.size + 1) 67 #[.slice none 0 0, .int .i64 0]) ∧ Hid (Blk V (w.heap.size + 1 + 1) 67 #[.slice ga p.length gc, .int .i64 H]) ∧ Hid (IntsO V w.heap.size (.slice ga p.length gc) p) ∧ Hid (IntsO V w.heap.size (.slice pa p.length pc) p)) ?_ ?_
          · have hC4 := hC.out.below hx4.out hC.out.lt
            have k := ((keep_set w4 (w.heap.size + 1 + 1) 0 (.slice ga p.length gc)).trans (keep_set _ (w.heap.size + 1 + 1) 1 (.int .i64 H)))
            refine ⟨Lib.hid (((hE.out.trans hx4.out).setCell (p := ⟨w.heap.size + 1 + 1, 0, none⟩) (by show _ ≤ w.heap.size + 1 + 1; omega) _).setCell (p := ⟨w.heap.size + 1 + 1, 1, none⟩) (by show _ ≤ w.heap.size + 1 + 1; omega) _), Lib.hid (k.blk (hB.out.below hx4.out hB.out.lt) (by omega)), Lib.hid (k.blk (hR.out.below hx4.out hR.out.lt) (by omega)), Lib.hid ((hC4.set_ 0 _).set_ 1 _), Lib.hid (IntsO.keepT (B := w.heap.size) (IntsO.base (show IntsO w4 w3.heap.size _ p from hown.out) hE.out.size) k (TX.one hC4) (by decide)), Lib.hid ((hp.out.ext hx4.out).keepT k (TX.one hC4) (by decide))⟩
          clear hE hB hR hC hbv hp fr0 fr1 cc0 cc1 hown hx4 hrd c0 c1
          rintro V ⟨hE, hB, hR, hC, hbv, hp⟩
          have c0 : V.cell? ⟨w.heap.size, 0, none⟩ = some (.slice ta t.length tc) := hB.out.cell 0
          go_wp2_with fail
          refine (rNext_calls _ _ t p V (hT.out.ext hE.out) hp.out.read hcp'.out h0 h512).mono ?_
          rintro e w9 ⟨v9, q9, nb, rfl, hq9, hx9, hm9⟩
          have hE9 := Lib.hid (hE.out.trans hx9)
          have hB9 := Lib.hid (hB.out.below hx9 hB.out.lt)
          have hR9 := Lib.hid (hR.out.below hx9 hR.out.lt)
          have hC9 := Lib.hid (hC.out.below hx9 hC.out.lt)
          have hbv9 := Lib.hid (hbv.out.ext hx9)
          have hq9' := Lib.hid (IntsO.base hq9 hE.out.size)
          have hnp := Lib.hid (after_pos ho'.out hcp'.out)
          cases hn9 : nextL t p with
          | none =>
            rw [hn9] at hm9 hst
            have hm9 : nb = false := hm9
            subst hm9
            have hst9 : Hid (bestFrom t (some (p, H)) [] = bestOf t) := hst
            have hlt : 0 < gk := by rw [hgm.out]; simpa using hnp.out
            clear hE hB hR hC hbv hp hx9 hq9 hst c0 hn9
            go_wp2
            go_roundg 0
            all_goals first | exact ⟨(some (p, H)), q9, false, _, rfl, rfl, hE9, hB9, hR9, hC9, hbv9, hq9', Lib.hid (fun h => by cases h), hst9, Lib.hid rfl⟩ | omega
          | some q8 =>
            rw [hn9] at hm9 hst
            obtain ⟨rfl, rfl⟩ : nb = true ∧ q9 = q8 := hm9
            have hst9 : Hid (bestFrom t (some (p, H)) (afterC t q9 [] 0) = bestOf t) := hst
            have hlt : (afterC t q9 [] 0).length < gk := by rw [hgm.out]; simp only [if_true]; rw [after_len ho'.out hcp'.out hn9]; omega
            have hcq := Lib.hid (next_choice ho'.out hcp'.out hn9)
            clear hE hB hR hC hbv hp hx9 hq9 hst c0 hn9
            go_wp2
            go_roundg (afterC t q9 [] 0).length
            all_goals first | exact ⟨(some (p, H)), q9, true, _, rfl, rfl, hE9, hB9, hR9, hC9, hbv9, hq9', Lib.hid (fun _ => hcq.out), Lib.hid (by rw [if_pos rfl]; exact hst9.out), Lib.hid rfl⟩ | omega
        | some y =>
          by_cases hlt : H < y.2
          · have hst : Hid (bestFrom t (some (p, H)) (nextS t p) = bestOf t) := Lib.hid (by have := hst'.out; simp only [stepFound, if_pos hlt] at this; exact this)
            clear hst'
            unfold nextS at hst
            have hlt' : H < (bD (some y)).2 := hlt
            simp only [Option.isSome_some]
            have hrd := Lib.hid (Ints.reads hp.out.read)
            have hp0 : 0 < p.length := by have := hpl.out; omega
            have hp5 : p.length ≤ 512 := by have := hpl.out; omega
            go_upto_region 7 with (at_builtin; refine wpList_append_any _ rfl (.tmp 35) (.tmp 36) _ rfl w3.heap.size 3 j0 _ 1 8 Try.underlying29 hj0 jz0 jz1 jz2 rfl (by decide) (.slice (some ⟨w3.heap.size, 0, none⟩) 0 0) 0 [] rfl (World.ownsRow_made w3 #[] 0 (Nat.le_refl _) (by unfold maxLen; omega) rfl) w3.heap.size pa p.length pc (p.map (Value.int .i64)) rfl (hrd.out.alloc (Nat.le_refl _) _) (by intro u hu; simp at hu; obtain ⟨y, _, rfl⟩ := hu; rfl) (by unfold maxLen; omega) (by omega) (by rw [World.size_alloc]; omega) ?_; intro v1 w4 hown1 hg1 hat1; rw [Nat.zero_add, List.nil_append] at hown1; obtain ⟨ga, gc, rfl⟩ := owns_form hown1; have hown := Lib.hid hown1; have hx4 := Lib.hid (((Ext.refl w3).alloc (.cells #[] 3)).grown hg1 (by intro k hk; simp [Value.ownBlock] at hk; omega)); clear hown1 hg1 hat1; have fr0 := (hC.out.below hx4.out hC.out.lt).frozen 0; have fr1 := (hC.out.below hx4.out hC.out.lt).frozen 1; have cc0 : w4.cell? ⟨w.heap.size + 1 + 1, 0, none⟩ = some bv := (hC.out.below hx4.out hC.out.lt).cell 0; have cc1 := hx4.out.cell c1)
            refine wp_abs (S := fun V => Hid (Ext w V) ∧ Hid (Blk V w.heap.size 27 #[.slice ta t.length tc]) ∧ Hid (Blk V (w.heap.size + 1) 67 #[.slice none 0 0, .int .i64 0]) ∧ Hid (Blk V (w.heap.size + 1 + 1) 67 #[.slice ga p.length gc, .int .i64 H]) ∧ Hid (IntsO V w.heap.size (.slice ga p.length gc) p) ∧ Hid (IntsO V w.heap.size (.slice pa p.length pc) p)) ?_ ?_
            · have hC4 := hC.out.below hx4.out hC.out.lt
              have k := ((keep_set w4 (w.heap.size + 1 + 1) 0 (.slice ga p.length gc)).trans (keep_set _ (w.heap.size + 1 + 1) 1 (.int .i64 H)))
              refine ⟨Lib.hid (((hE.out.trans hx4.out).setCell (p := ⟨w.heap.size + 1 + 1, 0, none⟩) (by show _ ≤ w.heap.size + 1 + 1; omega) _).setCell (p := ⟨w.heap.size + 1 + 1, 1, none⟩) (by show _ ≤ w.heap.size + 1 + 1; omega) _), Lib.hid (k.blk (hB.out.below hx4.out hB.out.lt) (by omega)), Lib.hid (k.blk (hR.out.below hx4.out hR.out.lt) (by omega)), Lib.hid ((hC4.set_ 0 _).set_ 1 _), Lib.hid (IntsO.keepT (B := w.heap.size) (IntsO.base (show IntsO w4 w3.heap.size _ p from hown.out) hE.out.size) k (TX.one hC4) (by decide)), Lib.hid ((hp.out.ext hx4.out).keepT k (TX.one hC4) (by decide))⟩
            clear hE hB hR hC hbv hp fr0 fr1 cc0 cc1 hown hx4 hrd c0 c1
            rintro V ⟨hE, hB, hR, hC, hbv, hp⟩
            have c0 : V.cell? ⟨w.heap.size, 0, none⟩ = some (.slice ta t.length tc) := hB.out.cell 0
            go_wp2_with fail
            refine (rNext_calls _ _ t p V (hT.out.ext hE.out) hp.out.read hcp'.out h0 h512).mono ?_
            rintro e w9 ⟨v9, q9, nb, rfl, hq9, hx9, hm9⟩
            have hE9 := Lib.hid (hE.out.trans hx9)
            have hB9 := Lib.hid (hB.out.below hx9 hB.out.lt)
            have hR9 := Lib.hid (hR.out.below hx9 hR.out.lt)
            have hC9 := Lib.hid (hC.out.below hx9 hC.out.lt)
            have hbv9 := Lib.hid (hbv.out.ext hx9)
            have hq9' := Lib.hid (IntsO.base hq9 hE.out.size)
            have hnp := Lib.hid (after_pos ho'.out hcp'.out)
            cases hn9 : nextL t p with
            | none =>
              rw [hn9] at hm9 hst
              have hm9 : nb = false := hm9
              subst hm9
              have hst9 : Hid (bestFrom t (some (p, H)) [] = bestOf t) := hst
              have hlt : 0 < gk := by rw [hgm.out]; simpa using hnp.out
              clear hE hB hR hC hbv hp hx9 hq9 hst c0 hn9
              go_wp2
              go_roundg 0
              all_goals first | exact ⟨(some (p, H)), q9, false, _, rfl, rfl, hE9, hB9, hR9, hC9, hbv9, hq9', Lib.hid (fun h => by cases h), hst9, Lib.hid rfl⟩ | omega
            | some q8 =>
              rw [hn9] at hm9 hst
              obtain ⟨rfl, rfl⟩ : nb = true ∧ q9 = q8 := hm9
              have hst9 : Hid (bestFrom t (some (p, H)) (afterC t q9 [] 0) = bestOf t) := hst
              have hlt : (afterC t q9 [] 0).length < gk := by rw [hgm.out]; simp only [if_true]; rw [after_len ho'.out hcp'.out hn9]; omega
              have hcq := Lib.hid (next_choice ho'.out hcp'.out hn9)
              clear hE hB hR hC hbv hp hx9 hq9 hst c0 hn9
              go_wp2
              go_roundg (afterC t q9 [] 0).length
              all_goals first | exact ⟨(some (p, H)), q9, true, _, rfl, rfl, hE9, hB9, hR9, hC9, hbv9, hq9', Lib.hid (fun _ => hcq.out), Lib.hid (by rw [if_pos rfl]; exact hst9.out), Lib.hid rfl⟩ | omega
          · have hst : Hid (bestFrom t (some y) (nextS t p) = bestOf t) := Lib.hid (by have := hst'.out; simp only [stepFound, if_neg hlt] at this; exact this)
            clear hst'
            unfold nextS at hst
            have hlt' : ¬ H < (bD (some y)).2 := hlt
            simp only [Option.isSome_some]
            go_wp2_with fail
            refine (rNext_calls _ _ t p w3 (hT.out.ext hE.out) hp.out.read hcp'.out h0 h512).mono ?_
            rintro e w9 ⟨v9, q9, nb, rfl, hq9, hx9, hm9⟩
            have hE9 := Lib.hid (hE.out.trans hx9)
            have hB9 := Lib.hid (hB.out.below hx9 hB.out.lt)
            have hR9 := Lib.hid (hR.out.below hx9 hR.out.lt)
            have hC9 := Lib.hid (hC.out.below hx9 hC.out.lt)
            have hbv9 := Lib.hid (hbv.out.ext hx9)
            have hq9' := Lib.hid (IntsO.base hq9 hE.out.size)
            have hnp := Lib.hid (after_pos ho'.out hcp'.out)
            cases hn9 : nextL t p with
            | none =>
              rw [hn9] at hm9 hst
              have hm9 : nb = false := hm9
              subst hm9
              have hst9 : Hid (bestFrom t (some y) [] = bestOf t) := hst
              have hlt : 0 < gk := by rw [hgm.out]; simpa using hnp.out
              clear hE hB hR hC hbv hp hx9 hq9 hst c0 hn9
              go_wp2
              go_roundg 0
              all_goals first | exact ⟨(some y), q9, false, _, rfl, rfl, hE9, hB9, hR9, hC9, hbv9, hq9', Lib.hid (fun h => by cases h), hst9, Lib.hid rfl⟩ | omega
            | some q8 =>
              rw [hn9] at hm9 hst
              obtain ⟨rfl, rfl⟩ : nb = true ∧ q9 = q8 := hm9
              have hst9 : Hid (bestFrom t (some y) (afterC t q9 [] 0) = bestOf t) := hst
              have hlt : (afterC t q9 [] 0).length < gk := by rw [hgm.out]; simp only [if_true]; rw [after_len ho'.out hcp'.out hn9]; omega
              have hcq := Lib.hid (next_choice ho'.out hcp'.out hn9)
              clear hE hB hR hC hbv hp hx9 hq9 hst c0 hn9
              go_wp2
              go_roundg (afterC t q9 [] 0).length
              all_goals first | exact ⟨(some y), q9, true, _, rfl, rfl, hE9, hB9, hR9, hC9, hbv9, hq9', Lib.hid (fun _ => hcq.out), Lib.hid (by rw [if_pos rfl]; exact hst9.out), Lib.hid rfl⟩ | omega
end Go.Proofs.Ytkicielleiafgaa
