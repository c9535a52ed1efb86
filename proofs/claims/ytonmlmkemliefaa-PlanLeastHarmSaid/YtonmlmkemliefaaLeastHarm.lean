/- The law PlanLeastHarm, walked: true for every task that Made makes. -/
import Derived.Test.YtonmlmkemliefaaCertified
import Derived.Test.YtonmlmkemliefaaChoice
import Derived.Test.YtonmlmkemliefaaPlainD
namespace Go.Proofs.Ytonmlmkemliefaa
open Go.RowKit

theorem choiceB_of : ∀ (t : List WishD) (f : Nat → Int) (k : Nat), (∀ i y, t[i]? = some y → idxB (f (k + i)) y.opts.length = true) → choiceB t ((List.range' k t.length).map f) = true
  | [], _, _, _ => rfl
  | y :: t, f, k, h => by
    simp only [List.length_cons, List.range'_succ, List.map_cons, choiceB, Bool.and_eq_true]
    refine ⟨h 0 y rfl, choiceB_of t f (k + 1) fun i z hz => ?_⟩
    have := h (i + 1) z (by simpa using hz)
    rwa [show k + (i + 1) = k + 1 + i by omega] at this
theorem choiceT_ok {t : List WishD} {x : List Int} (hne : ∀ y ∈ t, 0 < y.opts.length) : choiceB t (choiceT t x) = true := by
  unfold choiceT choiceTo
  rw [List.range_eq_range']
  refine choiceB_of t _ 0 fun i y hy => ?_
  have hpos := hne y (List.mem_of_getElem? hy)
  simp only [Nat.zero_add, choiceAt, hy, Option.getD_some]
  split
  · simp only [idxB, Bool.and_eq_true, decide_eq_true_eq]
    exact ⟨Int.emod_nonneg _ (by omega), Int.emod_lt_of_pos _ (by omega)⟩
  · exact idxB_of_lt hpos

set_option maxHeartbeats 1600000 in
set_option maxRecDepth 100000 in
theorem planLeastHarm_calls (rv : Value) (l : List RawD) (xv : Value) (x : List Int) (w : World) (h : Raws w rv l) (hx : Bytes w xv x) :
    Calls Try.prog 9 #[rv, xv] w fun e w' => e = .returned (.bool true) ∧ Ext w w' := by
  have hraw := Lib.hid h
  have hbyt := Lib.hid hx
  have hok := Lib.hid h.ok
  clear h hx
  go_enter Try.func9, Try.ntmps9
  go_wp2_with fail
  refine (sanity_calls _).mono ?_
  rintro e w1 ⟨rfl, hx1⟩
  have hx1' := Lib.hid hx1
  clear hx1
  go_wp2_with fail
  refine (made_calls rv l w1 (hraw.out.ext hx1'.out)).mono ?_
  rintro e w2 ⟨tv, rfl, ht, hx2⟩
  obtain ⟨t, ht0⟩ : ∃ t, Hid (madeT l = t) := ⟨_, rfl⟩
  have hv : Hid (validT t = 0) := by rw [← ht0.out]; exact made_valid hok.out
  have hm : Hid (treeMax t ≤ 65536) := by rw [← ht0.out]; exact Nat.le_trans (made_tree hok.out) (by decide)
  have ho : Hid (∀ x ∈ t, 0 < x.opts.length) := by rw [← ht0.out]; exact fun x hx => (made_opts hok.out hx).1
  have hlen : t.length ≤ 4 := by rw [← ht0.out]; exact made_len.2
  rw [ht0.out] at ht
  clear ht0
  have ht' := Lib.hid ht.read
  obtain ⟨ta, tc, rfl⟩ := ht.read.form
  have hx2' := Lib.hid (hx1'.out.trans hx2)
  clear ht hx2
  go_wp2_with fail
  refine (choice_calls _ xv t x _ (ht'.out.ext (by exact (by repeat' (first | (with_reducible exact Ext.refl _) | (with_reducible assumption) | (with_reducible refine Ext.drewN ?_ _) | (with_reducible refine Ext.drew ?_) | (with_reducible refine Ext.alloc ?_ _) | (with_reducible refine Ext.trans ?_ (by with_reducible assumption)))))) (hbyt.out.ext (hx2'.out.trans (by exact (by repeat' (first | (with_reducible exact Ext.refl _) | (with_reducible assumption) | (with_reducible refine Ext.drewN ?_ _) | (with_reducible refine Ext.drew ?_) | (with_reducible refine Ext.alloc ?_ _) | (with_reducible refine Ext.trans ?_ (by with_reducible assumption))))))) ho.out (by omega)).mono ?_
  rintro e w3 ⟨kv, rfl, hk, hx3⟩
  obtain ⟨pick, hpk⟩ : ∃ pick, Hid (choiceT t x = pick) := ⟨_, rfl⟩
  have hcb : Hid (choiceB t pick = true) := by rw [← hpk.out]; exact choiceT_ok ho.out
  rw [hpk.out] at hk
  clear hpk
  have hk' := Lib.hid hk.read
  obtain ⟨ka, kc, rfl⟩ := hk.read.form
  have tb3 : w3.cell? ⟨w2.heap.size, 0, none⟩ = some (.slice ta t.length tc) := hx3.cell (by simp)
  have ht3 := Lib.hid ((ht'.out.ext ((Ext.refl w2).alloc _)).ext hx3)
  have hx3' := Lib.hid ((hx2'.out.trans (Ext.alloc (Ext.refl w2) _)).trans hx3)
  have hkl' : Hid (pick.length = t.length) := choiceB_len hcb.out
  clear hk hx3 ht' hx2'
  go_wp2_with fail
  refine (lawful_calls _ _ t pick w3 ht3.out hk'.out).mono ?_
  rintro e w4 ⟨rfl, hx4⟩
  have tb4 := hx4.cell tb3
  have ht4 := Lib.hid (ht3.out.ext hx4)
  have hk4 := Lib.hid (hk'.out.ext hx4)
  have hx4' := Lib.hid (hx3'.out.trans hx4)
  obtain ⟨lb, hlb⟩ : ∃ lb, Hid (lawfulB t pick = lb) := ⟨_, rfl⟩
  rw [hlb.out]
  clear hx4 tb3 ht3 hk' hx3'
  go_wp2_with fail
  refine (best_calls _ t _ ht4.out (fun _ => hm.out)).mono ?_
  intro e w5 hb
  rcases best_out hv.out hb with ⟨hn, rfl, hx5⟩ | ⟨pv, cv, p, q, hq, rfl, hx5, hp, hc⟩
  · have hx5' := Lib.hid (hx4'.out.trans hx5)
    have hlf : lb = false := by rw [← hlb.out]; exact bestOf_none hv.out hn pick
    subst hlf
    clear hb hx5 hn
    go_wp2
    go_ret
    exact ⟨rfl, Ext.trans hx5'.out (by exact (by repeat' (first | (with_reducible exact Ext.refl _) | (with_reducible assumption) | (with_reducible refine Ext.drewN ?_ _) | (with_reducible refine Ext.drew ?_) | (with_reducible refine Ext.alloc ?_ _) | (with_reducible refine Ext.trans ?_ (by with_reducible assumption)))))⟩
  · have tb5 := hx5.cell tb4
    have ht5 := Lib.hid (ht4.out.ext hx5)
    have hk5 := Lib.hid (hk4.out.ext hx5)
    have hx5' := Lib.hid (hx4'.out.trans hx5)
    have hp5 := Lib.hid hp
    obtain ⟨pa, pc, rfl⟩ := hp.form
    obtain ⟨ca, cc, rfl⟩ := hc.form
    have hq' := Lib.hid hq
    have hqb := bestOf_bd hv.out hq
    have q0 := hqb.1
    have q1 := hqb.2
    have hsp := bestOf_spec hv.out hq
    have hpc : Hid (choiceB t p = true) := by
      have := hsp.1
      simp only [lawfulB, Bool.and_eq_true] at this
      exact this.1.2
    have hH1 : Hid (harmT t p = (q, 0)) := by
      show _ = _
      simp only [harmT]
      rw [if_pos hv.out, if_pos hpc.out, hsp.2.1]
    obtain ⟨n, hn⟩ : ∃ n, Hid (sumH t pick = n) := ⟨_, rfl⟩
    have hH2 : Hid (harmT t pick = (n, 0)) := by
      show _ = _
      simp only [harmT]
      rw [if_pos hv.out, if_pos hcb.out, hn.out]
    have hpl : Hid (p.length = pick.length) := by show _ = _; rw [choiceB_len hpc.out, hkl'.out]
    have hplw : Hid (lawfulB t p = true) := hsp.1
    have hall : Hid (lb = true → q ≤ n ∧ (n ≤ q → pick = p ∨ LexB p pick)) := by
      intro hl
      rw [← hlb.out] at hl
      rw [← hn.out]
      exact ⟨hsp.2.2 pick hl, fun hle => bestOf_first hv.out hq hl hle⟩
    have hnb : 0 ≤ n ∧ n ≤ 4000000 := by
      have := sumH_bd (harms_of hv.out) hcb.out
      rw [hn.out] at this
      omega
    have n0 := hnb.1
    have n1 := hnb.2
    clear hb hx5 hp hc hq hqb hsp hnb
    go_upto_region 8 with (fail)
    refine wp_abs (S := fun W => Hid (Ext w5 W) ∧ Hid (Blk W w5.heap.size 30 #[.slice pa p.length pc, .int .i64 q])) ?_ ?_
    · exact ⟨Lib.hid (by exact (by repeat' (first | (with_reducible exact Ext.refl _) | (with_reducible assumption) | (with_reducible refine Ext.drewN ?_ _) | (with_reducible refine Ext.drew ?_) | (with_reducible refine Ext.alloc ?_ _) | (with_reducible refine Ext.trans ?_ (by with_reducible assumption))))), blk_new' rfl rfl⟩
    rintro W ⟨hW, bp⟩
    have tbW := hW.out.cell tb5
    have pW : W.cell? ⟨w5.heap.size, 0, none⟩ = some (.slice pa p.length pc) := bp.out.cell 0
    clear tb4 tb5
    go_wp2_with fail
    refine (harm_calls _ _ t p W (ht5.out.ext hW.out) (hp5.out.ext hW.out)).mono ?_
    rw [hH1.out]
    rintro e w6 ⟨rfl, hx6⟩
    have hx6' := Lib.hid (hW.out.trans hx6)
    have tb6 := hx6.cell tbW
    have p6 := hx6.cell pW
    have p6b : w6.cell? ⟨w5.heap.size, 1, none⟩ = some (.int .i64 q) := hx6.cell (bp.out.cell 1)
    clear hx6 tbW pW hW bp
    go_wp2_with fail
    refine (harm_calls _ _ t pick w6 (ht5.out.ext hx6'.out) (hk5.out.ext hx6'.out)).mono ?_
    rw [hH2.out]
    rintro e w7 ⟨rfl, hx7⟩
    have hx7' := Lib.hid (hx6'.out.trans hx7)
    have tb7 := hx7.cell tb6
    have p7 := hx7.cell p6
    have p7b := hx7.cell p6b
    have bq : (q != q) = false := by simp
    have bl : ((p.length : Int) != (pick.length : Int)) = false := by rw [hpl.out]; simp
    clear hx7 tb6 p6 p6b
    go_upto_region 10 with (fail)
    have z0 := After.cell tb7
    have z1 := After.cell p7
    have z2 := After.cell p7b
    have hLw : Hid (∀ X, Ext w7 X → Calls Try.prog 29 #[.agg #[.slice ta t.length tc], .slice pa p.length pc] X fun e w' => e = .returned (.bool true) ∧ Ext X w') := fun X hX => by
      have := lawful_calls (.slice ta t.length tc) (.slice pa p.length pc) t p X ((ht5.out.ext hx7'.out).ext hX) ((hp5.out.ext hx7'.out).ext hX)
      rwa [hplw.out] at this
    refine wp_region_after0 ?_
    repeat (go_big_quiet_step (exact After.call _ (by with_reducible exact hLw.out _ (After.ext _))))
    refine wpQuiet_nil ?_
    rintro _ ⟨y, rfl⟩
    have p8 := z1 y
    have hx8 := Lib.hid (hx7'.out.trans y.ext)
    generalize y.world = w8 at hx8 p8 ⊢
    clear z0 z1 z2 tb7 p7 p7b bl
    cases lb with
    | false =>
      go_wp2
      go_ret
      exact ⟨rfl, hx5'.out.trans hx8.out⟩
    | true =>
      have hle := (hall.out rfl).1
      have hor := Lib.hid (hall.out rfl).2
      have hdl : decide (n < q) = false := by simp; omega
      by_cases hgt : q < n
      · have hdg : decide (q < n) = true := by simp; omega
        go_wp2
        go_ret
        exact ⟨rfl, hx5'.out.trans hx8.out⟩
      · have hdg : decide (q < n) = false := by simp; omega
        obtain ⟨_, _, e1, _, _, kat⟩ := hk5.out.open
        cases e1
        obtain ⟨_, _, e2, _, _, pat⟩ := hp5.out.open
        cases e2
        have kat' := Lib.hid kat
        have pat' := Lib.hid pat
        have hx58 := Lib.hid (hx8.out)
        have hlex := Lib.hid (hor.out (by omega))
        have hpk : pick.length = p.length := hpl.out.symm
        have hpk' := Lib.hid hpk
        have hple : pick.length ≤ p.length := by omega
        clear kat pat hpk
        go_wp2_with fail
        go_loopw [16] (fun vi wr => ∃ i : Nat, i ≤ pick.length ∧ vi = .int .i64 i ∧ Hid (Ext w8 wr) ∧ Hid (p.take i = pick.take i)) (fun vi _ => pick.length - (intOf vi).toNat)
        case atStart => exact ⟨0, by omega, rfl, Lib.hid (Ext.refl _), by simp [Hid]⟩
        case round =>
          obtain ⟨i, hi, rfl, hx9, hT⟩ := hrel
          have p9 := hx9.out.cell p8
          have hxw := Lib.hid (hx58.out.trans hx9.out)
          by_cases h1 : i < pick.length
          · obtain ⟨b1, o1, a, rfl, hb1, da, ea, k1⟩ := kat'.out i h1 wr hxw.out
            obtain ⟨b2, o2, b, rfl, hb2, db, eb, k2⟩ := pat'.out i (by omega) wr hxw.out
            by_cases hab : a = b
            · subst hab
              have hne : (a != a) = false := by simp
              have hT2 : Hid (p.take (i + 1) = pick.take (i + 1)) := by
                show _ = _
                rw [List.take_add_one, List.take_add_one, hT.out, ea.out, eb.out]
              have z0 := After.cell p9
              have z1 := After.cell k1
              have z2 := After.cell k2
              clear p9 k1 k2
              go_wp2_with fail
              refine wp_region_after (by kernel_rfl) (by kernel_rfl) ?_
              repeat (go_big_quiet_step (fail))
              refine wpQuiet_nil ?_
              rintro _ ⟨y, rfl⟩
              go_wp2
              go_roundw
              case rel => exact ⟨i + 1, by omega, by go_num, Lib.hid (hx9.out.trans y.ext), hT2⟩
              case measure => simp [intOf]; omega
            · have hne : (a != b) = true := by simpa using hab
              have hlt : b < a := by
                rcases hlex.out with e | hl
                · rw [e] at ea
                  exact absurd (Option.some.inj (ea.out.symm.trans eb.out)) hab
                · exact hl.at_ hT.out eb.out ea.out (Ne.symm hab)
              have hdlt : decide (b < a) = true := by simp; exact hlt
              have z0 := After.cell p9
              have z1 := After.cell k1
              have z2 := After.cell k2
              clear p9 k1 k2
              go_wp2_with fail
              refine wp_region_after (by kernel_rfl) (by kernel_rfl) ?_
              repeat (go_big_quiet_step (fail))
              refine wpQuiet_nil ?_
              rintro _ ⟨y, rfl⟩
              have z0' := After.cell (z0 y)
              have z1' := After.cell (z1 y)
              have z2' := After.cell (z2 y)
              have hxy := y.ext
              generalize y.world = w10 at hxy z0' z1' z2' ⊢
              clear z0 z1 z2
              go_wp2_with fail
              refine wp_region_after (by kernel_rfl) (by kernel_rfl) ?_
              repeat (go_big_quiet_step (fail))
              refine wpQuiet_nil ?_
              rintro _ ⟨u, rfl⟩
              go_wp2
              go_ret
              exact ⟨rfl, ((hx5'.out.trans hxw.out).trans hxy).trans u.ext⟩
          · go_wp2
            go_ret
            exact ⟨rfl, hx5'.out.trans hxw.out⟩
end Go.Proofs.Ytonmlmkemliefaa
