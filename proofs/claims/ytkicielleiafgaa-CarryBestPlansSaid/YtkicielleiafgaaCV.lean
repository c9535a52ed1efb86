/- The law CarryBestPlans, walked. -/
import Derived.Test.YtkicielleiafgaaCQ
import Derived.Test.YtkicielleiafgaaPK
namespace Go.Proofs.Ytkicielleiafgaa
open Go.RowKit

theorem playS_none {t : List WishD} {p : List Int} (h : lawfulB t p = true) (h512 : t.length ≤ 512) : playS t (orderL t p) [] = (p, true, 0) := by
  unfold playS
  rw [if_pos (order_steps h h512), (order_spec h).1]
  rfl
theorem harmT_best {t : List WishD} {p : List Int} {q : Int} (hv : validT t = 0) (hb : bestOf t = some (p, q)) : harmT t p = (q, 0) := by
  obtain ⟨h1, h2, _⟩ := bestOf_spec hv hb
  unfold harmT
  rw [if_pos hv, if_pos (lawful_parts h1).2.1, h2]
set_option maxHeartbeats 1600000 in
set_option maxRecDepth 100000 in
theorem carryBestPlans_calls (rv : Value) (l : List RawD) (w : World) (h : Raws w rv l) :
    Calls Try.prog 10 #[rv] w fun e w' => e = .returned (.bool true) ∧ Ext w w' := by
  have hraw := Lib.hid h
  have hok := Lib.hid h.ok
  clear h
  go_enter Try.func10, Try.ntmps10
  go_wp2_with fail
  refine (sanity35_calls _).mono ?_
  rintro e w1 ⟨rfl, hx1⟩
  have hx1' := Lib.hid hx1
  clear hx1
  go_wp2_with fail
  refine (made_calls rv l w1 (hraw.out.ext hx1'.out)).mono ?_
  rintro e w2 ⟨tv, rfl, ht, hx2⟩
  obtain ⟨t, ht0⟩ : ∃ t, Hid (madeT l = t) := ⟨_, rfl⟩
  have hv : Hid (validT t = 0) := by rw [← ht0.out]; exact made_valid hok.out
  have hm : Hid (treeMax t ≤ 65536) := by rw [← ht0.out]; exact Nat.le_trans (made_tree hok.out) (by decide)
  have ho4 : Hid (∀ x ∈ t, x.opts.length ≤ 4) := by rw [← ht0.out]; exact fun x hx => (made_opts hok.out hx).2.1
  have hlen : t.length ≤ 4 := by rw [← ht0.out]; exact made_len.2
  rw [ht0.out] at ht
  clear ht0
  have ht' := Lib.hid ht.read
  obtain ⟨ta, tc, rfl⟩ := ht.read.form
  have hx2' := Lib.hid (hx1'.out.trans hx2)
  clear ht hx2
  go_wp2_with fail
  have hq := Lib.hid ((Ext.refl w2).alloc (.cells #[.slice ta t.length tc] 27))
  refine (best_calls _ t _ (ht'.out.ext hq.out) (fun _ => hm.out)).mono ?_
  intro e w3 hb
  rcases best_out hv.out hb with ⟨hn, rfl, hx3⟩ | ⟨pv, cv, p, q, hb', rfl, hx3, hp, hc⟩
  · have hw3 := Lib.hid (hx2'.out.trans (hq.out.trans hx3))
    clear hb hn hx3 hq hx2'
    go_wp2
    go_ret
    exact ⟨rfl, hw3.out.trans (by exact (by repeat' (first | (with_reducible exact Ext.refl _) | (with_reducible assumption) | (with_reducible refine Ext.drewN ?_ _) | (with_reducible refine Ext.drew ?_) | (with_reducible refine Ext.alloc ?_ _) | (with_reducible refine Ext.trans ?_ (by with_reducible assumption)))))⟩
  · have hbo := Lib.hid hb'
    have hlw' : Hid (lawfulB t p = true) := (bestOf_spec hv.out hb').1
    have tb3 : w3.cell? ⟨w2.heap.size, 0, none⟩ = some (.slice ta t.length tc) := hx3.cell (by simp)
    have ht3 := Lib.hid (ht'.out.ext (hq.out.trans hx3))
    have hw3 := Lib.hid (hx2'.out.trans (hq.out.trans hx3))
    obtain ⟨pa, pc, rfl⟩ := hp.form
    obtain ⟨cN, hcN⟩ : ∃ N, Hid ((growL t q t [] 0 0).nodes = N) := ⟨_, rfl⟩
    have hck : Hid (checkT t q cN = 0) := by rw [← hcN.out]; exact cert_small hv.out hm.out hb' (Int.le_refl _)
    have hkd : Hid (∀ n ∈ cN, n.kids.length ≤ 65536) := by
      rw [← hcN.out]
      exact fun n hn => by have := growL_kids t q 4 t ho4.out [] 0 0 n hn; omega
    rw [hcN.out] at hc
    obtain ⟨ca, cc, rfl⟩ := hc.form
    have hp3 := Lib.hid hp
    have hc3 := Lib.hid hc
    clear hb hb' hx3 hq hx2' hx1' ht' hp hc hcN
    revert tb3
    generalize w2.heap.size = bt
    intro tb3
    go_upto_region 4 with (fail)
    refine wp_abs (S := fun W => Hid (Ext w3 W) ∧ Hid (Blk W w3.heap.size 67 #[.slice pa p.length pc, .int .i64 q])) ?_ ?_
    · exact ⟨Lib.hid (by exact (by repeat' (first | (with_reducible exact Ext.refl _) | (with_reducible assumption) | (with_reducible refine Ext.drewN ?_ _) | (with_reducible refine Ext.drew ?_) | (with_reducible refine Ext.alloc ?_ _) | (with_reducible refine Ext.trans ?_ (by with_reducible assumption))))), blk_new' rfl rfl⟩
    rintro W ⟨hW, bp⟩
    have tW := hW.out.cell tb3
    have pW : W.cell? ⟨w3.heap.size, 0, none⟩ = some (.slice pa p.length pc) := bp.out.cell 0
    have qW : W.cell? ⟨w3.heap.size, 1, none⟩ = some (.int .i64 q) := bp.out.cell 1
    have htW := Lib.hid (ht3.out.ext hW.out)
    have hpW := Lib.hid (hp3.out.ext hW.out)
    have hcW := Lib.hid (hc3.out.ext hW.out)
    have hwW := Lib.hid (hw3.out.trans hW.out)
    revert pW qW
    generalize w3.heap.size = bq
    intro pW qW
    clear tb3 hp3 hc3 ht3 hw3 hW bp
    obtain ⟨ol, hol⟩ : ∃ ol, Hid (orderL t p = ol) := ⟨_, rfl⟩
    go_wp2_with fail
    refine (order_calls _ _ t p _ htW.out hpW.out).mono ?_
    rw [orderS_ok hlw'.out, hol.out]
    rintro e w4 ⟨sv, rfl, hs, hx4⟩
    have hs4 := Lib.hid hs.read
    obtain ⟨sa, sc, rfl⟩ := hs.read.form
    clear hs
    replace tW := hx4.cell tW
    replace pW := hx4.cell pW
    replace qW := hx4.cell qW
    replace htW := Lib.hid (htW.out.ext hx4)
    replace hpW := Lib.hid (hpW.out.ext hx4)
    replace hcW := Lib.hid (hcW.out.ext hx4)
    replace hwW := Lib.hid (hwW.out.trans hx4)
    clear hx4
    have hR : Hid (playS t ol [] = (p, true, 0)) := by rw [← hol.out]; exact playS_none hlw'.out (by omega)
    have hK : Hid (checkS t p ol = 0) := by rw [← hol.out]; exact order_check hlw'.out (by omega)
    have hH : Hid (harmT t p = (q, 0)) := harmT_best hv.out hbo.out
    have bqq : (q == q) = true := by simp
    clear hol hbo
    go_wp2_with fail
    refine (play_calls _ _ (.slice none 0 0) t ol [] _ htW.out hs4.out (IntsO.nil _ 0).read).mono ?_
    rw [hR.out]
    rintro e w5 ⟨v, rfl, hst, hx5⟩
    dsimp only at hst ⊢
    have hst5 := Lib.hid hst
    obtain ⟨ra, rc, rfl⟩ := hst.form
    clear hst
    replace tW := hx5.cell tW
    replace pW := hx5.cell pW
    replace qW := hx5.cell qW
    replace htW := Lib.hid (htW.out.ext hx5)
    replace hpW := Lib.hid (hpW.out.ext hx5)
    replace hcW := Lib.hid (hcW.out.ext hx5)
    replace hs4 := Lib.hid (hs4.out.ext hx5)
    replace hwW := Lib.hid (hwW.out.trans hx5)
    clear hx5
    go_wp2_with fail
    refine (harm_calls _ _ t p _ htW.out hst5.out).mono ?_
    rw [hH.out]
    rintro e w6 ⟨rfl, hx6⟩
    replace tW := hx6.cell tW
    replace pW := hx6.cell pW
    replace qW := hx6.cell qW
    replace htW := Lib.hid (htW.out.ext hx6)
    replace hpW := Lib.hid (hpW.out.ext hx6)
    replace hcW := Lib.hid (hcW.out.ext hx6)
    replace hs4 := Lib.hid (hs4.out.ext hx6)
    replace hwW := Lib.hid (hwW.out.trans hx6)
    clear hx6 hst5
    go_wp2_with fail
    refine (carryCheckFull_calls _ _ _ t p ol _ htW.out hpW.out hs4.out).mono ?_
    rw [hK.out]
    rintro e w7 ⟨rfl, hx7⟩
    replace tW := hx7.cell tW
    replace htW := Lib.hid (htW.out.ext hx7)
    replace hcW := Lib.hid (hcW.out.ext hx7)
    replace hwW := Lib.hid (hwW.out.trans hx7)
    clear hx7 hs4 hpW pW qW
    go_wp2_with fail
    refine (check_calls _ _ t q cN _ htW.out hcW.out hkd.out).mono ?_
    rw [hck.out]
    rintro e w8 ⟨rfl, hx8⟩
    replace hwW := Lib.hid (hwW.out.trans hx8)
    clear hx8
    go_wp2
    go_ret
    exact ⟨rfl, hwW.out⟩
end Go.Proofs.Ytkicielleiafgaa
