/- The law PlanBestMatchesReference, walked: true for every task that Made makes. -/
import Derived.Test.YtonmlmkemliefaaRW
import Derived.Test.YtonmlmkemliefaaRO
import Derived.Test.YtonmlmkemliefaaCertified
import Derived.Test.YtonmlmkemliefaaPM
import Derived.Test.YtonmlmkemliefaaPK
namespace Go.Proofs.Ytonmlmkemliefaa
open Go.RowKit

set_option maxHeartbeats 1600000 in
set_option maxRecDepth 100000 in
theorem planBestMatchesReference_calls (rv : Value) (l : List RawD) (w : World) (h : Raws w rv l) :
    Calls Try.prog 3 #[rv] w fun e w' => e = .returned (.bool true) ∧ Ext w w' := by
  have hraw := Lib.hid h
  have hok := Lib.hid h.ok
  clear h
  go_enter Try.func3, Try.ntmps3
  go_wp2_with fail
  refine (sanity_calls _).mono ?_
  rintro e w1 ⟨rfl, hx1⟩
  have hx1' := Lib.hid hx1
  clear hx1
  go_wp2_with fail
  refine (made_calls rv l w1 (hraw.out.ext hx1'.out)).mono ?_
  rintro e w2 ⟨tv, rfl, ht, hx2⟩
  obtain ⟨t, ht0⟩ : ∃ t, Hid (madeT l = t) := ⟨_, rfl⟩
  have hv : Hid (validT t = 0) := by rw [← ht0.out]; exact made_valid hok.out
  have hm : Hid (treeMax t ≤ 65536) := by rw [← ht0.out]; exact Nat.le_trans (made_tree hok.out) (by decide)
  have ho : Hid (∀ x ∈ t, 0 < x.opts.length) := by rw [← ht0.out]; exact fun x hx => (made_opts hok.out hx).1
  have hlen : t.length ≤ 4 := by rw [← ht0.out]; exact made_len.2
  have hl0 : 0 < t.length := by rw [← ht0.out]; exact made_len.1
  rw [ht0.out] at ht
  clear ht0
  have ht' := Lib.hid ht.read
  obtain ⟨ta, tc, rfl⟩ := ht.read.form
  have hx2' := Lib.hid (hx1'.out.trans hx2)
  clear ht hx2
  go_wp2_with fail
  refine (best_calls _ t _ (ht'.out.ext (by exact (by repeat' (first | (with_reducible exact Ext.refl _) | (with_reducible assumption) | (with_reducible refine Ext.drewN ?_ _) | (with_reducible refine Ext.drew ?_) | (with_reducible refine Ext.alloc ?_ _) | (with_reducible refine Ext.trans ?_ (by with_reducible assumption)))))) (fun _ => hm.out)).mono ?_
  intro e w5 hb
  rcases best_out hv.out hb with ⟨hn, rfl, hx5⟩ | ⟨pv, cv, p, q, hq, rfl, hx5, hp, hc⟩
  · have hbn : bestOf t = none := by unfold bestOf; rw [hn]; rfl
    have tb5 : w5.cell? ⟨w2.heap.size, 0, none⟩ = some (.slice ta t.length tc) := hx5.cell (by simp)
    have ht5 := Lib.hid (ht'.out.ext (((Ext.refl w2).alloc _).trans hx5))
    have hx5' := Lib.hid (hx2'.out.trans (((Ext.refl w2).alloc _).trans hx5))
    have lt5 := World.block_lt_of_cell? _ _ tb5
    clear hb hx5 hn ht' hx2'
    go_wp2_with fail
    refine (rBest_calls _ t _ (ht5.out.ext (by exact (by repeat' (first | (with_reducible exact Ext.refl _) | (with_reducible assumption) | (with_reducible refine Ext.drewN ?_ _) | (with_reducible refine Ext.drew ?_) | (with_reducible refine Ext.alloc ?_ _) | (with_reducible refine Ext.trans ?_ (by with_reducible assumption)))))) hv.out ho.out hl0 (by omega)).mono ?_
    intro e w6 hr
    unfold RBest at hr
    rw [hbn] at hr
    simp only [bD, Option.getD_none, Option.isSome_none] at hr
    obtain ⟨v, rfl, hv6, hx6⟩ := hr
    obtain ⟨va, vc, rfl⟩ := hv6.form
    have pc0 : w6.cell? ⟨w5.heap.size, 0, none⟩ = some (.slice none 0 0) := hx6.cell (by simp)
    have lp := World.block_lt_of_cell? _ _ pc0
    have hx6' := Lib.hid (hx5'.out.trans (((Ext.refl w5).alloc _).trans hx6))
    clear hv6 hx6 hbn tb5 ht5 hx5' lt5
    go_wp2
    go_ret
    exact ⟨rfl, Ext.trans hx6'.out (by exact (by repeat' (first | (with_reducible exact Ext.refl _) | (with_reducible assumption) | (with_reducible refine Ext.drewN ?_ _) | (with_reducible refine Ext.drew ?_) | (with_reducible refine Ext.alloc ?_ _) | (with_reducible refine Ext.trans ?_ (by with_reducible assumption)))))⟩
  · have tb5 : w5.cell? ⟨w2.heap.size, 0, none⟩ = some (.slice ta t.length tc) := hx5.cell (by simp)
    have ht5 := Lib.hid (ht'.out.ext (((Ext.refl w2).alloc _).trans hx5))
    have hx5' := Lib.hid (hx2'.out.trans (((Ext.refl w2).alloc _).trans hx5))
    have lt5 := World.block_lt_of_cell? _ _ tb5
    have hp5 := Lib.hid hp
    have hc5 := Lib.hid hc
    obtain ⟨pa, pc, rfl⟩ := hp.form
    obtain ⟨ca, cc, rfl⟩ := hc.form
    clear hb hx5 ht' hx2' hp hc
    go_wp2_with fail
    refine (rBest_calls _ t _ (ht5.out.ext (by exact (by repeat' (first | (with_reducible exact Ext.refl _) | (with_reducible assumption) | (with_reducible refine Ext.drewN ?_ _) | (with_reducible refine Ext.drew ?_) | (with_reducible refine Ext.alloc ?_ _) | (with_reducible refine Ext.trans ?_ (by with_reducible assumption)))))) hv.out ho.out hl0 (by omega)).mono ?_
    intro e w6 hr
    unfold RBest at hr
    rw [hq] at hr
    simp only [bD, Option.getD_some, Option.isSome_some] at hr
    obtain ⟨v, rfl, hv6, hx6⟩ := hr
    obtain ⟨va, vc, rfl⟩ := hv6.form
    have pc0 : w6.cell? ⟨w5.heap.size, 0, none⟩ = some (.slice pa p.length pc) := hx6.cell (by simp)
    have pc1 : w6.cell? ⟨w5.heap.size, 1, none⟩ = some (.int .i64 q) := hx6.cell (by simp)
    have tb6 : w6.cell? ⟨w2.heap.size, 0, none⟩ = some (.slice ta t.length tc) := (((Ext.refl w5).alloc _).trans hx6).cell tb5
    have ht6 := Lib.hid (ht5.out.ext (((Ext.refl w5).alloc _).trans hx6))
    have hp6 := Lib.hid (hp5.out.ext (((Ext.refl w5).alloc _).trans hx6))
    have hc6 := Lib.hid (hc5.out.ext (((Ext.refl w5).alloc _).trans hx6))
    have lp := World.block_lt_of_cell? _ _ pc0
    have lt6 := World.block_lt_of_cell? _ _ tb6
    have hx6' := Lib.hid (hx5'.out.trans (((Ext.refl w5).alloc _).trans hx6))
    have hv6' := Lib.hid hv6
    have hqq := Lib.hid hq
    clear hv6 hx6 hq tb5 ht5 hx5' lt5 hp5 hc5
    go_upto_region 7 with (fail)
    refine wp_abs (S := fun W => Hid (Ext w6 W) ∧ Hid (Blk W w6.heap.size 30 #[.slice va p.length vc, .int .i64 q])) ?_ ?_
    · exact ⟨Lib.hid (by exact (by repeat' (first | (with_reducible exact Ext.refl _) | (with_reducible assumption) | (with_reducible refine Ext.drewN ?_ _) | (with_reducible refine Ext.drew ?_) | (with_reducible refine Ext.alloc ?_ _) | (with_reducible refine Ext.trans ?_ (by with_reducible assumption))))), blk_new' rfl rfl⟩
    rintro W ⟨hW, bp⟩
    have a0 := hW.out.cell pc0
    have a1 := hW.out.cell pc1
    have a2 := hW.out.cell tb6
    have a3 : W.cell? ⟨w6.heap.size, 0, none⟩ = some (.slice va p.length vc) := bp.out.cell 0
    have a4 : W.cell? ⟨w6.heap.size, 1, none⟩ = some (.int .i64 q) := bp.out.cell 1
    clear pc0 pc1 tb6
    go_wp2_with fail
    have hss : samePlanB p q p q = true := by simp [samePlanB]
    refine (samePlan_calls _ _ p p q q W (hp6.out.ext hW.out) (hv6'.out.ext hW.out)).mono ?_
    rw [hss]
    rintro e w7 ⟨rfl, hx7⟩
    have b2 := hx7.cell a2
    have b4 := hx7.cell a4
    have hx7' := Lib.hid (hW.out.trans hx7)
    clear hss hx7 a0 a1 a2 a3 a4 bp hW
    go_wp2_with fail
    refine (rStandard_calls _ t q w7 (ht6.out.ext hx7'.out) hv.out ho.out (by omega) hm.out).mono ?_
    rintro e w8 ⟨S, nv, O, rfl, hx8, hS, hN⟩
    obtain ⟨na, nc, rfl⟩ := hN.form
    have d2 : w8.cell? ⟨S, 2, none⟩ = some (.slice na (growN t q t [] 0 0).length nc) := hS.cell 2
    have hx8' := Lib.hid (hx7'.out.trans hx8)
    have hN' := Lib.hid hN
    have hC8 := Lib.hid (hc6.out.ext hx8'.out)
    clear hx8 hS hN b2 b4
    go_wp2_with fail
    refine (rSame_calls _ _ _ w8 hC8.out hN'.out).mono ?_
    rintro e w9 ⟨rfl, hx9⟩
    have hx9' := Lib.hid (hx6'.out.trans (hx8'.out.trans hx9))
    clear hx9
    go_wp2
    go_ret
    exact ⟨rfl, Ext.trans hx9'.out (by exact (by repeat' (first | (with_reducible exact Ext.refl _) | (with_reducible assumption) | (with_reducible refine Ext.drewN ?_ _) | (with_reducible refine Ext.drew ?_) | (with_reducible refine Ext.alloc ?_ _) | (with_reducible refine Ext.trans ?_ (by with_reducible assumption)))))⟩
end Go.Proofs.Ytonmlmkemliefaa
