/- The law PlanCertified, walked: true for every task that Made makes. -/
import Derived.Test.YtonmlmkemliefaaPL
import Derived.Test.YtonmlmkemliefaaPM
import Derived.Test.YtonmlmkemliefaaPK
import Derived.Test.YtonmlmkemliefaaSanLaw
namespace Go.Proofs.Ytonmlmkemliefaa
open Go.RowKit

set_option maxHeartbeats 1600000 in
set_option maxRecDepth 100000 in
theorem planCertified_calls (rv : Value) (l : List RawD) (by_ : Int) (h0 : 0 ≤ by_) (h1 : by_ ≤ 255) (w : World) (h : Raws w rv l) :
    Calls Try.prog 4 #[rv, .int .u8 by_] w fun e w' => e = .returned (.bool true) ∧ Ext w w' := by
  have hraw := Lib.hid h
  have hok := Lib.hid h.ok
  clear h
  go_enter Try.func4, Try.ntmps4
  go_wp2_with fail
  refine (sanity_calls _).mono ?_
  rintro e w1 ⟨rfl, hx1⟩
  have hx1' := Lib.hid hx1
  clear hx1
  go_wp2_with fail
  refine (made_calls rv l w1 (hraw.out.ext hx1'.out)).mono ?_
  rintro e w2 ⟨tv, rfl, ht, hx2⟩
  obtain ⟨t, ht0⟩ : ∃ t, Hid (madeT l = t) := ⟨_, rfl⟩
  have hv : Hid (validT t = 0) := by rw [← ht0.out]; exact made_valid hok.out
  have hm : Hid (treeMax t ≤ 65536) := by rw [← ht0.out]; exact Nat.le_trans (made_tree hok.out) (by decide)
  have ho : Hid (∀ x ∈ t, x.opts.length ≤ 4) := by rw [← ht0.out]; exact fun x hx => (made_opts hok.out hx).2.1
  rw [ht0.out] at ht
  clear ht0
  have ht' := Lib.hid ht.read
  obtain ⟨ta, tc, rfl⟩ := ht.read.form
  have hx2' := Lib.hid (hx1'.out.trans hx2)
  clear ht hx2
  go_wp2_with fail
  refine (best_calls _ t _ (ht'.out.ext (by exact (by repeat' (first | (with_reducible exact Ext.refl _) | (with_reducible assumption) | (with_reducible refine Ext.drewN ?_ _) | (with_reducible refine Ext.drew ?_) | (with_reducible refine Ext.alloc ?_ _) | (with_reducible refine Ext.trans ?_ (by with_reducible assumption)))))) (fun _ => hm.out)).mono ?_
  intro e w3 hb
  rcases best_out hv.out hb with ⟨_, rfl, hx3⟩ | ⟨pv, cv, p, q, hq, rfl, hx3, hp, hc⟩
  · have hx3' := Lib.hid ((hx2'.out.trans (Ext.alloc (Ext.refl w2) _)).trans hx3)
    clear hb hx3
    go_wp2
    go_ret
    exact ⟨rfl, Ext.trans hx3'.out (by exact (by repeat' (first | (with_reducible exact Ext.refl _) | (with_reducible assumption) | (with_reducible refine Ext.drewN ?_ _) | (with_reducible refine Ext.drew ?_) | (with_reducible refine Ext.alloc ?_ _) | (with_reducible refine Ext.trans ?_ (by with_reducible assumption)))))⟩
  · have hx3' := Lib.hid ((hx2'.out.trans (Ext.alloc (Ext.refl w2) _)).trans hx3)
    have tb : w3.cell? ⟨w2.heap.size, 0, none⟩ = some (.slice ta t.length tc) := hx3.cell (by simp)
    have ht3 := Lib.hid ((ht'.out.ext ((Ext.refl w2).alloc _)).ext hx3)
    have hc' := Lib.hid hc
    obtain ⟨pa, pc, rfl⟩ := hp.form
    obtain ⟨ca, cc, rfl⟩ := hc.form
    have hq' := Lib.hid hq
    have hqb := bestOf_bd hv.out hq
    have q0 := hqb.1
    have q1 := hqb.2
    obtain ⟨LN, hLN⟩ : ∃ LN, Hid ((growL t q t [] 0 0).nodes.length = LN) := ⟨_, rfl⟩
    rw [hLN.out] at hc' ⊢
    clear hb hx3 hp hc hq hqb
    go_upto_region 6 with (fail)
    refine wp_abs (S := fun W => Ext w3 W ∧ Blk W w3.heap.size 30 #[.slice pa p.length pc, .int .i64 q]) ?_ ?_
    · exact ⟨by exact (by repeat' (first | (with_reducible exact Ext.refl _) | (with_reducible assumption) | (with_reducible refine Ext.drewN ?_ _) | (with_reducible refine Ext.drew ?_) | (with_reducible refine Ext.alloc ?_ _) | (with_reducible refine Ext.trans ?_ (by with_reducible assumption)))), blk_new' rfl rfl⟩
    rintro W ⟨hW, bp⟩
    have hT := ht3.out.ext hW
    have hN := hc'.out.ext hW
    have hk := growL_kids t q 4 t ho.out [] 0 0
    have hC1 : Hid (∀ X, Ext W X → Calls Try.prog 19 #[.agg #[.slice ta t.length tc], .int .i64 q, .slice ca LN cc] X fun e w' => e = .returned (.int .i64 0) ∧ Ext X w') := fun X hX => by
      have := check_calls (.slice ta t.length tc) (.slice ca LN cc) t q _ X (hT.ext hX) (hN.ext hX) (fun n hn => by have := hk n hn; omega)
      rwa [cert_small hv.out hm.out hq'.out (Int.le_refl _)] at this
    have hC2 : Hid (∀ X, Ext W X → Calls Try.prog 19 #[.agg #[.slice ta t.length tc], .int .i64 (q - by_), .slice ca LN cc] X fun e w' => e = .returned (.int .i64 0) ∧ Ext X w') := fun X hX => by
      have := check_calls (.slice ta t.length tc) (.slice ca LN cc) t (q - by_) _ X (hT.ext hX) (hN.ext hX) (fun n hn => by have := hk n hn; omega)
      rwa [cert_small hv.out hm.out hq'.out (by omega)] at this
    have hC3 : Hid (∀ X, Ext W X → Calls Try.prog 19 #[.agg #[.slice ta t.length tc], .int .i64 (q + 1 + by_), .slice ca LN cc] X fun e w' => e = .returned (.int .i64 11) ∧ Ext X w') := fun X hX => by
      have := check_calls (.slice ta t.length tc) (.slice ca LN cc) t (q + 1 + by_) _ X (hT.ext hX) (hN.ext hX) (fun n hn => by have := hk n hn; omega)
      rwa [cert_great hv.out hm.out hq'.out (by omega)] at this
    have z1 := After.cell (show W.cell? ⟨w3.heap.size, 1, none⟩ = some (.int .i64 q) from bp.cell 1)
    have z4 := After.cell (hW.cell tb)
    have hxx := Lib.hid (hx3'.out.trans hW)
    clear hT hN hk bp hW tb
    refine wp_region_after0 ?_
    repeat (go_big_quiet_step (exact After.call _ (by first | (with_reducible exact hC1.out _ (After.ext _)) | (with_reducible exact hC2.out _ (After.ext _)) | (with_reducible exact hC3.out _ (After.ext _)))))
    refine wpQuiet_nil ?_
    rintro _ ⟨y, rfl⟩
    go_wp2
    go_ret
    exact ⟨rfl, hxx.out.trans y.ext⟩
end Go.Proofs.Ytonmlmkemliefaa
