/- The law PlanCertified, walked: true for every task that Made makes. -/
import Derived.Test.YtonmlmkemliefaaMadeC
import Derived.Test.YtonmlmkemliefaaMadeT
import Derived.Test.YtonmlmkemliefaaPlainC
import Derived.Test.YtonmlmkemliefaaSanity
namespace Go.Proofs.Ytonmlmkemliefaa
open Go.RowKit

/-- what Best hands back for a valid task with a small tree -/
theorem best_out {t : List WishD} {w w' : World} {e : Ending} (hv : validT t = 0) (h : BestOut t w e w') :
    (lawfulL t = [] ∧ e = .returned (.tuple #[.agg #[.slice none 0 0, .int .i64 0], .slice none 0 0, .int .i64 4]) ∧ Ext w w') ∨
    ∃ pv cv p h, bestOf t = some (p, h) ∧ e = .returned (.tuple #[.agg #[pv, .int .i64 h], cv, .int .i64 0]) ∧ Ext w w' ∧ Ints w' pv p ∧ Nodes w' cv (growL t h t [] 0 0).nodes := by
  obtain ⟨pv, cv, er, rfl, hx, h⟩ := h
  rcases h with ⟨h, _⟩ | ⟨_, ⟨b, h1, h2⟩, rfl, rfl, rfl⟩ | ⟨_, p, q, ⟨b, hb⟩, hp, hc, rfl⟩
  · exact absurd hv h
  · exact Or.inl ⟨bestRes_none h1 h2, rfl, hx⟩
  · exact Or.inr ⟨pv, cv, p, q, (bestRes_some hb).1, rfl, hx, hp, hc⟩

theorem sumH_bd : ∀ {t : List WishD} {p : List Int}, (∀ x ∈ t, ∀ o ∈ x.opts, 0 ≤ o.harm ∧ o.harm ≤ 1000000) → choiceB t p = true → 0 ≤ sumH t p ∧ sumH t p ≤ 1000000 * t.length
  | [], [], _, _ => by simp [sumH]
  | [], _ :: _, _, h => by simp [choiceB] at h
  | _ :: _, [], _, h => by simp [choiceB] at h
  | x :: t, k :: p, hh, h => by
    simp only [choiceB, Bool.and_eq_true] at h
    obtain ⟨j, rfl, hj⟩ := idxB_nat h.1
    have h1 := hh x List.mem_cons_self x.opts[j] (List.getElem_mem hj)
    have h2 := sumH_bd (fun y hy => hh y (List.mem_cons_of_mem _ hy)) h.2
    simp only [sumH, Int.toNat_natCast, List.getElem?_eq_getElem hj, Option.getD_some, List.length_cons]
    omega
theorem bestOf_bd {t : List WishD} (hv : validT t = 0) {p : List Int} {h : Int} (hb : bestOf t = some (p, h)) : 0 ≤ h ∧ h ≤ 512000000 := by
  obtain ⟨h1, h2, _⟩ := bestOf_spec hv hb
  simp only [lawfulB, Bool.and_eq_true] at h1
  have h3 := sumH_bd (harms_of hv) h1.1.2
  have h4 := tooLarge_len (validT_ok hv).1
  omega
set_option maxHeartbeats 1600000 in
set_option maxRecDepth 100000 in
theorem planCertified_calls (rv : Value) (l : List RawD) (by_ : Int) (h0 : 0 ≤ by_) (h1 : by_ ≤ 255) (w : World) (h : Raws w rv l) :
    Calls Try.prog 4 #[rv, .int .u8 by_] w fun e w' => e = .returned (.bool true) ∧ Ext w w' := by
  have hraw := Lib.hid h
  have hok := Lib.hid h.ok
  clear h
  go_enter Try.func4, Try.ntmps4
  go_wp2_with fail
  refine (sanity_calls _).mono ?_
  rintro e w1 ⟨rfl, hx1⟩
  have hx1' := Lib.hid hx1
  clear hx1
  go_wp2_with fail
  refine (made_calls rv l w1 (hraw.out.ext hx1'.out)).mono ?_
  rintro e w2 ⟨tv, rfl, ht, hx2⟩
  obtain ⟨t, ht0⟩ : ∃ t, Hid (madeT l = t) := ⟨_, rfl⟩
  have hv : Hid (validT t = 0) := by rw [← ht0.out]; exact made_valid hok.out
  have hm : Hid (treeMax t ≤ 65536) := by rw [← ht0.out]; exact Nat.le_trans (made_tree hok.out) (by decide)
  have ho : Hid (∀ x ∈ t, x.opts.length ≤ 4) := by rw [← ht0.out]; exact fun x hx => (made_opts hok.out hx).2.1
  rw [ht0.out] at ht
  clear ht0
  have ht' := Lib.hid ht.read
  obtain ⟨ta, tc, rfl⟩ := ht.read.form
  have hx2' := Lib.hid (hx1'.out.trans hx2)
  clear ht hx2
  go_wp2_with fail
  refine (best_calls _ t _ (ht'.out.ext (by exact (by repeat' (first | (with_reducible exact Ext.refl _) | (with_reducible assumption) | (with_reducible refine Ext.drewN ?_ _) | (with_reducible refine Ext.drew ?_) | (with_reducible refine Ext.alloc ?_ _) | (with_reducible refine Ext.trans ?_ (by with_reducible assumption)))))) (fun _ => hm.out)).mono ?_
  intro e w3 hb
  rcases best_out hv.out hb with ⟨_, rfl, hx3⟩ | ⟨pv, cv, p, q, hq, rfl, hx3, hp, hc⟩
  · have hx3' := Lib.hid ((hx2'.out.trans (Ext.alloc (Ext.refl w2) _)).trans hx3)
    clear hb hx3
    go_wp2
    go_ret
    exact ⟨rfl, Ext.trans hx3'.out (by exact (by repeat' (first | (with_reducible exact Ext.refl _) | (with_reducible assumption) | (with_reducible refine Ext.drewN ?_ _) | (with_reducible refine Ext.drew ?_) | (with_reducible refine Ext.alloc ?_ _) | (with_reducible refine Ext.trans ?_ (by with_reducible assumption)))))⟩
  · have hx3' := Lib.hid ((hx2'.out.trans (Ext.alloc (Ext.refl w2) _)).trans hx3)
    have tb : w3.cell? ⟨w2.heap.size, 0, none⟩ = some (.slice ta t.length tc) := hx3.cell (by simp)
    have ht3 := Lib.hid ((ht'.out.ext ((Ext.refl w2).alloc _)).ext hx3)
    have hc' := Lib.hid hc
    obtain ⟨pa, pc, rfl⟩ := hp.form
    obtain ⟨ca, cc, rfl⟩ := hc.form
    have hq' := Lib.hid hq
    have hqb := bestOf_bd hv.out hq
    have q0 := hqb.1
    have q1 := hqb.2
    obtain ⟨LN, hLN⟩ : ∃ LN, Hid ((growL t q t [] 0 0).nodes.length = LN) := ⟨_, rfl⟩
    rw [hLN.out] at hc' ⊢
    clear hb hx3 hp hc hq hqb
    go_upto_region 6 with (fail)
    refine wp_abs (S := fun W => Ext w3 W ∧ Blk W w3.heap.size 30 #[.slice pa p.length pc, .int .i64 q]) ?_ ?_
    · exact ⟨by exact (by repeat' (first | (with_reducible exact Ext.refl _) | (with_reducible assumption) | (with_reducible refine Ext.drewN ?_ _) | (with_reducible refine Ext.drew ?_) | (with_reducible refine Ext.alloc ?_ _) | (with_reducible refine Ext.trans ?_ (by with_reducible assumption)))), blk_new' rfl rfl⟩
    rintro W ⟨hW, bp⟩
    have hT := ht3.out.ext hW
    have hN := hc'.out.ext hW
    have hk := growL_kids t q 4 t ho.out [] 0 0
    have hC1 : Hid (∀ X, Ext W X → Calls Try.prog 19 #[.agg #[.slice ta t.length tc], .int .i64 q, .slice ca LN cc] X fun e w' => e = .returned (.int .i64 0) ∧ Ext X w') := fun X hX => by
      have := check_calls (.slice ta t.length tc) (.slice ca LN cc) t q _ X (hT.ext hX) (hN.ext hX) (fun n hn => by have := hk n hn; omega)
      rwa [cert_small hv.out hm.out hq'.out (Int.le_refl _)] at this
    have hC2 : Hid (∀ X, Ext W X → Calls Try.prog 19 #[.agg #[.slice ta t.length tc], .int .i64 (q - by_), .slice ca LN cc] X fun e w' => e = .returned (.int .i64 0) ∧ Ext X w') := fun X hX => by
      have := check_calls (.slice ta t.length tc) (.slice ca LN cc) t (q - by_) _ X (hT.ext hX) (hN.ext hX) (fun n hn => by have := hk n hn; omega)
      rwa [cert_small hv.out hm.out hq'.out (by omega)] at this
    have hC3 : Hid (∀ X, Ext W X → Calls Try.prog 19 #[.agg #[.slice ta t.length tc], .int .i64 (q + 1 + by_), .slice ca LN cc] X fun e w' => e = .returned (.int .i64 11) ∧ Ext X w') := fun X hX => by
      have := check_calls (.slice ta t.length tc) (.slice ca LN cc) t (q + 1 + by_) _ X (hT.ext hX) (hN.ext hX) (fun n hn => by have := hk n hn; omega)
      rwa [cert_great hv.out hm.out hq'.out (by omega)] at this
    have z1 := After.cell (show W.cell? ⟨w3.heap.size, 1, none⟩ = some (.int .i64 q) from bp.cell 1)
    have z4 := After.cell (hW.cell tb)
    have hxx := Lib.hid (hx3'.out.trans hW)
    clear hT hN hk bp hW tb
    refine wp_region_after0 ?_
    repeat (go_big_quiet_step (exact After.call _ (by first | (with_reducible exact hC1.out _ (After.ext _)) | (with_reducible exact hC2.out _ (After.ext _)) | (with_reducible exact hC3.out _ (After.ext _)))))
    refine wpQuiet_nil ?_
    rintro _ ⟨y, rfl⟩
    go_wp2
    go_ret
    exact ⟨rfl, hxx.out.trans y.ext⟩
end Go.Proofs.Ytonmlmkemliefaa
