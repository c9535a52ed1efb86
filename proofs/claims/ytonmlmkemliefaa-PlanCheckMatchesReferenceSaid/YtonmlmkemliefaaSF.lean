/- The law PlanCheckMatchesReference, walked: true for every task that Made makes, every change of its certificate and every other certificate. -/
import Derived.Test.YtonmlmkemliefaaSD
import Derived.Test.YtonmlmkemliefaaChangedB
import Derived.Test.YtonmlmkemliefaaRV
import Derived.Test.YtonmlmkemliefaaPM
import Derived.Test.YtonmlmkemliefaaSanLaw
namespace Go.Proofs.Ytonmlmkemliefaa
open Go.RowKit

def cutN (n : NodeD) : NodeD := { n with kids := n.kids.take 6 }
set_option maxHeartbeats 3200000 in
set_option maxRecDepth 100000 in
theorem planCheckMatchesReference_calls (rv : Value) (l : List RawD) (gv : Value) (ch : List ChangeD) (ov : Value) (oth : List NodeD) (w : World) (h : Raws w rv l) (hch : Changes w gv ch) (hoth : Nodes w ov oth) :
    Calls Try.prog 5 #[rv, gv, ov] w fun e w' => e = .returned (.bool true) ∧ Ext w w' := by
  have hraw := Lib.hid h
  have hch' := Lib.hid hch
  have hoth' := Lib.hid hoth
  have hok := Lib.hid h.ok
  obtain ⟨oa, oc, rfl, hon, hoc, hoat⟩ := hoth.open
  have hoat' := Lib.hid hoat
  obtain ⟨k0, hk0, kz0, kz1, kz2⟩ := info_parts node_info
  clear h hch hoth hoat
  go_enter Try.func5, Try.ntmps5
  go_wp2_with fail
  refine (sanity_calls _).mono ?_
  rintro e w1 ⟨rfl, hx1⟩
  have hx1' := Lib.hid hx1
  clear hx1
  go_wp2_with fail
  refine (made_calls rv l w1 (hraw.out.ext hx1'.out)).mono ?_
  rintro e w2 ⟨tv, rfl, ht, hx2⟩
  obtain ⟨t, ht0⟩ : ∃ t, Hid (madeT l = t) := ⟨_, rfl⟩
  have hv : Hid (validT t = 0) := by rw [← ht0.out]; exact made_valid hok.out
  have hm : Hid (treeMax t ≤ 65536) := by rw [← ht0.out]; exact Nat.le_trans (made_tree hok.out) (by decide)
  have ho : Hid (∀ x ∈ t, 0 < x.opts.length) := by rw [← ht0.out]; exact fun x hx => (made_opts hok.out hx).1
  have ho4 : Hid (∀ x ∈ t, x.opts.length ≤ 4) := by rw [← ht0.out]; exact fun x hx => (made_opts hok.out hx).2.1
  have hlen : t.length ≤ 4 := by rw [← ht0.out]; exact made_len.2
  have hl0 : 0 < t.length := by rw [← ht0.out]; exact made_len.1
  rw [ht0.out] at ht
  clear ht0
  have ht' := Lib.hid ht.read
  obtain ⟨ta, tc, rfl⟩ := ht.read.form
  have hx2' := Lib.hid (hx1'.out.trans hx2)
  clear ht hx2
  go_wp2_with fail
  refine (rBest_calls _ t _ (ht'.out.ext (by exact (by repeat' (first | (with_reducible exact Ext.refl _) | (with_reducible assumption) | (with_reducible refine Ext.drewN ?_ _) | (with_reducible refine Ext.drew ?_) | (with_reducible refine Ext.alloc ?_ _) | (with_reducible refine Ext.trans ?_ (by with_reducible assumption)))))) hv.out ho.out hl0 (by omega)).mono ?_
  rintro e w3 ⟨v, rfl, hv3, hx3⟩
  obtain ⟨va, vc, rfl⟩ := hv3.form
  obtain ⟨q, hq⟩ : ∃ q, Hid ((bD (bestOf t)).2 = q) := ⟨_, rfl⟩
  obtain ⟨pl, hpl⟩ : ∃ pl, Hid ((bD (bestOf t)).1.length = pl) := ⟨_, rfl⟩
  obtain ⟨fb, hfb⟩ : ∃ fb, Hid ((bestOf t).isSome = fb) := ⟨_, rfl⟩
  rw [hq.out, hpl.out, hfb.out]
  have tb3 : w3.cell? ⟨w2.heap.size, 0, none⟩ = some (.slice ta t.length tc) := hx3.cell (by simp)
  have ht3 := Lib.hid (ht'.out.ext (((Ext.refl w2).alloc _).trans hx3))
  have hx3' := Lib.hid (hx2'.out.trans (((Ext.refl w2).alloc _).trans hx3))
  have lt3 := World.block_lt_of_cell? _ _ tb3
  clear hv3 hx3 ht' hx2' hq hpl hfb hx1'
  go_upto_region 4 with (fail)
  refine wp_abs (S := fun W => Hid (Ext w3 W) ∧ Hid (Blk W w3.heap.size 30 #[.slice va pl vc, .int .i64 q])) ?_ ?_
  · exact ⟨Lib.hid (by exact (by repeat' (first | (with_reducible exact Ext.refl _) | (with_reducible assumption) | (with_reducible refine Ext.drewN ?_ _) | (with_reducible refine Ext.drew ?_) | (with_reducible refine Ext.alloc ?_ _) | (with_reducible refine Ext.trans ?_ (by with_reducible assumption))))), blk_new' rfl rfl⟩
  rintro W ⟨hW, bp⟩
  have tb4 := hW.out.cell tb3
  have p1 : W.cell? ⟨w3.heap.size, 1, none⟩ = some (.int .i64 q) := bp.out.cell 1
  go_wp2_with fail
  refine (rStandard_calls _ t q W (ht3.out.ext hW.out) hv.out ho.out (by omega) hm.out).mono ?_
  rintro e w4 ⟨S, nv, O, rfl, hx4, hS, hN⟩
  obtain ⟨gn, hgn⟩ : ∃ gn, Hid (growN t q t [] 0 0 = gn) := ⟨_, rfl⟩
  have hgl : gn.length ≤ 65536 := by rw [← hgn.out]; exact Nat.le_trans (growL_len t q t [] 0 0) hm.out
  have hgk : Hid (KidsB gn) := by
    rw [← hgn.out]
    exact fun n hn => by
      have := growL_kids t q 4 t ho4.out [] 0 0 n hn
      omega
  rw [hgn.out] at hN
  obtain ⟨na, nc, rfl⟩ := hN.form
  have d2 : w4.cell? ⟨S, 2, none⟩ = some (.slice na gn.length nc) := hS.cell 2
  have hN' := Lib.hid hN
  have hx4' := Lib.hid (hW.out.trans hx4)
  have hxW4 := Lib.hid hx4
  have hSlt := World.block_lt_of_cell? _ _ d2
  have tbh := Lib.hid tb4
  have p1h := Lib.hid p1
  clear hS hN hx4 hgn bp tb4 p1 hW
  go_wp2_with fail
  refine (changed_calls _ gn gv ch w4 hN'.out hgk.out hgl (hch'.out.ext (hx3'.out.trans hx4'.out))).mono ?_
  rintro e w5 ⟨cv, c5, rfl, hS5, hK5⟩
  have hx5 := Lib.hid (hx4'.out.trans hS5.ext)
  have hc5 := Lib.hid hS5.read
  have hk5 := Lib.hid hK5
  have tb5 := (hxW4.out.trans hS5.ext).cell tbh.out
  have p5 := (hxW4.out.trans hS5.ext).cell p1h.out
  have ht5 := Lib.hid (ht3.out.ext hx5.out)
  have hxw5 := Lib.hid (hx3'.out.trans hx5.out)
  clear hS5 hK5 hN' hgk hgl d2 hSlt tbh p1h hxW4 hx4' ht3
  obtain ⟨cA, cC, rfl⟩ := hc5.out.form
  go_wp2_with fail
  refine wp_abs (S := fun W => Hid (NodesS w5 W (.slice (some ⟨w5.heap.size, 0, none⟩) 0 0) [])) ?_ ?_
  · exact Lib.hid ⟨by exact (by repeat' (first | (with_reducible exact Ext.refl _) | (with_reducible assumption) | (with_reducible refine Ext.drewN ?_ _) | (with_reducible refine Ext.drew ?_) | (with_reducible refine Ext.alloc ?_ _) | (with_reducible refine Ext.trans ?_ (by with_reducible assumption)))), [], World.ownsRow_made (base := w5.heap.size) (e := 49) (size := 4) w5 #[] 0 (Nat.le_refl _) (by unfold maxLen; omega) rfl, rfl⟩
  intro W1 hS1
  go_loopw [12, 13] (fun vo vi wr => ∃ (i : Nat) (acc : List NodeD), i ≤ oth.length ∧ i ≤ 12 ∧ vi = .int .i64 i ∧ acc.length = i ∧ Hid (NodesS w5 wr vo acc) ∧ Hid (KidsB acc)) (fun _ vi _ => oth.length - (intOf vi).toNat)
  case atStart => exact ⟨0, [], by omega, by omega, rfl, rfl, hS1, by intro n hn; cases hn⟩
  case round =>
    clear hS1
    obtain ⟨i, acc, hi, hi12, rfl, hal, hS, hKB⟩ := hrel
    by_cases h1 : i < oth.length
    · by_cases h2 : i < 12
      · have hd12 : decide ((i : Int) < 12) = true := by simp; omega
        obtain ⟨b1, o1, x, ka, kc, rfl, hb1, dx, ex, g0, g1, g2, g3, gk⟩ := hoat'.out i h1 w (Ext.refl _)
        have hww := hxw5.out.trans hS.out.ext
        replace g0 := hww.cell g0
        replace g1 := hww.cell g1
        replace g2 := hww.cell g2
        replace g3 := hww.cell g3
        obtain ⟨_, _, ek, hkn, hkc, _⟩ := gk.open
        cases ek
        have hgk := Lib.hid gk
        obtain ⟨xs, hrow, hK⟩ := hS.out.row
        rw [hal] at hrow
        obtain ⟨oA, oC, rfl⟩ := owns_form hrow
        have hrow' := Lib.hid hrow
        have hK' := Lib.hid hK
        have hal' := Lib.hid hal.symm
        have lw := hS.out.ext.size
        clear gk hrow hK hal hww
        obtain ⟨km, hkm⟩ : ∃ km : Nat, Hid ((if 6 < (x.kids.length : Int) then (6 : Int) else (x.kids.length : Int)).toNat = km) := ⟨_, rfl⟩
        have hkm1 : km = min 6 x.kids.length := by rw [← hkm.out]; split <;> omega
        go_upto_region 11 with (fail)
        rw [hkm.out]
        generalize (if 6 < (x.kids.length : Int) then (6 : Int) else (x.kids.length : Int)) = kz
        have hP : Hid (Ints w (.slice ka km kc) (cutN x).kids) := by
          have := hgk.out.take (m := km) (by omega)
          have e : x.kids.take km = x.kids.take 6 := by rw [List.take_eq_take_iff]; omega
          show Ints _ _ _
          rwa [e] at this
        have hkl : (cutN x).kids.length = km := by simp [cutN]; omega
        clear hkm hkm1 hgk g0 g1 g2 g3
        refine wp_abs (S := fun W => Hid (Ext wr W) ∧ Hid (Blk W wr.heap.size 49 #[.int .i64 x.wish, .slice ka km kc, .int .i64 x.clA, .int .i64 x.clB])) ?_ ?_
        · exact ⟨Lib.hid (by exact (by repeat' (first | (with_reducible exact Ext.refl _) | (with_reducible assumption) | (with_reducible refine Ext.drewN ?_ _) | (with_reducible refine Ext.drew ?_) | (with_reducible refine Ext.alloc ?_ _) | (with_reducible refine Ext.trans ?_ (by with_reducible assumption))))), Lib.hid (blk_new' rfl rfl)⟩
        rintro W ⟨hE, hB⟩
        have u0 : W.cell? ⟨wr.heap.size, 0, none⟩ = some (.int .i64 x.wish) := hB.out.cell 0
        have u1 : W.cell? ⟨wr.heap.size, 1, none⟩ = some (.slice ka km kc) := hB.out.cell 1
        have u2 : W.cell? ⟨wr.heap.size, 2, none⟩ = some (.int .i64 x.clA) := hB.out.cell 2
        have u3 : W.cell? ⟨wr.heap.size, 3, none⟩ = some (.int .i64 x.clB) := hB.out.cell 3
        have lw2 := hE.out.size
        have hS2 := Lib.hid (hS.out.toExt hE.out)
        have hrow2 := Lib.hid (owns_ext hrow'.out hE.out)
        have hK2 := Lib.hid (hK'.out.keep (Keep.of_ext (X := fun _ => False) hE.out) (TX.no _ _))
        have hKB2 : Hid (KidsB (acc ++ [cutN x])) := hKB.out.snoc (by simp [cutN]; omega)
        have hal2 : (acc ++ [cutN x]).length = i + 1 := by rw [List.length_append, ← hal'.out]; rfl
        have hPW : Hid (Ints w5 (.slice ka km kc) (cutN x).kids) := Lib.hid (hP.out.ext hxw5.out)
        clear hS hrow' hK' hkl
        go_wp2_with (at_builtin; refine wpList_append_any _ rfl (.tmp 55) (.tmp 57) _ rfl w5.heap.size 49 k0 _ 4 48 Try.underlying31 hk0 kz0 kz1 kz2 rfl (by decide) (.slice oA i oC) i xs rfl (hrow2.out.alloc _) (W.heap.size + 1) (some ⟨W.heap.size, 0, none⟩) 1 1 [.int .i64 x.wish, .slice ka km kc, .int .i64 x.clA, .int .i64 x.clB] rfl (reads_last _ #[_, _, _, _] _ 4 1 _ _ (by simp) (by omega) rfl) (by simp [Value.oneCell']) (by unfold maxLen; omega) (by omega) (by rw [World.size_alloc]; omega) ?_; intro v2 w6 hown2 hg2 hat2)
        have hS3 : Hid (NodesS w5 w6 v2 (acc ++ [cutN x])) := Lib.hid (NodesS.push (n := cutN x) (hS2.out.ext.alloc _) hal'.out (hrow2.out.alloc _) (hK2.out.keep (Keep.of_ext (X := fun _ => False) ((Ext.refl W).alloc _)) (TX.no _ _)) (Or.inl hPW.out) hown2 hg2)
        clear hg2 hat2 hown2
        go_wp2
        go_roundw
        case rel => exact ⟨i + 1, acc ++ [cutN x], by omega, by omega, by go_num, hal2, hS3, hKB2⟩
        case measure => simp [intOf]; omega
      · have hd12 : decide ((i : Int) < 12) = false := by simp; omega
        have hxe := hS.out.ext
        have hD := Lib.hid hS.out.read
        obtain ⟨dA, dC, rfl⟩ := hS.out.read.form
        obtain ⟨ck, hck⟩ : ∃ ck, Hid (checkT t q c5 = ck) := ⟨_, rfl⟩
        obtain ⟨dk, hdk⟩ : ∃ dk, Hid (checkT t q acc = dk) := ⟨_, rfl⟩
        have hC1 : Hid (∀ X, Ext wr X → Calls Try.prog 19 #[.agg #[.slice ta t.length tc], .int .i64 q, .slice cA c5.length cC] X fun e w' => e = .returned (.int .i64 ck) ∧ Ext X w') := fun X hX => hck.out ▸ check_calls _ _ t q c5 X (ht5.out.ext (hxe.trans hX)) (hc5.out.ext (hxe.trans hX)) hk5.out
        have hC2 : Hid (∀ X, Ext wr X → Calls Try.prog 21 #[.agg #[.slice ta t.length tc], .int .i64 q, .slice cA c5.length cC] X fun e w' => e = .returned (.int .i64 ck) ∧ Ext X w') := fun X hX => hck.out ▸ rCheck_calls _ _ t q c5 X (ht5.out.ext (hxe.trans hX)) (hc5.out.ext (hxe.trans hX)) ho.out hk5.out
        have hD1 : Hid (∀ X, Ext wr X → Calls Try.prog 19 #[.agg #[.slice ta t.length tc], .int .i64 q, .slice dA acc.length dC] X fun e w' => e = .returned (.int .i64 dk) ∧ Ext X w') := fun X hX => hdk.out ▸ check_calls _ _ t q acc X (ht5.out.ext (hxe.trans hX)) (hD.out.ext hX) hKB.out
        have hD2 : Hid (∀ X, Ext wr X → Calls Try.prog 21 #[.agg #[.slice ta t.length tc], .int .i64 q, .slice dA acc.length dC] X fun e w' => e = .returned (.int .i64 dk) ∧ Ext X w') := fun X hX => hdk.out ▸ rCheck_calls _ _ t q acc X (ht5.out.ext (hxe.trans hX)) (hD.out.ext hX) ho.out hKB.out
        have z0 := After.cell (hxe.cell tb5)
        have z1 := After.cell (hxe.cell p5)
        have hxe' := Lib.hid (hxw5.out.trans hxe)
        have e1 : (ck == ck) = true := beq_self_eq_true ck
        have e2 : (dk == dk) = true := beq_self_eq_true dk
        obtain ⟨al, hal'⟩ : ∃ al, Hid (acc.length = al) := ⟨_, rfl⟩
        rw [hal'.out] at hD1 hD2 ⊢
        clear hS hKB hD hck hdk hxe hal hal'
        go_wp2_with fail
        refine wp_region_after (by kernel_rfl) (by kernel_rfl) ?_
        (repeat (go_big_quiet_step (first | (with_reducible exact After.call _ (hC1.out _ (After.ext _))) | (with_reducible exact After.call _ (hC2.out _ (After.ext _))) | (with_reducible exact After.call _ (hD1.out _ (After.ext _))) | (with_reducible exact After.call _ (hD2.out _ (After.ext _))))))
        with_reducible refine wpQuiet_nil ?_
        rintro _ ⟨y, rfl⟩
        have hy := y.ext
        generalize y.world = Y at hy ⊢
        clear z0 z1
        go_wp2
        go_ret
        exact ⟨rfl, hxe'.out.trans hy⟩
    · skip
      have hxe := hS.out.ext
      have hD := Lib.hid hS.out.read
      obtain ⟨dA, dC, rfl⟩ := hS.out.read.form
      obtain ⟨ck, hck⟩ : ∃ ck, Hid (checkT t q c5 = ck) := ⟨_, rfl⟩
      obtain ⟨dk, hdk⟩ : ∃ dk, Hid (checkT t q acc = dk) := ⟨_, rfl⟩
      have hC1 : Hid (∀ X, Ext wr X → Calls Try.prog 19 #[.agg #[.slice ta t.length tc], .int .i64 q, .slice cA c5.length cC] X fun e w' => e = .returned (.int .i64 ck) ∧ Ext X w') := fun X hX => hck.out ▸ check_calls _ _ t q c5 X (ht5.out.ext (hxe.trans hX)) (hc5.out.ext (hxe.trans hX)) hk5.out
      have hC2 : Hid (∀ X, Ext wr X → Calls Try.prog 21 #[.agg #[.slice ta t.length tc], .int .i64 q, .slice cA c5.length cC] X fun e w' => e = .returned (.int .i64 ck) ∧ Ext X w') := fun X hX => hck.out ▸ rCheck_calls _ _ t q c5 X (ht5.out.ext (hxe.trans hX)) (hc5.out.ext (hxe.trans hX)) ho.out hk5.out
      have hD1 : Hid (∀ X, Ext wr X → Calls Try.prog 19 #[.agg #[.slice ta t.length tc], .int .i64 q, .slice dA acc.length dC] X fun e w' => e = .returned (.int .i64 dk) ∧ Ext X w') := fun X hX => hdk.out ▸ check_calls _ _ t q acc X (ht5.out.ext (hxe.trans hX)) (hD.out.ext hX) hKB.out
      have hD2 : Hid (∀ X, Ext wr X → Calls Try.prog 21 #[.agg #[.slice ta t.length tc], .int .i64 q, .slice dA acc.length dC] X fun e w' => e = .returned (.int .i64 dk) ∧ Ext X w') := fun X hX => hdk.out ▸ rCheck_calls _ _ t q acc X (ht5.out.ext (hxe.trans hX)) (hD.out.ext hX) ho.out hKB.out
      have z0 := After.cell (hxe.cell tb5)
      have z1 := After.cell (hxe.cell p5)
      have hxe' := Lib.hid (hxw5.out.trans hxe)
      have e1 : (ck == ck) = true := beq_self_eq_true ck
      have e2 : (dk == dk) = true := beq_self_eq_true dk
      obtain ⟨al, hal'⟩ : ∃ al, Hid (acc.length = al) := ⟨_, rfl⟩
      rw [hal'.out] at hD1 hD2 ⊢
      clear hS hKB hD hck hdk hxe hal hal'
      go_wp2_with fail
      refine wp_region_after (by kernel_rfl) (by kernel_rfl) ?_
      (repeat (go_big_quiet_step (first | (with_reducible exact After.call _ (hC1.out _ (After.ext _))) | (with_reducible exact After.call _ (hC2.out _ (After.ext _))) | (with_reducible exact After.call _ (hD1.out _ (After.ext _))) | (with_reducible exact After.call _ (hD2.out _ (After.ext _))))))
      with_reducible refine wpQuiet_nil ?_
      rintro _ ⟨y, rfl⟩
      have hy := y.ext
      generalize y.world = Y at hy ⊢
      clear z0 z1
      go_wp2
      go_ret
      exact ⟨rfl, hxe'.out.trans hy⟩
end Go.Proofs.Ytonmlmkemliefaa
