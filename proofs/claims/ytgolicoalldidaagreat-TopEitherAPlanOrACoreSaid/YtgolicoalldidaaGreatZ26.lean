import Derived.Test.YtgolicoalldidaaGreatZ23
import Derived.Test.YtgolicoalldidaaGreatZ25
import Derived.Test.YtgolicoalldidaaGreatZ24
import Derived.Test.YtgolicoalldidaaGreatZ21
import Derived.Test.YtgolicoalldidaaGreatZ22
import Derived.Test.YtgolicoalldidaaGreatZ10
import Derived.Test.YtgolicoalldidaaGreatRows
import Derived.Test.YtgolicoalldidaaGreatZ09
import Derived.ProofKit
import Derived.OpenShut
import Derived.ChangeOld
import Derived.Deep.Slices
set_option maxHeartbeats 12800000
namespace Go.Proofs.YtgolicoalldidaaGreat
open Go.RowKit Go.Shelf List
theorem best_standT {t : List WishD} {w w' : World} {e : Ending} (hv : validT t = 0) (h : BestOut t w e w') :
  ∃ a n c q cv, e = .returned (.tuple #[.agg #[.slice a n c, .int .i64 q], cv, .int .i64 (if standB t then 0 else 4)]) ∧ Ext w w' ∧ (standB t = true → ∃ p, Ints w' (.slice a n c) p ∧ lawfulB t p = true) := by
 rcases best_out hv h with ⟨h1, rfl, hx⟩ | ⟨pv, cv, p, q, hb, rfl, hx, hp, _⟩
 ·have hs : standB t = false := by
   cases hs : standB t with
   | false => rfl
   | true => exact absurd h1 (standB_ne.1 hs)
  rw [hs]
  exact ⟨_, _, _, _, _, rfl, hx, fun e => by cases e⟩
 ·have hs : standB t = true := by
   rw [standB_ne]
   intro e
   rw [bestOf, e] at hb
   cases hb
  obtain ⟨pa, pc, rfl⟩ := hp.form
  rw [hs]
  exact ⟨_, _, _, _, _, rfl, hx, fun _ => ⟨p, hp, (bestOf_spec hv hb).1⟩⟩
theorem orderS_okT {t : List WishD} {p : List Int} (h : lawfulB t p = true) : orderS t p = (orderL t p, 0) := by
 unfold orderS
 rw [if_pos (lawful_parts h).1, if_pos h]
theorem made_smallK {l : List RawD} (h : RawsOk l) : SmallT (madeT l) :=
 ⟨by have := (made_len (l := l)).2; omega, fun x hx => by have := made_opts h hx; omega⟩
theorem erase_at {α : Type} {L : List α} {i : Nat} : (L.take (i + 1)).eraseIdx i = (L.take i).eraseIdx i := by
 by_cases h : i < L.length
 ·rw [List.eraseIdx_of_length_le (l := L.take i) (by simp; omega), List.take_succ_eq_append_getElem h, List.eraseIdx_append_of_length_le (by simp; omega)]
  simp [show i - min i L.length = 0 by omega]
 ·rw [List.take_of_length_le (by omega), List.take_of_length_le (by omega)]
theorem erase_push {α : Type} {L : List α} {i k : Nat} {x : α} (hk : L[k]? = some x) (hne : k ≠ i) : (L.take (k + 1)).eraseIdx i = (L.take k).eraseIdx i ++ [x] := by
 have hlt := (List.getElem?_eq_some_iff.1 hk).1
 rw [List.take_add_one, hk]
 simp only [Option.toList_some]
 by_cases h : i < k
 ·rw [List.eraseIdx_append_of_lt_length (by simp; omega)]
 ·rw [List.eraseIdx_of_length_le (by simp; omega), List.eraseIdx_of_length_le (by simp; omega)]
theorem subT_snoc {t : List WishD} {l : List Int} {k : Nat} {y : WishD} (hy : t[k]? = some y) : subT t (l ++ [(k : Int)]) = subT t l ++ [y] := by
 simp [subT, hy]
set_option maxRecDepth 100000 in
theorem topEither_walk (hSan : ∀ w : World, Calls Tryz.prog 5 #[] w fun e w' => e = .returned (.bool true) ∧ Ext w w') (rv : Value) (l : List RawD) (w : World) (h : Raws w rv l) :
  Calls Tryz.prog 4 #[rv] w fun e w' => e = .returned (.bool true) ∧ Ext w w' := by
 have hSan' := Lib.hid hSan
 have hraw := Lib.hid h
 have hok := h.ok
 obtain ⟨T, hTd⟩ : ∃ T, Hid (madeT l = T) := ⟨_, rfl⟩
 have hs : SmallT T := hTd.out ▸ made_smallK hok
 have hv0 : validT T = 0 := hTd.out ▸ made_valid hok
 have hlen4 : T.length ≤ 4 := hTd.out ▸ (made_len (l := l)).2
 have hm : Hid (treeMax T ≤ 65536) := Lib.hid (hTd.out ▸ Nat.le_trans (made_tree hok) (by decide))
 have hv := Lib.hid hv0
 have hs' := Lib.hid hs
 obtain ⟨L, hof0, hL1, hL2⟩ := of_is hs hv0
 obtain ⟨lA, lC, rfl, _⟩ := h.open
 clear h hok hSan
 cases hb0 : standB T with
 | true =>
  have hb := Lib.hid hb0
  obtain rfl := hL1 hb0
  rw [hb0] at hof0
  have hof : Hid (ofT T = ([], false, 0)) := Lib.hid hof0
  clear hof0 hL1 hL2 hb0 hs hv0
  go_enter Tryz.func4, Tryz.ntmps4
  go_wp2_with fail
  refine (hSan'.out _).mono ?_
  rintro e w1 ⟨rfl, hx1⟩
  have hx1' := Lib.hid hx1
  clear hx1 hSan'
  go_wp2_with fail
  refine (made_calls _ l w1 (hraw.out.ext hx1'.out)).mono ?_
  rintro e w2 ⟨tv, rfl, ht, hx2⟩
  rw [hTd.out] at ht
  have hTw := Lib.hid ht.read
  obtain ⟨ta, tc, rfl⟩ := ht.read.form
  have hE := Lib.hid (hx1'.out.trans hx2)
  clear ht hx2 hx1' hraw
  go_wp2_with fail
  have hq := Lib.hid ((Ext.refl w2).alloc (.cells #[.slice ta T.length tc] 28))
  refine (best_calls _ T _ (hTw.out.ext hq.out) (fun _ => hm.out)).mono ?_
  intro e w3 hbo
  obtain ⟨pa, pn, pc, pq, cv, rfl, hx3, hpk⟩ := best_standT hv.out hbo
  rw [hb.out] at hpk
  rw [hb.out]
  have hB3 : Hid (Blk w3 w2.heap.size 28 #[.slice ta T.length tc]) := Lib.hid ((Keep.of_ext (X := fun _ => False) hx3).blk (blk_new' rfl rfl) id)
  have hq3 := Lib.hid (hq.out.trans hx3)
  have hpk' := Lib.hid hpk
  clear hbo hx3 hq hpk
  go_upto_region 4 with (fail)
  refine wp_abs (S := fun W => Hid (Ext w3 W) ∧ Hid (Blk W w2.heap.size 28 #[.slice ta T.length tc]) ∧ Hid (Blk W w3.heap.size 33 #[.slice pa pn pc, .int .i64 pq])) ?_ ?_
  ·exact ⟨Lib.hid (by exact (by with_reducible repeat' (first | exact Ext.refl _ | assumption | refine Ext.drewN ?_ _ | refine Ext.drew ?_ | refine Ext.alloc ?_ _ | refine Ext.trans ?_ (by with_reducible assumption)))), Lib.hid (Blk.alloc hB3.out _), Lib.hid (blk_new' rfl rfl)⟩
  rintro w4 ⟨hx4, hB4, hP4⟩
  have hq4 := Lib.hid (hq3.out.trans hx4.out)
  have c0 : w4.cell? ⟨w2.heap.size, 0, none⟩ = some (.slice ta T.length tc) := hB4.out.cell 0
  have l0 := hB4.out.lt
  clear hB3
  go_wp2_with fail
  refine (of_calls (.slice ta T.length tc) T w4 (hTw.out.ext hq4.out)).mono ?_
  rw [hof.out]
  rintro e w5 ⟨lv, rfl, hlv, hx5⟩
  obtain ⟨la, lc, rfl⟩ := hlv.form
  have hL := Lib.hid hlv
  have hB5 := Lib.hid ((Keep.of_ext (X := fun _ => False) hx5).blk hB4.out id)
  have hP5 := Lib.hid ((Keep.of_ext (X := fun _ => False) hx5).blk hP4.out id)
  have hq5 := Lib.hid (hq4.out.trans hx5)
  have hx45 := Lib.hid (hx4.out.trans hx5)
  have c5 : w5.cell? ⟨w2.heap.size, 0, none⟩ = some (.slice ta T.length tc) := hB5.out.cell 0
  have l5 := hB5.out.lt
  clear hlv hx5 c0 l0 hB4 hP4 hq4 hx4 hq3
  obtain ⟨p, hp0, hlw0⟩ := hpk'.out (by first | rfl | trivial)
  have hlw := Lib.hid hlw0
  have hp := Lib.hid (hp0.ext hx45.out)
  obtain ⟨_, _, ep⟩ := hp0.form
  cases ep
  have p5 : w5.cell? ⟨w3.heap.size, 0, none⟩ = some (.slice pa p.length pc) := hP5.out.cell 0
  have lp5 := hP5.out.lt
  clear hp0 hlw0 hpk' hx45
  go_wp2_with fail
  refine (order_calls _ _ T p w5 (hTw.out.ext hq5.out) hp.out).mono ?_
  rw [orderS_okT hlw.out]
  rintro e w6 ⟨sv, rfl, hst, hx6⟩
  obtain ⟨ol, hol⟩ : ∃ ol, Hid (orderL T p = ol) := ⟨_, rfl⟩
  have hR : Hid (checkS T p ol = 0) := by rw [← hol.out]; exact order_check hlw.out (by omega)
  rw [hol.out] at hst
  have hS6 := Lib.hid hst.read
  obtain ⟨sa, sc, rfl⟩ := hst.read.form
  have hB6 := Lib.hid ((Keep.of_ext (X := fun _ => False) hx6).blk hB5.out id)
  have hP6 := Lib.hid ((Keep.of_ext (X := fun _ => False) hx6).blk hP5.out id)
  have hq6 := Lib.hid (hq5.out.trans hx6)
  have hp6 := Lib.hid (hp.out.ext hx6)
  have c6 : w6.cell? ⟨w2.heap.size, 0, none⟩ = some (.slice ta T.length tc) := hB6.out.cell 0
  have l6 := hB6.out.lt
  have p6 : w6.cell? ⟨w3.heap.size, 0, none⟩ = some (.slice pa p.length pc) := hP6.out.cell 0
  have lp6 := hP6.out.lt
  clear hst hx6 c5 l5 p5 lp5 hol hB5 hP5 hq5 hp
  go_wp2_with fail
  refine (carryCheckFull_calls _ _ _ T p ol _ (hTw.out.ext hq6.out) hp6.out hS6.out).mono ?_
  rw [hR.out]
  rintro e w7 ⟨rfl, hx7⟩
  have hE7 := Lib.hid (hE.out.trans (hq6.out.trans hx7))
  clear hx7
  go_wp2
  go_ret
  exact ⟨rfl, hE7.out⟩
 | false =>
  have hb := Lib.hid hb0
  obtain ⟨hLs, hLc⟩ := mem_allC.1 (hL2 hb0)
  rw [hb0] at hof0
  have hof : Hid (ofT T = (L, true, 0)) := Lib.hid hof0
  have hL0 : L ≠ [] := fun e => by have := hLc.two hs hLs; rw [e] at this; simp at this
  obtain ⟨N1, hN1⟩ : ∃ N1, Hid ((growL (subT T L) 1000000000 (subT T L) [] 0 0).nodes = N1) := ⟨_, rfl⟩
  have hsh1 : Hid (showT T L = (N1, 0)) := Lib.hid (by rw [show_core hs hv0 hLs hL0 hLc.1, hN1.out])
  have hk1 : Hid (∀ n ∈ N1, n.kids.length ≤ 17592186044416) := Lib.hid (hN1.out ▸ fun n hn => by
   have := growL_kids (subT T L) 1000000000 5 (subT T L) (fun x hx => (hs.opts x (subT_mem (up_idx hLs) hx)).2) [] 0 0 n hn
   omega)
  have hce := cert_core hs hv0 hLs hL0 hLc.1
  have hcc1 : Hid (coreCheckT T L N1 = 0) := Lib.hid (by
   rw [hN1.out] at hce
   rw [coreCheck_is hs hv0 hLs hL0, hce, if_pos rfl, if_pos (List.all_eq_true.2 fun k hk => hLc.2 k (List.mem_range.1 hk))])
  have hroom : Hid (ShowRoom T L) := Lib.hid fun _ _ _ => ⟨hs.tree (up_idx hLs) (Nat.le_trans (up_len hLs) hs.len), grow_opens hLc.1 _, grow_ests (subT_valid hv0 hLs hL0)⟩
  have hLi := Lib.hid (up_idx hLs)
  have hLs' := Lib.hid hLs
  have hLc' := Lib.hid hLc
  have hL4 : L.length ≤ 4 := by have := up_len hLs; omega
  obtain ⟨m0, hm0, mz0, mz1, mz2⟩ := info_parts wish_info
  clear hof0 hL1 hL2 hb0 hs hv0 hLs hLc hL0 hce hN1
  go_enter Tryz.func4, Tryz.ntmps4
  go_wp2_with fail
  refine (hSan'.out _).mono ?_
  rintro e w1 ⟨rfl, hx1⟩
  have hx1' := Lib.hid hx1
  clear hx1 hSan'
  go_wp2_with fail
  refine (made_calls _ l w1 (hraw.out.ext hx1'.out)).mono ?_
  rintro e w2 ⟨tv, rfl, ht, hx2⟩
  rw [hTd.out] at ht
  have hTw := Lib.hid ht.read
  obtain ⟨ta, tc, rfl⟩ := ht.read.form
  have hE := Lib.hid (hx1'.out.trans hx2)
  clear ht hx2 hx1' hraw
  go_wp2_with fail
  have hq := Lib.hid ((Ext.refl w2).alloc (.cells #[.slice ta T.length tc] 28))
  refine (best_calls _ T _ (hTw.out.ext hq.out) (fun _ => hm.out)).mono ?_
  intro e w3 hbo
  obtain ⟨pa, pn, pc, pq, cv, rfl, hx3, hpk⟩ := best_standT hv.out hbo
  rw [hb.out] at hpk
  rw [hb.out]
  have hB3 : Hid (Blk w3 w2.heap.size 28 #[.slice ta T.length tc]) := Lib.hid ((Keep.of_ext (X := fun _ => False) hx3).blk (blk_new' rfl rfl) id)
  have hq3 := Lib.hid (hq.out.trans hx3)
  have hpk' := Lib.hid hpk
  clear hbo hx3 hq hpk
  go_upto_region 4 with (fail)
  refine wp_abs (S := fun W => Hid (Ext w3 W) ∧ Hid (Blk W w2.heap.size 28 #[.slice ta T.length tc]) ∧ Hid (Blk W w3.heap.size 33 #[.slice pa pn pc, .int .i64 pq])) ?_ ?_
  ·exact ⟨Lib.hid (by exact (by with_reducible repeat' (first | exact Ext.refl _ | assumption | refine Ext.drewN ?_ _ | refine Ext.drew ?_ | refine Ext.alloc ?_ _ | refine Ext.trans ?_ (by with_reducible assumption)))), Lib.hid (Blk.alloc hB3.out _), Lib.hid (blk_new' rfl rfl)⟩
  rintro w4 ⟨hx4, hB4, hP4⟩
  have hq4 := Lib.hid (hq3.out.trans hx4.out)
  have c0 : w4.cell? ⟨w2.heap.size, 0, none⟩ = some (.slice ta T.length tc) := hB4.out.cell 0
  have l0 := hB4.out.lt
  clear hB3
  go_wp2_with fail
  refine (of_calls (.slice ta T.length tc) T w4 (hTw.out.ext hq4.out)).mono ?_
  rw [hof.out]
  rintro e w5 ⟨lv, rfl, hlv, hx5⟩
  obtain ⟨la, lc, rfl⟩ := hlv.form
  have hL := Lib.hid hlv
  have hB5 := Lib.hid ((Keep.of_ext (X := fun _ => False) hx5).blk hB4.out id)
  have hP5 := Lib.hid ((Keep.of_ext (X := fun _ => False) hx5).blk hP4.out id)
  have hq5 := Lib.hid (hq4.out.trans hx5)
  have hx45 := Lib.hid (hx4.out.trans hx5)
  have c5 : w5.cell? ⟨w2.heap.size, 0, none⟩ = some (.slice ta T.length tc) := hB5.out.cell 0
  have l5 := hB5.out.lt
  clear hlv hx5 c0 l0 hB4 hP4 hq4 hx4 hq3
  clear hpk' hx45 hP5
  go_wp2_with fail
  refine (show_calls (.slice ta T.length tc) (.slice la L.length lc) T L w5 (hTw.out.ext hq5.out) hL.out hroom.out).mono ?_
  rw [hsh1.out]
  rintro e w6 ⟨nv, rfl, hnv, hx6⟩
  obtain ⟨na, nc, rfl, _⟩ := hnv.open
  have hN := Lib.hid hnv
  have hB6 := Lib.hid ((Keep.of_ext (X := fun _ => False) hx6).blk hB5.out id)
  have hq6 := Lib.hid (hq5.out.trans hx6)
  have hL6 := Lib.hid (hL.out.ext hx6)
  have c6 : w6.cell? ⟨w2.heap.size, 0, none⟩ = some (.slice ta T.length tc) := hB6.out.cell 0
  have l6 := hB6.out.lt
  clear hnv hx6 c5 l5 hB5 hq5 hL hsh1 hroom
  go_wp2_with fail
  refine (coreCheck_calls (.slice ta T.length tc) (.slice la L.length lc) (.slice na N1.length nc) T L N1 w6 (hTw.out.ext hq6.out) hL6.out hN.out hk1.out).mono ?_
  rw [hcc1.out]
  rintro e w7 ⟨rfl, hx7⟩
  have hB7 := Lib.hid ((Keep.of_ext (X := fun _ => False) hx7).blk hB6.out id)
  have hL7 := Lib.hid (hL6.out.ext hx7)
  have hT7 := Lib.hid (hTw.out.ext (hq6.out.trans hx7))
  have hE7 := Lib.hid (hE.out.trans (hq6.out.trans hx7))
  clear hx7 c6 l6 hB6 hL6 hq6 hTw hE hN hcc1 hk1 hof
  obtain ⟨_, _, eL, hLn, hLcap, hLat0⟩ := hL7.out.open
  cases eL
  have hLat := Lib.hid hLat0
  obtain ⟨_, _, eT, hTn, hTcap, hTat0⟩ := hT7.out.open
  cases eT
  have hTat := Lib.hid hTat0
  clear hLat0 hTat0
  go_wp2_with fail
  go_loopw [15, 16, 17, 18, 19, 20] (fun vi _ _ _ _ _ wr => ∃ i : Nat, i ≤ L.length ∧ vi = .int .i64 i ∧ Hid (Ext w7 wr)) (fun vi _ _ _ _ _ _ => L.length - (intOf vi).toNat)
  case atStart => exact ⟨0, Nat.zero_le _, rfl, Lib.hid (Ext.refl _)⟩
  case round =>
   obtain ⟨i, hi, rfl, hx⟩ := hrel
   by_cases i1 : i < L.length
   ·go_upto_region 17 with (fail)
    refine wp_abs (S := fun W => Hid (Ext wr W) ∧ Hid (Blk W wr.heap.size 28 #[.slice none 0 0])) ?_ ?_
    ·exact ⟨Lib.hid (by exact (by with_reducible repeat' (first | exact Ext.refl _ | assumption | refine Ext.drewN ?_ _ | refine Ext.drew ?_ | refine Ext.alloc ?_ _ | refine Ext.trans ?_ (by with_reducible assumption)))), Lib.hid (blk_new' (by simp) rfl)⟩
    rintro Wq ⟨hxq, hRq⟩
    go_wp2_with fail
    go_loopw [17] (fun vk wk => ∃ (k n C : Nat) (A : Option Addr) (xs : List Value), k ≤ L.length ∧ n ≤ k ∧ vk = .int .i64 k ∧ Hid (Ext wr wk) ∧ Hid (Blk wk wr.heap.size 28 #[.slice A n C]) ∧ Hid (wk.ownsRow (wr.heap.size + 1) 64 3 (.slice A n C) n xs) ∧ Hid ((subT T ((L.take k).eraseIdx i)).length = n) ∧ Hid (WishesC w7 (subT T ((L.take k).eraseIdx i)) xs)) (fun vk _ => L.length - (intOf vk).toNat)
    case atStart => exact ⟨0, 0, 0, none, [], by omega, by omega, rfl, hxq, hRq, Lib.hid (World.ownsRow_nil _ _ _ _), Lib.hid (by simp [subT]), Lib.hid (by simp [subT]; rfl)⟩
    case round =>
     rename World => wk
     clear hxq hRq
     obtain ⟨k, n, C, A, xs, hk, hnk, rfl, hE, hR, hown, hn, hW⟩ := hrel
     have hxk := Lib.hid (hx.out.trans hE.out)
     have hBk := Lib.hid ((Keep.of_ext (X := fun _ => False) hxk.out).blk hB7.out id)
     have t0 : wk.cell? ⟨w2.heap.size, 0, none⟩ = some (.slice ta T.length tc) := hBk.out.cell 0
     have tl := hBk.out.lt
     by_cases k1 : k < L.length
     ·obtain ⟨b1, o1, x, rfl, hb1, _, ex, g1⟩ := hLat.out k k1 wk hxk.out
      obtain ⟨m, rfl, hmT⟩ := idxB_nat (hLi.out x (List.mem_of_getElem? ex.out))
      have z0 := After.cell g1
      have z1 := After.cell t0
      have ex' := Lib.hid ex.out
      have g1' := Lib.hid g1
      have hmT' := Lib.hid hmT
      have d9 : ¬ T.length ≤ m := by omega
      have d8 : decide ((T.length : Int) ≤ (m : Int)) = false := decide_eq_false (by omega)
      have d7 : decide ((m : Int) < 0) = false := decide_eq_false (by omega)
      clear t0 g1 ex
      go_upto_region 20 with (fail)
      refine wp_region_after (by kernel_rfl) (by kernel_rfl) ?_
      repeat (go_big_quiet_step (fail))
      refine wpQuiet_nil ?_
      rintro _ ⟨u, rfl⟩
      have hu := Lib.hid u.ext
      generalize u.world = V at hu ⊢
      clear z0 z1
      have hEV := Lib.hid (hE.out.trans hu.out)
      have hxV := Lib.hid (hx.out.trans hEV.out)
      have kv := Keep.of_ext (X := fun _ => False) hu.out
      have hRV := Lib.hid (kv.blk hR.out id)
      have hownV := Lib.hid (owns_ext hown.out hu.out)
      clear kv d7 d8 d9
      by_cases hki : k = i
      ·have dne : ((k : Int) != (i : Int)) = false := by simp [hki]
       have hn2 : Hid ((subT T ((L.take (k + 1)).eraseIdx i)).length = n) := Lib.hid (by rw [show (L.take (k + 1)).eraseIdx i = (L.take k).eraseIdx i by rw [hki, erase_at]]; exact hn.out)
       have hW2 : Hid (WishesC w7 (subT T ((L.take (k + 1)).eraseIdx i)) xs) := Lib.hid (by rw [show (L.take (k + 1)).eraseIdx i = (L.take k).eraseIdx i by rw [hki, erase_at]]; exact hW.out)
       clear hki hn hW hE hR hown hu
       go_wp2
       go_roundw
       case rel => first | exact ⟨k + 1, n, C, A, xs, k1, by omega, by go_num, hEV, hRV, hownV, hn2, hW2⟩ | ((repeat apply Exists.intro); exact ⟨⟨k + 1, n, C, A, xs, k1, by omega, by go_num, hEV, hRV, hownV, hn2, hW2⟩, rfl⟩)
       case measure => simp [intOf]; omega
      ·have dne : ((k : Int) != (i : Int)) = true := by simp; omega
       obtain ⟨b2, o2, y, ya, yc, oa, oc, rfl, hb2, _, ey, q1, q2, q3, gp, go⟩ := hTat.out m hmT w7 (Ext.refl _)
       have hnext : Hid (subT T ((L.take (k + 1)).eraseIdx i) = subT T ((L.take k).eraseIdx i) ++ [y]) := Lib.hid (by rw [erase_push ex'.out hki]; exact subT_snoc ey.out)
       have hn2 : Hid ((subT T ((L.take (k + 1)).eraseIdx i)).length = n + 1) := Lib.hid (by rw [hnext.out, List.length_append, hn.out]; rfl)
       have hW2 : Hid (WishesC w7 (subT T ((L.take (k + 1)).eraseIdx i)) (xs ++ [.int .i64 y.meeting, .slice ya y.people.length yc, .slice oa y.opts.length oc])) := Lib.hid (by rw [hnext.out]; exact WishesC.snoc ⟨gp, go⟩ hW.out)
       have hBV := Lib.hid ((Keep.of_ext (X := fun _ => False) hxV.out).blk hB7.out id)
       have z0 := After.cell (hu.out.cell g1'.out)
       have z1 := After.cell (hxV.out.cell q1)
       have z2 := After.cell (hxV.out.cell q2)
       have z3 := After.cell (hxV.out.cell q3)
       have z4 := After.cell (show V.cell? ⟨w2.heap.size, 0, none⟩ = some (.slice (some ⟨b2, o2, none⟩) T.length tc) from hBV.out.cell 0)
       have z5 := After.cell (show V.cell? ⟨wr.heap.size, 0, none⟩ = some (.slice A n C) from hRV.out.cell 0)
       clear hki q1 q2 q3 gp go ey ex' hnext hW hn g1' hE hR hown hu hBk hb2 hb1
       go_upto_region 23 with (fail)
       (refine wp_region_held [] [0, 1, 2, 3, 4, 5, 6, 7, 8, 9, 10] [11, 12, 13] (fun _ _ _ => True) (by kernel_rfl) (by kernel_rfl) ?_; simp only [pickL]; with_reducible refine wpQuiet_nil ?_)
       (refine held_quiet [0, 1, 2, 3, 4, 5, 6, 7, 8, 9] [10] (by kernel_rfl) (by kernel_rfl) ?_; simp only [pickL, List.drop]; (repeat (go_big_quiet_step (fail))); with_reducible refine wpQuiet_nil ?_)
       (refine held_made 10 [] rfl (by kernel_rfl) (fun g => .slice (some ⟨g, 0, none⟩) 1 1) (.cells #[.int .i64 y.meeting, .slice ya y.people.length yc, .slice oa y.opts.length oc] 64) (fun W => by kernel_rfl) (fun g g2 e => by cases e; rfl) (fun g => rfl) ?_)
       intro gs
       simp only [Act.put, putA, putB, putC]
       intro U hxv hfc ht Q0 hQ0
       have h7 := (hfc 10).2 rfl
       have b7 : Blk U gs 64 #[.int .i64 y.meeting, .slice ya y.people.length yc, .slice oa y.opts.length oc] := h7.1
       have hsrc := Lib.hid (reads_blkW (size := 3) (m := 1) b7 rfl)
       have hownU := Lib.hid (owns_ext hownV.out hxv)
       have hEU := Lib.hid (hEV.out.trans hxv)
       have ku := Keep.of_ext (X := fun _ => False) hxv
       have hRU := Lib.hid (ku.blk hRV.out id)
       have hsz : wr.heap.size + 1 ≤ U.heap.size := hRU.out.lt
       simp only [pickL, List.drop]
       clear hfc ht h7 b7 z0 z1 z2 z3 z4 z5 hownV hEV ku hRV hxv hBV hxV
       go_wp2_with (at_builtin; refine wpList_append_any _ rfl (.tmp 122) (.tmp 131) _ rfl (wr.heap.size + 1) 64 m0 _ 3 56 Tryz.underlying26 hm0 mz0 mz1 mz2 rfl (by decide) (.slice A n C) n _ rfl hownU.out U.heap.size (some ⟨gs, 0, none⟩) 1 1 _ rfl hsrc.out (wish_cells _ _ _ rfl rfl) (by unfold maxLen; omega) (by omega) hsz ?_; intro v5 w9 hown5 hg5 hat5; obtain ⟨A5, C5, rfl⟩ := owns_form hown5; have hOb5 : Blk w9 wr.heap.size 28 #[.slice A n C] := hRU.out.grown hg5 (fun e => by have := (hownU.out.lt _ e.symm).1; omega); have m5 : w9.cell? ⟨wr.heap.size, 0, none⟩ = some (.slice A n C) := hOb5.cell 0; have f5 := hOb5.frozen 0; have lt5 := hOb5.lt)
       have hE5 := hEU.out.grown hg5 (fun k e => by have := (hownU.out.lt _ e).1; omega)
       have hO5 := Lib.hid (hOb5.set_ 0 (.slice A5 (n + 1) C5))
       have k5 := keep_set w9 wr.heap.size 0 (.slice A5 (n + 1) C5)
       have o5 := Lib.hid (k5.owns hown5 (fun g e h => by have := (hown5.lt _ e).1; omega))
       have hE6 := Lib.hid (hE5.setCell (p := ⟨wr.heap.size, 0, none⟩) (Nat.le_refl _) (.slice A5 (n + 1) C5))
       clear hown5 hg5 hat5 hOb5 k5 hE5 hEU hRU hownU hsrc
       first
       | (go_roundw; case rel => first | exact ⟨k + 1, n + 1, C5, A5, _, k1, by omega, by go_num, hE6, hO5, o5, hn2, hW2⟩ | ((repeat apply Exists.intro); exact ⟨⟨k + 1, n + 1, C5, A5, _, k1, by omega, by go_num, hE6, hO5, o5, hn2, hW2⟩, rfl⟩)
          case measure => simp [intOf]; omega)
       | (refine ⟨⟨k + 1, n + 1, C5, A5, _, k1, by omega, by go_num, hE6, hO5, o5, hn2, hW2⟩, ?_⟩; simp [intOf]; omega)
     ·obtain rfl : k = L.length := by omega
      obtain ⟨s, hs9⟩ : ∃ s, Hid (subT T (L.eraseIdx i) = s) := ⟨_, rfl⟩
      have hn2 : Hid (s.length = n) := Lib.hid (by have := hn.out; rwa [List.take_length, hs9.out] at this)
      have hW2 : Hid (WishesC w7 s xs) := Lib.hid (by have := hW.out; rwa [List.take_length, hs9.out] at this)
      have r0 : wk.cell? ⟨wr.heap.size, 0, none⟩ = some (.slice A n C) := hR.out.cell 0
      have rl := hR.out.lt
      have hstand : Hid (standB s = true) := Lib.hid (by rw [← hs9.out]; exact hLc'.out.2 i i1)
      clear hn hW k1 hk t0 tl hBk
      by_cases h0 : n = 0
      ·have dz : ((n : Int) == 0) = true := by simp [h0]
       clear h0
       go_wp2
       go_roundw
       case rel => first | exact ⟨i + 1, i1, by go_num, hxk⟩ | ((repeat apply Exists.intro); exact ⟨⟨i + 1, i1, by go_num, hxk⟩, rfl⟩)
       case measure => simp [intOf]; omega
      ·have dz : ((n : Int) == 0) = false := by rw [beq_eq_false_iff_ne]; omega
       have hsub : L.eraseIdx i <+ upI T.length := (List.eraseIdx_sublist L i).trans hLs'.out
       have hvs : Hid (validT s = 0) := Lib.hid (by
        rw [← hs9.out]
        refine subT_valid hv.out hsub fun e => h0 ?_
        rw [← hn2.out, ← hs9.out, e]
        rfl)
       have hms : Hid (treeMax s ≤ 65536) := Lib.hid (by rw [← hs9.out]; exact hs'.out.tree (up_idx hsub) (Nat.le_trans (up_len hsub) hs'.out.len))
       have hWs : Hid (Wishes wk (.slice A n C) s) := Lib.hid (wishes_of_rowK (by rw [hn2.out]; exact hown.out) (hW2.out.ext hxk.out))
       clear h0 hs9 hsub hown hW2
       go_wp2_with fail
       refine (best_calls _ s wk hWs.out (fun _ => hms.out)).mono ?_
       intro e wb hbo
       obtain ⟨xa, xn, xc, xq, xv, rfl, hxb, hpk⟩ := best_standT hvs.out hbo
       rw [hstand.out] at hpk
       rw [hstand.out]
       obtain ⟨p2, hp2, hlw2⟩ := hpk rfl
       have hlw := Lib.hid hlw2
       obtain ⟨_, _, ep⟩ := hp2.form
       cases ep
       have hRb := Lib.hid ((Keep.of_ext (X := fun _ => False) hxb).blk hR.out id)
       have hxb' := Lib.hid hxb
       have hp2' := Lib.hid hp2
       clear hbo hxb hpk hp2 hlw2 r0 rl hR
       go_upto_region 26 with (fail)
       refine wp_abs (S := fun W => Hid (Ext wb W) ∧ Hid (Blk W wr.heap.size 28 #[.slice A n C]) ∧ Hid (Blk W wb.heap.size 33 #[.slice xa p2.length xc, .int .i64 xq])) ?_ ?_
       ·exact ⟨Lib.hid (by exact (by with_reducible repeat' (first | exact Ext.refl _ | assumption | refine Ext.drewN ?_ _ | refine Ext.drew ?_ | refine Ext.alloc ?_ _ | refine Ext.trans ?_ (by with_reducible assumption)))), Lib.hid (Blk.alloc hRb.out _), Lib.hid (blk_new' rfl rfl)⟩
       rintro Wc ⟨hxc, hRc, hPc⟩
       have r0 : Wc.cell? ⟨wr.heap.size, 0, none⟩ = some (.slice A n C) := hRc.out.cell 0
       have rl := hRc.out.lt
       have s0 : Wc.cell? ⟨wb.heap.size, 0, none⟩ = some (.slice xa p2.length xc) := hPc.out.cell 0
       have sl := hPc.out.lt
       have hWc := Lib.hid (hWs.out.ext (hxb'.out.trans hxc.out))
       have hpc := Lib.hid (hp2'.out.ext hxc.out)
       have hxd := Lib.hid (hxk.out.trans (hxb'.out.trans hxc.out))
       clear hRb hxb' hp2' hxc hRc hPc
       go_wp2_with fail
       refine (lawful_calls _ _ s p2 Wc hWc.out hpc.out).mono ?_
       rw [hlw.out]
       rintro e Wd ⟨rfl, hxe⟩
       have hxf := Lib.hid (hxd.out.trans hxe)
       clear hxe r0 rl s0 sl
       go_wp2
       go_roundw
       case rel => first | exact ⟨i + 1, i1, by go_num, hxf⟩ | ((repeat apply Exists.intro); exact ⟨⟨i + 1, i1, by go_num, hxf⟩, rfl⟩)
       case measure => simp [intOf]; omega
   ·have hE9 := Lib.hid (hE7.out.trans hx.out)
    go_wp2
    go_ret
    exact ⟨rfl, hE9.out⟩
end Go.Proofs.YtgolicoalldidaaGreat
namespace Go.Proofs.YtgolicoalldidaaGreat
open Go.RowKit Go.Shelf
attribute [local go_sem] Oper.semAt_some
def xSan : RawS := ⟨0, 0, 0, 0, 0, 6, 1, 40, 3, []⟩
def sSan (m : Int) : StandD := ⟨m, 0, 0, 1, ⟨[⟨⟨[], 0, 1, [0]⟩, 660⟩], 60, []⟩⟩
def spSan : List (Int × Int) := (List.range 14).map fun (k : Nat) => (660 + 1440 * (k : Int), 720 + 1440 * (k : Int))
def oSan : List OptD := [⟨0, 0, spSan⟩, ⟨3, 1, spSan⟩, ⟨3, 2, spSan⟩, ⟨40, -1, []⟩]
def tSan : List WishD := [⟨1, [], oSan⟩, ⟨2, [], oSan⟩]
theorem xSan_is : standT xSan = sSan 1 := by rfl
theorem xSan_ok : RawSOk xSan := by
 have b : ∀ n : Nat, n ≤ 255 → byteB (n : Int) := fun n h => ⟨by omega, by omega⟩
 exact ⟨b 0 (by decide), b 0 (by decide), b 0 (by decide), b 0 (by decide), b 0 (by decide), b 6 (by decide), b 1 (by decide), b 40 (by decide), b 3 (by decide), fun y h => by cases h⟩
theorem san_task : taskS [sSan 1, sSan 2] = tSan := by decide +kernel
theorem san_valid : validT tSan = 0 := by decide +kernel
theorem san_tree : treeMax tSan ≤ 65536 := by decide +kernel
theorem san_best : bestOf tSan = some ([0, 1], 3) := by decide +kernel
theorem san_order : (orderL tSan [0, 1]).length = 1 := by decide +kernel
theorem sSan_ok (m : Int) : StandOk (sSan m) := by
 refine ⟨⟨Nat.le_refl _, fun c hc => ?_, (by show (1 : Int) ≤ 60; decide), (by show (60 : Int) ≤ 10080; decide), (by show (0 : Nat) ≤ 40; decide), fun x h => (by cases h), List.Pairwise.nil⟩, (by show (0 : Nat) ≤ 3; decide), (by show (0 : Int) ≤ 0; decide), (by show (0 : Int) ≤ 2; decide)⟩
 obtain rfl : c = ⟨⟨[], 0, 1, [0]⟩, 660⟩ := by simpa [sSan] using hc
 exact ⟨⟨rfl, by decide, by decide, by decide, by decide, by decide, by decide, rfl⟩, by decide, by decide⟩
theorem stands2 {W : World} {g : Nat} {cv ev : Value} (hb : Blk W g 52 #[.int .i64 1, .int .i64 0, .int .i64 0, .int .i64 1, cv, .int .i64 60, ev, .int .i64 2, .int .i64 0, .int .i64 0, .int .i64 1, cv, .int .i64 60, ev]) (hc : Classes W cv (sSan 1).stream.classes) (he : Insts W ev []) :
  StandsL W (.slice (some ⟨g, 0, none⟩) 2 2) [sSan 1, sSan 2] := by
 refine ⟨fun _ => cv, fun _ => ev, sl_of_blk (n := 2) (c := 2) hb (Nat.le_refl _) (by unfold maxLen; omega) (fun i hi j hj => ?_), fun i hi => ?_⟩
 ·obtain rfl | rfl : i = 0 ∨ i = 1 := by omega
  all_goals
   obtain rfl | rfl | rfl | rfl | rfl | rfl | rfl : j = 0 ∨ j = 1 ∨ j = 2 ∨ j = 3 ∨ j = 4 ∨ j = 5 ∨ j = 6 := by omega
   all_goals rfl
 ·obtain rfl | rfl : i = 0 ∨ i = 1 := by simp at hi; omega
  all_goals exact ⟨hc, he⟩
set_option maxRecDepth 100000 in
theorem sanity35_calls (w : World) : Calls Tryz.prog 5 #[] w fun e w' => e = .returned (.bool true) ∧ Ext w w' := by
 go_enter Tryz.func5, Tryz.ntmps5
 go_wp2_with fail
 refine (madeStand_calls _ xSan w ⟨.slice none 0 0, rfl, ⟨⟨none, 0, rfl, Nat.le_refl _, by unfold maxLen; omega, fun h => absurd h (by simp [xSan])⟩, fun x h => (by cases h)⟩, xSan_ok⟩).mono ?_
 rintro e w1 ⟨v', rfl, hv, hx1⟩
 rw [xSan_is] at hv
 obtain ⟨cv, ev, rfl, hc, he⟩ : ∃ cv ev, v' = .agg #[.int .i64 1, .int .i64 0, .int .i64 0, .int .i64 1, cv, .int .i64 60, ev] ∧ Classes w1 cv (sSan 1).stream.classes ∧ Insts w1 ev [] := hv
 have hc' := Lib.hid hc
 have he' := Lib.hid he
 have hx1' := Lib.hid hx1
 obtain ⟨ca, cc, rfl, _, _, _⟩ := hc.open
 obtain ⟨ea, ec, rfl⟩ := he.form
 obtain ⟨cn, hcn⟩ : ∃ cn, Hid ((sSan 1).stream.classes.length = cn) := ⟨_, rfl⟩
 rw [hcn.out] at hc' ⊢
 simp only [List.length_nil] at he' ⊢
 clear hc he hx1
 go_upto_region 4 with (fail)
 refine wp_abs (S := fun W => Hid (Ext w1 W) ∧ Hid (Blk W w1.heap.size 52 #[.int .i64 1, .int .i64 0, .int .i64 0, .int .i64 1, .slice ca cn cc, .int .i64 60, .slice ea 0 ec]) ∧ Hid (Blk W (w1.heap.size + 1) 52 #[.int .i64 2, .int .i64 0, .int .i64 0, .int .i64 1, .slice ca cn cc, .int .i64 60, .slice ea 0 ec])) ?_ ?_
 ·exact ⟨Lib.hid (by exact (by with_reducible repeat' (first | exact Ext.refl _ | assumption | refine Ext.drewN ?_ _ | refine Ext.drew ?_ | refine Ext.alloc ?_ _ | refine Ext.trans ?_ (by with_reducible assumption)))), Lib.hid (Blk.alloc (blk_new' rfl rfl) _), Lib.hid (blk_new' (by simp) rfl)⟩
 rintro w2 ⟨hx2, hA2, hB2⟩
 have a0 : w2.cell? ⟨w1.heap.size, 0, none⟩ = some (.int .i64 1) := hA2.out.cell 0
 have a1 : w2.cell? ⟨w1.heap.size, 1, none⟩ = some (.int .i64 0) := hA2.out.cell 1
 have a2 : w2.cell? ⟨w1.heap.size, 2, none⟩ = some (.int .i64 0) := hA2.out.cell 2
 have a3 : w2.cell? ⟨w1.heap.size, 3, none⟩ = some (.int .i64 1) := hA2.out.cell 3
 have a4 : w2.cell? ⟨w1.heap.size, 4, none⟩ = some (.slice ca cn cc) := hA2.out.cell 4
 have a5 : w2.cell? ⟨w1.heap.size, 5, none⟩ = some (.int .i64 60) := hA2.out.cell 5
 have a6 : w2.cell? ⟨w1.heap.size, 6, none⟩ = some (.slice ea 0 ec) := hA2.out.cell 6
 have al := hA2.out.lt
 have b0 : w2.cell? ⟨w1.heap.size + 1, 0, none⟩ = some (.int .i64 2) := hB2.out.cell 0
 have b1 : w2.cell? ⟨w1.heap.size + 1, 1, none⟩ = some (.int .i64 0) := hB2.out.cell 1
 have b2 : w2.cell? ⟨w1.heap.size + 1, 2, none⟩ = some (.int .i64 0) := hB2.out.cell 2
 have b3 : w2.cell? ⟨w1.heap.size + 1, 3, none⟩ = some (.int .i64 1) := hB2.out.cell 3
 have b4 : w2.cell? ⟨w1.heap.size + 1, 4, none⟩ = some (.slice ca cn cc) := hB2.out.cell 4
 have b5 : w2.cell? ⟨w1.heap.size + 1, 5, none⟩ = some (.int .i64 60) := hB2.out.cell 5
 have b6 : w2.cell? ⟨w1.heap.size + 1, 6, none⟩ = some (.slice ea 0 ec) := hB2.out.cell 6
 have bl := hB2.out.lt
 have hq2 := Lib.hid ((Ext.refl w2).alloc (.cells #[.int .i64 1, .int .i64 0, .int .i64 0, .int .i64 1, .slice ca cn cc, .int .i64 60, .slice ea 0 ec, .int .i64 2, .int .i64 0, .int .i64 0, .int .i64 1, .slice ca cn cc, .int .i64 60, .slice ea 0 ec] 52))
 go_wp2_with fail
 refine (task35_calls _ [sSan 1, sSan 2] _ (stands2 (blk_new' rfl rfl) (hc'.out.ext (hx2.out.trans hq2.out)) (he'.out.ext (hx2.out.trans hq2.out))) (fun x hx => ?_) (by decide)).mono ?_
 ·obtain rfl | rfl : x = sSan 1 ∨ x = sSan 2 := by simpa using hx
  ·exact sSan_ok 1
  ·exact sSan_ok 2
 rintro e w3 ⟨tv, rfl, ht, hx3⟩
 rw [san_task] at ht
 have hT := Lib.hid ht
 obtain ⟨ta, tc, rfl⟩ := ht.form
 have hE3 := Lib.hid (hx1'.out.trans (hx2.out.trans (hq2.out.trans hx3)))
 obtain ⟨tn, htn⟩ : ∃ n, Hid (tSan.length = n) := ⟨_, rfl⟩
 rw [htn.out] at hT ⊢
 clear ht hx3 a0 a1 a2 a3 a4 a5 a6 al b0 b1 b2 b3 b4 b5 b6 bl hA2 hB2 hq2 hx2 hc' he' hx1'
 go_wp2_with fail
 have hq3 := Lib.hid ((Ext.refl w3).alloc (.cells #[.slice ta tn tc] 28))
 refine (best_calls _ tSan _ (hT.out.ext hq3.out) (fun _ => san_tree)).mono ?_
 intro e w4 hb
 rcases best_out san_valid hb with ⟨h1, _, _⟩ | ⟨pv, cv, p, q, hq, rfl, hx4, hp, hcert⟩
 ·have := san_best
  rw [bestOf, h1] at this
  cases this
 rw [san_best] at hq
 cases hq
 have hB4 : Hid (Blk w4 w3.heap.size 28 #[.slice ta tn tc]) := Lib.hid ((Keep.of_ext (X := fun _ => False) hx4).blk (blk_new' rfl rfl) id)
 have hE4 := Lib.hid (hE3.out.trans (hq3.out.trans hx4))
 have hT4 := Lib.hid (hT.out.ext (hq3.out.trans hx4))
 have hN4 := Lib.hid hcert
 have hP4 := Lib.hid hp
 obtain ⟨pa, pc, rfl⟩ := hp.form
 obtain ⟨na, nc, rfl⟩ := hcert.form
 obtain ⟨LN, hLN⟩ : ∃ LN, Hid ((growL tSan 3 tSan [] 0 0).nodes.length = LN) := ⟨_, rfl⟩
 rw [hLN.out] at hN4 ⊢
 simp only [List.length_cons, List.length_nil] at hP4 ⊢
 clear hb hx4 hcert hp hq3 hT hE3
 go_upto_region 6 with (fail)
 refine wp_abs (S := fun W => Hid (Ext w4 W) ∧ Hid (Blk W w3.heap.size 28 #[.slice ta tn tc]) ∧ Hid (Blk W w4.heap.size 33 #[.slice pa 2 pc, .int .i64 3])) ?_ ?_
 ·exact ⟨Lib.hid (by exact (by with_reducible repeat' (first | exact Ext.refl _ | assumption | refine Ext.drewN ?_ _ | refine Ext.drew ?_ | refine Ext.alloc ?_ _ | refine Ext.trans ?_ (by with_reducible assumption)))), Lib.hid (Blk.alloc hB4.out _), Lib.hid (blk_new' rfl rfl)⟩
 rintro w5 ⟨hx5, hB5, hP5⟩
 have c0 : w5.cell? ⟨w3.heap.size, 0, none⟩ = some (.slice ta tn tc) := hB5.out.cell 0
 have l0 := hB5.out.lt
 have p0 : w5.cell? ⟨w4.heap.size, 0, none⟩ = some (.slice pa 2 pc) := hP5.out.cell 0
 have pl := hP5.out.lt
 go_wp2_with fail
 refine (order_calls _ _ tSan [0, 1] w5 (hT4.out.ext hx5.out) (hP4.out.ext hx5.out)).mono ?_
 rw [orderS_okT (bestOf_spec san_valid san_best).1]
 rintro e w6 ⟨sv, rfl, hst, hx6⟩
 obtain ⟨sa, sc, rfl⟩ := hst.read.form
 dsimp only at hst ⊢
 rw [san_order] at hst ⊢
 have hB6 := Lib.hid ((Keep.of_ext (X := fun _ => False) hx6).blk hB5.out id)
 have hP6 := Lib.hid ((Keep.of_ext (X := fun _ => False) hx6).blk hP5.out id)
 have c6 : w6.cell? ⟨w3.heap.size, 0, none⟩ = some (.slice ta tn tc) := hB6.out.cell 0
 have l6 := hB6.out.lt
 have p6 : w6.cell? ⟨w4.heap.size, 1, none⟩ = some (.int .i64 3) := hP6.out.cell 1
 have pl6 := hP6.out.lt
 have hq6 := Lib.hid (hx5.out.trans hx6)
 clear hst hx6 hB5 hP5 c0 l0 p0 pl
 go_wp2_with fail
 refine (check_calls _ _ tSan 3 _ w6 (hT4.out.ext hq6.out) (hN4.out.ext hq6.out) (fun n hn => ?_)).mono ?_
 ·have := growL_kids tSan 3 4 tSan (fun x hx => by
   obtain rfl | rfl : x = ⟨1, [], oSan⟩ ∨ x = ⟨2, [], oSan⟩ := by simpa [tSan] using hx
   ·decide
   ·decide) [] 0 0 n hn
  omega
 rw [cert_small san_valid san_tree san_best (Int.le_refl _)]
 rintro e w7 ⟨rfl, hx7⟩
 have hE7 := Lib.hid (hE4.out.trans (hq6.out.trans hx7))
 clear hx7
 go_wp2
 go_ret
 exact ⟨rfl, hE7.out⟩
theorem topEitherAPlanOrACore_calls (rv : Value) (l : List RawD) (w : World) (h : Raws w rv l) :
  Calls Tryz.prog 4 #[rv] w fun e w' => e = .returned (.bool true) ∧ Ext w w' := topEither_walk sanity35_calls rv l w h
end Go.Proofs.YtgolicoalldidaaGreat
namespace Go.Proofs.YtgolicoalldidaaGreat
open Go.ChangeShapes Go.WideShapes Go.ChangeAt Go.RowKit
theorem own_knob : ownKnob Tryz.prog.godebug = none := by kernel_rfl
theorem laid_out : laidOutB Tryz.prog = true := by kernel_rfl
section
variable {H : Type} {enc : TypeId × Value → H} {P : Program} {w : World} {base : Nat} {spare : Nat → Bool} {held : Bool}
theorem slice_cells {t e : TypeId} {fuel : Nat} {v : Value} {x : DataW H × List MemPlace} (ht : P.underlying t = some (.slice e)) (hk : 0 < P.cellsOf e) (h : DataW.trod enc P w base spare held fuel t [v] = some x) :
  ∃ (a : Option Addr) (len cap m : Nat) (C : Nat → List Value), v = .slice a len cap ∧ len ≤ cap ∧ cap ≤ maxLen ∧ (a = none → len = 0) ∧
   (0 < len → ∃ b off, a = some ⟨b, off, none⟩ ∧ b < w.heap.size ∧ ∀ i, i < len → ∀ j, j < P.cellsOf e → w.cell? ⟨b, off + i * P.cellsOf e + j, none⟩ = (C i)[j]?) ∧
   ∀ i, i < len → (C i).length = P.cellsOf e ∧ ∃ y, DataW.trod enc P w base spare held m e (C i) = some y := by
 rcases Go.Deep.open_slice ht h with ⟨hcs, _⟩ | ⟨a, len, cap, m, n, D, Pl, hcs, hb, hl, hm, hmm, _, hx⟩
 ·simp at hcs
  exact ⟨none, 0, 0, 0, fun _ => [], hcs, Nat.le_refl _, by unfold maxLen; omega, fun _ => rfl, fun h => absurd h (by omega), fun i hi => absurd hi (by omega)⟩
 ·simp at hcs
  have hlm : len ≤ m := by rw [hmm]; split <;> omega
  obtain ⟨C, hC⟩ := Go.Deep.choose_lt (n := len) (p := fun i cs' => w.cells? base (a.add (i * P.cellsOf e)) (P.cellsOf e) = some cs' ∧ DataW.trod enc P w base spare held n e cs' = some (D i, Pl i)) (fun i hi => hx i (by omega))
  refine ⟨some a, len, cap, n, C, hcs, hl, hm, (fun h => by cases h), fun h0 => ?_, fun i hi => ?_⟩
  ·obtain ⟨b, off, spot⟩ := a
   have c0 := World.cells?_some (hC 0 h0).1
   have c00 := c0.2.2 0 hk
   have hl0 : 0 < (C 0).length := by rw [c0.2.1]; exact hk
   rw [List.getElem?_eq_getElem hl0] at c00
   have hsp : spot = none := by
    have := World.cell?_spot c00
    simpa [Addr.add] using this
   subst hsp
   have hblt := World.block_lt_of_cell? _ _ c00
   refine ⟨b, off, rfl, by simpa [Addr.add] using hblt, fun i hi j hj => ?_⟩
   have ci := (World.cells?_some (hC i hi).1).2.2 j hj
   rw [Go.Deep.add_add] at ci
   have e : (⟨b, off, none⟩ : Addr).add (i * P.cellsOf e + j) = ⟨b, off + i * P.cellsOf e + j, none⟩ := by unfold Addr.add; split <;> simp_all <;> omega
   rw [← e]; exact ci
  ·exact ⟨(World.cells?_some (hC i hi).1).2.1, _, (hC i hi).2⟩
theorem trod_u8 {t : TypeId} {fuel : Nat} {cs : List Value} {x : DataW H × List MemPlace} (ht : P.underlying t = some (.int .u8)) (h : DataW.trod enc P w base spare held fuel t cs = some x) : ∃ n, cs = [.int .u8 n] ∧ byteB n := by
 obtain ⟨n, h1, _, h3⟩ := DataW.trod_int ht h
 refine ⟨n, h1, ?_⟩
 simpa [Lit.wf, IntKind.min, IntKind.max, IntKind.signed, IntKind.bits, byteB] using h3
end
theorem cells_u8 : Tryz.prog.cellsOf 5 = 1 := by kernel_rfl
theorem cells_oct : Tryz.prog.cellsOf 119 = 4 := by kernel_rfl
theorem cells_raw : Tryz.prog.cellsOf 117 = 2 := by kernel_rfl
section
variable {H : Type} {enc : TypeId × Value → H} {w : World} {base base' : Nat} {spare : Nat → Bool} {held : Bool}
set_option maxRecDepth 100000 in
theorem oct_of_trod {fuel : Nat} {cs : List Value} {x : DataW H × List MemPlace} (h : DataW.trod enc Tryz.prog w base spare held fuel 119 cs = some x) : ∃ y : Oct, OctOk y ∧ cs = [.int .u8 y.a, .int .u8 y.b, .int .u8 y.c, .int .u8 y.d] := by
 obtain ⟨xs, m, _, _, hl, hn, hx⟩ := DataW.trod_array Tryz.underlying119 h
 rw [cells_oct] at hl
 have hat : ∀ i, i < 4 → ∃ n, (cs.drop i).take 1 = [.int .u8 n] ∧ byteB n := by
  intro i hi
  have := hx i hi
  rw [cells_u8, Nat.mul_one, List.getElem?_eq_getElem (by omega)] at this
  exact trod_u8 Tryz.underlying5 this
 match cs, hl with
 | [c0, c1, c2, c3], _ =>
  obtain ⟨a, ha, ka⟩ := hat 0 (by omega)
  obtain ⟨b, hb, kb⟩ := hat 1 (by omega)
  obtain ⟨c, hc, kc⟩ := hat 2 (by omega)
  obtain ⟨d, hd, kd⟩ := hat 3 (by omega)
  simp at ha hb hc hd
  exact ⟨⟨a, b, c, d⟩, ⟨ka, kb, kc, kd⟩, by rw [ha, hb, hc, hd]⟩
set_option maxRecDepth 100000 in
theorem octs_of_trod {fuel : Nat} {v : Value} {x : DataW H × List MemPlace} (h : DataW.trod enc Tryz.prog w base spare held fuel 115 [v] = some x) : ∃ l, Octs w v l := by
 obtain ⟨a, len, cap, m, C, rfl, hl, hm, _, hc, hx⟩ := slice_cells Tryz.underlying115 (by rw [cells_oct]; omega) h
 rw [cells_oct] at hc
 obtain ⟨f, hf⟩ := Go.Deep.choose_lt (n := len) (p := fun i (y : Oct) => OctOk y ∧ C i = [.int .u8 y.a, .int .u8 y.b, .int .u8 y.c, .int .u8 y.d]) (fun i hi => let ⟨_, y, hy⟩ := hx i hi; oct_of_trod hy)
 refine ⟨(List.range len).map f, ⟨a, cap, by simp, by simpa using hl, hm, fun h0 => ?_⟩, ?_⟩
 ·obtain ⟨b, off, ha, hb, hcell⟩ := hc (by simpa using h0)
  refine ⟨b, off, ha, hb, fun i hi j hj => ?_⟩
  have hi' : i < len := by simpa using hi
  rw [hcell i hi' j hj, (hf i hi').2]
  match j, hj with
  | 0, _ => simp [hi', octCell]
  | 1, _ => simp [hi', octCell]
  | 2, _ => simp [hi', octCell]
  | 3, _ => simp [hi', octCell]
 ·intro y hy
  rw [List.mem_map] at hy
  obtain ⟨i, hi, rfl⟩ := hy
  exact (hf i (List.mem_range.1 hi)).1
set_option maxRecDepth 100000 in
theorem raw_of_trod {fuel : Nat} {cs : List Value} {x : DataW H × List MemPlace} (h : DataW.trod enc Tryz.prog w base spare held fuel 117 cs = some x) : ∃ (y : RawD) (sv : Value), byteB y.people ∧ Octs w sv y.opts ∧ cs = [.int .u8 y.people, sv] := by
 obtain ⟨xs, n, _, _, hl, hn, hx⟩ := DataW.trod_struct Tryz.underlying117 h
 rw [cells_raw] at hl
 have hn' : xs.length = 2 := hn
 match cs, hl with
 | [c0, c1], _ =>
  have h0 : DataW.trod enc Tryz.prog w base spare held n 5 (([c0, c1].drop 0).take (Tryz.prog.cellsOf 5)) = xs[0]? := hx 0 _ rfl
  have h1 : DataW.trod enc Tryz.prog w base spare held n 115 (([c0, c1].drop 1).take (Tryz.prog.cellsOf 115)) = xs[1]? := hx 1 _ rfl
  rw [List.getElem?_eq_getElem (by omega)] at h0 h1
  have e1 : Tryz.prog.cellsOf 115 = 1 := by kernel_rfl
  simp only [cells_u8, e1, List.drop_zero, List.take_succ_cons, List.take_zero, List.drop_succ_cons] at h0 h1
  obtain ⟨p, hp, kp⟩ := trod_u8 Tryz.underlying5 h0
  obtain ⟨l, hl⟩ := octs_of_trod h1
  simp at hp
  exact ⟨⟨p, l⟩, c1, kp, hl, by rw [hp]⟩
set_option maxRecDepth 100000 in
theorem raws_of_trod {r : Reach} {v : Value} {d : DataW H} {ps : List MemPlace} (hv : Value.okWide Tryz.prog w r base 54 v) (h0 : DataW.Trod enc Tryz.prog w base' spare held 54 v d ps) : ∃ l, Raws w v l := by
 obtain ⟨a0, n0, c0, rfl⟩ := okWide_slice Tryz.underlying54 hv
 obtain ⟨fuel, h⟩ := h0
 obtain ⟨a, len, cap, m, C, e, hl, hm, _, hc, hx⟩ := slice_cells Tryz.underlying54 (by rw [cells_raw]; omega) h
 rw [cells_raw] at hc
 obtain ⟨f, hf⟩ := Go.Deep.choose_lt (n := len) (p := fun i (y : RawD × Value) => byteB y.1.people ∧ Octs w y.2 y.1.opts ∧ C i = [.int .u8 y.1.people, y.2]) (fun i hi => let ⟨_, y, hy⟩ := hx i hi; let ⟨r, sv, h1, h2, h3⟩ := raw_of_trod hy; ⟨(r, sv), h1, h2, h3⟩)
 refine ⟨(List.range len).map fun i => (f i).1, fun i => (f i).2, ⟨a, cap, by simpa using e, by simpa using hl, hm, fun h0 => ?_⟩, fun i hi => ?_⟩
 ·obtain ⟨b, off, ha, hb, hcell⟩ := hc (by simpa using h0)
  refine ⟨b, off, ha, hb, fun i hi j hj => ?_⟩
  have hi' : i < len := by simpa using hi
  rw [hcell i hi' j hj, (hf i hi').2.2]
  match j, hj with
  | 0, _ => simp [hi']
  | 1, _ => rfl
 ·have hi' : i < len := by simpa using hi
  have h1 := hf i hi'
  simp only [List.getElem?_map, List.getElem?_range hi', Option.map_some, Option.getD_some]
  exact ⟨h1.2.1, h1.1⟩
end
end Go.Proofs.YtgolicoalldidaaGreat
namespace Go.Proofs.YtgolicoalldidaaGreat
open Go.ChangeShapes Go.WideShapes Go.ChangeAt Go.RowKit
section
variable {H : Type} {enc : TypeId × Value → H} {w : World} {base base' : Nat} {spare : Nat → Bool} {held : Bool}
end
end Go.Proofs.YtgolicoalldidaaGreat
namespace Go.Proofs.YtgolicoalldidaaGreat
open Go.ChangeShapes Go.WideShapes Go.ChangeAt Go.RowKit
section
variable {H : Type} {enc : TypeId × Value → H} {w : World} {base base' : Nat} {spare : Nat → Bool} {held : Bool}
end
end Go.Proofs.YtgolicoalldidaaGreat
namespace Go.Proofs.YtgolicoalldidaaGreat
open Go.ChangeShapes Go.WideShapes Go.ChangeAt Go.RowKit
section
variable {H : Type} {P : Program} {enc : TypeId × Value → H} {w : World} {base base' : Nat} {spare : Nat → Bool} {held : Bool}
end
section
variable {H : Type} {enc : TypeId × Value → H} {w : World} {base base' : Nat} {spare : Nat → Bool} {held : Bool}
end
end Go.Proofs.YtgolicoalldidaaGreat
