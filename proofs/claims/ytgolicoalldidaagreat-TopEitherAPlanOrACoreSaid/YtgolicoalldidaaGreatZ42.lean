import Derived.Test.YtgolicoalldidaaGreatZ39
import Derived.Test.YtgolicoalldidaaGreatZ41
set_option maxHeartbeats 12800000
namespace Go.Proofs.YtgolicoalldidaaGreat
open Go.RowKit Go.Shelf List
theorem best_standT {t : List WishD} {w w' : World} {e : Ending} (hv : validT t = 0) (h : BestOut t w e w') :
  ∃ a n c q cv, e = .returned (.tuple #[.agg #[.slice a n c, .int .i64 q], cv, .int .i64 (if standB t then 0 else 4)]) ∧ Ext w w' ∧ (standB t = true → ∃ p, Ints w' (.slice a n c) p ∧ lawfulB t p = true) := by
 rcases best_out hv h with ⟨h1, rfl, hx⟩ | ⟨pv, cv, p, q, hb, rfl, hx, hp, _⟩
 ·have hs : standB t = false := by
   cases hs : standB t with
   | false => rfl
   | true => exact absurd h1 (standB_ne.1 hs)
  rw [hs]
  exact ⟨_, _, _, _, _, rfl, hx, fun e => by cases e⟩
 ·have hs : standB t = true := by
   rw [standB_ne]
   intro e
   rw [bestOf, e] at hb
   cases hb
  obtain ⟨pa, pc, rfl⟩ := hp.form
  rw [hs]
  exact ⟨_, _, _, _, _, rfl, hx, fun _ => ⟨p, hp, (bestOf_spec hv hb).1⟩⟩
theorem orderS_okT {t : List WishD} {p : List Int} (h : lawfulB t p = true) : orderS t p = (orderL t p, 0) := by
 unfold orderS
 rw [if_pos (lawful_parts h).1, if_pos h]
theorem made_smallK {l : List RawD} (h : RawsOk l) : SmallT (madeT l) :=
 ⟨by have := (made_len (l := l)).2; omega, fun x hx => by have := made_opts h hx; omega⟩
theorem erase_at {α : Type} {L : List α} {i : Nat} : (L.take (i + 1)).eraseIdx i = (L.take i).eraseIdx i := by
 by_cases h : i < L.length
 ·rw [List.eraseIdx_of_length_le (l := L.take i) (by simp; omega), List.take_succ_eq_append_getElem h, List.eraseIdx_append_of_length_le (by simp; omega)]
  simp [show i - min i L.length = 0 by omega]
 ·rw [List.take_of_length_le (by omega), List.take_of_length_le (by omega)]
theorem erase_push {α : Type} {L : List α} {i k : Nat} {x : α} (hk : L[k]? = some x) (hne : k ≠ i) : (L.take (k + 1)).eraseIdx i = (L.take k).eraseIdx i ++ [x] := by
 have hlt := (List.getElem?_eq_some_iff.1 hk).1
 rw [List.take_add_one, hk]
 simp only [Option.toList_some]
 by_cases h : i < k
 ·rw [List.eraseIdx_append_of_lt_length (by simp; omega)]
 ·rw [List.eraseIdx_of_length_le (by simp; omega), List.eraseIdx_of_length_le (by simp; omega)]
theorem subT_snoc {t : List WishD} {l : List Int} {k : Nat} {y : WishD} (hy : t[k]? = some y) : subT t (l ++ [(k : Int)]) = subT t l ++ [y] := by
 simp [subT, hy]
set_option maxRecDepth 100000 in
theorem topEither_walk (hSan : ∀ w : World, Calls Tryz.prog 5 #[] w fun e w' => e = .returned (.bool true) ∧ Ext w w') (rv : Value) (l : List RawD) (w : World) (h : Raws w rv l) :
  Calls Tryz.prog 4 #[rv] w fun e w' => e = .returned (.bool true) ∧ Ext w w' := by
 have hSan' := hJ hSan
 have hraw := hJ h
 have hok := h.ok
 obtain ⟨T, hTd⟩ : ∃ T, Hid (madeT l = T) := ⟨_, rfl⟩
 have hs : SmallT T := hTd.out ▸ made_smallK hok
 have hv0 : validT T = 0 := hTd.out ▸ made_valid hok
 have hlen4 : T.length ≤ 4 := hTd.out ▸ (made_len (l := l)).2
 have hm : Hid (treeMax T ≤ 65536) := hJ (hTd.out ▸ Nat.le_trans (made_tree hok) (by decide))
 have hv := hJ hv0
 have hs' := hJ hs
 obtain ⟨L, hof0, hL1, hL2⟩ := of_is hs hv0
 obtain ⟨lA, lC, rfl, _⟩ := h.open
 clear h hok hSan
 cases hb0 : standB T with
 | true =>
  have hb := hJ hb0
  obtain rfl := hL1 hb0
  rw [hb0] at hof0
  have hof : Hid (ofT T = ([], false, 0)) := hJ hof0
  clear hof0 hL1 hL2 hb0 hs hv0
  go_enter Tryz.func4, Tryz.ntmps4
  go_wp2_with fail
  refine (hSan'.out _).mono ?_
  rintro e w1 ⟨rfl, hx1⟩
  have hx1' := hJ hx1
  clear hx1 hSan'
  go_wp2_with fail
  refine (made_calls _ l w1 (hraw.out.ext hx1'.out)).mono ?_
  rintro e w2 ⟨tv, rfl, ht, hx2⟩
  rw [hTd.out] at ht
  have hTw := hJ ht.read
  obtain ⟨ta, tc, rfl⟩ := ht.read.form
  have hE := hJ (hx1'.out.trans hx2)
  clear ht hx2 hx1' hraw
  go_wp2_with fail
  have hq := hJ ((Ext.refl w2).alloc (.cells #[.slice ta T.length tc] 28))
  refine (best_calls _ T _ (hTw.out.ext hq.out) (fun _ => hm.out)).mono ?_
  intro e w3 hbo
  obtain ⟨pa, pn, pc, pq, cv, rfl, hx3, hpk⟩ := best_standT hv.out hbo
  rw [hb.out] at hpk
  rw [hb.out]
  have hB3 : Hid (Blk w3 w2.heap.size 28 #[.slice ta T.length tc]) := hJ ((Keep.of_ext (X := fun _ => False) hx3).blk (blk_new' rfl rfl) id)
  have hq3 := hJ (hq.out.trans hx3)
  have hpk' := hJ hpk
  clear hbo hx3 hq hpk
  go_upto_region 4 with (fail)
  refine wp_abs (S := fun W => Hid (Ext w3 W) ∧ Hid (Blk W w2.heap.size 28 #[.slice ta T.length tc]) ∧ Hid (Blk W w3.heap.size 33 #[.slice pa pn pc, .int .i64 pq])) ?_ ?_
  ·exact ⟨hJ (by exact (by with_reducible repeat' (first | exact Ext.refl _ | assumption | refine Ext.drewN ?_ _ | refine Ext.drew ?_ | refine Ext.alloc ?_ _ | refine Ext.trans ?_ (by with_reducible assumption)))), hJ (Blk.alloc hB3.out _), hJ (blk_new' rfl rfl)⟩
  rintro w4 ⟨hx4, hB4, hP4⟩
  have hq4 := hJ (hq3.out.trans hx4.out)
  have c0 : w4.cell? ⟨w2.heap.size, 0, none⟩ = some (.slice ta T.length tc) := hB4.out.cell 0
  have l0 := hB4.out.lt
  clear hB3
  go_wp2_with fail
  refine (of_calls (.slice ta T.length tc) T w4 (hTw.out.ext hq4.out)).mono ?_
  rw [hof.out]
  rintro e w5 ⟨lv, rfl, hlv, hx5⟩
  obtain ⟨la, lc, rfl⟩ := hlv.form
  have hL := hJ hlv
  have hB5 := hJ ((Keep.of_ext (X := fun _ => False) hx5).blk hB4.out id)
  have hP5 := hJ ((Keep.of_ext (X := fun _ => False) hx5).blk hP4.out id)
  have hq5 := hJ (hq4.out.trans hx5)
  have hx45 := hJ (hx4.out.trans hx5)
  have c5 : w5.cell? ⟨w2.heap.size, 0, none⟩ = some (.slice ta T.length tc) := hB5.out.cell 0
  have l5 := hB5.out.lt
  clear hlv hx5 c0 l0 hB4 hP4 hq4 hx4 hq3
  obtain ⟨p, hp0, hlw0⟩ := hpk'.out (by first | rfl | trivial)
  have hlw := hJ hlw0
  have hp := hJ (hp0.ext hx45.out)
  obtain ⟨_, _, ep⟩ := hp0.form
  cases ep
  have p5 : w5.cell? ⟨w3.heap.size, 0, none⟩ = some (.slice pa p.length pc) := hP5.out.cell 0
  have lp5 := hP5.out.lt
  clear hp0 hlw0 hpk' hx45
  go_wp2_with fail
  refine (order_calls _ _ T p w5 (hTw.out.ext hq5.out) hp.out).mono ?_
  rw [orderS_okT hlw.out]
  rintro e w6 ⟨sv, rfl, hst, hx6⟩
  obtain ⟨ol, hol⟩ : ∃ ol, Hid (orderL T p = ol) := ⟨_, rfl⟩
  have hR : Hid (checkS T p ol = 0) := by rw [← hol.out]; exact order_check hlw.out (by omega)
  rw [hol.out] at hst
  have hS6 := hJ hst.read
  obtain ⟨sa, sc, rfl⟩ := hst.read.form
  have hB6 := hJ ((Keep.of_ext (X := fun _ => False) hx6).blk hB5.out id)
  have hP6 := hJ ((Keep.of_ext (X := fun _ => False) hx6).blk hP5.out id)
  have hq6 := hJ (hq5.out.trans hx6)
  have hp6 := hJ (hp.out.ext hx6)
  have c6 : w6.cell? ⟨w2.heap.size, 0, none⟩ = some (.slice ta T.length tc) := hB6.out.cell 0
  have l6 := hB6.out.lt
  have p6 : w6.cell? ⟨w3.heap.size, 0, none⟩ = some (.slice pa p.length pc) := hP6.out.cell 0
  have lp6 := hP6.out.lt
  clear hst hx6 c5 l5 p5 lp5 hol hB5 hP5 hq5 hp
  go_wp2_with fail
  refine (carryCheckFull_calls _ _ _ T p ol _ (hTw.out.ext hq6.out) hp6.out hS6.out).mono ?_
  rw [hR.out]
  rintro e w7 ⟨rfl, hx7⟩
  have hE7 := hJ (hE.out.trans (hq6.out.trans hx7))
  clear hx7
  go_wp2
  go_ret
  exact ⟨rfl, hE7.out⟩
 | false =>
  have hb := hJ hb0
  obtain ⟨hLs, hLc⟩ := mem_allC.1 (hL2 hb0)
  rw [hb0] at hof0
  have hof : Hid (ofT T = (L, true, 0)) := hJ hof0
  have hL0 : L ≠ [] := fun e => by have := hLc.two hs hLs; rw [e] at this; simp at this
  obtain ⟨N1, hN1⟩ : ∃ N1, Hid ((growL (subT T L) 1000000000 (subT T L) [] 0 0).nodes = N1) := ⟨_, rfl⟩
  have hsh1 : Hid (showT T L = (N1, 0)) := hJ (by rw [show_core hs hv0 hLs hL0 hLc.1, hN1.out])
  have hk1 : Hid (∀ n ∈ N1, n.kids.length ≤ 17592186044416) := hJ (hN1.out ▸ fun n hn => by
   have := growL_kids (subT T L) 1000000000 5 (subT T L) (fun x hx => (hs.opts x (subT_mem (up_idx hLs) hx)).2) [] 0 0 n hn
   omega)
  have hce := cert_core hs hv0 hLs hL0 hLc.1
  have hcc1 : Hid (coreCheckT T L N1 = 0) := hJ (by
   rw [hN1.out] at hce
   rw [coreCheck_is hs hv0 hLs hL0, hce, if_pos rfl, if_pos (List.all_eq_true.2 fun k hk => hLc.2 k (List.mem_range.1 hk))])
  have hroom : Hid (ShowRoom T L) := hJ fun _ _ _ => ⟨hs.tree (up_idx hLs) (Nat.le_trans (up_len hLs) hs.len), grow_opens hLc.1 _, grow_ests (subT_valid hv0 hLs hL0)⟩
  have hLi := hJ (up_idx hLs)
  have hLs' := hJ hLs
  have hLc' := hJ hLc
  have hL4 : L.length ≤ 4 := by have := up_len hLs; omega
  obtain ⟨m0, hm0, mz0, mz1, mz2⟩ := info_parts wish_info
  clear hof0 hL1 hL2 hb0 hs hv0 hLs hLc hL0 hce hN1
  go_enter Tryz.func4, Tryz.ntmps4
  go_wp2_with fail
  refine (hSan'.out _).mono ?_
  rintro e w1 ⟨rfl, hx1⟩
  have hx1' := hJ hx1
  clear hx1 hSan'
  go_wp2_with fail
  refine (made_calls _ l w1 (hraw.out.ext hx1'.out)).mono ?_
  rintro e w2 ⟨tv, rfl, ht, hx2⟩
  rw [hTd.out] at ht
  have hTw := hJ ht.read
  obtain ⟨ta, tc, rfl⟩ := ht.read.form
  have hE := hJ (hx1'.out.trans hx2)
  clear ht hx2 hx1' hraw
  go_wp2_with fail
  have hq := hJ ((Ext.refl w2).alloc (.cells #[.slice ta T.length tc] 28))
  refine (best_calls _ T _ (hTw.out.ext hq.out) (fun _ => hm.out)).mono ?_
  intro e w3 hbo
  obtain ⟨pa, pn, pc, pq, cv, rfl, hx3, hpk⟩ := best_standT hv.out hbo
  rw [hb.out] at hpk
  rw [hb.out]
  have hB3 : Hid (Blk w3 w2.heap.size 28 #[.slice ta T.length tc]) := hJ ((Keep.of_ext (X := fun _ => False) hx3).blk (blk_new' rfl rfl) id)
  have hq3 := hJ (hq.out.trans hx3)
  have hpk' := hJ hpk
  clear hbo hx3 hq hpk
  go_upto_region 4 with (fail)
  refine wp_abs (S := fun W => Hid (Ext w3 W) ∧ Hid (Blk W w2.heap.size 28 #[.slice ta T.length tc]) ∧ Hid (Blk W w3.heap.size 33 #[.slice pa pn pc, .int .i64 pq])) ?_ ?_
  ·exact ⟨hJ (by exact (by with_reducible repeat' (first | exact Ext.refl _ | assumption | refine Ext.drewN ?_ _ | refine Ext.drew ?_ | refine Ext.alloc ?_ _ | refine Ext.trans ?_ (by with_reducible assumption)))), hJ (Blk.alloc hB3.out _), hJ (blk_new' rfl rfl)⟩
  rintro w4 ⟨hx4, hB4, hP4⟩
  have hq4 := hJ (hq3.out.trans hx4.out)
  have c0 : w4.cell? ⟨w2.heap.size, 0, none⟩ = some (.slice ta T.length tc) := hB4.out.cell 0
  have l0 := hB4.out.lt
  clear hB3
  go_wp2_with fail
  refine (of_calls (.slice ta T.length tc) T w4 (hTw.out.ext hq4.out)).mono ?_
  rw [hof.out]
  rintro e w5 ⟨lv, rfl, hlv, hx5⟩
  obtain ⟨la, lc, rfl⟩ := hlv.form
  have hL := hJ hlv
  have hB5 := hJ ((Keep.of_ext (X := fun _ => False) hx5).blk hB4.out id)
  have hP5 := hJ ((Keep.of_ext (X := fun _ => False) hx5).blk hP4.out id)
  have hq5 := hJ (hq4.out.trans hx5)
  have hx45 := hJ (hx4.out.trans hx5)
  have c5 : w5.cell? ⟨w2.heap.size, 0, none⟩ = some (.slice ta T.length tc) := hB5.out.cell 0
  have l5 := hB5.out.lt
  clear hlv hx5 c0 l0 hB4 hP4 hq4 hx4 hq3
  clear hpk' hx45 hP5
  go_wp2_with fail
  refine (show_calls (.slice ta T.length tc) (.slice la L.length lc) T L w5 (hTw.out.ext hq5.out) hL.out hroom.out).mono ?_
  rw [hsh1.out]
  rintro e w6 ⟨nv, rfl, hnv, hx6⟩
  obtain ⟨na, nc, rfl, _⟩ := hnv.open
  have hN := hJ hnv
  have hB6 := hJ ((Keep.of_ext (X := fun _ => False) hx6).blk hB5.out id)
  have hq6 := hJ (hq5.out.trans hx6)
  have hL6 := hJ (hL.out.ext hx6)
  have c6 : w6.cell? ⟨w2.heap.size, 0, none⟩ = some (.slice ta T.length tc) := hB6.out.cell 0
  have l6 := hB6.out.lt
  clear hnv hx6 c5 l5 hB5 hq5 hL hsh1 hroom
  go_wp2_with fail
  refine (coreCheck_calls (.slice ta T.length tc) (.slice la L.length lc) (.slice na N1.length nc) T L N1 w6 (hTw.out.ext hq6.out) hL6.out hN.out hk1.out).mono ?_
  rw [hcc1.out]
  rintro e w7 ⟨rfl, hx7⟩
  have hB7 := hJ ((Keep.of_ext (X := fun _ => False) hx7).blk hB6.out id)
  have hL7 := hJ (hL6.out.ext hx7)
  have hT7 := hJ (hTw.out.ext (hq6.out.trans hx7))
  have hE7 := hJ (hE.out.trans (hq6.out.trans hx7))
  clear hx7 c6 l6 hB6 hL6 hq6 hTw hE hN hcc1 hk1 hof
  obtain ⟨_, _, eL, hLn, hLcap, hLat0⟩ := hL7.out.open
  cases eL
  have hLat := hJ hLat0
  obtain ⟨_, _, eT, hTn, hTcap, hTat0⟩ := hT7.out.open
  cases eT
  have hTat := hJ hTat0
  clear hLat0 hTat0
  go_wp2_with fail
  go_loopw [15, 16, 17, 18, 19, 20] (fun vi _ _ _ _ _ wr => ∃ i : Nat, i ≤ L.length ∧ vi = .int .i64 i ∧ Hid (Ext w7 wr)) (fun vi _ _ _ _ _ _ => L.length - (intOf vi).toNat)
  case atStart => exact ⟨0, Nat.zero_le _, rfl, hJ (Ext.refl _)⟩
  case round =>
   obtain ⟨i, hi, rfl, hx⟩ := hrel
   by_cases i1 : i < L.length
   ·go_upto_region 17 with (fail)
    refine wp_abs (S := fun W => Hid (Ext wr W) ∧ Hid (Blk W wr.heap.size 28 #[.slice none 0 0])) ?_ ?_
    ·exact ⟨hJ (by exact (by with_reducible repeat' (first | exact Ext.refl _ | assumption | refine Ext.drewN ?_ _ | refine Ext.drew ?_ | refine Ext.alloc ?_ _ | refine Ext.trans ?_ (by with_reducible assumption)))), hJ (blk_new' (by simp) rfl)⟩
    rintro Wq ⟨hxq, hRq⟩
    go_wp2_with fail
    go_loopw [17] (fun vk wk => ∃ (k n C : Nat) (A : Option Addr) (xs : List Value), k ≤ L.length ∧ n ≤ k ∧ vk = .int .i64 k ∧ Hid (Ext wr wk) ∧ Hid (Blk wk wr.heap.size 28 #[.slice A n C]) ∧ Hid (wk.ownsRow (wr.heap.size + 1) 64 3 (.slice A n C) n xs) ∧ Hid ((subT T ((L.take k).eraseIdx i)).length = n) ∧ Hid (WishesC w7 (subT T ((L.take k).eraseIdx i)) xs)) (fun vk _ => L.length - (intOf vk).toNat)
    case atStart => exact ⟨0, 0, 0, none, [], by omega, by omega, rfl, hxq, hRq, hJ (World.ownsRow_nil _ _ _ _), hJ (by simp [subT]), hJ (by simp [subT]; rfl)⟩
    case round =>
     rename World => wk
     clear hxq hRq
     obtain ⟨k, n, C, A, xs, hk, hnk, rfl, hE, hR, hown, hn, hW⟩ := hrel
     have hxk := hJ (hx.out.trans hE.out)
     have hBk := hJ ((Keep.of_ext (X := fun _ => False) hxk.out).blk hB7.out id)
     have t0 : wk.cell? ⟨w2.heap.size, 0, none⟩ = some (.slice ta T.length tc) := hBk.out.cell 0
     have tl := hBk.out.lt
     by_cases k1 : k < L.length
     ·obtain ⟨b1, o1, x, rfl, hb1, _, ex, g1⟩ := hLat.out k k1 wk hxk.out
      obtain ⟨m, rfl, hmT⟩ := idxB_nat (hLi.out x (List.mem_of_getElem? ex.out))
      have z0 := After.cell g1
      have z1 := After.cell t0
      have ex' := hJ ex.out
      have g1' := hJ g1
      have hmT' := hJ hmT
      have d9 : ¬ T.length ≤ m := by omega
      have d8 : decide ((T.length : Int) ≤ (m : Int)) = false := decide_eq_false (by omega)
      have d7 : decide ((m : Int) < 0) = false := decide_eq_false (by omega)
      clear t0 g1 ex
      go_upto_region 20 with (fail)
      refine wp_region_after (by kernel_rfl) (by kernel_rfl) ?_
      repeat (go_big_quiet_step (fail))
      refine wpQuiet_nil ?_
      rintro _ ⟨u, rfl⟩
      have hu := hJ u.ext
      generalize u.world = V at hu ⊢
      clear z0 z1
      have hEV := hJ (hE.out.trans hu.out)
      have hxV := hJ (hx.out.trans hEV.out)
      have kv := Keep.of_ext (X := fun _ => False) hu.out
      have hRV := hJ (kv.blk hR.out id)
      have hownV := hJ (owns_ext hown.out hu.out)
      clear kv d7 d8 d9
      by_cases hki : k = i
      ·have dne : ((k : Int) != (i : Int)) = false := by simp [hki]
       have hn2 : Hid ((subT T ((L.take (k + 1)).eraseIdx i)).length = n) := hJ (by rw [show (L.take (k + 1)).eraseIdx i = (L.take k).eraseIdx i by rw [hki, erase_at]]; exact hn.out)
       have hW2 : Hid (WishesC w7 (subT T ((L.take (k + 1)).eraseIdx i)) xs) := hJ (by rw [show (L.take (k + 1)).eraseIdx i = (L.take k).eraseIdx i by rw [hki, erase_at]]; exact hW.out)
       clear hki hn hW hE hR hown hu
       go_wp2
       go_roundw
       case rel => first | exact ⟨k + 1, n, C, A, xs, k1, by omega, by go_num, hEV, hRV, hownV, hn2, hW2⟩ | ((repeat apply Exists.intro); exact ⟨⟨k + 1, n, C, A, xs, k1, by omega, by go_num, hEV, hRV, hownV, hn2, hW2⟩, rfl⟩)
       case measure => simp [intOf]; omega
      ·have dne : ((k : Int) != (i : Int)) = true := by simp; omega
       obtain ⟨b2, o2, y, ya, yc, oa, oc, rfl, hb2, _, ey, q1, q2, q3, gp, go⟩ := hTat.out m hmT w7 (Ext.refl _)
       have hnext : Hid (subT T ((L.take (k + 1)).eraseIdx i) = subT T ((L.take k).eraseIdx i) ++ [y]) := hJ (by rw [erase_push ex'.out hki]; exact subT_snoc ey.out)
       have hn2 : Hid ((subT T ((L.take (k + 1)).eraseIdx i)).length = n + 1) := hJ (by rw [hnext.out, List.length_append, hn.out]; rfl)
       have hW2 : Hid (WishesC w7 (subT T ((L.take (k + 1)).eraseIdx i)) (xs ++ [.int .i64 y.meeting, .slice ya y.people.length yc, .slice oa y.opts.length oc])) := hJ (by rw [hnext.out]; exact WishesC.snoc ⟨gp, go⟩ hW.out)
       have hBV := hJ ((Keep.of_ext (X := fun _ => False) hxV.out).blk hB7.out id)
       have z0 := After.cell (hu.out.cell g1'.out)
       have z1 := After.cell (hxV.out.cell q1)
       have z2 := After.cell (hxV.out.cell q2)
       have z3 := After.cell (hxV.out.cell q3)
       have z4 := After.cell (show V.cell? ⟨w2.heap.size, 0, none⟩ = some (.slice (some ⟨b2, o2, none⟩) T.length tc) from hBV.out.cell 0)
       have z5 := After.cell (show V.cell? ⟨wr.heap.size, 0, none⟩ = some (.slice A n C) from hRV.out.cell 0)
       clear hki q1 q2 q3 gp go ey ex' hnext hW hn g1' hE hR hown hu hBk hb2 hb1
       go_upto_region 23 with (fail)
       (refine wp_region_held [] [0, 1, 2, 3, 4, 5, 6, 7, 8, 9, 10] [11, 12, 13] (fun _ _ _ => True) (by kernel_rfl) (by kernel_rfl) ?_; simp only [pickL]; with_reducible refine wpQuiet_nil ?_)
       (refine held_quiet [0, 1, 2, 3, 4, 5, 6, 7, 8, 9] [10] (by kernel_rfl) (by kernel_rfl) ?_; simp only [pickL, List.drop]; (repeat (go_big_quiet_step (fail))); with_reducible refine wpQuiet_nil ?_)
       (refine held_made 10 [] rfl (by kernel_rfl) (fun g => .slice (some ⟨g, 0, none⟩) 1 1) (.cells #[.int .i64 y.meeting, .slice ya y.people.length yc, .slice oa y.opts.length oc] 64) (fun W => by kernel_rfl) (fun g g2 e => by cases e; rfl) (fun g => rfl) ?_)
       intro gs
       simp only [Act.put, putA, putB, putC]
       intro U hxv hfc ht Q0 hQ0
       have h7 := (hfc 10).2 rfl
       have b7 : Blk U gs 64 #[.int .i64 y.meeting, .slice ya y.people.length yc, .slice oa y.opts.length oc] := h7.1
       have hsrc := hJ (reads_blkW (size := 3) (m := 1) b7 rfl)
       have hownU := hJ (owns_ext hownV.out hxv)
       have hEU := hJ (hEV.out.trans hxv)
       have ku := Keep.of_ext (X := fun _ => False) hxv
       have hRU := hJ (ku.blk hRV.out id)
       have hsz : wr.heap.size + 1 ≤ U.heap.size := hRU.out.lt
       simp only [pickL, List.drop]
       clear hfc ht h7 b7 z0 z1 z2 z3 z4 z5 hownV hEV ku hRV hxv hBV hxV
       go_wp2_with (at_builtin; refine wpList_append_any _ rfl (.tmp 122) (.tmp 131) _ rfl (wr.heap.size + 1) 64 m0 _ 3 56 Tryz.underlying26 hm0 mz0 mz1 mz2 rfl (by decide) (.slice A n C) n _ rfl hownU.out U.heap.size (some ⟨gs, 0, none⟩) 1 1 _ rfl hsrc.out (wish_cells _ _ _ rfl rfl) (by unfold maxLen; omega) (by omega) hsz ?_; intro v5 w9 hown5 hg5 hat5; obtain ⟨A5, C5, rfl⟩ := owns_form hown5; have hOb5 : Blk w9 wr.heap.size 28 #[.slice A n C] := hRU.out.grown hg5 (fun e => by have := (hownU.out.lt _ e.symm).1; omega); have m5 : w9.cell? ⟨wr.heap.size, 0, none⟩ = some (.slice A n C) := hOb5.cell 0; have f5 := hOb5.frozen 0; have lt5 := hOb5.lt)
       have hE5 := hEU.out.grown hg5 (fun k e => by have := (hownU.out.lt _ e).1; omega)
       have hO5 := hJ (hOb5.set_ 0 (.slice A5 (n + 1) C5))
       have k5 := keep_set w9 wr.heap.size 0 (.slice A5 (n + 1) C5)
       have o5 := hJ (k5.owns hown5 (fun g e h => by have := (hown5.lt _ e).1; omega))
       have hE6 := hJ (hE5.setCell (p := ⟨wr.heap.size, 0, none⟩) (Nat.le_refl _) (.slice A5 (n + 1) C5))
       clear hown5 hg5 hat5 hOb5 k5 hE5 hEU hRU hownU hsrc
       first
       | (go_roundw; case rel => first | exact ⟨k + 1, n + 1, C5, A5, _, k1, by omega, by go_num, hE6, hO5, o5, hn2, hW2⟩ | ((repeat apply Exists.intro); exact ⟨⟨k + 1, n + 1, C5, A5, _, k1, by omega, by go_num, hE6, hO5, o5, hn2, hW2⟩, rfl⟩)
          case measure => simp [intOf]; omega)
       | (refine ⟨⟨k + 1, n + 1, C5, A5, _, k1, by omega, by go_num, hE6, hO5, o5, hn2, hW2⟩, ?_⟩; simp [intOf]; omega)
     ·obtain rfl : k = L.length := by omega
      obtain ⟨s, hs9⟩ : ∃ s, Hid (subT T (L.eraseIdx i) = s) := ⟨_, rfl⟩
      have hn2 : Hid (s.length = n) := hJ (by have := hn.out; rwa [List.take_length, hs9.out] at this)
      have hW2 : Hid (WishesC w7 s xs) := hJ (by have := hW.out; rwa [List.take_length, hs9.out] at this)
      have r0 : wk.cell? ⟨wr.heap.size, 0, none⟩ = some (.slice A n C) := hR.out.cell 0
      have rl := hR.out.lt
      have hstand : Hid (standB s = true) := hJ (by rw [← hs9.out]; exact hLc'.out.2 i i1)
      clear hn hW k1 hk t0 tl hBk
      by_cases h0 : n = 0
      ·have dz : ((n : Int) == 0) = true := by simp [h0]
       clear h0
       go_wp2
       go_roundw
       case rel => first | exact ⟨i + 1, i1, by go_num, hxk⟩ | ((repeat apply Exists.intro); exact ⟨⟨i + 1, i1, by go_num, hxk⟩, rfl⟩)
       case measure => simp [intOf]; omega
      ·have dz : ((n : Int) == 0) = false := by rw [beq_eq_false_iff_ne]; omega
       have hsub : L.eraseIdx i <+ upI T.length := (List.eraseIdx_sublist L i).trans hLs'.out
       have hvs : Hid (validT s = 0) := hJ (by
        rw [← hs9.out]
        refine subT_valid hv.out hsub fun e => h0 ?_
        rw [← hn2.out, ← hs9.out, e]
        rfl)
       have hms : Hid (treeMax s ≤ 65536) := hJ (by rw [← hs9.out]; exact hs'.out.tree (up_idx hsub) (Nat.le_trans (up_len hsub) hs'.out.len))
       have hWs : Hid (Wishes wk (.slice A n C) s) := hJ (wishes_of_rowK (by rw [hn2.out]; exact hown.out) (hW2.out.ext hxk.out))
       clear h0 hs9 hsub hown hW2
       go_wp2_with fail
       refine (best_calls _ s wk hWs.out (fun _ => hms.out)).mono ?_
       intro e wb hbo
       obtain ⟨xa, xn, xc, xq, xv, rfl, hxb, hpk⟩ := best_standT hvs.out hbo
       rw [hstand.out] at hpk
       rw [hstand.out]
       obtain ⟨p2, hp2, hlw2⟩ := hpk rfl
       have hlw := hJ hlw2
       obtain ⟨_, _, ep⟩ := hp2.form
       cases ep
       have hRb := hJ ((Keep.of_ext (X := fun _ => False) hxb).blk hR.out id)
       have hxb' := hJ hxb
       have hp2' := hJ hp2
       clear hbo hxb hpk hp2 hlw2 r0 rl hR
       go_upto_region 26 with (fail)
       refine wp_abs (S := fun W => Hid (Ext wb W) ∧ Hid (Blk W wr.heap.size 28 #[.slice A n C]) ∧ Hid (Blk W wb.heap.size 33 #[.slice xa p2.length xc, .int .i64 xq])) ?_ ?_
       ·exact ⟨hJ (by exact (by with_reducible repeat' (first | exact Ext.refl _ | assumption | refine Ext.drewN ?_ _ | refine Ext.drew ?_ | refine Ext.alloc ?_ _ | refine Ext.trans ?_ (by with_reducible assumption)))), hJ (Blk.alloc hRb.out _), hJ (blk_new' rfl rfl)⟩
       rintro Wc ⟨hxc, hRc, hPc⟩
       have r0 : Wc.cell? ⟨wr.heap.size, 0, none⟩ = some (.slice A n C) := hRc.out.cell 0
       have rl := hRc.out.lt
       have s0 : Wc.cell? ⟨wb.heap.size, 0, none⟩ = some (.slice xa p2.length xc) := hPc.out.cell 0
       have sl := hPc.out.lt
       have hWc := hJ (hWs.out.ext (hxb'.out.trans hxc.out))
       have hpc := hJ (hp2'.out.ext hxc.out)
       have hxd := hJ (hxk.out.trans (hxb'.out.trans hxc.out))
       clear hRb hxb' hp2' hxc hRc hPc
       go_wp2_with fail
       refine (lawful_calls _ _ s p2 Wc hWc.out hpc.out).mono ?_
       rw [hlw.out]
       rintro e Wd ⟨rfl, hxe⟩
       have hxf := hJ (hxd.out.trans hxe)
       clear hxe r0 rl s0 sl
       go_wp2
       go_roundw
       case rel => first | exact ⟨i + 1, i1, by go_num, hxf⟩ | ((repeat apply Exists.intro); exact ⟨⟨i + 1, i1, by go_num, hxf⟩, rfl⟩)
       case measure => simp [intOf]; omega
   ·have hE9 := hJ (hE7.out.trans hx.out)
    go_wp2
    go_ret
    exact ⟨rfl, hE9.out⟩
end Go.Proofs.YtgolicoalldidaaGreat
