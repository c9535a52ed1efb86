/- The law CarryFewSteps, walked. -/
import Derived.Test.YtkicielleiafgaaCT
namespace Go.Proofs.Ytkicielleiafgaa
open Go.RowKit

def dirRow (t : List WishD) (pick : List Int) (i k : Nat) : Bool := (List.range k).all fun k => !clashT t i (atI pick i) k 0
def dirTo (t : List WishD) (pick : List Int) (i : Nat) : Bool := (List.range i).all fun i => dirRow t pick i pick.length
theorem dirRow_step (t : List WishD) (pick : List Int) (i k : Nat) : dirRow t pick i (k + 1) = (dirRow t pick i k && !clashT t i (atI pick i) k 0) := by simp [dirRow, List.range_succ]
theorem dirTo_step (t : List WishD) (pick : List Int) (i : Nat) : dirTo t pick (i + 1) = (dirTo t pick i && dirRow t pick i pick.length) := by simp [dirTo, List.range_succ]
theorem parkedS_ok {t : List WishD} {p : List Int} (h : lawfulB t p = true) (h512 : t.length ≤ 512) : parkedS t (orderL t p) = ((mostTo t (orderL t p) ((orderL t p).length + 1) : Int), 0) := by
  unfold parkedS
  rw [if_pos (order_steps h h512)]
/-- what the law asks at its end -/
structure Few (pick : List Int) (n pk : Nat) (dir : Bool) : Prop where
  park : pk ≤ chg pick
  len : n ≤ 2 * chg pick
  zero : dir = true → pk = 0
  same : dir = true → n = chg pick

set_option maxHeartbeats 1600000 in
set_option maxRecDepth 100000 in
theorem carryFewSteps_calls (rv : Value) (l : List RawD) (xv : Value) (x : List Int) (w : World) (h : Raws w rv l) (hx : Bytes w xv x) :
    Calls Try.prog 4 #[rv, xv] w fun e w' => e = .returned (.bool true) ∧ Ext w w' := by
  have hraw := Lib.hid h
  have hbyt := Lib.hid hx
  have hok := Lib.hid h.ok
  clear h hx
  go_enter Try.func4, Try.ntmps4
  go_wp2_with fail
  refine (sanity35_calls _).mono ?_
  rintro e w1 ⟨rfl, hx1⟩
  have hx1' := Lib.hid hx1
  clear hx1
  go_wp2_with fail
  refine (made_calls rv l w1 (hraw.out.ext hx1'.out)).mono ?_
  rintro e w2 ⟨tv, rfl, ht, hx2⟩
  obtain ⟨t, ht0⟩ : ∃ t, Hid (madeT l = t) := ⟨_, rfl⟩
  have hv : Hid (validT t = 0) := by rw [← ht0.out]; exact made_valid hok.out
  have ho : Hid (∀ x ∈ t, 0 < x.opts.length) := by rw [← ht0.out]; exact fun x hx => (made_opts hok.out hx).1
  have hlen : t.length ≤ 4 := by rw [← ht0.out]; exact made_len.2
  have hl0 : 0 < t.length := by rw [← ht0.out]; exact made_len.1
  rw [ht0.out] at ht
  clear ht0
  have ht' := Lib.hid ht.read
  obtain ⟨ta, tc, rfl⟩ := ht.read.form
  have hx2' := Lib.hid (hx1'.out.trans hx2)
  clear ht hx2
  go_wp2_with fail
  have hq := Lib.hid ((Ext.refl w2).alloc (.cells #[.slice ta t.length tc] 27))
  refine (lawful35_calls _ xv t x _ (ht'.out.ext hq.out) (hbyt.out.ext (hx2'.out.trans hq.out)) hv.out ho.out hl0 (by omega)).mono ?_
  rintro e w3 ⟨kv, pick, hk, hx3, hor⟩
  have hk3 := Lib.hid hk
  obtain ⟨ka, kc, rfl⟩ := hk.form
  have tb3 : w3.cell? ⟨w2.heap.size, 0, none⟩ = some (.slice ta t.length tc) := hx3.cell (by simp)
  have hb3 := World.block_lt_of_cell? _ _ tb3
  have ht3 := Lib.hid (ht'.out.ext (hq.out.trans hx3))
  have hw3 := Lib.hid (hx2'.out.trans (hq.out.trans hx3))
  have hby3 := Lib.hid (hbyt.out.ext hw3.out)
  clear hk hx3 hq ht' hx2' hbyt hx1'
  revert tb3 hb3
  generalize w2.heap.size = bt
  intro tb3 hb3
  rcases hor with ⟨rfl, hlw⟩ | ⟨rfl, hno⟩
  · have hlw' := Lib.hid hlw
    have hpl' : Hid (pick.length = t.length) := lawful_len hlw
    clear hlw
    go_wp2_with fail
    refine (order_calls _ _ t pick _ ht3.out hk3.out).mono ?_
    rw [orderS_ok hlw'.out]
    rintro e w4 ⟨sv, rfl, hs, hx4⟩
    obtain ⟨ol, hol⟩ : ∃ ol, Hid (orderL t pick = ol) := ⟨_, rfl⟩
    have hP : Hid (∃ pk : Nat, parkedS t ol = ((pk : Int), 0) ∧ Few pick ol.length pk (dirTo t pick pick.length)) := by
      refine ⟨mostTo t ol (ol.length + 1), ?_, ?_, ?_, ?_, ?_⟩
      · rw [← hol.out]; exact parkedS_ok hlw'.out (by omega)
      · rw [← hol.out]; exact order_parked hlw'.out _
      · rw [← hol.out]; exact order_len hlw'.out
      · rw [← hol.out]; exact fun h => direct_parked hlw'.out h _
      · rw [← hol.out]; exact fun h => direct_len hlw'.out h
    have hM : Hid (∀ i, i < pick.length → (atI pick i = 0 → (movesOf ol i).length = 0) ∧ (atI pick i ≠ 0 → 1 ≤ (movesOf ol i).length ∧ (movesOf ol i).length ≤ 2)) := by
      rw [← hol.out]; exact fun i hi => order_moves hlw'.out hi
    rw [hol.out] at hs
    have hs4 := Lib.hid hs.read
    obtain ⟨sa, sc, rfl⟩ := hs.read.form
    have tb4 := hx4.cell tb3
    have ht4 := Lib.hid (ht3.out.ext hx4)
    have hk4 := Lib.hid (hk3.out.ext hx4)
    have hw4 := Lib.hid (hw3.out.trans hx4)
    clear hs hx4 tb3 ht3 hk3 hw3 hb3 hol
    obtain ⟨pk, hpk, hfew⟩ := hP.out
    have hfew' := Lib.hid hfew
    have hpk' := Lib.hid hpk
    clear hP hfew hpk
    go_wp2_with fail
    refine (parked_calls _ _ t ol _ ht4.out hs4.out).mono ?_
    rw [hpk'.out]
    rintro e w5 ⟨rfl, hx5⟩
    have tb5 := hx5.cell tb4
    have hb5 := World.block_lt_of_cell? _ _ tb5
    have ht5 := Lib.hid (ht4.out.ext hx5)
    have hw5 := Lib.hid (hw4.out.trans hx5)
    obtain ⟨_, _, e1, hkn, _, kat⟩ := (hk4.out.ext hx5).open
    cases e1
    obtain ⟨_, _, e2, hsn, hsm, sat⟩ := (hs4.out.ext hx5).open
    cases e2
    have kat' := Lib.hid kat
    have sat' := Lib.hid sat
    have hpl4 : pick.length ≤ 4 := by rw [hpl'.out]; exact hlen
    have hon : ol.length ≤ 9223372036854775807 := by omega
    clear kat sat hx5 tb4 ht4 hk4 hw4 hs4 hkn hsn hsm hpk'
    go_wp2_with fail
    go_loopw [13, 14, 15, 16, 17, 18] (fun v13 v14 v15 _ _ _ wr => ∃ (i : Nat) (b : Bool), i ≤ pick.length ∧ v15 = .int .i64 i ∧ v13 = .int .i64 (chg (pick.take i) : Nat) ∧ v14 = .bool b ∧ Hid (Ext w5 wr) ∧ Hid (dirTo t pick i = b)) (fun _ _ vi _ _ _ _ => pick.length - (intOf vi).toNat)
    case atStart => exact ⟨0, true, by omega, rfl, by simp [chg], rfl, Lib.hid (Ext.refl _), Lib.hid rfl⟩
    case round =>
      obtain ⟨i, b, hi, rfl, rfl, rfl, hxo, hD⟩ := hrel
      by_cases h1 : i < pick.length
      · obtain ⟨b1, o1, p, rfl, hb1, _, ep, g0⟩ := kat'.out i h1 wr hxo.out
        have hMi := Lib.hid (hM.out i h1)
        rw [show atI pick i = p from atI_some ep.out] at hMi
        have hchg := Lib.hid (chg_step ep.out)
        obtain ⟨cn, hcn⟩ : ∃ cn : Nat, Hid (chg (pick.take i) = cn) := ⟨_, rfl⟩
        rw [hcn.out] at hchg ⊢
        have hcb : cn ≤ 4 := by
          have := chg_le (pick.take i)
          rw [hcn.out, List.length_take] at this
          omega
        clear hcn
        obtain ⟨wA, hwA⟩ : ∃ wA : World, Hid (wr = wA) := ⟨_, rfl⟩
        rw [hwA.out] at hxo g0 hb1
        rw [hwA.out]
        clear hwA
        go_wp2_with fail
        go_loopw [16, 17] (fun v16 v17 wr => ∃ (k n : Nat), k ≤ ol.length ∧ v17 = .int .i64 k ∧ v16 = .int .i64 n ∧ n ≤ k ∧ Hid (Ext wA wr) ∧ Hid ((movesOf (ol.take k) i).length = n)) (fun _ vk _ => ol.length - (intOf vk).toNat)
        case atStart => exact ⟨0, 0, by omega, rfl, rfl, by omega, Lib.hid (Ext.refl _), Lib.hid rfl⟩
        case round =>
          obtain ⟨k, n, hk, rfl, rfl, hnk, hx, hN⟩ := hrel
          by_cases h2 : k < ol.length
          · obtain ⟨b2, o2, s1, s2, rfl, hb2, _, es, g1, g2⟩ := sat'.out k h2 wr (hxo.out.trans hx.out)
            have hstep := Lib.hid (movesOf_step (i := i) es.out)
            rw [hN.out] at hstep
            clear es
            by_cases hs : s1 = (i : Int)
            · have d1 : (s1 == (i : Int)) = true := by simp [hs]
              have hN' : Hid ((movesOf (ol.take (k + 1)) i).length = n + 1) := by show _ = _; rw [hstep.out, if_pos hs]
              clear hs hstep hN
              go_wp2
              go_roundw
              case rel => exact ⟨k + 1, n + 1, by omega, by go_num, by go_num, by omega, hx, hN'⟩
              case measure => simp [intOf]; omega
            · have d1 : (s1 == (i : Int)) = false := by simp [hs]
              have hN' : Hid ((movesOf (ol.take (k + 1)) i).length = n) := by show _ = _; rw [hstep.out, if_neg hs]; rfl
              clear hs hstep hN
              go_wp2
              go_roundw
              case rel => exact ⟨k + 1, n, by omega, by go_num, rfl, by omega, hx, hN'⟩
              case measure => simp [intOf]; omega
          · have hNn : (movesOf ol i).length = n := by
              have := hN.out
              rwa [List.take_of_length_le (by omega)] at this
            rw [hNn] at hMi
            have gp := hx.out.cell g0
            have hxB := Lib.hid (hxo.out.trans hx.out)
            obtain ⟨wB, hwB⟩ : ∃ wB : World, Hid (wr = wB) := ⟨_, rfl⟩
            rw [hwB.out] at hxB gp
            rw [hwB.out]
            clear hwB hxo hx g0 hb1 hN hNn
            have tbB := hxB.out.cell tb5
            by_cases hp : p = 0
            · have hchg' : chg (pick.take (i + 1)) = cn := by rw [hchg.out, if_pos hp]; rfl
              have d0 : (p == 0) = true := by simp [hp]
              have d1 : (p != 0) = false := by simp [hp]
              obtain rfl : n = 0 := hMi.out.1 hp
              clear hp hMi hchg
              go_wp2_with fail
              go_loopw [14, 18] (fun v14 v18 wr => ∃ (k : Nat) (q : Bool), k ≤ pick.length ∧ v18 = .int .i64 k ∧ v14 = .bool q ∧ Hid (Ext wB wr) ∧ Hid ((b && dirRow t pick i k) = q)) (fun _ vk _ => pick.length - (intOf vk).toNat)
              case atStart => exact ⟨0, b, by omega, rfl, rfl, Lib.hid (Ext.refl _), Lib.hid (by simp [dirRow])⟩
              case round =>
                obtain ⟨k, q, hk, rfl, rfl, hx, hQ⟩ := hrel
                by_cases h3 : k < pick.length
                · have c0 := hx.out.cell tbB
                  have c1 := hx.out.cell gp
                  have z0 := After.cell c0
                  have z1 := After.cell c1
                  clear c0 c1
                  have hQ2 : Hid ((b && dirRow t pick i (k + 1)) = (q && !clashT t i p k 0)) := by
                    show _ = _
                    rw [dirRow_step, ← hQ.out, Bool.and_assoc, show atI pick i = p from atI_some ep.out]
                  obtain ⟨z, hz⟩ : ∃ z, Hid (clashT t i p k 0 = z) := ⟨_, rfl⟩
                  rw [hz.out] at hQ2
                  have hC : Hid (∀ X, Ext wr X → Calls Try.prog 20 #[.agg #[.slice ta t.length tc], .int .i64 i, .int .i64 p, .int .i64 k, .int .i64 0] X fun e w' => e = .returned (.bool z) ∧ Ext X w') := fun X hX => by
                    have := clashP_calls (.slice ta t.length tc) t i p k 0 X (ht5.out.ext (hxB.out.trans (hx.out.trans hX)))
                    rwa [hz.out] at this
                  clear hQ hz
                  cases q with
                  | false =>
                    clear hC
                    go_wp2_with fail
                    refine wp_region_after (by kernel_rfl) (by kernel_rfl) ?_
                    repeat (go_big_quiet_step (fail))
                    refine wpQuiet_nil ?_
                    rintro _ ⟨y, rfl⟩
                    have hy := Lib.hid (hx.out.trans y.ext)
                    generalize y.world = W at hy ⊢
                    clear z0 z1 hx
                    go_wp2
                    go_roundw
                    case rel => exact ⟨k + 1, false, by omega, by go_num, rfl, hy, hQ2⟩
                    case measure => simp [intOf]; omega
                  | true =>
                    go_wp2_with fail
                    refine wp_region_after (by kernel_rfl) (by kernel_rfl) ?_
                    repeat (go_big_quiet_step (exact After.call _ (hC.out _ (After.ext _))))
                    refine wpQuiet_nil ?_
                    rintro _ ⟨y, rfl⟩
                    have hy := Lib.hid (hx.out.trans y.ext)
                    generalize y.world = W at hy ⊢
                    clear z0 z1 hx hC
                    go_wp2
                    go_roundw
                    case rel => exact ⟨k + 1, !z, by omega, by go_num, by first | rfl | simp, hy, hQ2⟩
                    case measure => simp [intOf]; omega
                · have hD' : Hid (dirTo t pick (i + 1) = q) := by
                    show _ = _
                    rw [dirTo_step, hD.out, ← hQ.out, show k = pick.length by omega]
                  have hE := Lib.hid (hxB.out.trans hx.out)
                  clear hQ hx hD hxB gp tbB
                  go_wp2
                  go_roundw
                  case rel => exact ⟨i + 1, q, by omega, by go_num, by rw [hchg']; try first | rfl | go_num, rfl, hE, hD'⟩
                  case measure => simp [intOf]; omega
            · have hchg' : chg (pick.take (i + 1)) = cn + 1 := by rw [hchg.out, if_neg hp]
              have d0 : (p == 0) = false := by simp [hp]
              have d1 : (p != 0) = true := by simp [hp]
              have d2 : decide ((n : Int) < 1) = false := by have := (hMi.out.2 hp).1; simp; omega
              have d3 : decide (2 < (n : Int)) = false := by have := (hMi.out.2 hp).2; simp; omega
              clear hp hMi hchg
              go_wp2_with fail
              go_loopw [14, 18] (fun v14 v18 wr => ∃ (k : Nat) (q : Bool), k ≤ pick.length ∧ v18 = .int .i64 k ∧ v14 = .bool q ∧ Hid (Ext wB wr) ∧ Hid ((b && dirRow t pick i k) = q)) (fun _ vk _ => pick.length - (intOf vk).toNat)
              case atStart => exact ⟨0, b, by omega, rfl, rfl, Lib.hid (Ext.refl _), Lib.hid (by simp [dirRow])⟩
              case round =>
                obtain ⟨k, q, hk, rfl, rfl, hx, hQ⟩ := hrel
                by_cases h3 : k < pick.length
                · have c0 := hx.out.cell tbB
                  have c1 := hx.out.cell gp
                  have z0 := After.cell c0
                  have z1 := After.cell c1
                  clear c0 c1
                  have hQ2 : Hid ((b && dirRow t pick i (k + 1)) = (q && !clashT t i p k 0)) := by
                    show _ = _
                    rw [dirRow_step, ← hQ.out, Bool.and_assoc, show atI pick i = p from atI_some ep.out]
                  obtain ⟨z, hz⟩ : ∃ z, Hid (clashT t i p k 0 = z) := ⟨_, rfl⟩
                  rw [hz.out] at hQ2
                  have hC : Hid (∀ X, Ext wr X → Calls Try.prog 20 #[.agg #[.slice ta t.length tc], .int .i64 i, .int .i64 p, .int .i64 k, .int .i64 0] X fun e w' => e = .returned (.bool z) ∧ Ext X w') := fun X hX => by
                    have := clashP_calls (.slice ta t.length tc) t i p k 0 X (ht5.out.ext (hxB.out.trans (hx.out.trans hX)))
                    rwa [hz.out] at this
                  clear hQ hz
                  cases q with
                  | false =>
                    clear hC
                    go_wp2_with fail
                    refine wp_region_after (by kernel_rfl) (by kernel_rfl) ?_
                    repeat (go_big_quiet_step (fail))
                    refine wpQuiet_nil ?_
                    rintro _ ⟨y, rfl⟩
                    have hy := Lib.hid (hx.out.trans y.ext)
                    generalize y.world = W at hy ⊢
                    clear z0 z1 hx
                    go_wp2
                    go_roundw
                    case rel => exact ⟨k + 1, false, by omega, by go_num, rfl, hy, hQ2⟩
                    case measure => simp [intOf]; omega
                  | true =>
                    go_wp2_with fail
                    refine wp_region_after (by kernel_rfl) (by kernel_rfl) ?_
                    repeat (go_big_quiet_step (exact After.call _ (hC.out _ (After.ext _))))
                    refine wpQuiet_nil ?_
                    rintro _ ⟨y, rfl⟩
                    have hy := Lib.hid (hx.out.trans y.ext)
                    generalize y.world = W at hy ⊢
                    clear z0 z1 hx hC
                    go_wp2
                    go_roundw
                    case rel => exact ⟨k + 1, !z, by omega, by go_num, by first | rfl | simp, hy, hQ2⟩
                    case measure => simp [intOf]; omega
                · have hD' : Hid (dirTo t pick (i + 1) = q) := by
                    show _ = _
                    rw [dirTo_step, hD.out, ← hQ.out, show k = pick.length by omega]
                  have hE := Lib.hid (hxB.out.trans hx.out)
                  clear hQ hx hD hxB gp tbB
                  go_wp2
                  go_roundw
                  case rel => exact ⟨i + 1, q, by omega, by go_num, by rw [hchg']; try first | rfl | go_num, rfl, hE, hD'⟩
                  case measure => simp [intOf]; omega
      · have hib : i = pick.length := by omega
        obtain ⟨c, hc⟩ : ∃ c, Hid (chg pick = c) := ⟨_, rfl⟩
        have hci : chg (pick.take i) = c := by rw [List.take_of_length_le (by omega), hc.out]
        rw [hci]
        have hcb : c ≤ 4 := by have := chg_le pick; rw [hc.out] at this; omega
        have hf := hfew'.out
        rw [← hib, hD.out] at hf
        have p1 := hf.park
        have p2 := hf.len
        have p3 := hf.zero
        have p4 := hf.same
        rw [hc.out] at p1 p2 p4
        clear hci hf hib hi
        cases b with
        | true =>
          obtain rfl : pk = 0 := p3 rfl
          obtain rfl : ol.length = c := p4 rfl
          clear p1 p2 p3 p4
          have q2 : ol.length ≤ ol.length + ol.length := by omega
          go_wp2
          go_ret
          exact ⟨rfl, hw5.out.trans hxo.out⟩
        | false =>
          have q2 : ol.length ≤ c + c := by omega
          clear p2 p3 p4
          go_wp2
          go_ret
          exact ⟨rfl, hw5.out.trans hxo.out⟩
  · go_wp2
    go_ret
    exact ⟨rfl, hw3.out⟩
end Go.Proofs.Ytkicielleiafgaa
