/- The law PlanSymmetry, walked. -/
import Derived.Test.YtkicielleiafgaaSYB
import Derived.Test.YtkicielleiafgaaYE
import Derived.Test.YtkicielleiafgaaRO
import Derived.Test.YtkicielleiafgaaSanLaw
import Derived.Test.YtkicielleiafgaaHE
namespace Go.Proofs.Ytkicielleiafgaa
open Go.RowKit

def MeetCon (n : Nat) (k : Nat) (v : Value) (_ : World) : Prop := k = 20 → ∃ A C, v = .tuple #[.slice A n C, .int .i64 0]
set_option maxHeartbeats 6400000 in
set_option maxRecDepth 100000 in
theorem planSymmetry_calls (rv : Value) (l : List RawD) (xv : Value) (x : Oct) (d : Int) (hd0 : -2147483648 ≤ d) (hd1 : d ≤ 2147483647) (w : World) (h : Raws w rv l) (hx : OctV w xv x) :
    Calls Try.prog 12 #[rv, xv, .int .i32 d] w fun e w' => e = .returned (.bool true) ∧ Ext w w' := by
  obtain ⟨rfl, hxo⟩ := hx
  obtain ⟨a, b, c, e⟩ := x
  obtain ⟨⟨ha0, ha1⟩, ⟨hb0, hb1⟩, ⟨hc0, hc1⟩, ⟨he0, he1⟩⟩ := hxo
  dsimp only at ha0 ha1 hb0 hb1 hc0 hc1 he0 he1 ⊢
  have hraw := Lib.hid h
  have hok := Lib.hid h.ok
  obtain ⟨j0, hj0, jz0, jz1, jz2⟩ := info_parts span_info
  obtain ⟨k0, hk0, kz0, kz1, kz2⟩ := info_parts option_info
  obtain ⟨m0, hm0, mz0, mz1, mz2⟩ := info_parts wish_info
  clear h
  go_enter Try.func12, Try.ntmps12
  go_upto_region 1 with (fail)
  refine wp_abs (S := fun W => Hid (Ext w W) ∧ Hid (Blk W w.heap.size 84 #[.int .u8 a, .int .u8 b, .int .u8 c, .int .u8 e])) ?_ ?_
  · exact ⟨Lib.hid (by exact (by repeat' (first | (with_reducible exact Ext.refl _) | (with_reducible assumption) | (with_reducible refine Ext.drewN ?_ _) | (with_reducible refine Ext.drew ?_) | (with_reducible refine Ext.alloc ?_ _) | (with_reducible refine Ext.trans ?_ (by with_reducible assumption))))), Lib.hid (blk_new' rfl rfl)⟩
  rintro W0 ⟨hE0, hX0⟩
  go_wp2_with fail
  refine (sanity_calls _).mono ?_
  rintro e' w1 ⟨rfl, hx1⟩
  have hE1 := Lib.hid (hE0.out.trans hx1)
  have hX1 := Lib.hid ((Keep.of_ext (X := fun _ => False) hx1).blk hX0.out id)
  clear hE0 hX0 hx1
  go_wp2_with fail
  refine (made_calls rv l w1 (hraw.out.ext hE1.out)).mono ?_
  rintro e' w2 ⟨tv, rfl, ht, hx2⟩
  obtain ⟨t, ht0⟩ : ∃ t, Hid (madeT l = t) := ⟨_, rfl⟩
  have hv : Hid (validT t = 0) := by rw [← ht0.out]; exact made_valid hok.out
  have hm : Hid (treeMax t ≤ 65536) := by rw [← ht0.out]; exact Nat.le_trans (made_tree hok.out) (by decide)
  have hsm : Hid (SmallT t) := by rw [← ht0.out]; exact made_small hok.out
  have ho : Hid (∀ x ∈ t, 0 < x.opts.length ∧ x.opts.length ≤ 4 ∧ x.people.length ≤ 5 ∧ ∀ o ∈ x.opts, o.spans.length ≤ 2) := by
    rw [← ht0.out]
    exact fun x hx => let ⟨p, q, r, s⟩ := made_opts hok.out hx; ⟨p, q, r, fun o ho => (s o ho).1⟩
  have hlen : t.length ≤ 4 := by rw [← ht0.out]; exact made_len.2
  have hl0 : 0 < t.length := by rw [← ht0.out]; exact made_len.1
  rw [ht0.out] at ht
  clear ht0
  have ht' := Lib.hid ht.read
  obtain ⟨ta, tc, rfl⟩ := ht.read.form
  have hx2' := Lib.hid hx2
  clear ht hx2
  go_upto_region 3 with (fail)
  refine wp_abs (S := fun W => Hid (Ext w1 W) ∧ Hid (Ext w2 W) ∧ W.cell? ⟨w2.heap.size, 0, none⟩ = some (.slice ta t.length tc)) ?_ ?_
  · exact ⟨Lib.hid (hx2'.out.trans (by exact (by repeat' (first | (with_reducible exact Ext.refl _) | (with_reducible assumption) | (with_reducible refine Ext.drewN ?_ _) | (with_reducible refine Ext.drew ?_) | (with_reducible refine Ext.alloc ?_ _) | (with_reducible refine Ext.trans ?_ (by with_reducible assumption)))))), Lib.hid (by exact (by repeat' (first | (with_reducible exact Ext.refl _) | (with_reducible assumption) | (with_reducible refine Ext.drewN ?_ _) | (with_reducible refine Ext.drew ?_) | (with_reducible refine Ext.alloc ?_ _) | (with_reducible refine Ext.trans ?_ (by with_reducible assumption))))), by simp⟩
  rintro w3 ⟨hE3, hE23, tb3⟩
  have ht3 := Lib.hid (ht'.out.ext hE23.out)
  have hX3 := Lib.hid ((Keep.of_ext (X := fun _ => False) hE3.out).blk hX1.out id)
  have hw3 := Lib.hid (hE1.out.trans hE3.out)
  have x0 : w3.cell? ⟨w.heap.size, 0, none⟩ = some (.int .u8 a) := hX3.out.cell 0
  have x1 : w3.cell? ⟨w.heap.size, 1, none⟩ = some (.int .u8 b) := hX3.out.cell 1
  have x2 : w3.cell? ⟨w.heap.size, 2, none⟩ = some (.int .u8 c) := hX3.out.cell 2
  have x3 : w3.cell? ⟨w.heap.size, 3, none⟩ = some (.int .u8 e) := hX3.out.cell 3
  have hbt := World.block_lt_of_cell? _ _ tb3
  clear hE3 hE23 ht' hx2' hX1 hE1 hX3
  revert tb3 hbt
  generalize w2.heap.size = bt
  intro tb3 hbt
  -- the places of the wishes
  have hnz : (t.length : Int) ≠ 0 := by omega
  obtain ⟨ia, hia, hial⟩ : ∃ n : Nat, Hid (a % (t.length : Int) = (n : Int)) ∧ n < t.length := ⟨(a % (t.length : Int)).toNat, by have := Int.emod_nonneg a hnz; show _ = _; omega, by have := Int.emod_nonneg a hnz; have := Int.emod_lt_of_pos a (show (0 : Int) < (t.length : Int) by omega); omega⟩
  obtain ⟨ib, hib, hibl⟩ : ∃ n : Nat, Hid (b % (t.length : Int) = (n : Int)) ∧ n < t.length := ⟨(b % (t.length : Int)).toNat, by have := Int.emod_nonneg b hnz; show _ = _; omega, by have := Int.emod_nonneg b hnz; have := Int.emod_lt_of_pos b (show (0 : Int) < (t.length : Int) by omega); omega⟩
  have z0 := After.cell x0
  have z1 := After.cell x1
  have z2 := After.cell tb3
  refine wp_region_after (by kernel_rfl) (by kernel_rfl) ?_
  repeat (go_big_quiet_step (fail))
  refine wpQuiet_nil ?_
  rintro _ ⟨y, rfl⟩
  rw [hia.out, hib.out]
  have hy := y.ext
  generalize y.world = wB at hy ⊢
  clear z0 z1 z2 hia hib
  -- the options
  obtain ⟨_, _, e1, htn, htc, hat⟩ := ht3.out.open
  cases e1
  have hat3 := Lib.hid hat
  obtain ⟨b1, o1, wa, pa, pc, oa, oc, rfl, hb1, _, ea, g0, g1, g2, gp, go⟩ := hat3.out ia hial wB hy
  obtain ⟨_, _, wb, pa', pc', oa', oc', e1, _, _, eb, g0', g1', g2', gp', go'⟩ := hat3.out ib hibl wB hy
  cases e1
  have hoa := (ho.out wa (List.mem_of_getElem? ea.out)).1
  have hob := (ho.out wb (List.mem_of_getElem? eb.out)).1
  have hna : (wa.opts.length : Int) ≠ 0 := by omega
  have hnb : (wb.opts.length : Int) ≠ 0 := by omega
  obtain ⟨i, hii, hil⟩ : ∃ n : Nat, Hid (c % (wa.opts.length : Int) = (n : Int)) ∧ n < wa.opts.length := ⟨(c % (wa.opts.length : Int)).toNat, by have := Int.emod_nonneg c hna; show _ = _; omega, by have := Int.emod_nonneg c hna; have := Int.emod_lt_of_pos c (show (0 : Int) < (wa.opts.length : Int) by omega); omega⟩
  obtain ⟨k, hki, hkl⟩ : ∃ n : Nat, Hid (e % (wb.opts.length : Int) = (n : Int)) ∧ n < wb.opts.length := ⟨(e % (wb.opts.length : Int)).toNat, by have := Int.emod_nonneg e hnb; show _ = _; omega, by have := Int.emod_nonneg e hnb; have := Int.emod_lt_of_pos e (show (0 : Int) < (wb.opts.length : Int) by omega); omega⟩
  have z0 := After.cell (hy.cell x2)
  have z1 := After.cell (hy.cell x3)
  have z2 := After.cell (hy.cell tb3)
  have z3 := After.cell g2
  have z4 := After.cell g2'
  have gp4 := Lib.hid gp
  have gp4' := Lib.hid gp'
  have go4 := Lib.hid go
  have go4' := Lib.hid go'
  have hyh := Lib.hid hy
  clear gp gp' go go' hy hat x0 x1 x2 x3
  go_wp2_with fail
  refine wp_region_after (by kernel_rfl) (by kernel_rfl) ?_
  repeat (go_big_quiet_step (fail))
  refine wpQuiet_nil ?_
  rintro _ ⟨y, rfl⟩
  rw [hii.out, hki.out]
  have hyB := y.ext
  generalize y.world = w4 at hyB ⊢
  have hE34 := Lib.hid (hyh.out.trans hyB)
  have tb4 := hE34.out.cell tb3
  have ht4 := Lib.hid (ht3.out.ext hE34.out)
  have hw4 := Lib.hid (hw3.out.trans hE34.out)
  have q1 := Lib.hid (hyB.cell g1)
  have q2 := Lib.hid (hyB.cell g2)
  have q1' := Lib.hid (hyB.cell g1')
  have q2' := Lib.hid (hyB.cell g2')
  have gp5 := Lib.hid (gp4.out.ext hyB)
  have gp5' := Lib.hid (gp4'.out.ext hyB)
  have go5 := Lib.hid (go4.out.ext hyB)
  have go5' := Lib.hid (go4'.out.ext hyB)
  have hbt4 := World.block_lt_of_cell? _ _ tb4
  clear z0 z1 z2 z3 z4 hyB hyh g0 g1 g2 g0' g1' g2' gp4 gp4' go4 go4' ht3 hw3 hii hki hna hnb hnz hat3 hE34 tb3 hbt
  -- the moved task
  go_upto_region 6 with (fail)
  refine wp_abs (S := fun W => Hid (Ext w4 W) ∧ Hid (Blk W w4.heap.size 27 #[.slice none 0 0])) ?_ ?_
  · exact ⟨Lib.hid (by exact (by repeat' (first | (with_reducible exact Ext.refl _) | (with_reducible assumption) | (with_reducible refine Ext.drewN ?_ _) | (with_reducible refine Ext.drew ?_) | (with_reducible refine Ext.alloc ?_ _) | (with_reducible refine Ext.trans ?_ (by with_reducible assumption))))), Lib.hid (blk_new' rfl rfl)⟩
  rintro w5 ⟨hE5, hU5⟩
  have hM5 : Hid (WishesM w4 w5 w4.heap.size (.slice none 0 0) 0 ((t.take 0).map (movW d))) := Lib.hid ⟨[], World.ownsRow_nil _ _ _ _, rfl⟩
  obtain ⟨_, _, e1, _, _, hat⟩ := ht4.out.open
  cases e1
  have hat4 := Lib.hid hat
  clear hat
  obtain ⟨bu, hbu⟩ : ∃ n, Hid (w4.heap.size = n) := ⟨_, rfl⟩
  have hbu4 : w4.heap.size ≤ bu := Nat.le_of_eq hbu.out
  rw [hbu.out] at hU5 ⊢
  clear hbu
  go_wp2_with fail
  go_loopw [14, 15, 16, 17, 18, 19] (fun v14 _ _ _ _ _ wr => ∃ (n : Nat) (A : Option Addr) (C : Nat), n ≤ t.length ∧ v14 = .int .i64 n ∧ Hid (Ext w4 wr) ∧ Hid (Blk wr bu 27 #[.slice A n C]) ∧ Hid (WishesM w4 wr w4.heap.size (.slice A n C) n ((t.take n).map (movW d)))) (fun v14 _ _ _ _ _ _ => t.length - (intOf v14).toNat)
  case atStart => exact ⟨0, none, 0, by omega, rfl, hE5, hU5, hM5⟩
  case round =>
    clear hE5 hU5 hM5
    obtain ⟨n, A, C, hn, rfl, hx, hU, hM⟩ := hrel
    rename World => wA
    have c0 := hx.out.cell tb4
    by_cases h1 : n < t.length
    ·
     as_aux_lemma =>
      obtain ⟨_, _, x, pa2, pc2, oa2, oc2, e1, _, _, ex, g0, g1, g2, gp, go⟩ := hat4.out n h1 w4 (Ext.refl _)
      cases e1
      have hox := ho.out x (List.mem_of_getElem? ex.out)
      have hol := hox.2.1
      have hpl := hox.2.2.1
      have hosp := Lib.hid hox.2.2.2
      have hsmx := Lib.hid (hsm.out x (List.mem_of_getElem? ex.out))
      obtain ⟨_, _, e1, hon, hoc, oat⟩ := go.open
      cases e1
      have oat' := Lib.hid oat
      have gpx := Lib.hid gp
      have hstep := Lib.hid (mov_wishStep (d := d) ex.out)
      have r0 := hx.out.cell g0
      have r1 := hx.out.cell g1
      have g2' := Lib.hid g2
      clear hox gp go oat ex g0 g1 g2
      go_upto_region 9 with (fail)
      have z0 := After.cell c0
      have z1 := After.cell r0
      have z2 := After.cell r1
      (refine wp_region_held [] [0, 1, 2, 3, 4, 5, 6, 7, 8, 9, 10, 11, 12, 13] [14] (fun _ _ _ => True) (by kernel_rfl) (by kernel_rfl) ?_; simp only [pickL]; with_reducible refine wpQuiet_nil ?_)
      (refine held_quiet [0, 1, 2, 3, 4, 5, 6, 7, 8, 9, 10, 11, 12] [13] (by kernel_rfl) (by kernel_rfl) ?_; simp only [pickL, List.drop]; (repeat (go_big_quiet_step (fail))); with_reducible refine wpQuiet_nil ?_)
      (refine held_made 13 [] rfl (by kernel_rfl) (fun g => .pointer (some ⟨g, 0, none⟩)) (.cells #[.int .i64 0, .slice none 0 0, .slice none 0 0] 87) (fun W => by kernel_rfl) (fun g g2 e => by cases e; rfl) (fun g => rfl) ?_)
      intro gw
      simp only [Act.put, List.setIfInBounds_toArray, List.set_cons_succ, List.set_cons_zero]
      intro W hW hf ht Q0 hQ0
      have h13 := (hf 13).2 rfl
      have b13 : Blk W gw 87 #[.int .i64 0, .slice none 0 0, .slice none 0 0] := h13.1
      have hgw : wA.heap.size ≤ gw := h13.2
      have c7 : W.cell? ⟨gw, 0, none⟩ = some (.int .i64 0) := b13.cell 0
      have c8 : W.cell? ⟨gw, 1, none⟩ = some (.slice none 0 0) := b13.cell 1
      have c9 : W.cell? ⟨gw, 2, none⟩ = some (.slice none 0 0) := b13.cell 2
      have f7 := b13.frozen 0
      have f8 := b13.frozen 1
      have f9 := b13.frozen 2
      have b13' := Lib.hid b13
      have hW' := Lib.hid hW
      clear hf ht h13 b13 z0 z1 z2 hW c0 r0 r1
      simp only [pickL, List.drop]
      go_upto_region 10 with (fail)
      refine wp_abs (S := fun V => Hid (Ext wA V) ∧ Hid (Blk V gw 87 #[.int .i64 x.meeting, .slice pa2 x.people.length pc2, .slice none 0 0])) ?_ ?_
      · exact ⟨Lib.hid (((hW'.out.setCell (p := ⟨gw, 0, none⟩) hgw _).setCell (p := ⟨gw, 1, none⟩) hgw _).setCell (p := ⟨gw, 2, none⟩) hgw _), Lib.hid (((b13'.out.set_ 0 _).set_ 1 _).set_ 2 _)⟩
      clear c7 c8 c9 f7 f8 f9 b13' hW'
      rintro V0 ⟨hV0, hB0⟩
      have hO0 : Hid (OptsN V0 wA.heap.size (.slice none 0 0) 0 ((x.opts.take 0).map (movO d))) := Lib.hid ⟨[], World.ownsRow_nil _ _ _ _, rfl⟩
      go_wp2_with fail
      go_loopw [16, 17, 18, 19] (fun v16 _ _ _ wr => ∃ (m : Nat) (A2 : Option Addr) (C2 : Nat), m ≤ x.opts.length ∧ v16 = .int .i64 m ∧ Hid (Ext wA wr) ∧ Hid (Blk wr gw 87 #[.int .i64 x.meeting, .slice pa2 x.people.length pc2, .slice A2 m C2]) ∧ Hid (OptsN wr wA.heap.size (.slice A2 m C2) m ((x.opts.take m).map (movO d)))) (fun v16 _ _ _ _ => x.opts.length - (intOf v16).toNat)
      case atStart => exact ⟨0, none, 0, by omega, rfl, hV0, hB0, hO0⟩
      case round =>
        clear hV0 hB0 hO0
        obtain ⟨m, A2, C2, hm2, rfl, hx2, hB, hO⟩ := hrel
        rename World => wC
        have hx4C := Lib.hid (hx.out.trans hx2.out)
        have c1 := hx4C.out.cell tb4
        have r3 := hx4C.out.cell g2'.out
        have lwA := hx2.out.size
        have lw4 := hx.out.size
        by_cases q1 : m < x.opts.length
        · obtain ⟨b3, o3, o, sa, sc, rfl, hb3, _, eo, s0, s1, s2, sp⟩ := oat'.out m q1 wC hx4C.out
          have hso := hosp.out o (List.mem_of_getElem? eo.out)
          have hsmo := Lib.hid (hsmx.out o (List.mem_of_getElem? eo.out))
          obtain ⟨_, _, e1, hsn, hsc, sat⟩ := sp.open
          cases e1
          have sat' := Lib.hid sat
          have hostep := Lib.hid (mov_optsStep (d := d) eo.out)
          clear sp sat eo
          go_upto_region 15 with (fail)
          refine wp_abs (S := fun V => Hid (Ext wC V) ∧ Hid (Blk V wC.heap.size 89 #[.int .i64 o.harm, .int .i64 o.room, .slice sa o.spans.length sc]) ∧ Hid (V.ownsRow wC.heap.size 78 2 (.slice (some ⟨wC.heap.size + 1, 0, none⟩) 0 0) 0 (spanCells ((o.spans.take 0).map (movS d))))) ?_ ?_
          · refine ⟨Lib.hid (by exact (by repeat' (first | (with_reducible exact Ext.refl _) | (with_reducible assumption) | (with_reducible refine Ext.drewN ?_ _) | (with_reducible refine Ext.drew ?_) | (with_reducible refine Ext.alloc ?_ _) | (with_reducible refine Ext.trans ?_ (by with_reducible assumption))))), Lib.hid (Blk.alloc (blk_new' rfl rfl) _), Lib.hid ?_⟩
            have := World.ownsRow_made (base := wC.heap.size) (e := 78) (size := 2) (wC.alloc (.cells #[.int .i64 o.harm, .int .i64 o.room, .slice sa o.spans.length sc] 89)) #[] 0 (by rw [World.size_alloc]; omega) (by unfold maxLen; omega) rfl
            rw [World.size_alloc] at this
            exact this
          rintro V1 ⟨hV1, hP1, hS1⟩
          obtain ⟨bo, hbo⟩ : ∃ n, Hid (wC.heap.size = n) := ⟨_, rfl⟩
          have hboC : wC.heap.size ≤ bo := Nat.le_of_eq hbo.out
          have hboC' : bo ≤ wC.heap.size := Nat.le_of_eq hbo.out.symm
          rw [hbo.out] at hP1 hS1 ⊢
          clear hbo s0 s1 s2 c1 r3
          go_wp2_with fail
          go_loopw [18, 19] (fun v18 v19 wr => ∃ (j : Nat) (A3 : Option Addr) (C3 : Nat), j ≤ o.spans.length ∧ v18 = .slice A3 j C3 ∧ v19 = .int .i64 j ∧ Hid (Ext wC wr) ∧ Hid (Blk wr bo 89 #[.int .i64 o.harm, .int .i64 o.room, .slice sa o.spans.length sc]) ∧ Hid (wr.ownsRow bo 78 2 (.slice A3 j C3) j (spanCells ((o.spans.take j).map (movS d))))) (fun _ v19 _ => o.spans.length - (intOf v19).toNat)
          case atStart => exact ⟨0, _, _, by omega, rfl, rfl, hV1, hP1, hS1⟩
          case round =>
            clear hV1 hP1 hS1
            obtain ⟨j, A3, C3, hj, rfl, rfl, hx3, hP, hS⟩ := hrel
            rename World => wD
            have c2 : wD.cell? ⟨bo, 2, none⟩ = some (.slice sa o.spans.length sc) := hP.out.cell 2
            have lbo := hP.out.lt
            by_cases q2 : j < o.spans.length
            · obtain ⟨b4, o4, px, py, rfl, hb4, _, es, u0, u1⟩ := sat'.out j q2 wD hx3.out
              have hps := hsmo.out (px, py) (List.mem_of_getElem? es.out)
              obtain ⟨p0, p1, p2, p3⟩ := hps
              dsimp only at p0 p1 p2 p3
              have hsstep := Lib.hid (mov_spanStep (d := d) es.out)
              clear es
              go_upto_region 18 with (fail)
              have z0 := After.cell c2
              have z1 := After.cell u0
              have z2 := After.cell u1
              (refine wp_region_held [] [0, 1, 2, 3, 4, 5, 6, 7, 8, 9, 10, 11, 12, 13, 14, 15, 16, 17, 18, 19, 20] [21, 22] (fun _ _ _ => True) (by kernel_rfl) (by kernel_rfl) ?_; simp only [pickL]; with_reducible refine wpQuiet_nil ?_)
              (refine held_quiet [0, 1, 2, 3, 4, 5, 6, 7, 8, 9, 10, 11, 12, 13, 14, 15, 16, 17, 18, 19] [20] (by kernel_rfl) (by kernel_rfl) ?_; simp only [pickL, List.drop]; (repeat (go_big_quiet_step (fail))); with_reducible refine wpQuiet_nil ?_)
              (refine held_made 20 [] rfl (by kernel_rfl) (fun g => .slice (some ⟨g, 0, none⟩) 1 1) (.cells #[.int .i64 (px + d), .int .i64 (py + d)] 78) (fun W => by kernel_rfl) (fun g g2 e => by cases e; rfl) (fun g => rfl) ?_)
              intro gs
              simp only [Act.put, List.setIfInBounds_toArray, List.set_cons_succ, List.set_cons_zero]
              intro W2 hW2 hf ht Q0 hQ0
              have h20 := (hf 20).2 rfl
              have b20 : Hid (Blk W2 gs 78 #[.int .i64 (px + d), .int .i64 (py + d)]) := Lib.hid h20.1
              have hgl : gs < W2.heap.size := b20.out.lt
              have hSW := Lib.hid (owns_ext hS.out hW2)
              have hPW : Hid (Blk W2 bo 89 #[.int .i64 o.harm, .int .i64 o.room, .slice (some ⟨b4, o4, none⟩) o.spans.length sc]) := Lib.hid ((Keep.of_ext (X := fun _ => False) hW2).blk hP.out id)
              have hxW := Lib.hid (hx3.out.trans hW2)
              have lbW := hPW.out.lt
              simp only [pickL, List.drop]
              clear hf ht h20 z0 z1 z2 hW2 c2 u0 u1 hS hP hx3
              go_wp2_with (at_builtin; refine wpList_append_any _ rfl (.tmp 120) (.tmp 140) _ rfl bo 78 j0 _ 2 16 Try.underlying75 hj0 jz0 jz1 jz2 rfl (by decide) (.slice A3 j C3) j _ rfl hSW.out (gs + 1) (some ⟨gs, 0, none⟩) 1 1 [.int .i64 (px + d), .int .i64 (py + d)] rfl (reads_blk b20.out rfl) (two_int _ _) (by unfold maxLen; omega) (by omega) (by omega) ?_; intro v5 w6 hown5 hg5 hat5; obtain ⟨A5, C5, rfl⟩ := owns_form hown5; have hS5 : Hid (w6.ownsRow bo 78 2 (.slice A5 (j + 1) C5) (j + 1) (spanCells ((o.spans.take (j + 1)).map (movS d)))) := Lib.hid (by rw [hsstep.out]; exact hown5); have hP5 : Hid (Blk w6 bo 89 #[.int .i64 o.harm, .int .i64 o.room, .slice (some ⟨b4, o4, none⟩) o.spans.length sc]) := Lib.hid (hPW.out.grown hg5 (fun e => own_blk_ne hSW.out hPW.out (by decide) e.symm)); have hx5 : Hid (Ext wC w6) := Lib.hid (hxW.out.grown hg5 (fun g hg => by have := (hSW.out.lt g hg).1; omega)); clear hown5 hg5 hat5)
              go_roundw
              case rel => exact ⟨j + 1, A5, C5, by omega, rfl, by go_num, hx5, hP5, hS5⟩
              case measure => simp [intOf]; omega
            · obtain rfl : j = o.spans.length := by omega
              have hS2 : Hid (wD.ownsRow bo 78 2 (.slice A3 o.spans.length C3) o.spans.length (spanCells (o.spans.map (movS d)))) := by
                have := hS.out
                rw [List.take_length] at this
                exact this
              have f2 := hP.out.frozen 2
              clear hS
              go_upto_region 20 with (fail)
              refine wp_abs (S := fun V => Hid (Ext wC V) ∧ Hid (Blk V bo 89 #[.int .i64 o.harm, .int .i64 o.room, .slice A3 o.spans.length C3]) ∧ Hid (SpansO V bo (.slice A3 o.spans.length C3) (movO d o).spans)) ?_ ?_
              · have ks := keep_set wD bo 2 (.slice A3 o.spans.length C3)
                have hS3 : SpansO wD bo (.slice A3 o.spans.length C3) (movO d o).spans := by
                  have e : (movO d o).spans.length = o.spans.length := by simp [movO]
                  unfold SpansO
                  rw [e]
                  exact hS2.out
                exact ⟨Lib.hid (hx3.out.setCell (p := ⟨bo, 2, none⟩) hboC _), Lib.hid (hP.out.set_ 2 _), Lib.hid (hS3.keepT ks (TX.one hP.out) (by decide))⟩
              clear c2 f2 lbo hS2 hP hx3
              rintro V2 ⟨hV2, hP2, hS2⟩
              have hB2 : Hid (Blk V2 gw 87 #[.int .i64 x.meeting, .slice pa2 x.people.length pc2, .slice A2 m C2]) := Lib.hid ((Keep.of_ext (X := fun _ => False) hV2.out).blk hB.out id)
              obtain ⟨xs, hrow, hxs⟩ := hO.out.ext hV2.out
              have hrow' := Lib.hid hrow
              have hxs' := Lib.hid hxs
              have d0 : V2.cell? ⟨gw, 2, none⟩ = some (.slice A2 m C2) := hB2.out.cell 2
              have d1 : V2.cell? ⟨bo, 0, none⟩ = some (.int .i64 o.harm) := hP2.out.cell 0
              have d2 : V2.cell? ⟨bo, 1, none⟩ = some (.int .i64 o.room) := hP2.out.cell 1
              have d3 : V2.cell? ⟨bo, 2, none⟩ = some (.slice A3 o.spans.length C3) := hP2.out.cell 2
              have lV := hV2.out.size
              clear hrow hxs
              go_wp2_with (at_builtin; refine wpList_append_any _ rfl (.tmp 145) (.tmp 147) _ rfl wA.heap.size 89 k0 _ 3 40 Try.underlying85 hk0 kz0 kz1 kz2 rfl (by decide) (.slice A2 m C2) m xs rfl (hrow'.out.alloc _) (V2.heap.size + 1) (some ⟨V2.heap.size, 0, none⟩) 1 1 [.int .i64 o.harm, .int .i64 o.room, .slice A3 o.spans.length C3] rfl (reads_last _ #[_, _, _] _ 3 1 _ _ (by simp) (by omega) rfl) (by simp [Value.oneCell']) (by unfold maxLen; omega) (by omega) (by rw [World.size_alloc]; omega) ?_; intro v6 w7 hown6 hg6 hat6; obtain ⟨A6, C6, rfl⟩ := owns_form hown6; have hB7 : Hid (Blk w7 gw 87 #[.int .i64 x.meeting, .slice pa2 x.people.length pc2, .slice A2 m C2]) := Lib.hid ((hB2.out.alloc _).grown hg6 (fun e => own_blk_ne hrow'.out hB2.out (by decide) e.symm)); have y0 : w7.cell? ⟨gw, 2, none⟩ = some (.slice A2 m C2) := hB7.out.cell 2; have y1 := hB7.out.frozen 2; have y2 := hB7.out.lt)
              have ext2 : Ext V2 (V2.alloc (.cells #[.int .i64 o.harm, .int .i64 o.room, .slice A3 o.spans.length C3] 89)) := (Ext.refl V2).alloc _
              have hON : OptsN w7 wA.heap.size (.slice A6 (m + 1) C6) (m + 1) ((x.opts.take m).map (movO d) ++ [movO d o]) := OptsN.push (o := movO d o) (hrow'.out.alloc _) (hxs'.out.ext ext2) ((hS2.out.ext ext2).base (by omega)) hown6 hg6
              rw [← hostep.out] at hON
              have ks := keep_set w7 gw 2 (.slice A6 (m + 1) C6)
              have hOE : Hid (OptsN (w7.setCell ⟨gw, 2, none⟩ (.slice A6 (m + 1) C6)) wA.heap.size (.slice A6 (m + 1) C6) (m + 1) ((x.opts.take (m + 1)).map (movO d))) := Lib.hid (hON.keepT ks (TX.one hB7.out) (by decide) (by decide))
              have hBE : Hid (Blk (w7.setCell ⟨gw, 2, none⟩ (.slice A6 (m + 1) C6)) gw 87 #[.int .i64 x.meeting, .slice pa2 x.people.length pc2, .slice A6 (m + 1) C6]) := Lib.hid (hB7.out.set_ 2 _)
              have hxE : Hid (Ext wA (w7.setCell ⟨gw, 2, none⟩ (.slice A6 (m + 1) C6))) := Lib.hid ((((hx2.out.trans hV2.out).trans ext2).grown hg6 (fun g hg => (hrow'.out.lt g hg).1)).setCell (p := ⟨gw, 2, none⟩) hgw _)
              clear hown6 hg6 hat6 hON ks ext2 hrow' hxs' hS2 hP2 hB2 hV2 d0 d1 d2 d3 hB hO hx2
              go_wp2
              go_roundw
              case rel => first | exact ⟨m + 1, A6, C6, by omega, by go_num, hxE, hBE, hOE⟩ | ((repeat apply Exists.intro); exact ⟨⟨m + 1, A6, C6, by omega, by go_num, hxE, hBE, hOE⟩, rfl⟩)
              case measure => simp [intOf]; omega
        · obtain rfl : m = x.opts.length := by omega
          have hOx : Hid (OptsO wC w4.heap.size (.slice A2 x.opts.length C2) (movW d x).opts) := by
            have := hO.out.toO
            rw [List.take_length] at this
            exact Lib.hid (this.base lw4)
          have hUC : Hid (Blk wC bu 27 #[.slice A n C]) := Lib.hid ((Keep.of_ext (X := fun _ => False) hx2.out).blk hU.out id)
          obtain ⟨ws, hrow, hws⟩ := hM.out.ext hx2.out
          have hrow' := Lib.hid hrow
          have hws' := Lib.hid hws
          have d0 : wC.cell? ⟨bu, 0, none⟩ = some (.slice A n C) := hUC.out.cell 0
          have d1 : wC.cell? ⟨gw, 0, none⟩ = some (.int .i64 x.meeting) := hB.out.cell 0
          have d2 : wC.cell? ⟨gw, 1, none⟩ = some (.slice pa2 x.people.length pc2) := hB.out.cell 1
          have d3 : wC.cell? ⟨gw, 2, none⟩ = some (.slice A2 x.opts.length C2) := hB.out.cell 2
          clear hrow hws hO
          go_wp2_with (at_builtin; refine wpList_append_any _ rfl (.tmp 151) (.tmp 153) _ rfl w4.heap.size 87 m0 _ 3 56 Try.underlying25 hm0 mz0 mz1 mz2 rfl (by decide) (.slice A n C) n ws rfl (hrow'.out.alloc _) (wC.heap.size + 1) (some ⟨wC.heap.size, 0, none⟩) 1 1 [.int .i64 x.meeting, .slice pa2 x.people.length pc2, .slice A2 x.opts.length C2] rfl (reads_last _ #[_, _, _] _ 3 1 _ _ (by simp) (by omega) rfl) (by simp [Value.oneCell']) (by unfold maxLen; omega) (by omega) (by rw [World.size_alloc]; omega) ?_; intro v6 w7 hown6 hg6 hat6; obtain ⟨A6, C6, rfl⟩ := owns_form hown6; have hB7 : Hid (Blk w7 bu 27 #[.slice A n C]) := Lib.hid ((hUC.out.alloc _).grown hg6 (fun e => own_blk_ne hrow'.out hUC.out (by decide) e.symm)); have y0 : w7.cell? ⟨bu, 0, none⟩ = some (.slice A n C) := hB7.out.cell 0; have y1 := hB7.out.frozen 0; have y2 := hB7.out.lt)
          have ext2 : Ext wC (wC.alloc (.cells #[.int .i64 x.meeting, .slice pa2 x.people.length pc2, .slice A2 x.opts.length C2] 87)) := (Ext.refl wC).alloc _
          have hMN : WishesM w4 w7 w4.heap.size (.slice A6 (n + 1) C6) (n + 1) ((t.take n).map (movW d) ++ [movW d x]) := WishesM.push (x := movW d x) (hrow'.out.alloc _) (hws'.out.ext ext2) gpx.out (hOx.out.ext ext2) hown6 hg6
          rw [← hstep.out] at hMN
          have ks := keep_set w7 bu 0 (.slice A6 (n + 1) C6)
          have hME : Hid (WishesM w4 (w7.setCell ⟨bu, 0, none⟩ (.slice A6 (n + 1) C6)) w4.heap.size (.slice A6 (n + 1) C6) (n + 1) ((t.take (n + 1)).map (movW d))) := Lib.hid (hMN.keepT ks (TX.one hB7.out) (by decide) (by decide) (by decide))
          have hUE : Hid (Blk (w7.setCell ⟨bu, 0, none⟩ (.slice A6 (n + 1) C6)) bu 27 #[.slice A6 (n + 1) C6]) := Lib.hid (hB7.out.set_ 0 _)
          have hxE : Hid (Ext w4 (w7.setCell ⟨bu, 0, none⟩ (.slice A6 (n + 1) C6))) := Lib.hid (((hx4C.out.trans ext2).grown hg6 (fun g hg => (hrow'.out.lt g hg).1)).setCell (p := ⟨bu, 0, none⟩) hbu4 _)
          clear hown6 hg6 hat6 hMN ks ext2 hrow' hws' hOx hUC d0 d1 d2 d3 hB hx2 hx4C c1 r3
          go_wp2
          go_roundw
          case rel => first | exact ⟨n + 1, A6, C6, by omega, by go_num, hxE, hUE, hME⟩ | ((repeat apply Exists.intro); exact ⟨⟨n + 1, A6, C6, by omega, by go_num, hxE, hUE, hME⟩, rfl⟩)
          case measure => simp [intOf]; omega
    ·
     as_aux_lemma =>
      obtain rfl : n = t.length := by omega
      have hu : Hid (Wishes wA (.slice A t.length C) (movT d t)) := by
        have := hM.out.read hx.out
        rw [List.take_length] at this
        exact this
      have hv' : Hid (validT (movT d t) = 0) := mov_valid ⟨hd0, hd1⟩ hsm.out hv.out
      have hm' : Hid (treeMax (movT d t) ≤ 65536) := by rw [mov_treeMax]; exact hm.out
      obtain ⟨z, hz⟩ : ∃ z, Hid (clashT t ia i ib k = z) := ⟨_, rfl⟩
      have hcl := Lib.hid (clashP_calls _ t ia i ib k wA (ht4.out.ext hx.out))
      rw [hz.out] at hcl
      clear hM
      go_wp2_with fail
      refine hcl.out.mono ?_
      rintro e' w6 ⟨rfl, hx6⟩
      have hE6 := Lib.hid (hx.out.trans hx6)
      have hu6 := Lib.hid (hu.out.ext hx6)
      have hU6 : Hid (Blk w6 bu 27 #[.slice A t.length C]) := Lib.hid ((Keep.of_ext (X := fun _ => False) hx6).blk hU.out id)
      clear hcl hx6 hu hU hx c0
      obtain ⟨_, _, e1, hoan, hoac, oatA⟩ := go5.out.open
      cases e1
      obtain ⟨_, _, e1, hobn, hobc, oatB⟩ := go5'.out.open
      cases e1
      obtain ⟨b5, o5, oi, sa, sc, rfl, _, _, eo, _, s1, s2, sp⟩ := oatA i hil w6 hE6.out
      obtain ⟨b6, o6, op, sa', sc', rfl, _, _, ep, _, s1', s2', sp'⟩ := oatB k hkl w6 hE6.out
      have hma := List.mem_of_getElem? ea.out
      have hmb := List.mem_of_getElem? eb.out
      have hmo := List.mem_of_getElem? eo.out
      have hmp := List.mem_of_getElem? ep.out
      have lsa := (ho.out wa hma).2.2.2 oi hmo
      have lsb := (ho.out wb hmb).2.2.2 op hmp
      have na := opt_normal hv.out hma hmo
      have nb := opt_normal hv.out hmb hmp
      simp only [normalB, Bool.and_eq_true] at na nb
      obtain ⟨cl, hclE⟩ : ∃ cl, Hid (combL 1 oi.spans op.spans = cl) := ⟨_, rfl⟩
      have hcomb : Hid (combT 1 oi.spans op.spans = (cl, 0)) := by rw [← hclE.out]; exact combT_ok na.2 nb.2
      have hmeet := Lib.hid (clash_meet (a := ia) (i := i) (b := ib) (k := k) hv.out ea.out eb.out eo.out ep.out (chain_pos na.1) (chain_pos nb.1))
      rw [hz.out, hclE.out] at hmeet
      have hsp := Lib.hid sp
      have hsp' := Lib.hid sp'
      have c6 := hE6.out.cell tb4
      have z0 := After.cell c6
      have z1 := After.cell (hE6.out.cell q2.out)
      have z2 := After.cell s2
      have z3 := After.cell (hE6.out.cell q2'.out)
      have z4 := After.cell s2'
      have s1h := Lib.hid s1
      have s1h' := Lib.hid s1'
      clear oatA oatB c6 s1 s2 s1' s2' sp sp' hclE na nb hma hmb hmo hmp eo ep ea eb
      go_upto_region 23 with (fail)
      (refine wp_region_held [] [0, 1, 2, 3, 4, 5, 6, 7, 8, 9, 10, 11, 12, 13, 14, 15, 16, 17, 18, 19, 20, 21, 22, 23, 24, 25] [] (MeetCon cl.length) (by kernel_rfl) (by kernel_rfl) ?_; simp only [pickL]; with_reducible refine wpQuiet_nil ?_)
      (refine held_quiet [0, 1, 2, 3, 4, 5, 6, 7, 8, 9, 10, 11, 12, 13, 14, 15, 16, 17, 18, 19] [20, 21, 22, 23, 24, 25] (by kernel_rfl) (by kernel_rfl) ?_; simp only [pickL, List.drop]; (repeat (go_big_quiet_step (fail))); with_reducible refine wpQuiet_nil ?_)
      (refine held_call 20 [21, 22, 23, 24, 25] rfl (by kernel_rfl) 41 (#[.slice sa oi.spans.length sc, .slice sa' op.spans.length sc']) (fun W => by kernel_rfl) rfl ?_ ?_ ?_)
      · exact fun W W' v e hh => hh
      · refine fun W hW _ => (spanMeet_calls _ _ oi.spans op.spans W (hsp.out.ext hW) (hsp'.out.ext hW) (by omega) (by omega)).mono ?_
        rintro e' W' ⟨mv, rfl, hmv, hxx⟩
        rw [hcomb.out] at hmv ⊢
        dsimp only at hmv ⊢
        obtain ⟨mA, mC, rfl⟩ := hmv.read.form
        exact ⟨_, rfl, hxx, fun _ => ⟨mA, mC, rfl⟩⟩
      rintro v ⟨Y, hY, hC⟩
      obtain ⟨mA, mC, rfl⟩ := hC rfl
      clear hC hY Y
      simp only [Act.put, List.setIfInBounds_toArray, List.set_cons_succ, List.set_cons_zero]
      (refine held_quiet [21, 22, 23, 24, 25] [] (by kernel_rfl) (by kernel_rfl) ?_; simp only [pickL, List.drop]; (repeat (go_big_quiet_step (fail))); with_reducible refine wpQuiet_nil ?_)
      intro w7 hW7 hf ht Q0 hQ0
      have hE67 := Lib.hid hW7
      simp only [pickL]
      refine hQ0 _ _ ?_
      clear hQ0 hf ht hW7 z0 z1 z2 z3 z4 hsp hsp' hcomb
      obtain ⟨ml, hml⟩ : ∃ n, Hid (cl.length = n) := ⟨_, rfl⟩
      rw [hml.out] at hmeet ⊢
      have hE7 := Lib.hid (hE6.out.trans hE67.out)
      have hu7 := Lib.hid (hu6.out.ext hE67.out)
      have hU7 : Hid (Blk w7 bu 27 #[.slice A t.length C]) := Lib.hid ((Keep.of_ext (X := fun _ => False) hE67.out).blk hU6.out id)
      clear hu6 hU6 hml
      -- together
      obtain ⟨rb, hrb⟩ : ∃ rb, Hid ((decide (0 ≤ oi.room) && decide (oi.room = op.room)) = rb) := ⟨_, rfl⟩
      rw [hrb.out] at hmeet
      go_upto_region 24 with fail
      go_cut [23] from 186 (fun p23 wx => p23 = .bool rb ∧ Hid (Ext w7 wx))
      case first =>
        have z0 := After.cell (hE7.out.cell tb4)
        have z1 := After.cell (hE7.out.cell q2.out)
        have z2 := After.cell (hE67.out.cell s1h.out)
        have z3 := After.cell (hE7.out.cell q2'.out)
        have z4 := After.cell (hE67.out.cell s1h'.out)
        by_cases g : 0 ≤ oi.room
        · have g1 : decide (0 ≤ oi.room) = true := decide_eq_true g
          obtain ⟨r, hr⟩ : ∃ r, (oi.room == op.room) = r := ⟨_, rfl⟩
          have hrr : Hid (r = rb) := by
            show _ = _
            rw [← hrb.out, g1, Bool.true_and, ← hr, Bool.eq_iff_iff]
            simp
          clear hrb g hmeet
          refine wp_region_after (by kernel_rfl) (by kernel_rfl) ?_
          repeat (go_big_quiet_step (fail))
          refine wpQuiet_nil ?_
          rintro _ ⟨u, rfl⟩
          have hux := u.ext
          generalize u.world = V1 at hux ⊢
          clear z0 z1 z2 z3 z4
          go_wp2_with fail
          go_meet
          exact ⟨by rw [hrr.out], Lib.hid hux⟩
        · have g1 : decide (0 ≤ oi.room) = false := decide_eq_false g
          have hrr : Hid (false = rb) := by
            show _ = _
            rw [← hrb.out, g1]
            rfl
          clear hrb g hmeet
          refine wp_region_after (by kernel_rfl) (by kernel_rfl) ?_
          repeat (go_big_quiet_step (fail))
          refine wpQuiet_nil ?_
          rintro _ ⟨u, rfl⟩
          have hux := u.ext
          generalize u.world = V1 at hux ⊢
          clear z0 z1 z2 z3 z4
          go_wp2_with fail
          go_meet
          exact ⟨by rw [hrr.out], Lib.hid hux⟩
      case rest =>
      obtain ⟨rfl, hEc⟩ := hcut
      have hEc4 := Lib.hid (hE7.out.trans hEc.out)
      obtain ⟨_, _, e1, hpan, hpac, patA⟩ := gp5.out.open
      cases e1
      obtain ⟨_, _, e1, hpbn, hpbc, patB⟩ := gp5'.out.open
      cases e1
      have patA' := Lib.hid patA
      have patB' := Lib.hid patB
      clear hrb patA patB hE67 s1h s1h'
      go_wp2_with fail
      go_loopw [23, 24, 25] (fun v23 v24 _ wr => ∃ (n : Nat) (r : Bool), n ≤ wa.people.length ∧ v24 = .int .i64 n ∧ v23 = .bool r ∧ Hid (Ext w7 wr) ∧ Hid ((rb || (wa.people.take n).any fun u => wb.people.any fun v => u == v) = r)) (fun _ v24 _ _ => wa.people.length - (intOf v24).toNat)
      case atStart => exact ⟨0, rb, by omega, rfl, rfl, hEc, Lib.hid (by simp)⟩
      case round =>
        clear hEc hEc4
        obtain ⟨n, r, hn, rfl, rfl, hx, hr⟩ := hrel
        rename World => wE
        have hx4 := Lib.hid (hE7.out.trans hx.out)
        have c0 := hx4.out.cell tb4
        have c1 := hx4.out.cell q1.out
        by_cases h1 : n < wa.people.length
        · obtain ⟨b7, o7, pn, rfl, hb7, _, en, k0'⟩ := patA'.out n h1 w4 (Ext.refl _)
          have k0h := Lib.hid k0'
          have hnext := Lib.hid (any_take (fun u => wb.people.any fun v => u == v) en.out)
          clear en k0'
          go_wp2_with fail
          go_loopw [23, 25] (fun v23 v25 wr => ∃ (m : Nat) (s : Bool), m ≤ wb.people.length ∧ v25 = .int .i64 m ∧ v23 = .bool s ∧ Hid (Ext w7 wr) ∧ Hid ((r || (wb.people.take m).any fun v => pn == v) = s)) (fun _ v25 _ => wb.people.length - (intOf v25).toNat)
          case atStart => exact ⟨0, r, by omega, rfl, rfl, hx, Lib.hid (by simp)⟩
          case round =>
            clear hx hx4 c0 c1
            obtain ⟨m, s, hm2, rfl, rfl, hx, hs⟩ := hrel
            rename World => wF
            have hx4 := Lib.hid (hE7.out.trans hx.out)
            have c0 := hx4.out.cell tb4
            have c1 := hx4.out.cell q1'.out
            by_cases h2 : m < wb.people.length
            · obtain ⟨b8, o8, pm, rfl, hb8, _, em, k1⟩ := patB'.out m h2 wF hx4.out
              have hnext2 := Lib.hid (any_take (fun v => pn == v) em.out)
              have z0 := After.cell c0
              have z1 := After.cell (hx4.out.cell q1.out)
              have z2 := After.cell (hx4.out.cell k0h.out)
              have z3 := After.cell c1
              have z4 := After.cell k1
              clear em k1
              cases s with
              | true =>
                have R : Hid ((r || (wb.people.take (m + 1)).any fun v => pn == v) = true) := by
                  show _ = _
                  rw [hnext2.out, ← Bool.or_assoc, hs.out]
                  rfl
                clear hs hnext2
                go_upto_region 31 with (fail)
                refine wp_region_after (by kernel_rfl) (by kernel_rfl) ?_
                repeat (go_big_quiet_step (fail))
                refine wpQuiet_nil ?_
                rintro _ ⟨u, rfl⟩
                have hux := Lib.hid (hx.out.trans u.ext)
                generalize u.world = V1 at hux ⊢
                clear z0 z1 z2 z3 z4 c0 c1 hx hx4
                go_wp2
                go_roundw
                case rel => exact ⟨m + 1, true, by omega, by go_num, by first | rfl | rw [hq], hux, R⟩
                case measure => simp [intOf]; omega
              | false =>
                obtain ⟨q, hq⟩ : ∃ q, (pn == pm) = q := ⟨_, rfl⟩
                have R : Hid ((r || (wb.people.take (m + 1)).any fun v => pn == v) = q) := by
                  show _ = _
                  rw [hnext2.out, ← Bool.or_assoc, hs.out, ← hq]
                  rfl
                clear hs hnext2
                go_upto_region 31 with (fail)
                refine wp_region_after (by kernel_rfl) (by kernel_rfl) ?_
                repeat (go_big_quiet_step (fail))
                refine wpQuiet_nil ?_
                rintro _ ⟨u, rfl⟩
                have hux := Lib.hid (hx.out.trans u.ext)
                generalize u.world = V1 at hux ⊢
                clear z0 z1 z2 z3 z4 c0 c1 hx hx4
                go_wp2
                go_roundw
                case rel => exact ⟨m + 1, q, by omega, by go_num, by first | rfl | rw [hq], hux, R⟩
                case measure => simp [intOf]; omega
            · have R : Hid ((rb || (wa.people.take (n + 1)).any fun u => wb.people.any fun v => u == v) = s) := by
                show _ = _
                have h3 := hs.out
                rw [List.take_of_length_le (by omega)] at h3
                rw [hnext.out, ← Bool.or_assoc, hr.out, h3]
              clear hs hr hnext
              go_wp2
              go_roundw
              case rel => exact ⟨n + 1, s, by omega, by go_num, rfl, hx, R⟩
              case measure => simp [intOf]; omega
        · have hrS : Hid ((rb || shareB wa.people wb.people) = r) := by
            show _ = _
            have h3 := hr.out
            rw [List.take_of_length_le (by omega)] at h3
            rw [shareB_eq]
            exact h3
          rw [hrS.out] at hmeet
          have ht9 := Lib.hid (ht4.out.ext hx4.out)
          have hu9 := Lib.hid (hu7.out.ext hx.out)
          have hU9 : Hid (Blk wE bu 27 #[.slice A t.length C]) := Lib.hid ((Keep.of_ext (X := fun _ => False) hx.out).blk hU7.out id)
          have hw9 := Lib.hid (hw4.out.trans hx4.out)
          clear hr hrS hx hu7 hU7 hE7 q1 q2 q1' q2' gp5 gp5' go5 go5' patA' patB'
          obtain ⟨bp, bh, be, hbr⟩ : ∃ bp bh be, Hid (bestR t = (bp, bh, be)) := ⟨_, _, _, rfl⟩
          have hbc := Lib.hid (best_calls _ t wE ht9.out (fun _ => hm.out))
          go_wp2_with fail
          refine hbc.out.mono ?_
          intro e' w10 hb
          obtain ⟨pv, cv, rfl, hx10, hp10⟩ := best_val hv.out hb
          rw [hbr.out] at hp10 ⊢
          dsimp only at hp10 ⊢
          obtain ⟨pA, pC, rfl⟩ := hp10.form
          have hp10' := Lib.hid hp10
          have hx10' := Lib.hid hx10
          clear hb hbc hp10 hx10 c0 c1
          go_upto_region 33 with (fail)
          refine wp_abs (S := fun V => Hid (Ext wE V) ∧ Hid (Ext w10 V) ∧ Hid (Blk V w10.heap.size 67 #[.slice pA bp.length pC, .int .i64 bh])) ?_ ?_
          · exact ⟨Lib.hid (hx10'.out.trans (by exact (by repeat' (first | (with_reducible exact Ext.refl _) | (with_reducible assumption) | (with_reducible refine Ext.drewN ?_ _) | (with_reducible refine Ext.drew ?_) | (with_reducible refine Ext.alloc ?_ _) | (with_reducible refine Ext.trans ?_ (by with_reducible assumption)))))), Lib.hid (by exact (by repeat' (first | (with_reducible exact Ext.refl _) | (with_reducible assumption) | (with_reducible refine Ext.drewN ?_ _) | (with_reducible refine Ext.drew ?_) | (with_reducible refine Ext.alloc ?_ _) | (with_reducible refine Ext.trans ?_ (by with_reducible assumption))))), Lib.hid (blk_new' rfl rfl)⟩
          rintro w11 ⟨hE11, hE11', hP11⟩
          have hp11 := Lib.hid (hp10'.out.ext hE11'.out)
          have ht11 := Lib.hid (ht9.out.ext hE11.out)
          have hu11 := Lib.hid (hu9.out.ext hE11.out)
          have hU11 : Hid (Blk w11 bu 27 #[.slice A t.length C]) := Lib.hid ((Keep.of_ext (X := fun _ => False) hE11.out).blk hU9.out id)
          have hw11 := Lib.hid (hw9.out.trans hE11.out)
          have h411 := Lib.hid (hx4.out.trans hE11.out)
          clear hE11 hE11' hp10' hx10' ht9 hu9 hU9 hw9 hx4
          revert hP11
          generalize w10.heap.size = g1
          intro hP11
          have c0 : w11.cell? ⟨bu, 0, none⟩ = some (.slice A t.length C) := hU11.out.cell 0
          have hbc := Lib.hid (best_calls _ (movT d t) w11 hu11.out (fun _ => hm'.out))
          go_wp2_with fail
          refine hbc.out.mono ?_
          intro e' w12 hb
          obtain ⟨qv, cv', rfl, hx12, hq12⟩ := best_val hv'.out hb
          rw [mov_bestR, hbr.out] at hq12 ⊢
          dsimp only at hq12 ⊢
          obtain ⟨qA, qC, rfl⟩ := hq12.form
          have hq12' := Lib.hid hq12
          have hx12' := Lib.hid hx12
          clear hb hbc hq12 hx12 c0 hbr
          go_upto_region 34 with (fail)
          refine wp_abs (S := fun V => Hid (Ext w11 V) ∧ Hid (Ext w12 V) ∧ Hid (Blk V w12.heap.size 67 #[.slice qA bp.length qC, .int .i64 bh])) ?_ ?_
          · exact ⟨Lib.hid (hx12'.out.trans (by exact (by repeat' (first | (with_reducible exact Ext.refl _) | (with_reducible assumption) | (with_reducible refine Ext.drewN ?_ _) | (with_reducible refine Ext.drew ?_) | (with_reducible refine Ext.alloc ?_ _) | (with_reducible refine Ext.trans ?_ (by with_reducible assumption)))))), Lib.hid (by exact (by repeat' (first | (with_reducible exact Ext.refl _) | (with_reducible assumption) | (with_reducible refine Ext.drewN ?_ _) | (with_reducible refine Ext.drew ?_) | (with_reducible refine Ext.alloc ?_ _) | (with_reducible refine Ext.trans ?_ (by with_reducible assumption))))), Lib.hid (blk_new' rfl rfl)⟩
          rintro w13 ⟨hE13, hE13', hQ13⟩
          have hp13 := Lib.hid (hp11.out.ext hE13.out)
          have hq13 := Lib.hid (hq12'.out.ext hE13'.out)
          have ht13 := Lib.hid (ht11.out.ext hE13.out)
          have hu13 := Lib.hid (hu11.out.ext hE13.out)
          have hU13 : Hid (Blk w13 bu 27 #[.slice A t.length C]) := Lib.hid ((Keep.of_ext (X := fun _ => False) hE13.out).blk hU11.out id)
          have hP13 : Hid (Blk w13 g1 67 #[.slice pA bp.length pC, .int .i64 bh]) := Lib.hid ((Keep.of_ext (X := fun _ => False) hE13.out).blk hP11.out id)
          have hw13 := Lib.hid (hw11.out.trans hE13.out)
          have h413 := Lib.hid (h411.out.trans hE13.out)
          clear hE13 hE13' hq12' hx12' hp11 ht11 hu11 hU11 hP11 hw11 h411
          have hlg2 := hQ13.out.lt
          revert hQ13 hlg2
          generalize w12.heap.size = g2
          intro hQ13 hlg2
          have y0 := h413.out.cell tb4
          have y1 : w13.cell? ⟨bu, 0, none⟩ = some (.slice A t.length C) := hU13.out.cell 0
          have y2 : w13.cell? ⟨g1, 0, none⟩ = some (.slice pA bp.length pC) := hP13.out.cell 0
          have y3 : w13.cell? ⟨g1, 1, none⟩ = some (.int .i64 bh) := hP13.out.cell 1
          have y4 : w13.cell? ⟨g2, 0, none⟩ = some (.slice qA bp.length qC) := hQ13.out.cell 0
          have y5 : w13.cell? ⟨g2, 1, none⟩ = some (.int .i64 bh) := hQ13.out.cell 1
          have hC1 : Hid (∀ X, Ext w13 X → Calls Try.prog 20 #[.agg #[.slice (some ⟨b1, o1, none⟩) t.length tc], .int .i64 ib, .int .i64 k, .int .i64 ia, .int .i64 i] X fun e w' => e = .returned (.bool z) ∧ Ext X w') := fun X hX => by
            have := clashP_calls _ t ib k ia i X (ht13.out.ext hX)
            rw [clash_sym, hz.out] at this
            exact this
          have hC2 : Hid (∀ X, Ext w13 X → Calls Try.prog 20 #[.agg #[.slice A t.length C], .int .i64 ia, .int .i64 i, .int .i64 ib, .int .i64 k] X fun e w' => e = .returned (.bool z) ∧ Ext X w') := fun X hX => by
            have := clashP_calls _ (movT d t) ia i ib k X (hu13.out.ext hX)
            rw [mov_clashT hv.out hv'.out, hz.out] at this
            exact this
          have hC3 : Hid (∀ X, Ext w13 X → Calls Try.prog 42 #[.agg #[.slice pA bp.length pC, .int .i64 bh], .agg #[.slice qA bp.length qC, .int .i64 bh]] X fun e w' => e = .returned (.bool true) ∧ Ext X w') := fun X hX => by
            have := samePlan_calls _ _ bp bp bh bh X (hp13.out.ext hX) (hq13.out.ext hX)
            rwa [show samePlanB bp bh bp bh = true by simp [samePlanB]] at this
          have e1 : (be == be) = true := beq_self_eq_true be
          clear hU13 hP13 hQ13 hp13 hq13 ht13 hu13 h413 hz hv hv' hm hm' hsm ho
          by_cases hab : ia = ib
          · have hzf : z = false := by rw [hmeet.out, decide_eq_true hab]; rfl
            subst hzf hab
            have d1 : ((ia : Int) != (ia : Int)) = false := by simp
            as_aux_lemma =>
             clear hmeet
             go_wp2_with fail
             refine (hC1.out _ (Ext.refl _)).mono ?_
             rintro e' v1 ⟨rfl, hy1⟩
             replace y1 := hy1.cell y1
             replace y2 := hy1.cell y2
             replace y3 := hy1.cell y3
             replace y4 := hy1.cell y4
             replace y5 := hy1.cell y5
             have hyh1 := Lib.hid hy1
             clear hy1 y0 hC1
             go_wp2_with fail
             refine (hC2.out _ hyh1.out).mono ?_
             rintro e' v2 ⟨rfl, hy2⟩
             replace y2 := hy2.cell y2
             replace y3 := hy2.cell y3
             replace y4 := hy2.cell y4
             replace y5 := hy2.cell y5
             have hyh2 := Lib.hid (hyh1.out.trans hy2)
             clear hy2 hyh1 y1 hC2
             go_wp2_with fail
             refine (hC3.out _ hyh2.out).mono ?_
             rintro e' v3 ⟨rfl, hy3⟩
             have hyh3 := Lib.hid (hyh2.out.trans hy3)
             clear hy3 hyh2 y2 y3 y4 y5 hC3
             go_wp2
             go_ret
             exact ⟨rfl, hw13.out.trans hyh3.out⟩
          · have d1 : ((ia : Int) != (ib : Int)) = true := by rw [bne_iff_ne]; omega
            rw [decide_eq_false hab] at hmeet
            cases r with
            | false =>
              have hzf : z = false := by rw [hmeet.out]; rfl
              subst hzf
              as_aux_lemma =>
               clear hmeet
               go_wp2_with fail
               refine (hC1.out _ (Ext.refl _)).mono ?_
               rintro e' v1 ⟨rfl, hy1⟩
               replace y1 := hy1.cell y1
               replace y2 := hy1.cell y2
               replace y3 := hy1.cell y3
               replace y4 := hy1.cell y4
               replace y5 := hy1.cell y5
               have hyh1 := Lib.hid hy1
               clear hy1 y0 hC1
               go_wp2_with fail
               refine (hC2.out _ hyh1.out).mono ?_
               rintro e' v2 ⟨rfl, hy2⟩
               replace y2 := hy2.cell y2
               replace y3 := hy2.cell y3
               replace y4 := hy2.cell y4
               replace y5 := hy2.cell y5
               have hyh2 := Lib.hid (hyh1.out.trans hy2)
               clear hy2 hyh1 y1 hC2
               go_wp2_with fail
               refine (hC3.out _ hyh2.out).mono ?_
               rintro e' v3 ⟨rfl, hy3⟩
               have hyh3 := Lib.hid (hyh2.out.trans hy3)
               clear hy3 hyh2 y2 y3 y4 y5 hC3
               go_wp2
               go_ret
               exact ⟨rfl, hw13.out.trans hyh3.out⟩
            | true =>
              by_cases hm0 : ml = 0
              · have hzf : z = false := by rw [hmeet.out, hm0]; rfl
                subst hzf hm0
                as_aux_lemma =>
                 clear hmeet
                 go_wp2_with fail
                 refine (hC1.out _ (Ext.refl _)).mono ?_
                 rintro e' v1 ⟨rfl, hy1⟩
                 replace y1 := hy1.cell y1
                 replace y2 := hy1.cell y2
                 replace y3 := hy1.cell y3
                 replace y4 := hy1.cell y4
                 replace y5 := hy1.cell y5
                 have hyh1 := Lib.hid hy1
                 clear hy1 y0 hC1
                 go_wp2_with fail
                 refine (hC2.out _ hyh1.out).mono ?_
                 rintro e' v2 ⟨rfl, hy2⟩
                 replace y2 := hy2.cell y2
                 replace y3 := hy2.cell y3
                 replace y4 := hy2.cell y4
                 replace y5 := hy2.cell y5
                 have hyh2 := Lib.hid (hyh1.out.trans hy2)
                 clear hy2 hyh1 y1 hC2
                 go_wp2_with fail
                 refine (hC3.out _ hyh2.out).mono ?_
                 rintro e' v3 ⟨rfl, hy3⟩
                 have hyh3 := Lib.hid (hyh2.out.trans hy3)
                 clear hy3 hyh2 y2 y3 y4 y5 hC3
                 go_wp2
                 go_ret
                 exact ⟨rfl, hw13.out.trans hyh3.out⟩
              · have d2 : decide (0 < ml) = true := decide_eq_true (by omega)
                have hzf : z = true := by rw [hmeet.out, d2]; rfl
                subst hzf
                as_aux_lemma =>
                 clear hmeet
                 go_wp2_with fail
                 refine (hC1.out _ (Ext.refl _)).mono ?_
                 rintro e' v1 ⟨rfl, hy1⟩
                 replace y1 := hy1.cell y1
                 replace y2 := hy1.cell y2
                 replace y3 := hy1.cell y3
                 replace y4 := hy1.cell y4
                 replace y5 := hy1.cell y5
                 have hyh1 := Lib.hid hy1
                 clear hy1 y0 hC1
                 go_wp2_with fail
                 refine (hC2.out _ hyh1.out).mono ?_
                 rintro e' v2 ⟨rfl, hy2⟩
                 replace y2 := hy2.cell y2
                 replace y3 := hy2.cell y3
                 replace y4 := hy2.cell y4
                 replace y5 := hy2.cell y5
                 have hyh2 := Lib.hid (hyh1.out.trans hy2)
                 clear hy2 hyh1 y1 hC2
                 go_wp2_with fail
                 refine (hC3.out _ hyh2.out).mono ?_
                 rintro e' v3 ⟨rfl, hy3⟩
                 have hyh3 := Lib.hid (hyh2.out.trans hy3)
                 clear hy3 hyh2 y2 y3 y4 y5 hC3
                 go_wp2
                 go_ret
                 exact ⟨rfl, hw13.out.trans hyh3.out⟩
end Go.Proofs.Ytkicielleiafgaa
