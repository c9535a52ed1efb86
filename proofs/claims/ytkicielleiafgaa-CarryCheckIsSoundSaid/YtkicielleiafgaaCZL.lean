/- The law CarryCheckIsSound, walked. -/
import Derived.Test.YtkicielleiafgaaCZ
namespace Go.Proofs.Ytkicielleiafgaa
open Go.RowKit

theorem ownsRow_lit {base : Nat} {e : TypeId} {size : Nat} (w : World) (cs : List Value) (n : Nat) (hb : base ≤ w.heap.size) (hm : n ≤ maxLen) (hs : cs.length = n * size) :
    (w.alloc (.cells cs.toArray e)).ownsRow base e size (.slice (some ⟨w.heap.size, 0, none⟩) n n) n cs :=
  ⟨hs, .inr ⟨w.heap.size, n, cs.toArray, rfl, hb, heap_alloc_new w _, Nat.le_refl _, hm, by simpa using hs, by simp [← hs]⟩⟩
theorem less_check {t : List WishD} {p : List Int} (h : lawfulB t p = true) (h512 : t.length ≤ 512) {i : Nat} {x y : Int} (hi : (orderL t p)[i]? = some (x, y)) (hy : y ≠ -1) : checkS t p ((orderL t p).take i ++ (orderL t p).drop (i + 1)) = 11 := by
  have hl := (List.getElem?_eq_some_iff.1 hi).1
  have e : orderL t p = (orderL t p).take i ++ (x, y) :: (orderL t p).drop (i + 1) := by
    have h1 : (orderL t p).drop i = (x, y) :: (orderL t p).drop (i + 1) := by
      rw [List.getElem?_eq_getElem hl] at hi
      rw [List.drop_eq_getElem_cons hl, Option.some.inj hi]
    rw [← h1, List.take_append_drop]
  have hc := order_check h h512
  rw [e] at hc
  exact check_less hc hy

set_option maxHeartbeats 8000000 in
set_option maxRecDepth 100000 in
theorem carryCheckIsSound_calls (rv : Value) (rl : List RawD) (xv : Value) (x : List Int) (cv : Value) (ch : List TriD) (w : World) (h : Raws w rv rl) (hx : Bytes w xv x) (hch : Tris w cv ch) :
    Calls Try.prog 9 #[rv, xv, cv] w fun e w' => e = .returned (.bool true) ∧ Ext w w' := by
  have hC0 := Lib.hid hch
  obtain ⟨ca, cc, rfl, hcn, hcc, cat0⟩ := hch.open
  have cat' := Lib.hid cat0
  clear hch cat0 hC0
  have hraw := Lib.hid h
  have hbyt := Lib.hid hx
  have hok := Lib.hid h.ok
  clear h hx
  go_enter Try.func9, Try.ntmps9
  go_wp2_with fail
  refine (sanity35_calls _).mono ?_
  rintro e w1 ⟨rfl, hx1⟩
  have hx1' := Lib.hid hx1
  clear hx1
  go_wp2_with fail
  refine (made_calls rv rl w1 (hraw.out.ext hx1'.out)).mono ?_
  rintro e w2 ⟨tv, rfl, ht, hx2⟩
  obtain ⟨t, ht0⟩ : ∃ t, Hid (madeT rl = t) := ⟨_, rfl⟩
  have hv : Hid (validT t = 0) := by rw [← ht0.out]; exact made_valid hok.out
  have ho : Hid (∀ x ∈ t, 0 < x.opts.length) := by rw [← ht0.out]; exact fun x hx => (made_opts hok.out hx).1
  have hlen : t.length ≤ 4 := by rw [← ht0.out]; exact made_len.2
  have hl0 : 0 < t.length := by rw [← ht0.out]; exact made_len.1
  rw [ht0.out] at ht
  clear ht0
  have ht' := Lib.hid ht.read
  obtain ⟨ta, tc, rfl⟩ := ht.read.form
  have hx2' := Lib.hid (hx1'.out.trans hx2)
  clear ht hx2
  go_wp2_with fail
  have hq := Lib.hid ((Ext.refl w2).alloc (.cells #[.slice ta t.length tc] 27))
  refine (lawful35_calls _ xv t x _ (ht'.out.ext hq.out) (hbyt.out.ext (hx2'.out.trans hq.out)) hv.out ho.out hl0 (by omega)).mono ?_
  rintro e w3 ⟨kv, pick, hk, hx3, hor⟩
  have hk3 := Lib.hid hk
  obtain ⟨ka, kc, rfl⟩ := hk.form
  have tb3 : w3.cell? ⟨w2.heap.size, 0, none⟩ = some (.slice ta t.length tc) := hx3.cell (by simp)
  have hb3 := World.block_lt_of_cell? _ _ tb3
  have ht3 := Lib.hid (ht'.out.ext (hq.out.trans hx3))
  have hw3 := Lib.hid (hx2'.out.trans (hq.out.trans hx3))
  have hby3 := Lib.hid (hbyt.out.ext hw3.out)
  clear hk hx3 hq ht' hx2' hbyt hx1'
  revert tb3 hb3
  generalize w2.heap.size = bt
  intro tb3 hb3
  obtain ⟨j0, hj0, jz0, jz1, jz2⟩ := info_parts step_info
  rcases hor with ⟨rfl, hlw⟩ | ⟨rfl, hno⟩
  · have hlw' := Lib.hid hlw
    have hpl' : Hid (pick.length = t.length) := lawful_len hlw
    clear hlw
    go_wp2_with fail
    refine (order_calls _ _ t pick _ ht3.out hk3.out).mono ?_
    rw [orderS_ok hlw'.out]
    rintro e w4 ⟨sv, rfl, hs, hx4⟩
    obtain ⟨ol, hol⟩ : ∃ ol, Hid (orderL t pick = ol) := ⟨_, rfl⟩
    have hol8 : ol.length ≤ 8 := by
      have h1 := order_len hlw'.out
      have h2 := chg_le pick
      have h3 := hpl'.out
      rw [hol.out] at h1
      omega
    have hless : Hid (∀ i x y, ol[i]? = some (x, y) → y ≠ -1 → checkS t pick (ol.take i ++ ol.drop (i + 1)) = 11) := by
      rw [← hol.out]
      exact fun i x y => less_check hlw'.out (by omega)
    rw [hol.out] at hs
    have hs4 := Lib.hid hs.read
    obtain ⟨sa, sc, rfl, hsn, hsc, sat⟩ := hs.read.open
    have sat' := Lib.hid sat
    have hrd := Lib.hid hs4.out.reads2
    have tb4 := hx4.cell tb3
    have hb4 := World.block_lt_of_cell? _ _ tb4
    have ht4 := Lib.hid (ht3.out.ext hx4)
    have hk4 := Lib.hid (hk3.out.ext hx4)
    have hw4 := Lib.hid (hw3.out.trans hx4)
    clear hs hx4 tb3 ht3 hk3 hw3 hb3 hol sat hby3
    go_upto_region 10 with (at_builtin; refine wpList_append_any _ rfl (.tmp 45) (.tmp 46) _ rfl w4.heap.size 42 j0 _ 2 16 Try.underlying32 hj0 jz0 jz1 jz2 rfl (by decide) (.slice (some ⟨w4.heap.size, 0, none⟩) 0 0) 0 [] rfl (World.ownsRow_made w4 #[] 0 (Nat.le_refl _) (by unfold maxLen; omega) rfl) w4.heap.size sa ol.length sc (spanCells ol) rfl (hrd.out.alloc (Nat.le_refl _) _) stepCells_one (by unfold maxLen; omega) (by omega) (by rw [World.size_alloc]; omega) ?_; intro v5 w5 hown5 hg5 hat5; rw [Nat.zero_add, List.nil_append] at hown5; obtain ⟨A5, C5, rfl⟩ := owns_form hown5; have hS5 := Lib.hid hown5; have hE5 := Lib.hid (((Ext.refl w4).alloc (.cells #[] 42)).grown hg5 (by intro k hk; simp [Value.ownBlock] at hk; omega)); clear hown5 hg5 hat5)
    go_wp2_with fail
    go_loopw [13, 14] (fun v13 v14 wr => ∃ (i : Nat) (l : List StepD), i ≤ ch.length ∧ i ≤ 4 ∧ v14 = .int .i64 i ∧ l.length ≤ ol.length + i ∧ Hid (Ext w4 wr) ∧ Hid (StepsO wr w4.heap.size v13 l)) (fun _ vi _ => 4 - (intOf vi).toNat)
    case atStart => exact ⟨0, ol, by omega, by omega, rfl, by omega, hE5, hS5⟩
    case round =>
      clear hE5 hS5
      obtain ⟨i, l, hi, hi4, rfl, hll, hx, hS⟩ := hrel
      obtain ⟨A, C, rfl⟩ := owns_form hS.out
      obtain ⟨n, hn⟩ : ∃ n, Hid (l.length = n) := ⟨_, rfl⟩
      rw [hn.out] at hll ⊢
      by_cases h1 : i < ch.length
      · by_cases h2 : i < 4
        · by_cases h3 : 0 < n
          · obtain ⟨b1, o1, c0, cy, cz, rfl, ok0, oky, okz, hb1, g0, g1, g2⟩ := cat'.out i h1 wr (hw4.out.trans hx.out)
            obtain ⟨p0, p1⟩ := ok0
            obtain ⟨p2, p3⟩ := oky
            obtain ⟨p4, p5⟩ := okz
            have z0 := After.cell g1
            have z1 := After.cell g2
            have z2 := After.cell g0
            have hnz : (n : Int) ≠ 0 := by omega
            obtain ⟨a, ha, han⟩ : ∃ a : Nat, Hid (cy % (n : Int) = (a : Int)) ∧ a < n := ⟨(cy % (n : Int)).toNat, by have := Int.emod_nonneg cy hnz; show _ = _; omega, by have := Int.emod_nonneg cy hnz; have := Int.emod_lt_of_pos cy (show (0 : Int) < (n : Int) by omega); omega⟩
            obtain ⟨b, hb, hbn⟩ : ∃ b : Nat, Hid (cz % (n : Int) = (b : Int)) ∧ b < n := ⟨(cz % (n : Int)).toNat, by have := Int.emod_nonneg cz hnz; show _ = _; omega, by have := Int.emod_nonneg cz hnz; have := Int.emod_lt_of_pos cz (show (0 : Int) < (n : Int) by omega); omega⟩
            go_wp2_with fail
            refine wp_region_after (by kernel_rfl) (by kernel_rfl) ?_
            repeat (go_big_quiet_step (fail))
            refine wpQuiet_nil ?_
            rintro _ ⟨y, rfl⟩
            rw [ha.out, hb.out]
            have g3 := z2 y
            have hxA := Lib.hid (hx.out.trans y.ext)
            have hSA : Hid (StepsO y.world w4.heap.size (.slice A l.length C) l) := Lib.hid (owns_ext hS.out y.ext)
            generalize y.world = wA at g3 hxA hSA ⊢
            clear z0 z1 z2 g0 g1 g2 ha hb hx hS hnz y
            obtain ⟨r, hr⟩ : ∃ r, c0 % 3 = r := ⟨_, rfl⟩
            have hcase : r = 0 ∨ r = 1 ∨ r = 2 := by omega
            obtain ⟨g, hg4, hAg, hnC, hC63⟩ : ∃ g, w4.heap.size ≤ g ∧ A = some ⟨g, 0, none⟩ ∧ n ≤ C ∧ C ≤ 9223372036854775807 := by
              rcases hSA.out.2 with ⟨_, h0⟩ | ⟨g, cap, cur, e, hb, hg, hnc, hcap, _⟩
              · have := hn.out; omega
              · cases e; exact ⟨g, hb, rfl, by rw [← hn.out]; exact hnc, by unfold maxLen at hcap; exact hcap⟩
            subst hAg
            have hsp : Hid (Spans wA (.slice (some ⟨g, 0, none⟩) n C) l) := by have := hSA.out.read; rwa [hn.out] at this
            have hn12 : n ≤ 12 := by omega
            have hszA := hxA.out.size
            rcases hcase with rfl | rfl | rfl
            · obtain ⟨⟨u, u2⟩, hu⟩ : ∃ u, Hid (l[a]? = some u) := ⟨_, List.getElem?_eq_getElem (by rw [hn.out]; exact han)⟩
              obtain ⟨⟨z, z2⟩, hz⟩ : ∃ u, Hid (l[b]? = some u) := ⟨_, List.getElem?_eq_getElem (by rw [hn.out]; exact hbn)⟩
              have k0 : wA.cell? ⟨g, a * 2, none⟩ = some (.int .i64 u) := by
                have h1 := World.ownsRow.cellAt hSA.out (a * 2) (by rw [hn.out]; omega)
                rwa [(spanCells_at a _ hu.out).1] at h1
              have k1 : wA.cell? ⟨g, a * 2 + 1, none⟩ = some (.int .i64 u2) := by
                have h1 := World.ownsRow.cellAt hSA.out (a * 2 + 1) (by rw [hn.out]; omega)
                rwa [(spanCells_at a _ hu.out).2] at h1
              have k2 : wA.cell? ⟨g, b * 2, none⟩ = some (.int .i64 z) := by
                have h1 := World.ownsRow.cellAt hSA.out (b * 2) (by rw [hn.out]; omega)
                rwa [(spanCells_at b _ hz.out).1] at h1
              have k3 : wA.cell? ⟨g, b * 2 + 1, none⟩ = some (.int .i64 z2) := by
                have h1 := World.ownsRow.cellAt hSA.out (b * 2 + 1) (by rw [hn.out]; omega)
                rwa [(spanCells_at b _ hz.out).2] at h1
              have hgl : g < wA.heap.size := World.block_lt_of_cell? _ _ k0
              go_upto_region 17 with (fail)
              go_region
              · skip
                go_upto_region 18 with (fail)
                refine wp_abs (S := fun V => Hid (Ext wA V) ∧ Hid (Blk V (wA.heap.size) 42 #[.int .i64 u, .int .i64 u2]) ∧ Hid (Blk V (wA.heap.size + 1) 42 #[.int .i64 z, .int .i64 z2])) ?_ ?_
                · exact ⟨Lib.hid (((Ext.refl wA).alloc _).alloc _).drew, Lib.hid (Blk.alloc (blk_new' rfl rfl) _), Lib.hid (blk_new' (by simp only [World.size_alloc]) rfl)⟩
                rintro V ⟨hV, hX, hY⟩
                have hgx : g ≠ wA.heap.size := by omega
                have hgy : g ≠ wA.heap.size + 1 := by omega
                have hSV := Lib.hid (owns_ext hSA.out hV.out)
                have f0 := World.ownsRow.frozenAt hSV.out (a * 2)
                have f1 := World.ownsRow.frozenAt hSV.out (a * 2 + 1)
                have m0 := hV.out.cell k0
                have m1 := hV.out.cell k1
                have n0 : V.cell? ⟨wA.heap.size + 1, 0, none⟩ = some (.int .i64 z) := hY.out.cell 0
                have n1 : V.cell? ⟨wA.heap.size + 1, 1, none⟩ = some (.int .i64 z2) := hY.out.cell 1
                have hEV := Lib.hid (hxA.out.trans hV.out)
                clear k0 k1 k2 k3 hV hSA
                go_upto_region 19 with (fail)
                refine wp_abs (S := fun V2 => Hid (Ext w4 V2) ∧ Hid (StepsO V2 w4.heap.size (.slice (some ⟨g, 0, none⟩) l.length C) (l.set a (z, z2))) ∧ Hid (Blk V2 (wA.heap.size) 42 #[.int .i64 u, .int .i64 u2])) ?_ ?_
                · exact ⟨Lib.hid ((hEV.out.setCell (p := ⟨g, a * 2, none⟩) hg4 _).setCell (p := ⟨g, a * 2 + 1, none⟩) hg4 _), Lib.hid (StepsO.set_ hSV.out rfl (by rw [hn.out]; exact han) z z2), Lib.hid ((((Keep.refl (fun k => k = g) V).setCell (p := ⟨g, a * 2, none⟩) (Or.inl rfl) _).setCell (p := ⟨g, a * 2 + 1, none⟩) (Or.inl rfl) _).blk hX.out (fun e => hgx e.symm))⟩
                clear f0 f1 m0 m1 n0 n1 hEV hX hY hSV
                rintro V2 ⟨hE2, hS2, hX2⟩
                obtain ⟨⟨w0, w0b⟩, hq⟩ : ∃ q, Hid ((l.set a (z, z2))[b]? = some q) := ⟨_, List.getElem?_eq_getElem (by rw [List.length_set, hn.out]; exact hbn)⟩
                have hS2' : V2.ownsRow w4.heap.size 42 2 (.slice (some ⟨g, 0, none⟩) l.length C) l.length (spanCells (l.set a (z, z2))) := by have := hS2.out; unfold StepsO at this; rwa [List.length_set] at this
                have m2 : V2.cell? ⟨g, b * 2, none⟩ = some (.int .i64 w0) := by
                  have h1 := World.ownsRow.cellAt hS2' (b * 2) (by rw [hn.out]; omega)
                  rwa [(spanCells_at b _ hq.out).1] at h1
                have m3 : V2.cell? ⟨g, b * 2 + 1, none⟩ = some (.int .i64 w0b) := by
                  have h1 := World.ownsRow.cellAt hS2' (b * 2 + 1) (by rw [hn.out]; omega)
                  rwa [(spanCells_at b _ hq.out).2] at h1
                have f2 := World.ownsRow.frozenAt hS2' (b * 2)
                have f3 := World.ownsRow.frozenAt hS2' (b * 2 + 1)
                have n2 : V2.cell? ⟨wA.heap.size, 0, none⟩ = some (.int .i64 u) := hX2.out.cell 0
                have n3 : V2.cell? ⟨wA.heap.size, 1, none⟩ = some (.int .i64 u2) := hX2.out.cell 1
                have hfin := Lib.hid (StepsO.set_ hS2.out (by rw [List.length_set]) (show b < l.length by rw [hn.out]; exact hbn) u u2)
                have hEfin := Lib.hid ((hE2.out.setCell (p := ⟨g, b * 2, none⟩) hg4 (.int .i64 u)).setCell (p := ⟨g, b * 2 + 1, none⟩) hg4 (.int .i64 u2))
                rw [hn.out] at hfin
                clear hS2' hq hX2 hS2 hE2
                go_wp2
                go_roundw
                case rel => exact ⟨i + 1, (l.set a (z, z2)).set b (u, u2), by omega, by omega, by go_num, by rw [List.length_set, List.length_set, hn.out]; omega, hEfin, hfin⟩
                case measure => simp [intOf]; omega
              · skip
                go_upto_region 18 with (fail)
                refine wp_abs (S := fun V => Hid (Ext wA V) ∧ Hid (Blk V (wA.heap.size + 1) 42 #[.int .i64 u, .int .i64 u2]) ∧ Hid (Blk V (wA.heap.size) 42 #[.int .i64 z, .int .i64 z2])) ?_ ?_
                · exact ⟨Lib.hid (((Ext.refl wA).alloc _).alloc _).drew, Lib.hid (blk_new' (by simp only [World.size_alloc]) rfl), Lib.hid (Blk.alloc (blk_new' rfl rfl) _)⟩
                rintro V ⟨hV, hX, hY⟩
                have hgx : g ≠ wA.heap.size + 1 := by omega
                have hgy : g ≠ wA.heap.size := by omega
                have hSV := Lib.hid (owns_ext hSA.out hV.out)
                have f0 := World.ownsRow.frozenAt hSV.out (a * 2)
                have f1 := World.ownsRow.frozenAt hSV.out (a * 2 + 1)
                have m0 := hV.out.cell k0
                have m1 := hV.out.cell k1
                have n0 : V.cell? ⟨wA.heap.size, 0, none⟩ = some (.int .i64 z) := hY.out.cell 0
                have n1 : V.cell? ⟨wA.heap.size, 1, none⟩ = some (.int .i64 z2) := hY.out.cell 1
                have hEV := Lib.hid (hxA.out.trans hV.out)
                clear k0 k1 k2 k3 hV hSA
                go_upto_region 19 with (fail)
                refine wp_abs (S := fun V2 => Hid (Ext w4 V2) ∧ Hid (StepsO V2 w4.heap.size (.slice (some ⟨g, 0, none⟩) l.length C) (l.set a (z, z2))) ∧ Hid (Blk V2 (wA.heap.size + 1) 42 #[.int .i64 u, .int .i64 u2])) ?_ ?_
                · exact ⟨Lib.hid ((hEV.out.setCell (p := ⟨g, a * 2, none⟩) hg4 _).setCell (p := ⟨g, a * 2 + 1, none⟩) hg4 _), Lib.hid (StepsO.set_ hSV.out rfl (by rw [hn.out]; exact han) z z2), Lib.hid ((((Keep.refl (fun k => k = g) V).setCell (p := ⟨g, a * 2, none⟩) (Or.inl rfl) _).setCell (p := ⟨g, a * 2 + 1, none⟩) (Or.inl rfl) _).blk hX.out (fun e => hgx e.symm))⟩
                clear f0 f1 m0 m1 n0 n1 hEV hX hY hSV
                rintro V2 ⟨hE2, hS2, hX2⟩
                obtain ⟨⟨w0, w0b⟩, hq⟩ : ∃ q, Hid ((l.set a (z, z2))[b]? = some q) := ⟨_, List.getElem?_eq_getElem (by rw [List.length_set, hn.out]; exact hbn)⟩
                have hS2' : V2.ownsRow w4.heap.size 42 2 (.slice (some ⟨g, 0, none⟩) l.length C) l.length (spanCells (l.set a (z, z2))) := by have := hS2.out; unfold StepsO at this; rwa [List.length_set] at this
                have m2 : V2.cell? ⟨g, b * 2, none⟩ = some (.int .i64 w0) := by
                  have h1 := World.ownsRow.cellAt hS2' (b * 2) (by rw [hn.out]; omega)
                  rwa [(spanCells_at b _ hq.out).1] at h1
                have m3 : V2.cell? ⟨g, b * 2 + 1, none⟩ = some (.int .i64 w0b) := by
                  have h1 := World.ownsRow.cellAt hS2' (b * 2 + 1) (by rw [hn.out]; omega)
                  rwa [(spanCells_at b _ hq.out).2] at h1
                have f2 := World.ownsRow.frozenAt hS2' (b * 2)
                have f3 := World.ownsRow.frozenAt hS2' (b * 2 + 1)
                have n2 : V2.cell? ⟨wA.heap.size + 1, 0, none⟩ = some (.int .i64 u) := hX2.out.cell 0
                have n3 : V2.cell? ⟨wA.heap.size + 1, 1, none⟩ = some (.int .i64 u2) := hX2.out.cell 1
                have hfin := Lib.hid (StepsO.set_ hS2.out (by rw [List.length_set]) (show b < l.length by rw [hn.out]; exact hbn) u u2)
                have hEfin := Lib.hid ((hE2.out.setCell (p := ⟨g, b * 2, none⟩) hg4 (.int .i64 u)).setCell (p := ⟨g, b * 2 + 1, none⟩) hg4 (.int .i64 u2))
                rw [hn.out] at hfin
                clear hS2' hq hX2 hS2 hE2
                go_wp2
                go_roundw
                case rel => exact ⟨i + 1, (l.set a (z, z2)).set b (u, u2), by omega, by omega, by go_num, by rw [List.length_set, List.length_set, hn.out]; omega, hEfin, hfin⟩
                case measure => simp [intOf]; omega
            · have hr1 := Lib.hid (hsp.out.take' (m := a) (by omega)).reads2
              have hnC' := Lib.hid hnC
              have hsc0 : C ≠ 0 := by omega
              have hac : a ≤ C := by omega
              have ha1c : a + 1 ≤ C := by omega
              have ha1n : a + 1 ≤ n := by omega
              have hl1 : Hid ((l.take a).length = a) := by show _ = _; rw [List.length_take, hn.out]; omega
              have hl2 : Hid ((l.drop (a + 1)).length = n - (a + 1)) := by show _ = _; rw [List.length_drop, hn.out]
              obtain ⟨n1, hn1⟩ : ∃ n1, n - (a + 1) = n1 := ⟨_, rfl⟩
              have hn1b : n1 ≤ 12 := by omega
              by_cases hci : C = a + 1
              · subst hci
                go_upto_region 22 with (at_builtin; refine wpList_append_any _ rfl (.tmp 116) (.tmp 119) _ rfl w4.heap.size 42 j0 _ 2 16 Try.underlying32 hj0 jz0 jz1 jz2 rfl (by decide) (.slice (some ⟨wA.heap.size, 0, none⟩) 0 0) 0 [] rfl (World.ownsRow_made wA #[] 0 hszA (by unfold maxLen; omega) rfl) wA.heap.size (some ⟨g, 0, none⟩) a (a + 1) (spanCells (l.take a)) rfl (hr1.out.alloc (Nat.le_refl _) _) stepCells_one (by unfold maxLen; omega) (by omega) (by rw [World.size_alloc]; omega) ?_; intro v7 w7 hown7 hg7 hat7; rw [Nat.zero_add, List.nil_append] at hown7; obtain ⟨A7, C7, rfl⟩ := owns_form hown7; have hE7 := Lib.hid (((Ext.refl wA).alloc (.cells #[] 42)).grown hg7 (by intro k hk; simp [Value.ownBlock] at hk; omega)); have hS7 := Lib.hid hown7; have hr7 := Lib.hid ((hsp.out.ext hE7.out).tail (k := a + 1) (by omega) hnC'.out); have hsz7 := hE7.out.size; clear hown7 hg7 hat7)
                go_wp2_with (at_builtin; refine wpList_append_any _ rfl (.tmp 121) (.tmp 125) _ rfl w4.heap.size 42 j0 _ 2 16 Try.underlying32 hj0 jz0 jz1 jz2 rfl (by decide) (.slice A7 a C7) a (spanCells (l.take a)) rfl hS7.out w7.heap.size _ n1 _ (spanCells (l.drop (a + 1))) rfl (by have := hr7.out; rw [hn1] at this; simpa using this) stepCells_one (by unfold maxLen; omega) (by omega) (by omega) ?_; intro v8 w8 hown8 hg8 hat8; obtain ⟨A8, C8, rfl⟩ := owns_form hown8; have hE8 := Lib.hid ((hxA.out.trans hE7.out).grown hg8 (by intro g hg; exact (hS7.out.lt g hg).1)); have hS8 := Lib.hid (StepsO.app hown8 hl1.out (hl2.out.trans hn1)); clear hown8 hg8 hat8)
                go_roundw
                case rel => exact ⟨i + 1, l.take a ++ l.drop (a + 1), by omega, by omega, by go_num, by rw [List.length_append, hl1.out, hl2.out]; omega, hE8, hS8⟩
                case measure => simp [intOf]; omega
              · have hadd : Hid ((⟨g, 0, none⟩ : Addr).add ((a + 1) * 2) = ⟨g, 0 + (a + 1) * 2, none⟩) := by show _ = _; unfold Addr.add; split <;> simp_all
                go_upto_region 22 with (at_builtin; refine wpList_append_any _ rfl (.tmp 116) (.tmp 119) _ rfl w4.heap.size 42 j0 _ 2 16 Try.underlying32 hj0 jz0 jz1 jz2 rfl (by decide) (.slice (some ⟨wA.heap.size, 0, none⟩) 0 0) 0 [] rfl (World.ownsRow_made wA #[] 0 hszA (by unfold maxLen; omega) rfl) wA.heap.size (some ⟨g, 0, none⟩) a C (spanCells (l.take a)) rfl (hr1.out.alloc (Nat.le_refl _) _) stepCells_one (by unfold maxLen; omega) (by omega) (by rw [World.size_alloc]; omega) ?_; intro v7 w7 hown7 hg7 hat7; rw [Nat.zero_add, List.nil_append] at hown7; obtain ⟨A7, C7, rfl⟩ := owns_form hown7; have hE7 := Lib.hid (((Ext.refl wA).alloc (.cells #[] 42)).grown hg7 (by intro k hk; simp [Value.ownBlock] at hk; omega)); have hS7 := Lib.hid hown7; have hr7 := Lib.hid ((hsp.out.ext hE7.out).tail (k := a + 1) (by omega) hnC'.out); have hsz7 := hE7.out.size; clear hown7 hg7 hat7)
                go_wp2_with (at_builtin; refine wpList_append_any _ rfl (.tmp 121) (.tmp 125) _ rfl w4.heap.size 42 j0 _ 2 16 Try.underlying32 hj0 jz0 jz1 jz2 rfl (by decide) (.slice A7 a C7) a (spanCells (l.take a)) rfl hS7.out w7.heap.size _ n1 _ (spanCells (l.drop (a + 1))) rfl (by have := hr7.out; rw [hn1] at this; rw [if_neg hci, Option.map_some, hadd.out, Nat.zero_add] at this; exact this) stepCells_one (by unfold maxLen; omega) (by omega) (by omega) ?_; intro v8 w8 hown8 hg8 hat8; obtain ⟨A8, C8, rfl⟩ := owns_form hown8; have hE8 := Lib.hid ((hxA.out.trans hE7.out).grown hg8 (by intro g hg; exact (hS7.out.lt g hg).1)); have hS8 := Lib.hid (StepsO.app hown8 hl1.out (hl2.out.trans hn1)); clear hown8 hg8 hat8)
                go_roundw
                case rel => exact ⟨i + 1, l.take a ++ l.drop (a + 1), by omega, by omega, by go_num, by rw [List.length_append, hl1.out, hl2.out]; omega, hE8, hS8⟩
                case measure => simp [intOf]; omega
            · have hal : a < l.length := by rw [hn.out]; exact han
              obtain ⟨⟨u, u2⟩, hu⟩ : ∃ u, Hid (l[a]? = some u) := ⟨_, List.getElem?_eq_getElem hal⟩
              have k0 : wA.cell? ⟨g, a * 2, none⟩ = some (.int .i64 u) := by
                have h1 := World.ownsRow.cellAt hSA.out (a * 2) (by omega)
                rwa [(spanCells_at a _ hu.out).1] at h1
              have hr1 := Lib.hid hsp.out.reads2
              clear hal hu
              go_wp2_with (at_builtin; refine wpList_append_any _ rfl (.tmp 93) (.tmp 94) _ rfl w4.heap.size 42 j0 _ 2 16 Try.underlying32 hj0 jz0 jz1 jz2 rfl (by decide) (.slice (some ⟨wA.heap.size, 0, none⟩) 1 1) 1 [.int .i64 u, .int .i64 (-1)] rfl (ownsRow_lit wA [.int .i64 u, .int .i64 (-1)] 1 hszA (by unfold maxLen; omega) rfl) wA.heap.size (some ⟨g, 0, none⟩) n C (spanCells l) rfl (hr1.out.alloc (Nat.le_refl _) _) stepCells_one (by unfold maxLen; omega) (by omega) (by rw [World.size_alloc]; omega) ?_; intro v8 w8 hown8 hg8 hat8; obtain ⟨A8, C8, rfl⟩ := owns_form hown8; have hE8 := Lib.hid ((hxA.out.trans ((Ext.refl wA).alloc (.cells #[.int .i64 u, .int .i64 (-1)] 42))).grown hg8 (by intro k hk; simp [Value.ownBlock] at hk; omega)); have hS8 := Lib.hid (StepsO.app (a := [(u, -1)]) hown8 rfl hn.out); clear hown8 hg8 hat8)
              go_roundw
              case rel => exact ⟨i + 1, [(u, -1)] ++ l, by omega, by omega, by go_num, by rw [List.length_append, hn.out]; simp; omega, hE8, hS8⟩
              case measure => simp [intOf]; omega
          · skip
            have tb := hx.out.cell tb4
            go_wp2_with fail
            refine (carryCheckFull_calls _ _ _ t pick l _ (ht4.out.ext hx.out) (hk4.out.ext hx.out) (by have := hS.out.read; rwa [hn.out] at this)).mono ?_
            obtain ⟨z, hz⟩ : ∃ z, Hid (checkS t pick l = z) := ⟨_, rfl⟩
            rw [hz.out]
            rintro e w6 ⟨rfl, hx6⟩
            have hV := Lib.hid (hx.out.trans hx6)
            have hS6 := Lib.hid (hS.out.read.ext hx6)
            rw [hn.out] at hS6
            have tb6 := hx6.cell tb
            clear hx6 tb hx hS
            by_cases hz0 : z = 0
            · have d0 : (z == 0) = true := by simp [hz0]
              have hcw := check_worth (hz.out.trans hz0)
              obtain ⟨ls, hls⟩ : ∃ ls, Hid (trailTo t l (n + 1) = ls) := ⟨_, rfl⟩
              have hR : Hid (statesS t l = (ls, 0)) := by
                show _ = _
                unfold statesS
                rw [if_pos hcw.1, hn.out, hls.out]
              have hll2 : Hid (ls.length = n + 1) := by show _ = _; rw [← hls.out, trailTo_len]
              have hcalm : Hid (∀ i r, ls[i]? = some r → calmB t r = true) := Lib.hid fun i r hi => by
                have hi2 : i < n + 1 := by have := (List.getElem?_eq_some_iff.1 hi).1; have := hll2.out; omega
                rw [← hls.out, trail_at hi2] at hi
                cases hi
                exact hcw.2.1 i (by rw [hn.out]; omega)
              have hlst : Hid (ls[n]? = some pick) := by
                show _ = _
                rw [← hls.out, trail_at (by omega), stAt, ← hn.out, List.take_of_length_le (Nat.le_refl _), hcw.2.2]
              have hn12 : n ≤ 12 := by omega
              clear hz hz0 hcw hls
              go_wp2_with fail
              refine (states_calls _ _ t l _ (ht4.out.ext hV.out) hS6.out).mono ?_
              rw [hR.out]
              rintro e w7 ⟨lv, rfl, hl, hx7⟩
              dsimp only at hl ⊢
              obtain ⟨la, lc, rfl, hln, hlc, rat⟩ := hl.open
              have rat' := Lib.hid rat
              rw [hll2.out] at hln ⊢
              have hW7 := Lib.hid (hV.out.trans hx7)
              clear hl rat hx7 hV hS6 hR tb6
              go_wp2_with fail
              go_loopw [22] (fun vi wr => ∃ m : Nat, m ≤ n + 1 ∧ vi = .int .i64 m ∧ Hid (Ext w7 wr)) (fun vi _ => n + 1 - (intOf vi).toNat)
              case atStart => exact ⟨0, by omega, rfl, Lib.hid (Ext.refl _)⟩
              case round =>
                obtain ⟨m, hm, rfl, hx⟩ := hrel
                have hV := Lib.hid (hW7.out.trans hx.out)
                by_cases q0 : m < n + 1
                · obtain ⟨b3, o3, r, ra, rc, e3, hb3, er, g0, ir⟩ := rat'.out m (by rw [hll2.out]; exact q0) wr hx.out
                  subst e3
                  have hC : Hid (∀ X, Ext wr X → Calls Try.prog 33 #[.agg #[.slice ta t.length tc], .slice ra r.length rc] X fun e w' => e = .returned (.bool true) ∧ Ext X w') := fun X hX => by
                    have := calm_calls (.slice ta t.length tc) (.slice ra r.length rc) t r X (ht4.out.ext (hV.out.trans hX)) (ir.ext hX)
                    rwa [hcalm.out m r er.out] at this
                  have c2 := hV.out.cell tb4
                  have z0 := After.cell c2
                  have z1 := After.cell g0
                  clear c2 g0 ir er hV
                  go_wp2_with fail
                  refine wp_region_after (by kernel_rfl) (by kernel_rfl) ?_
                  repeat (go_big_quiet_step (exact After.call _ (hC.out _ (After.ext _))))
                  refine wpQuiet_nil ?_
                  rintro _ ⟨y, rfl⟩
                  have hy := Lib.hid (hx.out.trans y.ext)
                  generalize y.world = Y at hy ⊢
                  clear z0 z1 hx hC
                  go_wp2
                  go_roundw
                  case rel => exact ⟨m + 1, by omega, by go_num, hy⟩
                  case measure => simp [intOf]; omega
                · obtain ⟨b3, o3, r, ra, rc, e3, hb3, er, g0, ir⟩ := rat'.out n (by rw [hll2.out]; omega) wr hx.out
                  subst e3
                  have hrp : Hid (r = pick) := Option.some.inj (er.out.symm.trans hlst.out)
                  have ir' := Lib.hid ir
                  clear ir er hx
                  go_wp2_with fail
                  refine (rSame35_calls _ _ r pick _ ir'.out (hk4.out.ext hV.out)).mono ?_
                  rw [show decide (r = pick) = true by rw [hrp.out]; simp]
                  rintro e w9 ⟨rfl, hx9⟩
                  replace hV := Lib.hid (hV.out.trans hx9)
                  clear hx9 g0 ir'
                  go_wp2_with fail
                  go_loopw [23, 24] (fun v23 _ wr => ∃ k : Nat, k ≤ ol.length ∧ v23 = .int .i64 k ∧ Hid (Ext w4 wr)) (fun vk _ _ => ol.length - (intOf vk).toNat)
                  case atStart => exact ⟨0, by omega, rfl, hV⟩
                  case round =>
                    clear hV
                    obtain ⟨k, hk, rfl, hy⟩ := hrel
                    by_cases q1 : k < ol.length
                    · obtain ⟨b2, o2, s1, s2, e2, hb2, _, es, g1, g2⟩ := sat'.out k q1 wr hy.out
                      subst e2
                      have hsp := Lib.hid (hs4.out.ext hy.out)
                      have hks : k ≤ sc := by omega
                      have hk1s : k + 1 ≤ sc := by omega
                      have hr1 := Lib.hid (hsp.out.take' (m := k) (by omega)).reads2
                      have hsn' := Lib.hid hsn
                      have hsc0 : sc ≠ 0 := by omega
                      have tbk := hy.out.cell tb4
                      have hle := Lib.hid (hless.out k s1 s2 es.out)
                      have hl1 : Hid ((ol.take k).length = k) := by show _ = _; rw [List.length_take]; omega
                      have hl2 : Hid ((ol.drop (k + 1)).length = ol.length - (k + 1)) := by show _ = _; rw [List.length_drop]
                      obtain ⟨n1, hn1⟩ : ∃ n1, ol.length - (k + 1) = n1 := ⟨_, rfl⟩
                      have hn1b : n1 ≤ 8 := by omega
                      clear es g1
                      by_cases hci : sc = k + 1
                      · subst hci
                        go_upto_region 38 with (at_builtin; refine wpList_append_any _ rfl (.tmp 175) (.tmp 178) _ rfl wr.heap.size 42 j0 _ 2 16 Try.underlying32 hj0 jz0 jz1 jz2 rfl (by decide) (.slice (some ⟨wr.heap.size, 0, none⟩) 0 0) 0 [] rfl (World.ownsRow_made wr #[] 0 (Nat.le_refl _) (by unfold maxLen; omega) rfl) wr.heap.size (some ⟨b2, o2, none⟩) k (k + 1) (spanCells (ol.take k)) rfl (hr1.out.alloc (Nat.le_refl _) _) stepCells_one (by unfold maxLen; omega) (by omega) (by rw [World.size_alloc]; omega) ?_; intro v7 w7 hown7 hg7 hat7; rw [Nat.zero_add, List.nil_append] at hown7; obtain ⟨A7, C7, rfl⟩ := owns_form hown7; have hE7 := Lib.hid (((Ext.refl wr).alloc (.cells #[] 42)).grown hg7 (by intro k hk; simp [Value.ownBlock] at hk; omega)); have hS7 := Lib.hid hown7; have hr7 := Lib.hid ((hsp.out.ext hE7.out).tail (k := k + 1) (by omega) hsn'.out); have hsz7 := hE7.out.size; clear hown7 hg7 hat7)
                        go_upto_region 39 with (at_builtin; refine wpList_append_any _ rfl (.tmp 180) (.tmp 184) _ rfl wr.heap.size 42 j0 _ 2 16 Try.underlying32 hj0 jz0 jz1 jz2 rfl (by decide) (.slice A7 k C7) k (spanCells (ol.take k)) rfl hS7.out w7.heap.size _ n1 _ (spanCells (ol.drop (k + 1))) rfl (by have := hr7.out; rw [hn1] at this; simpa using this) stepCells_one (by unfold maxLen; omega) (by omega) (by omega) ?_; intro v8 w8 hown8 hg8 hat8; obtain ⟨A8, C8, rfl⟩ := owns_form hown8; have hE8 := Lib.hid (hE7.out.grown hg8 (by intro g hg; exact (hS7.out.lt g hg).1)); have hS8 := Lib.hid (StepsO.app hown8 hl1.out (hl2.out.trans hn1)); clear hown8 hg8 hat8)
                        have c2 := hE8.out.cell g2
                        have cb := hE8.out.cell tbk
                        have hy8 := Lib.hid (hy.out.trans hE8.out)
                        clear g2 tbk hE7 hE8 hS7 hr7 hr1 hsp hy
                        by_cases hs2 : s2 = -1
                        · have d1 : (s2 != -1) = false := by simp [hs2]
                          clear hle hs2
                          go_wp2
                          go_roundw
                          case rel => exact ⟨k + 1, by omega, by go_num, hy8⟩
                          case measure => simp [intOf]; omega
                        · have d1 : (s2 != -1) = true := by simp [hs2]
                          have hR9 := Lib.hid (hle.out hs2)
                          clear hle hs2
                          go_wp2_with fail
                          refine (carryCheckFull_calls _ _ _ t pick (ol.take k ++ ol.drop (k + 1)) _ (ht4.out.ext hy8.out) (hk4.out.ext hy8.out) hS8.out.read).mono ?_
                          rw [hR9.out]
                          rintro e w9 ⟨rfl, hx9⟩
                          have hy9 := Lib.hid (hy8.out.trans hx9)
                          clear hx9
                          go_wp2
                          go_roundw
                          case rel => exact ⟨k + 1, by omega, by go_num, hy9⟩
                          case measure => simp [intOf]; omega
                      · have hadd : Hid ((⟨b2, o2, none⟩ : Addr).add ((k + 1) * 2) = ⟨b2, o2 + (k + 1) * 2, none⟩) := by show _ = _; unfold Addr.add; split <;> simp_all
                        go_upto_region 38 with (at_builtin; refine wpList_append_any _ rfl (.tmp 175) (.tmp 178) _ rfl wr.heap.size 42 j0 _ 2 16 Try.underlying32 hj0 jz0 jz1 jz2 rfl (by decide) (.slice (some ⟨wr.heap.size, 0, none⟩) 0 0) 0 [] rfl (World.ownsRow_made wr #[] 0 (Nat.le_refl _) (by unfold maxLen; omega) rfl) wr.heap.size (some ⟨b2, o2, none⟩) k sc (spanCells (ol.take k)) rfl (hr1.out.alloc (Nat.le_refl _) _) stepCells_one (by unfold maxLen; omega) (by omega) (by rw [World.size_alloc]; omega) ?_; intro v7 w7 hown7 hg7 hat7; rw [Nat.zero_add, List.nil_append] at hown7; obtain ⟨A7, C7, rfl⟩ := owns_form hown7; have hE7 := Lib.hid (((Ext.refl wr).alloc (.cells #[] 42)).grown hg7 (by intro k hk; simp [Value.ownBlock] at hk; omega)); have hS7 := Lib.hid hown7; have hr7 := Lib.hid ((hsp.out.ext hE7.out).tail (k := k + 1) (by omega) hsn'.out); have hsz7 := hE7.out.size; clear hown7 hg7 hat7)
                        go_upto_region 39 with (at_builtin; refine wpList_append_any _ rfl (.tmp 180) (.tmp 184) _ rfl wr.heap.size 42 j0 _ 2 16 Try.underlying32 hj0 jz0 jz1 jz2 rfl (by decide) (.slice A7 k C7) k (spanCells (ol.take k)) rfl hS7.out w7.heap.size _ n1 _ (spanCells (ol.drop (k + 1))) rfl (by have := hr7.out; rw [hn1] at this; rw [if_neg hci, Option.map_some, hadd.out] at this; exact this) stepCells_one (by unfold maxLen; omega) (by omega) (by omega) ?_; intro v8 w8 hown8 hg8 hat8; obtain ⟨A8, C8, rfl⟩ := owns_form hown8; have hE8 := Lib.hid (hE7.out.grown hg8 (by intro g hg; exact (hS7.out.lt g hg).1)); have hS8 := Lib.hid (StepsO.app hown8 hl1.out (hl2.out.trans hn1)); clear hown8 hg8 hat8)
                        have c2 := hE8.out.cell g2
                        have cb := hE8.out.cell tbk
                        have hy8 := Lib.hid (hy.out.trans hE8.out)
                        clear g2 tbk hE7 hE8 hS7 hr7 hr1 hsp hy
                        by_cases hs2 : s2 = -1
                        · have d1 : (s2 != -1) = false := by simp [hs2]
                          clear hle hs2
                          go_wp2
                          go_roundw
                          case rel => exact ⟨k + 1, by omega, by go_num, hy8⟩
                          case measure => simp [intOf]; omega
                        · have d1 : (s2 != -1) = true := by simp [hs2]
                          have hR9 := Lib.hid (hle.out hs2)
                          clear hle hs2
                          go_wp2_with fail
                          refine (carryCheckFull_calls _ _ _ t pick (ol.take k ++ ol.drop (k + 1)) _ (ht4.out.ext hy8.out) (hk4.out.ext hy8.out) hS8.out.read).mono ?_
                          rw [hR9.out]
                          rintro e w9 ⟨rfl, hx9⟩
                          have hy9 := Lib.hid (hy8.out.trans hx9)
                          clear hx9
                          go_wp2
                          go_roundw
                          case rel => exact ⟨k + 1, by omega, by go_num, hy9⟩
                          case measure => simp [intOf]; omega
                    · go_wp2
                      go_ret
                      exact ⟨rfl, hw4.out.trans hy.out⟩
            · have d0 : (z == 0) = false := by simp [hz0]
              clear hS6 hz hz0
              go_wp2_with fail
              go_loopw [23, 24] (fun v23 _ wr => ∃ k : Nat, k ≤ ol.length ∧ v23 = .int .i64 k ∧ Hid (Ext w4 wr)) (fun vk _ _ => ol.length - (intOf vk).toNat)
              case atStart => exact ⟨0, by omega, rfl, hV⟩
              case round =>
                clear hV
                obtain ⟨k, hk, rfl, hy⟩ := hrel
                by_cases q1 : k < ol.length
                · obtain ⟨b2, o2, s1, s2, e2, hb2, _, es, g1, g2⟩ := sat'.out k q1 wr hy.out
                  subst e2
                  have hsp := Lib.hid (hs4.out.ext hy.out)
                  have hks : k ≤ sc := by omega
                  have hk1s : k + 1 ≤ sc := by omega
                  have hr1 := Lib.hid (hsp.out.take' (m := k) (by omega)).reads2
                  have hsn' := Lib.hid hsn
                  have hsc0 : sc ≠ 0 := by omega
                  have tbk := hy.out.cell tb4
                  have hle := Lib.hid (hless.out k s1 s2 es.out)
                  have hl1 : Hid ((ol.take k).length = k) := by show _ = _; rw [List.length_take]; omega
                  have hl2 : Hid ((ol.drop (k + 1)).length = ol.length - (k + 1)) := by show _ = _; rw [List.length_drop]
                  obtain ⟨n1, hn1⟩ : ∃ n1, ol.length - (k + 1) = n1 := ⟨_, rfl⟩
                  have hn1b : n1 ≤ 8 := by omega
                  clear es g1
                  by_cases hci : sc = k + 1
                  · subst hci
                    go_upto_region 38 with (at_builtin; refine wpList_append_any _ rfl (.tmp 175) (.tmp 178) _ rfl wr.heap.size 42 j0 _ 2 16 Try.underlying32 hj0 jz0 jz1 jz2 rfl (by decide) (.slice (some ⟨wr.heap.size, 0, none⟩) 0 0) 0 [] rfl (World.ownsRow_made wr #[] 0 (Nat.le_refl _) (by unfold maxLen; omega) rfl) wr.heap.size (some ⟨b2, o2, none⟩) k (k + 1) (spanCells (ol.take k)) rfl (hr1.out.alloc (Nat.le_refl _) _) stepCells_one (by unfold maxLen; omega) (by omega) (by rw [World.size_alloc]; omega) ?_; intro v7 w7 hown7 hg7 hat7; rw [Nat.zero_add, List.nil_append] at hown7; obtain ⟨A7, C7, rfl⟩ := owns_form hown7; have hE7 := Lib.hid (((Ext.refl wr).alloc (.cells #[] 42)).grown hg7 (by intro k hk; simp [Value.ownBlock] at hk; omega)); have hS7 := Lib.hid hown7; have hr7 := Lib.hid ((hsp.out.ext hE7.out).tail (k := k + 1) (by omega) hsn'.out); have hsz7 := hE7.out.size; clear hown7 hg7 hat7)
                    go_upto_region 39 with (at_builtin; refine wpList_append_any _ rfl (.tmp 180) (.tmp 184) _ rfl wr.heap.size 42 j0 _ 2 16 Try.underlying32 hj0 jz0 jz1 jz2 rfl (by decide) (.slice A7 k C7) k (spanCells (ol.take k)) rfl hS7.out w7.heap.size _ n1 _ (spanCells (ol.drop (k + 1))) rfl (by have := hr7.out; rw [hn1] at this; simpa using this) stepCells_one (by unfold maxLen; omega) (by omega) (by omega) ?_; intro v8 w8 hown8 hg8 hat8; obtain ⟨A8, C8, rfl⟩ := owns_form hown8; have hE8 := Lib.hid (hE7.out.grown hg8 (by intro g hg; exact (hS7.out.lt g hg).1)); have hS8 := Lib.hid (StepsO.app hown8 hl1.out (hl2.out.trans hn1)); clear hown8 hg8 hat8)
                    have c2 := hE8.out.cell g2
                    have cb := hE8.out.cell tbk
                    have hy8 := Lib.hid (hy.out.trans hE8.out)
                    clear g2 tbk hE7 hE8 hS7 hr7 hr1 hsp hy
                    by_cases hs2 : s2 = -1
                    · have d1 : (s2 != -1) = false := by simp [hs2]
                      clear hle hs2
                      go_wp2
                      go_roundw
                      case rel => exact ⟨k + 1, by omega, by go_num, hy8⟩
                      case measure => simp [intOf]; omega
                    · have d1 : (s2 != -1) = true := by simp [hs2]
                      have hR9 := Lib.hid (hle.out hs2)
                      clear hle hs2
                      go_wp2_with fail
                      refine (carryCheckFull_calls _ _ _ t pick (ol.take k ++ ol.drop (k + 1)) _ (ht4.out.ext hy8.out) (hk4.out.ext hy8.out) hS8.out.read).mono ?_
                      rw [hR9.out]
                      rintro e w9 ⟨rfl, hx9⟩
                      have hy9 := Lib.hid (hy8.out.trans hx9)
                      clear hx9
                      go_wp2
                      go_roundw
                      case rel => exact ⟨k + 1, by omega, by go_num, hy9⟩
                      case measure => simp [intOf]; omega
                  · have hadd : Hid ((⟨b2, o2, none⟩ : Addr).add ((k + 1) * 2) = ⟨b2, o2 + (k + 1) * 2, none⟩) := by show _ = _; unfold Addr.add; split <;> simp_all
                    go_upto_region 38 with (at_builtin; refine wpList_append_any _ rfl (.tmp 175) (.tmp 178) _ rfl wr.heap.size 42 j0 _ 2 16 Try.underlying32 hj0 jz0 jz1 jz2 rfl (by decide) (.slice (some ⟨wr.heap.size, 0, none⟩) 0 0) 0 [] rfl (World.ownsRow_made wr #[] 0 (Nat.le_refl _) (by unfold maxLen; omega) rfl) wr.heap.size (some ⟨b2, o2, none⟩) k sc (spanCells (ol.take k)) rfl (hr1.out.alloc (Nat.le_refl _) _) stepCells_one (by unfold maxLen; omega) (by omega) (by rw [World.size_alloc]; omega) ?_; intro v7 w7 hown7 hg7 hat7; rw [Nat.zero_add, List.nil_append] at hown7; obtain ⟨A7, C7, rfl⟩ := owns_form hown7; have hE7 := Lib.hid (((Ext.refl wr).alloc (.cells #[] 42)).grown hg7 (by intro k hk; simp [Value.ownBlock] at hk; omega)); have hS7 := Lib.hid hown7; have hr7 := Lib.hid ((hsp.out.ext hE7.out).tail (k := k + 1) (by omega) hsn'.out); have hsz7 := hE7.out.size; clear hown7 hg7 hat7)
                    go_upto_region 39 with (at_builtin; refine wpList_append_any _ rfl (.tmp 180) (.tmp 184) _ rfl wr.heap.size 42 j0 _ 2 16 Try.underlying32 hj0 jz0 jz1 jz2 rfl (by decide) (.slice A7 k C7) k (spanCells (ol.take k)) rfl hS7.out w7.heap.size _ n1 _ (spanCells (ol.drop (k + 1))) rfl (by have := hr7.out; rw [hn1] at this; rw [if_neg hci, Option.map_some, hadd.out] at this; exact this) stepCells_one (by unfold maxLen; omega) (by omega) (by omega) ?_; intro v8 w8 hown8 hg8 hat8; obtain ⟨A8, C8, rfl⟩ := owns_form hown8; have hE8 := Lib.hid (hE7.out.grown hg8 (by intro g hg; exact (hS7.out.lt g hg).1)); have hS8 := Lib.hid (StepsO.app hown8 hl1.out (hl2.out.trans hn1)); clear hown8 hg8 hat8)
                    have c2 := hE8.out.cell g2
                    have cb := hE8.out.cell tbk
                    have hy8 := Lib.hid (hy.out.trans hE8.out)
                    clear g2 tbk hE7 hE8 hS7 hr7 hr1 hsp hy
                    by_cases hs2 : s2 = -1
                    · have d1 : (s2 != -1) = false := by simp [hs2]
                      clear hle hs2
                      go_wp2
                      go_roundw
                      case rel => exact ⟨k + 1, by omega, by go_num, hy8⟩
                      case measure => simp [intOf]; omega
                    · have d1 : (s2 != -1) = true := by simp [hs2]
                      have hR9 := Lib.hid (hle.out hs2)
                      clear hle hs2
                      go_wp2_with fail
                      refine (carryCheckFull_calls _ _ _ t pick (ol.take k ++ ol.drop (k + 1)) _ (ht4.out.ext hy8.out) (hk4.out.ext hy8.out) hS8.out.read).mono ?_
                      rw [hR9.out]
                      rintro e w9 ⟨rfl, hx9⟩
                      have hy9 := Lib.hid (hy8.out.trans hx9)
                      clear hx9
                      go_wp2
                      go_roundw
                      case rel => exact ⟨k + 1, by omega, by go_num, hy9⟩
                      case measure => simp [intOf]; omega
                · go_wp2
                  go_ret
                  exact ⟨rfl, hw4.out.trans hy.out⟩
        · skip
          have tb := hx.out.cell tb4
          go_wp2_with fail
          refine (carryCheckFull_calls _ _ _ t pick l _ (ht4.out.ext hx.out) (hk4.out.ext hx.out) (by have := hS.out.read; rwa [hn.out] at this)).mono ?_
          obtain ⟨z, hz⟩ : ∃ z, Hid (checkS t pick l = z) := ⟨_, rfl⟩
          rw [hz.out]
          rintro e w6 ⟨rfl, hx6⟩
          have hV := Lib.hid (hx.out.trans hx6)
          have hS6 := Lib.hid (hS.out.read.ext hx6)
          rw [hn.out] at hS6
          have tb6 := hx6.cell tb
          clear hx6 tb hx hS
          by_cases hz0 : z = 0
          · have d0 : (z == 0) = true := by simp [hz0]
            have hcw := check_worth (hz.out.trans hz0)
            obtain ⟨ls, hls⟩ : ∃ ls, Hid (trailTo t l (n + 1) = ls) := ⟨_, rfl⟩
            have hR : Hid (statesS t l = (ls, 0)) := by
              show _ = _
              unfold statesS
              rw [if_pos hcw.1, hn.out, hls.out]
            have hll2 : Hid (ls.length = n + 1) := by show _ = _; rw [← hls.out, trailTo_len]
            have hcalm : Hid (∀ i r, ls[i]? = some r → calmB t r = true) := Lib.hid fun i r hi => by
              have hi2 : i < n + 1 := by have := (List.getElem?_eq_some_iff.1 hi).1; have := hll2.out; omega
              rw [← hls.out, trail_at hi2] at hi
              cases hi
              exact hcw.2.1 i (by rw [hn.out]; omega)
            have hlst : Hid (ls[n]? = some pick) := by
              show _ = _
              rw [← hls.out, trail_at (by omega), stAt, ← hn.out, List.take_of_length_le (Nat.le_refl _), hcw.2.2]
            have hn12 : n ≤ 12 := by omega
            clear hz hz0 hcw hls
            go_wp2_with fail
            refine (states_calls _ _ t l _ (ht4.out.ext hV.out) hS6.out).mono ?_
            rw [hR.out]
            rintro e w7 ⟨lv, rfl, hl, hx7⟩
            dsimp only at hl ⊢
            obtain ⟨la, lc, rfl, hln, hlc, rat⟩ := hl.open
            have rat' := Lib.hid rat
            rw [hll2.out] at hln ⊢
            have hW7 := Lib.hid (hV.out.trans hx7)
            clear hl rat hx7 hV hS6 hR tb6
            go_wp2_with fail
            go_loopw [22] (fun vi wr => ∃ m : Nat, m ≤ n + 1 ∧ vi = .int .i64 m ∧ Hid (Ext w7 wr)) (fun vi _ => n + 1 - (intOf vi).toNat)
            case atStart => exact ⟨0, by omega, rfl, Lib.hid (Ext.refl _)⟩
            case round =>
              obtain ⟨m, hm, rfl, hx⟩ := hrel
              have hV := Lib.hid (hW7.out.trans hx.out)
              by_cases q0 : m < n + 1
              · obtain ⟨b3, o3, r, ra, rc, e3, hb3, er, g0, ir⟩ := rat'.out m (by rw [hll2.out]; exact q0) wr hx.out
                subst e3
                have hC : Hid (∀ X, Ext wr X → Calls Try.prog 33 #[.agg #[.slice ta t.length tc], .slice ra r.length rc] X fun e w' => e = .returned (.bool true) ∧ Ext X w') := fun X hX => by
                  have := calm_calls (.slice ta t.length tc) (.slice ra r.length rc) t r X (ht4.out.ext (hV.out.trans hX)) (ir.ext hX)
                  rwa [hcalm.out m r er.out] at this
                have c2 := hV.out.cell tb4
                have z0 := After.cell c2
                have z1 := After.cell g0
                clear c2 g0 ir er hV
                go_wp2_with fail
                refine wp_region_after (by kernel_rfl) (by kernel_rfl) ?_
                repeat (go_big_quiet_step (exact After.call _ (hC.out _ (After.ext _))))
                refine wpQuiet_nil ?_
                rintro _ ⟨y, rfl⟩
                have hy := Lib.hid (hx.out.trans y.ext)
                generalize y.world = Y at hy ⊢
                clear z0 z1 hx hC
                go_wp2
                go_roundw
                case rel => exact ⟨m + 1, by omega, by go_num, hy⟩
                case measure => simp [intOf]; omega
              · obtain ⟨b3, o3, r, ra, rc, e3, hb3, er, g0, ir⟩ := rat'.out n (by rw [hll2.out]; omega) wr hx.out
                subst e3
                have hrp : Hid (r = pick) := Option.some.inj (er.out.symm.trans hlst.out)
                have ir' := Lib.hid ir
                clear ir er hx
                go_wp2_with fail
                refine (rSame35_calls _ _ r pick _ ir'.out (hk4.out.ext hV.out)).mono ?_
                rw [show decide (r = pick) = true by rw [hrp.out]; simp]
                rintro e w9 ⟨rfl, hx9⟩
                replace hV := Lib.hid (hV.out.trans hx9)
                clear hx9 g0 ir'
                go_wp2_with fail
                go_loopw [23, 24] (fun v23 _ wr => ∃ k : Nat, k ≤ ol.length ∧ v23 = .int .i64 k ∧ Hid (Ext w4 wr)) (fun vk _ _ => ol.length - (intOf vk).toNat)
                case atStart => exact ⟨0, by omega, rfl, hV⟩
                case round =>
                  clear hV
                  obtain ⟨k, hk, rfl, hy⟩ := hrel
                  by_cases q1 : k < ol.length
                  · obtain ⟨b2, o2, s1, s2, e2, hb2, _, es, g1, g2⟩ := sat'.out k q1 wr hy.out
                    subst e2
                    have hsp := Lib.hid (hs4.out.ext hy.out)
                    have hks : k ≤ sc := by omega
                    have hk1s : k + 1 ≤ sc := by omega
                    have hr1 := Lib.hid (hsp.out.take' (m := k) (by omega)).reads2
                    have hsn' := Lib.hid hsn
                    have hsc0 : sc ≠ 0 := by omega
                    have tbk := hy.out.cell tb4
                    have hle := Lib.hid (hless.out k s1 s2 es.out)
                    have hl1 : Hid ((ol.take k).length = k) := by show _ = _; rw [List.length_take]; omega
                    have hl2 : Hid ((ol.drop (k + 1)).length = ol.length - (k + 1)) := by show _ = _; rw [List.length_drop]
                    obtain ⟨n1, hn1⟩ : ∃ n1, ol.length - (k + 1) = n1 := ⟨_, rfl⟩
                    have hn1b : n1 ≤ 8 := by omega
                    clear es g1
                    by_cases hci : sc = k + 1
                    · subst hci
                      go_upto_region 38 with (at_builtin; refine wpList_append_any _ rfl (.tmp 175) (.tmp 178) _ rfl wr.heap.size 42 j0 _ 2 16 Try.underlying32 hj0 jz0 jz1 jz2 rfl (by decide) (.slice (some ⟨wr.heap.size, 0, none⟩) 0 0) 0 [] rfl (World.ownsRow_made wr #[] 0 (Nat.le_refl _) (by unfold maxLen; omega) rfl) wr.heap.size (some ⟨b2, o2, none⟩) k (k + 1) (spanCells (ol.take k)) rfl (hr1.out.alloc (Nat.le_refl _) _) stepCells_one (by unfold maxLen; omega) (by omega) (by rw [World.size_alloc]; omega) ?_; intro v7 w7 hown7 hg7 hat7; rw [Nat.zero_add, List.nil_append] at hown7; obtain ⟨A7, C7, rfl⟩ := owns_form hown7; have hE7 := Lib.hid (((Ext.refl wr).alloc (.cells #[] 42)).grown hg7 (by intro k hk; simp [Value.ownBlock] at hk; omega)); have hS7 := Lib.hid hown7; have hr7 := Lib.hid ((hsp.out.ext hE7.out).tail (k := k + 1) (by omega) hsn'.out); have hsz7 := hE7.out.size; clear hown7 hg7 hat7)
                      go_upto_region 39 with (at_builtin; refine wpList_append_any _ rfl (.tmp 180) (.tmp 184) _ rfl wr.heap.size 42 j0 _ 2 16 Try.underlying32 hj0 jz0 jz1 jz2 rfl (by decide) (.slice A7 k C7) k (spanCells (ol.take k)) rfl hS7.out w7.heap.size _ n1 _ (spanCells (ol.drop (k + 1))) rfl (by have := hr7.out; rw [hn1] at this; simpa using this) stepCells_one (by unfold maxLen; omega) (by omega) (by omega) ?_; intro v8 w8 hown8 hg8 hat8; obtain ⟨A8, C8, rfl⟩ := owns_form hown8; have hE8 := Lib.hid (hE7.out.grown hg8 (by intro g hg; exact (hS7.out.lt g hg).1)); have hS8 := Lib.hid (StepsO.app hown8 hl1.out (hl2.out.trans hn1)); clear hown8 hg8 hat8)
                      have c2 := hE8.out.cell g2
                      have cb := hE8.out.cell tbk
                      have hy8 := Lib.hid (hy.out.trans hE8.out)
                      clear g2 tbk hE7 hE8 hS7 hr7 hr1 hsp hy
                      by_cases hs2 : s2 = -1
                      · have d1 : (s2 != -1) = false := by simp [hs2]
                        clear hle hs2
                        go_wp2
                        go_roundw
                        case rel => exact ⟨k + 1, by omega, by go_num, hy8⟩
                        case measure => simp [intOf]; omega
                      · have d1 : (s2 != -1) = true := by simp [hs2]
                        have hR9 := Lib.hid (hle.out hs2)
                        clear hle hs2
                        go_wp2_with fail
                        refine (carryCheckFull_calls _ _ _ t pick (ol.take k ++ ol.drop (k + 1)) _ (ht4.out.ext hy8.out) (hk4.out.ext hy8.out) hS8.out.read).mono ?_
                        rw [hR9.out]
                        rintro e w9 ⟨rfl, hx9⟩
                        have hy9 := Lib.hid (hy8.out.trans hx9)
                        clear hx9
                        go_wp2
                        go_roundw
                        case rel => exact ⟨k + 1, by omega, by go_num, hy9⟩
                        case measure => simp [intOf]; omega
                    · have hadd : Hid ((⟨b2, o2, none⟩ : Addr).add ((k + 1) * 2) = ⟨b2, o2 + (k + 1) * 2, none⟩) := by show _ = _; unfold Addr.add; split <;> simp_all
                      go_upto_region 38 with (at_builtin; refine wpList_append_any _ rfl (.tmp 175) (.tmp 178) _ rfl wr.heap.size 42 j0 _ 2 16 Try.underlying32 hj0 jz0 jz1 jz2 rfl (by decide) (.slice (some ⟨wr.heap.size, 0, none⟩) 0 0) 0 [] rfl (World.ownsRow_made wr #[] 0 (Nat.le_refl _) (by unfold maxLen; omega) rfl) wr.heap.size (some ⟨b2, o2, none⟩) k sc (spanCells (ol.take k)) rfl (hr1.out.alloc (Nat.le_refl _) _) stepCells_one (by unfold maxLen; omega) (by omega) (by rw [World.size_alloc]; omega) ?_; intro v7 w7 hown7 hg7 hat7; rw [Nat.zero_add, List.nil_append] at hown7; obtain ⟨A7, C7, rfl⟩ := owns_form hown7; have hE7 := Lib.hid (((Ext.refl wr).alloc (.cells #[] 42)).grown hg7 (by intro k hk; simp [Value.ownBlock] at hk; omega)); have hS7 := Lib.hid hown7; have hr7 := Lib.hid ((hsp.out.ext hE7.out).tail (k := k + 1) (by omega) hsn'.out); have hsz7 := hE7.out.size; clear hown7 hg7 hat7)
                      go_upto_region 39 with (at_builtin; refine wpList_append_any _ rfl (.tmp 180) (.tmp 184) _ rfl wr.heap.size 42 j0 _ 2 16 Try.underlying32 hj0 jz0 jz1 jz2 rfl (by decide) (.slice A7 k C7) k (spanCells (ol.take k)) rfl hS7.out w7.heap.size _ n1 _ (spanCells (ol.drop (k + 1))) rfl (by have := hr7.out; rw [hn1] at this; rw [if_neg hci, Option.map_some, hadd.out] at this; exact this) stepCells_one (by unfold maxLen; omega) (by omega) (by omega) ?_; intro v8 w8 hown8 hg8 hat8; obtain ⟨A8, C8, rfl⟩ := owns_form hown8; have hE8 := Lib.hid (hE7.out.grown hg8 (by intro g hg; exact (hS7.out.lt g hg).1)); have hS8 := Lib.hid (StepsO.app hown8 hl1.out (hl2.out.trans hn1)); clear hown8 hg8 hat8)
                      have c2 := hE8.out.cell g2
                      have cb := hE8.out.cell tbk
                      have hy8 := Lib.hid (hy.out.trans hE8.out)
                      clear g2 tbk hE7 hE8 hS7 hr7 hr1 hsp hy
                      by_cases hs2 : s2 = -1
                      · have d1 : (s2 != -1) = false := by simp [hs2]
                        clear hle hs2
                        go_wp2
                        go_roundw
                        case rel => exact ⟨k + 1, by omega, by go_num, hy8⟩
                        case measure => simp [intOf]; omega
                      · have d1 : (s2 != -1) = true := by simp [hs2]
                        have hR9 := Lib.hid (hle.out hs2)
                        clear hle hs2
                        go_wp2_with fail
                        refine (carryCheckFull_calls _ _ _ t pick (ol.take k ++ ol.drop (k + 1)) _ (ht4.out.ext hy8.out) (hk4.out.ext hy8.out) hS8.out.read).mono ?_
                        rw [hR9.out]
                        rintro e w9 ⟨rfl, hx9⟩
                        have hy9 := Lib.hid (hy8.out.trans hx9)
                        clear hx9
                        go_wp2
                        go_roundw
                        case rel => exact ⟨k + 1, by omega, by go_num, hy9⟩
                        case measure => simp [intOf]; omega
                  · go_wp2
                    go_ret
                    exact ⟨rfl, hw4.out.trans hy.out⟩
          · have d0 : (z == 0) = false := by simp [hz0]
            clear hS6 hz hz0
            go_wp2_with fail
            go_loopw [23, 24] (fun v23 _ wr => ∃ k : Nat, k ≤ ol.length ∧ v23 = .int .i64 k ∧ Hid (Ext w4 wr)) (fun vk _ _ => ol.length - (intOf vk).toNat)
            case atStart => exact ⟨0, by omega, rfl, hV⟩
            case round =>
              clear hV
              obtain ⟨k, hk, rfl, hy⟩ := hrel
              by_cases q1 : k < ol.length
              · obtain ⟨b2, o2, s1, s2, e2, hb2, _, es, g1, g2⟩ := sat'.out k q1 wr hy.out
                subst e2
                have hsp := Lib.hid (hs4.out.ext hy.out)
                have hks : k ≤ sc := by omega
                have hk1s : k + 1 ≤ sc := by omega
                have hr1 := Lib.hid (hsp.out.take' (m := k) (by omega)).reads2
                have hsn' := Lib.hid hsn
                have hsc0 : sc ≠ 0 := by omega
                have tbk := hy.out.cell tb4
                have hle := Lib.hid (hless.out k s1 s2 es.out)
                have hl1 : Hid ((ol.take k).length = k) := by show _ = _; rw [List.length_take]; omega
                have hl2 : Hid ((ol.drop (k + 1)).length = ol.length - (k + 1)) := by show _ = _; rw [List.length_drop]
                obtain ⟨n1, hn1⟩ : ∃ n1, ol.length - (k + 1) = n1 := ⟨_, rfl⟩
                have hn1b : n1 ≤ 8 := by omega
                clear es g1
                by_cases hci : sc = k + 1
                · subst hci
                  go_upto_region 38 with (at_builtin; refine wpList_append_any _ rfl (.tmp 175) (.tmp 178) _ rfl wr.heap.size 42 j0 _ 2 16 Try.underlying32 hj0 jz0 jz1 jz2 rfl (by decide) (.slice (some ⟨wr.heap.size, 0, none⟩) 0 0) 0 [] rfl (World.ownsRow_made wr #[] 0 (Nat.le_refl _) (by unfold maxLen; omega) rfl) wr.heap.size (some ⟨b2, o2, none⟩) k (k + 1) (spanCells (ol.take k)) rfl (hr1.out.alloc (Nat.le_refl _) _) stepCells_one (by unfold maxLen; omega) (by omega) (by rw [World.size_alloc]; omega) ?_; intro v7 w7 hown7 hg7 hat7; rw [Nat.zero_add, List.nil_append] at hown7; obtain ⟨A7, C7, rfl⟩ := owns_form hown7; have hE7 := Lib.hid (((Ext.refl wr).alloc (.cells #[] 42)).grown hg7 (by intro k hk; simp [Value.ownBlock] at hk; omega)); have hS7 := Lib.hid hown7; have hr7 := Lib.hid ((hsp.out.ext hE7.out).tail (k := k + 1) (by omega) hsn'.out); have hsz7 := hE7.out.size; clear hown7 hg7 hat7)
                  go_upto_region 39 with (at_builtin; refine wpList_append_any _ rfl (.tmp 180) (.tmp 184) _ rfl wr.heap.size 42 j0 _ 2 16 Try.underlying32 hj0 jz0 jz1 jz2 rfl (by decide) (.slice A7 k C7) k (spanCells (ol.take k)) rfl hS7.out w7.heap.size _ n1 _ (spanCells (ol.drop (k + 1))) rfl (by have := hr7.out; rw [hn1] at this; simpa using this) stepCells_one (by unfold maxLen; omega) (by omega) (by omega) ?_; intro v8 w8 hown8 hg8 hat8; obtain ⟨A8, C8, rfl⟩ := owns_form hown8; have hE8 := Lib.hid (hE7.out.grown hg8 (by intro g hg; exact (hS7.out.lt g hg).1)); have hS8 := Lib.hid (StepsO.app hown8 hl1.out (hl2.out.trans hn1)); clear hown8 hg8 hat8)
                  have c2 := hE8.out.cell g2
                  have cb := hE8.out.cell tbk
                  have hy8 := Lib.hid (hy.out.trans hE8.out)
                  clear g2 tbk hE7 hE8 hS7 hr7 hr1 hsp hy
                  by_cases hs2 : s2 = -1
                  · have d1 : (s2 != -1) = false := by simp [hs2]
                    clear hle hs2
                    go_wp2
                    go_roundw
                    case rel => exact ⟨k + 1, by omega, by go_num, hy8⟩
                    case measure => simp [intOf]; omega
                  · have d1 : (s2 != -1) = true := by simp [hs2]
                    have hR9 := Lib.hid (hle.out hs2)
                    clear hle hs2
                    go_wp2_with fail
                    refine (carryCheckFull_calls _ _ _ t pick (ol.take k ++ ol.drop (k + 1)) _ (ht4.out.ext hy8.out) (hk4.out.ext hy8.out) hS8.out.read).mono ?_
                    rw [hR9.out]
                    rintro e w9 ⟨rfl, hx9⟩
                    have hy9 := Lib.hid (hy8.out.trans hx9)
                    clear hx9
                    go_wp2
                    go_roundw
                    case rel => exact ⟨k + 1, by omega, by go_num, hy9⟩
                    case measure => simp [intOf]; omega
                · have hadd : Hid ((⟨b2, o2, none⟩ : Addr).add ((k + 1) * 2) = ⟨b2, o2 + (k + 1) * 2, none⟩) := by show _ = _; unfold Addr.add; split <;> simp_all
                  go_upto_region 38 with (at_builtin; refine wpList_append_any _ rfl (.tmp 175) (.tmp 178) _ rfl wr.heap.size 42 j0 _ 2 16 Try.underlying32 hj0 jz0 jz1 jz2 rfl (by decide) (.slice (some ⟨wr.heap.size, 0, none⟩) 0 0) 0 [] rfl (World.ownsRow_made wr #[] 0 (Nat.le_refl _) (by unfold maxLen; omega) rfl) wr.heap.size (some ⟨b2, o2, none⟩) k sc (spanCells (ol.take k)) rfl (hr1.out.alloc (Nat.le_refl _) _) stepCells_one (by unfold maxLen; omega) (by omega) (by rw [World.size_alloc]; omega) ?_; intro v7 w7 hown7 hg7 hat7; rw [Nat.zero_add, List.nil_append] at hown7; obtain ⟨A7, C7, rfl⟩ := owns_form hown7; have hE7 := Lib.hid (((Ext.refl wr).alloc (.cells #[] 42)).grown hg7 (by intro k hk; simp [Value.ownBlock] at hk; omega)); have hS7 := Lib.hid hown7; have hr7 := Lib.hid ((hsp.out.ext hE7.out).tail (k := k + 1) (by omega) hsn'.out); have hsz7 := hE7.out.size; clear hown7 hg7 hat7)
                  go_upto_region 39 with (at_builtin; refine wpList_append_any _ rfl (.tmp 180) (.tmp 184) _ rfl wr.heap.size 42 j0 _ 2 16 Try.underlying32 hj0 jz0 jz1 jz2 rfl (by decide) (.slice A7 k C7) k (spanCells (ol.take k)) rfl hS7.out w7.heap.size _ n1 _ (spanCells (ol.drop (k + 1))) rfl (by have := hr7.out; rw [hn1] at this; rw [if_neg hci, Option.map_some, hadd.out] at this; exact this) stepCells_one (by unfold maxLen; omega) (by omega) (by omega) ?_; intro v8 w8 hown8 hg8 hat8; obtain ⟨A8, C8, rfl⟩ := owns_form hown8; have hE8 := Lib.hid (hE7.out.grown hg8 (by intro g hg; exact (hS7.out.lt g hg).1)); have hS8 := Lib.hid (StepsO.app hown8 hl1.out (hl2.out.trans hn1)); clear hown8 hg8 hat8)
                  have c2 := hE8.out.cell g2
                  have cb := hE8.out.cell tbk
                  have hy8 := Lib.hid (hy.out.trans hE8.out)
                  clear g2 tbk hE7 hE8 hS7 hr7 hr1 hsp hy
                  by_cases hs2 : s2 = -1
                  · have d1 : (s2 != -1) = false := by simp [hs2]
                    clear hle hs2
                    go_wp2
                    go_roundw
                    case rel => exact ⟨k + 1, by omega, by go_num, hy8⟩
                    case measure => simp [intOf]; omega
                  · have d1 : (s2 != -1) = true := by simp [hs2]
                    have hR9 := Lib.hid (hle.out hs2)
                    clear hle hs2
                    go_wp2_with fail
                    refine (carryCheckFull_calls _ _ _ t pick (ol.take k ++ ol.drop (k + 1)) _ (ht4.out.ext hy8.out) (hk4.out.ext hy8.out) hS8.out.read).mono ?_
                    rw [hR9.out]
                    rintro e w9 ⟨rfl, hx9⟩
                    have hy9 := Lib.hid (hy8.out.trans hx9)
                    clear hx9
                    go_wp2
                    go_roundw
                    case rel => exact ⟨k + 1, by omega, by go_num, hy9⟩
                    case measure => simp [intOf]; omega
              · go_wp2
                go_ret
                exact ⟨rfl, hw4.out.trans hy.out⟩
      · skip
        have tb := hx.out.cell tb4
        go_wp2_with fail
        refine (carryCheckFull_calls _ _ _ t pick l _ (ht4.out.ext hx.out) (hk4.out.ext hx.out) (by have := hS.out.read; rwa [hn.out] at this)).mono ?_
        obtain ⟨z, hz⟩ : ∃ z, Hid (checkS t pick l = z) := ⟨_, rfl⟩
        rw [hz.out]
        rintro e w6 ⟨rfl, hx6⟩
        have hV := Lib.hid (hx.out.trans hx6)
        have hS6 := Lib.hid (hS.out.read.ext hx6)
        rw [hn.out] at hS6
        have tb6 := hx6.cell tb
        clear hx6 tb hx hS
        by_cases hz0 : z = 0
        · have d0 : (z == 0) = true := by simp [hz0]
          have hcw := check_worth (hz.out.trans hz0)
          obtain ⟨ls, hls⟩ : ∃ ls, Hid (trailTo t l (n + 1) = ls) := ⟨_, rfl⟩
          have hR : Hid (statesS t l = (ls, 0)) := by
            show _ = _
            unfold statesS
            rw [if_pos hcw.1, hn.out, hls.out]
          have hll2 : Hid (ls.length = n + 1) := by show _ = _; rw [← hls.out, trailTo_len]
          have hcalm : Hid (∀ i r, ls[i]? = some r → calmB t r = true) := Lib.hid fun i r hi => by
            have hi2 : i < n + 1 := by have := (List.getElem?_eq_some_iff.1 hi).1; have := hll2.out; omega
            rw [← hls.out, trail_at hi2] at hi
            cases hi
            exact hcw.2.1 i (by rw [hn.out]; omega)
          have hlst : Hid (ls[n]? = some pick) := by
            show _ = _
            rw [← hls.out, trail_at (by omega), stAt, ← hn.out, List.take_of_length_le (Nat.le_refl _), hcw.2.2]
          have hn12 : n ≤ 12 := by omega
          clear hz hz0 hcw hls
          go_wp2_with fail
          refine (states_calls _ _ t l _ (ht4.out.ext hV.out) hS6.out).mono ?_
          rw [hR.out]
          rintro e w7 ⟨lv, rfl, hl, hx7⟩
          dsimp only at hl ⊢
          obtain ⟨la, lc, rfl, hln, hlc, rat⟩ := hl.open
          have rat' := Lib.hid rat
          rw [hll2.out] at hln ⊢
          have hW7 := Lib.hid (hV.out.trans hx7)
          clear hl rat hx7 hV hS6 hR tb6
          go_wp2_with fail
          go_loopw [22] (fun vi wr => ∃ m : Nat, m ≤ n + 1 ∧ vi = .int .i64 m ∧ Hid (Ext w7 wr)) (fun vi _ => n + 1 - (intOf vi).toNat)
          case atStart => exact ⟨0, by omega, rfl, Lib.hid (Ext.refl _)⟩
          case round =>
            obtain ⟨m, hm, rfl, hx⟩ := hrel
            have hV := Lib.hid (hW7.out.trans hx.out)
            by_cases q0 : m < n + 1
            · obtain ⟨b3, o3, r, ra, rc, e3, hb3, er, g0, ir⟩ := rat'.out m (by rw [hll2.out]; exact q0) wr hx.out
              subst e3
              have hC : Hid (∀ X, Ext wr X → Calls Try.prog 33 #[.agg #[.slice ta t.length tc], .slice ra r.length rc] X fun e w' => e = .returned (.bool true) ∧ Ext X w') := fun X hX => by
                have := calm_calls (.slice ta t.length tc) (.slice ra r.length rc) t r X (ht4.out.ext (hV.out.trans hX)) (ir.ext hX)
                rwa [hcalm.out m r er.out] at this
              have c2 := hV.out.cell tb4
              have z0 := After.cell c2
              have z1 := After.cell g0
              clear c2 g0 ir er hV
              go_wp2_with fail
              refine wp_region_after (by kernel_rfl) (by kernel_rfl) ?_
              repeat (go_big_quiet_step (exact After.call _ (hC.out _ (After.ext _))))
              refine wpQuiet_nil ?_
              rintro _ ⟨y, rfl⟩
              have hy := Lib.hid (hx.out.trans y.ext)
              generalize y.world = Y at hy ⊢
              clear z0 z1 hx hC
              go_wp2
              go_roundw
              case rel => exact ⟨m + 1, by omega, by go_num, hy⟩
              case measure => simp [intOf]; omega
            · obtain ⟨b3, o3, r, ra, rc, e3, hb3, er, g0, ir⟩ := rat'.out n (by rw [hll2.out]; omega) wr hx.out
              subst e3
              have hrp : Hid (r = pick) := Option.some.inj (er.out.symm.trans hlst.out)
              have ir' := Lib.hid ir
              clear ir er hx
              go_wp2_with fail
              refine (rSame35_calls _ _ r pick _ ir'.out (hk4.out.ext hV.out)).mono ?_
              rw [show decide (r = pick) = true by rw [hrp.out]; simp]
              rintro e w9 ⟨rfl, hx9⟩
              replace hV := Lib.hid (hV.out.trans hx9)
              clear hx9 g0 ir'
              go_wp2_with fail
              go_loopw [23, 24] (fun v23 _ wr => ∃ k : Nat, k ≤ ol.length ∧ v23 = .int .i64 k ∧ Hid (Ext w4 wr)) (fun vk _ _ => ol.length - (intOf vk).toNat)
              case atStart => exact ⟨0, by omega, rfl, hV⟩
              case round =>
                clear hV
                obtain ⟨k, hk, rfl, hy⟩ := hrel
                by_cases q1 : k < ol.length
                · obtain ⟨b2, o2, s1, s2, e2, hb2, _, es, g1, g2⟩ := sat'.out k q1 wr hy.out
                  subst e2
                  have hsp := Lib.hid (hs4.out.ext hy.out)
                  have hks : k ≤ sc := by omega
                  have hk1s : k + 1 ≤ sc := by omega
                  have hr1 := Lib.hid (hsp.out.take' (m := k) (by omega)).reads2
                  have hsn' := Lib.hid hsn
                  have hsc0 : sc ≠ 0 := by omega
                  have tbk := hy.out.cell tb4
                  have hle := Lib.hid (hless.out k s1 s2 es.out)
                  have hl1 : Hid ((ol.take k).length = k) := by show _ = _; rw [List.length_take]; omega
                  have hl2 : Hid ((ol.drop (k + 1)).length = ol.length - (k + 1)) := by show _ = _; rw [List.length_drop]
                  obtain ⟨n1, hn1⟩ : ∃ n1, ol.length - (k + 1) = n1 := ⟨_, rfl⟩
                  have hn1b : n1 ≤ 8 := by omega
                  clear es g1
                  by_cases hci : sc = k + 1
                  · subst hci
                    go_upto_region 38 with (at_builtin; refine wpList_append_any _ rfl (.tmp 175) (.tmp 178) _ rfl wr.heap.size 42 j0 _ 2 16 Try.underlying32 hj0 jz0 jz1 jz2 rfl (by decide) (.slice (some ⟨wr.heap.size, 0, none⟩) 0 0) 0 [] rfl (World.ownsRow_made wr #[] 0 (Nat.le_refl _) (by unfold maxLen; omega) rfl) wr.heap.size (some ⟨b2, o2, none⟩) k (k + 1) (spanCells (ol.take k)) rfl (hr1.out.alloc (Nat.le_refl _) _) stepCells_one (by unfold maxLen; omega) (by omega) (by rw [World.size_alloc]; omega) ?_; intro v7 w7 hown7 hg7 hat7; rw [Nat.zero_add, List.nil_append] at hown7; obtain ⟨A7, C7, rfl⟩ := owns_form hown7; have hE7 := Lib.hid (((Ext.refl wr).alloc (.cells #[] 42)).grown hg7 (by intro k hk; simp [Value.ownBlock] at hk; omega)); have hS7 := Lib.hid hown7; have hr7 := Lib.hid ((hsp.out.ext hE7.out).tail (k := k + 1) (by omega) hsn'.out); have hsz7 := hE7.out.size; clear hown7 hg7 hat7)
                    go_upto_region 39 with (at_builtin; refine wpList_append_any _ rfl (.tmp 180) (.tmp 184) _ rfl wr.heap.size 42 j0 _ 2 16 Try.underlying32 hj0 jz0 jz1 jz2 rfl (by decide) (.slice A7 k C7) k (spanCells (ol.take k)) rfl hS7.out w7.heap.size _ n1 _ (spanCells (ol.drop (k + 1))) rfl (by have := hr7.out; rw [hn1] at this; simpa using this) stepCells_one (by unfold maxLen; omega) (by omega) (by omega) ?_; intro v8 w8 hown8 hg8 hat8; obtain ⟨A8, C8, rfl⟩ := owns_form hown8; have hE8 := Lib.hid (hE7.out.grown hg8 (by intro g hg; exact (hS7.out.lt g hg).1)); have hS8 := Lib.hid (StepsO.app hown8 hl1.out (hl2.out.trans hn1)); clear hown8 hg8 hat8)
                    have c2 := hE8.out.cell g2
                    have cb := hE8.out.cell tbk
                    have hy8 := Lib.hid (hy.out.trans hE8.out)
                    clear g2 tbk hE7 hE8 hS7 hr7 hr1 hsp hy
                    by_cases hs2 : s2 = -1
                    · have d1 : (s2 != -1) = false := by simp [hs2]
                      clear hle hs2
                      go_wp2
                      go_roundw
                      case rel => exact ⟨k + 1, by omega, by go_num, hy8⟩
                      case measure => simp [intOf]; omega
                    · have d1 : (s2 != -1) = true := by simp [hs2]
                      have hR9 := Lib.hid (hle.out hs2)
                      clear hle hs2
                      go_wp2_with fail
                      refine (carryCheckFull_calls _ _ _ t pick (ol.take k ++ ol.drop (k + 1)) _ (ht4.out.ext hy8.out) (hk4.out.ext hy8.out) hS8.out.read).mono ?_
                      rw [hR9.out]
                      rintro e w9 ⟨rfl, hx9⟩
                      have hy9 := Lib.hid (hy8.out.trans hx9)
                      clear hx9
                      go_wp2
                      go_roundw
                      case rel => exact ⟨k + 1, by omega, by go_num, hy9⟩
                      case measure => simp [intOf]; omega
                  · have hadd : Hid ((⟨b2, o2, none⟩ : Addr).add ((k + 1) * 2) = ⟨b2, o2 + (k + 1) * 2, none⟩) := by show _ = _; unfold Addr.add; split <;> simp_all
                    go_upto_region 38 with (at_builtin; refine wpList_append_any _ rfl (.tmp 175) (.tmp 178) _ rfl wr.heap.size 42 j0 _ 2 16 Try.underlying32 hj0 jz0 jz1 jz2 rfl (by decide) (.slice (some ⟨wr.heap.size, 0, none⟩) 0 0) 0 [] rfl (World.ownsRow_made wr #[] 0 (Nat.le_refl _) (by unfold maxLen; omega) rfl) wr.heap.size (some ⟨b2, o2, none⟩) k sc (spanCells (ol.take k)) rfl (hr1.out.alloc (Nat.le_refl _) _) stepCells_one (by unfold maxLen; omega) (by omega) (by rw [World.size_alloc]; omega) ?_; intro v7 w7 hown7 hg7 hat7; rw [Nat.zero_add, List.nil_append] at hown7; obtain ⟨A7, C7, rfl⟩ := owns_form hown7; have hE7 := Lib.hid (((Ext.refl wr).alloc (.cells #[] 42)).grown hg7 (by intro k hk; simp [Value.ownBlock] at hk; omega)); have hS7 := Lib.hid hown7; have hr7 := Lib.hid ((hsp.out.ext hE7.out).tail (k := k + 1) (by omega) hsn'.out); have hsz7 := hE7.out.size; clear hown7 hg7 hat7)
                    go_upto_region 39 with (at_builtin; refine wpList_append_any _ rfl (.tmp 180) (.tmp 184) _ rfl wr.heap.size 42 j0 _ 2 16 Try.underlying32 hj0 jz0 jz1 jz2 rfl (by decide) (.slice A7 k C7) k (spanCells (ol.take k)) rfl hS7.out w7.heap.size _ n1 _ (spanCells (ol.drop (k + 1))) rfl (by have := hr7.out; rw [hn1] at this; rw [if_neg hci, Option.map_some, hadd.out] at this; exact this) stepCells_one (by unfold maxLen; omega) (by omega) (by omega) ?_; intro v8 w8 hown8 hg8 hat8; obtain ⟨A8, C8, rfl⟩ := owns_form hown8; have hE8 := Lib.hid (hE7.out.grown hg8 (by intro g hg; exact (hS7.out.lt g hg).1)); have hS8 := Lib.hid (StepsO.app hown8 hl1.out (hl2.out.trans hn1)); clear hown8 hg8 hat8)
                    have c2 := hE8.out.cell g2
                    have cb := hE8.out.cell tbk
                    have hy8 := Lib.hid (hy.out.trans hE8.out)
                    clear g2 tbk hE7 hE8 hS7 hr7 hr1 hsp hy
                    by_cases hs2 : s2 = -1
                    · have d1 : (s2 != -1) = false := by simp [hs2]
                      clear hle hs2
                      go_wp2
                      go_roundw
                      case rel => exact ⟨k + 1, by omega, by go_num, hy8⟩
                      case measure => simp [intOf]; omega
                    · have d1 : (s2 != -1) = true := by simp [hs2]
                      have hR9 := Lib.hid (hle.out hs2)
                      clear hle hs2
                      go_wp2_with fail
                      refine (carryCheckFull_calls _ _ _ t pick (ol.take k ++ ol.drop (k + 1)) _ (ht4.out.ext hy8.out) (hk4.out.ext hy8.out) hS8.out.read).mono ?_
                      rw [hR9.out]
                      rintro e w9 ⟨rfl, hx9⟩
                      have hy9 := Lib.hid (hy8.out.trans hx9)
                      clear hx9
                      go_wp2
                      go_roundw
                      case rel => exact ⟨k + 1, by omega, by go_num, hy9⟩
                      case measure => simp [intOf]; omega
                · go_wp2
                  go_ret
                  exact ⟨rfl, hw4.out.trans hy.out⟩
        · have d0 : (z == 0) = false := by simp [hz0]
          clear hS6 hz hz0
          go_wp2_with fail
          go_loopw [23, 24] (fun v23 _ wr => ∃ k : Nat, k ≤ ol.length ∧ v23 = .int .i64 k ∧ Hid (Ext w4 wr)) (fun vk _ _ => ol.length - (intOf vk).toNat)
          case atStart => exact ⟨0, by omega, rfl, hV⟩
          case round =>
            clear hV
            obtain ⟨k, hk, rfl, hy⟩ := hrel
            by_cases q1 : k < ol.length
            · obtain ⟨b2, o2, s1, s2, e2, hb2, _, es, g1, g2⟩ := sat'.out k q1 wr hy.out
              subst e2
              have hsp := Lib.hid (hs4.out.ext hy.out)
              have hks : k ≤ sc := by omega
              have hk1s : k + 1 ≤ sc := by omega
              have hr1 := Lib.hid (hsp.out.take' (m := k) (by omega)).reads2
              have hsn' := Lib.hid hsn
              have hsc0 : sc ≠ 0 := by omega
              have tbk := hy.out.cell tb4
              have hle := Lib.hid (hless.out k s1 s2 es.out)
              have hl1 : Hid ((ol.take k).length = k) := by show _ = _; rw [List.length_take]; omega
              have hl2 : Hid ((ol.drop (k + 1)).length = ol.length - (k + 1)) := by show _ = _; rw [List.length_drop]
              obtain ⟨n1, hn1⟩ : ∃ n1, ol.length - (k + 1) = n1 := ⟨_, rfl⟩
              have hn1b : n1 ≤ 8 := by omega
              clear es g1
              by_cases hci : sc = k + 1
              · subst hci
                go_upto_region 38 with (at_builtin; refine wpList_append_any _ rfl (.tmp 175) (.tmp 178) _ rfl wr.heap.size 42 j0 _ 2 16 Try.underlying32 hj0 jz0 jz1 jz2 rfl (by decide) (.slice (some ⟨wr.heap.size, 0, none⟩) 0 0) 0 [] rfl (World.ownsRow_made wr #[] 0 (Nat.le_refl _) (by unfold maxLen; omega) rfl) wr.heap.size (some ⟨b2, o2, none⟩) k (k + 1) (spanCells (ol.take k)) rfl (hr1.out.alloc (Nat.le_refl _) _) stepCells_one (by unfold maxLen; omega) (by omega) (by rw [World.size_alloc]; omega) ?_; intro v7 w7 hown7 hg7 hat7; rw [Nat.zero_add, List.nil_append] at hown7; obtain ⟨A7, C7, rfl⟩ := owns_form hown7; have hE7 := Lib.hid (((Ext.refl wr).alloc (.cells #[] 42)).grown hg7 (by intro k hk; simp [Value.ownBlock] at hk; omega)); have hS7 := Lib.hid hown7; have hr7 := Lib.hid ((hsp.out.ext hE7.out).tail (k := k + 1) (by omega) hsn'.out); have hsz7 := hE7.out.size; clear hown7 hg7 hat7)
                go_upto_region 39 with (at_builtin; refine wpList_append_any _ rfl (.tmp 180) (.tmp 184) _ rfl wr.heap.size 42 j0 _ 2 16 Try.underlying32 hj0 jz0 jz1 jz2 rfl (by decide) (.slice A7 k C7) k (spanCells (ol.take k)) rfl hS7.out w7.heap.size _ n1 _ (spanCells (ol.drop (k + 1))) rfl (by have := hr7.out; rw [hn1] at this; simpa using this) stepCells_one (by unfold maxLen; omega) (by omega) (by omega) ?_; intro v8 w8 hown8 hg8 hat8; obtain ⟨A8, C8, rfl⟩ := owns_form hown8; have hE8 := Lib.hid (hE7.out.grown hg8 (by intro g hg; exact (hS7.out.lt g hg).1)); have hS8 := Lib.hid (StepsO.app hown8 hl1.out (hl2.out.trans hn1)); clear hown8 hg8 hat8)
                have c2 := hE8.out.cell g2
                have cb := hE8.out.cell tbk
                have hy8 := Lib.hid (hy.out.trans hE8.out)
                clear g2 tbk hE7 hE8 hS7 hr7 hr1 hsp hy
                by_cases hs2 : s2 = -1
                · have d1 : (s2 != -1) = false := by simp [hs2]
                  clear hle hs2
                  go_wp2
                  go_roundw
                  case rel => exact ⟨k + 1, by omega, by go_num, hy8⟩
                  case measure => simp [intOf]; omega
                · have d1 : (s2 != -1) = true := by simp [hs2]
                  have hR9 := Lib.hid (hle.out hs2)
                  clear hle hs2
                  go_wp2_with fail
                  refine (carryCheckFull_calls _ _ _ t pick (ol.take k ++ ol.drop (k + 1)) _ (ht4.out.ext hy8.out) (hk4.out.ext hy8.out) hS8.out.read).mono ?_
                  rw [hR9.out]
                  rintro e w9 ⟨rfl, hx9⟩
                  have hy9 := Lib.hid (hy8.out.trans hx9)
                  clear hx9
                  go_wp2
                  go_roundw
                  case rel => exact ⟨k + 1, by omega, by go_num, hy9⟩
                  case measure => simp [intOf]; omega
              · have hadd : Hid ((⟨b2, o2, none⟩ : Addr).add ((k + 1) * 2) = ⟨b2, o2 + (k + 1) * 2, none⟩) := by show _ = _; unfold Addr.add; split <;> simp_all
                go_upto_region 38 with (at_builtin; refine wpList_append_any _ rfl (.tmp 175) (.tmp 178) _ rfl wr.heap.size 42 j0 _ 2 16 Try.underlying32 hj0 jz0 jz1 jz2 rfl (by decide) (.slice (some ⟨wr.heap.size, 0, none⟩) 0 0) 0 [] rfl (World.ownsRow_made wr #[] 0 (Nat.le_refl _) (by unfold maxLen; omega) rfl) wr.heap.size (some ⟨b2, o2, none⟩) k sc (spanCells (ol.take k)) rfl (hr1.out.alloc (Nat.le_refl _) _) stepCells_one (by unfold maxLen; omega) (by omega) (by rw [World.size_alloc]; omega) ?_; intro v7 w7 hown7 hg7 hat7; rw [Nat.zero_add, List.nil_append] at hown7; obtain ⟨A7, C7, rfl⟩ := owns_form hown7; have hE7 := Lib.hid (((Ext.refl wr).alloc (.cells #[] 42)).grown hg7 (by intro k hk; simp [Value.ownBlock] at hk; omega)); have hS7 := Lib.hid hown7; have hr7 := Lib.hid ((hsp.out.ext hE7.out).tail (k := k + 1) (by omega) hsn'.out); have hsz7 := hE7.out.size; clear hown7 hg7 hat7)
                go_upto_region 39 with (at_builtin; refine wpList_append_any _ rfl (.tmp 180) (.tmp 184) _ rfl wr.heap.size 42 j0 _ 2 16 Try.underlying32 hj0 jz0 jz1 jz2 rfl (by decide) (.slice A7 k C7) k (spanCells (ol.take k)) rfl hS7.out w7.heap.size _ n1 _ (spanCells (ol.drop (k + 1))) rfl (by have := hr7.out; rw [hn1] at this; rw [if_neg hci, Option.map_some, hadd.out] at this; exact this) stepCells_one (by unfold maxLen; omega) (by omega) (by omega) ?_; intro v8 w8 hown8 hg8 hat8; obtain ⟨A8, C8, rfl⟩ := owns_form hown8; have hE8 := Lib.hid (hE7.out.grown hg8 (by intro g hg; exact (hS7.out.lt g hg).1)); have hS8 := Lib.hid (StepsO.app hown8 hl1.out (hl2.out.trans hn1)); clear hown8 hg8 hat8)
                have c2 := hE8.out.cell g2
                have cb := hE8.out.cell tbk
                have hy8 := Lib.hid (hy.out.trans hE8.out)
                clear g2 tbk hE7 hE8 hS7 hr7 hr1 hsp hy
                by_cases hs2 : s2 = -1
                · have d1 : (s2 != -1) = false := by simp [hs2]
                  clear hle hs2
                  go_wp2
                  go_roundw
                  case rel => exact ⟨k + 1, by omega, by go_num, hy8⟩
                  case measure => simp [intOf]; omega
                · have d1 : (s2 != -1) = true := by simp [hs2]
                  have hR9 := Lib.hid (hle.out hs2)
                  clear hle hs2
                  go_wp2_with fail
                  refine (carryCheckFull_calls _ _ _ t pick (ol.take k ++ ol.drop (k + 1)) _ (ht4.out.ext hy8.out) (hk4.out.ext hy8.out) hS8.out.read).mono ?_
                  rw [hR9.out]
                  rintro e w9 ⟨rfl, hx9⟩
                  have hy9 := Lib.hid (hy8.out.trans hx9)
                  clear hx9
                  go_wp2
                  go_roundw
                  case rel => exact ⟨k + 1, by omega, by go_num, hy9⟩
                  case measure => simp [intOf]; omega
            · go_wp2
              go_ret
              exact ⟨rfl, hw4.out.trans hy.out⟩
  · go_wp2
    go_ret
    exact ⟨rfl, hw3.out⟩
end Go.Proofs.Ytkicielleiafgaa
