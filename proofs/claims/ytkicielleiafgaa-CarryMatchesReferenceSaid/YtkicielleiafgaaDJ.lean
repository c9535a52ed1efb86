/- The law CarryMatchesReference, walked. -/
import Derived.Test.YtkicielleiafgaaDM
import Derived.Test.YtkicielleiafgaaCP
import Derived.Test.YtkicielleiafgaaHE
namespace Go.Proofs.Ytkicielleiafgaa
open Go.RowKit

theorem Spans.firstN {w : World} {a : Option Addr} {n c m : Nat} {l : List (Int × Int)} (h : Spans w (.slice a n c) l) (hm : m ≤ n) : Spans w (.slice a m c) (l.take m) := by
  obtain ⟨a', c', e, h1, h2, h3⟩ := h
  have en : n = l.length := by cases e; rfl
  cases e
  have hl : (l.take m).length = m := by simp; omega
  refine ⟨a, c, by rw [hl], by rw [hl]; omega, h2, fun h0 => ?_⟩
  obtain ⟨b, off, e1, e2, e3⟩ := h3 (by omega)
  refine ⟨b, off, e1, e2, fun i hi j hj => ?_⟩
  rw [hl] at hi
  rw [e3 i (by omega) j hj]
  simp only [List.getElem?_take_of_lt hi]
theorem Ints.firstN {w : World} {a : Option Addr} {n c m : Nat} {l : List Int} (h : Ints w (.slice a n c) l) (hm : m ≤ n) : Ints w (.slice a m c) (l.take m) := by
  obtain ⟨a', c', e, h1, h2, h3⟩ := h
  have en : n = l.length := by cases e; rfl
  cases e
  have hl : (l.take m).length = m := by simp; omega
  refine ⟨a, c, by rw [hl], by rw [hl]; omega, h2, fun h0 => ?_⟩
  obtain ⟨b, off, e1, e2, e3⟩ := h3 (by omega)
  refine ⟨b, off, e1, e2, fun i hi j hj => ?_⟩
  rw [hl] at hi
  rw [e3 i (by omega) j hj]
  simp only [List.getElem?_take_of_lt hi]

structure ChangeD where
  kind : Int
  at_ : Int
  node : NodeD
instance : Inhabited ChangeD := ⟨⟨0, 0, ⟨0, [], 0, 0⟩⟩⟩
def Changes (w : World) (v : Value) (l : List ChangeD) : Prop :=
  ∃ K : Nat → Value, Sl w 6 v l.length (fun i j => if j = 0 then .int .u8 (l[i]?.getD default).kind else if j = 1 then .int .u8 (l[i]?.getD default).at_ else if j = 2 then .int .i64 (l[i]?.getD default).node.wish else if j = 3 then K i else if j = 4 then .int .i64 (l[i]?.getD default).node.clA else .int .i64 (l[i]?.getD default).node.clB) ∧
    ∀ i, i < l.length → Ints w (K i) (l[i]?.getD default).node.kids ∧ (0 ≤ (l[i]?.getD default).kind ∧ (l[i]?.getD default).kind ≤ 255) ∧ (0 ≤ (l[i]?.getD default).at_ ∧ (l[i]?.getD default).at_ ≤ 255)
def TwoInts (w : World) (v : Value) (x : List Int × List Int) : Prop := ∃ a b, v = .agg #[a, b] ∧ Ints w a x.1 ∧ Ints w b x.2
def MadeCon (B : Nat) (t : List WishD) (k : Nat) (v : Value) (W : World) : Prop := k = 1 → ∃ uv, v = .agg #[uv] ∧ WishesO W B uv t
set_option maxHeartbeats 6400000 in
set_option maxRecDepth 100000 in
theorem carryMatchesReference_calls (rv : Value) (l : List RawD) (sv : Value) (sl : List StepD) (xv : Value) (x : List Int × List Int) (w : World) (h : Raws w rv l) (hs : Spans w sv sl) (hx : TwoInts w xv x) :
    Calls Try.prog 6 #[rv, sv, xv] w fun e w' => e = .returned (.bool true) ∧ Ext w w' := by
  obtain ⟨xa, xb, rfl, hxa, hxb⟩ := hx
  obtain ⟨px, fx⟩ := x
  dsimp only at hxa hxb
  have hraw := Lib.hid h
  have hok := Lib.hid h.ok
  have hS := Lib.hid hs
  have hP := Lib.hid hxa
  have hF := Lib.hid hxb
  obtain ⟨sa, sc, rfl, hsn, hsc, _⟩ := hs.open
  obtain ⟨pa, pc, rfl, hpn, hpc, _⟩ := hxa.open
  obtain ⟨fa, fc, rfl, hfn, hfc, _⟩ := hxb.open
  clear h hs hxa hxb
  go_enter Try.func6, Try.ntmps6
  go_upto_region 1 with (fail)
  refine wp_abs (S := fun W => Hid (Ext w W) ∧ Hid (Blk W w.heap.size 48 #[.slice pa px.length pc, .slice fa fx.length fc])) ?_ ?_
  · exact ⟨Lib.hid (by exact (by repeat' (first | (with_reducible exact Ext.refl _) | (with_reducible assumption) | (with_reducible refine Ext.drewN ?_ _) | (with_reducible refine Ext.drew ?_) | (with_reducible refine Ext.alloc ?_ _) | (with_reducible refine Ext.trans ?_ (by with_reducible assumption))))), Lib.hid (blk_new' rfl rfl)⟩
  rintro W0 ⟨hE0, hX0⟩
  go_wp2_with fail
  refine (sanity35_calls _).mono ?_
  rintro e' w1 ⟨rfl, hx1⟩
  have hE1 := Lib.hid (hE0.out.trans hx1)
  have hX1 := Lib.hid ((Keep.of_ext (X := fun _ => False) hx1).blk hX0.out id)
  clear hE0 hX0 hx1
  obtain ⟨t, ht0⟩ : ∃ t, Hid (madeT l = t) := ⟨_, rfl⟩
  have hv : Hid (validT t = 0) := by rw [← ht0.out]; exact made_valid hok.out
  have hlen : t.length ≤ 4 := by rw [← ht0.out]; exact made_len.2
  have hl0 : 0 < t.length := by rw [← ht0.out]; exact made_len.1
  have hmade : Hid (∀ W, Ext w1 W → Calls Try.prog 14 #[rv] W fun e w' => ∃ tv, e = .returned (.agg #[tv]) ∧ WishesO w' W.heap.size tv t ∧ Ext W w') := fun W hW => by
    have := made_calls rv l W (hraw.out.ext (hE1.out.trans hW))
    rwa [ht0.out] at this
  clear ht0
  go_upto_region 2 with (fail)
  (refine wp_region_held [2, 3, 4, 5, 6] [0, 1, 7] [8, 9] (MadeCon w1.heap.size t) (by kernel_rfl) (by kernel_rfl) ?_; simp only [pickL, List.drop]; (repeat (go_big_quiet_step (fail))); with_reducible refine wpQuiet_nil ?_)
  (refine held_quiet [0] [1, 7] (by kernel_rfl) (by kernel_rfl) ?_; simp only [pickL, List.drop]; (repeat (go_big_quiet_step (fail))); with_reducible refine wpQuiet_nil ?_)
  (refine held_call 1 [7] rfl (by kernel_rfl) 14 (#[rv]) (fun W => by kernel_rfl) rfl ?_ ?_ ?_)
  · exact fun W W' v e hh hk => let ⟨uv, a, b⟩ := hh hk; ⟨uv, a, b.ext e⟩
  · refine fun W hW _ => (hmade.out W hW).mono ?_
    rintro e W' ⟨uv, rfl, hu, hx⟩
    exact ⟨_, rfl, hx, fun _ => ⟨_, rfl, hu.base hW.size⟩⟩
  rintro v ⟨Y, hY, hC⟩
  obtain ⟨uv, rfl, hD⟩ := hC rfl
  obtain ⟨uA, uC, rfl⟩ := hD.read.form
  clear hC hD hY Y
  simp only [Act.put, List.setIfInBounds_toArray, List.set_cons_succ, List.set_cons_zero]
  (refine held_made 7 [] rfl (by kernel_rfl) (fun g => .pointer (some ⟨g, 0, none⟩)) (.cells #[.slice none 0 0] 27) (fun W => by kernel_rfl) (fun g g2 e => by cases e; rfl) (fun g => rfl) ?_)
  intro gu
  simp only [Act.put, List.setIfInBounds_toArray, List.set_cons_succ, List.set_cons_zero]
  intro W hW hf ht Q0 hQ0
  obtain ⟨_, e1, hU⟩ := (hf 1).1.2 rfl rfl
  cases e1
  have h7 := (hf 7).2 rfl
  have b7 : Blk W gu 27 #[.slice none 0 0] := h7.1
  have hgu : w1.heap.size ≤ gu := h7.2
  have c7 : W.cell? ⟨gu, 0, none⟩ = some (.slice none 0 0) := b7.cell 0
  have f7 := b7.frozen 0
  have hU' := Lib.hid hU
  have b7' := Lib.hid b7
  have hW' := Lib.hid hW
  simp only [pickL, List.drop]
  clear hf ht h7 b7 hU hW hmade
  obtain ⟨km, hkm⟩ : ∃ km : Nat, Hid ((if 12 < (sl.length : Int) then (12 : Int) else (sl.length : Int)).toNat = km) := ⟨_, rfl⟩
  have hkm1 : km = min 12 sl.length := by rw [← hkm.out]; split <;> omega
  have hS1 : Hid (Spans w (.slice sa km sc) (sl.take km)) := Lib.hid (hS.out.firstN (m := km) (by omega))
  obtain ⟨s, hsk⟩ : ∃ s, Hid (sl.take km = s) := ⟨_, rfl⟩
  have hsl : km = s.length := by rw [← hsk.out, List.length_take]; omega
  rw [hsk.out] at hS1
  rw [hkm.out]
  clear hkm hkm1 hsk hS hsn
  generalize (if 12 < (sl.length : Int) then (12 : Int) else (sl.length : Int)) = kz
  subst hsl
  go_upto_region 3 with (fail)
  refine wp_abs (S := fun V => Hid (Ext w V) ∧ Hid (Blk V gu 27 #[.slice uA t.length uC]) ∧ Hid (Wishes V (.slice uA t.length uC) t) ∧ Hid (Blk V w.heap.size 48 #[.slice pa px.length pc, .slice fa fx.length fc])) ?_ ?_
  · have k1 := keep_set W gu 0 (.slice uA t.length uC)
    have ex := hW'.out.setCell (p := ⟨gu, 0, none⟩) hgu (.slice uA t.length uC)
    exact ⟨Lib.hid (hE1.out.trans ex), Lib.hid (b7'.out.set_ 0 _), Lib.hid (hU'.out.keepT k1 (TX.one b7'.out) (by decide) (by decide) (by decide) (by decide)).read, Lib.hid ((Keep.of_ext (X := fun _ => False) ex).blk hX1.out id)⟩
  clear hE1 hX1 b7' hU' hW' c7 f7
  rintro V ⟨hE, hB, hU, hX⟩
  have x0 : V.cell? ⟨w.heap.size, 0, none⟩ = some (.slice pa px.length pc) := hX.out.cell 0
  have x1 : V.cell? ⟨w.heap.size, 1, none⟩ = some (.slice fa fx.length fc) := hX.out.cell 1
  have z0 := After.cell x0
  have z1 := After.cell x1
  refine wp_region_after (by kernel_rfl) (by kernel_rfl) ?_
  repeat (go_big_quiet_step (fail))
  refine wpQuiet_nil ?_
  rintro W3 ⟨y3, e3⟩
  have hE3 : Ext V W3 := by rw [e3]; exact y3.ext
  obtain ⟨pm, hpm⟩ : ∃ pm : Nat, Hid ((if 6 < (px.length : Int) then (6 : Int) else (px.length : Int)).toNat = pm) := ⟨_, rfl⟩
  have hpm1 : pm = min 6 px.length := by rw [← hpm.out]; split <;> omega
  have hP1 : Hid (Ints w (.slice pa pm pc) (px.take pm)) := Lib.hid (hP.out.firstN (m := pm) (by omega))
  obtain ⟨fm, hfm⟩ : ∃ fm : Nat, Hid ((if 6 < (fx.length : Int) then (6 : Int) else (fx.length : Int)).toNat = fm) := ⟨_, rfl⟩
  have hfm1 : fm = min 6 fx.length := by rw [← hfm.out]; split <;> omega
  have hF1 : Hid (Ints w (.slice fa fm fc) (fx.take fm)) := Lib.hid (hF.out.firstN (m := fm) (by omega))
  obtain ⟨pick, hpk⟩ : ∃ s, Hid (px.take pm = s) := ⟨_, rfl⟩
  obtain ⟨fails, hfk⟩ : ∃ s, Hid (fx.take fm = s) := ⟨_, rfl⟩
  rw [hpk.out] at hP1
  rw [hfk.out] at hF1
  rw [hpm.out, hfm.out]
  clear hpm hfm
  generalize (if 6 < (px.length : Int) then (6 : Int) else (px.length : Int)) = kp
  generalize (if 6 < (fx.length : Int) then (6 : Int) else (fx.length : Int)) = kf
  have tb3 : W3.cell? ⟨gu, 0, none⟩ = some (.slice uA t.length uC) := hE3.cell (hB.out.cell 0)
  have ht3 := Lib.hid (hU.out.ext hE3)
  have hw3 := Lib.hid (hE.out.trans hE3)
  have hs3 := Lib.hid (hS1.out.ext hw3.out)
  have hp3 := Lib.hid (hP1.out.ext hw3.out)
  have hf3 := Lib.hid (hF1.out.ext hw3.out)
  clear z0 z1 x0 x1 e3 hE3 y3 hpm1 hfm1 hpk hfk hP hF hP1 hF1 hS1 hU hE hB hX hpn hfn
  have hgl := World.block_lt_of_cell? _ _ tb3
  -- States
  obtain ⟨ls, z1, hst⟩ : ∃ ls z1, Hid (statesS t s = (ls, z1)) := ⟨_, _, rfl⟩
  have hc1 := Lib.hid (states_calls _ _ t s W3 ht3.out hs3.out)
  rw [hst.out] at hc1
  go_wp2_with fail
  refine hc1.out.mono ?_
  rintro e w4 ⟨av, rfl, ha4, hx4⟩
  dsimp only at ha4 ⊢
  have ha := Lib.hid ha4
  obtain ⟨aA, aC, rfl⟩ := ha4.form
  have tb4 := hx4.cell tb3
  have ht4 := Lib.hid (ht3.out.ext hx4)
  have hw4 := Lib.hid (hw3.out.trans hx4)
  have hs4 := Lib.hid (hs3.out.ext hx4)
  have hp4 := Lib.hid (hp3.out.ext hx4)
  have hf4 := Lib.hid (hf3.out.ext hx4)
  clear tb3 ht3 hw3 hs3 hp3 hf3
  have ga4 := Lib.hid ha.out
  clear hc1 hx4 ha4 ha
  have hc2 := Lib.hid (rStates_calls _ _ t s w4 ht4.out hs4.out)
  rw [hst.out] at hc2
  go_wp2_with fail
  refine hc2.out.mono ?_
  rintro e w5 ⟨bv, rfl, hb5, hx5⟩
  dsimp only at hb5 ⊢
  have gb5 := Lib.hid hb5
  obtain ⟨bA, bC, rfl⟩ := hb5.form
  have tb5 := hx5.cell tb4
  have ht5 := Lib.hid (ht4.out.ext hx5)
  have hw5 := Lib.hid (hw4.out.trans hx5)
  have hs5 := Lib.hid (hs4.out.ext hx5)
  have hp5 := Lib.hid (hp4.out.ext hx5)
  have hf5 := Lib.hid (hf4.out.ext hx5)
  clear tb4 ht4 hw4 hs4 hp4 hf4
  have ga5 := Lib.hid (ga4.out.ext hx5)
  clear hc2 hx5 hb5 ga4 hst
  -- Parked
  obtain ⟨n, z2, hpd⟩ : ∃ n z2, Hid (parkedS t s = (n, z2)) := ⟨_, _, rfl⟩
  have hc1 := Lib.hid (parked_calls _ _ t s w5 ht5.out hs5.out)
  rw [hpd.out] at hc1
  go_wp2_with fail
  refine hc1.out.mono ?_
  rintro e w6 ⟨rfl, hx6⟩
  dsimp only
  have tb6 := hx6.cell tb5
  have ht6 := Lib.hid (ht5.out.ext hx6)
  have hw6 := Lib.hid (hw5.out.trans hx6)
  have hs6 := Lib.hid (hs5.out.ext hx6)
  have hp6 := Lib.hid (hp5.out.ext hx6)
  have hf6 := Lib.hid (hf5.out.ext hx6)
  clear tb5 ht5 hw5 hs5 hp5 hf5
  have ga6 := Lib.hid (ga5.out.ext hx6)
  have gb6 := Lib.hid (gb5.out.ext hx6)
  clear hc1 hx6 ga5 gb5
  have hc2 := Lib.hid (rParked_calls _ _ t s w6 ht6.out hs6.out)
  rw [hpd.out] at hc2
  go_wp2_with fail
  refine hc2.out.mono ?_
  rintro e w7 ⟨rfl, hx7⟩
  dsimp only
  have tb7 := hx7.cell tb6
  have ht7 := Lib.hid (ht6.out.ext hx7)
  have hw7 := Lib.hid (hw6.out.trans hx7)
  have hs7 := Lib.hid (hs6.out.ext hx7)
  have hp7 := Lib.hid (hp6.out.ext hx7)
  have hf7 := Lib.hid (hf6.out.ext hx7)
  clear tb6 ht6 hw6 hs6 hp6 hf6
  have ga7 := Lib.hid (ga6.out.ext hx7)
  have gb7 := Lib.hid (gb6.out.ext hx7)
  clear hc2 hx7 ga6 gb6 hpd
  -- Play
  obtain ⟨st, dn, z3, hpy⟩ : ∃ st dn z3, Hid (playS t s fails = (st, dn, z3)) := ⟨_, _, _, rfl⟩
  have hc1 := Lib.hid (play_calls _ _ _ t s fails w7 ht7.out hs7.out hf7.out)
  rw [hpy.out] at hc1
  go_wp2_with fail
  refine hc1.out.mono ?_
  rintro e w8 ⟨cv, rfl, hcr, hx8⟩
  dsimp only at hcr ⊢
  have gc8 := Lib.hid hcr
  obtain ⟨cA, cC, rfl⟩ := hcr.form
  have tb8 := hx8.cell tb7
  have ht8 := Lib.hid (ht7.out.ext hx8)
  have hw8 := Lib.hid (hw7.out.trans hx8)
  have hs8 := Lib.hid (hs7.out.ext hx8)
  have hp8 := Lib.hid (hp7.out.ext hx8)
  have hf8 := Lib.hid (hf7.out.ext hx8)
  clear tb7 ht7 hw7 hs7 hp7 hf7
  have ga8 := Lib.hid (ga7.out.ext hx8)
  have gb8 := Lib.hid (gb7.out.ext hx8)
  clear hc1 hx8 ga7 gb7 hcr
  have hc2 := Lib.hid (rPlay_calls _ _ _ t s fails w8 ht8.out hs8.out hf8.out)
  rw [hpy.out] at hc2
  go_wp2_with fail
  refine hc2.out.mono ?_
  rintro e w9' ⟨dv, rfl, hdr, hx9'⟩
  dsimp only at hdr ⊢
  have gd9' := Lib.hid hdr
  obtain ⟨dA, dC, rfl⟩ := hdr.form
  have hx9a := Lib.hid hx9'
  have tb9' := Lib.hid (hx9'.cell tb8)
  clear hc2 hx9' hdr hpy
  go_upto_region 10 with (fail)
  refine wp_abs (S := fun W => Hid (Ext w8 W) ∧ Hid (Ext w9' W) ∧ Hid (Blk W w9'.heap.size 53 #[.slice dA st.length dC, .bool dn, .int .i64 z3])) ?_ ?_
  · exact ⟨Lib.hid (hx9a.out.trans (by exact (by repeat' (first | (with_reducible exact Ext.refl _) | (with_reducible assumption) | (with_reducible refine Ext.drewN ?_ _) | (with_reducible refine Ext.drew ?_) | (with_reducible refine Ext.alloc ?_ _) | (with_reducible refine Ext.trans ?_ (by with_reducible assumption)))))), Lib.hid (by exact (by repeat' (first | (with_reducible exact Ext.refl _) | (with_reducible assumption) | (with_reducible refine Ext.drewN ?_ _) | (with_reducible refine Ext.drew ?_) | (with_reducible refine Ext.alloc ?_ _) | (with_reducible refine Ext.trans ?_ (by with_reducible assumption))))), Lib.hid (blk_new' rfl rfl)⟩
  rintro w9 ⟨hx9h, hy9, hbp9⟩
  have hx9 := hx9h.out
  have tb9 := hx9.cell tb8
  have ht9 := Lib.hid (ht8.out.ext hx9)
  have hw9 := Lib.hid (hw8.out.trans hx9)
  have hs9 := Lib.hid (hs8.out.ext hx9)
  have hp9 := Lib.hid (hp8.out.ext hx9)
  have hf9 := Lib.hid (hf8.out.ext hx9)
  clear tb8 ht8 hw8 hs8 hp8 hf8
  have ga9 := Lib.hid (ga8.out.ext hx9)
  have gb9 := Lib.hid (gb8.out.ext hx9)
  have gc9 := Lib.hid (gc8.out.ext hx9)
  have gd9 := Lib.hid (gd9'.out.ext hy9.out)
  have hgp : w9'.heap.size < w9.heap.size := hbp9.out.lt
  clear hx9 hx9h hy9 ga8 gb8 gc8 gd9' hx9a tb9'
  revert hbp9 hgp
  generalize w9'.heap.size = gp
  intro hbp9 hgp
  -- Order
  obtain ⟨ol, z4, hor⟩ : ∃ ol z4, Hid (orderS t pick = (ol, z4)) := ⟨_, _, rfl⟩
  have hc1 := Lib.hid (order_calls _ _ t pick w9 ht9.out hp9.out)
  rw [hor.out] at hc1
  go_wp2_with fail
  refine hc1.out.mono ?_
  rintro e w10 ⟨ov, rfl, ho, hx10⟩
  dsimp only at ho ⊢
  have ge10 := Lib.hid ho.read
  obtain ⟨oA, oC, rfl⟩ := ho.read.form
  have tb10 := hx10.cell tb9
  have ht10 := Lib.hid (ht9.out.ext hx10)
  have hw10 := Lib.hid (hw9.out.trans hx10)
  have hs10 := Lib.hid (hs9.out.ext hx10)
  have hp10 := Lib.hid (hp9.out.ext hx10)
  have hf10 := Lib.hid (hf9.out.ext hx10)
  clear tb9 ht9 hw9 hs9 hp9 hf9
  have ga10 := Lib.hid (ga9.out.ext hx10)
  have gb10 := Lib.hid (gb9.out.ext hx10)
  have gc10 := Lib.hid (gc9.out.ext hx10)
  have gd10 := Lib.hid (gd9.out.ext hx10)
  have hbp10 := Lib.hid ((Keep.of_ext (X := fun _ => False) hx10).blk hbp9.out id)
  clear hc1 hx10 ho ga9 gb9 gc9 gd9 hbp9
  have hc2 := Lib.hid (rOrder_calls _ _ t pick w10 ht10.out hp10.out)
  rw [hor.out] at hc2
  go_wp2_with fail
  refine hc2.out.mono ?_
  rintro e w11 ⟨qv, rfl, hq, hx11⟩
  dsimp only at hq ⊢
  have gf11 := Lib.hid hq.read
  obtain ⟨qA, qC, rfl⟩ := hq.read.form
  have tb11 := hx11.cell tb10
  have ht11 := Lib.hid (ht10.out.ext hx11)
  have hw11 := Lib.hid (hw10.out.trans hx11)
  have hs11 := Lib.hid (hs10.out.ext hx11)
  have hp11 := Lib.hid (hp10.out.ext hx11)
  have hf11 := Lib.hid (hf10.out.ext hx11)
  clear tb10 ht10 hw10 hs10 hp10 hf10
  have ga11 := Lib.hid (ga10.out.ext hx11)
  have gb11 := Lib.hid (gb10.out.ext hx11)
  have gc11 := Lib.hid (gc10.out.ext hx11)
  have gd11 := Lib.hid (gd10.out.ext hx11)
  have ge11 := Lib.hid (ge10.out.ext hx11)
  have hbp11 := Lib.hid ((Keep.of_ext (X := fun _ => False) hx11).blk hbp10.out id)
  clear hc2 hx11 hq ga10 gb10 gc10 gd10 ge10 hbp10 hor
  -- the comparison
  obtain ⟨ck, hck⟩ : ∃ ck, Hid (checkS t pick s = ck) := ⟨_, rfl⟩
  have hC1 : Hid (∀ X, Ext w11 X → Calls Try.prog 28 #[.slice aA ls.length aC, .slice bA ls.length bC] X fun e w' => e = .returned (.bool true) ∧ Ext X w') := fun X hX => by
    have := rSameStates_calls _ _ ls ls X (ga11.out.ext hX) (gb11.out.ext hX)
    rwa [decide_eq_true (rfl : ls = ls)] at this
  have hC2 : Hid (∀ X, Ext w11 X → Calls Try.prog 22 #[.slice cA st.length cC, .slice dA st.length dC] X fun e w' => e = .returned (.bool true) ∧ Ext X w') := fun X hX => by
    have := rSame35_calls _ _ st st X (gc11.out.ext hX) (gd11.out.ext hX)
    rwa [decide_eq_true (rfl : st = st)] at this
  have hC3 : Hid (∀ X, Ext w11 X → Calls Try.prog 29 #[.slice oA ol.length oC, .slice qA ol.length qC] X fun e w' => e = .returned (.bool true) ∧ Ext X w') := fun X hX => by
    have := rSameSteps_calls _ _ ol ol X (ge11.out.ext hX) (gf11.out.ext hX)
    rwa [show sameSt ol ol = true from decide_eq_true rfl] at this
  have hC4 : Hid (∀ X, Ext w11 X → Calls Try.prog 18 #[.agg #[.slice uA t.length uC], .slice pa pm pc, .slice sa s.length sc] X fun e w' => e = .returned (.int .i64 ck) ∧ Ext X w') := fun X hX => hck.out ▸ carryCheckFull_calls _ _ _ t pick s X (ht11.out.ext hX) (hp11.out.ext hX) (hs11.out.ext hX)
  have hC5 : Hid (∀ X, Ext w11 X → Calls Try.prog 30 #[.agg #[.slice uA t.length uC], .slice pa pm pc, .slice sa s.length sc] X fun e w' => e = .returned (.int .i64 ck) ∧ Ext X w') := fun X hX => hck.out ▸ rCheck35_calls _ _ _ t pick s X (ht11.out.ext hX) (hp11.out.ext hX) (hs11.out.ext hX)
  have e1 : (z1 == z1) = true := beq_self_eq_true z1
  have e2 : (z2 == z2) = true := beq_self_eq_true z2
  have e3 : (z3 == z3) = true := beq_self_eq_true z3
  have e4 : (z4 == z4) = true := beq_self_eq_true z4
  have e5 : (n == n) = true := beq_self_eq_true n
  have e6 : (dn == dn) = true := beq_self_eq_true dn
  have e7 : (ck == ck) = true := beq_self_eq_true ck
  have c0 : w11.cell? ⟨gp, 0, none⟩ = some (.slice dA st.length dC) := hbp11.out.cell 0
  have c1 : w11.cell? ⟨gp, 1, none⟩ = some (.bool dn) := hbp11.out.cell 1
  have c2 : w11.cell? ⟨gp, 2, none⟩ = some (.int .i64 z3) := hbp11.out.cell 2
  have y0 := After.cell tb11
  have y1 := After.cell c0
  have y2 := After.cell c1
  have y3 := After.cell c2
  have hwE := Lib.hid hw11.out
  clear hck c0 c1 c2 tb11 ht11 hs11 hp11 hf11 hw11 ga11 gb11 gc11 gd11 ge11 gf11 hbp11
  go_wp2_with fail
  refine wp_region_after (by kernel_rfl) (by kernel_rfl) ?_
  (repeat (go_big_quiet_step (first | (with_reducible exact After.call _ (hC1.out _ (After.ext _))) | (with_reducible exact After.call _ (hC2.out _ (After.ext _))) | (with_reducible exact After.call _ (hC3.out _ (After.ext _))) | (with_reducible exact After.call _ (hC4.out _ (After.ext _))) | (with_reducible exact After.call _ (hC5.out _ (After.ext _))))))
  with_reducible refine wpQuiet_nil ?_
  rintro _ ⟨y, rfl⟩
  have hy := y.ext
  generalize y.world = Y at hy ⊢
  clear y0 y1 y2 y3
  go_wp2
  go_ret
  exact ⟨rfl, hwE.out.trans hy⟩
end Go.Proofs.Ytkicielleiafgaa
