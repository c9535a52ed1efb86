import Derived.Test.YtgolicoalldidaaGreatZ40
import Derived.Test.YtgolicoalldidaaGreatZ20
set_option maxHeartbeats 12800000
namespace Go.Proofs.YtgolicoalldidaaGreat
open Go.RowKit
structure ShwIn (Z O : Nat → Prop) (w0 w : World) (Ob Sb Pb Fb Pk : Nat) (nv : Value) (sa : Option Addr) (sc : Nat) (t : List WishD) (b : Int) (r : List WishD) (harm : Int) (pick pre : List Int) (nodes : List NodeD) (xs : List Value) : Prop where
 shw : Shw w0 w Z O Ob Sb Pb Fb Pk nv sa sc t pick nodes xs
 zlt : ∀ g, Z g → g < w.heap.size
 olt : ∀ i, O i → i < nodes.length
 preIs : pick.take pre.length = pre
 drop : t.drop pre.length = r
 len : pre.length ≤ t.length
 opts : ∀ j, j < pre.length → (optOf t pre j).isSome
 room : nodes.length + treeMax r ≤ 65536
 opens : (growL t b r pre harm nodes.length).opens = []
 ests : (growL t b r pre harm nodes.length).ests = []
def ShwOut (Z O : Nat → Prop) (w0 w : World) (Ob Sb Pb Fb Pk : Nat) (nv : Value) (sa : Option Addr) (sc : Nat) (t : List WishD) (pre : List Int) (nodes more : List NodeD) (xs : List Value) (e : Ending) (w' : World) : Prop :=
 ∃ nv' pick' xs', e = .returned (.tuple #[]) ∧ Shw w0 w' Z O Ob Sb Pb Fb Pk nv' sa sc t pick' (nodes ++ more) xs' ∧ pick'.take pre.length = pre ∧ Keep (SX Ob Pk nv) w w' ∧ (nv'.ownBlock = nv.ownBlock ∨ ∃ g, nv'.ownBlock = some g ∧ w.heap.size ≤ g) ∧ (∀ i, O i → xs'[i * 4 + 1]? = xs[i * 4 + 1]?)
theorem keep_sy {w w' : World} {S Pk : Nat} {nv : Value} (k : Keep (fun k => k = S ∨ nv.ownBlock = some k) w w') : Keep (SX S Pk nv) w w' :=
 k.mono fun i _ h => by rcases h with h | h; exact Or.inl h; exact Or.inr (Or.inr h)
structure GkI (R0 : World → Prop) (Mid : Value → World → Prop) (Fin : World → Prop) (nv kv : Value) (g9 N LN : Nat) (L : Nat → Bool) (v53 v54 v55 v56 v57 v58 v59 v60 v61 v62 v63 v64 v65 : Value) (W : World) : Prop where
 f0 : L 0 = true → v53 = nv
 f1 : L 1 = true → v54 = .int .i64 (N : Int)
 f2 : L 2 = true → v55 = nv
 f3 : L 3 = true → v56 = .int .i64 (N : Int)
 f4 : L 4 = true → v57 = .pointer (some ⟨g9, N * 4, none⟩)
 f5 : L 5 = true → v58 = .pointer (some ⟨g9, N * 4 + 1, none⟩)
 f6 : L 6 = true → v59 = kv
 f7 : L 7 = true → v60 = nv
 f8 : L 8 = true → v61 = .int .i64 (LN : Int)
 f9 : L 9 = true → ∃ g, v62 = .slice (some ⟨g, 0, none⟩) 1 1 ∧ (L 10 = false → Blk W g 3 #[.int .i64 (LN : Int)])
 f10 : L 10 = false → L 13 = false ∧ R0 W
 g10 : L 10 = true → L 13 = false → Mid v63 W
 f11 : L 11 = true → v64 = .pointer (some ⟨g9, N * 4, none⟩)
 f12 : L 12 = true → v65 = .pointer (some ⟨g9, N * 4 + 1, none⟩)
 f13 : L 13 = true → Fin W
 d2 : (L 4 = true → L 2 = true) ∧ (L 5 = true → L 4 = true) ∧ (L 6 = true → L 5 = true) ∧ (L 10 = true → L 6 = true)
 d7 : (L 8 = true → L 7 = true) ∧ (L 9 = true → L 8 = true) ∧ (L 10 = true → L 9 = true)
 d0 : (L 11 = true → L 0 = true) ∧ (L 12 = true → L 11 = true) ∧ (L 13 = true → L 12 = true)
section
variable {R0 Fin : World → Prop} {Mid : Value → World → Prop} {nv kv : Value} {g9 N LN Ob : Nat} {L : Nat → Bool} {v53 v54 v55 v56 v57 v58 v59 v60 v61 v62 v63 v64 v65 : Value} {W : World}
theorem GkI.ob (h : GkI R0 Mid Fin nv kv g9 N LN L v53 v54 v55 v56 v57 v58 v59 v60 v61 v62 v63 v64 v65 W) (h0 : ∀ W, R0 W → W.cell? ⟨Ob, 0, none⟩ = some nv) (h1 : ∀ v W, Mid v W → W.cell? ⟨Ob, 0, none⟩ = some nv) (hL : L 13 = false) : W.cell? ⟨Ob, 0, none⟩ = some nv := by
 cases h10 : L 10 with
 | false => exact h0 _ (h.f10 h10).2
 | true => exact h1 _ _ (h.g10 h10 hL)
theorem GkI.no13a (h : GkI R0 Mid Fin nv kv g9 N LN L v53 v54 v55 v56 v57 v58 v59 v60 v61 v62 v63 v64 v65 W) (hL : L 0 = false) : L 13 = false := by
 cases h13 : L 13 with
 | false => rfl
 | true => rw [h.d0.1 (h.d0.2.1 (h.d0.2.2 h13))] at hL; cases hL
theorem GkI.no10b (h : GkI R0 Mid Fin nv kv g9 N LN L v53 v54 v55 v56 v57 v58 v59 v60 v61 v62 v63 v64 v65 W) (hL : L 2 = false) : L 10 = false := by
 cases h10 : L 10 with
 | false => rfl
 | true => rw [h.d2.1 (h.d2.2.1 (h.d2.2.2.1 (h.d2.2.2.2 h10)))] at hL; cases hL
theorem GkI.no10c (h : GkI R0 Mid Fin nv kv g9 N LN L v53 v54 v55 v56 v57 v58 v59 v60 v61 v62 v63 v64 v65 W) (hL : L 7 = false) : L 10 = false := by
 cases h10 : L 10 with
 | false => rfl
 | true => rw [h.d7.1 (h.d7.2.1 (h.d7.2.2 h10))] at hL; cases hL
theorem GkI.no10d (h : GkI R0 Mid Fin nv kv g9 N LN L v53 v54 v55 v56 v57 v58 v59 v60 v61 v62 v63 v64 v65 W) (hL : L 6 = false) : L 10 = false := by
 cases h10 : L 10 with
 | false => rfl
 | true => rw [h.d2.2.2.2 h10] at hL; cases hL
theorem GkI.no10e (h : GkI R0 Mid Fin nv kv g9 N LN L v53 v54 v55 v56 v57 v58 v59 v60 v61 v62 v63 v64 v65 W) (hL : L 9 = false) : L 10 = false := by
 cases h10 : L 10 with
 | false => rfl
 | true => rw [h.d7.2.2 h10] at hL; cases hL
end
theorem show1_clash (Z O : Nat → Prop) (w0 w : World) (Ob Sb Pb Fb Pk : Nat) (nv : Value) (sa : Option Addr) (sc : Nat) (t : List WishD) (b : Int) (r : List WishD) (harm : Int) (pick pre : List Int) (nodes : List NodeD) (xs : List Value)
  (hw : Wishes w0 (.slice sa t.length sc) t) (hsp : SpansIn t) (hl : t.length ≤ 512)
  (H : ShwIn Z O w0 w Ob Sb Pb Fb Pk nv sa sc t b r harm pick pre nodes xs) (hc : 0 ≤ lastClash t pre) :
  Calls Tryz.prog 46 #[.int .i64 pre.length, .pointer (some ⟨Ob, 0, none⟩), .pointer (some ⟨Sb, 0, none⟩), .pointer (some ⟨Pb, 0, none⟩), .pointer (some ⟨Fb, 0, none⟩)] w
   (ShwOut Z O w0 w Ob Sb Pb Fb Pk nv sa sc t pre nodes [⟨-1, [], lastClash t pre, (pre.length : Int) - 1⟩] xs) := by
 obtain ⟨i0, hi0, hz0, hz1, hz2⟩ := info_parts node_info
 have hpos : 0 < pre.length := by
  rcases Nat.eq_zero_or_pos pre.length with h | h
  ·simp [lastClash, h] at hc
  ·exact h
 have d3 : decide (0 < (pre.length : Int)) = true := decide_eq_true (by omega)
 obtain ⟨c, hc9⟩ : ∃ c, Hid (lastClash t pre = c) := ⟨_, rfl⟩
 rw [hc9.out] at hc ⊢
 have hnlt : nodes.length < 65536 := by have := H.room; have := treeMax_pos r; omega
 have d1 : decide (65536 < (nodes.length : Int)) = false := decide_eq_false (by omega)
 obtain ⟨A, C, rfl⟩ := owns_form H.shw.owns
 have c1 : w.cell? ⟨Ob, 0, none⟩ = some (.slice A nodes.length C) := H.shw.obox.cell 0
 have l1 := H.shw.obox.lt
 have f1 := H.shw.obox.frozen 0
 have hown := Lib.hid H.shw.owns
 have hH := Lib.hid H
 have hpl : pre.length ≤ 512 := by have := H.len; omega
 have h0 : w0.heap.size ≤ w.heap.size := H.shw.ext.size
 clear H
 go_enter Tryz.func46, Tryz.ntmps46
 go_upto_region 3 with (at_builtin; refine wpList_append_any _ rfl (.tmp 14) (.tmp 16) _ rfl w0.heap.size 128 i0 _ 4 48 Tryz.underlying34 hi0 hz0 hz1 hz2 rfl (by decide) (.slice A nodes.length C) nodes.length xs rfl (hown.out.alloc _) (w.heap.size + 1) (some ⟨w.heap.size, 0, none⟩) 1 1 [.int .i64 (-1), .slice none 0 0, .int .i64 0, .int .i64 0] rfl (reads_last _ #[_, _, _, _] _ 4 1 _ _ rfl (by omega) rfl) (by intro u hu; simp at hu; rcases hu with rfl | rfl | rfl | rfl <;> rfl) (by unfold maxLen; omega) (by omega) (by simp; omega) ?_; intro v1 w1 hown1 hg1 hat1; obtain ⟨A1, C1, rfl⟩ := owns_form hown1; have hOb1 : Blk w1 Ob 34 #[.slice A nodes.length C] := ((hH.out.shw.obox.alloc _)).grown hg1 (fun e => hH.out.shw.nv_ne.1 e.symm); have m1 : w1.cell? ⟨Ob, 0, none⟩ = some (.slice A nodes.length C) := hOb1.cell 0; have f2 := hOb1.frozen 0; have lt2 := hOb1.lt)
 refine wp_abs (S := fun W => Hid (Shw w0 W Z O Ob Sb Pb Fb Pk (.slice A1 (nodes.length + 1) C1) sa sc t pick (nodes ++ [⟨-1, [], 0, 0⟩]) (xs ++ [.int .i64 (-1), .slice none 0 0, .int .i64 0, .int .i64 0])) ∧ Hid (Keep (SX Ob Pk (.slice A nodes.length C)) w W) ∧ Hid ((Value.slice A1 (nodes.length + 1) C1).ownBlock = (Value.slice A nodes.length C).ownBlock ∨ ∃ g, (Value.slice A1 (nodes.length + 1) C1).ownBlock = some g ∧ w.heap.size ≤ g)) ?_ ?_
 ·have k1 : Keep (fun k => k = Ob ∨ Value.ownBlock (.slice A nodes.length C) = some k) w w1 := (((Keep.refl _ _).alloc _)).grown hg1 (fun g e => Or.inl (Or.inr e))
  have k2 := k1.setCell (p := ⟨Ob, 0, none⟩) (Or.inl (Or.inl rfl)) (.slice A1 (nodes.length + 1) C1)
  have hb := hOb1.set_ 0 (.slice A1 (nodes.length + 1) C1)
  have o2 := (keep_set w1 Ob 0 (.slice A1 (nodes.length + 1) C1)).owns hown1 (fun g e h => own_blk_ne hown1 hOb1 (by decide) (by rw [e, h]))
  refine ⟨Lib.hid (hH.out.shw.pushed (n := ⟨-1, [], 0, 0⟩) rfl hb o2 k2), Lib.hid (keep_sy k2), Lib.hid ?_⟩
  rcases hat1 with h | h
  ·exact Or.inl h
  ·exact Or.inr ⟨_, h, by simp⟩
 rintro W1 ⟨hS, hk, hat⟩
 clear c1 l1 f1 hown hown1 hg1 hat1 hOb1 m1 f2 lt2 d1 h0
 have hcl : ∀ W, Ext W1 W → Calls Tryz.prog 47 #[.agg #[.slice sa t.length sc], .slice (some ⟨Pk, 0, none⟩) t.length t.length, .int .i64 ((pre.length : Int) - 1)] W fun e w' => e = .returned (.int .i64 (lastClash t pre)) ∧ Ext W w' := fun W hW => by
  have hS9 := hS.out.toExt hW
  have e9 : lastClash t pre = earlierI t pick (pre.length - 1) := by
   unfold lastClash
   rw [if_neg (by omega)]
   have e := earlierI_take (t := t) (pick := pick) (d := pre.length) (j := pre.length - 1) (by omega)
   rwa [hH.out.preIs] at e
  rw [e9, show (pre.length : Int) - 1 = ((pre.length - 1 : Nat) : Int) by omega]
  refine clash_core_calls _ _ t pick (pre.length - 1) W (hw.ext hS9.ext) ?_ hsp fun j hj => ?_
  ·rw [← hS9.plen]
   exact ints_of_blk hS9.row (Nat.le_refl _) (by rw [hS9.plen]; unfold maxLen; omega)
  ·have := hH.out.opts j (by omega)
   rw [← hH.out.preIs] at this
   rwa [optOf_take (by omega)] at this
 have c2 : W1.cell? ⟨Sb, 0, none⟩ = some (.slice sa t.length sc) := hS.out.sbox.cell 0
 have l2 := hS.out.sbox.lt
 have c3 : W1.cell? ⟨Pb, 0, none⟩ = some (.slice (some ⟨Pk, 0, none⟩) t.length t.length) := hS.out.pbox.cell 0
 have l3 := hS.out.pbox.lt
 have d4 : decide (0 ≤ c) = true := decide_eq_true hc
 rw [hc9.out] at hcl
 have hcl' := Lib.hid hcl
 clear hcl hc
 go_wp2_with fail
 refine (hcl'.out W1 (Ext.refl _)).mono ?_
 rintro e W2 ⟨rfl, hx2⟩
 have hS2 := Lib.hid (hS.out.toExt hx2)
 have hk2 := Lib.hid (hk.out.trans (Keep.of_ext hx2))
 clear c2 l2 c3 l3 hcl' hx2 hS hk d3
 obtain ⟨g, C2, e2, hg, _, hcells, hfr⟩ := hS2.out.node (by simp)
 simp only [List.length_append, List.length_singleton] at e2
 cases e2
 have hxl := hH.out.shw.cells.len
 have m1 : W2.cell? ⟨g, nodes.length * 4 + 2, none⟩ = some (.int .i64 0) := hcells _ _ (by rw [List.getElem?_append_right (by omega), hxl]; simp)
 have m2 : W2.cell? ⟨g, nodes.length * 4 + 3, none⟩ = some (.int .i64 0) := hcells _ _ (by rw [List.getElem?_append_right (by omega), hxl]; simp)
 have f1 := hfr (nodes.length * 4 + 2)
 have f2 := hfr (nodes.length * 4 + 3)
 have c4 : W2.cell? ⟨Ob, 0, none⟩ = some (.slice (some ⟨g, 0, none⟩) (nodes.length + 1) C1) := hS2.out.obox.cell 0
 have l4 := hS2.out.obox.lt
 clear hcells hfr hxl
 go_upto_region 6 with (fail)
 go_region
 all_goals go_wp2
 all_goals go_end0
 all_goals
  have hx9 : (nodes ++ [(⟨-1, [], 0, 0⟩ : NodeD)])[nodes.length]? = some ⟨-1, [], 0, 0⟩ := by simp
  have s1 := hS2.out.setCell (nodes' := (nodes ++ [(⟨-1, [], 0, 0⟩ : NodeD)]).set nodes.length ⟨-1, [], c, 0⟩) (q := nodes.length * 4 + 2) (v := .int .i64 c) (by simp) (fun h => h.setA nodes.length hx9)
  have hx8 : ((nodes ++ [(⟨-1, [], 0, 0⟩ : NodeD)]).set nodes.length ⟨-1, [], c, 0⟩)[nodes.length]? = some ⟨-1, [], c, 0⟩ := by simp
  have s2 := s1.setCell (nodes' := ((nodes ++ [(⟨-1, [], 0, 0⟩ : NodeD)]).set nodes.length ⟨-1, [], c, 0⟩).set nodes.length ⟨-1, [], c, (pre.length : Int) - 1⟩) (q := nodes.length * 4 + 3) (v := .int .i64 ((pre.length : Int) - 1)) (by simp) (fun h => h.setB nodes.length hx8)
  rw [show ((nodes ++ [(⟨-1, [], 0, 0⟩ : NodeD)]).set nodes.length ⟨-1, [], c, 0⟩).set nodes.length ⟨-1, [], c, (pre.length : Int) - 1⟩ = nodes ++ [⟨-1, [], c, (pre.length : Int) - 1⟩] by simp] at s2
  have s3 := s2.toExt (Ext.refl _).drew
  have k1 := keep_chain hk2.out hat.out (w2 := ((W2.setCell ⟨g, nodes.length * 4 + 2, none⟩ (.int .i64 c)).setCell ⟨g, nodes.length * 4 + 3, none⟩ (.int .i64 ((pre.length : Int) - 1))).drew) (((((Keep.refl _ _).setCell (p := ⟨g, nodes.length * 4 + 2, none⟩) (Or.inl (Or.inr (Or.inr rfl))) _)).setCell (p := ⟨g, nodes.length * 4 + 3, none⟩) (Or.inl (Or.inr (Or.inr rfl))) _).drew)
  have hxl := hH.out.shw.cells.len
  refine ⟨_, _, _, rfl, s3, hH.out.preIs, k1, hat.out, fun i hi => ?_⟩
  have hi2 := hH.out.olt i hi
  rw [List.getElem?_set_ne (by omega), List.getElem?_set_ne (by omega), List.getElem?_append_left (by omega)]
set_option maxRecDepth 100000 in
theorem show1_node (w0 : World) (Ob Sb Pb Fb Pk : Nat) (sa : Option Addr) (sc : Nat) (t : List WishD) (b : Int) (hw : Wishes w0 (.slice sa t.length sc) t) (hsp : SpansIn t) (hl : t.length ≤ 512) (x : WishD) (r : List WishD)
  (ih : ∀ (Z O : Nat → Prop) (w : World) (nv : Value) (harm : Int) (pick pre : List Int) (nodes : List NodeD) (xs : List Value), ShwIn Z O w0 w Ob Sb Pb Fb Pk nv sa sc t b r harm pick pre nodes xs →
   Calls Tryz.prog 46 #[.int .i64 pre.length, .pointer (some ⟨Ob, 0, none⟩), .pointer (some ⟨Sb, 0, none⟩), .pointer (some ⟨Pb, 0, none⟩), .pointer (some ⟨Fb, 0, none⟩)] w
    (ShwOut Z O w0 w Ob Sb Pb Fb Pk nv sa sc t pre nodes (growL t b r pre harm nodes.length).nodes xs))
  (Z O : Nat → Prop) (w : World) (nv : Value) (harm : Int) (pick pre : List Int) (nodes : List NodeD) (xs : List Value) (H : ShwIn Z O w0 w Ob Sb Pb Fb Pk nv sa sc t b (x :: r) harm pick pre nodes xs) (hc : ¬ 0 ≤ lastClash t pre) :
  Calls Tryz.prog 46 #[.int .i64 pre.length, .pointer (some ⟨Ob, 0, none⟩), .pointer (some ⟨Sb, 0, none⟩), .pointer (some ⟨Pb, 0, none⟩), .pointer (some ⟨Fb, 0, none⟩)] w
   (ShwOut Z O w0 w Ob Sb Pb Fb Pk nv sa sc t pre nodes (growL t b (x :: r) pre harm nodes.length).nodes xs) := by
 have hib : ¬ b ≤ harm + leastSum (x :: r) := fun h => by
  have := H.ests
  unfold growL at this
  rw [if_neg hc, if_pos h] at this
  cases this
 obtain ⟨K, hK⟩ : ∃ K, Hid (kidsG (growF t b r pre harm) x.opts 0 (nodes.length + 1) = K) := ⟨_, rfl⟩
 have hN : Hid ((growL t b (x :: r) pre harm nodes.length).nodes = ⟨(pre.length : Int), K.kids, 0, 0⟩ :: K.nodes) := by
  show _ = _
  unfold growL
  rw [if_neg hc, if_neg hib, ← hK.out]
  rfl
 have hKo : Hid (K.opens = [] ∧ K.ests = []) := by
  have h1 := H.opens
  have h2 := H.ests
  unfold growL at h1 h2
  rw [if_neg hc, if_neg hib] at h1 h2
  exact Lib.hid ⟨hK.out ▸ h1, hK.out ▸ h2⟩
 obtain ⟨i0, hi0, hz0, hz1, hz2⟩ := info_parts node_info
 obtain ⟨j0, hj0, jz0, jz1, jz2⟩ := info_parts int_info
 obtain ⟨hx, hdr2, hlt⟩ := drop_tail H.drop
 have hx' := Lib.hid hx
 have hdr := Lib.hid hdr2
 have ih' := Lib.hid ih
 obtain ⟨sa', sc', e1, hn, hc', hat0⟩ := hw.open
 cases e1
 obtain ⟨b1, o1, x', xa, xc, oa, oc, rfl, hb1, _, ex, g1, g2, g3, gp, go⟩ := hat0 pre.length hlt w0 (Ext.refl _)
 obtain rfl : x = x' := Option.some.inj (hx.symm.trans ex.out)
 have hw' := Lib.hid hw
 have hol := go.len
 clear hx hdr2 ih hat0 hib ex gp go hn hc' g1 g2 hb1
 obtain ⟨c, hc9⟩ : ∃ c, Hid (lastClash t pre = c) := ⟨_, rfl⟩
 rw [hc9.out] at hc
 rw [hN.out]
 by_cases hpos : 0 < pre.length
 ·have d3 : decide (0 < (pre.length : Int)) = true := decide_eq_true (by omega)
  have hw := hw'.out
  have hnlt : nodes.length < 65536 := by have := H.room; have := treeMax_pos (x :: r); omega
  have d1 : decide (65536 < (nodes.length : Int)) = false := decide_eq_false (by omega)
  obtain ⟨A, C, rfl⟩ := owns_form H.shw.owns
  have c1 : w.cell? ⟨Ob, 0, none⟩ = some (.slice A nodes.length C) := H.shw.obox.cell 0
  have l1 := H.shw.obox.lt
  have f1 := H.shw.obox.frozen 0
  have hown := Lib.hid H.shw.owns
  have hH := Lib.hid H
  have hpl : pre.length ≤ 512 := by have := H.len; omega
  have h0 : w0.heap.size ≤ w.heap.size := H.shw.ext.size
  clear H
  go_enter Tryz.func46, Tryz.ntmps46
  go_upto_region 3 with (at_builtin; refine wpList_append_any _ rfl (.tmp 14) (.tmp 16) _ rfl w0.heap.size 128 i0 _ 4 48 Tryz.underlying34 hi0 hz0 hz1 hz2 rfl (by decide) (.slice A nodes.length C) nodes.length xs rfl (hown.out.alloc _) (w.heap.size + 1) (some ⟨w.heap.size, 0, none⟩) 1 1 [.int .i64 (-1), .slice none 0 0, .int .i64 0, .int .i64 0] rfl (reads_last _ #[_, _, _, _] _ 4 1 _ _ rfl (by omega) rfl) (by intro u hu; simp at hu; rcases hu with rfl | rfl | rfl | rfl <;> rfl) (by unfold maxLen; omega) (by omega) (by simp; omega) ?_; intro v1 w1 hown1 hg1 hat1; obtain ⟨A1, C1, rfl⟩ := owns_form hown1; have hOb1 : Blk w1 Ob 34 #[.slice A nodes.length C] := ((hH.out.shw.obox.alloc _)).grown hg1 (fun e => hH.out.shw.nv_ne.1 e.symm); have m1 : w1.cell? ⟨Ob, 0, none⟩ = some (.slice A nodes.length C) := hOb1.cell 0; have f2 := hOb1.frozen 0; have lt2 := hOb1.lt)
  refine wp_abs (S := fun W => Hid (Shw w0 W Z O Ob Sb Pb Fb Pk (.slice A1 (nodes.length + 1) C1) (some ⟨b1, o1, none⟩) sc t pick (nodes ++ [⟨-1, [], 0, 0⟩]) (xs ++ [.int .i64 (-1), .slice none 0 0, .int .i64 0, .int .i64 0])) ∧ Hid (Keep (SX Ob Pk (.slice A nodes.length C)) w W) ∧ Hid ((Value.slice A1 (nodes.length + 1) C1).ownBlock = (Value.slice A nodes.length C).ownBlock ∨ ∃ g, (Value.slice A1 (nodes.length + 1) C1).ownBlock = some g ∧ w.heap.size ≤ g)) ?_ ?_
  ·have k1 : Keep (fun k => k = Ob ∨ Value.ownBlock (.slice A nodes.length C) = some k) w w1 := (((Keep.refl _ _).alloc _)).grown hg1 (fun g e => Or.inl (Or.inr e))
   have k2 := k1.setCell (p := ⟨Ob, 0, none⟩) (Or.inl (Or.inl rfl)) (.slice A1 (nodes.length + 1) C1)
   have hb := hOb1.set_ 0 (.slice A1 (nodes.length + 1) C1)
   have o2 := (keep_set w1 Ob 0 (.slice A1 (nodes.length + 1) C1)).owns hown1 (fun g e h => own_blk_ne hown1 hOb1 (by decide) (by rw [e, h]))
   refine ⟨Lib.hid (hH.out.shw.pushed (n := ⟨-1, [], 0, 0⟩) rfl hb o2 k2), Lib.hid (keep_sy k2), Lib.hid ?_⟩
   rcases hat1 with h | h
   ·exact Or.inl h
   ·exact Or.inr ⟨_, h, by simp⟩
  rintro W1 ⟨hS, hk, hat⟩
  clear c1 l1 f1 hown hown1 hg1 hat1 hOb1 m1 f2 lt2 d1 h0
  have hcl : ∀ W, Ext W1 W → Calls Tryz.prog 47 #[.agg #[.slice (some ⟨b1, o1, none⟩) t.length sc], .slice (some ⟨Pk, 0, none⟩) t.length t.length, .int .i64 ((pre.length : Int) - 1)] W fun e w' => e = .returned (.int .i64 (lastClash t pre)) ∧ Ext W w' := fun W hW => by
   have hS9 := hS.out.toExt hW
   have e9 : lastClash t pre = earlierI t pick (pre.length - 1) := by
    unfold lastClash
    rw [if_neg (by omega)]
    have e := earlierI_take (t := t) (pick := pick) (d := pre.length) (j := pre.length - 1) (by omega)
    rwa [hH.out.preIs] at e
   rw [e9, show (pre.length : Int) - 1 = ((pre.length - 1 : Nat) : Int) by omega]
   refine clash_core_calls _ _ t pick (pre.length - 1) W (hw.ext hS9.ext) ?_ hsp fun j hj => ?_
   ·rw [← hS9.plen]
    exact ints_of_blk hS9.row (Nat.le_refl _) (by rw [hS9.plen]; unfold maxLen; omega)
   ·have := hH.out.opts j (by omega)
    rw [← hH.out.preIs] at this
    rwa [optOf_take (by omega)] at this
  have c2 : W1.cell? ⟨Sb, 0, none⟩ = some (.slice (some ⟨b1, o1, none⟩) t.length sc) := hS.out.sbox.cell 0
  have l2 := hS.out.sbox.lt
  have c3 : W1.cell? ⟨Pb, 0, none⟩ = some (.slice (some ⟨Pk, 0, none⟩) t.length t.length) := hS.out.pbox.cell 0
  have l3 := hS.out.pbox.lt
  clear hw
  have d4 : decide (0 ≤ c) = false := decide_eq_false hc
  rw [hc9.out] at hcl
  have hcl' := Lib.hid hcl
  clear hcl hc
  go_wp2_with fail
  refine (hcl'.out W1 (Ext.refl _)).mono ?_
  rintro e W2 ⟨rfl, hx2⟩
  have hS2 := Lib.hid (hS.out.toExt hx2)
  have hk2 := Lib.hid (hk.out.trans (Keep.of_ext hx2))
  clear c2 l2 c3 l3 hcl' hx2 hS hk d3
  have hS := hS2
  have hk := hk2
  clear hS2 hk2
  have hxl := hH.out.shw.cells.len
  obtain ⟨g, C2, e2, hg, _, hcells, hfr⟩ := hS.out.node (by simp)
  simp only [List.length_append, List.length_singleton] at e2
  cases e2
  have m1 : W2.cell? ⟨g, nodes.length * 4, none⟩ = some (.int .i64 (-1)) := hcells _ _ (by rw [List.getElem?_append_right (by omega), hxl]; simp)
  have f1 := hfr (nodes.length * 4)
  have c4 : W2.cell? ⟨Ob, 0, none⟩ = some (.slice (some ⟨g, 0, none⟩) (nodes.length + 1) C1) := hS.out.obox.cell 0
  have l4 := hS.out.obox.lt
  clear hcells hfr
  go_upto_region 8 with (fail)
  obtain ⟨xs1, hxs1⟩ : ∃ xs1, Hid ((xs ++ [Value.int .i64 (-1), .slice none 0 0, .int .i64 0, .int .i64 0]).set (nodes.length * 4) (.int .i64 pre.length) = xs1) := ⟨_, rfl⟩
  refine wp_abs (S := fun W => Hid (RoundK Z O w0 W W Ob Sb Pb Fb Pk (.slice (some ⟨g, 0, none⟩) (nodes.length + 1) C1) (.slice (some ⟨g, 0, none⟩) (nodes.length + 1) C1) (some ⟨b1, o1, none⟩) sc t pick pre (nodes ++ [⟨(pre.length : Int), [], 0, 0⟩]) nodes.length xs1 xs1 (.slice none 0 0) [] []) ∧ Hid (Keep (SX Ob Pk (.slice A nodes.length C)) w W)) ?_ ?_
  ·have hx9 : (nodes ++ [(⟨-1, [], 0, 0⟩ : NodeD)])[nodes.length]? = some ⟨-1, [], 0, 0⟩ := by simp
   have s1 := hS.out.setCell (nodes' := (nodes ++ [(⟨-1, [], 0, 0⟩ : NodeD)]).set nodes.length ⟨(pre.length : Int), [], 0, 0⟩) (q := nodes.length * 4) (v := .int .i64 pre.length) (by simp) (fun h => h.setW nodes.length hx9)
   rw [show (nodes ++ [(⟨-1, [], 0, 0⟩ : NodeD)]).set nodes.length ⟨(pre.length : Int), [], 0, 0⟩ = nodes ++ [⟨(pre.length : Int), [], 0, 0⟩] by simp, hxs1.out] at s1
   have s2 := (s1.opened (O' := fun k => O k ∨ k = nodes.length) (fun _ h => Or.inl h)).more (Z' := ZK Z (.slice none 0 0)) (fun i _ h => by rcases h with h | h; exact h; simp [Value.ownBlock] at h) (Or.inl s1.zP)
   refine ⟨Lib.hid ⟨by rw [List.append_nil]; exact s2, hH.out.preIs, Keep.refl _ _, Or.inl rfl, World.ownsRow_nil _ _ _ _, ?_, fun _ _ => rfl⟩, Lib.hid (keep_chain hk.out hat.out ((Keep.refl _ _).setCell (p := ⟨g, nodes.length * 4, none⟩) (Or.inl (Or.inr (Or.inr rfl))) _))⟩
   rw [← hxs1.out, List.getElem?_set_ne (by omega), List.getElem?_append_right (by omega), hxl]
   simp
  rintro W3 ⟨hR, hk3⟩
  have hold : Hid (∀ i, O i → xs1[i * 4 + 1]? = xs[i * 4 + 1]?) := Lib.hid fun i hi => by
   have hi2 := hH.out.olt i hi
   rw [← hxs1.out, List.getElem?_set_ne (by omega), List.getElem?_append_left (by omega)]
  clear hxl m1 f1 c4 l4 hg hS hk hxs1
  have c2 : W3.cell? ⟨Sb, 0, none⟩ = some (.slice (some ⟨b1, o1, none⟩) t.length sc) := hR.out.shw.sbox.cell 0
  have l2 := hR.out.shw.sbox.lt
  have z1 := hR.out.shw.ext.cell g3
  clear g3
  have hPlt : Pk < W3.heap.size := hR.out.shw.row.lt
  have hZ3 : Hid (∀ g, Z g → g < W3.heap.size) := Lib.hid fun g hg => by have := hH.out.zlt g hg; have := hk3.out.size; omega
  have hw03 : w0.heap.size ≤ W3.heap.size := hR.out.shw.ext.size
  have hg8 : ∀ (y : Array Value) (W : World), (callFunc 46 y).run Tryz.prog W = .ok (.enter 46 y) W := fun _ _ => by kernel_rfl
  go_wp2_with fail
  clear c2 l2 z1
  go_loopw [50] (fun vi wr => ∃ (i : Nat) (nv9 : Value) (pick9 : List Int) (xs9 : List Value) (kv9 : Value), i ≤ x.opts.length ∧ vi = .int .i64 i ∧
    Hid (RoundK Z O w0 W3 wr Ob Sb Pb Fb Pk (.slice (some ⟨g, 0, none⟩) (nodes.length + 1) C1) nv9 (some ⟨b1, o1, none⟩) sc t pick9 pre (nodes ++ [⟨(pre.length : Int), [], 0, 0⟩]) nodes.length xs1 xs9 kv9
     (kidsG (growF t b r pre harm) (x.opts.take i) 0 (nodes.length + 1)).nodes (kidsG (growF t b r pre harm) (x.opts.take i) 0 (nodes.length + 1)).kids)) (fun vi _ => x.opts.length - (intOf vi).toNat)
  case atStart => exact ⟨0, _, pick, xs1, _, Nat.zero_le _, rfl, hR⟩
  case round =>
   clear hR
   obtain ⟨i, nv9, pick9, xs9, kv9, hi, rfl, hR0⟩ := hrel
   obtain ⟨K2, hK2⟩ : ∃ K2, Hid (kidsG (growF t b r pre harm) (x.opts.take i) 0 (nodes.length + 1) = K2) := ⟨_, rfl⟩
   have hR : Hid (RoundK Z O w0 W3 wr Ob Sb Pb Fb Pk (.slice (some ⟨g, 0, none⟩) (nodes.length + 1) C1) nv9 (some ⟨b1, o1, none⟩) sc t pick9 pre (nodes ++ [⟨(pre.length : Int), [], 0, 0⟩]) nodes.length xs1 xs9 kv9 K2.nodes K2.kids) := by have h := hR0.out; rw [hK2.out] at h; exact h
   clear hR0
   obtain ⟨kA, kC, rfl⟩ := owns_form hR.out.row
   by_cases h1 : i < x.opts.length
   ·obtain ⟨o, ho⟩ : ∃ o, Hid (x.opts[i]? = some o) := ⟨_, List.getElem?_eq_getElem h1⟩
    obtain ⟨LN, hLN⟩ : ∃ LN : Nat, Hid ((nodes ++ [(⟨(pre.length : Int), [], 0, 0⟩ : NodeD)] ++ K2.nodes).length = LN) := ⟨_, rfl⟩
    have hLN2 : Hid (LN = nodes.length + 1 + K2.nodes.length) := by show _ = _; rw [← hLN.out]; simp; omega
    obtain ⟨g9, C9, rfl, hgl, hgb, hcells, hfr⟩ := hR.out.shw.node (by simp; omega)
    rw [hLN.out] at hR
    have hkl : K2.kids.length ≤ 65536 := by
     have h8 := kidsG_kids_len (growF t b r pre harm) (x.opts.take i) 0 (nodes.length + 1)
     rw [hK2.out] at h8
     rw [h8, List.length_take]
     have h9 := hH.out.room
     simp only [treeMax] at h9
     have tp := treeMax_pos r
     have e1 : x.opts.length * 1 ≤ x.opts.length * treeMax r := Nat.mul_le_mul_left _ tp
     omega
    have hroom : Hid (LN + treeMax r ≤ 65536) := by
     show _ ≤ _
     rw [hLN2.out]
     have hn := kidsG_len (f := growF t b r pre harm) (m := treeMax r) (fun i o N => growL_len t b r _ _ _) (x.opts.take i) 0 (nodes.length + 1)
     rw [List.length_take, Nat.min_eq_left hi, hK2.out] at hn
     have h9 := hH.out.room
     simp only [treeMax] at h9
     have e1 : (i + 1) * treeMax r ≤ x.opts.length * treeMax r := Nat.mul_le_mul_right _ (by omega)
     rw [Nat.add_mul] at e1
     omega
    have hLNb : LN ≤ 65536 := by have := hroom.out; omega
    have c1 : wr.cell? ⟨Ob, 0, none⟩ = some (.slice (some ⟨g9, 0, none⟩) LN C9) := hR.out.shw.obox.cell 0
    have l1 := hR.out.shw.obox.lt
    have m1 : wr.cell? ⟨g9, nodes.length * 4 + 1, none⟩ = some (.slice kA K2.kids.length kC) := hcells _ _ hR.out.cell
    have f1 := hfr (nodes.length * 4 + 1)
    have hrow := Lib.hid hR.out.row
    obtain ⟨cs9, hb9⟩ := hgb
    have hb9' := Lib.hid hb9
    have hOb9 := Lib.hid hR.out.shw.obox
    have hszr : W3.heap.size ≤ wr.heap.size := hR.out.keep.size
    have hnlt : nodes.length < LN := by have := hLN2.out; omega
    have hnOb : Hid (Value.ownBlock (.slice kA K2.kids.length kC) ≠ some Ob) := Lib.hid (own_blk_ne hrow.out hOb9.out (by decide))
    have hng9 : Hid (Value.ownBlock (.slice kA K2.kids.length kC) ≠ some g9) := Lib.hid (own_blk_ne hrow.out hb9 (by decide))
    have m1' := Lib.hid m1
    clear hcells hfr hb9
    go_upto_region 11 with (fail)
    obtain ⟨R0, hR0e⟩ : ∃ R : World → Prop, R = (fun V => Ext wr V) := ⟨_, rfl⟩
    obtain ⟨Fin, hFine⟩ : ∃ R : World → Prop, R = (fun V => ∃ A4 C4, RoundK Z O w0 W3 V Ob Sb Pb Fb Pk (.slice (some ⟨g, 0, none⟩) (nodes.length + 1) C1) (.slice (some ⟨g9, 0, none⟩) LN C9) (some ⟨b1, o1, none⟩) sc t pick9 pre (nodes ++ [⟨(pre.length : Int), [], 0, 0⟩]) nodes.length xs1 (xs9.set (nodes.length * 4 + 1) (.slice A4 (K2.kids.length + 1) C4)) (.slice A4 (K2.kids.length + 1) C4) K2.nodes (K2.kids ++ [(LN : Int)])) := ⟨_, rfl⟩
    obtain ⟨Mid, hMide⟩ : ∃ R : Value → World → Prop, R = (fun v V => (∃ A4 C4, v = .slice A4 (K2.kids.length + 1) C4) ∧ V.cell? ⟨Ob, 0, none⟩ = some (.slice (some ⟨g9, 0, none⟩) LN C9) ∧ V.cell? ⟨g9, nodes.length * 4 + 1, none⟩ = some (.slice kA K2.kids.length kC) ∧ V.frozen? ⟨g9, nodes.length * 4 + 1, none⟩ = false ∧ Fin (V.setCell ⟨g9, nodes.length * 4 + 1, none⟩ v)) := ⟨_, rfl⟩
    have hR00 : Hid (R0 wr.drew) := Lib.hid (by rw [hR0e]; exact (Ext.refl wr).drew)
    have hR0c : Hid (∀ V, R0 V → V.cell? ⟨Ob, 0, none⟩ = some (.slice (some ⟨g9, 0, none⟩) LN C9)) := Lib.hid (by rw [hR0e]; exact fun V h => h.cell c1)
    have hR0k : Hid (∀ V, R0 V → V.cell? ⟨g9, nodes.length * 4 + 1, none⟩ = some (.slice kA K2.kids.length kC)) := Lib.hid (by rw [hR0e]; exact fun V h => h.cell m1)
    have hR0x : Hid (∀ V V', R0 V → Ext V V' → R0 V') := Lib.hid (by rw [hR0e]; exact fun V V' h e => h.trans e)
    have hMidc : Hid (∀ v V, Mid v V → V.cell? ⟨Ob, 0, none⟩ = some (.slice (some ⟨g9, 0, none⟩) LN C9)) := Lib.hid (by rw [hMide]; exact fun v V h => h.2.1)
    have hMids : Hid (∀ v V, Mid v V → ∃ A4 C4, v = .slice A4 (K2.kids.length + 1) C4 ∧ V.cell? ⟨g9, nodes.length * 4 + 1, none⟩ = some (.slice kA K2.kids.length kC) ∧ V.frozen? ⟨g9, nodes.length * 4 + 1, none⟩ = false) := Lib.hid (by rw [hMide]; exact fun v V h => let ⟨A4, C4, e⟩ := h.1; ⟨A4, C4, e, h.2.2.1, h.2.2.2.1⟩)
    have hMidf : Hid (∀ v V, Mid v V → Fin (V.setCell ⟨g9, nodes.length * 4 + 1, none⟩ v)) := Lib.hid (by rw [hMide]; exact fun v V h => h.2.2.2.2)
    have hR0a : Hid (∀ V, R0 V → V.ownsRow W3.heap.size 3 1 (.slice kA K2.kids.length kC) K2.kids.length (K2.kids.map (Value.int .i64)) ∧ W3.heap.size ≤ V.heap.size ∧
      ∀ v' W', W'.ownsRow W3.heap.size 3 1 v' (K2.kids.length + 1) (K2.kids.map (Value.int .i64) ++ [.int .i64 (LN : Int)]) → V.grownBy W' (Value.slice kA K2.kids.length kC).ownBlock → (v'.ownBlock = (Value.slice kA K2.kids.length kC).ownBlock ∨ v'.ownBlock = some V.heap.size) → Mid v' W') := Lib.hid (by
     rw [hR0e, hMide, hFine]
     intro V hV
     refine ⟨owns_ext hrow.out hV, Nat.le_trans hszr hV.size, fun v' W' hown hgr hat' => ?_⟩
     obtain ⟨A4, C4, rfl⟩ := owns_form hown
     have kv := Keep.of_ext (X := fun _ => False) hV
     have hOb4 := (kv.blk hOb9.out id).grown hgr (fun e => hnOb.out e.symm)
     have hb9V := kv.blk hb9'.out id
     have hb94 := hb9V.grown hgr (fun e => hng9.out e.symm)
     exact ⟨⟨A4, C4, rfl⟩, hOb4.cell 0, ((hb94.cell _).trans ((hb9V.cell _).symm.trans (hV.cell m1'.out))), hb94.frozen _, A4, C4,
      (hR.out.toExt hV).appended hPlt (by simp) (fun j hj => by have := hH.out.olt j hj; omega) hw03 hown hgr hat'⟩)
    clear c1 l1 m1 m1' f1 hrow hb9' hOb9 hnOb hng9 hR hR0e hMide
    refine wp_region_inv (fun Z L a W => ∃ v53 v54 v55 v56 v57 v58 v59 v60 v61 v62 v63 v64 v65, a = ((((((((((((Z.put (some 53) v53).put (some 54) v54).put (some 55) v55).put (some 56) v56).put (some 57) v57).put (some 58) v58).put (some 59) v59).put (some 60) v60).put (some 61) v61).put (some 62) v62).put (some 63) v63).put (some 64) v64).put (some 65) v65 ∧ GkI R0 Mid Fin (.slice (some ⟨g9, 0, none⟩) LN C9) (.slice kA K2.kids.length kC) g9 nodes.length LN L v53 v54 v55 v56 v57 v58 v59 v60 v61 v62 v63 v64 v65 W) (by kernel_rfl) (by kernel_rfl) ?_ ?_ ?_
    ·exact ⟨u53, u54, u55, u56, u57, u58, u59, u60, u61, u62, u63, u64, u65, (by simp only [Act.put, putA, putB, putC]), ⟨(fun q => by cases q), (fun q => by cases q), (fun q => by cases q), (fun q => by cases q), (fun q => by cases q), (fun q => by cases q), (fun q => by cases q), (fun q => by cases q), (fun q => by cases q), (fun q => by cases q), fun _ => ⟨rfl, hR00.out⟩, (fun q => by cases q), (fun q => by cases q), (fun q => by cases q), (fun q => by cases q), ⟨(fun q => by cases q), (fun q => by cases q), (fun q => by cases q), (fun q => by cases q)⟩, ⟨(fun q => by cases q), (fun q => by cases q), (fun q => by cases q)⟩, ⟨(fun q => by cases q), (fun q => by cases q), (fun q => by cases q)⟩⟩⟩
    ·refine ⟨⟨rfl, ?_⟩, ⟨rfl, ?_⟩, ⟨rfl, ?_⟩, ⟨rfl, ?_⟩, ⟨rfl, ?_⟩, ⟨rfl, ?_⟩, ⟨rfl, ?_⟩, ⟨rfl, ?_⟩, ⟨rfl, ?_⟩, ⟨rfl, ?_⟩, ⟨rfl, ?_⟩, ⟨rfl, ?_⟩, ⟨rfl, ?_⟩, ⟨rfl, ?_⟩, trivial⟩
     ·rintro L _ W ⟨v53, v54, v55, v56, v57, v58, v59, v60, v61, v62, v63, v64, v65, rfl, hI⟩ hL _ K hK
      simp only [Act.put, putA, putB, putC]
      have k0 := hI.ob hR0c.out hMidc.out (hI.no13a hL)
      go_simp
      refine hK _ _ ⟨_, v54, v55, v56, v57, v58, v59, v60, v61, v62, v63, v64, v65, (by simp only [Act.put, putA, putB, putC]), ⟨fun _ => rfl, hI.f1, hI.f2, hI.f3, hI.f4, hI.f5, hI.f6, hI.f7, hI.f8, hI.f9, hI.f10, hI.g10, hI.f11, hI.f12, hI.f13, hI.d2, hI.d7, ⟨fun _ => rfl, hI.d0.2.1, hI.d0.2.2⟩⟩⟩
     ·rintro L _ W ⟨v53, v54, v55, v56, v57, v58, v59, v60, v61, v62, v63, v64, v65, rfl, hI⟩ hL _ K hK
      simp only [Act.put, putA, putB, putC]
      go_simp
      refine hK _ _ ⟨v53, _, v55, v56, v57, v58, v59, v60, v61, v62, v63, v64, v65, (by simp only [Act.put, putA, putB, putC]), ⟨hI.f0, fun _ => rfl, hI.f2, hI.f3, hI.f4, hI.f5, hI.f6, hI.f7, hI.f8, hI.f9, hI.f10, hI.g10, hI.f11, hI.f12, hI.f13, hI.d2, hI.d7, hI.d0⟩⟩
     ·rintro L _ W ⟨v53, v54, v55, v56, v57, v58, v59, v60, v61, v62, v63, v64, v65, rfl, hI⟩ hL _ K hK
      simp only [Act.put, putA, putB, putC]
      have k0 := hR0c.out _ (hI.f10 (hI.no10b hL)).2
      go_simp
      refine hK _ _ ⟨v53, v54, _, v56, v57, v58, v59, v60, v61, v62, v63, v64, v65, (by simp only [Act.put, putA, putB, putC]), ⟨hI.f0, hI.f1, fun _ => rfl, hI.f3, hI.f4, hI.f5, hI.f6, hI.f7, hI.f8, hI.f9, hI.f10, hI.g10, hI.f11, hI.f12, hI.f13, ⟨fun _ => rfl, hI.d2.2.1, hI.d2.2.2.1, hI.d2.2.2.2⟩, hI.d7, hI.d0⟩⟩
     ·rintro L _ W ⟨v53, v54, v55, v56, v57, v58, v59, v60, v61, v62, v63, v64, v65, rfl, hI⟩ hL _ K hK
      simp only [Act.put, putA, putB, putC]
      go_simp
      refine hK _ _ ⟨v53, v54, v55, _, v57, v58, v59, v60, v61, v62, v63, v64, v65, (by simp only [Act.put, putA, putB, putC]), ⟨hI.f0, hI.f1, hI.f2, fun _ => rfl, hI.f4, hI.f5, hI.f6, hI.f7, hI.f8, hI.f9, hI.f10, hI.g10, hI.f11, hI.f12, hI.f13, hI.d2, hI.d7, hI.d0⟩⟩
     ·rintro L _ W ⟨v53, v54, v55, v56, v57, v58, v59, v60, v61, v62, v63, v64, v65, rfl, hI⟩ hL hd K hK
      simp only [Act.put, putA, putB, putC]
      simp [Region.binds] at hd
      obtain rfl := hI.f2 (by simp [hd])
      obtain rfl := hI.f3 (by simp [hd])
      go_simp
      refine hK _ _ ⟨v53, v54, _, _, _, v58, v59, v60, v61, v62, v63, v64, v65, (by simp only [Act.put, putA, putB, putC]), ⟨hI.f0, hI.f1, fun _ => rfl, fun _ => rfl, fun _ => rfl, hI.f5, hI.f6, hI.f7, hI.f8, hI.f9, hI.f10, hI.g10, hI.f11, hI.f12, hI.f13, ⟨fun _ => (by show L 2 = true; simp [hd]), fun _ => rfl, hI.d2.2.2.1, hI.d2.2.2.2⟩, hI.d7, hI.d0⟩⟩
     ·rintro L _ W ⟨v53, v54, v55, v56, v57, v58, v59, v60, v61, v62, v63, v64, v65, rfl, hI⟩ hL hd K hK
      simp only [Act.put, putA, putB, putC]
      simp [Region.binds] at hd
      obtain rfl := hI.f4 (by simp [hd])
      go_simp
      refine hK _ _ ⟨v53, v54, v55, v56, _, _, v59, v60, v61, v62, v63, v64, v65, (by simp only [Act.put, putA, putB, putC]), ⟨hI.f0, hI.f1, hI.f2, hI.f3, fun _ => rfl, fun _ => rfl, hI.f6, hI.f7, hI.f8, hI.f9, hI.f10, hI.g10, hI.f11, hI.f12, hI.f13, ⟨hI.d2.1, fun _ => (by show L 4 = true; simp [hd]), fun _ => rfl, hI.d2.2.2.2⟩, hI.d7, hI.d0⟩⟩
     ·rintro L _ W ⟨v53, v54, v55, v56, v57, v58, v59, v60, v61, v62, v63, v64, v65, rfl, hI⟩ hL hd K hK
      simp only [Act.put, putA, putB, putC]
      simp [Region.binds] at hd
      obtain rfl := hI.f5 (by simp [hd])
      have k1 := hR0k.out _ (hI.f10 (hI.no10d hL)).2
      go_simp
      refine hK _ _ ⟨v53, v54, v55, v56, v57, _, _, v60, v61, v62, v63, v64, v65, (by simp only [Act.put, putA, putB, putC]), ⟨hI.f0, hI.f1, hI.f2, hI.f3, hI.f4, fun _ => rfl, fun _ => rfl, hI.f7, hI.f8, hI.f9, hI.f10, hI.g10, hI.f11, hI.f12, hI.f13, ⟨hI.d2.1, hI.d2.2.1, fun _ => (by show L 5 = true; simp [hd]), fun _ => rfl⟩, hI.d7, hI.d0⟩⟩
     ·rintro L _ W ⟨v53, v54, v55, v56, v57, v58, v59, v60, v61, v62, v63, v64, v65, rfl, hI⟩ hL _ K hK
      simp only [Act.put, putA, putB, putC]
      have k0 := hR0c.out _ (hI.f10 (hI.no10c hL)).2
      go_simp
      refine hK _ _ ⟨v53, v54, v55, v56, v57, v58, v59, _, v61, v62, v63, v64, v65, (by simp only [Act.put, putA, putB, putC]), ⟨hI.f0, hI.f1, hI.f2, hI.f3, hI.f4, hI.f5, hI.f6, fun _ => rfl, hI.f8, hI.f9, hI.f10, hI.g10, hI.f11, hI.f12, hI.f13, hI.d2, ⟨fun _ => rfl, hI.d7.2.1, hI.d7.2.2⟩, hI.d0⟩⟩
     ·rintro L _ W ⟨v53, v54, v55, v56, v57, v58, v59, v60, v61, v62, v63, v64, v65, rfl, hI⟩ hL hd K hK
      simp only [Act.put, putA, putB, putC]
      simp [Region.binds] at hd
      obtain rfl := hI.f7 (by simp [hd])
      go_simp
      refine hK _ _ ⟨v53, v54, v55, v56, v57, v58, v59, _, _, v62, v63, v64, v65, (by simp only [Act.put, putA, putB, putC]), ⟨hI.f0, hI.f1, hI.f2, hI.f3, hI.f4, hI.f5, hI.f6, fun _ => rfl, fun _ => rfl, hI.f9, hI.f10, hI.g10, hI.f11, hI.f12, hI.f13, hI.d2, ⟨fun _ => (by show L 7 = true; simp [hd]), fun _ => rfl, hI.d7.2.2⟩, hI.d0⟩⟩
     ·rintro L _ W ⟨v53, v54, v55, v56, v57, v58, v59, v60, v61, v62, v63, v64, v65, rfl, hI⟩ hL hd K hK
      simp only [Act.put, putA, putB, putC]
      simp [Region.binds] at hd
      obtain rfl := hI.f8 (by simp [hd])
      have q10 := hI.no10e hL
      have hr := hR0x.out _ _ (hI.f10 q10).2 ((Ext.refl W).alloc (.cells #[.int .i64 (LN : Int)] 3))
      go_simp
      refine hK _ _ ⟨v53, v54, v55, v56, v57, v58, v59, v60, _, _, v63, v64, v65, (by simp only [Act.put, putA, putB, putC]), ⟨hI.f0, hI.f1, hI.f2, hI.f3, hI.f4, hI.f5, hI.f6, hI.f7, fun _ => rfl, fun _ => ⟨_, rfl, fun _ => blk_new' rfl rfl⟩, fun _ => ⟨(hI.f10 q10).1, hr⟩, fun q => absurd q (by show ¬ L 10 = true; rw [q10]; simp), hI.f11, hI.f12, fun q => absurd q (by show ¬ L 13 = true; rw [(hI.f10 q10).1]; simp), hI.d2, ⟨hI.d7.1, fun _ => (by show L 8 = true; simp [hd]), fun _ => rfl⟩, hI.d0⟩⟩
     ·rintro L _ W ⟨v53, v54, v55, v56, v57, v58, v59, v60, v61, v62, v63, v64, v65, rfl, hI⟩ hL hd K hK
      simp only [Act.put, putA, putB, putC]
      simp [Region.binds] at hd
      obtain rfl := hI.f6 (by simp [hd])
      obtain ⟨gq, rfl, hgq⟩ := hI.f9 (by simp [hd])
      have hb := hgq hL
      obtain ⟨q13, hr⟩ := hI.f10 hL
      obtain ⟨hrow1, hsz1, hfin1⟩ := hR0a.out W hr
      refine wp_append_any W (.tmp 59) (.tmp 62) 31 rfl W3.heap.size 3 j0 _ 1 8 Tryz.underlying31 hj0 jz0 jz1 jz2 rfl (by decide) (.slice kA K2.kids.length kC) K2.kids.length (K2.kids.map (Value.int .i64)) rfl hrow1 W.heap.size (some ⟨gq, 0, none⟩) 1 1 [.int .i64 (LN : Int)] rfl (reads_blkW (size := 1) (m := 1) hb rfl) (by simp [Value.oneCell']) (by unfold maxLen; omega) (by omega) hsz1 fun v' W' hown hgr hat => ?_
      simp only [Act.put, putA, putB, putC]
      refine hK _ _ ⟨v53, v54, v55, v56, v57, v58, .slice kA K2.kids.length kC, v60, v61, .slice (some ⟨gq, 0, none⟩) 1 1, v', v64, v65, (by simp only [Act.put, putA, putB, putC]), ⟨hI.f0, hI.f1, hI.f2, hI.f3, hI.f4, hI.f5, fun _ => rfl, hI.f7, hI.f8, fun _ => ⟨_, rfl, fun q => by cases q⟩, (fun q => by cases q), fun _ _ => hfin1 v' W' hown hgr hat, hI.f11, hI.f12, fun q => absurd q (by show ¬ L 13 = true; rw [q13]; simp), ⟨hI.d2.1, hI.d2.2.1, hI.d2.2.2.1, fun _ => (by show L 6 = true; simp [hd])⟩, ⟨hI.d7.1, hI.d7.2.1, fun _ => (by show L 9 = true; simp [hd])⟩, hI.d0⟩⟩
     ·rintro L _ W ⟨v53, v54, v55, v56, v57, v58, v59, v60, v61, v62, v63, v64, v65, rfl, hI⟩ hL hd K hK
      simp only [Act.put, putA, putB, putC]
      simp [Region.binds] at hd
      obtain rfl := hI.f0 (by simp [hd])
      obtain rfl := hI.f1 (by simp [hd])
      go_simp
      refine hK _ _ ⟨_, _, v55, v56, v57, v58, v59, v60, v61, v62, v63, _, v65, (by simp only [Act.put, putA, putB, putC]), ⟨fun _ => rfl, fun _ => rfl, hI.f2, hI.f3, hI.f4, hI.f5, hI.f6, hI.f7, hI.f8, hI.f9, hI.f10, hI.g10, fun _ => rfl, hI.f12, hI.f13, hI.d2, hI.d7, ⟨fun _ => (by show L 0 = true; simp [hd]), fun _ => rfl, hI.d0.2.2⟩⟩⟩
     ·rintro L _ W ⟨v53, v54, v55, v56, v57, v58, v59, v60, v61, v62, v63, v64, v65, rfl, hI⟩ hL hd K hK
      simp only [Act.put, putA, putB, putC]
      simp [Region.binds] at hd
      obtain rfl := hI.f11 (by simp [hd])
      go_simp
      refine hK _ _ ⟨v53, v54, v55, v56, v57, v58, v59, v60, v61, v62, v63, _, _, (by simp only [Act.put, putA, putB, putC]), ⟨hI.f0, hI.f1, hI.f2, hI.f3, hI.f4, hI.f5, hI.f6, hI.f7, hI.f8, hI.f9, hI.f10, hI.g10, fun _ => rfl, fun _ => rfl, hI.f13, hI.d2, hI.d7, ⟨hI.d0.1, fun _ => (by show L 11 = true; simp [hd]), fun _ => rfl⟩⟩⟩
     ·rintro L _ W ⟨v53, v54, v55, v56, v57, v58, v59, v60, v61, v62, v63, v64, v65, rfl, hI⟩ hL hd K hK
      simp only [Act.put, putA, putB, putC]
      simp [Region.binds] at hd
      have q10 : L 10 = true := by simp [hd]
      obtain rfl := hI.f12 (by simp [hd])
      have hm := hI.g10 q10 hL
      obtain ⟨A4, C4, rfl, mc, mf⟩ := hMids.out _ _ hm
      go_simp
      refine hK _ _ ⟨v53, v54, v55, v56, v57, v58, v59, v60, v61, v62, .slice A4 (K2.kids.length + 1) C4, v64, .pointer (some ⟨g9, nodes.length * 4 + 1, none⟩), (by simp only [Act.put, putA, putB, putC]), ⟨hI.f0, hI.f1, hI.f2, hI.f3, hI.f4, hI.f5, hI.f6, hI.f7, hI.f8, fun q => let ⟨g, a, b⟩ := hI.f9 q; ⟨g, a, fun r => absurd q10 (by have q2 : L 10 = false := r; rw [q2]; simp)⟩, fun q => absurd q10 (by have q2 : L 10 = false := q; rw [q2]; simp), (fun _ q => by cases q), hI.f11, fun _ => rfl, fun _ => hMidf.out _ _ hm, hI.d2, hI.d7, ⟨hI.d0.1, hI.d0.2.1, fun _ => (by show L 12 = true; simp [hd])⟩⟩⟩
    rintro _ _ W5 ⟨v53, v54, v55, v56, v57, v58, v59, v60, v61, v62, v63, v64, v65, rfl, hI⟩ hall
    have hF := hI.f13 (hall 13 (by decide))
    rw [hFine] at hF
    obtain ⟨A4, C4, hF5⟩ := hF
    have hR5 := Lib.hid hF5
    clear hI hall hF5 hFine hR00 hR0c hR0k hR0x hMidc hMids hMidf hR0a
    simp only [Act.put, putA, putB, putC]
    go_step; go_step
    have hpl9 := hR5.out.shw.plen
    have hlt9 : pre.length < pick9.length := by rw [hpl9]; exact hlt
    obtain ⟨z, hz⟩ : ∃ z, pick9[pre.length]? = some z := ⟨_, List.getElem?_eq_getElem hlt9⟩
    have c3 : W5.cell? ⟨Pb, 0, none⟩ = some (.slice (some ⟨Pk, 0, none⟩) t.length t.length) := hR5.out.shw.pbox.cell 0
    have l3 := hR5.out.shw.pbox.lt
    have c5 : W5.cell? ⟨Pk, pre.length, none⟩ = some (.int .i64 z) := by rw [hR5.out.shw.row.cell]; simp [hz]
    have l5 := hR5.out.shw.row.lt
    have f5 := hR5.out.shw.row.frozen pre.length
    have hlt9' := Lib.hid hlt9
    clear hz hpl9 hlt9
    go_upto_region 13 with (fail)
    refine wp_abs (S := fun W => Hid (RoundK Z O w0 W3 W Ob Sb Pb Fb Pk (.slice (some ⟨g, 0, none⟩) (nodes.length + 1) C1) (.slice (some ⟨g9, 0, none⟩) LN C9) (some ⟨b1, o1, none⟩) sc t (pick9.set pre.length (i : Int)) pre (nodes ++ [⟨(pre.length : Int), [], 0, 0⟩]) nodes.length xs1 (xs9.set (nodes.length * 4 + 1) (.slice A4 (K2.kids.length + 1) C4)) (.slice A4 (K2.kids.length + 1) C4) K2.nodes (K2.kids ++ [(LN : Int)]))) ?_ ?_
    ·exact Lib.hid (hR5.out.picked hPlt (i : Int))
    rintro W6 hR6
    obtain ⟨pick6, hp6⟩ : ∃ p, Hid (pick9.set pre.length (i : Int) = p) := ⟨_, rfl⟩
    obtain ⟨xs6, hx6⟩ : ∃ p, Hid (xs9.set (nodes.length * 4 + 1) (.slice A4 (K2.kids.length + 1) C4) = p) := ⟨_, rfl⟩
    have htk6 : Hid (pick6.take (pre.length + 1) = pre ++ [(i : Int)]) := by show _ = _; rw [← hp6.out]; exact pre_set hR5.out.preIs hlt9'.out
    rw [hp6.out, hx6.out] at hR6
    have hstep := Lib.hid (kidsG_step (growF t b r pre harm) x.opts i o ho.out 0 (nodes.length + 1))
    have hqt := Lib.hid (kidsG_none (growF t b r pre harm) x.opts 0 (nodes.length + 1) (by rw [hK.out]; exact hKo.out.1) (by rw [hK.out]; exact hKo.out.2) i o ho.out)
    rw [hK2.out] at hstep hqt
    obtain ⟨G9, hG9⟩ : ∃ G9, Hid ((growL t b r (pre ++ [(i : Int)]) (harm + o.harm) LN) = G9) := ⟨_, rfl⟩
    have hstep2 : Hid (kidsG (growF t b r pre harm) (x.opts.take (i + 1)) 0 (nodes.length + 1) = ⟨K2.nodes ++ G9.nodes, K2.kids ++ [(LN : Int)], K2.opens ++ G9.opens, K2.ests ++ G9.ests⟩) := by
     have h := hstep.out
     simp only [growF, Int.zero_add, ← hLN2.out, hG9.out] at h
     exact h
    have hqt2 : Hid (G9.opens = [] ∧ G9.ests = []) := by
     have h := hqt.out
     simp only [growF, Int.zero_add, ← hLN2.out, hG9.out] at h
     exact h
    have hcall := ih'.out (ZK Z (.slice A4 (K2.kids.length + 1) C4)) (fun k => O k ∨ k = nodes.length) W6 _ (harm + o.harm) pick6 (pre ++ [(i : Int)]) (nodes ++ [⟨(pre.length : Int), [], 0, 0⟩] ++ K2.nodes) xs6
     ⟨hR6.out.shw, fun g hg => by rcases hg with hg | hg; exact Nat.lt_of_lt_of_le (hZ3.out g hg) hR6.out.keep.size; exact (hR6.out.row.lt g hg).2,
      fun k hk => by rcases hk with hk | hk; (have := hH.out.olt k hk; rw [hLN.out]; omega); (rw [hLN.out, hk]; exact hnlt),
      by rw [List.length_append, List.length_singleton]; exact htk6.out, by rw [List.length_append, List.length_singleton]; exact hdr.out, by rw [List.length_append, List.length_singleton]; exact hlt,
      optOf_snoc hx'.out h1 hH.out.opts, by rw [hLN.out]; exact hroom.out, by rw [hLN.out, hG9.out]; exact hqt2.out.1, by rw [hLN.out, hG9.out]; exact hqt2.out.2⟩
    rw [hLN.out, hG9.out, List.length_append, List.length_singleton, show ((pre.length + 1 : Nat) : Int) = (pre.length : Int) + 1 by omega] at hcall
    have hcall' := Lib.hid hcall
    have c6 : W6.cell? ⟨Fb, 0, none⟩ = some (.func (.func 46) #[] #[.pointer (some ⟨Ob, 0, none⟩), .pointer (some ⟨Sb, 0, none⟩), .pointer (some ⟨Pb, 0, none⟩), .pointer (some ⟨Fb, 0, none⟩)]) := hR6.out.shw.fbox.cell 0
    have l6 := hR6.out.shw.fbox.lt
    clear hcall hR5 c3 l3 c5 l5 f5 hstep hqt hqt2 hp6 hx6 htk6
    go_wp2_with fail
    refine hcall'.out.mono ?_
    rintro e W7 ⟨nv7, pick7, xs7, rfl, hs7, htk7, hk7, hnv7, hold7⟩
    have hR7 : Hid (RoundK Z O w0 W3 W7 Ob Sb Pb Fb Pk (.slice (some ⟨g, 0, none⟩) (nodes.length + 1) C1) nv7 (some ⟨b1, o1, none⟩) sc t pick7 pre (nodes ++ [⟨(pre.length : Int), [], 0, 0⟩]) nodes.length xs1 xs7 (.slice A4 (K2.kids.length + 1) C4)
     (kidsG (growF t b r pre harm) (x.opts.take (i + 1)) 0 (nodes.length + 1)).nodes (kidsG (growF t b r pre harm) (x.opts.take (i + 1)) 0 (nodes.length + 1)).kids) := by
     rw [hstep2.out]
     exact Lib.hid (hR6.out.called hPlt hs7 (by rw [List.length_append, List.length_singleton] at htk7; exact htk7) hk7 hnv7 hold7)
    clear hcall' hR6 hs7 htk7 hk7 hnv7 hold7 c6 l6 hstep2 hG9
    go_wp2
    go_roundw
    case rel => first | exact ⟨i + 1, nv7, pick7, xs7, (.slice A4 (K2.kids.length + 1) C4), h1, by go_num, hR7⟩ | ((repeat apply Exists.intro); exact ⟨⟨i + 1, nv7, pick7, xs7, (.slice A4 (K2.kids.length + 1) C4), h1, by go_num, hR7⟩, rfl⟩)
    case measure => simp [intOf]; omega
   ·have hKx : Hid (K2 = K) := by show _ = _; rw [← hK2.out, List.take_of_length_le (by omega)]; exact hK.out
    have hfin := hR.out.closed (n := ⟨(pre.length : Int), [], 0, 0⟩) hZ3.out hw03 hH.out.shw.zP (by simp)
    rw [show (nodes ++ [(⟨(pre.length : Int), [], 0, 0⟩ : NodeD)] ++ K2.nodes).set nodes.length ⟨(pre.length : Int), K2.kids, 0, 0⟩ = nodes ++ (⟨(pre.length : Int), K2.kids, 0, 0⟩ :: K2.nodes) by simp, hKx.out] at hfin
    have hfin' := Lib.hid hfin
    have hpr := Lib.hid hR.out.preIs
    have hkf := Lib.hid (keep_chain hk3.out hat.out hR.out.keep)
    have hnf := Lib.hid (nvs_chain hk3.out.size hat.out hR.out.nvs)
    have hof : Hid (∀ j, O j → xs9[j * 4 + 1]? = xs[j * 4 + 1]?) := Lib.hid fun j hj => (hR.out.old j hj).trans (hold.out j hj)
    clear hfin hR hKx hK2
    go_wp2
    go_end0
    exact ⟨nv9, pick9, xs9, rfl, hfin'.out, hpr.out, hkf.out, hnf.out, hof.out⟩
 ·have d3 : decide (0 < (pre.length : Int)) = false := decide_eq_false (by omega)
  have hnlt : nodes.length < 65536 := by have := H.room; have := treeMax_pos (x :: r); omega
  have d1 : decide (65536 < (nodes.length : Int)) = false := decide_eq_false (by omega)
  obtain ⟨A, C, rfl⟩ := owns_form H.shw.owns
  have c1 : w.cell? ⟨Ob, 0, none⟩ = some (.slice A nodes.length C) := H.shw.obox.cell 0
  have l1 := H.shw.obox.lt
  have f1 := H.shw.obox.frozen 0
  have hown := Lib.hid H.shw.owns
  have hH := Lib.hid H
  have hpl : pre.length ≤ 512 := by have := H.len; omega
  have h0 : w0.heap.size ≤ w.heap.size := H.shw.ext.size
  clear H
  go_enter Tryz.func46, Tryz.ntmps46
  go_upto_region 3 with (at_builtin; refine wpList_append_any _ rfl (.tmp 14) (.tmp 16) _ rfl w0.heap.size 128 i0 _ 4 48 Tryz.underlying34 hi0 hz0 hz1 hz2 rfl (by decide) (.slice A nodes.length C) nodes.length xs rfl (hown.out.alloc _) (w.heap.size + 1) (some ⟨w.heap.size, 0, none⟩) 1 1 [.int .i64 (-1), .slice none 0 0, .int .i64 0, .int .i64 0] rfl (reads_last _ #[_, _, _, _] _ 4 1 _ _ rfl (by omega) rfl) (by intro u hu; simp at hu; rcases hu with rfl | rfl | rfl | rfl <;> rfl) (by unfold maxLen; omega) (by omega) (by simp; omega) ?_; intro v1 w1 hown1 hg1 hat1; obtain ⟨A1, C1, rfl⟩ := owns_form hown1; have hOb1 : Blk w1 Ob 34 #[.slice A nodes.length C] := ((hH.out.shw.obox.alloc _)).grown hg1 (fun e => hH.out.shw.nv_ne.1 e.symm); have m1 : w1.cell? ⟨Ob, 0, none⟩ = some (.slice A nodes.length C) := hOb1.cell 0; have f2 := hOb1.frozen 0; have lt2 := hOb1.lt)
  refine wp_abs (S := fun W => Hid (Shw w0 W Z O Ob Sb Pb Fb Pk (.slice A1 (nodes.length + 1) C1) (some ⟨b1, o1, none⟩) sc t pick (nodes ++ [⟨-1, [], 0, 0⟩]) (xs ++ [.int .i64 (-1), .slice none 0 0, .int .i64 0, .int .i64 0])) ∧ Hid (Keep (SX Ob Pk (.slice A nodes.length C)) w W) ∧ Hid ((Value.slice A1 (nodes.length + 1) C1).ownBlock = (Value.slice A nodes.length C).ownBlock ∨ ∃ g, (Value.slice A1 (nodes.length + 1) C1).ownBlock = some g ∧ w.heap.size ≤ g)) ?_ ?_
  ·have k1 : Keep (fun k => k = Ob ∨ Value.ownBlock (.slice A nodes.length C) = some k) w w1 := (((Keep.refl _ _).alloc _)).grown hg1 (fun g e => Or.inl (Or.inr e))
   have k2 := k1.setCell (p := ⟨Ob, 0, none⟩) (Or.inl (Or.inl rfl)) (.slice A1 (nodes.length + 1) C1)
   have hb := hOb1.set_ 0 (.slice A1 (nodes.length + 1) C1)
   have o2 := (keep_set w1 Ob 0 (.slice A1 (nodes.length + 1) C1)).owns hown1 (fun g e h => own_blk_ne hown1 hOb1 (by decide) (by rw [e, h]))
   refine ⟨Lib.hid (hH.out.shw.pushed (n := ⟨-1, [], 0, 0⟩) rfl hb o2 k2), Lib.hid (keep_sy k2), Lib.hid ?_⟩
   rcases hat1 with h | h
   ·exact Or.inl h
   ·exact Or.inr ⟨_, h, by simp⟩
  rintro W1 ⟨hS, hk, hat⟩
  clear c1 l1 f1 hown hown1 hg1 hat1 hOb1 m1 f2 lt2 d1 h0
  have hxl := hH.out.shw.cells.len
  obtain ⟨g, C2, e2, hg, _, hcells, hfr⟩ := hS.out.node (by simp)
  simp only [List.length_append, List.length_singleton] at e2
  cases e2
  have m1 : W1.cell? ⟨g, nodes.length * 4, none⟩ = some (.int .i64 (-1)) := hcells _ _ (by rw [List.getElem?_append_right (by omega), hxl]; simp)
  have f1 := hfr (nodes.length * 4)
  have c4 : W1.cell? ⟨Ob, 0, none⟩ = some (.slice (some ⟨g, 0, none⟩) (nodes.length + 1) C1) := hS.out.obox.cell 0
  have l4 := hS.out.obox.lt
  clear hcells hfr
  go_upto_region 8 with (fail)
  obtain ⟨xs1, hxs1⟩ : ∃ xs1, Hid ((xs ++ [Value.int .i64 (-1), .slice none 0 0, .int .i64 0, .int .i64 0]).set (nodes.length * 4) (.int .i64 pre.length) = xs1) := ⟨_, rfl⟩
  refine wp_abs (S := fun W => Hid (RoundK Z O w0 W W Ob Sb Pb Fb Pk (.slice (some ⟨g, 0, none⟩) (nodes.length + 1) C1) (.slice (some ⟨g, 0, none⟩) (nodes.length + 1) C1) (some ⟨b1, o1, none⟩) sc t pick pre (nodes ++ [⟨(pre.length : Int), [], 0, 0⟩]) nodes.length xs1 xs1 (.slice none 0 0) [] []) ∧ Hid (Keep (SX Ob Pk (.slice A nodes.length C)) w W)) ?_ ?_
  ·have hx9 : (nodes ++ [(⟨-1, [], 0, 0⟩ : NodeD)])[nodes.length]? = some ⟨-1, [], 0, 0⟩ := by simp
   have s1 := hS.out.setCell (nodes' := (nodes ++ [(⟨-1, [], 0, 0⟩ : NodeD)]).set nodes.length ⟨(pre.length : Int), [], 0, 0⟩) (q := nodes.length * 4) (v := .int .i64 pre.length) (by simp) (fun h => h.setW nodes.length hx9)
   rw [show (nodes ++ [(⟨-1, [], 0, 0⟩ : NodeD)]).set nodes.length ⟨(pre.length : Int), [], 0, 0⟩ = nodes ++ [⟨(pre.length : Int), [], 0, 0⟩] by simp, hxs1.out] at s1
   have s2 := (s1.opened (O' := fun k => O k ∨ k = nodes.length) (fun _ h => Or.inl h)).more (Z' := ZK Z (.slice none 0 0)) (fun i _ h => by rcases h with h | h; exact h; simp [Value.ownBlock] at h) (Or.inl s1.zP)
   refine ⟨Lib.hid ⟨by rw [List.append_nil]; exact s2, hH.out.preIs, Keep.refl _ _, Or.inl rfl, World.ownsRow_nil _ _ _ _, ?_, fun _ _ => rfl⟩, Lib.hid (keep_chain hk.out hat.out ((Keep.refl _ _).setCell (p := ⟨g, nodes.length * 4, none⟩) (Or.inl (Or.inr (Or.inr rfl))) _))⟩
   rw [← hxs1.out, List.getElem?_set_ne (by omega), List.getElem?_append_right (by omega), hxl]
   simp
  rintro W3 ⟨hR, hk3⟩
  have hold : Hid (∀ i, O i → xs1[i * 4 + 1]? = xs[i * 4 + 1]?) := Lib.hid fun i hi => by
   have hi2 := hH.out.olt i hi
   rw [← hxs1.out, List.getElem?_set_ne (by omega), List.getElem?_append_left (by omega)]
  clear hxl m1 f1 c4 l4 hg hS hk hxs1
  have c2 : W3.cell? ⟨Sb, 0, none⟩ = some (.slice (some ⟨b1, o1, none⟩) t.length sc) := hR.out.shw.sbox.cell 0
  have l2 := hR.out.shw.sbox.lt
  have z1 := hR.out.shw.ext.cell g3
  clear g3
  have hPlt : Pk < W3.heap.size := hR.out.shw.row.lt
  have hZ3 : Hid (∀ g, Z g → g < W3.heap.size) := Lib.hid fun g hg => by have := hH.out.zlt g hg; have := hk3.out.size; omega
  have hw03 : w0.heap.size ≤ W3.heap.size := hR.out.shw.ext.size
  have hg8 : ∀ (y : Array Value) (W : World), (callFunc 46 y).run Tryz.prog W = .ok (.enter 46 y) W := fun _ _ => by kernel_rfl
  go_wp2_with fail
  clear c2 l2 z1
  go_loopw [50] (fun vi wr => ∃ (i : Nat) (nv9 : Value) (pick9 : List Int) (xs9 : List Value) (kv9 : Value), i ≤ x.opts.length ∧ vi = .int .i64 i ∧
    Hid (RoundK Z O w0 W3 wr Ob Sb Pb Fb Pk (.slice (some ⟨g, 0, none⟩) (nodes.length + 1) C1) nv9 (some ⟨b1, o1, none⟩) sc t pick9 pre (nodes ++ [⟨(pre.length : Int), [], 0, 0⟩]) nodes.length xs1 xs9 kv9
     (kidsG (growF t b r pre harm) (x.opts.take i) 0 (nodes.length + 1)).nodes (kidsG (growF t b r pre harm) (x.opts.take i) 0 (nodes.length + 1)).kids)) (fun vi _ => x.opts.length - (intOf vi).toNat)
  case atStart => exact ⟨0, _, pick, xs1, _, Nat.zero_le _, rfl, hR⟩
  case round =>
   clear hR
   obtain ⟨i, nv9, pick9, xs9, kv9, hi, rfl, hR0⟩ := hrel
   obtain ⟨K2, hK2⟩ : ∃ K2, Hid (kidsG (growF t b r pre harm) (x.opts.take i) 0 (nodes.length + 1) = K2) := ⟨_, rfl⟩
   have hR : Hid (RoundK Z O w0 W3 wr Ob Sb Pb Fb Pk (.slice (some ⟨g, 0, none⟩) (nodes.length + 1) C1) nv9 (some ⟨b1, o1, none⟩) sc t pick9 pre (nodes ++ [⟨(pre.length : Int), [], 0, 0⟩]) nodes.length xs1 xs9 kv9 K2.nodes K2.kids) := by have h := hR0.out; rw [hK2.out] at h; exact h
   clear hR0
   obtain ⟨kA, kC, rfl⟩ := owns_form hR.out.row
   by_cases h1 : i < x.opts.length
   ·obtain ⟨o, ho⟩ : ∃ o, Hid (x.opts[i]? = some o) := ⟨_, List.getElem?_eq_getElem h1⟩
    obtain ⟨LN, hLN⟩ : ∃ LN : Nat, Hid ((nodes ++ [(⟨(pre.length : Int), [], 0, 0⟩ : NodeD)] ++ K2.nodes).length = LN) := ⟨_, rfl⟩
    have hLN2 : Hid (LN = nodes.length + 1 + K2.nodes.length) := by show _ = _; rw [← hLN.out]; simp; omega
    obtain ⟨g9, C9, rfl, hgl, hgb, hcells, hfr⟩ := hR.out.shw.node (by simp; omega)
    rw [hLN.out] at hR
    have hkl : K2.kids.length ≤ 65536 := by
     have h8 := kidsG_kids_len (growF t b r pre harm) (x.opts.take i) 0 (nodes.length + 1)
     rw [hK2.out] at h8
     rw [h8, List.length_take]
     have h9 := hH.out.room
     simp only [treeMax] at h9
     have tp := treeMax_pos r
     have e1 : x.opts.length * 1 ≤ x.opts.length * treeMax r := Nat.mul_le_mul_left _ tp
     omega
    have hroom : Hid (LN + treeMax r ≤ 65536) := by
     show _ ≤ _
     rw [hLN2.out]
     have hn := kidsG_len (f := growF t b r pre harm) (m := treeMax r) (fun i o N => growL_len t b r _ _ _) (x.opts.take i) 0 (nodes.length + 1)
     rw [List.length_take, Nat.min_eq_left hi, hK2.out] at hn
     have h9 := hH.out.room
     simp only [treeMax] at h9
     have e1 : (i + 1) * treeMax r ≤ x.opts.length * treeMax r := Nat.mul_le_mul_right _ (by omega)
     rw [Nat.add_mul] at e1
     omega
    have hLNb : LN ≤ 65536 := by have := hroom.out; omega
    have c1 : wr.cell? ⟨Ob, 0, none⟩ = some (.slice (some ⟨g9, 0, none⟩) LN C9) := hR.out.shw.obox.cell 0
    have l1 := hR.out.shw.obox.lt
    have m1 : wr.cell? ⟨g9, nodes.length * 4 + 1, none⟩ = some (.slice kA K2.kids.length kC) := hcells _ _ hR.out.cell
    have f1 := hfr (nodes.length * 4 + 1)
    have hrow := Lib.hid hR.out.row
    obtain ⟨cs9, hb9⟩ := hgb
    have hb9' := Lib.hid hb9
    have hOb9 := Lib.hid hR.out.shw.obox
    have hszr : W3.heap.size ≤ wr.heap.size := hR.out.keep.size
    have hnlt : nodes.length < LN := by have := hLN2.out; omega
    have hnOb : Hid (Value.ownBlock (.slice kA K2.kids.length kC) ≠ some Ob) := Lib.hid (own_blk_ne hrow.out hOb9.out (by decide))
    have hng9 : Hid (Value.ownBlock (.slice kA K2.kids.length kC) ≠ some g9) := Lib.hid (own_blk_ne hrow.out hb9 (by decide))
    have m1' := Lib.hid m1
    clear hcells hfr hb9
    go_upto_region 11 with (fail)
    obtain ⟨R0, hR0e⟩ : ∃ R : World → Prop, R = (fun V => Ext wr V) := ⟨_, rfl⟩
    obtain ⟨Fin, hFine⟩ : ∃ R : World → Prop, R = (fun V => ∃ A4 C4, RoundK Z O w0 W3 V Ob Sb Pb Fb Pk (.slice (some ⟨g, 0, none⟩) (nodes.length + 1) C1) (.slice (some ⟨g9, 0, none⟩) LN C9) (some ⟨b1, o1, none⟩) sc t pick9 pre (nodes ++ [⟨(pre.length : Int), [], 0, 0⟩]) nodes.length xs1 (xs9.set (nodes.length * 4 + 1) (.slice A4 (K2.kids.length + 1) C4)) (.slice A4 (K2.kids.length + 1) C4) K2.nodes (K2.kids ++ [(LN : Int)])) := ⟨_, rfl⟩
    obtain ⟨Mid, hMide⟩ : ∃ R : Value → World → Prop, R = (fun v V => (∃ A4 C4, v = .slice A4 (K2.kids.length + 1) C4) ∧ V.cell? ⟨Ob, 0, none⟩ = some (.slice (some ⟨g9, 0, none⟩) LN C9) ∧ V.cell? ⟨g9, nodes.length * 4 + 1, none⟩ = some (.slice kA K2.kids.length kC) ∧ V.frozen? ⟨g9, nodes.length * 4 + 1, none⟩ = false ∧ Fin (V.setCell ⟨g9, nodes.length * 4 + 1, none⟩ v)) := ⟨_, rfl⟩
    have hR00 : Hid (R0 wr.drew) := Lib.hid (by rw [hR0e]; exact (Ext.refl wr).drew)
    have hR0c : Hid (∀ V, R0 V → V.cell? ⟨Ob, 0, none⟩ = some (.slice (some ⟨g9, 0, none⟩) LN C9)) := Lib.hid (by rw [hR0e]; exact fun V h => h.cell c1)
    have hR0k : Hid (∀ V, R0 V → V.cell? ⟨g9, nodes.length * 4 + 1, none⟩ = some (.slice kA K2.kids.length kC)) := Lib.hid (by rw [hR0e]; exact fun V h => h.cell m1)
    have hR0x : Hid (∀ V V', R0 V → Ext V V' → R0 V') := Lib.hid (by rw [hR0e]; exact fun V V' h e => h.trans e)
    have hMidc : Hid (∀ v V, Mid v V → V.cell? ⟨Ob, 0, none⟩ = some (.slice (some ⟨g9, 0, none⟩) LN C9)) := Lib.hid (by rw [hMide]; exact fun v V h => h.2.1)
    have hMids : Hid (∀ v V, Mid v V → ∃ A4 C4, v = .slice A4 (K2.kids.length + 1) C4 ∧ V.cell? ⟨g9, nodes.length * 4 + 1, none⟩ = some (.slice kA K2.kids.length kC) ∧ V.frozen? ⟨g9, nodes.length * 4 + 1, none⟩ = false) := Lib.hid (by rw [hMide]; exact fun v V h => let ⟨A4, C4, e⟩ := h.1; ⟨A4, C4, e, h.2.2.1, h.2.2.2.1⟩)
    have hMidf : Hid (∀ v V, Mid v V → Fin (V.setCell ⟨g9, nodes.length * 4 + 1, none⟩ v)) := Lib.hid (by rw [hMide]; exact fun v V h => h.2.2.2.2)
    have hR0a : Hid (∀ V, R0 V → V.ownsRow W3.heap.size 3 1 (.slice kA K2.kids.length kC) K2.kids.length (K2.kids.map (Value.int .i64)) ∧ W3.heap.size ≤ V.heap.size ∧
      ∀ v' W', W'.ownsRow W3.heap.size 3 1 v' (K2.kids.length + 1) (K2.kids.map (Value.int .i64) ++ [.int .i64 (LN : Int)]) → V.grownBy W' (Value.slice kA K2.kids.length kC).ownBlock → (v'.ownBlock = (Value.slice kA K2.kids.length kC).ownBlock ∨ v'.ownBlock = some V.heap.size) → Mid v' W') := Lib.hid (by
     rw [hR0e, hMide, hFine]
     intro V hV
     refine ⟨owns_ext hrow.out hV, Nat.le_trans hszr hV.size, fun v' W' hown hgr hat' => ?_⟩
     obtain ⟨A4, C4, rfl⟩ := owns_form hown
     have kv := Keep.of_ext (X := fun _ => False) hV
     have hOb4 := (kv.blk hOb9.out id).grown hgr (fun e => hnOb.out e.symm)
     have hb9V := kv.blk hb9'.out id
     have hb94 := hb9V.grown hgr (fun e => hng9.out e.symm)
     exact ⟨⟨A4, C4, rfl⟩, hOb4.cell 0, ((hb94.cell _).trans ((hb9V.cell _).symm.trans (hV.cell m1'.out))), hb94.frozen _, A4, C4,
      (hR.out.toExt hV).appended hPlt (by simp) (fun j hj => by have := hH.out.olt j hj; omega) hw03 hown hgr hat'⟩)
    clear c1 l1 m1 m1' f1 hrow hb9' hOb9 hnOb hng9 hR hR0e hMide
    refine wp_region_inv (fun Z L a W => ∃ v53 v54 v55 v56 v57 v58 v59 v60 v61 v62 v63 v64 v65, a = ((((((((((((Z.put (some 53) v53).put (some 54) v54).put (some 55) v55).put (some 56) v56).put (some 57) v57).put (some 58) v58).put (some 59) v59).put (some 60) v60).put (some 61) v61).put (some 62) v62).put (some 63) v63).put (some 64) v64).put (some 65) v65 ∧ GkI R0 Mid Fin (.slice (some ⟨g9, 0, none⟩) LN C9) (.slice kA K2.kids.length kC) g9 nodes.length LN L v53 v54 v55 v56 v57 v58 v59 v60 v61 v62 v63 v64 v65 W) (by kernel_rfl) (by kernel_rfl) ?_ ?_ ?_
    ·exact ⟨u53, u54, u55, u56, u57, u58, u59, u60, u61, u62, u63, u64, u65, (by simp only [Act.put, putA, putB, putC]), ⟨(fun q => by cases q), (fun q => by cases q), (fun q => by cases q), (fun q => by cases q), (fun q => by cases q), (fun q => by cases q), (fun q => by cases q), (fun q => by cases q), (fun q => by cases q), (fun q => by cases q), fun _ => ⟨rfl, hR00.out⟩, (fun q => by cases q), (fun q => by cases q), (fun q => by cases q), (fun q => by cases q), ⟨(fun q => by cases q), (fun q => by cases q), (fun q => by cases q), (fun q => by cases q)⟩, ⟨(fun q => by cases q), (fun q => by cases q), (fun q => by cases q)⟩, ⟨(fun q => by cases q), (fun q => by cases q), (fun q => by cases q)⟩⟩⟩
    ·refine ⟨⟨rfl, ?_⟩, ⟨rfl, ?_⟩, ⟨rfl, ?_⟩, ⟨rfl, ?_⟩, ⟨rfl, ?_⟩, ⟨rfl, ?_⟩, ⟨rfl, ?_⟩, ⟨rfl, ?_⟩, ⟨rfl, ?_⟩, ⟨rfl, ?_⟩, ⟨rfl, ?_⟩, ⟨rfl, ?_⟩, ⟨rfl, ?_⟩, ⟨rfl, ?_⟩, trivial⟩
     ·rintro L _ W ⟨v53, v54, v55, v56, v57, v58, v59, v60, v61, v62, v63, v64, v65, rfl, hI⟩ hL _ K hK
      simp only [Act.put, putA, putB, putC]
      have k0 := hI.ob hR0c.out hMidc.out (hI.no13a hL)
      go_simp
      refine hK _ _ ⟨_, v54, v55, v56, v57, v58, v59, v60, v61, v62, v63, v64, v65, (by simp only [Act.put, putA, putB, putC]), ⟨fun _ => rfl, hI.f1, hI.f2, hI.f3, hI.f4, hI.f5, hI.f6, hI.f7, hI.f8, hI.f9, hI.f10, hI.g10, hI.f11, hI.f12, hI.f13, hI.d2, hI.d7, ⟨fun _ => rfl, hI.d0.2.1, hI.d0.2.2⟩⟩⟩
     ·rintro L _ W ⟨v53, v54, v55, v56, v57, v58, v59, v60, v61, v62, v63, v64, v65, rfl, hI⟩ hL _ K hK
      simp only [Act.put, putA, putB, putC]
      go_simp
      refine hK _ _ ⟨v53, _, v55, v56, v57, v58, v59, v60, v61, v62, v63, v64, v65, (by simp only [Act.put, putA, putB, putC]), ⟨hI.f0, fun _ => rfl, hI.f2, hI.f3, hI.f4, hI.f5, hI.f6, hI.f7, hI.f8, hI.f9, hI.f10, hI.g10, hI.f11, hI.f12, hI.f13, hI.d2, hI.d7, hI.d0⟩⟩
     ·rintro L _ W ⟨v53, v54, v55, v56, v57, v58, v59, v60, v61, v62, v63, v64, v65, rfl, hI⟩ hL _ K hK
      simp only [Act.put, putA, putB, putC]
      have k0 := hR0c.out _ (hI.f10 (hI.no10b hL)).2
      go_simp
      refine hK _ _ ⟨v53, v54, _, v56, v57, v58, v59, v60, v61, v62, v63, v64, v65, (by simp only [Act.put, putA, putB, putC]), ⟨hI.f0, hI.f1, fun _ => rfl, hI.f3, hI.f4, hI.f5, hI.f6, hI.f7, hI.f8, hI.f9, hI.f10, hI.g10, hI.f11, hI.f12, hI.f13, ⟨fun _ => rfl, hI.d2.2.1, hI.d2.2.2.1, hI.d2.2.2.2⟩, hI.d7, hI.d0⟩⟩
     ·rintro L _ W ⟨v53, v54, v55, v56, v57, v58, v59, v60, v61, v62, v63, v64, v65, rfl, hI⟩ hL _ K hK
      simp only [Act.put, putA, putB, putC]
      go_simp
      refine hK _ _ ⟨v53, v54, v55, _, v57, v58, v59, v60, v61, v62, v63, v64, v65, (by simp only [Act.put, putA, putB, putC]), ⟨hI.f0, hI.f1, hI.f2, fun _ => rfl, hI.f4, hI.f5, hI.f6, hI.f7, hI.f8, hI.f9, hI.f10, hI.g10, hI.f11, hI.f12, hI.f13, hI.d2, hI.d7, hI.d0⟩⟩
     ·rintro L _ W ⟨v53, v54, v55, v56, v57, v58, v59, v60, v61, v62, v63, v64, v65, rfl, hI⟩ hL hd K hK
      simp only [Act.put, putA, putB, putC]
      simp [Region.binds] at hd
      obtain rfl := hI.f2 (by simp [hd])
      obtain rfl := hI.f3 (by simp [hd])
      go_simp
      refine hK _ _ ⟨v53, v54, _, _, _, v58, v59, v60, v61, v62, v63, v64, v65, (by simp only [Act.put, putA, putB, putC]), ⟨hI.f0, hI.f1, fun _ => rfl, fun _ => rfl, fun _ => rfl, hI.f5, hI.f6, hI.f7, hI.f8, hI.f9, hI.f10, hI.g10, hI.f11, hI.f12, hI.f13, ⟨fun _ => (by show L 2 = true; simp [hd]), fun _ => rfl, hI.d2.2.2.1, hI.d2.2.2.2⟩, hI.d7, hI.d0⟩⟩
     ·rintro L _ W ⟨v53, v54, v55, v56, v57, v58, v59, v60, v61, v62, v63, v64, v65, rfl, hI⟩ hL hd K hK
      simp only [Act.put, putA, putB, putC]
      simp [Region.binds] at hd
      obtain rfl := hI.f4 (by simp [hd])
      go_simp
      refine hK _ _ ⟨v53, v54, v55, v56, _, _, v59, v60, v61, v62, v63, v64, v65, (by simp only [Act.put, putA, putB, putC]), ⟨hI.f0, hI.f1, hI.f2, hI.f3, fun _ => rfl, fun _ => rfl, hI.f6, hI.f7, hI.f8, hI.f9, hI.f10, hI.g10, hI.f11, hI.f12, hI.f13, ⟨hI.d2.1, fun _ => (by show L 4 = true; simp [hd]), fun _ => rfl, hI.d2.2.2.2⟩, hI.d7, hI.d0⟩⟩
     ·rintro L _ W ⟨v53, v54, v55, v56, v57, v58, v59, v60, v61, v62, v63, v64, v65, rfl, hI⟩ hL hd K hK
      simp only [Act.put, putA, putB, putC]
      simp [Region.binds] at hd
      obtain rfl := hI.f5 (by simp [hd])
      have k1 := hR0k.out _ (hI.f10 (hI.no10d hL)).2
      go_simp
      refine hK _ _ ⟨v53, v54, v55, v56, v57, _, _, v60, v61, v62, v63, v64, v65, (by simp only [Act.put, putA, putB, putC]), ⟨hI.f0, hI.f1, hI.f2, hI.f3, hI.f4, fun _ => rfl, fun _ => rfl, hI.f7, hI.f8, hI.f9, hI.f10, hI.g10, hI.f11, hI.f12, hI.f13, ⟨hI.d2.1, hI.d2.2.1, fun _ => (by show L 5 = true; simp [hd]), fun _ => rfl⟩, hI.d7, hI.d0⟩⟩
     ·rintro L _ W ⟨v53, v54, v55, v56, v57, v58, v59, v60, v61, v62, v63, v64, v65, rfl, hI⟩ hL _ K hK
      simp only [Act.put, putA, putB, putC]
      have k0 := hR0c.out _ (hI.f10 (hI.no10c hL)).2
      go_simp
      refine hK _ _ ⟨v53, v54, v55, v56, v57, v58, v59, _, v61, v62, v63, v64, v65, (by simp only [Act.put, putA, putB, putC]), ⟨hI.f0, hI.f1, hI.f2, hI.f3, hI.f4, hI.f5, hI.f6, fun _ => rfl, hI.f8, hI.f9, hI.f10, hI.g10, hI.f11, hI.f12, hI.f13, hI.d2, ⟨fun _ => rfl, hI.d7.2.1, hI.d7.2.2⟩, hI.d0⟩⟩
     ·rintro L _ W ⟨v53, v54, v55, v56, v57, v58, v59, v60, v61, v62, v63, v64, v65, rfl, hI⟩ hL hd K hK
      simp only [Act.put, putA, putB, putC]
      simp [Region.binds] at hd
      obtain rfl := hI.f7 (by simp [hd])
      go_simp
      refine hK _ _ ⟨v53, v54, v55, v56, v57, v58, v59, _, _, v62, v63, v64, v65, (by simp only [Act.put, putA, putB, putC]), ⟨hI.f0, hI.f1, hI.f2, hI.f3, hI.f4, hI.f5, hI.f6, fun _ => rfl, fun _ => rfl, hI.f9, hI.f10, hI.g10, hI.f11, hI.f12, hI.f13, hI.d2, ⟨fun _ => (by show L 7 = true; simp [hd]), fun _ => rfl, hI.d7.2.2⟩, hI.d0⟩⟩
     ·rintro L _ W ⟨v53, v54, v55, v56, v57, v58, v59, v60, v61, v62, v63, v64, v65, rfl, hI⟩ hL hd K hK
      simp only [Act.put, putA, putB, putC]
      simp [Region.binds] at hd
      obtain rfl := hI.f8 (by simp [hd])
      have q10 := hI.no10e hL
      have hr := hR0x.out _ _ (hI.f10 q10).2 ((Ext.refl W).alloc (.cells #[.int .i64 (LN : Int)] 3))
      go_simp
      refine hK _ _ ⟨v53, v54, v55, v56, v57, v58, v59, v60, _, _, v63, v64, v65, (by simp only [Act.put, putA, putB, putC]), ⟨hI.f0, hI.f1, hI.f2, hI.f3, hI.f4, hI.f5, hI.f6, hI.f7, fun _ => rfl, fun _ => ⟨_, rfl, fun _ => blk_new' rfl rfl⟩, fun _ => ⟨(hI.f10 q10).1, hr⟩, fun q => absurd q (by show ¬ L 10 = true; rw [q10]; simp), hI.f11, hI.f12, fun q => absurd q (by show ¬ L 13 = true; rw [(hI.f10 q10).1]; simp), hI.d2, ⟨hI.d7.1, fun _ => (by show L 8 = true; simp [hd]), fun _ => rfl⟩, hI.d0⟩⟩
     ·rintro L _ W ⟨v53, v54, v55, v56, v57, v58, v59, v60, v61, v62, v63, v64, v65, rfl, hI⟩ hL hd K hK
      simp only [Act.put, putA, putB, putC]
      simp [Region.binds] at hd
      obtain rfl := hI.f6 (by simp [hd])
      obtain ⟨gq, rfl, hgq⟩ := hI.f9 (by simp [hd])
      have hb := hgq hL
      obtain ⟨q13, hr⟩ := hI.f10 hL
      obtain ⟨hrow1, hsz1, hfin1⟩ := hR0a.out W hr
      refine wp_append_any W (.tmp 59) (.tmp 62) 31 rfl W3.heap.size 3 j0 _ 1 8 Tryz.underlying31 hj0 jz0 jz1 jz2 rfl (by decide) (.slice kA K2.kids.length kC) K2.kids.length (K2.kids.map (Value.int .i64)) rfl hrow1 W.heap.size (some ⟨gq, 0, none⟩) 1 1 [.int .i64 (LN : Int)] rfl (reads_blkW (size := 1) (m := 1) hb rfl) (by simp [Value.oneCell']) (by unfold maxLen; omega) (by omega) hsz1 fun v' W' hown hgr hat => ?_
      simp only [Act.put, putA, putB, putC]
      refine hK _ _ ⟨v53, v54, v55, v56, v57, v58, .slice kA K2.kids.length kC, v60, v61, .slice (some ⟨gq, 0, none⟩) 1 1, v', v64, v65, (by simp only [Act.put, putA, putB, putC]), ⟨hI.f0, hI.f1, hI.f2, hI.f3, hI.f4, hI.f5, fun _ => rfl, hI.f7, hI.f8, fun _ => ⟨_, rfl, fun q => by cases q⟩, (fun q => by cases q), fun _ _ => hfin1 v' W' hown hgr hat, hI.f11, hI.f12, fun q => absurd q (by show ¬ L 13 = true; rw [q13]; simp), ⟨hI.d2.1, hI.d2.2.1, hI.d2.2.2.1, fun _ => (by show L 6 = true; simp [hd])⟩, ⟨hI.d7.1, hI.d7.2.1, fun _ => (by show L 9 = true; simp [hd])⟩, hI.d0⟩⟩
     ·rintro L _ W ⟨v53, v54, v55, v56, v57, v58, v59, v60, v61, v62, v63, v64, v65, rfl, hI⟩ hL hd K hK
      simp only [Act.put, putA, putB, putC]
      simp [Region.binds] at hd
      obtain rfl := hI.f0 (by simp [hd])
      obtain rfl := hI.f1 (by simp [hd])
      go_simp
      refine hK _ _ ⟨_, _, v55, v56, v57, v58, v59, v60, v61, v62, v63, _, v65, (by simp only [Act.put, putA, putB, putC]), ⟨fun _ => rfl, fun _ => rfl, hI.f2, hI.f3, hI.f4, hI.f5, hI.f6, hI.f7, hI.f8, hI.f9, hI.f10, hI.g10, fun _ => rfl, hI.f12, hI.f13, hI.d2, hI.d7, ⟨fun _ => (by show L 0 = true; simp [hd]), fun _ => rfl, hI.d0.2.2⟩⟩⟩
     ·rintro L _ W ⟨v53, v54, v55, v56, v57, v58, v59, v60, v61, v62, v63, v64, v65, rfl, hI⟩ hL hd K hK
      simp only [Act.put, putA, putB, putC]
      simp [Region.binds] at hd
      obtain rfl := hI.f11 (by simp [hd])
      go_simp
      refine hK _ _ ⟨v53, v54, v55, v56, v57, v58, v59, v60, v61, v62, v63, _, _, (by simp only [Act.put, putA, putB, putC]), ⟨hI.f0, hI.f1, hI.f2, hI.f3, hI.f4, hI.f5, hI.f6, hI.f7, hI.f8, hI.f9, hI.f10, hI.g10, fun _ => rfl, fun _ => rfl, hI.f13, hI.d2, hI.d7, ⟨hI.d0.1, fun _ => (by show L 11 = true; simp [hd]), fun _ => rfl⟩⟩⟩
     ·rintro L _ W ⟨v53, v54, v55, v56, v57, v58, v59, v60, v61, v62, v63, v64, v65, rfl, hI⟩ hL hd K hK
      simp only [Act.put, putA, putB, putC]
      simp [Region.binds] at hd
      have q10 : L 10 = true := by simp [hd]
      obtain rfl := hI.f12 (by simp [hd])
      have hm := hI.g10 q10 hL
      obtain ⟨A4, C4, rfl, mc, mf⟩ := hMids.out _ _ hm
      go_simp
      refine hK _ _ ⟨v53, v54, v55, v56, v57, v58, v59, v60, v61, v62, .slice A4 (K2.kids.length + 1) C4, v64, .pointer (some ⟨g9, nodes.length * 4 + 1, none⟩), (by simp only [Act.put, putA, putB, putC]), ⟨hI.f0, hI.f1, hI.f2, hI.f3, hI.f4, hI.f5, hI.f6, hI.f7, hI.f8, fun q => let ⟨g, a, b⟩ := hI.f9 q; ⟨g, a, fun r => absurd q10 (by have q2 : L 10 = false := r; rw [q2]; simp)⟩, fun q => absurd q10 (by have q2 : L 10 = false := q; rw [q2]; simp), (fun _ q => by cases q), hI.f11, fun _ => rfl, fun _ => hMidf.out _ _ hm, hI.d2, hI.d7, ⟨hI.d0.1, hI.d0.2.1, fun _ => (by show L 12 = true; simp [hd])⟩⟩⟩
    rintro _ _ W5 ⟨v53, v54, v55, v56, v57, v58, v59, v60, v61, v62, v63, v64, v65, rfl, hI⟩ hall
    have hF := hI.f13 (hall 13 (by decide))
    rw [hFine] at hF
    obtain ⟨A4, C4, hF5⟩ := hF
    have hR5 := Lib.hid hF5
    clear hI hall hF5 hFine hR00 hR0c hR0k hR0x hMidc hMids hMidf hR0a
    simp only [Act.put, putA, putB, putC]
    go_step; go_step
    have hpl9 := hR5.out.shw.plen
    have hlt9 : pre.length < pick9.length := by rw [hpl9]; exact hlt
    obtain ⟨z, hz⟩ : ∃ z, pick9[pre.length]? = some z := ⟨_, List.getElem?_eq_getElem hlt9⟩
    have c3 : W5.cell? ⟨Pb, 0, none⟩ = some (.slice (some ⟨Pk, 0, none⟩) t.length t.length) := hR5.out.shw.pbox.cell 0
    have l3 := hR5.out.shw.pbox.lt
    have c5 : W5.cell? ⟨Pk, pre.length, none⟩ = some (.int .i64 z) := by rw [hR5.out.shw.row.cell]; simp [hz]
    have l5 := hR5.out.shw.row.lt
    have f5 := hR5.out.shw.row.frozen pre.length
    have hlt9' := Lib.hid hlt9
    clear hz hpl9 hlt9
    go_upto_region 13 with (fail)
    refine wp_abs (S := fun W => Hid (RoundK Z O w0 W3 W Ob Sb Pb Fb Pk (.slice (some ⟨g, 0, none⟩) (nodes.length + 1) C1) (.slice (some ⟨g9, 0, none⟩) LN C9) (some ⟨b1, o1, none⟩) sc t (pick9.set pre.length (i : Int)) pre (nodes ++ [⟨(pre.length : Int), [], 0, 0⟩]) nodes.length xs1 (xs9.set (nodes.length * 4 + 1) (.slice A4 (K2.kids.length + 1) C4)) (.slice A4 (K2.kids.length + 1) C4) K2.nodes (K2.kids ++ [(LN : Int)]))) ?_ ?_
    ·exact Lib.hid (hR5.out.picked hPlt (i : Int))
    rintro W6 hR6
    obtain ⟨pick6, hp6⟩ : ∃ p, Hid (pick9.set pre.length (i : Int) = p) := ⟨_, rfl⟩
    obtain ⟨xs6, hx6⟩ : ∃ p, Hid (xs9.set (nodes.length * 4 + 1) (.slice A4 (K2.kids.length + 1) C4) = p) := ⟨_, rfl⟩
    have htk6 : Hid (pick6.take (pre.length + 1) = pre ++ [(i : Int)]) := by show _ = _; rw [← hp6.out]; exact pre_set hR5.out.preIs hlt9'.out
    rw [hp6.out, hx6.out] at hR6
    have hstep := Lib.hid (kidsG_step (growF t b r pre harm) x.opts i o ho.out 0 (nodes.length + 1))
    have hqt := Lib.hid (kidsG_none (growF t b r pre harm) x.opts 0 (nodes.length + 1) (by rw [hK.out]; exact hKo.out.1) (by rw [hK.out]; exact hKo.out.2) i o ho.out)
    rw [hK2.out] at hstep hqt
    obtain ⟨G9, hG9⟩ : ∃ G9, Hid ((growL t b r (pre ++ [(i : Int)]) (harm + o.harm) LN) = G9) := ⟨_, rfl⟩
    have hstep2 : Hid (kidsG (growF t b r pre harm) (x.opts.take (i + 1)) 0 (nodes.length + 1) = ⟨K2.nodes ++ G9.nodes, K2.kids ++ [(LN : Int)], K2.opens ++ G9.opens, K2.ests ++ G9.ests⟩) := by
     have h := hstep.out
     simp only [growF, Int.zero_add, ← hLN2.out, hG9.out] at h
     exact h
    have hqt2 : Hid (G9.opens = [] ∧ G9.ests = []) := by
     have h := hqt.out
     simp only [growF, Int.zero_add, ← hLN2.out, hG9.out] at h
     exact h
    have hcall := ih'.out (ZK Z (.slice A4 (K2.kids.length + 1) C4)) (fun k => O k ∨ k = nodes.length) W6 _ (harm + o.harm) pick6 (pre ++ [(i : Int)]) (nodes ++ [⟨(pre.length : Int), [], 0, 0⟩] ++ K2.nodes) xs6
     ⟨hR6.out.shw, fun g hg => by rcases hg with hg | hg; exact Nat.lt_of_lt_of_le (hZ3.out g hg) hR6.out.keep.size; exact (hR6.out.row.lt g hg).2,
      fun k hk => by rcases hk with hk | hk; (have := hH.out.olt k hk; rw [hLN.out]; omega); (rw [hLN.out, hk]; exact hnlt),
      by rw [List.length_append, List.length_singleton]; exact htk6.out, by rw [List.length_append, List.length_singleton]; exact hdr.out, by rw [List.length_append, List.length_singleton]; exact hlt,
      optOf_snoc hx'.out h1 hH.out.opts, by rw [hLN.out]; exact hroom.out, by rw [hLN.out, hG9.out]; exact hqt2.out.1, by rw [hLN.out, hG9.out]; exact hqt2.out.2⟩
    rw [hLN.out, hG9.out, List.length_append, List.length_singleton, show ((pre.length + 1 : Nat) : Int) = (pre.length : Int) + 1 by omega] at hcall
    have hcall' := Lib.hid hcall
    have c6 : W6.cell? ⟨Fb, 0, none⟩ = some (.func (.func 46) #[] #[.pointer (some ⟨Ob, 0, none⟩), .pointer (some ⟨Sb, 0, none⟩), .pointer (some ⟨Pb, 0, none⟩), .pointer (some ⟨Fb, 0, none⟩)]) := hR6.out.shw.fbox.cell 0
    have l6 := hR6.out.shw.fbox.lt
    clear hcall hR5 c3 l3 c5 l5 f5 hstep hqt hqt2 hp6 hx6 htk6
    go_wp2_with fail
    refine hcall'.out.mono ?_
    rintro e W7 ⟨nv7, pick7, xs7, rfl, hs7, htk7, hk7, hnv7, hold7⟩
    have hR7 : Hid (RoundK Z O w0 W3 W7 Ob Sb Pb Fb Pk (.slice (some ⟨g, 0, none⟩) (nodes.length + 1) C1) nv7 (some ⟨b1, o1, none⟩) sc t pick7 pre (nodes ++ [⟨(pre.length : Int), [], 0, 0⟩]) nodes.length xs1 xs7 (.slice A4 (K2.kids.length + 1) C4)
     (kidsG (growF t b r pre harm) (x.opts.take (i + 1)) 0 (nodes.length + 1)).nodes (kidsG (growF t b r pre harm) (x.opts.take (i + 1)) 0 (nodes.length + 1)).kids) := by
     rw [hstep2.out]
     exact Lib.hid (hR6.out.called hPlt hs7 (by rw [List.length_append, List.length_singleton] at htk7; exact htk7) hk7 hnv7 hold7)
    clear hcall' hR6 hs7 htk7 hk7 hnv7 hold7 c6 l6 hstep2 hG9
    go_wp2
    go_roundw
    case rel => first | exact ⟨i + 1, nv7, pick7, xs7, (.slice A4 (K2.kids.length + 1) C4), h1, by go_num, hR7⟩ | ((repeat apply Exists.intro); exact ⟨⟨i + 1, nv7, pick7, xs7, (.slice A4 (K2.kids.length + 1) C4), h1, by go_num, hR7⟩, rfl⟩)
    case measure => simp [intOf]; omega
   ·have hKx : Hid (K2 = K) := by show _ = _; rw [← hK2.out, List.take_of_length_le (by omega)]; exact hK.out
    have hfin := hR.out.closed (n := ⟨(pre.length : Int), [], 0, 0⟩) hZ3.out hw03 hH.out.shw.zP (by simp)
    rw [show (nodes ++ [(⟨(pre.length : Int), [], 0, 0⟩ : NodeD)] ++ K2.nodes).set nodes.length ⟨(pre.length : Int), K2.kids, 0, 0⟩ = nodes ++ (⟨(pre.length : Int), K2.kids, 0, 0⟩ :: K2.nodes) by simp, hKx.out] at hfin
    have hfin' := Lib.hid hfin
    have hpr := Lib.hid hR.out.preIs
    have hkf := Lib.hid (keep_chain hk3.out hat.out hR.out.keep)
    have hnf := Lib.hid (nvs_chain hk3.out.size hat.out hR.out.nvs)
    have hof : Hid (∀ j, O j → xs9[j * 4 + 1]? = xs[j * 4 + 1]?) := Lib.hid fun j hj => (hR.out.old j hj).trans (hold.out j hj)
    clear hfin hR hKx hK2
    go_wp2
    go_end0
    exact ⟨nv9, pick9, xs9, rfl, hfin'.out, hpr.out, hkf.out, hnf.out, hof.out⟩
end Go.Proofs.YtgolicoalldidaaGreat
namespace Go.Proofs.YtgolicoalldidaaGreat
open Go.RowKit
attribute [local go_sem] Oper.semAt_some run_store_func
theorem NodesQ.shutAll {w : World} {B : Nat} {Z : Nat → Prop} : ∀ {j : Nat} {nodes : List NodeD} {xs : List Value}, NodesQ w B Z (fun _ => False) j nodes xs → NodesC w B Z nodes xs
 | _, [], _, h => h
 | _, _ :: _, _, ⟨kv, r, e, h1, h2⟩ => ⟨kv, r, e, h1 id, NodesQ.shutAll h2⟩
theorem show1_calls (w0 : World) (Ob Sb Pb Fb Pk : Nat) (sa : Option Addr) (sc : Nat) (t : List WishD) (b : Int) (hw : Wishes w0 (.slice sa t.length sc) t) (hsp : SpansIn t) (hl : t.length ≤ 512) :
  ∀ (r : List WishD) (Z O : Nat → Prop) (w : World) (nv : Value) (harm : Int) (pick pre : List Int) (nodes : List NodeD) (xs : List Value), ShwIn Z O w0 w Ob Sb Pb Fb Pk nv sa sc t b r harm pick pre nodes xs →
   Calls Tryz.prog 46 #[.int .i64 pre.length, .pointer (some ⟨Ob, 0, none⟩), .pointer (some ⟨Sb, 0, none⟩), .pointer (some ⟨Pb, 0, none⟩), .pointer (some ⟨Fb, 0, none⟩)] w
    (ShwOut Z O w0 w Ob Sb Pb Fb Pk nv sa sc t pre nodes (growL t b r pre harm nodes.length).nodes xs) := by
 intro r
 induction r with
 | nil =>
  intro Z O w nv harm pick pre nodes xs H
  by_cases hc : 0 ≤ lastClash t pre
  ·have := show1_clash Z O w0 w Ob Sb Pb Fb Pk nv sa sc t b [] harm pick pre nodes xs hw hsp hl H hc
   simp only [growL]
   rw [if_pos hc]
   exact this
  ·have h1 := H.opens
   have h2 := H.ests
   simp only [growL] at h1 h2
   rw [if_neg hc] at h1 h2
   by_cases hb : b ≤ harm
   ·rw [if_pos hb] at h2; cases h2
   ·rw [if_neg hb] at h1; cases h1
 | cons x r ih =>
  intro Z O w nv harm pick pre nodes xs H
  by_cases hc : 0 ≤ lastClash t pre
  ·have := show1_clash Z O w0 w Ob Sb Pb Fb Pk nv sa sc t b (x :: r) harm pick pre nodes xs hw hsp hl H hc
   simp only [growL]
   rw [if_pos hc]
   exact this
  ·exact show1_node w0 Ob Sb Pb Fb Pk sa sc t b hw hsp hl x r ih Z O w nv harm pick pre nodes xs H hc
def ShowRoom (t : List WishD) (l : List Int) : Prop := checkI t l = 0 → l.length ≠ 0 → standsT t l = (false, 0) → treeMax (subT t l) ≤ 65536 ∧ (growL (subT t l) 1000000000 (subT t l) [] 0 0).opens = [] ∧ (growL (subT t l) 1000000000 (subT t l) [] 0 0).ests = []
theorem nodes_nilK (w : World) : Nodes w (.slice none 0 0) [] := nodes_of (B := 0) (Z := fun _ => False) (World.ownsRow_nil _ _ _ _) rfl
set_option maxRecDepth 100000 in
theorem show_calls (wv lv : Value) (t : List WishD) (l : List Int) (w : World) (h : Wishes w wv t) (hl : Ints w lv l) (hroom : ShowRoom t l) :
  Calls Tryz.prog 17 #[.agg #[wv], lv] w fun e w' => ∃ v, e = .returned (.tuple #[v, .int .i64 (showT t l).2]) ∧ Nodes w' v (showT t l).1 ∧ Ext w w' := by
 have hT := Lib.hid h
 have hL := Lib.hid hl
 obtain ⟨ta, tc, rfl⟩ := h.form
 obtain ⟨la, lc, rfl⟩ := hl.form
 have hll := hl.len
 clear h hl
 obtain ⟨z, hz⟩ : ∃ z, Hid (checkI t l = z) := ⟨_, rfl⟩
 have hck : Hid (∀ W, Ext w W → Calls Tryz.prog 44 #[.agg #[.slice ta t.length tc], .slice la l.length lc] W fun e w' => e = .returned (.int .i64 z) ∧ Ext W w') := fun W hW => hz.out ▸ check_core_calls _ _ t l W (hT.out.ext hW) (hL.out.ext hW)
 by_cases h0 : z = 0
 ·have d0 : (z != 0) = false := by simp [h0]
  have hz0 : checkI t l = 0 := by rw [hz.out, h0]
  have hr1 := hroom hz0
  obtain ⟨h5, hi⟩ := sel_few hz0
  have hi' := Lib.hid hi
  have hsp := Lib.hid (spans_valid (checkI_ok hz0).1)
  have hR0 : Hid (showT t l = if l.length = 0 then ([], 1) else if (standsT t l).2 ≠ 0 then ([], (standsT t l).2) else if (standsT t l).1 then ([], 4) else ((growL (subT t l) 1000000000 (subT t l) [] 0 0).nodes, 0)) := if_pos hz0
  clear hz hz0 h0 hi hroom
  by_cases hl0 : l.length = 0
  ·have d1 : ((l.length : Int) == 0) = true := by simp [hl0]
   have R : Hid (showT t l = ([], 1)) := by show _ = _; rw [hR0.out, if_pos hl0]
   clear hR0 hl0 hr1
   go_enter Tryz.func17, Tryz.ntmps17
   go_wp2_with fail
   refine (hck.out _ (by with_reducible repeat' (first | exact Ext.refl _ | assumption | refine Ext.drewN ?_ _ | refine Ext.drew ?_ | refine Ext.alloc ?_ _ | refine Ext.trans ?_ (by with_reducible assumption)))).mono ?_
   rintro e w1 ⟨rfl, hx1⟩
   have hB1 : Hid (Blk w1 w.heap.size 28 #[.slice ta t.length tc]) := Lib.hid ((Keep.of_ext (X := fun _ => False) hx1).blk (blk_new' rfl rfl) id)
   have hE1 := Lib.hid (((Ext.refl w).alloc (.cells #[.slice ta t.length tc] 28)).trans hx1)
   clear hx1 hck
   go_wp2
   go_ret2
   rw [R.out]
   exact ⟨_, rfl, nodes_nilK _, hE1.out⟩
  ·have d1 : ((l.length : Int) == 0) = false := by rw [beq_eq_false_iff_ne]; omega
   obtain ⟨q, e0, hq⟩ : ∃ q e0, Hid (standsT t l = (q, e0)) := ⟨_, _, rfl⟩
   have hR1 : Hid (showT t l = if e0 ≠ 0 then ([], e0) else if q then ([], 4) else ((growL (subT t l) 1000000000 (subT t l) [] 0 0).nodes, 0)) := by show _ = _; rw [hR0.out, if_neg hl0, hq.out]
   have hr2 := Lib.hid (hr1 hl0)
   have hst : Hid (∀ W, Ext w W → Calls Tryz.prog 41 #[.agg #[.slice ta t.length tc], .slice la l.length lc] W fun e w' => e = .returned (.tuple #[.bool q, .int .i64 e0]) ∧ Ext W w') := Lib.hid fun W hW => by
    have := stands_calls (.slice ta t.length tc) (.slice la l.length lc) t l W (hT.out.ext hW) (hL.out.ext hW) hi'.out h5 hsp.out
    rwa [hq.out] at this
   have hl1 : 0 < l.length := by omega
   clear hR0 hr1 hl0
   go_enter Tryz.func17, Tryz.ntmps17
   go_wp2_with fail
   refine (hck.out _ (by with_reducible repeat' (first | exact Ext.refl _ | assumption | refine Ext.drewN ?_ _ | refine Ext.drew ?_ | refine Ext.alloc ?_ _ | refine Ext.trans ?_ (by with_reducible assumption)))).mono ?_
   rintro e w1 ⟨rfl, hx1⟩
   have hB1 : Hid (Blk w1 w.heap.size 28 #[.slice ta t.length tc]) := Lib.hid ((Keep.of_ext (X := fun _ => False) hx1).blk (blk_new' rfl rfl) id)
   have hE1 := Lib.hid (((Ext.refl w).alloc (.cells #[.slice ta t.length tc] 28)).trans hx1)
   clear hx1 hck
   have c0 : w1.cell? ⟨w.heap.size, 0, none⟩ = some (.slice ta t.length tc) := hB1.out.cell 0
   have l0 := hB1.out.lt
   go_wp2_with fail
   refine (hst.out w1 hE1.out).mono ?_
   rintro e w2 ⟨rfl, hx2⟩
   have hB2 := Lib.hid ((Keep.of_ext (X := fun _ => False) hx2).blk hB1.out id)
   have hE2 := Lib.hid (hE1.out.trans hx2)
   clear c0 l0 hx2 hB1 hE1 hst
   by_cases he : e0 = 0
   ·have d2 : (e0 != 0) = false := by simp [he]
    subst he
    cases q with
    | true =>
     have R : Hid (showT t l = ([], 4)) := by show _ = _; rw [hR1.out]; rfl
     clear hR1
     go_wp2
     go_ret2
     rw [R.out]
     exact ⟨_, rfl, nodes_nilK _, hE2.out⟩
    | false =>
     have R : Hid (showT t l = ((growL (subT t l) 1000000000 (subT t l) [] 0 0).nodes, 0)) := by show _ = _; rw [hR1.out]; rfl
     have hr3 := Lib.hid (hr2.out hq.out)
     clear hR1 hr2 hq
     have c0 : w2.cell? ⟨w.heap.size, 0, none⟩ = some (.slice ta t.length tc) := hB2.out.cell 0
     have l0 := hB2.out.lt
     go_wp2_with fail
     refine (sub_calls _ _ t l w2 (hT.out.ext hE2.out) (hL.out.ext hE2.out) hi'.out (by omega)).mono ?_
     rintro e w3 ⟨sv, rfl, hs3, hx3⟩
     obtain ⟨sa, sc, rfl⟩ := hs3.form
     obtain ⟨s, hs⟩ : ∃ s, Hid (subT t l = s) := ⟨_, rfl⟩
     have hsl : Hid (s.length = l.length) := by show _ = _; rw [← hs.out, sub_len]
     have hss : SpansIn s := hs.out ▸ sub_spans hsp.out hi'.out
     have hmk := run_make_ints s.length (by rw [hsl.out]; omega)
     have hs5 : s.length ≤ 512 := by rw [hsl.out]; exact h5
     have hs1 : 0 < s.length := by rw [hsl.out]; exact hl1
     rw [hs.out] at R hr3 hs3
     rw [hs.out, ← hsl.out]
     have hS3 := Lib.hid hs3
     have hE3 := Lib.hid (hE2.out.trans hx3)
     clear c0 l0 hs3 hx3 hB2 hE2 hs
     go_upto_region 16 with (fail)
     clear hmk
     refine wp_abs (S := fun W => Hid (Shw w3 W (fun g => g = w3.heap.size + 1) (fun _ => False) (w3.heap.size + 3) w3.heap.size (w3.heap.size + 2) (w3.heap.size + 4) (w3.heap.size + 1) (.slice none 0 0) sa sc s (zerosL s.length) [] [])) ?_ ?_
     ·have e9 : (zerosL s.length).length = s.length := zerosL_len _
      refine Lib.hid ⟨?_, ?_, ?_, ?_, ?_, ?_, e9, by omega, by omega, rfl, World.ownsRow_nil _ _ _ _, rfl⟩
      ·exact (by with_reducible repeat' (first | exact Ext.refl _ | assumption | refine Ext.drewN ?_ _ | refine Ext.drew ?_ | refine Ext.alloc ?_ _ | refine Ext.trans ?_ (by with_reducible assumption)))
      ·exact Blk.alloc (blk_new' (by simp) rfl) _
      ·exact Blk.alloc (Blk.alloc (Blk.alloc (Blk.alloc (blk_new' rfl rfl) _) _) _) _
      ·exact Blk.alloc (Blk.alloc (blk_new' (by simp) rfl) _) _
      ·exact blk_new' (by simp) rfl
      ·exact Blk.alloc (Blk.alloc (Blk.alloc (blk_new' (by simp) rfl) _) _) _
     rintro W hS
     have hcall := show1_calls w3 (w3.heap.size + 3) w3.heap.size (w3.heap.size + 2) (w3.heap.size + 4) (w3.heap.size + 1) sa sc s 1000000000 hS3.out hss hs5 s (fun g => g = w3.heap.size + 1) (fun _ => False) W (.slice none 0 0) 0 (zerosL s.length) [] [] []
      ⟨hS.out, fun g hg => by have := hS.out.row.lt; omega, fun i hi => hi.elim, rfl, rfl, Nat.zero_le _, fun j hj => by simp at hj, by simpa using hr3.out.1, hr3.out.2.1, hr3.out.2.2⟩
     dsimp only [List.length_nil] at hcall
     have hcall' := Lib.hid hcall
     have hbd := growL_len s 1000000000 s [] 0 0
     have hbd2 : (growL s 1000000000 s [] 0 0).nodes.length ≤ 65536 := Nat.le_trans hbd hr3.out.1
     have c5 : W.cell? ⟨w3.heap.size + 1 + 1 + 1 + 1, 0, none⟩ = some (.func (.func 46) #[] #[.pointer (some ⟨w3.heap.size + 3, 0, none⟩), .pointer (some ⟨w3.heap.size, 0, none⟩), .pointer (some ⟨w3.heap.size + 2, 0, none⟩), .pointer (some ⟨w3.heap.size + 4, 0, none⟩)]) := hS.out.fbox.cell 0
     have l5 : w3.heap.size + 1 + 1 + 1 + 1 < W.heap.size := hS.out.fbox.lt
     have hg : ∀ (y : Array Value) (W : World), (callFunc 46 y).run Tryz.prog W = .ok (.enter 46 y) W := fun _ _ => by kernel_rfl
     clear hcall hS hbd
     go_wp2_with fail
     refine hcall'.out.mono ?_
     rintro e W4 ⟨nv, pk4, xs4, rfl, hS4, _, _, _, _⟩
     rw [List.nil_append] at hS4
     obtain ⟨na, nc, rfl⟩ := owns_form hS4.owns
     obtain ⟨LN, hLN⟩ : ∃ LN, Hid ((growL s 1000000000 s [] 0 0).nodes.length = LN) := ⟨_, rfl⟩
     have hn := nodes_of hS4.owns hS4.cells.shutAll
     have c6 : W4.cell? ⟨w3.heap.size + 1 + 1 + 1, 0, none⟩ = some (.slice na (growL s 1000000000 s [] 0 0).nodes.length nc) := hS4.obox.cell 0
     have l6 : w3.heap.size + 1 + 1 + 1 < W4.heap.size := hS4.obox.lt
     rw [hLN.out] at hn c6 hbd2
     have hn' := Lib.hid hn
     have hE4 := Lib.hid (hE3.out.trans hS4.ext)
     have d5 : decide (65536 < (LN : Int)) = false := decide_eq_false (by omega)
     clear hcall' c5 l5 hS4 hn
     go_wp2
     go_ret2
     rw [R.out]
     exact ⟨_, rfl, hn'.out, hE4.out⟩
   ·have d2 : (e0 != 0) = true := by simp [he]
    have R : Hid (showT t l = ([], e0)) := by show _ = _; rw [hR1.out, if_pos he]
    clear hR1 he
    go_wp2
    go_ret2
    rw [R.out]
    exact ⟨_, rfl, nodes_nilK _, hE2.out⟩
 ·have d0 : (z != 0) = true := by simp [h0]
  have R : Hid (showT t l = ([], z)) := by show _ = _; unfold showT; rw [hz.out, if_neg h0]
  clear hz h0 hroom
  go_enter Tryz.func17, Tryz.ntmps17
  go_wp2_with fail
  refine (hck.out _ (by with_reducible repeat' (first | exact Ext.refl _ | assumption | refine Ext.drewN ?_ _ | refine Ext.drew ?_ | refine Ext.alloc ?_ _ | refine Ext.trans ?_ (by with_reducible assumption)))).mono ?_
  rintro e w1 ⟨rfl, hx1⟩
  have hB1 : Hid (Blk w1 w.heap.size 28 #[.slice ta t.length tc]) := Lib.hid ((Keep.of_ext (X := fun _ => False) hx1).blk (blk_new' rfl rfl) id)
  have hE1 := Lib.hid (((Ext.refl w).alloc (.cells #[.slice ta t.length tc] 28)).trans hx1)
  clear hx1 hck
  go_wp2
  go_ret2
  rw [R.out]
  exact ⟨_, rfl, nodes_nilK _, hE1.out⟩
end Go.Proofs.YtgolicoalldidaaGreat
