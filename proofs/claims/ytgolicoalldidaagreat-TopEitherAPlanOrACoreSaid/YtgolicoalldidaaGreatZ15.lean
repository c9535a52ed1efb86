import Derived.Test.YtgolicoalldidaaGreatZ14
import Derived.Laws.ResultCell
import Derived.Test.YtgolicoalldidaaGreatZ13
import Derived.RangeFuncNested
import Derived.RangeFuncBound
import Derived.RangeFuncCalls
import Derived.RangeFuncLeaves
import Derived.Shelf.Abstract
import Derived.Shelf.RegionOpen
import Derived.OwnWalkIn
import Derived.TacticsInMore
import Derived.LoopNIn
import Derived.LoopIn
set_option maxHeartbeats 12800000
namespace Go.Proofs.YtgolicoalldidaaGreat
open Go.RowKit
def PartT (w : World) (B : Nat) (t : List WishD) (D : Nat → Nat → Nat → Nat → Prop) : Prop :=
 ∃ S m, Flags w B m S ∧ (∀ q, S q = true → tabB t q = true) ∧ ∀ a i b k : Nat, D a i b k → clashT t a i b k = true → S ((a : Int), (i : Int), (b : Int), (k : Int)) = true ∧ S ((b : Int), (k : Int), (a : Int), (i : Int)) = true
theorem PartT.ext {w w' : World} {B : Nat} {t : List WishD} {D : Nat → Nat → Nat → Nat → Prop} (h : PartT w B t D) (e : Ext w w') : PartT w' B t D := by
 obtain ⟨S, m, h1, h2⟩ := h
 exact ⟨S, m, h1.ext e, h2⟩
theorem PartT.turn {w : World} {B : Nat} {t : List WishD} {D D' : Nat → Nat → Nat → Nat → Prop} (h : PartT w B t D) (hD : ∀ a i b k : Nat, clashT t a i b k = true → D' a i b k → D a i b k) : PartT w B t D' := by
 obtain ⟨S, m, h1, h2, h3⟩ := h
 exact ⟨S, m, h1, h2, fun a i b k d c => h3 a i b k (hD a i b k c d) c⟩
theorem clashT_in {t : List WishD} {a i b k : Int} (h : clashT t a i b k = true) : a ≠ b ∧ ∃ n m p q : Nat, a = n ∧ i = m ∧ b = p ∧ k = q ∧ n < t.length ∧ p < t.length ∧ m < (t[n]?.getD default).opts.length ∧ q < (t[p]?.getD default).opts.length := by
 have hne : a ≠ b := fun e => by rw [e, clashT_same] at h; cases h
 refine ⟨hne, ?_⟩
 have ha : idxB a t.length = true := by
  cases hc : idxB a t.length with
  | true => rfl
  | false => rw [clashT_a hc] at h; cases h
 have hb : idxB b t.length = true := by
  cases hc : idxB b t.length with
  | true => rfl
  | false => rw [clashT_b hc] at h; cases h
 obtain ⟨n, rfl, hn⟩ := idxB_nat ha
 obtain ⟨p, rfl, hp⟩ := idxB_nat hb
 have hx : t[n]? = some t[n] := by simp [hn]
 have hy : t[p]? = some t[p] := by simp [hp]
 have hi : idxB i t[n].opts.length = true := by
  cases hc : idxB i t[n].opts.length with
  | true => rfl
  | false => rw [clashT_i hx hc] at h; cases h
 have hk : idxB k t[p].opts.length = true := by
  cases hc : idxB k t[p].opts.length with
  | true => rfl
  | false => rw [clashT_k hy hc] at h; cases h
 obtain ⟨m, rfl, hm⟩ := idxB_nat hi
 obtain ⟨q, rfl, hq⟩ := idxB_nat hk
 exact ⟨n, m, p, q, rfl, rfl, rfl, rfl, hn, hp, by rw [hx]; exact hm, by rw [hy]; exact hq⟩
theorem clashT_lt {t : List WishD} {a i b k : Nat} (h : clashT t a i b k = true) : i < (t[a]?.getD default).opts.length ∧ k < (t[b]?.getD default).opts.length := by
 obtain ⟨_, n, m, p, q, e1, e2, e3, e4, _, _, h1, h2⟩ := clashT_in h
 obtain rfl : a = n := by omega
 obtain rfl : i = m := by omega
 obtain rfl : b = p := by omega
 obtain rfl : k = q := by omega
 exact ⟨h1, h2⟩
theorem PartT.all {w : World} {B : Nat} {t : List WishD} (h : PartT w B t fun a _ b _ => b < a) : Tab w B t := by
 obtain ⟨S, m, h1, h2, h3⟩ := h
 refine ⟨m, h1.same fun q _ => ?_⟩
 rw [Bool.eq_iff_iff]
 refine ⟨h2 q, fun hc => ?_⟩
 obtain ⟨a, i, b, k⟩ := q
 have hc' : clashT t a i b k = true := hc
 obtain ⟨hne, n, m, p, q, rfl, rfl, rfl, rfl, _⟩ := clashT_in hc'
 rcases Nat.lt_trichotomy p n with e | e | e
 ·exact (h3 n m p q e hc').1
 ·omega
 ·rw [clashT_comm] at hc'
  exact (h3 p q n m e hc').2
theorem PartT.begin (w : World) (t : List WishD) {D : Nat → Nat → Nat → Nat → Prop} (hD : ∀ a i b k, ¬ D a i b k) : PartT (w.alloc (.map #[] 0)) w.heap.size t D :=
 ⟨_, _, Flags.new w, fun _ h => (by cases h), fun a i b k d => (hD a i b k d).elim⟩
theorem PartT.put {w : World} {B : Nat} {t : List WishD} {D : Nat → Nat → Nat → Nat → Prop} (h : PartT w B t D) {a i b k : Nat} (hc : clashT t a i b k = true) (f1 : Fits ((a : Int), (i : Int), (b : Int), (k : Int))) :
  ∃ w1 w2, (Instr.mapUpdate 95 (.map (some B)) (.agg #[.int .i64 a, .int .i64 i, .int .i64 b, .int .i64 k]) (.bool true)).run Tryz.prog w = .ok () w1 ∧
   (Instr.mapUpdate 95 (.map (some B)) (.agg #[.int .i64 b, .int .i64 k, .int .i64 a, .int .i64 i]) (.bool true)).run Tryz.prog w1 = .ok () w2 ∧
   w.grownBy w1 (some B) ∧ w1.grownBy w2 (some B) ∧ PartT w2 B t fun a' i' b' k' => D a' i' b' k' ∨ (a' = a ∧ i' = i ∧ b' = b ∧ k' = k) := by
 obtain ⟨S, m, h1, h2, h3⟩ := h
 have f2 : Fits ((b : Int), (k : Int), (a : Int), (i : Int)) := ⟨f1.2.2.1, f1.2.2.2, f1.1, f1.2.1⟩
 obtain ⟨w1, r1, g1, k1⟩ := h1.put f1
 obtain ⟨w2, r2, g2, k2⟩ := g1.put f2
 simp only [fourV] at r1 r2
 refine ⟨w1, w2, r1, r2, k1, k2, _, _, g2, fun q hq => ?_, fun a' i' b' k' d c => ?_⟩
 ·simp only [Bool.or_eq_true, decide_eq_true_eq] at hq
  rcases hq with (hq | rfl) | rfl
  ·exact h2 q hq
  ·exact hc
  ·show clashT t _ _ _ _ = true
   rw [clashT_comm]; exact hc
 ·rcases d with d | ⟨rfl, rfl, rfl, rfl⟩
  ·obtain ⟨s1, s2⟩ := h3 a' i' b' k' d c
   simp [s1, s2]
  ·simp
set_option maxRecDepth 100000 in
theorem clashes_calls (wv : Value) (t : List WishD) (w : World) (h : Wishes w wv t) (hv : validT t = 0) :
  Calls Tryz.prog 31 #[.agg #[wv]] w fun e w' => ∃ b, e = .returned (.map (some b)) ∧ Tab w' b t ∧ w.heap.size ≤ b ∧ Ext w w' := by
 have hT := Lib.hid h
 obtain ⟨ta, tc, rfl, hn, hcc, wat⟩ := h.open
 have wat' := Lib.hid wat
 obtain ⟨ht0, ht1⟩ := stepsT_bd hv
 obtain ⟨b1, o1, _, _, _, _, _, rfl, hb1, _⟩ := wat 0 ht0 w (Ext.refl _)
 clear h wat hv
 have hmm := @run_makeMap Tryz.prog
 go_enter Tryz.func31, Tryz.ntmps31
 go_upto_region 3 with (fail)
 refine wp_abs (S := fun W => Hid (Ext w W) ∧ Hid (Blk W w.heap.size 28 #[.slice (some ⟨b1, o1, none⟩) t.length tc]) ∧ Hid (PartT W (w.heap.size + 1) t fun a _ b _ => a < 0 ∧ b < a)) ?_ ?_
 ·exact ⟨Lib.hid (by exact (by with_reducible repeat' (first | exact Ext.refl _ | assumption | refine Ext.drewN ?_ _ | refine Ext.drew ?_ | refine Ext.alloc ?_ _ | refine Ext.trans ?_ (by with_reducible assumption)))), Lib.hid ((blk_new' rfl rfl).alloc _), Lib.hid (by have := PartT.begin (w.alloc (.cells #[.slice (some ⟨b1, o1, none⟩) t.length tc] 28)) t (D := fun a _ b _ => a < 0 ∧ b < a) (fun a _ _ _ h => by omega); rwa [World.size_alloc] at this)⟩
 rintro W ⟨hx0, hB0, hP0⟩
 clear hmm
 go_loopw [12] (fun va wr => ∃ a : Nat, a ≤ t.length ∧ va = .int .i64 a ∧ Hid (Ext w wr) ∧ Hid (Blk wr w.heap.size 28 #[.slice (some ⟨b1, o1, none⟩) t.length tc]) ∧ Hid (PartT wr (w.heap.size + 1) t fun a' _ b _ => a' < a ∧ b < a')) (fun va _ => t.length - (intOf va).toNat)
 case atStart => exact ⟨0, by omega, rfl, hx0, hB0, hP0⟩
 case round =>
  clear hx0 hB0 hP0
  obtain ⟨a, ha, rfl, hx1, hB1, hP1⟩ := hrel
  by_cases q1 : a < t.length
  ·obtain ⟨wA, hwA⟩ : ∃ wA : World, Hid (wr = wA) := ⟨_, rfl⟩
   go_wp2_with fail
   rw [hwA.out] at hx1 hB1 hP1
   rw [hwA.out]
   clear hwA
   go_loopw [16] (fun vb wr => ∃ b : Nat, b ≤ a ∧ vb = .int .i64 b ∧ Hid (Ext w wr) ∧ Hid (Blk wr w.heap.size 28 #[.slice (some ⟨b1, o1, none⟩) t.length tc]) ∧ Hid (PartT wr (w.heap.size + 1) t fun a' _ b' _ => (a' < a ∧ b' < a') ∨ (a' = a ∧ b' < b))) (fun vb _ => a - (intOf vb).toNat)
   case atStart => exact ⟨0, by omega, rfl, hx1, hB1, Lib.hid (hP1.out.turn fun a' i b k _ d => by omega)⟩
   case round =>
    clear hx1 hB1 hP1
    obtain ⟨b, hb, rfl, hx2, hB2, hP2⟩ := hrel
    by_cases q2 : b < a
    ·obtain ⟨b2, o2, x, _, _, oa, oc, e1, _, _, ex, _, _, gx, _⟩ := wat'.out a q1 wr hx2.out
     cases e1
     have hlx : x.opts.length ≤ 9223372036854775807 := by
      obtain ⟨_, _, _, _, _, _, _, _, _, _, ex2, _, _, _, _, go⟩ := wat'.out a q1 w (Ext.refl _)
      obtain rfl := Option.some.inj (ex.out.symm.trans ex2.out)
      exact go.len
     have hgx : Hid ((t[a]?.getD default).opts.length = x.opts.length) := by show _ = _; rw [ex.out]; rfl
     have c2 : wr.cell? ⟨w.heap.size, 0, none⟩ = some (.slice (some ⟨b1, o1, none⟩) t.length tc) := hB2.out.cell 0
     have hblt := hB2.out.lt
     obtain ⟨wB, hwB⟩ : ∃ wB : World, Hid (wr = wB) := ⟨_, rfl⟩
     go_wp2_with fail
     rw [hwB.out] at hx2 hB2 hP2
     rw [hwB.out]
     clear hwB c2 gx
     go_loopw [26] (fun vi wr => ∃ i : Nat, i ≤ x.opts.length ∧ vi = .int .i64 i ∧ Hid (Ext w wr) ∧ Hid (Blk wr w.heap.size 28 #[.slice (some ⟨b1, o1, none⟩) t.length tc]) ∧ Hid (PartT wr (w.heap.size + 1) t fun a' i' b' _ => (a' < a ∧ b' < a') ∨ (a' = a ∧ b' < b) ∨ (a' = a ∧ b' = b ∧ i' < i))) (fun vi _ => x.opts.length - (intOf vi).toNat)
     case atStart => exact ⟨0, by omega, rfl, hx2, hB2, Lib.hid (hP2.out.turn fun a' i b k _ d => by omega)⟩
     case round =>
      clear hx2 hB2 hP2
      obtain ⟨i, hi, rfl, hx3, hB3, hP3⟩ := hrel
      by_cases q3 : i < x.opts.length
      ·obtain ⟨b3, o3, y, _, _, pa, pc, e1, _, _, ey, _, _, gy, _⟩ := wat'.out b (by omega) wr hx3.out
       cases e1
       have hly : y.opts.length ≤ 9223372036854775807 := by
        obtain ⟨_, _, _, _, _, _, _, _, _, _, ey2, _, _, _, _, go⟩ := wat'.out b (by omega) w (Ext.refl _)
        obtain rfl := Option.some.inj (ey.out.symm.trans ey2.out)
        exact go.len
       have hgy : Hid ((t[b]?.getD default).opts.length = y.opts.length) := by show _ = _; rw [ey.out]; rfl
       have c3 : wr.cell? ⟨w.heap.size, 0, none⟩ = some (.slice (some ⟨b1, o1, none⟩) t.length tc) := hB3.out.cell 0
       have hblt3 := hB3.out.lt
       obtain ⟨wC, hwC⟩ : ∃ wC : World, Hid (wr = wC) := ⟨_, rfl⟩
       go_wp2_with fail
       rw [hwC.out] at hx3 hB3 hP3
       rw [hwC.out]
       clear hwC c3 gy
       go_loopw [36] (fun vk wr => ∃ k : Nat, k ≤ y.opts.length ∧ vk = .int .i64 k ∧ Hid (Ext w wr) ∧ Hid (Blk wr w.heap.size 28 #[.slice (some ⟨b1, o1, none⟩) t.length tc]) ∧ Hid (PartT wr (w.heap.size + 1) t fun a' i' b' k' => (a' < a ∧ b' < a') ∨ (a' = a ∧ b' < b) ∨ (a' = a ∧ b' = b ∧ i' < i) ∨ (a' = a ∧ b' = b ∧ i' = i ∧ k' < k))) (fun vk _ => y.opts.length - (intOf vk).toNat)
       case atStart => exact ⟨0, by omega, rfl, hx3, hB3, Lib.hid (hP3.out.turn fun a' i b k _ d => by omega)⟩
       case round =>
        clear hx3 hB3 hP3
        obtain ⟨k, hk, rfl, hx4, hB4, hP4⟩ := hrel
        by_cases q4 : k < y.opts.length
        ·have c4 : wr.cell? ⟨w.heap.size, 0, none⟩ = some (.slice (some ⟨b1, o1, none⟩) t.length tc) := hB4.out.cell 0
         have hblt4 := hB4.out.lt
         obtain ⟨z, hz⟩ : ∃ z, Hid (clashT t a i b k = z) := ⟨_, rfl⟩
         have hcl : Hid (Calls Tryz.prog 60 #[.agg #[.slice (some ⟨b1, o1, none⟩) t.length tc], .int .i64 a, .int .i64 i, .int .i64 b, .int .i64 k] wr fun e w' => e = .returned (.bool z) ∧ Ext wr w') := hz.out ▸ clashP_calls _ t a i b k wr (hT.out.ext hx4.out)
         go_wp2_with fail
         refine hcl.out.mono ?_
         rintro e w3 ⟨rfl, hx5⟩
         have hx6 := Lib.hid (hx4.out.trans hx5)
         have hB6 : Hid (Blk w3 w.heap.size 28 #[.slice (some ⟨b1, o1, none⟩) t.length tc]) := Lib.hid ((Keep.of_ext (X := fun _ => False) hx5).blk hB4.out id)
         have hP6 := Lib.hid (hP4.out.ext hx5)
         clear hx4 hB4 hP4 hx5 c4 hcl hblt4
         cases z with
         | true =>
          have hxs := hx6.out.size
          obtain ⟨w4, w5, r1, r2, g1, g2, hPn⟩ := hP6.out.put hz.out ⟨wf_nat (by omega), wf_nat (by omega), wf_nat (by omega), wf_nat (by omega)⟩
          have hx7 := Lib.hid ((hx6.out.grown g1 (fun j e => by cases e; omega)).grown g2 (fun j e => by cases e; omega))
          have hB7 := Lib.hid ((hB6.out.grown g1 (fun e => by simp at e)).grown g2 (fun e => by simp at e))
          have hP7 := Lib.hid (hPn.turn (D' := fun a' i' b' k' => (a' < a ∧ b' < a') ∨ (a' = a ∧ b' < b) ∨ (a' = a ∧ b' = b ∧ i' < i) ∨ (a' = a ∧ b' = b ∧ i' = i ∧ k' < k + 1)) fun a' i' b' k' _ d => by omega)
          clear hx6 hB6 hP6 hz g1 g2 hPn
          go_wp2
          go_roundw
          case rel => exact ⟨k + 1, by omega, by go_num, hx7, hB7, hP7⟩
          case measure => simp [intOf]; omega
         | false =>
          have hP7 := Lib.hid (hP6.out.turn (D' := fun a' i' b' k' => (a' < a ∧ b' < a') ∨ (a' = a ∧ b' < b) ∨ (a' = a ∧ b' = b ∧ i' < i) ∨ (a' = a ∧ b' = b ∧ i' = i ∧ k' < k + 1)) fun a' i' b' k' c d => by
           by_cases e : a' = a ∧ b' = b ∧ i' = i ∧ k' = k
           ·obtain ⟨rfl, rfl, rfl, rfl⟩ := e
            rw [hz.out] at c
            cases c
           ·omega)
          clear hP6 hz
          go_wp2
          go_roundw
          case rel => exact ⟨k + 1, by omega, by go_num, hx6, hB6, hP7⟩
          case measure => simp [intOf]; omega
        ·have hP5 := Lib.hid (hP4.out.turn (D' := fun a' i' b' _ => (a' < a ∧ b' < a') ∨ (a' = a ∧ b' < b) ∨ (a' = a ∧ b' = b ∧ i' < i + 1)) fun a' i' b' k' c d => by
          by_cases e : a' = a ∧ b' = b ∧ i' = i
          ·obtain ⟨rfl, rfl, rfl⟩ := e
           have := (clashT_lt c).2
           rw [hgy.out] at this
           omega
          ·omega)
         clear hP4
         go_wp2
         go_roundw
         case rel => exact ⟨i + 1, by omega, by go_num, hx4, hB4, hP5⟩
         case measure => simp [intOf]; omega
      ·have hP4 := Lib.hid (hP3.out.turn (D' := fun a' _ b' _ => (a' < a ∧ b' < a') ∨ (a' = a ∧ b' < b + 1)) fun a' i' b' k' c d => by
        by_cases e : a' = a ∧ b' = b
        ·obtain ⟨rfl, rfl⟩ := e
         have := (clashT_lt c).1
         rw [hgx.out] at this
         omega
        ·omega)
       clear hP3
       go_wp2
       go_roundw
       case rel => exact ⟨b + 1, by omega, by go_num, hx3, hB3, hP4⟩
       case measure => simp [intOf]; omega
    ·have hP3 := Lib.hid (hP2.out.turn (D' := fun a' _ b' _ => a' < a + 1 ∧ b' < a') fun a' i' b' k' c d => by omega)
     clear hP2
     go_wp2
     go_roundw
     case rel => exact ⟨a + 1, by omega, by go_num, hx2, hB2, hP3⟩
     case measure => simp [intOf]; omega
  ·have hall : Hid (Tab wr (w.heap.size + 1) t) := (hP1.out.turn (D' := fun a' _ b' _ => b' < a') fun a' i' b' k' c d => by
    obtain ⟨_, n, m, p, q, e1, _, _, _, h1, _⟩ := clashT_in c
    omega).all
   clear hP1
   go_wp2
   go_ret
   exact ⟨_, rfl, hall.out, by omega, hx1.out⟩
end Go.Proofs.YtgolicoalldidaaGreat
namespace Go.Proofs.YtgolicoalldidaaGreat
open Go.RowKit
theorem IntsO.lt_ {w : World} {B g c n : Nat} {xs : List Value} {e : TypeId} {size : Nat} (h : w.ownsRow B e size (.slice (some ⟨g, 0, none⟩) n c) n xs) : B ≤ g ∧ g < w.heap.size := ⟨(h.lt g rfl).1, (h.lt g rfl).2⟩
theorem IntsO.blk {w : World} {B g c : Nat} {l : List Int} (h : IntsO w B (.slice (some ⟨g, 0, none⟩) l.length c) l) : ∃ cs, Blk w g 3 cs ∧ cs.toList.take l.length = l.map (Value.int .i64) ∧ l.length ≤ c ∧ c ≤ maxLen ∧ cs.size = c ∧ B ≤ g := by
 rcases h.2 with ⟨h', _⟩ | ⟨g', cap, cur, h', hb, hg, hn, hcap, hcs, htake⟩
 ·cases h'
 ·cases h'
  exact ⟨cur, hg, by simpa using htake, hn, hcap, by simpa using hcs, hb⟩
theorem IntsO.cell {w : World} {B g c : Nat} {l : List Int} (h : IntsO w B (.slice (some ⟨g, 0, none⟩) l.length c) l) {i : Nat} (hi : i < l.length) : w.cell? ⟨g, i, none⟩ = some (.int .i64 (atI l i)) := by
 obtain ⟨cs, hb, ht, hn, _, hs, _⟩ := h.blk
 rw [hb.cell]
 have := congrArg (fun x => x[i]?) ht
 simp only [List.getElem?_take, if_pos hi, List.getElem?_map, get_atI hi, Option.map_some] at this
 simpa using this
theorem IntsO.frozen {w : World} {B g c : Nat} {l : List Int} (h : IntsO w B (.slice (some ⟨g, 0, none⟩) l.length c) l) (i : Nat) : w.frozen? ⟨g, i, none⟩ = false := by
 obtain ⟨cs, hb, _⟩ := h.blk
 exact hb.frozen i
theorem IntsO.set_ {w : World} {B g c : Nat} {l : List Int} (h : IntsO w B (.slice (some ⟨g, 0, none⟩) l.length c) l) {i : Nat} (v : Int) : IntsO (w.setCell ⟨g, i, none⟩ (.int .i64 v)) B (.slice (some ⟨g, 0, none⟩) (l.set i v).length c) (l.set i v) := by
 obtain ⟨cs, hb, ht, hn, hc, hs, hB⟩ := h.blk
 have hb' := hb.set_ i (.int .i64 v)
 unfold IntsO
 rw [List.length_set]
 refine ⟨by simp, Or.inr ⟨g, c, _, rfl, hB, hb', hn, hc, by simpa using hs, ?_⟩⟩
 rw [Array.toList_setIfInBounds, Nat.mul_one, List.take_set, ht, List.map_set]
theorem IntsO.pos {w : World} {B : Nat} {v : Value} {l : List Int} (h : IntsO w B v l) (h0 : 0 < l.length) : ∃ g c, v = .slice (some ⟨g, 0, none⟩) l.length c := by
 rcases h.2 with ⟨h', hn⟩ | ⟨g', cap, cur, h', _⟩
 ·omega
 ·exact ⟨g', cap, h'⟩
theorem InRange.set_ {l : List Int} (h : InRange l) (i : Nat) {v : Int} (hv : -9223372036854775808 ≤ v ∧ v ≤ 9223372036854775807) : InRange (l.set i v) := fun x hx => by
 rcases List.mem_or_eq_of_mem_set hx with h1 | rfl
 ·exact h x h1
 ·exact hv
set_option maxRecDepth 100000 in
theorem can_calls (bs bp bt S b n : Nat) (pv : Value) (t : List WishD) (pick st : List Int) (i : Nat) (w : World) (h1 : w.cell? ⟨bs, 0, none⟩ = some (.slice (some ⟨S, 0, none⟩) n n)) (hn : n = st.length) (hS : St w S st)
  (h2 : w.cell? ⟨bp, 0, none⟩ = some pv) (hp : Ints w pv pick) (h3 : w.cell? ⟨bt, 0, none⟩ = some (.map (some b))) (hb : Tab w b t) (hr : InRange pick) (hrs : InRange st) (hl : pick.length = st.length) (hi : i < st.length) (h512 : st.length ≤ 512) :
  Calls Tryz.prog 32 #[.int .i64 i, .pointer (some ⟨bs, 0, none⟩), .pointer (some ⟨bp, 0, none⟩), .pointer (some ⟨bt, 0, none⟩)] w fun e w' => e = .returned (.bool (canB t pick st i)) ∧ Ext w w' := by
 subst hn
 have hS' := Lib.hid hS
 have hP := Lib.hid hp
 have hb' := Lib.hid hb
 have hr' := Lib.hid hr
 have hrs' := Lib.hid hrs
 obtain ⟨pa, pc, rfl, _, _, pat⟩ := hp.open
 obtain ⟨b2, o2, y, rfl, hb2, _, ey, g1⟩ := pat i (by omega) w (Ext.refl _)
 have ey2 : atI pick i = y := atI_some ey.out
 have hyr : -9223372036854775808 ≤ y ∧ y ≤ 9223372036854775807 := hr y (List.mem_of_getElem? ey.out)
 have g0 := hS.cell hi
 have l1 := World.block_lt_of_cell? _ _ h1
 have l2 := World.block_lt_of_cell? _ _ h2
 have l3 := World.block_lt_of_cell? _ _ h3
 have lS := hS.lt
 obtain ⟨x, hx⟩ : ∃ x, Hid (atI st i = x) := ⟨_, rfl⟩
 rw [hx.out] at g0
 clear hS hp hb hr hrs pat
 cases hxy : (x == y) with
 | true =>
  have R : Hid (canB t pick st i = false) := by
   show _ = _
   unfold canB
   rw [hx.out, ey2]
   simp at hxy
   simp [hxy]
  clear ey2 hx
  go_enter Tryz.func32, Tryz.ntmps32
  go_upto_region 1 with (fail)
  have z1 := After.cell h1
  have z2 := After.cell h2
  have z3 := After.cell g0
  have z4 := After.cell g1
  clear h1 h2 h3 g0 g1
  refine wp_region_after (by kernel_rfl) (by kernel_rfl) ?_
  repeat (go_big_quiet_step (fail))
  refine wpQuiet_nil ?_
  rintro _ ⟨u, rfl⟩
  go_wp2
  go_ret
  rw [R.out]
  exact ⟨rfl, u.ext⟩
 | false =>
  have R : Hid (canB t pick st i = quietB t (st.set i y) i) := by
   show _ = _
   unfold canB
   rw [hx.out, ey2]
   simp at hxy
   simp [hxy]
  clear hx
  go_enter Tryz.func32, Tryz.ntmps32
  go_upto_region 1 with (fail)
  have z1 := After.cell h1
  have z2 := After.cell h2
  have z3 := After.cell g0
  have z4 := After.cell g1
  clear g0 g1
  refine wp_region_after (by kernel_rfl) (by kernel_rfl) ?_
  repeat (go_big_quiet_step (fail))
  refine wpQuiet_nil ?_
  rintro _ ⟨u, rfl⟩
  have hu := Lib.hid u.ext
  generalize u.world = W at hu ⊢
  clear z1 z2 z3 z4
  have k1 := hu.out.cell h1
  have k2 := hu.out.cell h2
  clear h1 h2
  go_wp2_with fail
  refine (clone_int_calls _ st W ((hS'.out.ext hu.out).read (by unfold maxLen; omega)) (by omega)).mono ?_
  rintro e w1 ⟨v, rfl, hv, hx1⟩
  have hvO : IntsO w1 W.heap.size v st := hv
  obtain ⟨g, c, rfl⟩ := hvO.pos (by omega)
  have hbnd := IntsO.lt_ hv
  have hux := hu.out.size
  have m1 := hvO.cell hi
  have m2 := hvO.frozen i
  have c2 := hx1.cell k2
  have c3 := (hu.out.trans hx1).cell h3
  obtain ⟨b3, o3, y2, e2, hb3, _, ey3, c4⟩ := (hP.out.at_.1) i (by omega) w1 (hu.out.trans hx1)
  cases e2
  obtain rfl : y2 = y := Option.some.inj (ey3.out.symm.trans ey.out)
  have hset := Lib.hid (hvO.set_ (i := i) y2)
  have hxW := Lib.hid ((hu.out.trans hx1).setCell (p := ⟨g, i, none⟩) (by dsimp only; omega) (.int .i64 y2))
  have c3b : (w1.setCell ⟨g, i, none⟩ (.int .i64 y2)).cell? ⟨bt, 0, none⟩ = some (.map (some b)) := hxW.out.cell h3
  have hlen : (st.set i y2).length = st.length := List.length_set
  have hcall := Lib.hid (quiet_calls b _ t (st.set i y2) i _ (hb'.out.ext hxW.out) hset.out.read (hrs'.out.set_ i hyr) (by rw [hlen]; exact hi))
  rw [hlen] at hcall
  clear hv hvO hx1 hset k1 k2 h3 ey ey3 hyr
  go_wp2_with fail
  refine hcall.out.mono ?_
  rintro e w3 ⟨rfl, hx3⟩
  go_wp2
  go_ret
  rw [R.out]
  exact ⟨rfl, hxW.out.trans hx3⟩
def nextV (s : Option StepD) : Int × Int := s.getD (0, 0)
theorem next_results {tmps : Array Value} {w : World} {g : Nat} {x y : Int} (hp : tmps.getD 6 undef = .pointer (some ⟨g, 0, none⟩)) (hb : Blk w g 101 #[.int .i64 x, .int .i64 y]) :
  (results Tryz.f35 tmps).run Tryz.prog w = .ok (.tuple #[.agg #[.int .i64 x, .int .i64 y], tmps.getD 7 undef]) w := by
 have hp' : tmps[6]?.getD undef = .pointer (some ⟨g, 0, none⟩) := by simpa using hp
 rw [results_cell_tmp Tryz.results35]
 simp [hp', asAddr, run_loadVar_row w g 101 101 #[.int .i64 x, .int .i64 y] (0, 0) _ hb Tryz.underlying101 rfl (by kernel_rfl), Result.andThen]
theorem find_hit {p : Nat → Bool} {n i : Nat} (hi : i < n) (h : p i = true) (hF : ∀ j, j < i → p j = false) : (List.range n).find? p = some i := by
 rw [List.find?_range_eq_some]
 exact ⟨h, by simpa using hi, fun j hj => by simp [hF j hj]⟩
theorem find_none {p : Nat → Bool} {n : Nat} (hF : ∀ j, j < n → p j = false) : (List.range n).find? p = none := by
 rw [List.find?_range_eq_none]
 intro i hi
 simp [hF i hi]
set_option maxRecDepth 100000 in
theorem next_calls (sv pv : Value) (f : Nat) (q1 q2 q3 : Value) (hg : ∀ (x : Array Value) (W : World), (callFunc f x).run Tryz.prog W = .ok (.enter f x) W) (t : List WishD) (pick st : List Int) (w : World) (hs : Ints w sv st) (hp : Ints w pv pick) (hl : pick.length = st.length)
  (hf : ∀ i, i < st.length → ∀ W, Ext w W → Calls Tryz.prog f #[.int .i64 i, q1, q2, q3] W fun e w' => e = .returned (.bool (canB t pick st i)) ∧ Ext W w') :
  Calls Tryz.prog 35 #[sv, pv, .func (.func f) #[] #[q1, q2, q3]] w fun e w' => e = .returned (.tuple #[.agg #[.int .i64 (nextV (goS t pick st)).1, .int .i64 (nextV (goS t pick st)).2], .bool (goS t pick st).isSome]) ∧ Ext w w' := by
 obtain ⟨sa, sc, rfl, hsn, hsc, sat⟩ := hs.open
 obtain ⟨pa, pc, rfl, hpn, hpc, pat⟩ := hp.open
 have sat' := Lib.hid sat
 have pat' := Lib.hid pat
 have hf' := Lib.hid hf
 have hl1 : pick.length ≤ st.length := Nat.le_of_eq hl
 have hl2 : st.length ≤ pick.length := Nat.le_of_eq hl.symm
 clear hs hp sat pat hf hl
 go_enter Tryz.func35, Tryz.ntmps35
 go_upto_region 1 with (fail)
 refine wp_abs (S := fun W => Hid (Ext w W) ∧ Hid (Blk W w.heap.size 101 #[.int .i64 0, .int .i64 0])) ?_ ?_
 ·exact ⟨Lib.hid (by exact (by with_reducible repeat' (first | exact Ext.refl _ | assumption | refine Ext.drewN ?_ _ | refine Ext.drew ?_ | refine Ext.alloc ?_ _ | refine Ext.trans ?_ (by with_reducible assumption)))), Lib.hid (blk_new' rfl rfl)⟩
 rintro W0 ⟨hE0, hB0⟩
 (try go_step3)
 go_wp2_with fail
 go_loopw [12] (fun vi wr => ∃ i : Nat, i ≤ st.length ∧ vi = .int .i64 i ∧ Hid (Ext w wr) ∧ Hid (Blk wr w.heap.size 101 #[.int .i64 0, .int .i64 0]) ∧ Hid (∀ j, j < i → canB t pick st j = false)) (fun vi _ => st.length - (intOf vi).toNat)
 case atStart => exact ⟨0, by omega, rfl, hE0, hB0, Lib.hid (fun j h => by omega)⟩
 case round =>
  clear hE0 hB0
  obtain ⟨i, hi, rfl, hx, hB, hF⟩ := hrel
  by_cases h1 : i < st.length
  ·have hcall := Lib.hid (hf'.out i h1)
   obtain ⟨z, hz⟩ : ∃ z, Hid (canB t pick st i = z) := ⟨_, rfl⟩
   rw [hz.out] at hcall
   go_wp2_with fail
   refine (hcall.out _ hx.out).mono ?_
   rintro e w1 ⟨rfl, hx1⟩
   have hx2 := Lib.hid (hx.out.trans hx1)
   have hB2 : Hid (Blk w1 w.heap.size 101 #[.int .i64 0, .int .i64 0]) := Lib.hid ((Keep.of_ext (X := fun _ => False) hx1).blk hB.out id)
   clear hx hx1 hB hcall
   cases z with
   | true =>
    have R : Hid (goS t pick st = some ((i : Int), atI pick i)) := by
     show _ = _
     unfold goS
     rw [find_hit h1 hz.out hF.out]
    obtain ⟨b2, o2, y, rfl, hb2, _, ey, g1⟩ := pat'.out i (by omega) w1 hx2.out
    rw [atI_some ey.out] at R
    have k0 : w1.cell? ⟨w.heap.size, 0, none⟩ = some (.int .i64 0) := hB2.out.cell 0
    have k1 : w1.cell? ⟨w.heap.size, 1, none⟩ = some (.int .i64 0) := hB2.out.cell 1
    have m0 := hB2.out.frozen 0
    have m1 := hB2.out.frozen 1
    have lb := hB2.out.lt
    clear hz hF ey
    go_wp2
    (try simp only [Exit.inBlock, Exit.then])
    (try rw [Exit.noGoto_ret])
    refine bodyPost_ret (next_results (x := (i : Int)) (y := y) rfl (((hB2.out.set_ 0 _).set_ 1 _))) rfl ?_
    rw [R.out]
    exact ⟨rfl, ((hx2.out.setCell (p := ⟨w.heap.size, 0, none⟩) (Nat.le_refl _) _).setCell (p := ⟨w.heap.size, 1, none⟩) (Nat.le_refl _) _)⟩
   | false =>
    have hF2 : Hid (∀ j, j < i + 1 → canB t pick st j = false) := fun j hj => by
     rcases Nat.lt_succ_iff_lt_or_eq.1 hj with h | rfl
     ·exact hF.out j h
     ·exact hz.out
    clear hF hz
    go_wp2
    go_roundw
    case rel => first | exact ⟨i + 1, by omega, by go_num, hx2, hB2, hF2⟩ | ((repeat apply Exists.intro); exact ⟨⟨i + 1, by omega, by go_num, hx2, hB2, hF2⟩, rfl⟩)
    case measure => simp [intOf]; omega
  ·have hnone : Hid ((List.range st.length).find? (canB t pick st) = none) := find_none fun j hj => hF.out j (by omega)
   obtain ⟨wA, hwA⟩ : ∃ wA : World, Hid (wr = wA) := ⟨_, rfl⟩
   clear hF hf'
   go_wp2_with fail
   rw [hwA.out] at hx hB
   rw [hwA.out]
   clear hwA
   go_loopw [27] (fun vi wr => ∃ i : Nat, i ≤ st.length ∧ vi = .int .i64 i ∧ Hid (Ext w wr) ∧ Hid (Blk wr w.heap.size 101 #[.int .i64 0, .int .i64 0]) ∧ Hid (∀ j, j < i → parkB pick st j = false)) (fun vi _ => st.length - (intOf vi).toNat)
   case atStart => exact ⟨0, by omega, rfl, hx, hB, Lib.hid (fun j h => by omega)⟩
   case round =>
    clear hx hB
    obtain ⟨k, hk, rfl, hx, hB, hF⟩ := hrel
    by_cases h2 : k < st.length
    ·obtain ⟨b1, o1, x, rfl, hb1, _, ex, g0⟩ := sat'.out k h2 wr hx.out
     obtain ⟨b2, o2, y, rfl, hb2, _, ey, g1⟩ := pat'.out k (by omega) wr hx.out
     have e1 : atI st k = x := atI_some ex.out
     have e2 : atI pick k = y := atI_some ey.out
     have hpk : Hid (parkB pick st k = (!(x == y) && !(x == -1))) := by
      show _ = _
      unfold parkB
      rw [e1, e2]
      congr 1 <;> (congr 1; exact (Bool.eq_iff_iff.2 (by simp)))
     clear e1 e2 ex ey
     cases hxy : (x == y) with
     | true =>
      have hn0 : (x != y) = false := by simp [bne, hxy]
      have hF2 : Hid (∀ j, j < k + 1 → parkB pick st j = false) := fun j hj => by
       rcases Nat.lt_succ_iff_lt_or_eq.1 hj with h | rfl
       ·exact hF.out j h
       ·rw [hpk.out]; simp [hxy]
      clear hF hpk
      go_upto_region 10 with (fail)
      have z1 := After.cell g0
      have z2 := After.cell g1
      clear g0 g1
      refine wp_region_after (by kernel_rfl) (by kernel_rfl) ?_
      repeat (go_big_quiet_step (fail))
      refine wpQuiet_nil ?_
      rintro _ ⟨u, rfl⟩
      have hu := Lib.hid u.ext
      generalize u.world = W at hu ⊢
      clear z1 z2
      have hxW := Lib.hid (hx.out.trans hu.out)
      have hBW : Hid (Blk W w.heap.size 101 #[.int .i64 0, .int .i64 0]) := Lib.hid ((Keep.of_ext (X := fun _ => False) hu.out).blk hB.out id)
      clear hx hB hu
      go_wp2
      go_roundw
      case rel => exact ⟨k + 1, by omega, by go_num, hxW, hBW, hF2⟩
      case measure => simp [intOf]; omega
     | false =>
      have hn0 : (x != y) = true := by simp [bne, hxy]
      cases hx1 : (x == -1) with
      | true =>
       have hn1 : (x != -1) = false := by simp [bne, hx1]
       have hF2 : Hid (∀ j, j < k + 1 → parkB pick st j = false) := fun j hj => by
        rcases Nat.lt_succ_iff_lt_or_eq.1 hj with h | rfl
        ·exact hF.out j h
        ·rw [hpk.out]; simp [hx1]
       clear hF hpk
       go_upto_region 10 with (fail)
       have z1 := After.cell g0
       have z2 := After.cell g1
       clear g0 g1
       refine wp_region_after (by kernel_rfl) (by kernel_rfl) ?_
       repeat (go_big_quiet_step (fail))
       refine wpQuiet_nil ?_
       rintro _ ⟨u, rfl⟩
       have hu := Lib.hid u.ext
       generalize u.world = W at hu ⊢
       clear z1 z2
       have hxW := Lib.hid (hx.out.trans hu.out)
       have hBW : Hid (Blk W w.heap.size 101 #[.int .i64 0, .int .i64 0]) := Lib.hid ((Keep.of_ext (X := fun _ => False) hu.out).blk hB.out id)
       clear hx hB hu
       go_wp2
       go_roundw
       case rel => exact ⟨k + 1, by omega, by go_num, hxW, hBW, hF2⟩
       case measure => simp [intOf]; omega
      | false =>
       have hn1 : (x != -1) = true := by simp [bne, hx1]
       have R : Hid (goS t pick st = some ((k : Int), -1)) := by
        show _ = _
        unfold goS
        rw [hnone.out, find_hit h2 (by rw [hpk.out, hxy, hx1]; rfl) hF.out]
       clear hF hpk
       go_upto_region 10 with (fail)
       have z1 := After.cell g0
       have z2 := After.cell g1
       clear g0 g1
       refine wp_region_after (by kernel_rfl) (by kernel_rfl) ?_
       repeat (go_big_quiet_step (fail))
       refine wpQuiet_nil ?_
       rintro _ ⟨u, rfl⟩
       have hu := Lib.hid u.ext
       generalize u.world = W at hu ⊢
       clear z1 z2
       have hxW := Lib.hid (hx.out.trans hu.out)
       have hBW : Hid (Blk W w.heap.size 101 #[.int .i64 0, .int .i64 0]) := Lib.hid ((Keep.of_ext (X := fun _ => False) hu.out).blk hB.out id)
       clear hx hB hu
       have k0 : W.cell? ⟨w.heap.size, 0, none⟩ = some (.int .i64 0) := hBW.out.cell 0
       have k1 : W.cell? ⟨w.heap.size, 1, none⟩ = some (.int .i64 0) := hBW.out.cell 1
       have m0 := hBW.out.frozen 0
       have m1 := hBW.out.frozen 1
       have lb := hBW.out.lt
       go_wp2
       (try simp only [Exit.inBlock, Exit.then])
       (try rw [Exit.noGoto_ret])
       refine bodyPost_ret (next_results (x := (k : Int)) (y := -1) rfl (((hBW.out.set_ 0 _).set_ 1 _))) rfl ?_
       rw [R.out]
       exact ⟨rfl, ((hxW.out.setCell (p := ⟨w.heap.size, 0, none⟩) (Nat.le_refl _) _).setCell (p := ⟨w.heap.size, 1, none⟩) (Nat.le_refl _) _)⟩
    ·have R : Hid (goS t pick st = none) := by
      show _ = _
      unfold goS
      rw [hnone.out, find_none fun j hj => hF.out j (by omega)]
     have k0 : wr.cell? ⟨w.heap.size, 0, none⟩ = some (.int .i64 0) := hB.out.cell 0
     have k1 : wr.cell? ⟨w.heap.size, 1, none⟩ = some (.int .i64 0) := hB.out.cell 1
     have m0 := hB.out.frozen 0
     have m1 := hB.out.frozen 1
     have lb := hB.out.lt
     clear hF
     go_wp2
     (try simp only [Exit.inBlock, Exit.then])
     (try rw [Exit.noGoto_ret])
     refine bodyPost_ret (next_results (x := 0) (y := 0) rfl (((hB.out.set_ 0 _).set_ 1 _))) rfl ?_
     rw [R.out]
     exact ⟨rfl, ((hx.out.setCell (p := ⟨w.heap.size, 0, none⟩) (Nat.le_refl _) _).setCell (p := ⟨w.heap.size, 1, none⟩) (Nat.le_refl _) _)⟩
end Go.Proofs.YtgolicoalldidaaGreat
namespace Go.Proofs.YtgolicoalldidaaGreat
open Go.RowKit
theorem stepCells_app (l : List (Int × Int)) (x y : Int) : spanCells (l ++ [(x, y)]) = spanCells l ++ [.int .i64 x, .int .i64 y] := by simp [spanCells]
def StepsO (w : World) (B : Nat) (v : Value) (l : List (Int × Int)) : Prop := w.ownsRow B 101 2 v l.length (spanCells l)
theorem StepsO.read {w : World} {B : Nat} {v : Value} {l : List (Int × Int)} (h : StepsO w B v l) : Spans w v l :=
 sl_of_owns h fun i hi j hj => by
  have h := spanCells_at i l[i] (List.getElem?_eq_getElem hi)
  rcases j with _ | _ | j
  ·rw [Nat.add_zero, h.1]; simp [hi]
  ·rw [h.2]; simp [hi]
  ·omega
theorem StepsO.nil (w : World) (B : Nat) : StepsO w B (.slice none 0 0) [] := World.ownsRow_nil _ _ _ _
theorem step_info : (Tryz.prog.info? 101).map (fun i => (i.zero, i.size, i.bytes)) = some (some (.agg #[.int .i64 0, .int .i64 0]), 2, 16) := by kernel_rfl
theorem Tab.ne {w : World} {b g : Nat} {t : List WishD} {T : TypeId} {cs : Array Value} (h : Tab w b t) (h' : Blk w g T cs) : b ≠ g := by
 rintro rfl
 obtain ⟨_, es, clock, hb, _⟩ := h
 rw [Blk] at h'
 rw [h'] at hb
 cases hb
theorem ord_fuel {t : List WishD} {pick : List Int} : ∀ (n m : Nat) (st : List Int), Way t pick st → left pick st ≤ n → left pick st ≤ m → ordF t pick n st = ordF t pick m st
 | n, m, st, h, hn, hm => by
  cases hg : goS t pick st with
  | none =>
   have e : ∀ k, ordF t pick k st = [] := fun k => by
    cases k with
    | zero => rfl
    | succ k => simp [ordF, hg]
   rw [e, e]
  | some s =>
   obtain ⟨hw, hlt, _⟩ := h.step hg
   cases n with
   | zero => omega
   | succ n =>
    cases m with
    | zero => omega
    | succ m =>
     have := ord_fuel n m (stepS st s) hw (by omega) (by omega)
     simp [ordF, hg, this]
theorem ord_next {t : List WishD} {pick st : List Int} {s : StepD} (h : Way t pick st) (hg : goS t pick st = some s) : ordF t pick (left pick st) st = s :: ordF t pick (left pick (stepS st s)) (stepS st s) := by
 obtain ⟨hw, hlt, _⟩ := h.step hg
 obtain ⟨k, hk⟩ : ∃ k, left pick st = k + 1 := ⟨left pick st - 1, by omega⟩
 rw [hk]
 have e : ordF t pick (k + 1) st = s :: ordF t pick k (stepS st s) := by simp [ordF, hg]
 rw [e, ord_fuel k (left pick (stepS st s)) _ hw (by omega) (Nat.le_refl _)]
theorem ord_end {t : List WishD} {pick st : List Int} (hg : goS t pick st = none) (n : Nat) : ordF t pick n st = [] := by
 cases n with
 | zero => rfl
 | succ k => simp [ordF, hg]
theorem valid_opts {t : List WishD} (h : validT t = 0) {x : WishD} (hx : x ∈ t) : x.opts.length ≤ 16 := by
 unfold validT at h
 split at h
 ·cases h
 ·rename_i hb
  have hb' : tooLargeB t = false := by simpa using hb
  simp only [tooLargeB, Bool.or_eq_false_iff, List.any_eq_false] at hb'
  have := hb'.2 x hx
  simp at this
  omega
theorem lawful_range {t : List WishD} {p : List Int} (h : lawfulB t p = true) {i : Nat} (hi : i < t.length) : 0 ≤ atI p i ∧ atI p i ≤ 16 := by
 have h1 := lawful_at h hi
 have hx : t[i]? = some t[i] := by simp [hi]
 have := valid_opts (lawful_parts h).1 (List.getElem_mem hi)
 rw [hx] at h1
 simp only [Option.getD_some] at h1
 omega
theorem inRange_of {l : List Int} (h : ∀ i, i < l.length → -9223372036854775808 ≤ atI l i ∧ atI l i ≤ 9223372036854775807) : InRange l := fun x hx => by
 obtain ⟨i, hi⟩ := List.mem_iff_getElem?.1 hx
 have hlt := (List.getElem?_eq_some_iff.1 hi).1
 have := h i hlt
 rwa [atI_some hi] at this
theorem lawful_inRange {t : List WishD} {p : List Int} (h : lawfulB t p = true) : InRange p := inRange_of fun i hi => by
 have := lawful_range h (i := i) (by rw [← lawful_len h]; exact hi)
 omega
theorem Way.range {t : List WishD} {p st : List Int} (h : Way t p st) : InRange st := inRange_of fun i hi => by
 have hit : i < t.length := by rw [← h.len]; exact hi
 have := lawful_range h.lawful hit
 rcases h.at_ i hit with e | ⟨_, e | e⟩ <;> omega
structure OrdM (w0 : World) (g4 g5 g6 b : Nat) (pv : Value) (t : List WishD) (wr : World) (vo : Value) (out : List StepD) (st : List Int) : Prop where
 ext : Ext w0 wr
 b4 : w0.heap.size ≤ g4
 state : St wr g4 st
 cb : Blk wr g5 95 #[.map (some b)]
 sb : Blk wr g6 31 #[.slice (some ⟨g4, 0, none⟩) t.length t.length]
 pb : Blk wr (w0.heap.size + 1) 31 #[pv]
 tab : Tab wr b t
 own : StepsO wr w0.heap.size vo out
section
variable {w0 wr wr' : World} {g4 g5 g6 b : Nat} {pv vo : Value} {t : List WishD} {out : List StepD} {st : List Int}
theorem OrdM.toExt (h : OrdM w0 g4 g5 g6 b pv t wr vo out st) (e : Ext wr wr') : OrdM w0 g4 g5 g6 b pv t wr' vo out st := by
 have k : Keep (fun _ => False) wr wr' := Keep.of_ext e
 exact ⟨h.ext.trans e, h.b4, h.state.ext e, k.blk h.cb id, k.blk h.sb id, k.blk h.pb id, h.tab.ext e, owns_ext h.own e⟩
theorem OrdM.setSt (h : OrdM w0 g4 g5 g6 b pv t wr vo out st) (i : Nat) (v : Int) : OrdM w0 g4 g5 g6 b pv t (wr.setCell ⟨g4, i, none⟩ (.int .i64 v)) vo out (st.set i v) := by
 have k : Keep (fun x => x = g4) wr (wr.setCell ⟨g4, i, none⟩ (.int .i64 v)) := keep_set wr g4 i _
 have n1 : g5 ≠ g4 := Blk.ne_ h.cb h.state (by decide)
 have n2 : g6 ≠ g4 := Blk.ne_ h.sb h.state (by decide)
 have n3 : w0.heap.size + 1 ≠ g4 := Blk.ne_ h.pb h.state (by decide)
 exact ⟨h.ext.setCell h.b4 _, h.b4, h.state.set_ i v, k.blk h.cb n1, k.blk h.sb n2, k.blk h.pb n3, h.tab.keep k (h.tab.ne h.state), owns_keepT h.own k (TX.one h.state) (by decide)⟩
theorem OrdM.push {w1 : World} {v' : Value} {s : StepD} (h : OrdM w0 g4 g5 g6 b pv t wr vo out st) (ho : w1.ownsRow w0.heap.size 101 2 v' (out.length + 1) (spanCells out ++ [.int .i64 s.1, .int .i64 s.2])) (hg : wr.grownBy w1 vo.ownBlock) :
  OrdM w0 g4 g5 g6 b pv t w1 v' (out ++ [s]) st := by
 have hb : ∀ g, vo.ownBlock = some g → w0.heap.size ≤ g := fun g e => (h.own.lt g e).1
 have k : Keep (fun x => vo.ownBlock = some x) wr w1 := (Keep.refl _ wr).grown hg (fun g e => Or.inl e)
 have ht : ∀ {g : Nat} {T : TypeId} {cs : Array Value}, Blk wr g T cs → T ≠ 101 → ¬ vo.ownBlock = some g := fun hB hne e => by
  obtain ⟨cs', hb'⟩ := owns_block h.own e
  exact hne (blk_type hB hb')
 refine ⟨h.ext.grown hg hb, h.b4, k.blk h.state (ht h.state (by decide)), k.blk h.cb (ht h.cb (by decide)), k.blk h.sb (ht h.sb (by decide)), k.blk h.pb (ht h.pb (by decide)), h.tab.keep k (fun e => ?_), ?_⟩
 ·obtain ⟨cs', hb'⟩ := owns_block h.own e
  exact h.tab.ne hb' rfl
 ·unfold StepsO
  rw [List.length_append, stepCells_app]
  exact ho
end
def sliceLen : Value → Nat
 | .slice _ n _ => n
 | _ => 0
structure OrdI (w2 : World) (t : List WishD) (tv pv : Value) (L : Nat → Bool) (v22 v23 v24 v25 v26 v7 v8 : Value) (W : World) : Prop where
 ext : Ext w2 W
 f0 : L 0 = true → v22 = .agg #[tv]
 f1 : L 1 = true → ∃ b, v23 = .map (some b) ∧ Tab W b t
 f2 : L 2 = true → v24 = pv
 f3 : L 3 = true → v25 = .int .i64 t.length
 f4 : L 4 = true → ∃ g, v26 = .slice (some ⟨g, 0, none⟩) t.length t.length ∧ w2.heap.size ≤ g ∧ Blk W g 3 (zerosV t.length)
 f5 : L 5 = true → ∃ g x, v7 = .pointer (some ⟨g, 0, none⟩) ∧ w2.heap.size ≤ g ∧ Blk W g 95 #[x] ∧ (L 7 = true → x = v23)
 f6 : L 6 = true → ∃ g x, v8 = .pointer (some ⟨g, 0, none⟩) ∧ w2.heap.size ≤ g ∧ Blk W g 31 #[x] ∧ (L 8 = true → x = v26)
 d7 : L 7 = true → L 1 = true ∧ L 5 = true
 d8 : L 8 = true → L 4 = true ∧ L 6 = true
theorem OrdI.toExt {w2 W W' : World} {t : List WishD} {tv pv : Value} {L : Nat → Bool} {v22 v23 v24 v25 v26 v7 v8 : Value} (h : OrdI w2 t tv pv L v22 v23 v24 v25 v26 v7 v8 W) (e : Ext W W') : OrdI w2 t tv pv L v22 v23 v24 v25 v26 v7 v8 W' := by
 have k : Keep (fun _ => False) W W' := Keep.of_ext e
 exact ⟨h.ext.trans e, h.f0, fun q => let ⟨b, x, y⟩ := h.f1 q; ⟨b, x, y.ext e⟩, h.f2, h.f3, fun q => let ⟨g, x, y, z⟩ := h.f4 q; ⟨g, x, y, k.blk z id⟩,
  fun q => let ⟨g, u, x, y, z, r⟩ := h.f5 q; ⟨g, u, x, y, k.blk z id, r⟩, fun q => let ⟨g, u, x, y, z, r⟩ := h.f6 q; ⟨g, u, x, y, k.blk z id, r⟩, h.d7, h.d8⟩
set_option maxRecDepth 100000 in
theorem order_calls (wv pv : Value) (t : List WishD) (pick : List Int) (w : World) (h : Wishes w wv t) (hp : Ints w pv pick) :
  Calls Tryz.prog 10 #[.agg #[wv], pv] w fun e w' => ∃ v, e = .returned (.tuple #[v, .int .i64 (orderS t pick).2]) ∧ StepsO w' w.heap.size v (orderS t pick).1 ∧ Ext w w' := by
 have hT := Lib.hid h
 have hP := Lib.hid hp
 obtain ⟨ta, tc, rfl⟩ := h.form
 obtain ⟨pa, pc, rfl⟩ := hp.form
 have lp := hp.len
 clear h hp
 obtain ⟨z, hz⟩ : ∃ z, Hid (validT t = z) := ⟨_, rfl⟩
 obtain ⟨lw, hlw⟩ : ∃ z, Hid (lawfulB t pick = z) := ⟨_, rfl⟩
 have hval : Hid (∀ W, Ext w W → Calls Tryz.prog 24 #[.agg #[.slice ta t.length tc]] W fun e w' => e = .returned (.int .i64 z) ∧ Ext W w') := fun W hW => hz.out ▸ valid_calls _ t W (hT.out.ext hW)
 have hlaw : Hid (∀ W, Ext w W → Calls Tryz.prog 19 #[.agg #[.slice ta t.length tc], .slice pa pick.length pc] W fun e w' => e = .returned (.bool lw) ∧ Ext W w') := fun W hW => hlw.out ▸ lawful_calls _ _ t pick W (hT.out.ext hW) (hP.out.ext hW)
 obtain ⟨j0, hj0, jz0, jz1, jz2⟩ := info_parts step_info
 go_enter Tryz.func10, Tryz.ntmps10
 go_upto_region 1 with (fail)
 refine wp_abs (S := fun W => Hid (Ext w W) ∧ Hid (Blk W w.heap.size 28 #[.slice ta t.length tc]) ∧ Hid (Blk W (w.heap.size + 1) 31 #[.slice pa pick.length pc])) ?_ ?_
 ·exact ⟨Lib.hid (by exact (by with_reducible repeat' (first | exact Ext.refl _ | assumption | refine Ext.drewN ?_ _ | refine Ext.drew ?_ | refine Ext.alloc ?_ _ | refine Ext.trans ?_ (by with_reducible assumption)))), Lib.hid (Blk.alloc (blk_new' rfl rfl) _), Lib.hid (blk_new' (by simp only [World.size_alloc]) rfl)⟩
 rintro W0 ⟨hE0, hB0, hP0⟩
 have c0 : W0.cell? ⟨w.heap.size, 0, none⟩ = some (.slice ta t.length tc) := hB0.out.cell 0
 have c1 : W0.cell? ⟨w.heap.size + 1, 0, none⟩ = some (.slice pa pick.length pc) := hP0.out.cell 0
 go_wp2_with fail
 refine (hval.out _ hE0.out).mono ?_
 rintro e w1 ⟨rfl, hx1⟩
 have hE1 := Lib.hid (hE0.out.trans hx1)
 have d0 := hx1.cell c0
 have d1 := hx1.cell c1
 have hP1 := Lib.hid ((Keep.of_ext (X := fun _ => False) hx1).blk hP0.out id)
 clear hx1 hval hE0 hB0 hP0 c0 c1
 by_cases h0 : z = 0
 ·have hz0 : (z != 0) = false := by simp [h0]
  have hv : Hid (validT t = 0) := hz.out.trans h0
  clear hz h0
  go_wp2_with fail
  refine (hlaw.out _ hE1.out).mono ?_
  rintro e w2 ⟨rfl, hx2⟩
  have hE2 := Lib.hid (hE1.out.trans hx2)
  have e0 := hx2.cell d0
  have e1 := hx2.cell d1
  have hP2 := Lib.hid ((Keep.of_ext (X := fun _ => False) hx2).blk hP1.out id)
  clear hx2 hlaw hE1 d0 d1 hP1
  cases lw with
  | false =>
   have R : Hid (orderS t pick = ([], 1)) := by show _ = _; unfold orderS; rw [if_pos hv.out, hlw.out]; rfl
   clear hlw
   go_wp2
   go_ret2
   rw [R.out]
   exact ⟨_, rfl, StepsO.nil _ _, hE2.out⟩
  | true =>
   have hpl := Lib.hid (lawful_len hlw.out)
   obtain ⟨hb1, hb2⟩ := stepsT_bd hv.out
   have R : Hid (orderS t pick = (orderL t pick, 0)) := by show _ = _; unfold orderS; rw [if_pos hv.out, hlw.out]; rfl
   have hL1 : (orderL t pick).length ≤ 1024 := by have := (order_spec hlw.out).2.2.1; have := left_zeros_le pick t.length; omega
   have hlp : pick.length ≤ 512 := by rw [hpl.out]; exact hb2
   rw [hpl.out] at e1
   have hcl : Hid (∀ W, Ext w2 W → Calls Tryz.prog 31 #[.agg #[.slice ta t.length tc]] W fun e w' => ∃ b, e = .returned (.map (some b)) ∧ Tab w' b t ∧ W.heap.size ≤ b ∧ Ext W w') := fun W hW => clashes_calls _ t W (hT.out.ext (hE2.out.trans hW)) hv.out
   have hmk := run_make_ints t.length (by omega)
   have hs0 := World.block_lt_of_cell? _ _ e0
   have hs1 := World.block_lt_of_cell? _ _ e1
   have hst0 := hE2.out.size
   go_upto_region 6 with (fail)
   refine wp_region_inv (fun A L a W => ∃ v22 v23 v24 v25 v26 v7 v8, a = ((((((A.put (some 22) v22).put (some 23) v23).put (some 24) v24).put (some 25) v25).put (some 26) v26).put (some 7) v7).put (some 8) v8 ∧ OrdI w2 t (.slice ta t.length tc) (.slice pa t.length pc) L v22 v23 v24 v25 v26 v7 v8 W) (by kernel_rfl) (by kernel_rfl) ?_ ?_ ?_
   ·exact ⟨undef, undef, undef, undef, undef, undef, undef, (by simp only [Act.put, putA, putB, putC]), ⟨(Ext.refl _).drew, (fun q => by cases q), (fun q => by cases q), (fun q => by cases q), (fun q => by cases q), (fun q => by cases q), (fun q => by cases q), (fun q => by cases q), (fun q => by cases q), (fun q => by cases q)⟩⟩
   ·refine ⟨⟨rfl, ?_⟩, ⟨rfl, ?_⟩, ⟨rfl, ?_⟩, ⟨rfl, ?_⟩, ⟨rfl, ?_⟩, ⟨rfl, ?_⟩, ⟨rfl, ?_⟩, ⟨rfl, ?_⟩, ⟨rfl, ?_⟩, trivial⟩
    ·rintro L _ W ⟨v22, v23, v24, v25, v26, v7, v8, rfl, hI⟩ hL hd K hK
     simp only [Act.put, putA, putB, putC]
     have c0 := hI.ext.cell e0
     go_simp
     refine hK _ _ ⟨_, v23, v24, v25, v26, v7, v8, (by simp only [Act.put, putA, putB, putC]), ⟨hI.ext, fun _ => rfl, hI.f1, hI.f2, hI.f3, hI.f4, hI.f5, hI.f6, hI.d7, hI.d8⟩⟩
    ·rintro L _ W ⟨v22, v23, v24, v25, v26, v7, v8, rfl, hI⟩ hL hd K hK
     simp only [Act.put, putA, putB, putC]
     obtain rfl := hI.f0 (by simpa [Region.binds] using hd)
     go_simp
     refine (hcl.out W hI.ext).mono ?_
     rintro e w3 ⟨b, rfl, ht, _, hx⟩
     have h2 := hI.toExt hx
     refine hK _ _ ⟨_, .map (some b), v24, v25, v26, v7, v8, (by simp only [Act.put, putA, putB, putC]), ⟨h2.ext, h2.f0, fun _ => ⟨b, rfl, ht⟩, h2.f2, h2.f3, h2.f4, fun q => let ⟨g, u, x, y, z, _⟩ := h2.f5 q; ⟨g, u, x, y, z, fun r => by have := (h2.d7 r).1; rw [hL] at this; cases this⟩, h2.f6, fun q => ⟨rfl, (h2.d7 q).2⟩, h2.d8⟩⟩
    ·rintro L _ W ⟨v22, v23, v24, v25, v26, v7, v8, rfl, hI⟩ hL hd K hK
     simp only [Act.put, putA, putB, putC]
     have c0 := hI.ext.cell e1
     go_simp
     refine hK _ _ ⟨v22, v23, _, v25, v26, v7, v8, (by simp only [Act.put, putA, putB, putC]), ⟨hI.ext, hI.f0, hI.f1, fun _ => rfl, hI.f3, hI.f4, hI.f5, hI.f6, hI.d7, hI.d8⟩⟩
    ·rintro L _ W ⟨v22, v23, v24, v25, v26, v7, v8, rfl, hI⟩ hL hd K hK
     simp only [Act.put, putA, putB, putC]
     obtain rfl := hI.f2 (by simpa [Region.binds] using hd)
     go_simp
     refine hK _ _ ⟨v22, v23, _, _, v26, v7, v8, (by simp only [Act.put, putA, putB, putC]), ⟨hI.ext, hI.f0, hI.f1, fun _ => rfl, fun _ => rfl, hI.f4, hI.f5, hI.f6, hI.d7, hI.d8⟩⟩
    ·rintro L _ W ⟨v22, v23, v24, v25, v26, v7, v8, rfl, hI⟩ hL hd K hK
     simp only [Act.put, putA, putB, putC]
     obtain rfl := hI.f3 (by simpa [Region.binds] using hd)
     go_simp
     have h2 := hI.toExt ((Ext.refl W).alloc (.cells (zerosV t.length) 3))
     refine hK _ _ ⟨v22, v23, v24, _, _, v7, v8, (by simp only [Act.put, putA, putB, putC]), ⟨h2.ext, h2.f0, h2.f1, h2.f2, fun _ => rfl, fun _ => ⟨_, rfl, hI.ext.size, blk_new' rfl rfl⟩, h2.f5, fun q => let ⟨g, u, x, y, z, _⟩ := h2.f6 q; ⟨g, u, x, y, z, fun r => by have := (h2.d8 r).1; rw [hL] at this; cases this⟩, h2.d7, fun q => ⟨rfl, (h2.d8 q).2⟩⟩⟩
    ·rintro L _ W ⟨v22, v23, v24, v25, v26, v7, v8, rfl, hI⟩ hL hd K hK
     simp only [Act.put, putA, putB, putC]
     go_simp
     have h2 := hI.toExt ((Ext.refl W).alloc (.cells #[.map none] 95))
     refine hK _ _ ⟨v22, v23, v24, v25, v26, _, v8, (by simp only [Act.put, putA, putB, putC]), ⟨h2.ext, h2.f0, h2.f1, h2.f2, h2.f3, h2.f4, fun _ => ⟨_, _, rfl, hI.ext.size, blk_new' rfl rfl, fun r => by have := (h2.d7 r).2; rw [hL] at this; cases this⟩, h2.f6, fun q => ⟨(h2.d7 q).1, rfl⟩, h2.d8⟩⟩
    ·rintro L _ W ⟨v22, v23, v24, v25, v26, v7, v8, rfl, hI⟩ hL hd K hK
     simp only [Act.put, putA, putB, putC]
     go_simp
     have h2 := hI.toExt ((Ext.refl W).alloc (.cells #[.slice none 0 0] 31))
     refine hK _ _ ⟨v22, v23, v24, v25, v26, v7, _, (by simp only [Act.put, putA, putB, putC]), ⟨h2.ext, h2.f0, h2.f1, h2.f2, h2.f3, h2.f4, h2.f5, fun _ => ⟨_, _, rfl, hI.ext.size, blk_new' rfl rfl, fun r => by have := (h2.d8 r).2; rw [hL] at this; cases this⟩, h2.d7, fun q => ⟨(h2.d8 q).1, rfl⟩⟩⟩
    ·rintro L _ W ⟨v22, v23, v24, v25, v26, v7, v8, rfl, hI⟩ hL hd K hK
     simp only [Act.put, putA, putB, putC]
     simp [Region.binds] at hd
     obtain ⟨b, rfl, ht⟩ := hI.f1 (by simp [hd])
     obtain ⟨g, u, rfl, hg, hB, _⟩ := hI.f5 (by simp [hd])
     have c0 : W.cell? ⟨g, 0, none⟩ = some u := hB.cell 0
     have m0 := hB.frozen 0
     have lg := hB.lt
     have kp : Keep (fun x => x = g) W (W.setCell ⟨g, 0, none⟩ (.map (some b))) := keep_set W g 0 _
     go_simp
     refine hK _ _ ⟨v22, _, v24, v25, v26, _, v8, (by simp only [Act.put, putA, putB, putC]), ⟨hI.ext.setCell (p := ⟨g, 0, none⟩) hg _, hI.f0, fun _ => ⟨b, rfl, ht.keep kp (ht.ne hB)⟩, hI.f2, hI.f3, fun q => let ⟨g2, x, y, z⟩ := hI.f4 q; ⟨g2, x, y, kp.blk z (Blk.ne_ z hB (by decide))⟩, fun _ => ⟨g, _, rfl, hg, hB.set_ 0 _, fun _ => rfl⟩,
      fun q => let ⟨g2, u2, x, y, z, r⟩ := hI.f6 q; ⟨g2, u2, x, y, kp.blk z (Blk.ne_ z hB (by decide)), r⟩, fun _ => ⟨by simp [upL, hd], by simp [upL, hd]⟩, hI.d8⟩⟩
    ·rintro L _ W ⟨v22, v23, v24, v25, v26, v7, v8, rfl, hI⟩ hL hd K hK
     simp only [Act.put, putA, putB, putC]
     simp [Region.binds] at hd
     obtain ⟨g4, rfl, hg4, hB4⟩ := hI.f4 (by simp [hd])
     obtain ⟨g, u, rfl, hg, hB, _⟩ := hI.f6 (by simp [hd])
     have c0 : W.cell? ⟨g, 0, none⟩ = some u := hB.cell 0
     have m0 := hB.frozen 0
     have lg := hB.lt
     have kp : Keep (fun x => x = g) W (W.setCell ⟨g, 0, none⟩ (.slice (some ⟨g4, 0, none⟩) t.length t.length)) := keep_set W g 0 _
     go_simp
     refine hK _ _ ⟨v22, v23, v24, v25, _, v7, _, (by simp only [Act.put, putA, putB, putC]), ⟨hI.ext.setCell (p := ⟨g, 0, none⟩) hg _, hI.f0, fun q => let ⟨b, x, y⟩ := hI.f1 q; ⟨b, x, y.keep kp (y.ne hB)⟩, hI.f2, hI.f3, fun _ => ⟨g4, rfl, hg4, kp.blk hB4 (Blk.ne_ hB4 hB (by decide))⟩,
      fun q => let ⟨g2, u2, x, y, z, r⟩ := hI.f5 q; ⟨g2, u2, x, y, kp.blk z (Blk.ne_ z hB (by decide)), r⟩, fun _ => ⟨g, _, rfl, hg, hB.set_ 0 _, fun _ => rfl⟩, hI.d7, fun _ => ⟨by simp [upL, hd], by simp [upL, hd]⟩⟩⟩
   ·rintro L _ W ⟨v22, v23, v24, v25, v26, v7, v8, rfl, hI⟩ hL
    simp only [Act.put, putA, putB, putC]
    obtain rfl := hI.f0 (hL 0 (by decide))
    obtain ⟨b, rfl, ht⟩ := hI.f1 (hL 1 (by decide))
    obtain rfl := hI.f2 (hL 2 (by decide))
    obtain rfl := hI.f3 (hL 3 (by decide))
    obtain ⟨g4, rfl, hg4, hB4⟩ := hI.f4 (hL 4 (by decide))
    obtain ⟨g5, _, rfl, hg5, hB5, r5⟩ := hI.f5 (hL 5 (by decide))
    obtain ⟨g6, _, rfl, hg6, hB6, r6⟩ := hI.f6 (hL 6 (by decide))
    obtain rfl := r5 (hL 7 (by decide))
    obtain rfl := r6 (hL 8 (by decide))
    have hM0 : Hid (OrdM w g4 g5 g6 b (.slice pa pick.length pc) t W (.slice none 0 0) [] (zeros t.length)) := by
     refine Lib.hid ⟨hE2.out.trans hI.ext, by omega, ?_, hB5, hB6, (Keep.of_ext (X := fun _ => False) hI.ext).blk hP2.out id, ht, StepsO.nil _ _⟩
     have e : zerosV t.length = ((zeros t.length).map (Value.int .i64)).toArray := by simp [zerosV, zerosL, zeros]
     rw [e] at hB4
     exact hB4
    clear hI hL ht hB4 hB5 hB6 r5 r6 hg5 hg6 e0 e1 hs0 hs1 hcl hmk
    have hW0 := Lib.hid (Way.begin hlw.out)
    have hpath0 : Hid (orderL t pick = [] ++ ordF t pick (left pick (zeros t.length)) (zeros t.length)) := rfl
    skip
    go_wp2_with fail
    go_loopw [9] (fun vo wr => ∃ (m : Nat) (A : Option Addr) (C : Nat) (out : List StepD) (st : List Int), vo = .slice A m C ∧ Hid (m = out.length) ∧ m ≤ 1024 ∧ Hid (OrdM w g4 g5 g6 b (.slice pa pick.length pc) t wr (.slice A m C) out st) ∧ Hid (Way t pick st) ∧ Hid (orderL t pick = out ++ ordF t pick (left pick st) st)) (fun vo _ => 1025 - sliceLen vo)
    case atStart => exact ⟨0, none, 0, [], zeros t.length, rfl, rfl, by omega, hM0, hW0, hpath0⟩
    case round =>
     clear hM0 hW0 hpath0
     obtain ⟨m, A, C, out, st, rfl, hm, hm1, hM, hWay, hpath⟩ := hrel
     have hsl := Lib.hid hWay.out.len
     have hcan : Hid (∀ i, i < st.length → ∀ W, Ext wr W → Calls Tryz.prog 32 #[.int .i64 i, .pointer (some ⟨g6, 0, none⟩), .pointer (some ⟨w.heap.size + 1, 0, none⟩), .pointer (some ⟨g5, 0, none⟩)] W fun e w' => e = .returned (.bool (canB t pick st i)) ∧ Ext W w') := fun i hi W hW => by
      have h := hM.out.toExt hW
      exact can_calls g6 (w.heap.size + 1) g5 g4 b t.length _ t pick st i W (h.sb.cell 0) hsl.out.symm h.state (h.pb.cell 0) (hP.out.ext h.ext) (h.cb.cell 0) h.tab (lawful_inRange hlw.out) hWay.out.range (hpl.out.trans hsl.out.symm) hi (by rw [hsl.out]; exact hb2)
     have hsv : Hid (Ints wr (.slice (some ⟨g4, 0, none⟩) t.length t.length) st) := by
      have := hM.out.state.read (by rw [hsl.out]; unfold maxLen; omega)
      rw [hsl.out] at this
      exact this
     have hnx := Lib.hid (next_calls _ _ 32 _ _ _ (fun _ _ => by kernel_rfl) t pick st wr hsv.out (hP.out.ext hM.out.ext) (hpl.out.trans hsl.out.symm) hcan.out)
     have c6 : wr.cell? ⟨g6, 0, none⟩ = some (.slice (some ⟨g4, 0, none⟩) t.length t.length) := hM.out.sb.cell 0
     have cp : wr.cell? ⟨w.heap.size + 1, 0, none⟩ = some (.slice pa pick.length pc) := hM.out.pb.cell 0
     clear hcan hsv
     cases hgo : goS t pick st with
     | none =>
      have R2 : Hid (orderL t pick = out) := by show _ = _; rw [hpath.out, ord_end hgo, List.append_nil]
      rw [hgo] at hnx
      clear hgo hpath
      go_wp2_with fail
      refine hnx.out.mono ?_
      rintro e w3 ⟨rfl, hx3⟩
      have hM3 := Lib.hid (hM.out.toExt hx3)
      clear hx3 hM hnx
      go_wp2
      go_ret2
      rw [R.out, R2.out]
      exact ⟨_, rfl, (hM3.out.toExt ((Ext.refl _).alloc _)).own, (hM3.out.ext.alloc _)⟩
     | some s =>
      obtain ⟨hw2, _, _, i, hi, hs, _⟩ := hWay.out.step hgo
      obtain ⟨x, y⟩ := s
      dsimp only at hs
      subst hs
      have hnext : Hid (ordF t pick (left pick st) st = ((i : Int), y) :: ordF t pick (left pick (stepS st ((i : Int), y))) (stepS st ((i : Int), y))) := ord_next hWay.out hgo
      have hst2 : Hid (stepS st ((i : Int), y) = st.set i y) := by show _ = _; simp [stepS]
      have hmlt : m + 1 ≤ 1024 := by
       have := congrArg List.length hpath.out
       rw [hnext.out, List.length_append, List.length_cons, ← hm.out] at this
       omega
      have hpath2 : Hid (orderL t pick = (out ++ [((i : Int), y)]) ++ ordF t pick (left pick (st.set i y)) (st.set i y)) := by
       show _ = _
       rw [hpath.out, hnext.out, hst2.out]
       simp
      have hway2 : Hid (Way t pick (st.set i y)) := by rw [← hst2.out]; exact hw2
      rw [hgo] at hnx
      clear hgo hpath hnext hst2 hw2 hWay
      go_wp2_with fail
      refine hnx.out.mono ?_
      rintro e w3 ⟨rfl, hx3⟩
      have hM3 := Lib.hid (hM.out.toExt hx3)
      clear hx3 hM hnx c6 cp
      go_upto_region 12 with (fail)
      refine wp_abs (S := fun V => Hid (OrdM w g4 g5 g6 b (.slice pa pick.length pc) t V (.slice A m C) out st) ∧ V.cell? ⟨w3.heap.size, 0, none⟩ = some (.int .i64 i) ∧ V.cell? ⟨w3.heap.size, 1, none⟩ = some (.int .i64 y)) ?_ ?_
      ·exact ⟨Lib.hid (hM3.out.toExt (by with_reducible repeat' (first | exact Ext.refl _ | assumption | refine Ext.drewN ?_ _ | refine Ext.drew ?_ | refine Ext.alloc ?_ _ | refine Ext.trans ?_ (by with_reducible assumption)))), by simp [nextV], by simp [nextV]⟩
      rintro V ⟨hV, k0, k1⟩
      have h4 := hM3.out.state.lt
      clear hM3
      have c6 : V.cell? ⟨g6, 0, none⟩ = some (.slice (some ⟨g4, 0, none⟩) t.length t.length) := hV.out.sb.cell 0
      have m1 := hV.out.state.cell (i := i) (by rw [hsl.out]; exact hi)
      have m2 := hV.out.state.frozen i
      have lg4 := hV.out.state.lt
      go_upto_region 13 with (fail)
      refine wp_abs (S := fun V => Hid (OrdM w g4 g5 g6 b (.slice pa pick.length pc) t V (.slice A m C) out (st.set i y)) ∧ V.cell? ⟨w3.heap.size, 0, none⟩ = some (.int .i64 i) ∧ V.cell? ⟨w3.heap.size, 1, none⟩ = some (.int .i64 y)) ?_ ?_
      ·have k := keep_set V g4 i (.int .i64 y)
       exact ⟨Lib.hid (hV.out.setSt i y), k.cell k0 (by dsimp only; omega), k.cell k1 (by dsimp only; omega)⟩
      clear hV k0 k1 c6 m1 m2 lg4 h4
      rintro V2 ⟨hV, k0, k1⟩
      have hs2 := hV.out.ext.size
      have hown := Lib.hid hV.out.own
      have hown' : Hid (V2.ownsRow w.heap.size 101 2 (.slice A m C) m (spanCells out)) := by have := hown.out; unfold StepsO at this; rw [← hm.out] at this; exact this
      clear hown hsl
      go_wp2_with (at_builtin; refine wpList_append_any _ rfl (.tmp 44) (.tmp 46) _ rfl w.heap.size 101 j0 _ 2 16 Tryz.underlying39 hj0 jz0 jz1 jz2 rfl (by decide) (.slice A m C) m (spanCells out) rfl (hown'.out.alloc _) (V2.heap.size + 1) (some ⟨V2.heap.size, 0, none⟩) 1 1 [.int .i64 (i : Int), .int .i64 y] rfl (reads_last _ #[_, _] _ 2 1 _ _ rfl (by omega) rfl) (two_ints _ _) (by unfold maxLen; omega) (by omega) (by rw [World.size_alloc]; omega) ?_; intro v5 w5 hown5 hg5 hat5; obtain ⟨A5, C5, rfl⟩ := owns_form hown5)
      have hM5 : Hid (OrdM w g4 g5 g6 b (.slice pa pick.length pc) t w5 (.slice A5 (m + 1) C5) (out ++ [((i : Int), y)]) (st.set i y)) := by
       rw [hm.out] at hown5
       have := (hV.out.toExt ((Ext.refl V2).alloc (.cells #[.int .i64 (i : Int), .int .i64 y] 101))).push (s := ((i : Int), y)) hown5 hg5
       rw [← hm.out] at this
       exact this
      have hm5 : Hid (m + 1 = (out ++ [((i : Int), y)]).length) := by show _ = _; rw [List.length_append, ← hm.out]; rfl
      clear hown5 hg5 hat5 hV hown' hm k0 k1
      go_wp2
      go_roundw
      case rel => exact ⟨m + 1, A5, C5, _, _, rfl, hm5, hmlt, hM5, hway2, hpath2⟩
      case measure => simp [sliceLen]; omega
 ·have hz0 : (z != 0) = true := by simp [h0]
  have R : Hid (orderS t pick = ([], z)) := by show _ = _; unfold orderS; rw [hz.out, if_neg h0]
  clear hz h0
  go_wp2
  go_ret2
  rw [R.out]
  exact ⟨_, rfl, StepsO.nil _ _, hE1.out⟩
end Go.Proofs.YtgolicoalldidaaGreat
namespace Go.Proofs.YtgolicoalldidaaGreat
open Go.RowKit Go.Shelf
theorem grown_set (w : World) (p : Addr) (v : Value) : w.grownBy (w.setCell p v) (some p.block) := by
 refine ⟨rfl, rfl, rfl, ?_, fun i _ hi => Below.heap_setCell w p v i (fun e => hi (by rw [e]))⟩
 show w.heap.size ≤ (w.heap.modify _ _).size
 rw [Array.size_modify]; exact Nat.le_refl _
def stAt (t : List WishD) (l : List StepD) (i : Nat) : List Int := afterS (zeros t.length) (l.take i)
theorem stAt_len (t : List WishD) (l : List StepD) (i : Nat) : (stAt t l i).length = t.length := by simp [stAt, afterS_len, zeros]
set_option maxRecDepth 100000 in
theorem walk1_in (n : Nat) (hn : 1 ≤ n) (l bt bs : Nat) (ta sa : Option Addr) (tc sc : Nat) (t : List WishD) (steps : List StepD) (u W : World) (hu : Ext u W)
  (hbt : W.cell? ⟨bt, 0, none⟩ = some (.slice ta t.length tc)) (hbs : W.cell? ⟨bs, 0, none⟩ = some (.slice sa steps.length sc)) (hS : Spans u (.slice sa steps.length sc) steps)
  (hok : steps.all (stepOkB t) = true) (h512 : t.length ≤ 512) (J : Nat → World → Prop) (Jx : World → Prop)
  (hJ : ∀ i A B row, J i A → A.grownBy B row → (row = none ∨ row = some W.heap.size) → J i B) (h00 : J 0 W)
  (hY : ∀ i W1, i ≤ steps.length → J i W1 → Ext u W1 → W1.cell? ⟨bs, 0, none⟩ = some (.slice sa steps.length sc) → St W1 W.heap.size (stAt t steps i) →
   YieldAt Fence.wide (n - 1) Tryz.prog l #[.slice (some ⟨W.heap.size, 0, none⟩) t.length t.length] W1 fun e W' =>
    (e = .returned (.bool true) ∧ J (i + 1) W' ∧ Ext u W' ∧ W'.cell? ⟨bs, 0, none⟩ = some (.slice sa steps.length sc) ∧ St W' W.heap.size (stAt t steps i)) ∨ (e = .returned (.bool false) ∧ Jx W')) :
  CallsIn Fence.wide n Tryz.prog 64 #[.func (.yield l) #[] #[], .pointer (some ⟨bt, 0, none⟩), .pointer (some ⟨bs, 0, none⟩)] W fun e W' => (∃ v, e = .returned v) ∧ (J (steps.length + 1) W' ∨ Jx W') := by
 have hmk := run_make_ints t.length (by omega)
 have hok' := Lib.hid hok
 have hus := hu.size
 have hbl := World.block_lt_of_cell? _ _ hbs
 obtain ⟨_, _, e0, hsn, hsc, sat⟩ := hS.open
 cases e0
 have sat' := Lib.hid sat
 have hY' := Lib.hid hY
 have hJ' := Lib.hid hJ
 have hst0 : Hid (St (W.alloc (.cells (zerosV t.length) 3)) W.heap.size (stAt t steps 0)) := Lib.hid (by have := St.new W t.length; simpa [stAt, afterS] using this)
 obtain ⟨fn, tmps, assign, body, hy, hR⟩ := hY 0 (W.alloc (.cells (zerosV t.length) 3)) (by omega) (hJ 0 W _ none h00 (World.grownBy_alloc W _ none) (Or.inl rfl)) (hu.alloc _) (((Ext.refl W).alloc _).cell hbs) hst0.out
 have hR' := Lib.hid hR
 clear hR hY hJ hS sat hok hst0
 refine callsIn_of_wp Tryz.func64 rfl trivial ?_ rfl
 simp only [Tryz.ntmps64, List.size_toArray, List.length_cons, List.length_nil, Nat.reduceAdd, Nat.reduceSub, Array.replicate_succ, Array.replicate_zero, List.push_toArray, List.append_toArray, List.nil_append, List.cons_append]
 gi_wp2
 refine hR'.out.mono ?_
 rintro e W1 (⟨rfl, hJ1, hx1, c1, hS1⟩ | ⟨rfl, hJx⟩)
 ·have hJ1' := Lib.hid hJ1
  have c1' := Lib.hid c1
  have hx1' := Lib.hid hx1
  have hS1' := Lib.hid hS1
  clear hJ1 hx1 hS1 hy hR'
  gi_wp2
  gi_loopw [17] (fun vi wr => ∃ i : Nat, i ≤ steps.length ∧ vi = .int .i64 i ∧ Hid (Ext u wr) ∧ Hid (wr.cell? ⟨bs, 0, none⟩ = some (.slice sa steps.length sc)) ∧ Hid (St wr W.heap.size (stAt t steps i)) ∧ Hid (J (i + 1) wr)) (fun vi _ => steps.length - (intOf vi).toNat)
  case atStart => exact ⟨0, by omega, rfl, hx1', c1', hS1', hJ1'⟩
  case round =>
   clear hJ1' hx1' hS1' c1 c1'
   obtain ⟨i, hi, rfl, hx, hcb, hSt, hJi⟩ := hrel
   by_cases h1 : i < steps.length
   ·obtain ⟨b1, o1, x, y, rfl, hb3, dx, ex, g1, g2⟩ := sat'.out i h1 wr hx.out
    obtain ⟨m, hm, hmt⟩ := stepOk_idx (all_at hok'.out ex.out)
    dsimp only at hm
    subst hm
    have hsl := stAt_len t steps i
    have hnext : Hid (stAt t steps (i + 1) = (stAt t steps i).set m y) := by
     show _ = _
     unfold stAt
     rw [take_step ex.out, afterS_snoc]
     simp [stepS]
    have hlt := hSt.out.lt
    have m1 := hSt.out.cell (i := m) (by omega)
    have m2 := hSt.out.frozen m
    have hg1 : wr.grownBy (wr.setCell ⟨W.heap.size, m, none⟩ (.int .i64 y)) (some W.heap.size) := grown_set wr _ _
    have hJ2 := hJ'.out (i + 1) _ _ _ (hJ'.out (i + 1) _ _ _ hJi.out hg1 (Or.inr rfl)) (World.grownBy_alloc (wr.setCell ⟨W.heap.size, m, none⟩ (.int .i64 y)) (.cells #[.int .i64 m, .int .i64 y] 101) none) (Or.inl rfl)
    have hx2 : Ext u ((wr.setCell ⟨W.heap.size, m, none⟩ (.int .i64 y)).alloc (.cells #[.int .i64 m, .int .i64 y] 101)) := (hx.out.setCell (p := ⟨W.heap.size, m, none⟩) hus _).alloc _
    have hcb2 : ((wr.setCell ⟨W.heap.size, m, none⟩ (.int .i64 y)).alloc (.cells #[.int .i64 m, .int .i64 y] 101)).cell? ⟨bs, 0, none⟩ = some (.slice (some ⟨b1, o1, none⟩) steps.length sc) := ((Ext.refl _).alloc _).cell ((keep_set wr W.heap.size m (.int .i64 y)).cell hcb.out (by dsimp only; omega))
    have hS2 : St ((wr.setCell ⟨W.heap.size, m, none⟩ (.int .i64 y)).alloc (.cells #[.int .i64 m, .int .i64 y] 101)) W.heap.size (stAt t steps (i + 1)) := by
     rw [hnext.out]
     exact (hSt.out.set_ m y).ext ((Ext.refl _).alloc _)
    obtain ⟨fn, tmps, assign, body, hy, hR⟩ := hY'.out (i + 1) _ (by omega) hJ2 hx2 hcb2 hS2
    have hR' := Lib.hid hR
    clear hR hJ2 hx2 hcb2 hcb hS2 hg1 hnext hJi hSt
    gi_wp2
    refine hR'.out.mono ?_
    rintro e W3 (⟨rfl, hJ3, hx3, c3, hS3⟩ | ⟨rfl, hJx⟩)
    ·have hJ3' := Lib.hid hJ3
     have c3' := Lib.hid c3
     have hx3' := Lib.hid hx3
     have hS3' := Lib.hid hS3
     clear hJ3 hx3 c3 hS3 hy hR'
     gi_wp2
     go_roundw
     case rel => first | exact ⟨i + 1, by omega, by go_num, hx3', c3', hS3', hJ3'⟩ | ((repeat apply Exists.intro); exact ⟨⟨i + 1, by omega, by go_num, hx3', c3', hS3', hJ3'⟩, rfl⟩)
     case measure => simp [intOf]; omega
    ·gi_wp2
     refine bodyPost_ret (results_none rfl _ _ _) rfl ?_
     exact ⟨⟨_, rfl⟩, .inr hJx⟩
   ·have hfin : Hid (J (steps.length + 1) wr) := by have := hJi.out; rwa [show i = steps.length by omega] at this
    gi_wp2
    go_end0
    exact ⟨⟨_, rfl⟩, .inl hfin.out⟩
 ·gi_wp2
  refine bodyPost_ret (results_none rfl _ _ _) rfl ?_
  exact ⟨⟨_, rfl⟩, .inr hJx⟩
end Go.Proofs.YtgolicoalldidaaGreat
