/- Walks of the reference of spans: bounds. -/
import Derived.Test.YtjglidlmpjmjeaaGreatDoorRD
namespace Go.Proofs.YtjglidlmpjmjeaaGreatDoor
open Go.RowKit

theorem Spans.reads {w : World} {a : Option Addr} {n c : Nat} {l : List (Int × Int)} (h : Spans w (.slice a n c) l) : Reads w w.heap.size 2 a n (spanCells l) := by
 obtain ⟨_, _, e, _, _, h⟩ := h
 cases e
 have hlen : ∀ l : List (Int × Int), (spanCells l).length = l.length * 2 := by
  intro l
  induction l with
  | nil => rfl
  | cons x r ih => rw [spanCells, List.flatMap_cons, List.length_append]; show 2 + (spanCells r).length = _; rw [ih, List.length_cons]; omega
 refine ⟨hlen l, fun h0 => ?_⟩
 obtain ⟨b, off, rfl, hb, hc⟩ := h h0
 refine ⟨_, rfl, hb, fun j u hu => ?_⟩
 have hj : j < l.length * 2 := by have := (List.getElem?_eq_some_iff.1 hu).1; rwa [hlen] at this
 have hi : j / 2 < l.length := by omega
 have hs := spanCells_at (j / 2) l[j / 2] (List.getElem?_eq_getElem hi)
 have e : (⟨b, off, none⟩ : Addr).add j = ⟨b, off + j, none⟩ := by unfold Addr.add; split <;> simp_all
 rw [e]
 rcases Nat.mod_two_eq_zero_or_one j with h2 | h2
 ·have := hc (j / 2) hi 0 (by omega)
  rw [show off + j / 2 * 2 + 0 = off + j by omega] at this
  rw [this]
  have hs1 := hs.1
  rw [show j / 2 * 2 = j by omega, hu] at hs1
  rw [hs1]
  simp [hi]
 ·have := hc (j / 2) hi 1 (by omega)
  rw [show off + j / 2 * 2 + 1 = off + j by omega] at this
  rw [this]
  have hs1 := hs.2
  rw [show j / 2 * 2 + 1 = j by omega, hu] at hs1
  rw [hs1]
  simp [hi]
theorem span_one {l : List (Int × Int)} : ∀ u ∈ spanCells l, u.oneCell' = true := by
 intro u hu
 simp only [spanCells, List.mem_flatMap] at hu
 obtain ⟨s, _, hs⟩ := hu
 simp at hs
 rcases hs with rfl | rfl <;> rfl
def insAll (l : List (Int × Int)) : List Int := l.foldl (fun o s => insL (insL o s.1) s.2) []
theorem insAll_step {l : List (Int × Int)} {i : Nat} {x y : Int} (e : l[i]? = some (x, y)) : insAll (l.take (i + 1)) = insL (insL (insAll (l.take i)) x) y := by
 rw [List.take_add_one, e, insAll, List.foldl_append]; rfl
theorem insAll_len (l : List (Int × Int)) : (insAll l).length ≤ 2 * l.length := by
 suffices h : ∀ (l : List (Int × Int)) (o : List Int), (l.foldl (fun o s => insL (insL o s.1) s.2) o).length ≤ o.length + 2 * l.length by
  have := h l []; simpa [insAll] using this
 intro l
 induction l with
 | nil => intro o; simp
 | cons s r ih =>
  intro o
  rw [List.foldl_cons, List.length_cons]
  have h1 := ih (insL (insL o s.1) s.2)
  have h2 := insL_len (insL o s.1) s.2
  have h3 := insL_len o s.1
  omega
theorem spanCells_app (a b : List (Int × Int)) : spanCells (a ++ b) = spanCells a ++ spanCells b := by simp [spanCells]
theorem SpansO.keepInts {w w' : World} {B B' g n c : Nat} {v : Value} {l : List (Int × Int)} {o : List Int} (h : SpansO w B v l) (hO : IntsO w B' (.slice (some ⟨g, 0, none⟩) n c) o) (k : Keep (fun k => k = g) w w') : SpansO w' B v l :=
 h.keepT k (T := 3) (by rintro _ rfl _; exact owns_block hO rfl) (by decide)
theorem Ext.keepInts {w0 w w' : World} {g n c : Nat} {o : List Int} (h : Ext w0 w) (hO : IntsO w w0.heap.size (.slice (some ⟨g, 0, none⟩) n c) o) (k : Keep (fun k => k = g) w w') : Ext w0 w' :=
 h.keep k fun i hi e => by have := (World.ownsRow.lt hO g rfl).1; omega
theorem spans_app {w : World} {B : Nat} {v : Value} {a b : List (Int × Int)} (h : w.ownsRow B 84 2 v (a.length + b.length) (spanCells a ++ spanCells b)) : SpansO w B v (a ++ b) := by
 unfold SpansO
 rw [List.length_append, spanCells_app]
 exact h
theorem ints_kept {w w' : World} {B B' g n m c : Nat} {v : Value} {o : List Int} {xs : List Value} (h : IntsO w B (.slice (some ⟨g, 0, none⟩) n c) o) (hr : w.ownsRow B' 84 2 v m xs) (hg : w.grownBy w' v.ownBlock) : IntsO w' B (.slice (some ⟨g, 0, none⟩) n c) o := by
 obtain ⟨cs, hcs⟩ := owns_block (h : w.ownsRow _ _ _ _ _ _) (g := g) rfl
 refine World.ownsRow.kept h hg (Or.inr fun e => own_blk_ne hr hcs (by decide) e.symm)
set_option maxHeartbeats 3200000 in
set_option maxRecDepth 100000 in
theorem rBounds_calls (va vb : Value) (a b : List (Int × Int)) (w : World) (ha : Spans w va a) (hb : Spans w vb b) (hla : a.length ≤ 64) (hlb : b.length ≤ 64) :
  Calls Tryz.prog 104 #[va, vb] w fun e w' =>
   ∃ g c, e = .returned (.slice (some ⟨g, 0, none⟩) (insAll (a ++ b)).length c) ∧ IntsO w' w.heap.size (.slice (some ⟨g, 0, none⟩) (insAll (a ++ b)).length c) (insAll (a ++ b)) ∧ Ext w w' := by
 obtain ⟨aa, ac, rfl, han, hac, _⟩ := ha.open
 obtain ⟨ba, bc, rfl, hbn, hbc, _⟩ := hb.open
 have ra := Lib.hid ha.reads
 have rb := Lib.hid hb.reads
 have oa := Lib.hid (span_one (l := a))
 have ob := Lib.hid (span_one (l := b))
 obtain ⟨j0, hj0, jz0, jz1, jz2⟩ := info_parts span_info
 clear ha hb
 go_enter Tryz.func104, Tryz.ntmps104
 go_wp2_with (at_builtin; first | (refine wpList_append_any _ rfl (.tmp 9) (.tmp 10) _ rfl w.heap.size 84 j0 _ 2 16 Tryz.underlying53 hj0 jz0 jz1 jz2 rfl (by decide) (.slice (some ⟨w.heap.size + 1, 0, none⟩) 0 0) 0 [] rfl (by have := World.ownsRow_made (base := w.heap.size) (e := 84) (size := 2) (w.alloc (.cells #[] 3)) #[] 0 (by rw [World.size_alloc]; omega) (by unfold maxLen; omega) rfl; rw [World.size_alloc] at this; exact this) w.heap.size aa a.length ac _ rfl ((ra.out.alloc (Nat.le_refl _) _).alloc (by rw [World.size_alloc]; omega) _) oa.out (by unfold maxLen; omega) (by omega) (by rw [World.size_alloc, World.size_alloc]; omega) ?_; intro v1 w1 hown1 hg1 hat1; rw [Nat.zero_add, List.nil_append] at hown1; obtain ⟨A1, C1, rfl⟩ := owns_form hown1; have hE1 := Lib.hid ((((Ext.refl w).alloc (.cells #[] 3)).alloc (.cells #[] 84)).grown hg1 (by intro k hk; simp [Value.ownBlock] at hk; omega)); have hO1 : Hid (IntsO w1 w.heap.size (.slice (some ⟨w.heap.size, 0, none⟩) 0 0) []) := Lib.hid (World.ownsRow.kept ((World.ownsRow_made (e := 3) (size := 1) w #[] 0 (Nat.le_refl _) (by unfold maxLen; omega) rfl).alloc _) hg1 (by right; simp [Value.ownBlock])); have hr1 := Lib.hid hown1; have rb1 := Lib.hid (rb.out.below hE1.out); have hsz1 := hE1.out.size; clear hown1 hg1 hat1) | (refine wpList_append_any _ rfl (.tmp 12) (.tmp 13) _ rfl w.heap.size 84 j0 _ 2 16 Tryz.underlying53 hj0 jz0 jz1 jz2 rfl (by decide) (.slice A1 a.length C1) a.length _ rfl hr1.out w.heap.size ba b.length bc _ rfl rb1.out ob.out (by unfold maxLen; omega) (by omega) hsz1 ?_; intro v2 w2 hown2 hg2 hat2; obtain ⟨A2, C2, rfl⟩ := owns_form hown2; have hE2 := Lib.hid (hE1.out.grown hg2 (fun k e => (hr1.out.lt k e).1)); have hr2 : Hid (SpansO w2 w.heap.size (.slice A2 (a.length + b.length) C2) (a ++ b)) := Lib.hid (spans_app hown2); have hO2 := Lib.hid (ints_kept hO1.out hr1.out hg2); clear hown2 hg2 hat2))
 have hL : (a ++ b).length = a.length + b.length := List.length_append
 go_loopw [5, 7] (fun vo vi wr => ∃ (i g c : Nat) (o : List Int), i ≤ a.length + b.length ∧ vi = .int .i64 i ∧ vo = .slice (some ⟨g, 0, none⟩) o.length c ∧ Hid (o = insAll ((a ++ b).take i)) ∧ Hid (Ext w wr) ∧ Hid (IntsO wr w.heap.size (.slice (some ⟨g, 0, none⟩) o.length c) o) ∧ Hid (SpansO wr w.heap.size (.slice A2 (a.length + b.length) C2) (a ++ b))) (fun _ vi _ => a.length + b.length - (intOf vi).toNat)
 case atStart => exact ⟨0, w.heap.size, 0, [], by omega, rfl, rfl, rfl, hE2, hO2, hr2⟩
 case round =>
  clear hE1 hE2 hO1 hO2 hr1 hr2 rb1 ra rb oa ob
  obtain ⟨i, g, c, o, hi, rfl, rfl, ho, hx, hO, hS⟩ := hrel
  have hlen : o.length ≤ 2 * i := by have := insAll_len ((a ++ b).take i); rw [List.length_take] at this; rw [ho.out]; omega
  have hlen' := Lib.hid hlen
  have hsw := hx.out.size
  clear hlen
  by_cases h1 : i < a.length + b.length
  ·obtain ⟨A0, c0, e0, hn0, hc0, hat0⟩ := hS.out.read.open
   rw [hL] at e0 hn0
   cases e0
   obtain ⟨b1, p1, x, y, rfl, hb1, dx, ex, g1, _⟩ := hat0 i (by omega) wr (Ext.refl _)
   have hst := insAll_step ex.out
   rw [← ho.out] at hst
   obtain ⟨o1, ho1⟩ : ∃ o1, Hid (o1 = insL o x) := ⟨_, rfl⟩
   have hst' := Lib.hid hst
   have hlen1 : Hid (o1.length ≤ 2 * i + 1) := by show _ ≤ _; have := insL_len o x; have := hlen'.out; rw [ho1.out]; omega
   clear hat0 hst
   go_wp2_with fail
   refine (rInsert_calls w.heap.size g c o x _ hO.out hsw (by have := hlen'.out; omega)).mono ?_
   rintro e w3 ⟨g3, c3, rfl, hO3, hK3, hg3⟩
   rw [← ho1.out] at hO3 ⊢
   have hS3 := hS.out.keepInts hO.out hK3
   have hx3 := Lib.hid (hx.out.keepInts hO.out hK3)
   have hO3' := Lib.hid hO3
   obtain ⟨A4, c4, e4, hn4, hc4, hat4⟩ := hS3.read.open
   rw [hL] at e4 hn4
   cases e4
   obtain ⟨b5, p5, x5, y5, e5, hb5, dx5, ex5, _, g5⟩ := hat4 i (by omega) w3 (Ext.refl _)
   obtain ⟨rfl, rfl⟩ : x5 = x ∧ y5 = y := by have := ex5.out; rw [ex.out] at this; cases this; exact ⟨rfl, rfl⟩
   cases e5
   have hS3' := Lib.hid hS3
   have hs3 := hx3.out.size
   clear hat4 hS3 hO3 hS hO hx g1 hK3 hg3 hn4 hc4 dx5 ex5 hn0 hc0 dx ex
   go_wp2_with fail
   refine (rInsert_calls w.heap.size g3 c3 o1 y5 _ hO3'.out hs3 (by have := hlen1.out; omega)).mono ?_
   rintro e w4 ⟨g4, c4, rfl, hO4, hK4, hg4⟩
   rw [ho1.out, ← hst'.out] at hO4 ⊢
   have hS4 := Lib.hid (hS3'.out.keepInts hO3'.out hK4)
   have hx4 := Lib.hid (hx3.out.keepInts hO3'.out hK4)
   have hO4' := Lib.hid hO4
   obtain ⟨o2, ho2⟩ : ∃ o2, Hid (insAll ((a ++ b).take (i + 1)) = o2) := ⟨_, rfl⟩
   rw [ho2.out] at hO4' ⊢
   clear hO4 hK4 hg4 g5
   go_wp2
   go_roundw
   case rel => exact ⟨i + 1, g4, c4, o2, by omega, by go_num, rfl, ho2.out.symm, hx4, hO4', hS4⟩
   case measure => simp [intOf]; omega
  ·have R : Hid (o = insAll (a ++ b)) := by show _ = _; rw [ho.out, List.take_of_length_le (by omega)]
   clear ho hlen'
   go_wp2
   go_ret
   rw [← R.out]
   exact ⟨g, c, rfl, hO.out, hx.out⟩
end Go.Proofs.YtjglidlmpjmjeaaGreatDoor
