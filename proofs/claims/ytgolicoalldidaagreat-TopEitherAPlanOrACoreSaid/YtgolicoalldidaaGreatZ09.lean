import Derived.Test.YtgolicoalldidaaGreatZ08
import Derived.Deep.Cut
import Derived.Deep.RegionHeld3
import Derived.Deep.DrawnRows
set_option maxHeartbeats 12800000
namespace Go.Proofs.YtgolicoalldidaaGreat
open Go.RowKit
structure Oct where
 a : Int
 b : Int
 c : Int
 d : Int
def byteB (x : Int) : Prop := 0 ≤ x ∧ x ≤ 255
structure OctOk (x : Oct) : Prop where
 a : byteB x.a
 b : byteB x.b
 c : byteB x.c
 d : byteB x.d
def octV (x : Oct) : Value := .agg #[.int .u8 x.a, .int .u8 x.b, .int .u8 x.c, .int .u8 x.d]
def fromT (x : Oct) : Int := 15 * (x.c % 12)
def spansT (x : Oct) : List (Int × Int) := (if 0 < x.d % 8 then [(fromT x, fromT x + 15 * (x.d % 8))] else []) ++ (if 128 ≤ x.d then [(400 + fromT x, 430 + fromT x)] else [])
def optT (x : Oct) : OptD := ⟨x.a % 6, x.b % 4 - 1, spansT x⟩
set_option maxRecDepth 100000 in
theorem option_calls (x : Oct) (hx : OctOk x) (w : World) :
  Calls Tryz.prog 40 #[octV x] w fun e w' => ∃ sv, e = .returned (.agg #[.int .i64 (optT x).harm, .int .i64 (optT x).room, sv]) ∧ SpansO w' w.heap.size sv (optT x).spans ∧ Ext w w' := by
 obtain ⟨a, b, c, d⟩ := x
 obtain ⟨⟨a0, a1⟩, ⟨b0, b1⟩, ⟨c0, c1⟩, ⟨d0, d1⟩⟩ := hx
 dsimp only at a0 a1 b0 b1 c0 c1 d0 d1
 unfold octV
 obtain ⟨i0, hi0, hz0, hz1, hz2⟩ := info_parts span_info
 have ma0 : 0 ≤ a % 6 := by omega
 have ma1 : a % 6 ≤ 5 := by omega
 have mb0 : 0 ≤ b % 4 := by omega
 have mb1 : b % 4 ≤ 3 := by omega
 have mc0 : 0 ≤ c % 12 := by omega
 have mc1 : c % 12 ≤ 11 := by omega
 have md0 : 0 ≤ d % 8 := by omega
 have md1 : d % 8 ≤ 7 := by omega
 have R0 : Hid (optT ⟨a, b, c, d⟩ = ⟨a % 6, b % 4 - 1, (if 0 < d % 8 then [(15 * (c % 12), 15 * (c % 12) + 15 * (d % 8))] else []) ++ (if 128 ≤ d then [(400 + 15 * (c % 12), 430 + 15 * (c % 12))] else [])⟩) := rfl
 by_cases h1 : 0 < d % 8
 ·by_cases h2 : 128 ≤ d
  ·have R : Hid (optT ⟨a, b, c, d⟩ = ⟨a % 6, b % 4 - 1, [(15 * (c % 12), 15 * (c % 12) + 15 * (d % 8)), (400 + 15 * (c % 12), 430 + 15 * (c % 12))]⟩) := by show _ = _; rw [R0.out, if_pos h1, if_pos h2]; rfl
   rw [R.out]
   go_enter Tryz.func40, Tryz.ntmps40
   go_upto_region 4 with (fail)
   refine wp_abs (S := fun W => Hid (Ext w W) ∧ Blk W w.heap.size 119 #[.int .u8 a, .int .u8 b, .int .u8 c, .int .u8 d] ∧ Blk W (w.heap.size + 1) 77 #[.int .i64 0, .int .i64 0, .slice none 0 0] ∧ Blk W (w.heap.size + 1 + 1) 77 #[.int .i64 (a % 6), .int .i64 (b % 4 - 1), .slice none 0 0]) ?_ ?_
   ·refine ⟨Lib.hid (by exact (by with_reducible repeat' (first | exact Ext.refl _ | assumption | refine Ext.drewN ?_ _ | refine Ext.drew ?_ | refine Ext.alloc ?_ _ | refine Ext.trans ?_ (by with_reducible assumption)))), ?_, ?_, ?_⟩
    all_goals repeat (first | (refine blk_new' ?_ rfl; simp only [World.size_alloc]; done) | refine Blk.alloc ?_ _)
   rintro W1 ⟨hx1, b0, b1, b2⟩
   have lw := hx1.out.size
   have u03 : W1.cell? ⟨w.heap.size, 3, none⟩ = some (.int .u8 d) := b0.cell 3
   have u10 : W1.cell? ⟨w.heap.size + 1, 0, none⟩ = some (.int .i64 0) := b1.cell 0
   have u11 : W1.cell? ⟨w.heap.size + 1, 1, none⟩ = some (.int .i64 0) := b1.cell 1
   have u12 : W1.cell? ⟨w.heap.size + 1, 2, none⟩ = some (.slice none 0 0) := b1.cell 2
   have f10 := b1.frozen 0
   have f11 := b1.frozen 1
   have f12 := b1.frozen 2
   have u20 : W1.cell? ⟨w.heap.size + 1 + 1, 0, none⟩ = some (.int .i64 (a % 6)) := b2.cell 0
   have u21 : W1.cell? ⟨w.heap.size + 1 + 1, 1, none⟩ = some (.int .i64 (b % 4 - 1)) := b2.cell 1
   have u22 : W1.cell? ⟨w.heap.size + 1 + 1, 2, none⟩ = some (.slice none 0 0) := b2.cell 2
   have lt2 := b2.lt
   have f22 := b2.frozen 2
   go_upto_region 6 with (at_builtin; refine wpList_append_any _ rfl (.tmp 25) (.tmp 35) _ rfl w.heap.size 111 i0 _ 2 16 Tryz.underlying73 hi0 hz0 hz1 hz2 rfl (by decide) (.slice none 0 0) 0 [] rfl (World.ownsRow_nil _ _ _ _) (W1.heap.size + 1) (some ⟨W1.heap.size, 0, none⟩) 1 1 [.int .i64 (15 * (c % 12)), .int .i64 (15 * (c % 12) + 15 * (d % 8))] rfl (reads_last _ #[_, _] _ 2 1 _ _ (by simp) (by omega) rfl) (two_ints _ _) (by unfold maxLen; omega) (by omega) (by simp; omega) ?_; intro v1 w1 hown1 hg1 hat1; obtain ⟨A1, C1, rfl⟩ := owns_form hown1; have hk1 := Lib.hid (((Keep.refl (fun g => Value.ownBlock (.slice none 0 0) = some g ∨ g = w.heap.size + 1 + 1) W1).alloc _).grown hg1 (fun g e => Or.inl (Or.inl e))); have b0' := Lib.hid ((b0.alloc _).grown hg1 (by simp [Value.ownBlock])); have b1' := Lib.hid ((b1.alloc _).grown hg1 (by simp [Value.ownBlock])); have b2' := Lib.hid ((b2.alloc _).grown hg1 (by simp [Value.ownBlock])); have c03 : w1.cell? ⟨w.heap.size, 3, none⟩ = some (.int .u8 d) := b0'.out.cell 3; have c22 : w1.cell? ⟨w.heap.size + 1 + 1, 2, none⟩ = some (.slice none 0 0) := b2'.out.cell 2; have f22 := b2'.out.frozen 2; clear hg1 hat1)
   refine wp_abs (S := fun W => Hid (Ext w W) ∧ Blk W w.heap.size 119 #[.int .u8 a, .int .u8 b, .int .u8 c, .int .u8 d] ∧ Blk W (w.heap.size + 1) 77 #[.int .i64 0, .int .i64 0, .slice none 0 0] ∧ Blk W (w.heap.size + 1 + 1) 77 #[.int .i64 (a % 6), .int .i64 (b % 4 - 1), .slice A1 1 C1] ∧ W.ownsRow w.heap.size 111 2 (.slice A1 1 C1) 1 [.int .i64 (15 * (c % 12)), .int .i64 (15 * (c % 12) + 15 * (d % 8))]) ?_ ?_
   ·have kk := hk1.out.setCell (p := ⟨w.heap.size + 1 + 1, 2, none⟩) (Or.inl (Or.inr rfl)) (.slice A1 1 C1)
    refine ⟨Lib.hid ((hx1.out.keep kk ?_)), b0'.out.far (by dsimp only; omega) _, b1'.out.far (by dsimp only; omega) _, b2'.out.set_ 2 _, ?_⟩
    ·intro i hi h
     rcases h with h | h
     ·cases h
     ·omega
    ·exact owns_keepT hown1 ((Keep.refl (fun k => k = w.heap.size + 1 + 1) w1).setCell (Or.inl rfl) _) (TX.one b2'.out) (by decide)
   clear hk1 b0' b1' b2' hown1 b0 b1 b2 u03 u10 u11 u12 f10 f11 f12 u20 u21 u22
   rintro W2 ⟨hx2, b0, b1, b2, hown1⟩
   have lw2 := hx2.out.size
   have u03 : W2.cell? ⟨w.heap.size, 3, none⟩ = some (.int .u8 d) := b0.cell 3
   have u10 : W2.cell? ⟨w.heap.size + 1, 0, none⟩ = some (.int .i64 0) := b1.cell 0
   have u11 : W2.cell? ⟨w.heap.size + 1, 1, none⟩ = some (.int .i64 0) := b1.cell 1
   have u12 : W2.cell? ⟨w.heap.size + 1, 2, none⟩ = some (.slice none 0 0) := b1.cell 2
   have f10 := b1.frozen 0
   have f11 := b1.frozen 1
   have f12 := b1.frozen 2
   have u20 : W2.cell? ⟨w.heap.size + 1 + 1, 0, none⟩ = some (.int .i64 (a % 6)) := b2.cell 0
   have u21 : W2.cell? ⟨w.heap.size + 1 + 1, 1, none⟩ = some (.int .i64 (b % 4 - 1)) := b2.cell 1
   have u22 : W2.cell? ⟨w.heap.size + 1 + 1, 2, none⟩ = some (.slice A1 1 C1) := b2.cell 2
   have lt2 := b2.lt
   have f22 := b2.frozen 2
   go_upto_region 7 with (at_builtin; refine wpList_append_any _ rfl (.tmp 42) (.tmp 48) _ rfl w.heap.size 111 i0 _ 2 16 Tryz.underlying73 hi0 hz0 hz1 hz2 rfl (by decide) (.slice A1 1 C1) 1 [.int .i64 (15 * (c % 12)), .int .i64 (15 * (c % 12) + 15 * (d % 8))] rfl (hown1.alloc _) (W2.heap.size + 1) (some ⟨W2.heap.size, 0, none⟩) 1 1 [.int .i64 (400 + 15 * (c % 12)), .int .i64 (430 + 15 * (c % 12))] rfl (reads_last _ #[_, _] _ 2 1 _ _ (by simp) (by omega) rfl) (two_ints _ _) (by unfold maxLen; omega) (by omega) (by simp; omega) ?_; intro v1 w1 hown2 hg1 hat1; obtain ⟨A2, C2, rfl⟩ := owns_form hown2; have hk1 := Lib.hid (((Keep.refl (fun g => Value.ownBlock (.slice A1 1 C1) = some g ∨ g = w.heap.size + 1 + 1) W2).alloc _).grown hg1 (fun g e => Or.inl (Or.inl e))); have b1' := Lib.hid ((b1.alloc _).grown hg1 (Ne.symm (own_blk_ne hown1 b1 (by decide)))); have b2' := Lib.hid ((b2.alloc _).grown hg1 (Ne.symm (own_blk_ne hown1 b2 (by decide)))); have c22 : w1.cell? ⟨w.heap.size + 1 + 1, 2, none⟩ = some (.slice A1 1 C1) := b2'.out.cell 2; have f22 := b2'.out.frozen 2; clear hg1 hat1)
   refine wp_abs (S := fun W => Hid (Ext w W) ∧ Blk W (w.heap.size + 1) 77 #[.int .i64 0, .int .i64 0, .slice none 0 0] ∧ Blk W (w.heap.size + 1 + 1) 77 #[.int .i64 (a % 6), .int .i64 (b % 4 - 1), .slice A2 (1 + 1) C2] ∧ W.ownsRow w.heap.size 111 2 (.slice A2 (1 + 1) C2) (1 + 1) ([.int .i64 (15 * (c % 12)), .int .i64 (15 * (c % 12) + 15 * (d % 8))] ++ [.int .i64 (400 + 15 * (c % 12)), .int .i64 (430 + 15 * (c % 12))])) ?_ ?_
   ·have kk := hk1.out.setCell (p := ⟨w.heap.size + 1 + 1, 2, none⟩) (Or.inl (Or.inr rfl)) (.slice A2 (1 + 1) C2)
    refine ⟨Lib.hid ((hx2.out.keep kk ?_)), b1'.out.far (by dsimp only; omega) _, b2'.out.set_ 2 _, ?_⟩
    ·intro i hi h
     rcases h with h | h
     ·have := (hown1.lt i h).1; omega
     ·omega
    ·exact owns_keepT hown2 ((Keep.refl (fun k => k = w.heap.size + 1 + 1) w1).setCell (Or.inl rfl) _) (TX.one b2'.out) (by decide)
   clear hk1 b1' b2' hown1 hown2 b0 b1 b2 u03 u10 u11 u12 f10 f11 f12 u20 u21 u22 f22 c22
   rintro W3 ⟨hx3, b1, b2, hown3⟩
   have f10 := b1.frozen 0
   have f11 := b1.frozen 1
   have f12 := b1.frozen 2
   have u10 : W3.cell? ⟨w.heap.size + 1, 0, none⟩ = some (.int .i64 0) := b1.cell 0
   have u11 : W3.cell? ⟨w.heap.size + 1, 1, none⟩ = some (.int .i64 0) := b1.cell 1
   have u12 : W3.cell? ⟨w.heap.size + 1, 2, none⟩ = some (.slice none 0 0) := b1.cell 2
   have u20 : W3.cell? ⟨w.heap.size + 1 + 1, 0, none⟩ = some (.int .i64 (a % 6)) := b2.cell 0
   have u21 : W3.cell? ⟨w.heap.size + 1 + 1, 1, none⟩ = some (.int .i64 (b % 4 - 1)) := b2.cell 1
   have u22 : W3.cell? ⟨w.heap.size + 1 + 1, 2, none⟩ = some (.slice A2 2 C2) := b2.cell 2
   go_wp2
   have b1s := ((b1.set_ 0 (.int .i64 (a % 6))).set_ 1 (.int .i64 (b % 4 - 1))).set_ 2 (.slice A2 2 C2)
   have v10 := b1s.cell 0
   have v11 := b1s.cell 1
   have v12 := b1s.cell 2
   simp only [List.getElem?_toArray, Array.getElem?_setIfInBounds, List.getElem?_cons_zero, List.getElem?_cons_succ] at v10 v11 v12
   have kk := (((Keep.refl (fun k => k = w.heap.size + 1) W3).setCell (p := ⟨w.heap.size + 1, 0, none⟩) (Or.inl rfl) (.int .i64 (a % 6))).setCell (p := ⟨w.heap.size + 1, 1, none⟩) (Or.inl rfl) (.int .i64 (b % 4 - 1))).setCell (p := ⟨w.heap.size + 1, 2, none⟩) (Or.inl rfl) (.slice A2 2 C2)
   have ho := owns_keepT hown3 kk (TX.one b1) (by decide)
   have hx := hx3.out.keep kk (by intro i hi h; omega)
   refine bodyPost_ret (v := .agg #[.int .i64 (a % 6), .int .i64 (b % 4 - 1), .slice A2 2 C2]) (by simp [results, Tryz.results40, go_sem, v10, v11, v12]) rfl ⟨_, rfl, ho, hx⟩
  ·have R : Hid (optT ⟨a, b, c, d⟩ = ⟨a % 6, b % 4 - 1, [(15 * (c % 12), 15 * (c % 12) + 15 * (d % 8))]⟩) := by show _ = _; rw [R0.out, if_pos h1, if_neg h2]; rfl
   rw [R.out]
   go_enter Tryz.func40, Tryz.ntmps40
   go_upto_region 4 with (fail)
   refine wp_abs (S := fun W => Hid (Ext w W) ∧ Blk W w.heap.size 119 #[.int .u8 a, .int .u8 b, .int .u8 c, .int .u8 d] ∧ Blk W (w.heap.size + 1) 77 #[.int .i64 0, .int .i64 0, .slice none 0 0] ∧ Blk W (w.heap.size + 1 + 1) 77 #[.int .i64 (a % 6), .int .i64 (b % 4 - 1), .slice none 0 0]) ?_ ?_
   ·refine ⟨Lib.hid (by exact (by with_reducible repeat' (first | exact Ext.refl _ | assumption | refine Ext.drewN ?_ _ | refine Ext.drew ?_ | refine Ext.alloc ?_ _ | refine Ext.trans ?_ (by with_reducible assumption)))), ?_, ?_, ?_⟩
    all_goals repeat (first | (refine blk_new' ?_ rfl; simp only [World.size_alloc]; done) | refine Blk.alloc ?_ _)
   rintro W1 ⟨hx1, b0, b1, b2⟩
   have lw := hx1.out.size
   have u03 : W1.cell? ⟨w.heap.size, 3, none⟩ = some (.int .u8 d) := b0.cell 3
   have u10 : W1.cell? ⟨w.heap.size + 1, 0, none⟩ = some (.int .i64 0) := b1.cell 0
   have u11 : W1.cell? ⟨w.heap.size + 1, 1, none⟩ = some (.int .i64 0) := b1.cell 1
   have u12 : W1.cell? ⟨w.heap.size + 1, 2, none⟩ = some (.slice none 0 0) := b1.cell 2
   have f10 := b1.frozen 0
   have f11 := b1.frozen 1
   have f12 := b1.frozen 2
   have u20 : W1.cell? ⟨w.heap.size + 1 + 1, 0, none⟩ = some (.int .i64 (a % 6)) := b2.cell 0
   have u21 : W1.cell? ⟨w.heap.size + 1 + 1, 1, none⟩ = some (.int .i64 (b % 4 - 1)) := b2.cell 1
   have u22 : W1.cell? ⟨w.heap.size + 1 + 1, 2, none⟩ = some (.slice none 0 0) := b2.cell 2
   have lt2 := b2.lt
   have f22 := b2.frozen 2
   go_upto_region 7 with (at_builtin; refine wpList_append_any _ rfl (.tmp 25) (.tmp 35) _ rfl w.heap.size 111 i0 _ 2 16 Tryz.underlying73 hi0 hz0 hz1 hz2 rfl (by decide) (.slice none 0 0) 0 [] rfl (World.ownsRow_nil _ _ _ _) (W1.heap.size + 1) (some ⟨W1.heap.size, 0, none⟩) 1 1 [.int .i64 (15 * (c % 12)), .int .i64 (15 * (c % 12) + 15 * (d % 8))] rfl (reads_last _ #[_, _] _ 2 1 _ _ (by simp) (by omega) rfl) (two_ints _ _) (by unfold maxLen; omega) (by omega) (by simp; omega) ?_; intro v1 w1 hown1 hg1 hat1; obtain ⟨A1, C1, rfl⟩ := owns_form hown1; have hk1 := Lib.hid (((Keep.refl (fun g => Value.ownBlock (.slice none 0 0) = some g ∨ g = w.heap.size + 1 + 1) W1).alloc _).grown hg1 (fun g e => Or.inl (Or.inl e))); have b0' := Lib.hid ((b0.alloc _).grown hg1 (by simp [Value.ownBlock])); have b1' := Lib.hid ((b1.alloc _).grown hg1 (by simp [Value.ownBlock])); have b2' := Lib.hid ((b2.alloc _).grown hg1 (by simp [Value.ownBlock])); have c03 : w1.cell? ⟨w.heap.size, 3, none⟩ = some (.int .u8 d) := b0'.out.cell 3; have c22 : w1.cell? ⟨w.heap.size + 1 + 1, 2, none⟩ = some (.slice none 0 0) := b2'.out.cell 2; have f22 := b2'.out.frozen 2; clear hg1 hat1)
   refine wp_abs (S := fun W => Hid (Ext w W) ∧ Blk W w.heap.size 119 #[.int .u8 a, .int .u8 b, .int .u8 c, .int .u8 d] ∧ Blk W (w.heap.size + 1) 77 #[.int .i64 0, .int .i64 0, .slice none 0 0] ∧ Blk W (w.heap.size + 1 + 1) 77 #[.int .i64 (a % 6), .int .i64 (b % 4 - 1), .slice A1 1 C1] ∧ W.ownsRow w.heap.size 111 2 (.slice A1 1 C1) 1 [.int .i64 (15 * (c % 12)), .int .i64 (15 * (c % 12) + 15 * (d % 8))]) ?_ ?_
   ·have kk := hk1.out.setCell (p := ⟨w.heap.size + 1 + 1, 2, none⟩) (Or.inl (Or.inr rfl)) (.slice A1 1 C1)
    refine ⟨Lib.hid ((hx1.out.keep kk ?_)), b0'.out.far (by dsimp only; omega) _, b1'.out.far (by dsimp only; omega) _, b2'.out.set_ 2 _, ?_⟩
    ·intro i hi h
     rcases h with h | h
     ·cases h
     ·omega
    ·exact owns_keepT hown1 ((Keep.refl (fun k => k = w.heap.size + 1 + 1) w1).setCell (Or.inl rfl) _) (TX.one b2'.out) (by decide)
   clear hk1 b0' b1' b2' hown1 b0 b1 b2 u03 u10 u11 u12 f10 f11 f12 u20 u21 u22
   rintro W2 ⟨hx2, b0, b1, b2, hown1⟩
   have lw2 := hx2.out.size
   have f10 := b1.frozen 0
   have f11 := b1.frozen 1
   have f12 := b1.frozen 2
   have u10 : W2.cell? ⟨w.heap.size + 1, 0, none⟩ = some (.int .i64 0) := b1.cell 0
   have u11 : W2.cell? ⟨w.heap.size + 1, 1, none⟩ = some (.int .i64 0) := b1.cell 1
   have u12 : W2.cell? ⟨w.heap.size + 1, 2, none⟩ = some (.slice none 0 0) := b1.cell 2
   have u20 : W2.cell? ⟨w.heap.size + 1 + 1, 0, none⟩ = some (.int .i64 (a % 6)) := b2.cell 0
   have u21 : W2.cell? ⟨w.heap.size + 1 + 1, 1, none⟩ = some (.int .i64 (b % 4 - 1)) := b2.cell 1
   have u22 : W2.cell? ⟨w.heap.size + 1 + 1, 2, none⟩ = some (.slice A1 1 C1) := b2.cell 2
   go_wp2
   have b1s := ((b1.set_ 0 (.int .i64 (a % 6))).set_ 1 (.int .i64 (b % 4 - 1))).set_ 2 (.slice A1 1 C1)
   have v10 := b1s.cell 0
   have v11 := b1s.cell 1
   have v12 := b1s.cell 2
   simp only [List.getElem?_toArray, Array.getElem?_setIfInBounds, List.getElem?_cons_zero, List.getElem?_cons_succ] at v10 v11 v12
   have kk := (((Keep.refl (fun k => k = w.heap.size + 1) W2).setCell (p := ⟨w.heap.size + 1, 0, none⟩) (Or.inl rfl) (.int .i64 (a % 6))).setCell (p := ⟨w.heap.size + 1, 1, none⟩) (Or.inl rfl) (.int .i64 (b % 4 - 1))).setCell (p := ⟨w.heap.size + 1, 2, none⟩) (Or.inl rfl) (.slice A1 1 C1)
   have ho := owns_keepT hown1 kk (TX.one b1) (by decide)
   have hx := hx2.out.keep kk (by intro i hi h; omega)
   refine bodyPost_ret (v := .agg #[.int .i64 (a % 6), .int .i64 (b % 4 - 1), .slice A1 1 C1]) (by simp [results, Tryz.results40, go_sem, v10, v11, v12]) rfl ⟨_, rfl, ho, hx⟩
 ·by_cases h2 : 128 ≤ d
  ·have R : Hid (optT ⟨a, b, c, d⟩ = ⟨a % 6, b % 4 - 1, [(400 + 15 * (c % 12), 430 + 15 * (c % 12))]⟩) := by show _ = _; rw [R0.out, if_neg h1, if_pos h2]; rfl
   rw [R.out]
   go_enter Tryz.func40, Tryz.ntmps40
   go_upto_region 6 with (fail)
   refine wp_abs (S := fun W => Hid (Ext w W) ∧ Blk W w.heap.size 119 #[.int .u8 a, .int .u8 b, .int .u8 c, .int .u8 d] ∧ Blk W (w.heap.size + 1) 77 #[.int .i64 0, .int .i64 0, .slice none 0 0] ∧ Blk W (w.heap.size + 1 + 1) 77 #[.int .i64 (a % 6), .int .i64 (b % 4 - 1), .slice none 0 0]) ?_ ?_
   ·refine ⟨Lib.hid (by exact (by with_reducible repeat' (first | exact Ext.refl _ | assumption | refine Ext.drewN ?_ _ | refine Ext.drew ?_ | refine Ext.alloc ?_ _ | refine Ext.trans ?_ (by with_reducible assumption)))), ?_, ?_, ?_⟩
    all_goals repeat (first | (refine blk_new' ?_ rfl; simp only [World.size_alloc]; done) | refine Blk.alloc ?_ _)
   rintro W1 ⟨hx1, b0, b1, b2⟩
   have lw := hx1.out.size
   have u03 : W1.cell? ⟨w.heap.size, 3, none⟩ = some (.int .u8 d) := b0.cell 3
   have u10 : W1.cell? ⟨w.heap.size + 1, 0, none⟩ = some (.int .i64 0) := b1.cell 0
   have u11 : W1.cell? ⟨w.heap.size + 1, 1, none⟩ = some (.int .i64 0) := b1.cell 1
   have u12 : W1.cell? ⟨w.heap.size + 1, 2, none⟩ = some (.slice none 0 0) := b1.cell 2
   have f10 := b1.frozen 0
   have f11 := b1.frozen 1
   have f12 := b1.frozen 2
   have u20 : W1.cell? ⟨w.heap.size + 1 + 1, 0, none⟩ = some (.int .i64 (a % 6)) := b2.cell 0
   have u21 : W1.cell? ⟨w.heap.size + 1 + 1, 1, none⟩ = some (.int .i64 (b % 4 - 1)) := b2.cell 1
   have u22 : W1.cell? ⟨w.heap.size + 1 + 1, 2, none⟩ = some (.slice none 0 0) := b2.cell 2
   have lt2 := b2.lt
   have f22 := b2.frozen 2
   have hown1 : W1.ownsRow w.heap.size 111 2 (.slice none 0 0) 0 [] := World.ownsRow_nil _ _ _ _
   go_upto_region 7 with (at_builtin; refine wpList_append_any _ rfl (.tmp 42) (.tmp 48) _ rfl w.heap.size 111 i0 _ 2 16 Tryz.underlying73 hi0 hz0 hz1 hz2 rfl (by decide) (.slice none 0 0) 0 [] rfl (hown1.alloc _) (W1.heap.size + 1) (some ⟨W1.heap.size, 0, none⟩) 1 1 [.int .i64 (400 + 15 * (c % 12)), .int .i64 (430 + 15 * (c % 12))] rfl (reads_last _ #[_, _] _ 2 1 _ _ (by simp) (by omega) rfl) (two_ints _ _) (by unfold maxLen; omega) (by omega) (by simp; omega) ?_; intro v1 w1 hown2 hg1 hat1; obtain ⟨A2, C2, rfl⟩ := owns_form hown2; have hk1 := Lib.hid (((Keep.refl (fun g => Value.ownBlock (.slice none 0 0) = some g ∨ g = w.heap.size + 1 + 1) W1).alloc _).grown hg1 (fun g e => Or.inl (Or.inl e))); have b1' := Lib.hid ((b1.alloc _).grown hg1 (Ne.symm (own_blk_ne hown1 b1 (by decide)))); have b2' := Lib.hid ((b2.alloc _).grown hg1 (Ne.symm (own_blk_ne hown1 b2 (by decide)))); have c22 : w1.cell? ⟨w.heap.size + 1 + 1, 2, none⟩ = some (.slice none 0 0) := b2'.out.cell 2; have f22 := b2'.out.frozen 2; clear hg1 hat1)
   refine wp_abs (S := fun W => Hid (Ext w W) ∧ Blk W (w.heap.size + 1) 77 #[.int .i64 0, .int .i64 0, .slice none 0 0] ∧ Blk W (w.heap.size + 1 + 1) 77 #[.int .i64 (a % 6), .int .i64 (b % 4 - 1), .slice A2 (0 + 1) C2] ∧ W.ownsRow w.heap.size 111 2 (.slice A2 (0 + 1) C2) (0 + 1) ([] ++ [.int .i64 (400 + 15 * (c % 12)), .int .i64 (430 + 15 * (c % 12))])) ?_ ?_
   ·have kk := hk1.out.setCell (p := ⟨w.heap.size + 1 + 1, 2, none⟩) (Or.inl (Or.inr rfl)) (.slice A2 (0 + 1) C2)
    refine ⟨Lib.hid ((hx1.out.keep kk ?_)), b1'.out.far (by dsimp only; omega) _, b2'.out.set_ 2 _, ?_⟩
    ·intro i hi h
     rcases h with h | h
     ·have := (hown1.lt i h).1; omega
     ·omega
    ·exact owns_keepT hown2 ((Keep.refl (fun k => k = w.heap.size + 1 + 1) w1).setCell (Or.inl rfl) _) (TX.one b2'.out) (by decide)
   clear hk1 b1' b2' hown1 hown2 b0 b1 b2 u03 u10 u11 u12 f10 f11 f12 u20 u21 u22 f22 c22
   rintro W3 ⟨hx3, b1, b2, hown3⟩
   have f10 := b1.frozen 0
   have f11 := b1.frozen 1
   have f12 := b1.frozen 2
   have u10 : W3.cell? ⟨w.heap.size + 1, 0, none⟩ = some (.int .i64 0) := b1.cell 0
   have u11 : W3.cell? ⟨w.heap.size + 1, 1, none⟩ = some (.int .i64 0) := b1.cell 1
   have u12 : W3.cell? ⟨w.heap.size + 1, 2, none⟩ = some (.slice none 0 0) := b1.cell 2
   have u20 : W3.cell? ⟨w.heap.size + 1 + 1, 0, none⟩ = some (.int .i64 (a % 6)) := b2.cell 0
   have u21 : W3.cell? ⟨w.heap.size + 1 + 1, 1, none⟩ = some (.int .i64 (b % 4 - 1)) := b2.cell 1
   have u22 : W3.cell? ⟨w.heap.size + 1 + 1, 2, none⟩ = some (.slice A2 1 C2) := b2.cell 2
   go_wp2
   have b1s := ((b1.set_ 0 (.int .i64 (a % 6))).set_ 1 (.int .i64 (b % 4 - 1))).set_ 2 (.slice A2 1 C2)
   have v10 := b1s.cell 0
   have v11 := b1s.cell 1
   have v12 := b1s.cell 2
   simp only [List.getElem?_toArray, Array.getElem?_setIfInBounds, List.getElem?_cons_zero, List.getElem?_cons_succ] at v10 v11 v12
   have kk := (((Keep.refl (fun k => k = w.heap.size + 1) W3).setCell (p := ⟨w.heap.size + 1, 0, none⟩) (Or.inl rfl) (.int .i64 (a % 6))).setCell (p := ⟨w.heap.size + 1, 1, none⟩) (Or.inl rfl) (.int .i64 (b % 4 - 1))).setCell (p := ⟨w.heap.size + 1, 2, none⟩) (Or.inl rfl) (.slice A2 1 C2)
   have ho := owns_keepT hown3 kk (TX.one b1) (by decide)
   have hx := hx3.out.keep kk (by intro i hi h; omega)
   refine bodyPost_ret (v := .agg #[.int .i64 (a % 6), .int .i64 (b % 4 - 1), .slice A2 1 C2]) (by simp [results, Tryz.results40, go_sem, v10, v11, v12]) rfl ⟨_, rfl, ho, hx⟩
  ·have R : Hid (optT ⟨a, b, c, d⟩ = ⟨a % 6, b % 4 - 1, []⟩) := by show _ = _; rw [R0.out, if_neg h1, if_neg h2]; rfl
   rw [R.out]
   go_enter Tryz.func40, Tryz.ntmps40
   go_upto_region 7 with (fail)
   refine wp_abs (S := fun W => Hid (Ext w W) ∧ Blk W w.heap.size 119 #[.int .u8 a, .int .u8 b, .int .u8 c, .int .u8 d] ∧ Blk W (w.heap.size + 1) 77 #[.int .i64 0, .int .i64 0, .slice none 0 0] ∧ Blk W (w.heap.size + 1 + 1) 77 #[.int .i64 (a % 6), .int .i64 (b % 4 - 1), .slice none 0 0]) ?_ ?_
   ·refine ⟨Lib.hid (by exact (by with_reducible repeat' (first | exact Ext.refl _ | assumption | refine Ext.drewN ?_ _ | refine Ext.drew ?_ | refine Ext.alloc ?_ _ | refine Ext.trans ?_ (by with_reducible assumption)))), ?_, ?_, ?_⟩
    all_goals repeat (first | (refine blk_new' ?_ rfl; simp only [World.size_alloc]; done) | refine Blk.alloc ?_ _)
   rintro W1 ⟨hx1, b0, b1, b2⟩
   have lw := hx1.out.size
   have hown1 : W1.ownsRow w.heap.size 111 2 (.slice none 0 0) 0 [] := World.ownsRow_nil _ _ _ _
   have f10 := b1.frozen 0
   have f11 := b1.frozen 1
   have f12 := b1.frozen 2
   have u10 : W1.cell? ⟨w.heap.size + 1, 0, none⟩ = some (.int .i64 0) := b1.cell 0
   have u11 : W1.cell? ⟨w.heap.size + 1, 1, none⟩ = some (.int .i64 0) := b1.cell 1
   have u12 : W1.cell? ⟨w.heap.size + 1, 2, none⟩ = some (.slice none 0 0) := b1.cell 2
   have u20 : W1.cell? ⟨w.heap.size + 1 + 1, 0, none⟩ = some (.int .i64 (a % 6)) := b2.cell 0
   have u21 : W1.cell? ⟨w.heap.size + 1 + 1, 1, none⟩ = some (.int .i64 (b % 4 - 1)) := b2.cell 1
   have u22 : W1.cell? ⟨w.heap.size + 1 + 1, 2, none⟩ = some (.slice none 0 0) := b2.cell 2
   go_wp2
   have b1s := ((b1.set_ 0 (.int .i64 (a % 6))).set_ 1 (.int .i64 (b % 4 - 1))).set_ 2 (.slice none 0 0)
   have v10 := b1s.cell 0
   have v11 := b1s.cell 1
   have v12 := b1s.cell 2
   simp only [List.getElem?_toArray, Array.getElem?_setIfInBounds, List.getElem?_cons_zero, List.getElem?_cons_succ] at v10 v11 v12
   have kk := (((Keep.refl (fun k => k = w.heap.size + 1) W1).setCell (p := ⟨w.heap.size + 1, 0, none⟩) (Or.inl rfl) (.int .i64 (a % 6))).setCell (p := ⟨w.heap.size + 1, 1, none⟩) (Or.inl rfl) (.int .i64 (b % 4 - 1))).setCell (p := ⟨w.heap.size + 1, 2, none⟩) (Or.inl rfl) (.slice none 0 0)
   have ho := owns_keepT hown1 kk (TX.one b1) (by decide)
   have hx := hx1.out.keep kk (by intro i hi h; omega)
   refine bodyPost_ret (v := .agg #[.int .i64 (a % 6), .int .i64 (b % 4 - 1), .slice none 0 0]) (by simp [results, Tryz.results40, go_sem, v10, v11, v12]) rfl ⟨_, rfl, ho, hx⟩
end Go.Proofs.YtgolicoalldidaaGreat
namespace Go.Proofs.YtgolicoalldidaaGreat
open Go.RowKit
structure RawD where
 people : Int
 opts : List Oct
instance : Inhabited Oct := ⟨⟨0, 0, 0, 0⟩⟩
instance : Inhabited RawD := ⟨⟨0, []⟩⟩
def octCell (x : Oct) (j : Nat) : Int := if j = 0 then x.a else if j = 1 then x.b else if j = 2 then x.c else x.d
def Octs (w : World) (v : Value) (l : List Oct) : Prop := Sl w 4 v l.length (fun i j => .int .u8 (octCell (l[i]?.getD default) j)) ∧ ∀ x ∈ l, OctOk x
theorem Octs.ext {w w' : World} {v : Value} {l : List Oct} (h : Octs w v l) (e : Ext w w') : Octs w' v l := ⟨Sl.ext h.1 e, h.2⟩
def OctsAt (a : Option Addr) (w : World) (l : List Oct) : Prop :=
 ∀ i, i < l.length → ∀ W, Ext w W → ∃ b off x, a = some ⟨b, off, none⟩ ∧ b < W.heap.size ∧ Hid (l.drop i = x :: l.drop (i + 1)) ∧ Hid (l[i]? = some x) ∧ Hid (OctOk x) ∧
  W.cell? ⟨b, off + i * 4, none⟩ = some (.int .u8 x.a) ∧ W.cell? ⟨b, off + i * 4 + 1, none⟩ = some (.int .u8 x.b) ∧ W.cell? ⟨b, off + i * 4 + 2, none⟩ = some (.int .u8 x.c) ∧ W.cell? ⟨b, off + i * 4 + 3, none⟩ = some (.int .u8 x.d)
theorem Octs.open {w : World} {v : Value} {l : List Oct} (h : Octs w v l) :
  ∃ a c, v = .slice a l.length c ∧ l.length ≤ c ∧ c ≤ 9223372036854775807 ∧ OctsAt a w l := by
 obtain ⟨h, hok⟩ := h
 obtain ⟨a, c, hv, hn, hc, h⟩ := Sl.open h
 refine ⟨a, c, hv, hn, hc, fun i hi W e => ?_⟩
 obtain ⟨b, off, ha, hb, h⟩ := h i hi
 obtain ⟨x, d, ex⟩ := drop_cons l i hi
 refine ⟨b, off, x, ha, Nat.lt_of_lt_of_le hb e.size, d, ex, hok x (List.mem_of_getElem? ex), ?_, ?_, ?_, ?_⟩
 ·have := h W e 0 (by omega)
  simpa [ex, octCell] using this
 ·have := h W e 1 (by omega)
  simpa [ex, octCell] using this
 ·have := h W e 2 (by omega)
  simpa [ex, octCell] using this
 ·have := h W e 3 (by omega)
  simpa [ex, octCell] using this
def Raws (w : World) (v : Value) (l : List RawD) : Prop :=
 ∃ S : Nat → Value, Sl w 2 v l.length (fun i j => if j = 0 then .int .u8 (l[i]?.getD default).people else S i) ∧ ∀ i, i < l.length → Octs w (S i) (l[i]?.getD default).opts ∧ byteB (l[i]?.getD default).people
theorem Raws.ext {w w' : World} {v : Value} {l : List RawD} (h : Raws w v l) (e : Ext w w') : Raws w' v l :=
 let ⟨S, h1, h2⟩ := h
 ⟨S, Sl.ext h1 e, fun i hi => ⟨(h2 i hi).1.ext e, (h2 i hi).2⟩⟩
def RawsAt (a : Option Addr) (w : World) (l : List RawD) : Prop :=
 ∀ i, i < l.length → ∀ W, Ext w W → ∃ b off x sa sc, a = some ⟨b, off, none⟩ ∧ b < W.heap.size ∧ Hid (l.drop i = x :: l.drop (i + 1)) ∧ Hid (l[i]? = some x) ∧ Hid (byteB x.people) ∧
  W.cell? ⟨b, off + i * 2, none⟩ = some (.int .u8 x.people) ∧ W.cell? ⟨b, off + i * 2 + 1, none⟩ = some (.slice sa x.opts.length sc) ∧ Octs W (.slice sa x.opts.length sc) x.opts
theorem Raws.open {w : World} {v : Value} {l : List RawD} (h : Raws w v l) :
  ∃ a c, v = .slice a l.length c ∧ l.length ≤ c ∧ c ≤ 9223372036854775807 ∧ RawsAt a w l := by
 obtain ⟨S, h1, h2⟩ := h
 obtain ⟨a, c, hv, hn, hc, h⟩ := Sl.open h1
 refine ⟨a, c, hv, hn, hc, fun i hi W e => ?_⟩
 obtain ⟨b, off, ha, hb, h⟩ := h i hi
 obtain ⟨x, d, ex⟩ := drop_cons l i hi
 obtain ⟨hs, hp⟩ := h2 i hi
 have hs := hs.ext e
 simp only [ex, Option.getD_some] at hs hp
 obtain ⟨sa, sc, hS, _⟩ := Octs.open hs
 refine ⟨b, off, x, sa, sc, ha, Nat.lt_of_lt_of_le hb e.size, d, ex, hp, ?_, ?_, by rw [← hS]; exact hs⟩
 ·have := h W e 0 (by omega)
  simpa [ex] using this
 ·have := h W e 1 (by omega)
  rw [← hS]
  simpa [ex] using this
def bitB (n : Int) (p : Nat) : Bool := decide (n / 2 ^ p % 2 = 1)
def peopleTo (n : Int) (p : Nat) : List Int := ((List.range p).filter (bitB n)).map fun (k : Nat) => (k : Int)
def wishT (i : Nat) (x : RawD) : WishD := ⟨10 + i, peopleTo x.people 5, if x.opts.length = 0 then [optT ⟨0, 1, i, 3⟩] else (x.opts.take 4).map optT⟩
def madeFrom : Nat → List RawD → List WishD
 | _, [] => []
 | i, x :: r => if i < 4 then wishT i x :: madeFrom (i + 1) r else []
def madeT (l : List RawD) : List WishD := if l.length = 0 then [⟨1, [], [⟨0, 0, []⟩]⟩] else madeFrom 0 l
theorem peopleTo_step (n : Int) (p : Nat) : peopleTo n (p + 1) = if bitB n p then peopleTo n p ++ [(p : Int)] else peopleTo n p := by
 unfold peopleTo
 rw [List.range_succ, List.filter_append, List.map_append]
 cases h : bitB n p <;> simp [h]
theorem bit_walk {n : Int} (h : 0 ≤ n) (p : Nat) : ((n / 2 ^ p).tmod 2 == 1) = bitB n p := by
 have h1 : 0 ≤ n / 2 ^ p := Int.ediv_nonneg h (by exact Int.le_of_lt (Int.pow_pos (by omega)))
 rw [Int.tmod_eq_emod_of_nonneg h1, bitB]
 rw [Bool.eq_iff_iff]; simp
theorem peopleTo_len (n : Int) (p : Nat) : (peopleTo n p).length ≤ p := by
 unfold peopleTo
 rw [List.length_map]
 have := List.length_filter_le (bitB n) (List.range p)
 simpa using this
structure MadeAt (w W : World) (l : List RawD) (i : Nat) (v : Value) (acc : List WishD) : Prop where
 ext : Ext w W
 res : Blk W w.heap.size 28 #[.slice none 0 0]
 task : Blk W (w.heap.size + 1) 28 #[v]
 own : WishesO W w.heap.size v acc
 len : acc.length = i
 go : acc ++ madeFrom i (l.drop i) = madeFrom 0 l
structure WishAt (w0 W : World) (i : Nat) (x : RawD) (pv ov : Value) (p k : Nat) : Prop where
 ext : Ext w0 W
 var : Blk W w0.heap.size 64 #[.int .i64 (10 + (i : Int)), pv, ov]
 people : IntsO W w0.heap.size pv (peopleTo x.people p)
 opts : OptsO W w0.heap.size ov ((x.opts.take k).map optT)
section
variable {w0 W W1 w1 : World} {i p k : Nat} {x : RawD} {pv ov : Value}
theorem WishAt.toExt (h : WishAt w0 W i x pv ov p k) (e : Ext W W1) : WishAt w0 W1 i x pv ov p k :=
 ⟨h.ext.trans e, (Keep.of_ext (X := fun _ => False) e).blk h.var id, h.people.ext e, h.opts.ext e⟩
theorem WishAt.noPerson (h : WishAt w0 W i x pv ov p k) (hb : bitB x.people p = false) : WishAt w0 W i x pv ov (p + 1) k := by
 refine ⟨h.ext, h.var, ?_, h.opts⟩
 rw [peopleTo_step, hb]
 exact h.people
theorem WishAt.varPeople (h : WishAt w0 W i x pv ov p k) (e : Ext W W1) (hg : W1.grownBy w1 pv.ownBlock) : Blk w1 w0.heap.size 64 #[.int .i64 (10 + (i : Int)), pv, ov] :=
 (h.toExt e).var.grown hg (Ne.symm (own_blk_ne h.people h.var (by decide)))
theorem WishAt.varOpts (h : WishAt w0 W i x pv ov p k) (e : Ext W W1) (hg : W1.grownBy w1 ov.ownBlock) : Blk w1 w0.heap.size 64 #[.int .i64 (10 + (i : Int)), pv, ov] := by
 obtain ⟨xs, a, b⟩ := h.opts
 exact (h.toExt e).var.grown hg (Ne.symm (own_blk_ne a h.var (by decide)))
theorem WishAt.person (h : WishAt w0 W i x pv ov p k) (hb : bitB x.people p = true) (e : Ext W W1) {v1 : Value} {n : Nat} (hn : n = (peopleTo x.people p).length)
  (hown : w1.ownsRow w0.heap.size 3 1 v1 (n + 1) ((peopleTo x.people p).map (Value.int .i64) ++ [.int .i64 p])) (hg : W1.grownBy w1 pv.ownBlock) :
  WishAt w0 (w1.setCell ⟨w0.heap.size, 1, none⟩ v1) i x v1 ov (p + 1) k := by
 have h1 := h.toExt e
 have hv := h.varPeople e hg
 have k1 : Keep (fun g => pv.ownBlock = some g) W1 w1 := (Keep.refl _ W1).grown hg (fun g e => Or.inl e)
 have k2 : Keep (fun g => g = w0.heap.size) w1 (w1.setCell ⟨w0.heap.size, 1, none⟩ v1) := keep_set _ _ _ _
 refine ⟨?_, hv.set_ 1 v1, ?_, ?_⟩
 ·refine (h1.ext.keep k1 fun j hj hx => ?_).keep k2 fun j hj hx => ?_
  ·have := (World.ownsRow.lt h1.people j hx).1; omega
  ·omega
 ·have := owns_keepT hown k2 (TX.one hv) (by decide)
  unfold IntsO
  rw [peopleTo_step, hb]
  simp only [if_true, List.length_append, List.length_cons, List.length_nil, List.map_append, List.map_cons, List.map_nil, Nat.zero_add]
  rw [← hn]
  exact this
 ·exact (h1.opts.keepT k1 (TX.row h1.people) (by decide) (by decide)).keepT k2 (TX.one hv) (by decide) (by decide)
theorem WishAt.option (h : WishAt w0 W i x pv ov p k) {y : Oct} (hy : x.opts[k]? = some y) (e : Ext W W1) {v1 sv : Value} {n : Nat} {xs : List Value} (hn : n = ((x.opts.take k).map optT).length)
  (hxs : OptsCO W w0.heap.size ((x.opts.take k).map optT) xs) (hsv : SpansO W1 w0.heap.size sv (optT y).spans) (hrow : W.ownsRow w0.heap.size 77 3 ov n xs)
  (hown : w1.ownsRow w0.heap.size 77 3 v1 (n + 1) (xs ++ [.int .i64 (optT y).harm, .int .i64 (optT y).room, sv])) (hg : W1.grownBy w1 ov.ownBlock) :
  WishAt w0 (w1.setCell ⟨w0.heap.size, 2, none⟩ v1) i x pv v1 p (k + 1) := by
 have h1 := h.toExt e
 have hv := h.varOpts e hg
 have k1 : Keep (fun g => ov.ownBlock = some g) W1 w1 := (Keep.refl _ W1).grown hg (fun g e => Or.inl e)
 have hrow1 := owns_ext hrow e
 have t1 := TX.row hrow1
 have k2 : Keep (fun g => g = w0.heap.size) w1 (w1.setCell ⟨w0.heap.size, 2, none⟩ v1) := keep_set _ _ _ _
 have t2 := TX.one hv
 refine ⟨?_, hv.set_ 2 v1, ?_, ?_⟩
 ·refine (h1.ext.keep k1 fun j hj hx => ?_).keep k2 fun j hj hx => ?_
  ·have := (World.ownsRow.lt hrow1 j hx).1; omega
  ·omega
 ·exact (h1.people.keepT k1 t1 (by decide)).keepT k2 t2 (by decide)
 ·have e1 : (x.opts.take (k + 1)).map optT = (x.opts.take k).map optT ++ [optT y] := by rw [List.take_add_one, hy]; simp
  rw [e1]
  have c1 := OptsCO.snoc ((hsv.keepT k1 t1 (by decide)).keepT k2 t2 (by decide)) (((hxs.ext e).keepT k1 t1 (by decide)).keepT k2 t2 (by decide))
  refine ⟨_, ?_, c1⟩
  have := owns_keepT hown k2 t2 (by decide)
  rw [List.length_append, ← hn]
  exact this
theorem madeFrom_step {i : Nat} {x : RawD} {r : List RawD} (h : i < 4) : madeFrom i (x :: r) = wishT i x :: madeFrom (i + 1) r := by simp [madeFrom, h]
theorem madeFrom_stop {i : Nat} (h : ¬ i < 4) : ∀ (l : List RawD), madeFrom i l = []
 | [] => rfl
 | x :: r => by simp [madeFrom, h]
end
theorem MadeAt.wish {w w0 W w1 : World} {l : List RawD} {i : Nat} {v : Value} {acc : List WishD} {x : RawD} {pv ov v1 : Value} {n : Nat} {xs : List Value}
  (hM : MadeAt w w0 l i v acc) (hx : l.drop i = x :: l.drop (i + 1)) (hi : i < 4) (e : Ext w0 W) (hp : IntsO W w.heap.size pv (wishT i x).people) (ho : OptsO W w.heap.size ov (wishT i x).opts)
  (hn : n = acc.length) (hxs : WishesCO w0 w.heap.size acc xs) (hrow : w0.ownsRow w.heap.size 64 3 v n xs)
  (hown : w1.ownsRow w.heap.size 64 3 v1 (n + 1) (xs ++ [.int .i64 (10 + (i : Int)), pv, ov])) (hg : W.grownBy w1 v.ownBlock) :
  MadeAt w (w1.setCell ⟨w.heap.size + 1, 0, none⟩ v1) l (i + 1) v1 (acc ++ [wishT i x]) := by
 have k0 : Keep (fun _ => False) w0 W := Keep.of_ext e
 have hrow1 := owns_ext hrow e
 have t1 := TX.row hrow1
 have k1 : Keep (fun g => v.ownBlock = some g) W w1 := (Keep.refl _ W).grown hg (fun g e => Or.inl e)
 have b0 := (k0.blk hM.res id).grown hg (Ne.symm (own_blk_ne hrow hM.res (by decide)))
 have b1 := (k0.blk hM.task id).grown hg (Ne.symm (own_blk_ne hrow hM.task (by decide)))
 have k2 : Keep (fun g => g = w.heap.size + 1) w1 (w1.setCell ⟨w.heap.size + 1, 0, none⟩ v1) := keep_set _ _ _ _
 have t2 := TX.one b1
 refine ⟨?_, b0.far (by dsimp only; omega) _, b1.set_ 0 v1, ?_, by rw [List.length_append, hM.len]; rfl, ?_⟩
 ·refine ((hM.ext.trans e).keep k1 fun j hj hx => ?_).keep k2 fun j hj hx => ?_
  ·have := (World.ownsRow.lt hrow1 j hx).1; omega
  ·omega
 ·have c1 := WishesCO.snoc (x := wishT i x) ⟨(hp.keepT k1 t1 (by decide)).keepT k2 t2 (by decide), (ho.keepT k1 t1 (by decide) (by decide)).keepT k2 t2 (by decide) (by decide)⟩
   (WishesCO.keepT k2 t2 (by decide) (by decide) (by decide) (WishesCO.keepT k1 t1 (by decide) (by decide) (by decide) (WishesCO.ext e hxs)))
  refine ⟨_, ?_, c1⟩
  have := owns_keepT hown k2 t2 (by decide)
  rw [List.length_append, ← hn]
  exact this
 ·have := hM.go
  rw [hx, madeFrom_step hi] at this
  rw [← this]
  simp
end Go.Proofs.YtgolicoalldidaaGreat
namespace Go.Proofs.YtgolicoalldidaaGreat
open Go.RowKit
theorem opt_one {w : World} {B : Nat} {sv : Value} {l : List (Int × Int)} {a b : Int} (h : SpansO w B sv l) : ∀ u ∈ [Value.int .i64 a, .int .i64 b, sv], u.oneCell' = true := by
 obtain ⟨A, c, rfl⟩ := owns_form h
 simp [Value.oneCell']
set_option maxRecDepth 100000 in
theorem made_calls (rv : Value) (l : List RawD) (w : World) (h : Raws w rv l) :
  Calls Tryz.prog 14 #[rv] w fun e w' => ∃ tv, e = .returned (.agg #[tv]) ∧ WishesO w' w.heap.size tv (madeT l) ∧ Ext w w' := by
 obtain ⟨ra, rc, rfl, hn, hc, hat⟩ := h.open
 obtain ⟨j0, hj0, jz0, jz1, jz2⟩ := info_parts int_info
 obtain ⟨k0, hk0, kz0, kz1, kz2⟩ := info_parts option_info
 obtain ⟨m0, hm0, mz0, mz1, mz2⟩ := info_parts wish_info
 have hat' := Lib.hid hat
 clear h hat
 go_enter Tryz.func14, Tryz.ntmps14
 go_wp2_with fail
 go_loopw [4] (fun vi wr => ∃ (i : Nat) (v : Value) (acc : List WishD), i ≤ 4 ∧ i ≤ l.length ∧ vi = .int .i64 i ∧ Hid (MadeAt w wr l i v acc)) (fun vi _ => 4 - (intOf vi).toNat)
 case atStart =>
  refine ⟨0, .slice none 0 0, [], by omega, by omega, rfl, Lib.hid ⟨by exact (by with_reducible repeat' (first | exact Ext.refl _ | assumption | refine Ext.drewN ?_ _ | refine Ext.drew ?_ | refine Ext.alloc ?_ _ | refine Ext.trans ?_ (by with_reducible assumption))), ?_, ?_, WishesO.nil _ _, rfl, by simp⟩⟩
  ·exact (blk_new' rfl rfl).alloc _
  ·exact blk_new' (by simp only [World.size_alloc]) rfl
 case round =>
  obtain ⟨i, v, acc, hi4, hil, rfl, hM⟩ := hrel
  by_cases h1 : i < l.length
  ·by_cases h2 : i < 4
   ·obtain ⟨b1, o1, x, sa, sc, rfl, hb1, dx, ex, hbyte, g0, g1, go⟩ := hat'.out i h1 wr hM.out.ext
    have go' := Lib.hid go
    clear go
    have hd4 : decide ((i : Int) < 4) = true := by simp; omega
    obtain ⟨w0, hw0⟩ : ∃ w0 : World, Hid (wr = w0) := ⟨_, rfl⟩
    rw [hw0.out] at hM g0 g1 go' hb1
    go_wp2_with fail
    rw [hw0.out]
    clear hw0
    refine wp_abs (S := fun W => Hid (WishAt w0 W i x (.slice none 0 0) (.slice none 0 0) 0 0)) ?_ ?_
    ·refine Lib.hid ⟨by exact (by with_reducible repeat' (first | exact Ext.refl _ | assumption | refine Ext.drewN ?_ _ | refine Ext.drew ?_ | refine Ext.alloc ?_ _ | refine Ext.trans ?_ (by with_reducible assumption))), blk_new' rfl rfl, IntsO.nil _ _, by simpa using OptsO.nil _ _⟩
    intro W0 hW0
    go_loopw [6] (fun vp wp => ∃ (p : Nat) (pv : Value), p ≤ 5 ∧ vp = .int .i64 p ∧ Hid (WishAt w0 wp i x pv (.slice none 0 0) p 0)) (fun vp _ => 5 - (intOf vp).toNat)
    case atStart => exact ⟨0, _, by omega, rfl, hW0⟩
    case round =>
     clear hW0
     obtain ⟨p, pv, hp5, rfl, hP⟩ := hrel
     by_cases hp : p < 5
     ·have g0p := hP.out.ext.cell g0
      have lw := hP.out.ext.size
      have hlen := peopleTo_len x.people p
      cases hb : bitB x.people p with
      | false =>
       have htest := (bit_walk hbyte.out.1 p).trans hb
       have hN := Lib.hid (hP.out.noPerson hb)
       clear hb
       go_wp2_with fail
       go_roundw
       case rel => exact ⟨p + 1, pv, by omega, by go_num, hN⟩
       case measure => simp [intOf]; omega
      | true =>
       have htest := (bit_walk hbyte.out.1 p).trans hb
       have hown0 := hP.out.people
       obtain ⟨pA, pC, rfl⟩ := owns_form hown0
       have c1 : wr.cell? ⟨w0.heap.size, 1, none⟩ = some (.slice pA (peopleTo x.people p).length pC) := hP.out.var.cell 1
       obtain ⟨pn, hpn⟩ : ∃ n, Hid ((peopleTo x.people p).length = n) := ⟨_, rfl⟩
       have hb' := Lib.hid hb
       rw [hpn.out] at c1 hlen
       unfold IntsO at hown0
       rw [hpn.out] at hP hown0
       have hown' := Lib.hid hown0
       clear hb hown0
       go_wp2_with (at_builtin; refine wpList_append_any _ rfl (.tmp 36) (.tmp 38) _ rfl w0.heap.size 3 j0 _ 1 8 Tryz.underlying31 hj0 jz0 jz1 jz2 rfl (by decide) (.slice pA pn pC) pn _ rfl (hown'.out.alloc _) (wr.heap.size + 1) (some ⟨wr.heap.size, 0, none⟩) 1 1 [.int .i64 p] rfl (reads_last _ #[_] _ 1 1 _ _ (by simp) (by omega) rfl) (one_int _) (by unfold maxLen; omega) (by omega) (by simp; omega) ?_; intro v1 w1 hown1 hg1 hat1; obtain ⟨A1, C1, rfl⟩ := owns_form hown1; have hE := (Ext.refl wr).alloc (.cells #[.int .i64 p] 3); have hv1 := hP.out.varPeople hE hg1; have c1' : w1.cell? ⟨w0.heap.size, 1, none⟩ = some (.slice pA pn pC) := hv1.cell 1; have f1' := hv1.frozen 1; have hN := Lib.hid (hP.out.person hb'.out hE hpn.out.symm hown1 hg1); clear hg1 hat1 hown1 hE hv1)
       go_roundw
       case rel => exact ⟨p + 1, _, by omega, by go_num, hN⟩
       case measure => simp [intOf]; omega
     ·have hpe : Hid (p = 5) := by show _ = _; omega
      rw [hpe.out] at hP
      obtain ⟨w2, hw2⟩ : ∃ w2 : World, Hid (wr = w2) := ⟨_, rfl⟩
      rw [hw2.out] at hP
      go_wp2_with fail
      rw [hw2.out]
      clear hw2 hp5
      go_loopw [7] (fun vk wp => ∃ (k : Nat) (ov : Value), k ≤ 4 ∧ k ≤ x.opts.length ∧ vk = .int .i64 k ∧ Hid (WishAt w0 wp i x pv ov 5 k)) (fun vk _ => 4 - (intOf vk).toNat)
      case atStart => exact ⟨0, _, by omega, by omega, rfl, hP⟩
      case round =>
       clear hP
       obtain ⟨k, ov, hk4, hkl, rfl, hP⟩ := hrel
       have g1p := hP.out.ext.cell g1
       by_cases q1 : k < x.opts.length
       ·by_cases q2 : k < 4
        ·have hdk : decide ((k : Int) < 4) = true := by simp; omega
         obtain ⟨sa', sc', e, _, _, goat⟩ := go'.out.open
         cases e
         obtain ⟨b3, o3, y, rfl, hb3, dy, ey, hok, t0, t1, t2, t3⟩ := goat k q1 w0 (Ext.refl _)
         have s0 := hP.out.ext.cell t0
         have s1 := hP.out.ext.cell t1
         have s2 := hP.out.ext.cell t2
         have s3 := hP.out.ext.cell t3
         clear goat
         obtain ⟨xs, hrow, hxs⟩ := hP.out.opts
         obtain ⟨oA, oC, rfl⟩ := owns_form hrow
         have hlen : ((x.opts.take k).map optT).length = k := by simp; omega
         rw [hlen] at hrow hP
         have hlen' := Lib.hid hlen.symm
         have hrow' := Lib.hid hrow
         have hxs' := Lib.hid hxs
         have c2 : wr.cell? ⟨w0.heap.size, 2, none⟩ = some (.slice oA k oC) := hP.out.var.cell 2
         have hopt : Hid (∀ W, Calls Tryz.prog 40 #[.agg #[.int .u8 y.a, .int .u8 y.b, .int .u8 y.c, .int .u8 y.d]] W fun e w' => ∃ sv, e = .returned (.agg #[.int .i64 (optT y).harm, .int .i64 (optT y).room, sv]) ∧ SpansO w' W.heap.size sv (optT y).spans ∧ Ext W w') := fun W => option_calls y hok.out W
         have z1 : (0 : Int) ≤ (k : Int) := by omega
         have z2 : (k : Int) < (x.opts.length : Int) := by omega
         have z3 : (0 : Int) ≤ (i : Int) := by omega
         have z4 : (i : Int) < (l.length : Int) := by omega
         have lw := hP.out.ext.size
         clear hlen hrow hxs
         go_wp2_with fail
         go_region_law (first | (refine step_append_any _ (by rfl) (.tmp 56) (.tmp 66) _ (by rfl) w0.heap.size 77 k0 _ 3 40 Tryz.underlying62 hk0 kz0 kz1 kz2 (by rfl) (by decide) (.slice oA k oC) k xs (by rfl) ((owns_ext hrow'.out (((Ext.refl wr).drew).trans hx4)).alloc _) (w4.heap.size + 1) (some ⟨w4.heap.size, 0, none⟩) 1 1 [.int .i64 (optT y).harm, .int .i64 (optT y).room, sv] (by rfl) (reads_last _ #[_, _, _] _ 3 1 _ _ (by simp) (by omega) rfl) (opt_one hsv) (by unfold maxLen; omega) (by omega) (by rw [World.size_alloc]; omega) ?_; intro v1 w1 hown1 hg1 hat1; obtain ⟨A1, C1, rfl⟩ := owns_form hown1; have hE := (((Ext.refl wr).drew).trans hx4).alloc (.cells #[.int .i64 (optT y).harm, .int .i64 (optT y).room, sv] 77); have hv1 := hP.out.varOpts hE hg1; have c1' : w1.cell? ⟨w0.heap.size, 2, none⟩ = some (.slice oA k oC) := hv1.cell 2; have f1' := hv1.frozen 2) | (go_simp; go_at_call 40; refine (hopt.out _).mono ?_; rintro e w4 ⟨sv, rfl, hsv, hx4⟩; have hs4 : wr.heap.size ≤ w4.heap.size := hx4.size; have c2' := hx4.cell c2; have c2a : (w4.alloc (.cells #[.int .i64 (optT y).harm, .int .i64 (optT y).room, sv] 77)).cell? ⟨w0.heap.size, 2, none⟩ = some (.slice oA k oC) := Ext.cell ((Ext.refl w4).alloc _) c2'))
         all_goals
          have hN := Lib.hid (hP.out.option ey.out hE hlen'.out hxs'.out ((hsv.base lw).ext ((Ext.refl w4).alloc _)) hrow'.out hown1 hg1)
          clear hown1 hg1 hat1 hE hv1 c1' f1' c2a c2' hsv hx4
          go_wp2
          go_roundw
          case rel => exact ⟨k + 1, _, by omega, by omega, by go_num, hN⟩
          case measure => simp [intOf]; omega
        ·have hke : Hid (k = 4) := by show _ = _; omega
         have hdk : decide ((k : Int) < 4) = false := by simp; omega
         have hkb : ((k : Int) == 0) = false := by simp; omega
         have hopts : Hid ((x.opts.take k).map optT = (wishT i x).opts) := by
          show _ = _
          simp only [wishT]
          rw [if_neg (by omega)]
          rw [hke.out]
         obtain ⟨oA, oC, rfl⟩ := owns_form (Classical.choose_spec hP.out.opts).1
         have hlen : ((x.opts.take k).map optT).length = k := by simp; omega
         rw [hlen] at hP
         obtain ⟨pA, pC, rfl⟩ := owns_form hP.out.people
         have hvar := hP.out.var
         obtain ⟨pn, hpn⟩ : ∃ n, Hid ((peopleTo x.people 5).length = n) := ⟨_, rfl⟩
         rw [hpn.out] at hvar hP
         have u0 : wr.cell? ⟨w0.heap.size, 0, none⟩ = some (.int .i64 (10 + (i : Int))) := hvar.cell 0
         have u1 : wr.cell? ⟨w0.heap.size, 1, none⟩ = some (.slice pA pn pC) := hvar.cell 1
         have u2 : wr.cell? ⟨w0.heap.size, 2, none⟩ = some (.slice oA k oC) := hvar.cell 2
         have fr2 := hvar.frozen 2
         obtain ⟨xs, hrow, hxs⟩ := hM.out.own
         rw [hM.out.len] at hrow
         obtain ⟨vA, vC, rfl⟩ := owns_form hrow
         have lw0 := hM.out.ext.size
         have lw := hP.out.ext.size
         have t0 : w0.cell? ⟨w.heap.size + 1, 0, none⟩ = some (.slice vA i vC) := hM.out.task.cell 0
         have t0' : wr.cell? ⟨w.heap.size + 1, 0, none⟩ = some (.slice vA i vC) := hP.out.ext.cell t0
         have hrow' := Lib.hid hrow
         have hxs' := Lib.hid hxs
         clear hrow hxs hlen hvar t0
         go_wp2_with (at_builtin; refine wpList_append_any _ rfl (.tmp 80) (.tmp 82) _ rfl w.heap.size 64 m0 _ 3 56 Tryz.underlying26 hm0 mz0 mz1 mz2 rfl (by decide) (.slice vA i vC) i xs rfl ((owns_ext hrow'.out hP.out.ext).alloc _) (wr.heap.size + 1) (some ⟨wr.heap.size, 0, none⟩) 1 1 [.int .i64 (10 + (i : Int)), .slice pA pn pC, .slice oA k oC] rfl (reads_last _ #[_, _, _] _ 3 1 _ _ (by simp) (by omega) rfl) (by simp [Value.oneCell']) (by unfold maxLen; omega) (by omega) (by rw [World.size_alloc]; omega) ?_; intro v1 w1 hown1 hg1 hat1; obtain ⟨A1, C1, rfl⟩ := owns_form hown1; have hE := hP.out.ext.alloc (.cells #[.int .i64 (10 + (i : Int)), .slice pA pn pC, .slice oA k oC] 64); have hE1 := (Ext.refl wr).alloc (.cells #[.int .i64 (10 + (i : Int)), .slice pA pn pC, .slice oA k oC] 64); have hN := Lib.hid (hM.out.wish dx.out h2 hE ((hP.out.people.base lw0).ext hE1) (by rw [← hopts.out]; exact ((hP.out.opts.base lw0).ext hE1)) hM.out.len.symm hxs'.out hrow'.out hown1 hg1); have hb1 := (Blk.alloc ((Keep.of_ext (X := fun _ => False) hP.out.ext).blk hM.out.task id) (.cells #[.int .i64 (10 + (i : Int)), .slice pA pn pC, .slice oA k oC] 64)).grown hg1 (Ne.symm (own_blk_ne hrow'.out hM.out.task (by decide))); have c1' : w1.cell? ⟨w.heap.size + 1, 0, none⟩ = some (.slice vA i vC) := hb1.cell 0; have f1' := hb1.frozen 0; clear hg1 hat1 hown1 hE hE1 hb1)
         go_roundw
         case rel => exact ⟨i + 1, _, _, by omega, by omega, by go_num, hN⟩
         case measure => simp [intOf]; omega
       ·have hke : Hid (k = x.opts.length) := by show _ = _; omega
        by_cases hk0 : k = 0
        ·have hkb : ((k : Int) == 0) = true := by simp; omega
         have hi0 : 0 ≤ (i : Int) := by omega
         have hi1 : (i : Int) ≤ 3 := by omega
         have hopts : Hid ((wishT i x).opts = [optT ⟨0, 1, i, 3⟩]) := by
          show _ = _
          simp only [wishT]
          rw [if_pos (by omega)]
         have hok : OctOk ⟨0, 1, i, 3⟩ := by constructor <;> constructor <;> dsimp only <;> omega
         have hopt : Hid (∀ W, Calls Tryz.prog 40 #[.agg #[.int .u8 0, .int .u8 1, .int .u8 i, .int .u8 3]] W fun e w' => ∃ sv, e = .returned (.agg #[.int .i64 (optT ⟨0, 1, i, 3⟩).harm, .int .i64 (optT ⟨0, 1, i, 3⟩).room, sv]) ∧ SpansO w' W.heap.size sv (optT ⟨0, 1, i, 3⟩).spans ∧ Ext W w') := fun W => option_calls ⟨0, 1, i, 3⟩ hok W
         obtain ⟨oA, oC, rfl⟩ := owns_form (Classical.choose_spec hP.out.opts).1
         have hlen : ((x.opts.take k).map optT).length = k := by simp; omega
         rw [hlen] at hP
         obtain ⟨pA, pC, rfl⟩ := owns_form hP.out.people
         have hvar := hP.out.var
         obtain ⟨pn, hpn⟩ : ∃ n, Hid ((peopleTo x.people 5).length = n) := ⟨_, rfl⟩
         rw [hpn.out] at hvar hP
         have u0 : wr.cell? ⟨w0.heap.size, 0, none⟩ = some (.int .i64 (10 + (i : Int))) := hvar.cell 0
         have u1 : wr.cell? ⟨w0.heap.size, 1, none⟩ = some (.slice pA pn pC) := hvar.cell 1
         have u2 : wr.cell? ⟨w0.heap.size, 2, none⟩ = some (.slice oA k oC) := hvar.cell 2
         have fr2 := hvar.frozen 2
         obtain ⟨xs, hrow, hxs⟩ := hM.out.own
         rw [hM.out.len] at hrow
         obtain ⟨vA, vC, rfl⟩ := owns_form hrow
         have lw0 := hM.out.ext.size
         have lw := hP.out.ext.size
         have t0 : w0.cell? ⟨w.heap.size + 1, 0, none⟩ = some (.slice vA i vC) := hM.out.task.cell 0
         have t0' : wr.cell? ⟨w.heap.size + 1, 0, none⟩ = some (.slice vA i vC) := hP.out.ext.cell t0
         have hrow' := Lib.hid hrow
         have hxs' := Lib.hid hxs
         clear hrow hxs hlen hvar t0
         generalize optT ⟨0, 1, i, 3⟩ = ot at hopt hopts
         go_wp2_with fail
         refine (hopt.out _).mono ?_
         rintro e w4 ⟨sv, rfl, hsv, hx4⟩
         have hx4' := Lib.hid hx4
         have hsv' := Lib.hid hsv
         have hv4 := (Keep.of_ext (X := fun _ => False) hx4).blk hP.out.var id
         have u2 : w4.cell? ⟨w0.heap.size, 2, none⟩ = some (.slice oA k oC) := hv4.cell 2
         have fr2 := hv4.frozen 2
         have lw4 := hx4.size
         have ltv4 := hv4.lt
         clear hx4 hsv
         go_upto_region 17 with (fail)
         refine wp_abs (S := fun W => Hid (Ext w0 W) ∧ Blk W w0.heap.size 64 #[.int .i64 (10 + (i : Int)), .slice pA pn pC, .slice (some ⟨w4.heap.size, 0, none⟩) 1 1] ∧ OptsO W w.heap.size (.slice (some ⟨w4.heap.size, 0, none⟩) 1 1) [ot] ∧ IntsO W w.heap.size (.slice pA pn pC) (peopleTo x.people 5)) ?_ ?_
         ·have k2 : Keep (fun g => g = w0.heap.size) w4 (w4.setCell ⟨w0.heap.size, 2, none⟩ (.slice (some ⟨w4.heap.size, 0, none⟩) 1 1)) := keep_set _ _ _ _
          have hv5 := hv4.set_ 2 (.slice (some ⟨w4.heap.size, 0, none⟩) 1 1)
          have hl := World.ownsRow_lit (base := w.heap.size) (e := 77) (size := 3) (w4.setCell ⟨w0.heap.size, 2, none⟩ (.slice (some ⟨w4.heap.size, 0, none⟩) 1 1)) #[.int .i64 ot.harm, .int .i64 ot.room, sv] 1 (by rw [World.size_setCell]; omega) (by decide) rfl
          rw [World.size_setCell] at hl
          have hs5 := ((hsv'.out.base (show w.heap.size ≤ wr.heap.size by omega)).keepT k2 (TX.one hv4) (by decide)).ext ((Ext.refl _).alloc (.cells #[.int .i64 ot.harm, .int .i64 ot.room, sv] 77))
          refine ⟨Lib.hid (((hP.out.ext.trans hx4'.out).keep k2 (by intro j hj h; omega)).alloc _), hv5.alloc _, ⟨_, hl, sv, [], rfl, hs5, rfl⟩, ?_⟩
          exact (((hP.out.people.base lw0).ext hx4'.out).keepT k2 (TX.one hv4) (by decide)).ext ((Ext.refl _).alloc _)
         clear hx4' hsv' hv4 u0 u1 u2 fr2 t0'
         rintro W5 ⟨hx5, hv5, ho5, hp5⟩
         have u0 : W5.cell? ⟨w0.heap.size, 0, none⟩ = some (.int .i64 (10 + (i : Int))) := hv5.cell 0
         have u1 : W5.cell? ⟨w0.heap.size, 1, none⟩ = some (.slice pA pn pC) := hv5.cell 1
         have u2 : W5.cell? ⟨w0.heap.size, 2, none⟩ = some (.slice (some ⟨w4.heap.size, 0, none⟩) 1 1) := hv5.cell 2
         have t0' : W5.cell? ⟨w.heap.size + 1, 0, none⟩ = some (.slice vA i vC) := hx5.out.cell (hM.out.task.cell 0)
         have lw5 := hx5.out.size
         have ho' := Lib.hid ho5
         have hp' := Lib.hid hp5
         clear hv5 ho5 hp5
         go_wp2_with (at_builtin; refine wpList_append_any _ rfl (.tmp 80) (.tmp 82) _ rfl w.heap.size 64 m0 _ 3 56 Tryz.underlying26 hm0 mz0 mz1 mz2 rfl (by decide) (.slice vA i vC) i xs rfl ((owns_ext hrow'.out hx5.out).alloc _) (W5.heap.size + 1) (some ⟨W5.heap.size, 0, none⟩) 1 1 [.int .i64 (10 + (i : Int)), .slice pA pn pC, .slice (some ⟨w4.heap.size, 0, none⟩) 1 1] rfl (reads_last _ #[_, _, _] _ 3 1 _ _ (by simp) (by omega) rfl) (by simp [Value.oneCell']) (by unfold maxLen; omega) (by omega) (by rw [World.size_alloc]; omega) ?_; intro v1 w1 hown1 hg1 hat1; obtain ⟨A1, C1, rfl⟩ := owns_form hown1; have hE := hx5.out.alloc (.cells #[.int .i64 (10 + (i : Int)), .slice pA pn pC, .slice (some ⟨w4.heap.size, 0, none⟩) 1 1] 64); have hE1 := (Ext.refl W5).alloc (.cells #[.int .i64 (10 + (i : Int)), .slice pA pn pC, .slice (some ⟨w4.heap.size, 0, none⟩) 1 1] 64); have hN := Lib.hid (hM.out.wish dx.out h2 hE (hp'.out.ext hE1) (by rw [hopts.out]; exact ho'.out.ext hE1) hM.out.len.symm hxs'.out hrow'.out hown1 hg1); have hb1 := (Blk.alloc ((Keep.of_ext (X := fun _ => False) hx5.out).blk hM.out.task id) (.cells #[.int .i64 (10 + (i : Int)), .slice pA pn pC, .slice (some ⟨w4.heap.size, 0, none⟩) 1 1] 64)).grown hg1 (Ne.symm (own_blk_ne hrow'.out hM.out.task (by decide))); have c1' : w1.cell? ⟨w.heap.size + 1, 0, none⟩ = some (.slice vA i vC) := hb1.cell 0; have f1' := hb1.frozen 0; clear hg1 hat1 hown1 hE hE1 hb1)
         go_roundw
         case rel => exact ⟨i + 1, _, _, by omega, by omega, by go_num, hN⟩
         case measure => simp [intOf]; omega
        ·
         have hkb : ((k : Int) == 0) = false := by simp; omega
         have hopts : Hid ((x.opts.take k).map optT = (wishT i x).opts) := by
          show _ = _
          simp only [wishT]
          rw [if_neg (by omega)]
          rw [List.take_of_length_le (by omega), List.take_of_length_le (by omega)]
         obtain ⟨oA, oC, rfl⟩ := owns_form (Classical.choose_spec hP.out.opts).1
         have hlen : ((x.opts.take k).map optT).length = k := by simp; omega
         rw [hlen] at hP
         obtain ⟨pA, pC, rfl⟩ := owns_form hP.out.people
         have hvar := hP.out.var
         obtain ⟨pn, hpn⟩ : ∃ n, Hid ((peopleTo x.people 5).length = n) := ⟨_, rfl⟩
         rw [hpn.out] at hvar hP
         have u0 : wr.cell? ⟨w0.heap.size, 0, none⟩ = some (.int .i64 (10 + (i : Int))) := hvar.cell 0
         have u1 : wr.cell? ⟨w0.heap.size, 1, none⟩ = some (.slice pA pn pC) := hvar.cell 1
         have u2 : wr.cell? ⟨w0.heap.size, 2, none⟩ = some (.slice oA k oC) := hvar.cell 2
         have fr2 := hvar.frozen 2
         obtain ⟨xs, hrow, hxs⟩ := hM.out.own
         rw [hM.out.len] at hrow
         obtain ⟨vA, vC, rfl⟩ := owns_form hrow
         have lw0 := hM.out.ext.size
         have lw := hP.out.ext.size
         have t0 : w0.cell? ⟨w.heap.size + 1, 0, none⟩ = some (.slice vA i vC) := hM.out.task.cell 0
         have t0' : wr.cell? ⟨w.heap.size + 1, 0, none⟩ = some (.slice vA i vC) := hP.out.ext.cell t0
         have hrow' := Lib.hid hrow
         have hxs' := Lib.hid hxs
         clear hrow hxs hlen hvar t0
         go_wp2_with (at_builtin; refine wpList_append_any _ rfl (.tmp 80) (.tmp 82) _ rfl w.heap.size 64 m0 _ 3 56 Tryz.underlying26 hm0 mz0 mz1 mz2 rfl (by decide) (.slice vA i vC) i xs rfl ((owns_ext hrow'.out hP.out.ext).alloc _) (wr.heap.size + 1) (some ⟨wr.heap.size, 0, none⟩) 1 1 [.int .i64 (10 + (i : Int)), .slice pA pn pC, .slice oA k oC] rfl (reads_last _ #[_, _, _] _ 3 1 _ _ (by simp) (by omega) rfl) (by simp [Value.oneCell']) (by unfold maxLen; omega) (by omega) (by rw [World.size_alloc]; omega) ?_; intro v1 w1 hown1 hg1 hat1; obtain ⟨A1, C1, rfl⟩ := owns_form hown1; have hE := hP.out.ext.alloc (.cells #[.int .i64 (10 + (i : Int)), .slice pA pn pC, .slice oA k oC] 64); have hE1 := (Ext.refl wr).alloc (.cells #[.int .i64 (10 + (i : Int)), .slice pA pn pC, .slice oA k oC] 64); have hN := Lib.hid (hM.out.wish dx.out h2 hE ((hP.out.people.base lw0).ext hE1) (by rw [← hopts.out]; exact ((hP.out.opts.base lw0).ext hE1)) hM.out.len.symm hxs'.out hrow'.out hown1 hg1); have hb1 := (Blk.alloc ((Keep.of_ext (X := fun _ => False) hP.out.ext).blk hM.out.task id) (.cells #[.int .i64 (10 + (i : Int)), .slice pA pn pC, .slice oA k oC] 64)).grown hg1 (Ne.symm (own_blk_ne hrow'.out hM.out.task (by decide))); have c1' : w1.cell? ⟨w.heap.size + 1, 0, none⟩ = some (.slice vA i vC) := hb1.cell 0; have f1' := hb1.frozen 0; clear hg1 hat1 hown1 hE hE1 hb1)
         go_roundw
         case rel => exact ⟨i + 1, _, _, by omega, by omega, by go_num, hN⟩
         case measure => simp [intOf]; omega
   ·have hd4 : decide ((i : Int) < 4) = false := by simp; omega
    have hT : Hid (acc = madeT l) := by
     show _ = _
     have := hM.out.go
     rw [madeFrom_stop h2, List.append_nil] at this
     rw [this, madeT, if_neg (by omega)]
    have hz : ((i : Int) == 0) = false := by simp; omega
    obtain ⟨vA, vC, rfl⟩ := owns_form (Classical.choose_spec hM.out.own).1
    have hres := hM.out.res
    have htask := hM.out.task
    rw [hM.out.len] at htask
    have t0 : wr.cell? ⟨w.heap.size + 1, 0, none⟩ = some (.slice vA i vC) := htask.cell 0
    have r0 : wr.cell? ⟨w.heap.size, 0, none⟩ = some (.slice none 0 0) := hres.cell 0
    have f0 := hres.frozen 0
    have hres' := Lib.hid hres
    clear hres htask
    go_wp2
    have k2 : Keep (fun g => g = w.heap.size) wr (wr.setCell ⟨w.heap.size, 0, none⟩ (.slice vA i vC)) := keep_set _ _ _ _
    have b2 := hres'.out.set_ 0 (.slice vA i vC)
    have v0 : (wr.setCell ⟨w.heap.size, 0, none⟩ (.slice vA i vC)).cell? ⟨w.heap.size, 0, none⟩ = some (.slice vA i vC) := b2.cell 0
    refine bodyPost_ret (v := .agg #[.slice vA i vC]) (by simp [results, Tryz.results14, go_sem, v0]) rfl ⟨_, rfl, ?_, hM.out.ext.keep k2 (by intro j hj h; omega)⟩
    rw [← hT.out, ← hM.out.len]
    have := hM.out.own
    rw [hM.out.len] at this
    rw [hM.out.len]
    exact this.keepT k2 (TX.one hres'.out) (by decide) (by decide) (by decide) (by decide)
  ·by_cases h0 : l.length = 0
   ·have hT : Hid (madeT l = [⟨1, [], [⟨0, 0, []⟩]⟩]) := by show _ = _; rw [madeT, if_pos h0]
    have hz : ((i : Int) == 0) = true := by simp; omega
    obtain ⟨vA, vC, rfl⟩ := owns_form (Classical.choose_spec hM.out.own).1
    have hres := hM.out.res
    have htask := hM.out.task
    rw [hM.out.len] at htask
    have t0 : wr.cell? ⟨w.heap.size + 1, 0, none⟩ = some (.slice vA i vC) := htask.cell 0
    have r0 : wr.cell? ⟨w.heap.size, 0, none⟩ = some (.slice none 0 0) := hres.cell 0
    have f0 := hres.frozen 0
    have f1 := htask.frozen 0
    have lt1 := htask.lt
    have lt0 := hres.lt
    have hres' := Lib.hid hres
    have htask' := Lib.hid htask
    have hx' := Lib.hid hM.out.ext
    clear hres htask hM
    go_wp2
    have b1 := (hres'.out.far (p := ⟨w.heap.size + 1, 0, none⟩) (by dsimp only; omega) (.slice (some ⟨wr.heap.size + 1, 0, none⟩) 1 1)).set_ 0 (.slice (some ⟨wr.heap.size + 1, 0, none⟩) 1 1)
    have kk := ((Keep.refl (fun g => g = w.heap.size + 1 ∨ g = w.heap.size) wr).setCell (p := ⟨w.heap.size + 1, 0, none⟩) (Or.inl (Or.inl rfl)) (.slice (some ⟨wr.heap.size + 1, 0, none⟩) 1 1)).setCell (p := ⟨w.heap.size, 0, none⟩) (Or.inl (Or.inr rfl)) (.slice (some ⟨wr.heap.size + 1, 0, none⟩) 1 1)
    have hsz : ((wr.setCell ⟨w.heap.size + 1, 0, none⟩ (.slice (some ⟨wr.heap.size + 1, 0, none⟩) 1 1)).setCell ⟨w.heap.size, 0, none⟩ (.slice (some ⟨wr.heap.size + 1, 0, none⟩) 1 1)).heap.size = wr.heap.size := by rw [World.size_setCell, World.size_setCell]
    have hext := hx'.out.keep kk (by intro j hj h; omega)
    generalize ((wr.setCell ⟨w.heap.size + 1, 0, none⟩ (.slice (some ⟨wr.heap.size + 1, 0, none⟩) 1 1)).setCell ⟨w.heap.size, 0, none⟩ (.slice (some ⟨wr.heap.size + 1, 0, none⟩) 1 1)) = s at b1 kk hsz hext ⊢
    have hl1 := World.ownsRow_lit (base := w.heap.size) (e := 77) (size := 3) s #[.int .i64 0, .int .i64 0, .slice none 0 0] 1 (by omega) (by decide) rfl
    have hl2 := World.ownsRow_lit (base := w.heap.size) (e := 64) (size := 3) (s.alloc (.cells #[.int .i64 0, .int .i64 0, .slice none 0 0] 77)) #[.int .i64 1, .slice none 0 0, .slice (some ⟨wr.heap.size, 0, none⟩) 1 1] 1 (by rw [World.size_alloc]; omega) (by decide) rfl
    rw [World.size_alloc] at hl2
    rw [hsz] at hl1 hl2
    have b2 := (b1.alloc (.cells #[.int .i64 0, .int .i64 0, .slice none 0 0] 77)).alloc (.cells #[.int .i64 1, .slice none 0 0, .slice (some ⟨wr.heap.size, 0, none⟩) 1 1] 64)
    have v0 := b2.cell 0
    simp only [List.getElem?_toArray, Array.getElem?_setIfInBounds, List.getElem?_cons_zero] at v0
    refine bodyPost_ret (v := .agg #[.slice (some ⟨wr.heap.size + 1, 0, none⟩) 1 1]) (by simp [results, Tryz.results14, go_sem, v0]) rfl ⟨_, rfl, ?_, (hext.alloc _).alloc _⟩
    rw [hT.out]
    exact ⟨_, hl2, .slice none 0 0, .slice (some ⟨wr.heap.size, 0, none⟩) 1 1, [], rfl, ⟨IntsO.nil _ _, ⟨_, hl1.alloc _, .slice none 0 0, [], rfl, SpansO.nil _ _, rfl⟩⟩, rfl⟩
   ·
    have hT : Hid (acc = madeT l) := by
     show _ = _
     have := hM.out.go
     rw [List.drop_of_length_le (by omega), madeFrom, List.append_nil] at this
     rw [this, madeT, if_neg (by omega)]
    have hz : ((i : Int) == 0) = false := by simp; omega
    obtain ⟨vA, vC, rfl⟩ := owns_form (Classical.choose_spec hM.out.own).1
    have hres := hM.out.res
    have htask := hM.out.task
    rw [hM.out.len] at htask
    have t0 : wr.cell? ⟨w.heap.size + 1, 0, none⟩ = some (.slice vA i vC) := htask.cell 0
    have r0 : wr.cell? ⟨w.heap.size, 0, none⟩ = some (.slice none 0 0) := hres.cell 0
    have f0 := hres.frozen 0
    have hres' := Lib.hid hres
    clear hres htask
    go_wp2
    have k2 : Keep (fun g => g = w.heap.size) wr (wr.setCell ⟨w.heap.size, 0, none⟩ (.slice vA i vC)) := keep_set _ _ _ _
    have b2 := hres'.out.set_ 0 (.slice vA i vC)
    have v0 : (wr.setCell ⟨w.heap.size, 0, none⟩ (.slice vA i vC)).cell? ⟨w.heap.size, 0, none⟩ = some (.slice vA i vC) := b2.cell 0
    refine bodyPost_ret (v := .agg #[.slice vA i vC]) (by simp [results, Tryz.results14, go_sem, v0]) rfl ⟨_, rfl, ?_, hM.out.ext.keep k2 (by intro j hj h; omega)⟩
    rw [← hT.out, ← hM.out.len]
    have := hM.out.own
    rw [hM.out.len] at this
    rw [hM.out.len]
    exact this.keepT k2 (TX.one hres'.out) (by decide) (by decide) (by decide) (by decide)
end Go.Proofs.YtgolicoalldidaaGreat
