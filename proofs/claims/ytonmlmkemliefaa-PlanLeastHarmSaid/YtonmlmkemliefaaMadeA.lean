/- The reference's makers of tasks: option. -/
import Derived.Test.YtonmlmkemliefaaOwn
import Derived.Deep.Cut
namespace Go.Proofs.Ytonmlmkemliefaa
open Go.RowKit

structure Oct where
  a : Int
  b : Int
  c : Int
  d : Int
def byteB (x : Int) : Prop := 0 ≤ x ∧ x ≤ 255
structure OctOk (x : Oct) : Prop where
  a : byteB x.a
  b : byteB x.b
  c : byteB x.c
  d : byteB x.d
def octV (x : Oct) : Value := .agg #[.int .u8 x.a, .int .u8 x.b, .int .u8 x.c, .int .u8 x.d]
def fromT (x : Oct) : Int := 15 * (x.c % 12)
def spansT (x : Oct) : List (Int × Int) := (if 0 < x.d % 8 then [(fromT x, fromT x + 15 * (x.d % 8))] else []) ++ (if 128 ≤ x.d then [(400 + fromT x, 430 + fromT x)] else [])
def optT (x : Oct) : OptD := ⟨x.a % 6, x.b % 4 - 1, spansT x⟩

set_option maxHeartbeats 1600000 in
set_option maxRecDepth 100000 in
theorem option_calls (x : Oct) (hx : OctOk x) (w : World) :
    Calls Try.prog 34 #[octV x] w fun e w' => ∃ sv, e = .returned (.agg #[.int .i64 (optT x).harm, .int .i64 (optT x).room, sv]) ∧ SpansO w' w.heap.size sv (optT x).spans ∧ Ext w w' := by
  obtain ⟨a, b, c, d⟩ := x
  obtain ⟨⟨a0, a1⟩, ⟨b0, b1⟩, ⟨c0, c1⟩, ⟨d0, d1⟩⟩ := hx
  dsimp only at a0 a1 b0 b1 c0 c1 d0 d1
  unfold octV
  obtain ⟨i0, hi0, hz0, hz1, hz2⟩ := info_parts span_info
  have ma0 : 0 ≤ a % 6 := by omega
  have ma1 : a % 6 ≤ 5 := by omega
  have mb0 : 0 ≤ b % 4 := by omega
  have mb1 : b % 4 ≤ 3 := by omega
  have mc0 : 0 ≤ c % 12 := by omega
  have mc1 : c % 12 ≤ 11 := by omega
  have md0 : 0 ≤ d % 8 := by omega
  have md1 : d % 8 ≤ 7 := by omega
  have R0 : Hid (optT ⟨a, b, c, d⟩ = ⟨a % 6, b % 4 - 1, (if 0 < d % 8 then [(15 * (c % 12), 15 * (c % 12) + 15 * (d % 8))] else []) ++ (if 128 ≤ d then [(400 + 15 * (c % 12), 430 + 15 * (c % 12))] else [])⟩) := rfl
  by_cases h1 : 0 < d % 8
  · by_cases h2 : 128 ≤ d
    · have R : Hid (optT ⟨a, b, c, d⟩ = ⟨a % 6, b % 4 - 1, [(15 * (c % 12), 15 * (c % 12) + 15 * (d % 8)), (400 + 15 * (c % 12), 430 + 15 * (c % 12))]⟩) := by show _ = _; rw [R0.out, if_pos h1, if_pos h2]; rfl
      rw [R.out]
      go_enter Try.func34, Try.ntmps34
      go_upto_region 4 with (fail)
      refine wp_abs (S := fun W => Hid (Ext w W) ∧ Blk W w.heap.size 77 #[.int .u8 a, .int .u8 b, .int .u8 c, .int .u8 d] ∧ Blk W (w.heap.size + 1) 59 #[.int .i64 0, .int .i64 0, .slice none 0 0] ∧ Blk W (w.heap.size + 1 + 1) 59 #[.int .i64 (a % 6), .int .i64 (b % 4 - 1), .slice none 0 0]) ?_ ?_
      · refine ⟨Lib.hid (by exact (by repeat' (first | (with_reducible exact Ext.refl _) | (with_reducible assumption) | (with_reducible refine Ext.drewN ?_ _) | (with_reducible refine Ext.drew ?_) | (with_reducible refine Ext.alloc ?_ _) | (with_reducible refine Ext.trans ?_ (by with_reducible assumption))))), ?_, ?_, ?_⟩
        all_goals repeat (first | (refine blk_new' ?_ rfl; simp only [World.size_alloc]; done) | refine Blk.alloc ?_ _)
      rintro W1 ⟨hx1, b0, b1, b2⟩
      have lw := hx1.out.size
      have u03 : W1.cell? ⟨w.heap.size, 3, none⟩ = some (.int .u8 d) := b0.cell 3
      have u10 : W1.cell? ⟨w.heap.size + 1, 0, none⟩ = some (.int .i64 0) := b1.cell 0
      have u11 : W1.cell? ⟨w.heap.size + 1, 1, none⟩ = some (.int .i64 0) := b1.cell 1
      have u12 : W1.cell? ⟨w.heap.size + 1, 2, none⟩ = some (.slice none 0 0) := b1.cell 2
      have f10 := b1.frozen 0
      have f11 := b1.frozen 1
      have f12 := b1.frozen 2
      have u20 : W1.cell? ⟨w.heap.size + 1 + 1, 0, none⟩ = some (.int .i64 (a % 6)) := b2.cell 0
      have u21 : W1.cell? ⟨w.heap.size + 1 + 1, 1, none⟩ = some (.int .i64 (b % 4 - 1)) := b2.cell 1
      have u22 : W1.cell? ⟨w.heap.size + 1 + 1, 2, none⟩ = some (.slice none 0 0) := b2.cell 2
      have lt2 := b2.lt
      have f22 := b2.frozen 2
      go_upto_region 6 with (at_builtin; refine wpList_append_any _ rfl (.tmp 25) (.tmp 35) _ rfl w.heap.size 79 i0 _ 2 16 Try.underlying57 hi0 hz0 hz1 hz2 rfl (by decide) (.slice none 0 0) 0 [] rfl (World.ownsRow_nil _ _ _ _) (W1.heap.size + 1) (some ⟨W1.heap.size, 0, none⟩) 1 1 [.int .i64 (15 * (c % 12)), .int .i64 (15 * (c % 12) + 15 * (d % 8))] rfl (reads_last _ #[_, _] _ 2 1 _ _ (by simp) (by omega) rfl) (two_ints _ _) (by unfold maxLen; omega) (by omega) (by simp; omega) ?_; intro v1 w1 hown1 hg1 hat1; obtain ⟨A1, C1, rfl⟩ := owns_form hown1; have hk1 := Lib.hid (((Keep.refl (fun g => Value.ownBlock (.slice none 0 0) = some g ∨ g = w.heap.size + 1 + 1) W1).alloc _).grown hg1 (fun g e => Or.inl (Or.inl e))); have b0' := Lib.hid ((b0.alloc _).grown hg1 (by simp [Value.ownBlock])); have b1' := Lib.hid ((b1.alloc _).grown hg1 (by simp [Value.ownBlock])); have b2' := Lib.hid ((b2.alloc _).grown hg1 (by simp [Value.ownBlock])); have c03 : w1.cell? ⟨w.heap.size, 3, none⟩ = some (.int .u8 d) := b0'.out.cell 3; have c22 : w1.cell? ⟨w.heap.size + 1 + 1, 2, none⟩ = some (.slice none 0 0) := b2'.out.cell 2; have f22 := b2'.out.frozen 2; clear hg1 hat1)
      refine wp_abs (S := fun W => Hid (Ext w W) ∧ Blk W w.heap.size 77 #[.int .u8 a, .int .u8 b, .int .u8 c, .int .u8 d] ∧ Blk W (w.heap.size + 1) 59 #[.int .i64 0, .int .i64 0, .slice none 0 0] ∧ Blk W (w.heap.size + 1 + 1) 59 #[.int .i64 (a % 6), .int .i64 (b % 4 - 1), .slice A1 1 C1] ∧ W.ownsRow w.heap.size 79 2 (.slice A1 1 C1) 1 [.int .i64 (15 * (c % 12)), .int .i64 (15 * (c % 12) + 15 * (d % 8))]) ?_ ?_
      · have kk := hk1.out.setCell (p := ⟨w.heap.size + 1 + 1, 2, none⟩) (Or.inl (Or.inr rfl)) (.slice A1 1 C1)
        refine ⟨Lib.hid ((hx1.out.keep kk ?_)), b0'.out.far (by dsimp only; omega) _, b1'.out.far (by dsimp only; omega) _, b2'.out.set_ 2 _, ?_⟩
        · intro i hi h
          rcases h with h | h
          · cases h
          · omega
        · exact owns_keepT hown1 ((Keep.refl (fun k => k = w.heap.size + 1 + 1) w1).setCell (Or.inl rfl) _) (TX.one b2'.out) (by decide)
      clear hk1 b0' b1' b2' hown1 b0 b1 b2 u03 u10 u11 u12 f10 f11 f12 u20 u21 u22
      rintro W2 ⟨hx2, b0, b1, b2, hown1⟩
      have lw2 := hx2.out.size
      have u03 : W2.cell? ⟨w.heap.size, 3, none⟩ = some (.int .u8 d) := b0.cell 3
      have u10 : W2.cell? ⟨w.heap.size + 1, 0, none⟩ = some (.int .i64 0) := b1.cell 0
      have u11 : W2.cell? ⟨w.heap.size + 1, 1, none⟩ = some (.int .i64 0) := b1.cell 1
      have u12 : W2.cell? ⟨w.heap.size + 1, 2, none⟩ = some (.slice none 0 0) := b1.cell 2
      have f10 := b1.frozen 0
      have f11 := b1.frozen 1
      have f12 := b1.frozen 2
      have u20 : W2.cell? ⟨w.heap.size + 1 + 1, 0, none⟩ = some (.int .i64 (a % 6)) := b2.cell 0
      have u21 : W2.cell? ⟨w.heap.size + 1 + 1, 1, none⟩ = some (.int .i64 (b % 4 - 1)) := b2.cell 1
      have u22 : W2.cell? ⟨w.heap.size + 1 + 1, 2, none⟩ = some (.slice A1 1 C1) := b2.cell 2
      have lt2 := b2.lt
      have f22 := b2.frozen 2
      go_upto_region 7 with (at_builtin; refine wpList_append_any _ rfl (.tmp 42) (.tmp 48) _ rfl w.heap.size 79 i0 _ 2 16 Try.underlying57 hi0 hz0 hz1 hz2 rfl (by decide) (.slice A1 1 C1) 1 [.int .i64 (15 * (c % 12)), .int .i64 (15 * (c % 12) + 15 * (d % 8))] rfl (hown1.alloc _) (W2.heap.size + 1) (some ⟨W2.heap.size, 0, none⟩) 1 1 [.int .i64 (400 + 15 * (c % 12)), .int .i64 (430 + 15 * (c % 12))] rfl (reads_last _ #[_, _] _ 2 1 _ _ (by simp) (by omega) rfl) (two_ints _ _) (by unfold maxLen; omega) (by omega) (by simp; omega) ?_; intro v1 w1 hown2 hg1 hat1; obtain ⟨A2, C2, rfl⟩ := owns_form hown2; have hk1 := Lib.hid (((Keep.refl (fun g => Value.ownBlock (.slice A1 1 C1) = some g ∨ g = w.heap.size + 1 + 1) W2).alloc _).grown hg1 (fun g e => Or.inl (Or.inl e))); have b1' := Lib.hid ((b1.alloc _).grown hg1 (Ne.symm (own_blk_ne hown1 b1 (by decide)))); have b2' := Lib.hid ((b2.alloc _).grown hg1 (Ne.symm (own_blk_ne hown1 b2 (by decide)))); have c22 : w1.cell? ⟨w.heap.size + 1 + 1, 2, none⟩ = some (.slice A1 1 C1) := b2'.out.cell 2; have f22 := b2'.out.frozen 2; clear hg1 hat1)
      refine wp_abs (S := fun W => Hid (Ext w W) ∧ Blk W (w.heap.size + 1) 59 #[.int .i64 0, .int .i64 0, .slice none 0 0] ∧ Blk W (w.heap.size + 1 + 1) 59 #[.int .i64 (a % 6), .int .i64 (b % 4 - 1), .slice A2 (1 + 1) C2] ∧ W.ownsRow w.heap.size 79 2 (.slice A2 (1 + 1) C2) (1 + 1) ([.int .i64 (15 * (c % 12)), .int .i64 (15 * (c % 12) + 15 * (d % 8))] ++ [.int .i64 (400 + 15 * (c % 12)), .int .i64 (430 + 15 * (c % 12))])) ?_ ?_
      · have kk := hk1.out.setCell (p := ⟨w.heap.size + 1 + 1, 2, none⟩) (Or.inl (Or.inr rfl)) (.slice A2 (1 + 1) C2)
        refine ⟨Lib.hid ((hx2.out.keep kk ?_)), b1'.out.far (by dsimp only; omega) _, b2'.out.set_ 2 _, ?_⟩
        · intro i hi h
          rcases h with h | h
          · have := (hown1.lt i h).1; omega
          · omega
        · exact owns_keepT hown2 ((Keep.refl (fun k => k = w.heap.size + 1 + 1) w1).setCell (Or.inl rfl) _) (TX.one b2'.out) (by decide)
      clear hk1 b1' b2' hown1 hown2 b0 b1 b2 u03 u10 u11 u12 f10 f11 f12 u20 u21 u22 f22 c22
      rintro W3 ⟨hx3, b1, b2, hown3⟩
      have f10 := b1.frozen 0
      have f11 := b1.frozen 1
      have f12 := b1.frozen 2
      have u10 : W3.cell? ⟨w.heap.size + 1, 0, none⟩ = some (.int .i64 0) := b1.cell 0
      have u11 : W3.cell? ⟨w.heap.size + 1, 1, none⟩ = some (.int .i64 0) := b1.cell 1
      have u12 : W3.cell? ⟨w.heap.size + 1, 2, none⟩ = some (.slice none 0 0) := b1.cell 2
      have u20 : W3.cell? ⟨w.heap.size + 1 + 1, 0, none⟩ = some (.int .i64 (a % 6)) := b2.cell 0
      have u21 : W3.cell? ⟨w.heap.size + 1 + 1, 1, none⟩ = some (.int .i64 (b % 4 - 1)) := b2.cell 1
      have u22 : W3.cell? ⟨w.heap.size + 1 + 1, 2, none⟩ = some (.slice A2 2 C2) := b2.cell 2
      go_wp2
      have b1s := ((b1.set_ 0 (.int .i64 (a % 6))).set_ 1 (.int .i64 (b % 4 - 1))).set_ 2 (.slice A2 2 C2)
      have v10 := b1s.cell 0
      have v11 := b1s.cell 1
      have v12 := b1s.cell 2
      simp only [List.getElem?_toArray, Array.getElem?_setIfInBounds, List.getElem?_cons_zero, List.getElem?_cons_succ] at v10 v11 v12
      have kk := (((Keep.refl (fun k => k = w.heap.size + 1) W3).setCell (p := ⟨w.heap.size + 1, 0, none⟩) (Or.inl rfl) (.int .i64 (a % 6))).setCell (p := ⟨w.heap.size + 1, 1, none⟩) (Or.inl rfl) (.int .i64 (b % 4 - 1))).setCell (p := ⟨w.heap.size + 1, 2, none⟩) (Or.inl rfl) (.slice A2 2 C2)
      have ho := owns_keepT hown3 kk (TX.one b1) (by decide)
      have hx := hx3.out.keep kk (by intro i hi h; omega)
      refine bodyPost_ret (v := .agg #[.int .i64 (a % 6), .int .i64 (b % 4 - 1), .slice A2 2 C2]) (by simp [results, Try.results34, go_sem, v10, v11, v12]) rfl ⟨_, rfl, ho, hx⟩
    · have R : Hid (optT ⟨a, b, c, d⟩ = ⟨a % 6, b % 4 - 1, [(15 * (c % 12), 15 * (c % 12) + 15 * (d % 8))]⟩) := by show _ = _; rw [R0.out, if_pos h1, if_neg h2]; rfl
      rw [R.out]
      go_enter Try.func34, Try.ntmps34
      go_upto_region 4 with (fail)
      refine wp_abs (S := fun W => Hid (Ext w W) ∧ Blk W w.heap.size 77 #[.int .u8 a, .int .u8 b, .int .u8 c, .int .u8 d] ∧ Blk W (w.heap.size + 1) 59 #[.int .i64 0, .int .i64 0, .slice none 0 0] ∧ Blk W (w.heap.size + 1 + 1) 59 #[.int .i64 (a % 6), .int .i64 (b % 4 - 1), .slice none 0 0]) ?_ ?_
      · refine ⟨Lib.hid (by exact (by repeat' (first | (with_reducible exact Ext.refl _) | (with_reducible assumption) | (with_reducible refine Ext.drewN ?_ _) | (with_reducible refine Ext.drew ?_) | (with_reducible refine Ext.alloc ?_ _) | (with_reducible refine Ext.trans ?_ (by with_reducible assumption))))), ?_, ?_, ?_⟩
        all_goals repeat (first | (refine blk_new' ?_ rfl; simp only [World.size_alloc]; done) | refine Blk.alloc ?_ _)
      rintro W1 ⟨hx1, b0, b1, b2⟩
      have lw := hx1.out.size
      have u03 : W1.cell? ⟨w.heap.size, 3, none⟩ = some (.int .u8 d) := b0.cell 3
      have u10 : W1.cell? ⟨w.heap.size + 1, 0, none⟩ = some (.int .i64 0) := b1.cell 0
      have u11 : W1.cell? ⟨w.heap.size + 1, 1, none⟩ = some (.int .i64 0) := b1.cell 1
      have u12 : W1.cell? ⟨w.heap.size + 1, 2, none⟩ = some (.slice none 0 0) := b1.cell 2
      have f10 := b1.frozen 0
      have f11 := b1.frozen 1
      have f12 := b1.frozen 2
      have u20 : W1.cell? ⟨w.heap.size + 1 + 1, 0, none⟩ = some (.int .i64 (a % 6)) := b2.cell 0
      have u21 : W1.cell? ⟨w.heap.size + 1 + 1, 1, none⟩ = some (.int .i64 (b % 4 - 1)) := b2.cell 1
      have u22 : W1.cell? ⟨w.heap.size + 1 + 1, 2, none⟩ = some (.slice none 0 0) := b2.cell 2
      have lt2 := b2.lt
      have f22 := b2.frozen 2
      go_upto_region 7 with (at_builtin; refine wpList_append_any _ rfl (.tmp 25) (.tmp 35) _ rfl w.heap.size 79 i0 _ 2 16 Try.underlying57 hi0 hz0 hz1 hz2 rfl (by decide) (.slice none 0 0) 0 [] rfl (World.ownsRow_nil _ _ _ _) (W1.heap.size + 1) (some ⟨W1.heap.size, 0, none⟩) 1 1 [.int .i64 (15 * (c % 12)), .int .i64 (15 * (c % 12) + 15 * (d % 8))] rfl (reads_last _ #[_, _] _ 2 1 _ _ (by simp) (by omega) rfl) (two_ints _ _) (by unfold maxLen; omega) (by omega) (by simp; omega) ?_; intro v1 w1 hown1 hg1 hat1; obtain ⟨A1, C1, rfl⟩ := owns_form hown1; have hk1 := Lib.hid (((Keep.refl (fun g => Value.ownBlock (.slice none 0 0) = some g ∨ g = w.heap.size + 1 + 1) W1).alloc _).grown hg1 (fun g e => Or.inl (Or.inl e))); have b0' := Lib.hid ((b0.alloc _).grown hg1 (by simp [Value.ownBlock])); have b1' := Lib.hid ((b1.alloc _).grown hg1 (by simp [Value.ownBlock])); have b2' := Lib.hid ((b2.alloc _).grown hg1 (by simp [Value.ownBlock])); have c03 : w1.cell? ⟨w.heap.size, 3, none⟩ = some (.int .u8 d) := b0'.out.cell 3; have c22 : w1.cell? ⟨w.heap.size + 1 + 1, 2, none⟩ = some (.slice none 0 0) := b2'.out.cell 2; have f22 := b2'.out.frozen 2; clear hg1 hat1)
      refine wp_abs (S := fun W => Hid (Ext w W) ∧ Blk W w.heap.size 77 #[.int .u8 a, .int .u8 b, .int .u8 c, .int .u8 d] ∧ Blk W (w.heap.size + 1) 59 #[.int .i64 0, .int .i64 0, .slice none 0 0] ∧ Blk W (w.heap.size + 1 + 1) 59 #[.int .i64 (a % 6), .int .i64 (b % 4 - 1), .slice A1 1 C1] ∧ W.ownsRow w.heap.size 79 2 (.slice A1 1 C1) 1 [.int .i64 (15 * (c % 12)), .int .i64 (15 * (c % 12) + 15 * (d % 8))]) ?_ ?_
      · have kk := hk1.out.setCell (p := ⟨w.heap.size + 1 + 1, 2, none⟩) (Or.inl (Or.inr rfl)) (.slice A1 1 C1)
        refine ⟨Lib.hid ((hx1.out.keep kk ?_)), b0'.out.far (by dsimp only; omega) _, b1'.out.far (by dsimp only; omega) _, b2'.out.set_ 2 _, ?_⟩
        · intro i hi h
          rcases h with h | h
          · cases h
          · omega
        · exact owns_keepT hown1 ((Keep.refl (fun k => k = w.heap.size + 1 + 1) w1).setCell (Or.inl rfl) _) (TX.one b2'.out) (by decide)
      clear hk1 b0' b1' b2' hown1 b0 b1 b2 u03 u10 u11 u12 f10 f11 f12 u20 u21 u22
      rintro W2 ⟨hx2, b0, b1, b2, hown1⟩
      have lw2 := hx2.out.size
      have f10 := b1.frozen 0
      have f11 := b1.frozen 1
      have f12 := b1.frozen 2
      have u10 : W2.cell? ⟨w.heap.size + 1, 0, none⟩ = some (.int .i64 0) := b1.cell 0
      have u11 : W2.cell? ⟨w.heap.size + 1, 1, none⟩ = some (.int .i64 0) := b1.cell 1
      have u12 : W2.cell? ⟨w.heap.size + 1, 2, none⟩ = some (.slice none 0 0) := b1.cell 2
      have u20 : W2.cell? ⟨w.heap.size + 1 + 1, 0, none⟩ = some (.int .i64 (a % 6)) := b2.cell 0
      have u21 : W2.cell? ⟨w.heap.size + 1 + 1, 1, none⟩ = some (.int .i64 (b % 4 - 1)) := b2.cell 1
      have u22 : W2.cell? ⟨w.heap.size + 1 + 1, 2, none⟩ = some (.slice A1 1 C1) := b2.cell 2
      go_wp2
      have b1s := ((b1.set_ 0 (.int .i64 (a % 6))).set_ 1 (.int .i64 (b % 4 - 1))).set_ 2 (.slice A1 1 C1)
      have v10 := b1s.cell 0
      have v11 := b1s.cell 1
      have v12 := b1s.cell 2
      simp only [List.getElem?_toArray, Array.getElem?_setIfInBounds, List.getElem?_cons_zero, List.getElem?_cons_succ] at v10 v11 v12
      have kk := (((Keep.refl (fun k => k = w.heap.size + 1) W2).setCell (p := ⟨w.heap.size + 1, 0, none⟩) (Or.inl rfl) (.int .i64 (a % 6))).setCell (p := ⟨w.heap.size + 1, 1, none⟩) (Or.inl rfl) (.int .i64 (b % 4 - 1))).setCell (p := ⟨w.heap.size + 1, 2, none⟩) (Or.inl rfl) (.slice A1 1 C1)
      have ho := owns_keepT hown1 kk (TX.one b1) (by decide)
      have hx := hx2.out.keep kk (by intro i hi h; omega)
      refine bodyPost_ret (v := .agg #[.int .i64 (a % 6), .int .i64 (b % 4 - 1), .slice A1 1 C1]) (by simp [results, Try.results34, go_sem, v10, v11, v12]) rfl ⟨_, rfl, ho, hx⟩
  · by_cases h2 : 128 ≤ d
    · have R : Hid (optT ⟨a, b, c, d⟩ = ⟨a % 6, b % 4 - 1, [(400 + 15 * (c % 12), 430 + 15 * (c % 12))]⟩) := by show _ = _; rw [R0.out, if_neg h1, if_pos h2]; rfl
      rw [R.out]
      go_enter Try.func34, Try.ntmps34
      go_upto_region 6 with (fail)
      refine wp_abs (S := fun W => Hid (Ext w W) ∧ Blk W w.heap.size 77 #[.int .u8 a, .int .u8 b, .int .u8 c, .int .u8 d] ∧ Blk W (w.heap.size + 1) 59 #[.int .i64 0, .int .i64 0, .slice none 0 0] ∧ Blk W (w.heap.size + 1 + 1) 59 #[.int .i64 (a % 6), .int .i64 (b % 4 - 1), .slice none 0 0]) ?_ ?_
      · refine ⟨Lib.hid (by exact (by repeat' (first | (with_reducible exact Ext.refl _) | (with_reducible assumption) | (with_reducible refine Ext.drewN ?_ _) | (with_reducible refine Ext.drew ?_) | (with_reducible refine Ext.alloc ?_ _) | (with_reducible refine Ext.trans ?_ (by with_reducible assumption))))), ?_, ?_, ?_⟩
        all_goals repeat (first | (refine blk_new' ?_ rfl; simp only [World.size_alloc]; done) | refine Blk.alloc ?_ _)
      rintro W1 ⟨hx1, b0, b1, b2⟩
      have lw := hx1.out.size
      have u03 : W1.cell? ⟨w.heap.size, 3, none⟩ = some (.int .u8 d) := b0.cell 3
      have u10 : W1.cell? ⟨w.heap.size + 1, 0, none⟩ = some (.int .i64 0) := b1.cell 0
      have u11 : W1.cell? ⟨w.heap.size + 1, 1, none⟩ = some (.int .i64 0) := b1.cell 1
      have u12 : W1.cell? ⟨w.heap.size + 1, 2, none⟩ = some (.slice none 0 0) := b1.cell 2
      have f10 := b1.frozen 0
      have f11 := b1.frozen 1
      have f12 := b1.frozen 2
      have u20 : W1.cell? ⟨w.heap.size + 1 + 1, 0, none⟩ = some (.int .i64 (a % 6)) := b2.cell 0
      have u21 : W1.cell? ⟨w.heap.size + 1 + 1, 1, none⟩ = some (.int .i64 (b % 4 - 1)) := b2.cell 1
      have u22 : W1.cell? ⟨w.heap.size + 1 + 1, 2, none⟩ = some (.slice none 0 0) := b2.cell 2
      have lt2 := b2.lt
      have f22 := b2.frozen 2
      have hown1 : W1.ownsRow w.heap.size 79 2 (.slice none 0 0) 0 [] := World.ownsRow_nil _ _ _ _
      go_upto_region 7 with (at_builtin; refine wpList_append_any _ rfl (.tmp 42) (.tmp 48) _ rfl w.heap.size 79 i0 _ 2 16 Try.underlying57 hi0 hz0 hz1 hz2 rfl (by decide) (.slice none 0 0) 0 [] rfl (hown1.alloc _) (W1.heap.size + 1) (some ⟨W1.heap.size, 0, none⟩) 1 1 [.int .i64 (400 + 15 * (c % 12)), .int .i64 (430 + 15 * (c % 12))] rfl (reads_last _ #[_, _] _ 2 1 _ _ (by simp) (by omega) rfl) (two_ints _ _) (by unfold maxLen; omega) (by omega) (by simp; omega) ?_; intro v1 w1 hown2 hg1 hat1; obtain ⟨A2, C2, rfl⟩ := owns_form hown2; have hk1 := Lib.hid (((Keep.refl (fun g => Value.ownBlock (.slice none 0 0) = some g ∨ g = w.heap.size + 1 + 1) W1).alloc _).grown hg1 (fun g e => Or.inl (Or.inl e))); have b1' := Lib.hid ((b1.alloc _).grown hg1 (Ne.symm (own_blk_ne hown1 b1 (by decide)))); have b2' := Lib.hid ((b2.alloc _).grown hg1 (Ne.symm (own_blk_ne hown1 b2 (by decide)))); have c22 : w1.cell? ⟨w.heap.size + 1 + 1, 2, none⟩ = some (.slice none 0 0) := b2'.out.cell 2; have f22 := b2'.out.frozen 2; clear hg1 hat1)
      refine wp_abs (S := fun W => Hid (Ext w W) ∧ Blk W (w.heap.size + 1) 59 #[.int .i64 0, .int .i64 0, .slice none 0 0] ∧ Blk W (w.heap.size + 1 + 1) 59 #[.int .i64 (a % 6), .int .i64 (b % 4 - 1), .slice A2 (0 + 1) C2] ∧ W.ownsRow w.heap.size 79 2 (.slice A2 (0 + 1) C2) (0 + 1) ([] ++ [.int .i64 (400 + 15 * (c % 12)), .int .i64 (430 + 15 * (c % 12))])) ?_ ?_
      · have kk := hk1.out.setCell (p := ⟨w.heap.size + 1 + 1, 2, none⟩) (Or.inl (Or.inr rfl)) (.slice A2 (0 + 1) C2)
        refine ⟨Lib.hid ((hx1.out.keep kk ?_)), b1'.out.far (by dsimp only; omega) _, b2'.out.set_ 2 _, ?_⟩
        · intro i hi h
          rcases h with h | h
          · have := (hown1.lt i h).1; omega
          · omega
        · exact owns_keepT hown2 ((Keep.refl (fun k => k = w.heap.size + 1 + 1) w1).setCell (Or.inl rfl) _) (TX.one b2'.out) (by decide)
      clear hk1 b1' b2' hown1 hown2 b0 b1 b2 u03 u10 u11 u12 f10 f11 f12 u20 u21 u22 f22 c22
      rintro W3 ⟨hx3, b1, b2, hown3⟩
      have f10 := b1.frozen 0
      have f11 := b1.frozen 1
      have f12 := b1.frozen 2
      have u10 : W3.cell? ⟨w.heap.size + 1, 0, none⟩ = some (.int .i64 0) := b1.cell 0
      have u11 : W3.cell? ⟨w.heap.size + 1, 1, none⟩ = some (.int .i64 0) := b1.cell 1
      have u12 : W3.cell? ⟨w.heap.size + 1, 2, none⟩ = some (.slice none 0 0) := b1.cell 2
      have u20 : W3.cell? ⟨w.heap.size + 1 + 1, 0, none⟩ = some (.int .i64 (a % 6)) := b2.cell 0
      have u21 : W3.cell? ⟨w.heap.size + 1 + 1, 1, none⟩ = some (.int .i64 (b % 4 - 1)) := b2.cell 1
      have u22 : W3.cell? ⟨w.heap.size + 1 + 1, 2, none⟩ = some (.slice A2 1 C2) := b2.cell 2
      go_wp2
      have b1s := ((b1.set_ 0 (.int .i64 (a % 6))).set_ 1 (.int .i64 (b % 4 - 1))).set_ 2 (.slice A2 1 C2)
      have v10 := b1s.cell 0
      have v11 := b1s.cell 1
      have v12 := b1s.cell 2
      simp only [List.getElem?_toArray, Array.getElem?_setIfInBounds, List.getElem?_cons_zero, List.getElem?_cons_succ] at v10 v11 v12
      have kk := (((Keep.refl (fun k => k = w.heap.size + 1) W3).setCell (p := ⟨w.heap.size + 1, 0, none⟩) (Or.inl rfl) (.int .i64 (a % 6))).setCell (p := ⟨w.heap.size + 1, 1, none⟩) (Or.inl rfl) (.int .i64 (b % 4 - 1))).setCell (p := ⟨w.heap.size + 1, 2, none⟩) (Or.inl rfl) (.slice A2 1 C2)
      have ho := owns_keepT hown3 kk (TX.one b1) (by decide)
      have hx := hx3.out.keep kk (by intro i hi h; omega)
      refine bodyPost_ret (v := .agg #[.int .i64 (a % 6), .int .i64 (b % 4 - 1), .slice A2 1 C2]) (by simp [results, Try.results34, go_sem, v10, v11, v12]) rfl ⟨_, rfl, ho, hx⟩
    · have R : Hid (optT ⟨a, b, c, d⟩ = ⟨a % 6, b % 4 - 1, []⟩) := by show _ = _; rw [R0.out, if_neg h1, if_neg h2]; rfl
      rw [R.out]
      go_enter Try.func34, Try.ntmps34
      go_upto_region 7 with (fail)
      refine wp_abs (S := fun W => Hid (Ext w W) ∧ Blk W w.heap.size 77 #[.int .u8 a, .int .u8 b, .int .u8 c, .int .u8 d] ∧ Blk W (w.heap.size + 1) 59 #[.int .i64 0, .int .i64 0, .slice none 0 0] ∧ Blk W (w.heap.size + 1 + 1) 59 #[.int .i64 (a % 6), .int .i64 (b % 4 - 1), .slice none 0 0]) ?_ ?_
      · refine ⟨Lib.hid (by exact (by repeat' (first | (with_reducible exact Ext.refl _) | (with_reducible assumption) | (with_reducible refine Ext.drewN ?_ _) | (with_reducible refine Ext.drew ?_) | (with_reducible refine Ext.alloc ?_ _) | (with_reducible refine Ext.trans ?_ (by with_reducible assumption))))), ?_, ?_, ?_⟩
        all_goals repeat (first | (refine blk_new' ?_ rfl; simp only [World.size_alloc]; done) | refine Blk.alloc ?_ _)
      rintro W1 ⟨hx1, b0, b1, b2⟩
      have lw := hx1.out.size
      have hown1 : W1.ownsRow w.heap.size 79 2 (.slice none 0 0) 0 [] := World.ownsRow_nil _ _ _ _
      have f10 := b1.frozen 0
      have f11 := b1.frozen 1
      have f12 := b1.frozen 2
      have u10 : W1.cell? ⟨w.heap.size + 1, 0, none⟩ = some (.int .i64 0) := b1.cell 0
      have u11 : W1.cell? ⟨w.heap.size + 1, 1, none⟩ = some (.int .i64 0) := b1.cell 1
      have u12 : W1.cell? ⟨w.heap.size + 1, 2, none⟩ = some (.slice none 0 0) := b1.cell 2
      have u20 : W1.cell? ⟨w.heap.size + 1 + 1, 0, none⟩ = some (.int .i64 (a % 6)) := b2.cell 0
      have u21 : W1.cell? ⟨w.heap.size + 1 + 1, 1, none⟩ = some (.int .i64 (b % 4 - 1)) := b2.cell 1
      have u22 : W1.cell? ⟨w.heap.size + 1 + 1, 2, none⟩ = some (.slice none 0 0) := b2.cell 2
      go_wp2
      have b1s := ((b1.set_ 0 (.int .i64 (a % 6))).set_ 1 (.int .i64 (b % 4 - 1))).set_ 2 (.slice none 0 0)
      have v10 := b1s.cell 0
      have v11 := b1s.cell 1
      have v12 := b1s.cell 2
      simp only [List.getElem?_toArray, Array.getElem?_setIfInBounds, List.getElem?_cons_zero, List.getElem?_cons_succ] at v10 v11 v12
      have kk := (((Keep.refl (fun k => k = w.heap.size + 1) W1).setCell (p := ⟨w.heap.size + 1, 0, none⟩) (Or.inl rfl) (.int .i64 (a % 6))).setCell (p := ⟨w.heap.size + 1, 1, none⟩) (Or.inl rfl) (.int .i64 (b % 4 - 1))).setCell (p := ⟨w.heap.size + 1, 2, none⟩) (Or.inl rfl) (.slice none 0 0)
      have ho := owns_keepT hown1 kk (TX.one b1) (by decide)
      have hx := hx1.out.keep kk (by intro i hi h; omega)
      refine bodyPost_ret (v := .agg #[.int .i64 (a % 6), .int .i64 (b % 4 - 1), .slice none 0 0]) (by simp [results, Try.results34, go_sem, v10, v11, v12]) rfl ⟨_, rfl, ho, hx⟩
end Go.Proofs.Ytonmlmkemliefaa
