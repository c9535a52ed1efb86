/- Walks of the reference of spans: insert. -/
import Derived.Test.YtjglidlmpjmjeaaGreatDoorRC
import Derived.Test.YtjglidlmpjmjeaaGreatDoorPM
import Derived.Deep.Cut
namespace Go.Proofs.YtjglidlmpjmjeaaGreatDoor
open Go.RowKit

def insL : List Int → Int → List Int
 | [], x => [x]
 | y :: r, x => if y < x then y :: insL r x else if y = x then y :: r else x :: y :: r
theorem insL_end {l : List Int} {x : Int} {i : Nat} (h : l.length ≤ i) : insL (l.drop i) x = [x] := by rw [List.drop_of_length_le h]; rfl
theorem insL_lt {l : List Int} {x y : Int} {i : Nat} (d : l.drop i = y :: l.drop (i + 1)) (e : l[i]? = some y) (h : y < x) : l.take i ++ insL (l.drop i) x = l.take (i + 1) ++ insL (l.drop (i + 1)) x := by
 rw [d, insL, if_pos h, List.take_add_one, e]
 simp
theorem insL_eq {l : List Int} {x y : Int} {i : Nat} (d : l.drop i = y :: l.drop (i + 1)) (h : y = x) : l.take i ++ insL (l.drop i) x = l := by
 rw [d, insL, if_neg (by omega), if_pos h, ← d, List.take_append_drop]
theorem insL_gt {l : List Int} {x y : Int} {i : Nat} (d : l.drop i = y :: l.drop (i + 1)) (h : ¬ y < x) (h' : y ≠ x) : l.take i ++ insL (l.drop i) x = l.take i ++ [x] ++ l.drop i := by
 rw [d, insL, if_neg h, if_neg h']; simp
theorem insL_len : ∀ (l : List Int) (x : Int), (insL l x).length ≤ l.length + 1
 | [], x => by simp [insL]
 | y :: r, x => by
  have := insL_len r x
  unfold insL
  split
  ·simp; omega
  ·split <;> simp
theorem IntsO.take {w : World} {B g c m : Nat} {l : List Int} (h : IntsO w B (.slice (some ⟨g, 0, none⟩) l.length c) l) (hm : m ≤ l.length) : w.ownsRow B 3 1 (.slice (some ⟨g, 0, none⟩) m c) m ((l.take m).map (Value.int .i64)) := by
 refine ⟨by simp; omega, ?_⟩
 rcases h.2 with ⟨h, _⟩ | ⟨g', cap', cur, h, hb, hg, hn, hcap, hcs, htake⟩
 ·cases h
 ·cases h
  exact Or.inr ⟨g, c, cur, rfl, hb, hg, by omega, hcap, hcs, by rw [List.map_take, ← htake, List.take_take]; congr 1; omega⟩
theorem IntsO.readsDrop {w : World} {B g c i : Nat} {l : List Int} (h : IntsO w B (.slice (some ⟨g, 0, none⟩) l.length c) l) (hi : i ≤ l.length) : Reads w w.heap.size 1 (if c = i then some ⟨g, 0, none⟩ else some ⟨g, i, none⟩) (l.length - i) ((l.drop i).map (Value.int .i64)) := by
 refine ⟨by simp, fun h0 => ?_⟩
 have hlt := (h.lt g rfl).2
 rcases h.2 with ⟨h', _⟩ | ⟨g', cap', cur, h', hb, hg, hn, hcap, hcs, htake⟩
 ·cases h'
 ·cases h'
  refine ⟨⟨g, i, none⟩, by rw [if_neg (by omega)], hlt, fun j u hu => ?_⟩
  have := World.ownsRow.cells h (g := g) rfl (i + j) u (by simpa using hu)
  have e : (⟨g, 0, none⟩ : Addr).add (i + j) = (⟨g, i, none⟩ : Addr).add j := by unfold Addr.add; split <;> simp_all
  rw [← e]; exact this
theorem reads_of_owns {w : World} {base : Nat} {e : TypeId} {size n : Nat} {A : Option Addr} {C : Nat} {xs : List Value} (h : w.ownsRow base e size (.slice A n C) n xs) : Reads w w.heap.size size A n xs := by
 refine ⟨h.1, fun h0 => ?_⟩
 rcases h.2 with ⟨_, h''⟩ | ⟨g, cap, cur, h', hb, hg, _⟩
 ·omega
 ·cases h'
  exact ⟨⟨g, 0, none⟩, rfl, (h.lt g rfl).2, fun j u hu => h.cells rfl j u hu⟩
theorem insert_end {B g i : Nat} {l l' : List Int} {x : Int} {w w1 w2 w3 : World} {v2 v3 : Value} (hsz : w.heap.size ≤ w1.heap.size) (hsz2 : w.heap.size ≤ w2.heap.size) (hi : i ≤ l.length) (hl : l' = l.take i ++ [x] ++ l.drop i)
  (hK : Keep (fun k => k = g) w w2) (hat2 : v2.ownBlock = some g ∨ v2.ownBlock = some w1.heap.size)
  (hown : w3.ownsRow B 3 1 v3 (i + 1 + (l.length - i)) (((l.take i).map (Value.int .i64) ++ [.int .i64 x]) ++ (l.drop i).map (Value.int .i64))) (hg3 : w2.grownBy w3 v2.ownBlock)
  (hat : v3.ownBlock = v2.ownBlock ∨ v3.ownBlock = some w2.heap.size) :
  ∃ g' c', v3 = .slice (some ⟨g', 0, none⟩) l'.length c' ∧ IntsO w3 B (.slice (some ⟨g', 0, none⟩) l'.length c') l' ∧ Keep (fun k => k = g) w w3 ∧ (g' = g ∨ w.heap.size ≤ g') := by
 have hlen : i + 1 + (l.length - i) = l'.length := by rw [hl]; simp; omega
 have hmap : ((l.take i).map (Value.int .i64) ++ [.int .i64 x]) ++ (l.drop i).map (Value.int .i64) = l'.map (Value.int .i64) := by rw [hl]; simp
 rw [hlen, hmap] at hown
 have hX : ∀ k, v2.ownBlock = some k → k = g ∨ w.heap.size ≤ k := by
  intro k hk
  rcases hat2 with h | h <;> rw [h] at hk <;> cases hk
  ·exact Or.inl rfl
  ·exact Or.inr hsz
 rcases hown.2 with ⟨_, h0⟩ | ⟨g', c', cur, e, hb, _⟩
 ·omega
 ·refine ⟨g', c', e, by rw [e] at hown; exact hown, hK.grown hg3 hX, ?_⟩
  have e' : v3.ownBlock = some g' := by rw [e]; rfl
  rcases hat with h | h
  ·exact hX g' (h ▸ e')
  ·rw [h] at e'; cases e'; exact Or.inr hsz2
set_option maxHeartbeats 3200000 in
set_option maxRecDepth 100000 in
theorem rInsert_calls (B g c : Nat) (l : List Int) (x : Int) (w : World) (h : IntsO w B (.slice (some ⟨g, 0, none⟩) l.length c) l) (hB : B ≤ w.heap.size) (hl : l.length < 100000) :
  Calls Tryz.prog 116 #[.slice (some ⟨g, 0, none⟩) l.length c, .int .i64 x] w fun e w' =>
   ∃ g' c', e = .returned (.slice (some ⟨g', 0, none⟩) (insL l x).length c') ∧ IntsO w' B (.slice (some ⟨g', 0, none⟩) (insL l x).length c') (insL l x) ∧ Keep (fun k => k = g) w w' ∧ (g' = g ∨ w.heap.size ≤ g') := by
 have hO := Lib.hid h
 obtain ⟨_, _, e0, hn, hc, aat⟩ := h.read.open
 cases e0
 have hg := (h.lt g rfl).2
 obtain ⟨j0, hj0, jz0, jz1, jz2⟩ := info_parts int_info
 have hl' := Lib.hid hl
 clear h hl
 go_enter Tryz.func116, Tryz.ntmps116
 go_wp2_with fail
 go_loopw [5] (fun vi wr => ∃ i : Nat, i ≤ l.length ∧ vi = .int .i64 i ∧ Hid (Ext w wr) ∧ Hid (insL l x = l.take i ++ insL (l.drop i) x)) (fun vi _ => l.length - (intOf vi).toNat)
 case atStart => exact ⟨0, by omega, rfl, Lib.hid (Ext.refl _), rfl⟩
 case round =>
  obtain ⟨i, hi, rfl, hx, hF⟩ := hrel
  have hOr := Lib.hid (hO.out.ext hx.out)
  have hgr : g < wr.heap.size := Nat.lt_of_lt_of_le hg hx.out.size
  by_cases h1 : i < l.length
  ·obtain ⟨b1, o1, y, e1, hb1, dy, ey, g0⟩ := aat i h1 wr hx.out
   cases e1
   rw [Nat.zero_add] at g0
   by_cases h2 : y < x
   ·have R : Hid (insL l x = l.take (i + 1) ++ insL (l.drop (i + 1)) x) := by show _ = _; rw [hF.out, insL_lt dy.out ey.out h2]
    have d2 : decide (y < x) = true := decide_eq_true h2
    clear hF aat
    go_wp2
    go_roundw
    case rel => exact ⟨i + 1, by omega, by go_num, hx, R⟩
    case measure => simp [intOf]; omega
   ·have d2 : decide (y < x) = false := decide_eq_false h2
    by_cases h3 : y = x
    ·have R : Hid (insL l x = l) := by show _ = _; rw [hF.out, insL_eq dy.out h3]
     have d3 : (y == x) = true := by rw [beq_iff_eq]; exact h3
     clear hF aat
     go_wp2
     go_ret
     rw [R.out]
     exact ⟨g, c, rfl, hOr.out, Keep.of_ext hx.out, Or.inl rfl⟩
    ·have R : Hid (insL l x = l.take i ++ [x] ++ l.drop i) := by show _ = _; rw [hF.out, insL_gt dy.out h2 h3]
     have d3 : (y == x) = false := by rw [beq_eq_false_iff_ne]; exact h3
     clear hF aat
     have hci : i ≤ c := by omega
     have hone : Hid (∀ u ∈ (l.drop i).map (Value.int .i64), u.oneCell' = true) := by intro u hu; simp only [List.mem_map] at hu; obtain ⟨z, _, rfl⟩ := hu; rfl
     have hrd := hOr.out.readsDrop hi
     have hsw := hx.out.size
     rw [if_neg (show ¬ c = i by omega)] at hrd
     have hrd' := Lib.hid hrd
     have hcz : ¬ c = i := by omega
     clear hrd
     go_wp2_with (at_builtin; first | (refine wpList_append_any _ rfl (.tmp 35) (.tmp 38) _ rfl wr.heap.size 3 j0 _ 1 8 Tryz.underlying23 hj0 jz0 jz1 jz2 rfl (by decide) (.slice (some ⟨wr.heap.size, 0, none⟩) 0 0) 0 [] rfl (World.ownsRow_made wr #[] 0 (Nat.le_refl _) (by unfold maxLen; omega) rfl) wr.heap.size _ (l.length - i) _ _ rfl (hrd'.out.alloc (Nat.le_refl _) _) hone.out (by have := hl'.out; unfold maxLen; omega) (by have := hl'.out; omega) (by rw [World.size_alloc]; omega) ?_; intro v1 w1 hown1 hg1 hat1; rw [Nat.zero_add, List.nil_append] at hown1; obtain ⟨A1, C1, rfl⟩ := owns_form hown1; have hE1 := Lib.hid (((Ext.refl wr).alloc (.cells #[] 3)).grown hg1 (by intro k hk; simp [Value.ownBlock] at hk; omega)); have hp1 := Lib.hid ((hOr.out.ext hE1.out).take hi); have hr1 := Lib.hid hown1; have hsz1 := hE1.out.size; clear hown1 hg1 hat1) | (refine wpList_append_any _ rfl (.tmp 42) (.tmp 44) _ rfl B 3 j0 _ 1 8 Tryz.underlying23 hj0 jz0 jz1 jz2 rfl (by decide) (.slice (some ⟨g, 0, none⟩) i c) i _ rfl (hp1.out.alloc _) (w1.heap.size + 1) (some ⟨w1.heap.size, 0, none⟩) 1 1 [.int .i64 x] rfl (reads_last _ #[_] _ 1 1 _ _ (by simp) (by omega) rfl) (one_int _) (by have := hl'.out; unfold maxLen; omega) (by have := hl'.out; omega) (by rw [World.size_alloc]; omega) ?_; intro v2 w2 hown2 hg2 hat2; obtain ⟨A2, C2, rfl⟩ := owns_form hown2; have hK2 := Lib.hid ((((Keep.of_ext (X := fun k => k = g) (hx.out.trans hE1.out))).alloc (.cells #[.int .i64 x] 3)).grown hg2 (by intro k hk; left; cases hk; rfl)); have hr2 := Lib.hid (World.ownsRow.kept (hr1.out.alloc _) hg2 (by right; intro e; have := (hr1.out.lt g e).1; omega)); have hro2 := Lib.hid hown2; have hat2' := Lib.hid hat2; have hsz2 := hg2.size; clear hown2 hg2 hat2) | (refine wpList_append_any _ rfl (.tmp 46) (.tmp 47) _ rfl B 3 j0 _ 1 8 Tryz.underlying23 hj0 jz0 jz1 jz2 rfl (by decide) (.slice A2 (i + 1) C2) (i + 1) _ rfl hro2.out w2.heap.size A1 (l.length - i) C1 _ rfl (reads_of_owns hr2.out) hone.out (by have := hl'.out; unfold maxLen; omega) (by have := hl'.out; omega) (by rw [World.size_alloc] at hsz2; omega) ?_; intro v3 w3 hown3 hg3 hat3; have ho3 := Lib.hid hown3; have hg3' := Lib.hid hg3; have hat3' := Lib.hid hat3; clear hown3 hg3 hat3))

     go_ret
     obtain ⟨g', c', rfl, q1, q2, q3⟩ := insert_end (l := l) (x := x) (by rw [World.size_alloc]; omega) (by rw [World.size_alloc] at hsz2; omega) hi R.out hK2.out hat2'.out ho3.out hg3'.out hat3'.out
     exact ⟨g', c', rfl, q1, q2, q3⟩
  ·have R : Hid (insL l x = l.take i ++ [x] ++ l.drop i) := by show _ = _; rw [hF.out, insL_end (by omega), List.drop_of_length_le (by omega), List.append_nil]
   clear hF aat
   have hci : i ≤ c := by omega
   have hone : Hid (∀ u ∈ (l.drop i).map (Value.int .i64), u.oneCell' = true) := by intro u hu; simp only [List.mem_map] at hu; obtain ⟨z, _, rfl⟩ := hu; rfl
   have hrd := hOr.out.readsDrop hi
   have hsw := hx.out.size
   by_cases hcz : c = i
   ·rw [if_pos hcz] at hrd
    subst hcz
    have hrd' := Lib.hid hrd
    clear hrd

    have h1' := Lib.hid h1
    clear hn h1
    go_wp2_with (at_builtin; first | (refine wpList_append_any _ rfl (.tmp 35) (.tmp 38) _ rfl wr.heap.size 3 j0 _ 1 8 Tryz.underlying23 hj0 jz0 jz1 jz2 rfl (by decide) (.slice (some ⟨wr.heap.size, 0, none⟩) 0 0) 0 [] rfl (World.ownsRow_made wr #[] 0 (Nat.le_refl _) (by unfold maxLen; omega) rfl) wr.heap.size _ (l.length - c) _ _ rfl (hrd'.out.alloc (Nat.le_refl _) _) hone.out (by have := hl'.out; unfold maxLen; omega) (by have := hl'.out; omega) (by rw [World.size_alloc]; omega) ?_; intro v1 w1 hown1 hg1 hat1; rw [Nat.zero_add, List.nil_append] at hown1; obtain ⟨A1, C1, rfl⟩ := owns_form hown1; have hE1 := Lib.hid (((Ext.refl wr).alloc (.cells #[] 3)).grown hg1 (by intro k hk; simp [Value.ownBlock] at hk; omega)); have hp1 := Lib.hid ((hOr.out.ext hE1.out).take hi); have hr1 := Lib.hid hown1; have hsz1 := hE1.out.size; clear hown1 hg1 hat1) | (refine wpList_append_any _ rfl (.tmp 42) (.tmp 44) _ rfl B 3 j0 _ 1 8 Tryz.underlying23 hj0 jz0 jz1 jz2 rfl (by decide) (.slice (some ⟨g, 0, none⟩) c c) c _ rfl (hp1.out.alloc _) (w1.heap.size + 1) (some ⟨w1.heap.size, 0, none⟩) 1 1 [.int .i64 x] rfl (reads_last _ #[_] _ 1 1 _ _ (by simp) (by omega) rfl) (one_int _) (by have := hl'.out; unfold maxLen; omega) (by have := hl'.out; omega) (by rw [World.size_alloc]; omega) ?_; intro v2 w2 hown2 hg2 hat2; obtain ⟨A2, C2, rfl⟩ := owns_form hown2; have hK2 := Lib.hid ((((Keep.of_ext (X := fun k => k = g) (hx.out.trans hE1.out))).alloc (.cells #[.int .i64 x] 3)).grown hg2 (by intro k hk; left; cases hk; rfl)); have hr2 := Lib.hid (World.ownsRow.kept (hr1.out.alloc _) hg2 (by right; intro e; have := (hr1.out.lt g e).1; omega)); have hro2 := Lib.hid hown2; have hat2' := Lib.hid hat2; have hsz2 := hg2.size; clear hown2 hg2 hat2) | (refine wpList_append_any _ rfl (.tmp 46) (.tmp 47) _ rfl B 3 j0 _ 1 8 Tryz.underlying23 hj0 jz0 jz1 jz2 rfl (by decide) (.slice A2 (c + 1) C2) (c + 1) _ rfl hro2.out w2.heap.size A1 (l.length - c) C1 _ rfl (reads_of_owns hr2.out) hone.out (by have := hl'.out; unfold maxLen; omega) (by have := hl'.out; omega) (by rw [World.size_alloc] at hsz2; omega) ?_; intro v3 w3 hown3 hg3 hat3; have ho3 := Lib.hid hown3; have hg3' := Lib.hid hg3; have hat3' := Lib.hid hat3; clear hown3 hg3 hat3))

    go_ret
    obtain ⟨g', c', rfl, q1, q2, q3⟩ := insert_end (l := l) (x := x) (by rw [World.size_alloc]; omega) (by rw [World.size_alloc] at hsz2; omega) hi R.out hK2.out hat2'.out ho3.out hg3'.out hat3'.out
    exact ⟨g', c', rfl, q1, q2, q3⟩
   ·rw [if_neg hcz] at hrd
    have hrd' := Lib.hid hrd
    clear hrd
    go_wp2_with (at_builtin; first | (refine wpList_append_any _ rfl (.tmp 35) (.tmp 38) _ rfl wr.heap.size 3 j0 _ 1 8 Tryz.underlying23 hj0 jz0 jz1 jz2 rfl (by decide) (.slice (some ⟨wr.heap.size, 0, none⟩) 0 0) 0 [] rfl (World.ownsRow_made wr #[] 0 (Nat.le_refl _) (by unfold maxLen; omega) rfl) wr.heap.size _ (l.length - i) _ _ rfl (hrd'.out.alloc (Nat.le_refl _) _) hone.out (by have := hl'.out; unfold maxLen; omega) (by have := hl'.out; omega) (by rw [World.size_alloc]; omega) ?_; intro v1 w1 hown1 hg1 hat1; rw [Nat.zero_add, List.nil_append] at hown1; obtain ⟨A1, C1, rfl⟩ := owns_form hown1; have hE1 := Lib.hid (((Ext.refl wr).alloc (.cells #[] 3)).grown hg1 (by intro k hk; simp [Value.ownBlock] at hk; omega)); have hp1 := Lib.hid ((hOr.out.ext hE1.out).take hi); have hr1 := Lib.hid hown1; have hsz1 := hE1.out.size; clear hown1 hg1 hat1) | (refine wpList_append_any _ rfl (.tmp 42) (.tmp 44) _ rfl B 3 j0 _ 1 8 Tryz.underlying23 hj0 jz0 jz1 jz2 rfl (by decide) (.slice (some ⟨g, 0, none⟩) i c) i _ rfl (hp1.out.alloc _) (w1.heap.size + 1) (some ⟨w1.heap.size, 0, none⟩) 1 1 [.int .i64 x] rfl (reads_last _ #[_] _ 1 1 _ _ (by simp) (by omega) rfl) (one_int _) (by have := hl'.out; unfold maxLen; omega) (by have := hl'.out; omega) (by rw [World.size_alloc]; omega) ?_; intro v2 w2 hown2 hg2 hat2; obtain ⟨A2, C2, rfl⟩ := owns_form hown2; have hK2 := Lib.hid ((((Keep.of_ext (X := fun k => k = g) (hx.out.trans hE1.out))).alloc (.cells #[.int .i64 x] 3)).grown hg2 (by intro k hk; left; cases hk; rfl)); have hr2 := Lib.hid (World.ownsRow.kept (hr1.out.alloc _) hg2 (by right; intro e; have := (hr1.out.lt g e).1; omega)); have hro2 := Lib.hid hown2; have hat2' := Lib.hid hat2; have hsz2 := hg2.size; clear hown2 hg2 hat2) | (refine wpList_append_any _ rfl (.tmp 46) (.tmp 47) _ rfl B 3 j0 _ 1 8 Tryz.underlying23 hj0 jz0 jz1 jz2 rfl (by decide) (.slice A2 (i + 1) C2) (i + 1) _ rfl hro2.out w2.heap.size A1 (l.length - i) C1 _ rfl (reads_of_owns hr2.out) hone.out (by have := hl'.out; unfold maxLen; omega) (by have := hl'.out; omega) (by rw [World.size_alloc] at hsz2; omega) ?_; intro v3 w3 hown3 hg3 hat3; have ho3 := Lib.hid hown3; have hg3' := Lib.hid hg3; have hat3' := Lib.hid hat3; clear hown3 hg3 hat3))

    go_ret
    obtain ⟨g', c', rfl, q1, q2, q3⟩ := insert_end (l := l) (x := x) (by rw [World.size_alloc]; omega) (by rw [World.size_alloc] at hsz2; omega) hi R.out hK2.out hat2'.out ho3.out hg3'.out hat3'.out
    exact ⟨g', c', rfl, q1, q2, q3⟩
end Go.Proofs.YtjglidlmpjmjeaaGreatDoor
