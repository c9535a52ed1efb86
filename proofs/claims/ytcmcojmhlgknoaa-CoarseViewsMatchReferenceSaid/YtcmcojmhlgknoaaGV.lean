/- Walks of the reference 26: number, View, Same, Fits. -/
import Derived.Test.YtcmcojmhlgknoaaGU
namespace Go.Proofs.Ytcmcojmhlgknoaa
open Go.RowKit

theorem numG_step {g a b : Int} {l : List MarkD} {i : Nat} {m : MarkD} (h : l[i]? = some m) : numG g (l.take (i + 1)) a b = if touchB m a b then numG g (l.take i) a b ||| bitG g m.k else numG g (l.take i) a b := by
  rw [takeStep h]
  simp [numG, numStep]
theorem numG_lt {g a b : Int} {l : List MarkD} (h : l.all markB = true) : numG g l a b < 2 ^ 8 := num_lt h 0 (by decide)
theorem all_take {l : List MarkD} (h : l.all markB = true) (i : Nat) : (l.take i).all markB = true := List.all_eq_true.2 fun m hm => List.all_eq_true.1 h m (List.mem_of_mem_take hm)
set_option maxHeartbeats 3200000 in
theorem rNumber_calls (va : Value) (l : List MarkD) (g a b : Int) (w : World) (h : Marks w va l) (hv : l.all markB = true) :
    Calls Try.prog 50 #[va, .int .i64 g, .agg #[.int .i64 a, .int .i64 b]] w fun e w' => e = .returned (.int .i64 (numG g l a b)) ∧ Ext w w' := by
  obtain ⟨la, lc, rfl, hn, hc, hat⟩ := h.open
  have hat' := Lib.hid hat
  have hv' := Lib.hid hv
  clear h hat hv
  go_enter Try.func50, Try.ntmps50
  go_upto_region 1 with (fail)
  refine wp_abs (S := fun W => Hid (Ext w W) ∧ Hid (Blk W w.heap.size 28 #[.int .i64 a, .int .i64 b])) ⟨Lib.hid (by exact (by repeat' (first | (with_reducible exact Ext.refl _) | (with_reducible assumption) | (with_reducible refine Ext.drewN ?_ _) | (with_reducible refine Ext.drew ?_) | (with_reducible refine Ext.alloc ?_ _) | (with_reducible refine Ext.trans ?_ (by with_reducible assumption))))), Lib.hid (blk_new' rfl rfl)⟩ ?_
  rintro W1 ⟨hE1, hB1⟩
  go_wp2_with fail
  go_loopw [7, 8, 9] (fun v7 vi _ wr => ∃ (i o : Nat), i ≤ l.length ∧ v7 = .int .i64 o ∧ vi = .int .i64 i ∧ Hid (o = numG g (l.take i) a b) ∧ Hid (Ext w wr) ∧ Hid (Blk wr w.heap.size 28 #[.int .i64 a, .int .i64 b])) (fun _ vi _ _ => l.length - (intOf vi).toNat)
  case atStart => exact ⟨0, 0, by omega, rfl, rfl, rfl, hE1, hB1⟩
  case round =>
    clear hE1 hB1
    obtain ⟨i, o, hi, rfl, rfl, ho, hE, hB⟩ := hrel
    by_cases h1 : i < l.length
    · obtain ⟨b1, o1, x, y, z, rfl, hb1, _, ex, g1, g2, g3⟩ := hat'.out i h1 wr hE.out
      have hm := mark_iff.1 (List.all_eq_true.1 hv'.out _ (List.mem_of_getElem? ex.out))
      dsimp only at hm
      have ho8 : o < 2 ^ 8 := by rw [ho.out]; exact numG_lt (all_take hv'.out i)
      obtain ⟨q, hq⟩ : ∃ q, Hid ((decide (x < b) && decide (a < y)) = q) := ⟨_, rfl⟩
      have ht : Hid (∀ W, Calls Try.prog 52 #[.agg #[.int .i64 x, .int .i64 y], .agg #[.int .i64 a, .int .i64 b]] W fun e w' => e = .returned (.bool q) ∧ Ext W w') := fun W => hq.out ▸ rTouches_calls x y a b W
      have hst : Hid (numG g (l.take (i + 1)) a b = if q then o ||| bitG g z else o) := by
        show _ = _
        rw [numG_step ex.out, ho.out, ← hq.out]
        rfl
      obtain ⟨kk, rfl⟩ : ∃ kk : Nat, z = (kk : Int) + 1 := ⟨(z - 1).toNat, by omega⟩
      have hkk : kk ≤ 7 := by omega
      have z1 := After.cell g1
      have z2 := After.cell g2
      have z4 := After.cell (show wr.cell? ⟨w.heap.size, 0, none⟩ = some (.int .i64 a) from hB.out.cell 0)
      have z5 := After.cell (show wr.cell? ⟨w.heap.size, 1, none⟩ = some (.int .i64 b) from hB.out.cell 1)
      clear g1 g2 hm ex ho
      cases q with
      | false =>
        have R : Hid (o = numG g (l.take (i + 1)) a b) := by show _ = _; rw [hst.out]; rfl
        clear hst
        go_upto_region 5 with (fail)
        refine wp_region_after (by kernel_rfl) (by kernel_rfl) ?_
        repeat (go_big_quiet_step (exact After.call _ (ht.out _)))
        refine wpQuiet_nil ?_
        rintro _ ⟨u, rfl⟩
        have hq2 := u.ext
        have k3 := u.ext.cell g3
        generalize u.world = V at hq2 k3 ⊢
        have hE2 := Lib.hid (hE.out.trans hq2)
        have hB2 := Lib.hid ((Keep.of_ext (X := fun _ => False) hq2).blk hB.out id)
        clear z1 z2 z4 z5 g3 hq2 hE hB hq
        clear k3
        go_wp2
        go_roundw
        case rel => first | exact ⟨i + 1, o, h1, rfl, by go_num, R, hE2, hB2⟩ | ((repeat apply Exists.intro); exact ⟨⟨i + 1, o, h1, rfl, by go_num, R, hE2, hB2⟩, rfl⟩)
        case measure => simp [intOf]; omega
      | true =>
        by_cases h3 : 3 ≤ g
        · have d3 : decide (3 ≤ g) = true := decide_eq_true h3
          have hp : 2 ^ kk ≤ 128 := Nat.pow_le_pow_right (by decide) hkk
          obtain ⟨bit, hbit, hbit2⟩ : ∃ bit : Nat, Hid (bitG g ((kk : Int) + 1) = bit ∧ bit < 2 ^ 8) ∧ wrap64 (2 ^ kk) = (bit : Int) := by
            have e1 : bitG g ((kk : Int) + 1) = 2 ^ kk := by rw [shl_bit h3]; congr 1; omega
            refine ⟨2 ^ kk, Lib.hid ⟨e1, by omega⟩, ?_⟩
            have e2 : (2 : Int) ^ kk = ((2 ^ kk : Nat) : Int) := by simp
            rw [e2]
            unfold wrap64; omega
          have R : Hid (o ||| bit = numG g (l.take (i + 1)) a b) := by show _ = _; rw [hst.out, hbit.out.1]; rfl
          have hor : bits .or .i64 (o : Int) (bit : Int) = ((o ||| bit : Nat) : Int) := or_nat o bit ho8 hbit.out.2
          clear hst hbit h3
          go_upto_region 5 with (fail)
          refine wp_region_after (by kernel_rfl) (by kernel_rfl) ?_
          repeat (go_big_quiet_step (exact After.call _ (ht.out _)))
          refine wpQuiet_nil ?_
          rintro _ ⟨u, rfl⟩
          have hq2 := u.ext
          have k3 := u.ext.cell g3
          generalize u.world = V at hq2 k3 ⊢
          have hE2 := Lib.hid (hE.out.trans hq2)
          have hB2 := Lib.hid ((Keep.of_ext (X := fun _ => False) hq2).blk hB.out id)
          clear z1 z2 z4 z5 g3 hq2 hE hB hq
          go_wp2
          refine ⟨?_, ?_⟩
          · exact ⟨i + 1, o ||| bit, h1, rfl, by go_num, R, hE2, hB2⟩
          · simp [intOf]; omega
        · have d3 : decide (3 ≤ g) = false := decide_eq_false h3
          have R : Hid (o ||| 1 = numG g (l.take (i + 1)) a b) := by show _ = _; rw [hst.out, bitG_low (by omega)]; rfl
          have hor : bits .or .i64 (o : Int) 1 = ((o ||| 1 : Nat) : Int) := or_nat o 1 ho8 (by omega)
          clear hst h3
          go_upto_region 5 with (fail)
          refine wp_region_after (by kernel_rfl) (by kernel_rfl) ?_
          repeat (go_big_quiet_step (exact After.call _ (ht.out _)))
          refine wpQuiet_nil ?_
          rintro _ ⟨u, rfl⟩
          have hq2 := u.ext
          have k3 := u.ext.cell g3
          generalize u.world = V at hq2 k3 ⊢
          have hE2 := Lib.hid (hE.out.trans hq2)
          have hB2 := Lib.hid ((Keep.of_ext (X := fun _ => False) hq2).blk hB.out id)
          clear z1 z2 z4 z5 g3 hq2 hE hB hq
          go_wp2
          refine ⟨?_, ?_⟩
          · exact ⟨i + 1, o ||| 1, h1, rfl, by go_num, R, hE2, hB2⟩
          · simp [intOf]; omega
    · have R : Hid (o = numG g l a b) := by
        have := ho.out
        rwa [List.take_of_length_le (by omega)] at this
      go_wp2
      go_ret
      rw [R.out]
      exact ⟨rfl, hE.out⟩

/-! ### View -/
theorem nums_nil (w : World) : Nums w (.slice none 0 0) [] := ⟨none, 0, rfl, Nat.le_refl _, by unfold maxLen; omega, fun h => absurd h (by simp)⟩
theorem viewN_succ (g : Int) (l : List MarkD) (f : Int) (i : Nat) : viewN g l f (i + 1) = viewN g l f i ++ [cellN g l f i] := by simp [viewN, List.range_succ]
def numC (l : List Nat) : List Value := l.map fun n : Nat => Value.int .i64 (n : Int)
theorem numC_succ (g : Int) (l : List MarkD) (f : Int) (i : Nat) : numC (viewN g l f (i + 1)) = numC (viewN g l f i) ++ [.int .i64 (cellN g l f i : Int)] := by rw [viewN_succ]; simp [numC]
set_option maxHeartbeats 3200000 in
theorem rView_calls (lv : Value) (l : List MarkD) (g f t : Int) (w : World) (h : Marks w lv l) :
    Calls Try.prog 27 #[lv, .int .i64 g, .agg #[.int .i64 f, .int .i64 t]] w fun e w' => ∃ v, e = .returned (.tuple #[v, .int .i64 (viewG l g f t).2]) ∧ Nums w' v (viewG l g f t).1 ∧ Ext w w' := by
  have hL := Lib.hid h
  obtain ⟨lA, lC, rfl⟩ := h.form
  clear h
  obtain ⟨q, hq⟩ : ∃ q, Hid (l.all markB = q) := ⟨_, rfl⟩
  have hVal : Hid (∀ W, Ext w W → Calls Try.prog 49 #[.slice lA l.length lC] W fun e w' => e = .returned (.bool q) ∧ Ext W w') := fun W hW => hq.out ▸ rValid_calls _ l W (hL.out.ext hW)
  cases q with
  | false =>
    have R : Hid (viewG l g f t = ([], 1)) := view_bad hq.out g f t
    clear hq
    go_enter Try.func27, Try.ntmps27
    go_wp2_with fail
    refine (hVal.out _ (by repeat' (first | (with_reducible exact Ext.refl _) | (with_reducible assumption) | (with_reducible refine Ext.drewN ?_ _) | (with_reducible refine Ext.drew ?_) | (with_reducible refine Ext.alloc ?_ _) | (with_reducible refine Ext.trans ?_ (by with_reducible assumption))))).mono ?_
    rintro e w1 ⟨rfl, hx1⟩
    have hB1 : Hid (Blk w1 w.heap.size 28 #[.int .i64 f, .int .i64 t]) := Lib.hid ((Keep.of_ext (X := fun _ => False) hx1).blk (blk_new' rfl rfl) id)
    have hE1 := Lib.hid (((Ext.refl w).alloc (.cells #[.int .i64 f, .int .i64 t] 28)).trans hx1)
    clear hx1 hVal
    go_wp2
    go_ret2
    rw [R.out]
    exact ⟨_, rfl, nums_nil _, hE1.out⟩
  | true =>
    obtain ⟨c1, c2, hc⟩ : ∃ c1 c2, Hid (cellsG g f t = (c1, c2)) := ⟨_, _, rfl⟩
    have hCells : Hid (∀ W, Calls Try.prog 14 #[.int .i64 g, .agg #[.int .i64 f, .int .i64 t]] W fun e w' => e = .returned (.tuple #[.int .i64 c1, .int .i64 c2]) ∧ Ext W w') := fun W => by
      have := rCells_calls g f t W
      rwa [hc.out] at this
    by_cases h2 : c2 = 0
    · subst h2
      have hc0 : (cellsG g f t).2 = 0 := by rw [hc.out]
      obtain ⟨n, hn1, hn2, hn3⟩ := cells_num hc0
      obtain rfl : c1 = (n : Int) := by rw [← hn1, hc.out]
      obtain ⟨hg4, hwin, _, _, _, _⟩ := cells_ok hc0
      rw [window_iff] at hwin
      have R : Hid (viewG l g f t = (viewN g l f n, 0)) := by
        show _ = _
        unfold viewG
        rw [hq.out, if_pos rfl, hc.out, if_pos rfl]
        rfl
      obtain ⟨s, hs⟩ : ∃ s, Hid (sizeG g = s) := ⟨_, rfl⟩
      have hs1 : 1 ≤ s := by rw [← hs.out]; exact (size_pos g).1
      have hs2 : s ≤ 1440 := by rw [← hs.out]; exact (size_pos g).2
      have hsz : Hid (∀ W, Calls Try.prog 26 #[.int .i64 g] W fun e w' => e = .returned (.int .i64 s) ∧ Ext W w') := fun W => hs.out ▸ rSize_calls g W
      have hN : Hid (∀ W x y, Ext w W → Calls Try.prog 50 #[.slice lA l.length lC, .int .i64 g, .agg #[.int .i64 x, .int .i64 y]] W fun e w' => e = .returned (.int .i64 (numG g l x y)) ∧ Ext W w') := fun W x y hW => rNumber_calls _ l g x y W (hL.out.ext hW) hq.out
      rw [hs.out] at hn3
      have hn3' := Lib.hid hn3
      obtain ⟨j0, hj0, jz0, jz1, jz2⟩ := info_parts int_info
      obtain ⟨hw1, hw2, hw3⟩ := hwin
      clear hq hc hc0 hn1 hn3 hL
      go_enter Try.func27, Try.ntmps27
      go_wp2_with fail
      refine (hVal.out _ (by repeat' (first | (with_reducible exact Ext.refl _) | (with_reducible assumption) | (with_reducible refine Ext.drewN ?_ _) | (with_reducible refine Ext.drew ?_) | (with_reducible refine Ext.alloc ?_ _) | (with_reducible refine Ext.trans ?_ (by with_reducible assumption))))).mono ?_
      rintro e w1 ⟨rfl, hx1⟩
      have hB1 : Hid (Blk w1 w.heap.size 28 #[.int .i64 f, .int .i64 t]) := Lib.hid ((Keep.of_ext (X := fun _ => False) hx1).blk (blk_new' rfl rfl) id)
      have hE1 := Lib.hid (((Ext.refl w).alloc (.cells #[.int .i64 f, .int .i64 t] 28)).trans hx1)
      clear hx1 hVal
      have b0 : w1.cell? ⟨w.heap.size, 0, none⟩ = some (.int .i64 f) := hB1.out.cell 0
      have b1 : w1.cell? ⟨w.heap.size, 1, none⟩ = some (.int .i64 t) := hB1.out.cell 1
      go_wp2_with fail
      refine (hCells.out _).mono ?_
      rintro e w2 ⟨rfl, hx2⟩
      have hB2 := Lib.hid ((Keep.of_ext (X := fun _ => False) hx2).blk hB1.out id)
      have hE2 := Lib.hid (hE1.out.trans hx2)
      clear b0 b1 hB1 hE1 hx2 hCells
      go_wp2_with fail
      go_loopw [10, 11, 12] (fun v10 vi _ wr => ∃ (i : Nat) (A : Option Addr) (C : Nat), i ≤ n ∧ v10 = .slice A i C ∧ vi = .int .i64 i ∧ Hid (wr.ownsRow (w.heap.size + 1) 3 1 (.slice A i C) i (numC (viewN g l f i))) ∧ Hid (Blk wr w.heap.size 28 #[.int .i64 f, .int .i64 t]) ∧ Hid (Ext w wr)) (fun _ vi _ _ => n - (intOf vi).toNat)
      case atStart => exact ⟨0, _, _, by omega, rfl, rfl, Lib.hid (World.ownsRow_made w2 #[] 0 (by have := hB2.out.lt; omega) (by unfold maxLen; omega) rfl), Lib.hid (Blk.alloc hB2.out _), Lib.hid (hE2.out.alloc _)⟩
      case round =>
        clear hB2 hE2
        obtain ⟨i, A, C, hi, rfl, rfl, hO, hB, hE⟩ := hrel
        by_cases h1 : i < n
        · obtain ⟨p, hp⟩ : ∃ p, (i : Int) * s = p := ⟨_, rfl⟩
          have hp0 : 0 ≤ p := by rw [← hp]; exact Int.mul_nonneg (by omega) (by omega)
          have hp1 : p + s ≤ t - f := by
            have := mul_mono hs1 (show (i : Int) + 1 ≤ n by omega)
            rw [Int.add_mul, Int.one_mul, hp] at this
            have := hn3'.out
            omega
          have hcell : Hid (cellN g l f i = numG g l (f + p) (f + p + s)) := by show _ = _; unfold cellN; rw [hs.out, hp]
          have hnext := Lib.hid (numC_succ g l f i)
          rw [hcell.out] at hnext
          obtain ⟨x, hx⟩ : ∃ x, Hid (numG g l (f + p) (f + p + s) = x) := ⟨_, rfl⟩
          rw [hx.out] at hnext
          have z0 := After.cell (show wr.cell? ⟨w.heap.size, 0, none⟩ = some (.int .i64 f) from hB.out.cell 0)
          have hblt := hB.out.lt
          clear hcell
          go_upto_region 10 with (fail)
          refine wp_region_after (by kernel_rfl) (by kernel_rfl) ?_
          repeat (go_big_quiet_step (exact After.call _ (hsz.out _)))
          refine wpQuiet_nil ?_
          rintro _ ⟨u, rfl⟩
          have hu := u.ext
          generalize u.world = V at hu ⊢
          have hO2 := Lib.hid (owns_ext hO.out hu)
          have hB2 := Lib.hid ((Keep.of_ext (X := fun _ => False) hu).blk hB.out id)
          have hE2 := Lib.hid (hE.out.trans hu)
          clear z0 u hu hO hB hE hp hblt
          go_wp2_with fail
          refine (hsz.out _).mono ?_
          rintro e w4 ⟨rfl, hu⟩
          have hO := Lib.hid (owns_ext hO2.out hu)
          have hB := Lib.hid ((Keep.of_ext (X := fun _ => False) hu).blk hB2.out id)
          have hE := Lib.hid (hE2.out.trans hu)
          clear hu hO2 hB2 hE2
          go_wp2_with fail
          refine (hN.out _ _ _ hE.out).mono ?_
          rw [hx.out]
          rintro e w5 ⟨rfl, hu⟩
          have hO2 := Lib.hid (owns_ext hO.out hu)
          have hB2 := Lib.hid ((Keep.of_ext (X := fun _ => False) hu).blk hB.out id)
          have hE2 := Lib.hid (hE.out.trans hu)
          have hblt := hB2.out.lt
          clear hu hO hB hE hx
          go_wp2_with (at_builtin; refine wpList_append_any _ rfl (.tmp 38) (.tmp 48) _ rfl (w.heap.size + 1) 3 j0 _ 1 8 Try.underlying22 hj0 jz0 jz1 jz2 rfl (by decide) (.slice A i C) i _ rfl (hO2.out.alloc _) (w5.heap.size + 1) (some ⟨w5.heap.size, 0, none⟩) 1 1 [.int .i64 (x : Int)] rfl (reads_last _ #[_] _ 1 1 _ _ rfl (by omega) rfl) (one_int _) (by unfold maxLen; omega) (by omega) (by rw [World.size_alloc]; omega) ?_; intro v6 w6 hown6 hg6 hat6; obtain ⟨A6, C6, rfl⟩ := owns_form hown6)
          have hO : Hid (w6.ownsRow (w.heap.size + 1) 3 1 (.slice A6 (i + 1) C6) (i + 1) (numC (viewN g l f (i + 1)))) := by rw [hnext.out]; exact Lib.hid hown6
          have hB := Lib.hid ((Blk.alloc hB2.out (.cells #[.int .i64 (x : Int)] 3)).grown hg6 (fun e => by have h := (hO2.out.lt _ e.symm).1; omega))
          have hE := Lib.hid ((hE2.out.alloc (.cells #[.int .i64 (x : Int)] 3)).grown hg6 (fun k e => by have h := (hO2.out.lt _ e).1; omega))
          clear hown6 hg6 hat6 hO2 hB2 hE2 hnext hblt
          go_wp2
          go_roundw
          case rel => first | exact ⟨i + 1, A6, C6, h1, rfl, by go_num, hO, hB, hE⟩ | ((repeat apply Exists.intro); exact ⟨⟨i + 1, A6, C6, h1, rfl, by go_num, hO, hB, hE⟩, rfl⟩)
          case measure => simp [intOf]; omega
        · obtain rfl : i = n := by omega
          go_wp2
          go_ret2
          rw [R.out]
          refine ⟨_, rfl, ?_, hE.out⟩
          have := nums_of_own (l := viewN g l f i) (v := .slice A i C) (by rw [viewN_len]; exact hO.out)
          exact this
    · have z2 : (c2 != 0) = true := by simp [h2]
      have R : Hid (viewG l g f t = ([], c2)) := by
        show _ = _
        unfold viewG
        rw [hq.out, if_pos rfl, hc.out, if_neg h2]
      clear hq hc h2 hL
      go_enter Try.func27, Try.ntmps27
      go_wp2_with fail
      refine (hVal.out _ (by repeat' (first | (with_reducible exact Ext.refl _) | (with_reducible assumption) | (with_reducible refine Ext.drewN ?_ _) | (with_reducible refine Ext.drew ?_) | (with_reducible refine Ext.alloc ?_ _) | (with_reducible refine Ext.trans ?_ (by with_reducible assumption))))).mono ?_
      rintro e w1 ⟨rfl, hx1⟩
      have hB1 : Hid (Blk w1 w.heap.size 28 #[.int .i64 f, .int .i64 t]) := Lib.hid ((Keep.of_ext (X := fun _ => False) hx1).blk (blk_new' rfl rfl) id)
      have hE1 := Lib.hid (((Ext.refl w).alloc (.cells #[.int .i64 f, .int .i64 t] 28)).trans hx1)
      clear hx1 hVal
      have b0 : w1.cell? ⟨w.heap.size, 0, none⟩ = some (.int .i64 f) := hB1.out.cell 0
      have b1 : w1.cell? ⟨w.heap.size, 1, none⟩ = some (.int .i64 t) := hB1.out.cell 1
      go_wp2_with fail
      refine (hCells.out _).mono ?_
      rintro e w2 ⟨rfl, hx2⟩
      have hB2 := Lib.hid ((Keep.of_ext (X := fun _ => False) hx2).blk hB1.out id)
      have hE2 := Lib.hid (hE1.out.trans hx2)
      clear b0 b1 hB1 hE1 hx2 hCells
      go_wp2
      go_ret2
      rw [R.out]
      exact ⟨_, rfl, nums_nil _, hE2.out⟩

/-! ### Same -/
set_option maxHeartbeats 1600000 in
theorem rSame_calls (va vb : Value) (a b : List MarkD) (g f t : Int) (w : World) (ha : Marks w va a) (hb : Marks w vb b) :
    Calls Try.prog 30 #[va, vb, .int .i64 g, .agg #[.int .i64 f, .int .i64 t]] w fun e w' => e = .returned (.tuple #[.bool (sameG a b g f t).1, .int .i64 (sameG a b g f t).2]) ∧ Ext w w' := by
  have ha' := Lib.hid ha
  have hb' := Lib.hid hb
  obtain ⟨aA, aC, rfl⟩ := ha.form
  obtain ⟨bA, bC, rfl⟩ := hb.form
  obtain ⟨x, e1, hv1⟩ : ∃ x e1, Hid (viewG a g f t = (x, e1)) := ⟨_, _, rfl⟩
  obtain ⟨y, e2, hv2⟩ : ∃ y e2, Hid (viewG b g f t = (y, e2)) := ⟨_, _, rfl⟩
  have hc1 : Hid (∀ W, Ext w W → Calls Try.prog 27 #[.slice aA a.length aC, .int .i64 g, .agg #[.int .i64 f, .int .i64 t]] W fun e w' => ∃ v, e = .returned (.tuple #[v, .int .i64 e1]) ∧ Nums w' v x ∧ Ext W w') := fun W hW => by
    have := rView_calls _ a g f t W (ha'.out.ext hW)
    rwa [hv1.out] at this
  have hc2 : Hid (∀ W, Ext w W → Calls Try.prog 27 #[.slice bA b.length bC, .int .i64 g, .agg #[.int .i64 f, .int .i64 t]] W fun e w' => ∃ v, e = .returned (.tuple #[v, .int .i64 e2]) ∧ Nums w' v y ∧ Ext W w') := fun W hW => by
    have := rView_calls _ b g f t W (hb'.out.ext hW)
    rwa [hv2.out] at this
  clear ha hb ha' hb'
  go_enter Try.func30, Try.ntmps30
  go_wp2_with fail
  refine (hc1.out _ (by repeat' (first | (with_reducible exact Ext.refl _) | (with_reducible assumption) | (with_reducible refine Ext.drewN ?_ _) | (with_reducible refine Ext.drew ?_) | (with_reducible refine Ext.alloc ?_ _) | (with_reducible refine Ext.trans ?_ (by with_reducible assumption))))).mono ?_
  rintro e w1 ⟨vx, rfl, hx, hx1⟩
  obtain ⟨xA, xC, rfl⟩ := hx.form
  have hX := Lib.hid hx
  have c0 : w1.cell? ⟨w.heap.size, 0, none⟩ = some (.int .i64 f) := hx1.cell (by simp)
  have c1 : w1.cell? ⟨w.heap.size, 1, none⟩ = some (.int .i64 t) := hx1.cell (by simp)
  have hE1 := Lib.hid (((Ext.refl w).alloc (.cells #[.int .i64 f, .int .i64 t] 28)).trans hx1)
  clear hx hx1 hc1
  by_cases h1 : e1 = 0
  · have z1 : (e1 != 0) = false := by simp [h1]
    go_wp2_with fail
    refine (hc2.out _ hE1.out).mono ?_
    rintro e w2 ⟨vy, rfl, hy, hx2⟩
    obtain ⟨yA, yC, rfl⟩ := hy.form
    have hE2 := Lib.hid (hE1.out.trans hx2)
    by_cases h2 : e2 = 0
    · have z2 : (e2 != 0) = false := by simp [h2]
      have hq := Lib.hid (rNumbers_calls _ _ x y w2 (hX.out.ext hx2) hy)
      have R : Hid (sameG a b g f t = (decide (x = y), 0)) := by show _ = _; unfold sameG; rw [hv1.out, hv2.out, if_pos h1, if_pos h2]
      clear hx2 hy hX hE1 h1 h2 c0 c1 hv1 hv2
      go_wp2_with fail
      refine hq.out.mono ?_
      rintro e w3 ⟨rfl, hx3⟩
      clear hq
      go_wp2
      go_ret2
      rw [R.out]
      exact ⟨rfl, hE2.out.trans hx3⟩
    · have z2 : (e2 != 0) = true := by simp [h2]
      have R : Hid (sameG a b g f t = (false, e2)) := by show _ = _; unfold sameG; rw [hv1.out, hv2.out, if_pos h1, if_neg h2]
      clear hx2 hy hX hE1 h1 h2 c0 c1 hv1 hv2
      go_wp2
      go_ret2
      rw [R.out]
      exact ⟨rfl, hE2.out⟩
  · have z1 : (e1 != 0) = true := by simp [h1]
    have R : Hid (sameG a b g f t = (false, e1)) := by show _ = _; unfold sameG; rw [hv1.out, if_neg h1]
    clear h1 hv1 hv2
    go_wp2
    go_ret2
    rw [R.out]
    exact ⟨rfl, hE1.out⟩


/-! ### Fits -/
theorem hits_step {l : List MarkD} {q : List (Int × Int)} {i : Nat} {m : MarkD} (h : l[i]? = some m) : hitsB (l.take (i + 1)) q = (hitsB (l.take i) q || q.any fun s => touchB m s.1 s.2) := by
  rw [takeStep h]; simp [hitsB]
set_option maxHeartbeats 3200000 in
theorem rFits_calls (va vq : Value) (l : List MarkD) (g : Int) (q : List (Int × Int)) (w : World) (ha : Marks w va l) (hs : Spans w vq q) :
    Calls Try.prog 31 #[va, .int .i64 g, vq] w fun e w' => e = .returned (.tuple #[.bool (fitsG l g q).1, .int .i64 (fitsG l g q).2]) ∧ Ext w w' := by
  have hL := Lib.hid ha
  obtain ⟨lA, lC, rfl, hln, hlc, hat⟩ := ha.open
  obtain ⟨qA, qC, rfl, hqn, hqc, hqt⟩ := hs.open
  have hat' := Lib.hid hat
  have hqt' := Lib.hid hqt
  clear ha hs hat hqt
  obtain ⟨v, hv⟩ : ∃ v, Hid (l.all markB = v) := ⟨_, rfl⟩
  have hVal : Hid (∀ W, Ext w W → Calls Try.prog 49 #[.slice lA l.length lC] W fun e w' => e = .returned (.bool v) ∧ Ext W w') := fun W hW => hv.out ▸ rValid_calls _ l W (hL.out.ext hW)
  obtain ⟨ok, hok⟩ : ∃ ok, Hid ((l.all markB && grainB g) = ok) := ⟨_, rfl⟩
  have hF : Hid (fitsG l g q = if ok && q.all propB then (if g < 2 then (false, 12) else if 65536 < q.length then (false, 2) else (!hitsB l q, 0)) else (false, 1)) := by
    show _ = _
    unfold fitsG
    rw [← hok.out, Bool.and_assoc]
  cases v with
  | false =>
    have hokv : Hid (ok = false) := by show _ = _; rw [← hok.out, hv.out]; rfl
    clear hv hok
    go_enter Try.func31, Try.ntmps31
    go_wp2_with fail
    refine (hVal.out _ (Ext.refl _)).mono ?_
    rintro e w1 ⟨rfl, hx1⟩
    have hE := Lib.hid hx1
    clear hx1 hVal
    go_wp2_with fail
    go_loopw [8, 9] (fun v8 vi wr => ∃ (i : Nat) (b : Bool), i ≤ q.length ∧ v8 = .bool b ∧ vi = .int .i64 i ∧ Hid (b = (ok && (q.take i).all propB)) ∧ Hid (Ext w wr)) (fun _ vi _ => q.length - (intOf vi).toNat)
    case atStart => exact ⟨0, _, by omega, rfl, rfl, Lib.hid (by rw [hokv.out]; simp), hE⟩
    case round =>
      clear hE hokv
      obtain ⟨i, b, hi, rfl, rfl, hb, hE⟩ := hrel
      by_cases h1 : i < q.length ∧ b = true
      · obtain ⟨h1, rfl⟩ := h1
        obtain ⟨b1, o1, x, y, rfl, hb1, _, ex, g1, g2⟩ := hqt'.out i h1 wr hE.out
        have hw : Hid (∀ W, Calls Try.prog 34 #[.agg #[.int .i64 x, .int .i64 y]] W fun e w' => e = .returned (.bool (windowB x y)) ∧ Ext W w') := fun W => rwin_calls x y W
        have hstep : Hid ((ok && (q.take (i + 1)).all propB) = propB (x, y)) := by
          show _ = _
          rw [takeStep ex.out, List.all_append, ← Bool.and_assoc, ← hb.out]
          simp
        have hpx : Hid (propB (x, y) = (windowB x y && decide (x < y))) := by
          show _ = _
          unfold propB
          dsimp only
          cases hwq : windowB x y with
          | false => rfl
          | true =>
            have := window_iff.1 hwq
            rw [Bool.true_and, Bool.true_and, Bool.eq_iff_iff, Bool.not_eq_true', decide_eq_false_iff_not, decide_eq_true_iff]
            omega
        obtain ⟨c, hc⟩ : ∃ c, Hid (windowB x y = c) := ⟨_, rfl⟩
        rw [hc.out] at hw hpx
        have z1 := After.cell g1
        have z2 := After.cell g2
        clear ex hb hc g1 g2
        cases c with
        | false =>
          have R : Hid (false = (ok && (q.take (i + 1)).all propB)) := by show _ = _; rw [hstep.out, hpx.out]; rfl
          clear hstep hpx
          go_upto_region 4 with (fail)
          refine wp_region_after (by kernel_rfl) (by kernel_rfl) ?_
          repeat (go_big_quiet_step (exact After.call _ (hw.out _)))
          refine wpQuiet_nil ?_
          rintro _ ⟨u, rfl⟩
          have hE2 := Lib.hid (hE.out.trans u.ext)
          generalize u.world = V at hE2 ⊢
          clear z1 z2 hE
          go_wp2
          go_roundw
          case rel => first | exact ⟨i + 1, _, h1, rfl, by go_num, R, hE2⟩ | ((repeat apply Exists.intro); exact ⟨⟨i + 1, _, h1, rfl, by go_num, R, hE2⟩, rfl⟩)
          case measure => simp [intOf]; omega
        | true =>
          obtain ⟨r, hr⟩ : ∃ r, decide (x < y) = r := ⟨_, rfl⟩
          have R : Hid (r = (ok && (q.take (i + 1)).all propB)) := by show _ = _; rw [hstep.out, hpx.out, hr]; rfl
          clear hstep hpx
          go_upto_region 4 with (fail)
          refine wp_region_after (by kernel_rfl) (by kernel_rfl) ?_
          repeat (go_big_quiet_step (exact After.call _ (hw.out _)))
          refine wpQuiet_nil ?_
          rintro _ ⟨u, rfl⟩
          have hE2 := Lib.hid (hE.out.trans u.ext)
          generalize u.world = V at hE2 ⊢
          clear z1 z2 hE
          go_wp2
          go_roundw
          case rel => first | exact ⟨i + 1, _, h1, rfl, by go_num, R, hE2⟩ | ((repeat apply Exists.intro); exact ⟨⟨i + 1, _, h1, rfl, by go_num, R, hE2⟩, rfl⟩)
          case measure => simp [intOf]; omega
      · have hbf : Hid (b = (ok && q.all propB)) := by
          show _ = _
          by_cases h2 : i < q.length
          · have hb0 : b = false := by
              cases b with
              | false => rfl
              | true => exact absurd ⟨h2, rfl⟩ h1
            have h3 := hb.out
            rw [hb0] at h3 ⊢
            cases ok with
            | false => rfl
            | true =>
              rw [Bool.true_and] at h3 ⊢
              symm
              rw [Bool.eq_false_iff]
              intro h4
              have : (q.take i).all propB = true := List.all_eq_true.2 fun s hs => List.all_eq_true.1 h4 s (List.mem_of_mem_take hs)
              rw [this] at h3
              cases h3
          · have := hb.out
            rwa [List.take_of_length_le (by omega)] at this
        have dc : (decide (i < q.length) && b) = false := by
          rw [Bool.and_eq_false_iff]
          by_cases h2 : i < q.length
          · right
            cases b with
            | false => rfl
            | true => exact absurd ⟨h2, rfl⟩ h1
          · left
            exact decide_eq_false h2
        rw [← hbf.out] at hF
        clear hbf hb
        by_cases h2 : i < q.length
        · obtain rfl : b = false := by
            cases b with
            | false => rfl
            | true => exact absurd ⟨h2, rfl⟩ h1
          have R : Hid (fitsG l g q = (false, 1)) := by show _ = _; rw [hF.out]; rfl
          clear h1 dc hF
          go_wp2
          go_ret2
          rw [R.out]
          exact ⟨rfl, hE.out⟩
        · clear dc h1
          cases b with
          | false =>
            have R : Hid (fitsG l g q = (false, 1)) := by show _ = _; rw [hF.out]; rfl
            clear hF
            go_wp2
            go_ret2
            rw [R.out]
            exact ⟨rfl, hE.out⟩
          | true =>
            by_cases h3 : g < 2
            · have d3 : decide (g < 2) = true := decide_eq_true h3
              have R : Hid (fitsG l g q = (false, 12)) := by show _ = _; rw [hF.out, if_pos rfl, if_pos h3]
              clear hF h3
              go_wp2
              go_ret2
              rw [R.out]
              exact ⟨rfl, hE.out⟩
            · have d3 : decide (g < 2) = false := decide_eq_false h3
              by_cases h4 : 65536 < q.length
              · have d4 : decide (65536 < q.length) = true := decide_eq_true h4
                have R : Hid (fitsG l g q = (false, 2)) := by show _ = _; rw [hF.out, if_pos rfl, if_neg h3, if_pos h4]
                clear hF h3
                go_wp2
                go_ret2
                rw [R.out]
                exact ⟨rfl, hE.out⟩
              · have hR : Hid (fitsG l g q = (!hitsB l q, 0)) := by show _ = _; rw [hF.out, if_pos rfl, if_neg h3, if_neg h4]
                have d4 : decide (65536 < q.length) = false := decide_eq_false h4
                clear hF h3 hi
                go_wp2_with fail
                clear h2
                rename World => wM
                go_loopw [10, 11] (fun vi _ wr => ∃ i : Nat, i ≤ l.length ∧ vi = .int .i64 i ∧ Hid (hitsB (l.take i) q = false) ∧ Hid (Ext w wr)) (fun vi _ _ => l.length - (intOf vi).toNat)
                case atStart => exact ⟨0, by omega, rfl, rfl, hE⟩
                case round =>
                  clear hE
                  obtain ⟨i, hi, rfl, hH, hE⟩ := hrel
                  by_cases h1 : i < l.length
                  · obtain ⟨x, y, z, hxyz⟩ : ∃ x y z, Hid (l[i]? = some ⟨x, y, z⟩) := ⟨_, _, _, List.getElem?_eq_getElem h1⟩
                    rename World => wL
                    go_wp2_with fail
                    go_loopw [11] (fun vk wr => ∃ k : Nat, k ≤ q.length ∧ vk = .int .i64 k ∧ Hid (((q.take k).any fun s => touchB ⟨x, y, z⟩ s.1 s.2) = false) ∧ Hid (Ext w wr)) (fun vk _ => q.length - (intOf vk).toNat)
                    case atStart => exact ⟨0, by omega, rfl, rfl, hE⟩
                    case round =>
                      clear hE
                      obtain ⟨k, hk, rfl, hK, hE⟩ := hrel
                      by_cases h2 : k < q.length
                      · obtain ⟨b1, o1, x', y', z', rfl, hb1, _, ex, g1, g2, g3⟩ := hat'.out i h1 wr hE.out
                        obtain ⟨rfl, rfl, rfl⟩ : x' = x ∧ y' = y ∧ z' = z := by
                          have := ex.out.symm.trans hxyz.out
                          cases this
                          exact ⟨rfl, rfl, rfl⟩
                        obtain ⟨b2, o2, u, v, rfl, hb2, _, eu, k1, k2⟩ := hqt'.out k h2 wr hE.out
                        obtain ⟨r, hr⟩ : ∃ r, Hid ((decide (x' < v) && decide (u < y')) = r) := ⟨_, rfl⟩
                        have ht : Hid (∀ W, Calls Try.prog 52 #[.agg #[.int .i64 x', .int .i64 y'], .agg #[.int .i64 u, .int .i64 v]] W fun e w' => e = .returned (.bool r) ∧ Ext W w') := fun W => hr.out ▸ rTouches_calls x' y' u v W
                        have hkst : Hid (((q.take (k + 1)).any fun s => touchB ⟨x', y', z'⟩ s.1 s.2) = r) := by
                          show _ = _
                          rw [takeStep eu.out, List.any_append, hK.out, ← hr.out]
                          simp [touchB]
                        have z1 := After.cell g1
                        have z2 := After.cell g2
                        have z4 := After.cell k1
                        have z5 := After.cell k2
                        clear ex eu hr hK g1 g2 g3 k1 k2
                        cases r with
                        | true =>
                          have R : Hid (fitsG l g q = (false, 0)) := by
                            show _ = _
                            rw [hR.out]
                            have h1' : hitsB l q = true := by
                              obtain ⟨s, hs, hts⟩ := List.any_eq_true.1 hkst.out
                              exact List.any_eq_true.2 ⟨_, List.mem_of_getElem? hxyz.out, List.any_eq_true.2 ⟨s, List.mem_of_mem_take hs, hts⟩⟩
                            rw [h1']
                            rfl
                          clear hkst hR hxyz
                          go_upto_region 18 with (fail)
                          refine wp_region_after (by kernel_rfl) (by kernel_rfl) ?_
                          repeat (go_big_quiet_step (exact After.call _ (ht.out _)))
                          refine wpQuiet_nil ?_
                          rintro _ ⟨yy, rfl⟩
                          have hE2 := Lib.hid (hE.out.trans yy.ext)
                          generalize yy.world = V at hE2 ⊢
                          clear z1 z2 z4 z5 hE
                          go_wp2
                          go_ret2
                          rw [R.out]
                          exact ⟨rfl, hE2.out⟩
                        | false =>
                          go_upto_region 18 with (fail)
                          refine wp_region_after (by kernel_rfl) (by kernel_rfl) ?_
                          repeat (go_big_quiet_step (exact After.call _ (ht.out _)))
                          refine wpQuiet_nil ?_
                          rintro _ ⟨yy, rfl⟩
                          have hE2 := Lib.hid (hE.out.trans yy.ext)
                          generalize yy.world = V at hE2 ⊢
                          clear z1 z2 z4 z5 hE
                          go_wp2
                          go_roundw
                          case rel => first | exact ⟨k + 1, h2, by go_num, hkst, hE2⟩ | ((repeat apply Exists.intro); exact ⟨⟨k + 1, h2, by go_num, hkst, hE2⟩, rfl⟩)
                          case measure => simp [intOf]; omega
                      · have hH2 : Hid (hitsB (l.take (i + 1)) q = false) := by
                          show _ = _
                          have := hK.out
                          rw [List.take_of_length_le (by omega)] at this
                          rw [hits_step hxyz.out, hH.out, this]
                          rfl
                        clear hK hH hxyz
                        go_wp2
                        go_roundw
                        case rel => first | exact ⟨i + 1, h1, by go_num, hH2, hE⟩ | ((repeat apply Exists.intro); exact ⟨⟨i + 1, h1, by go_num, hH2, hE⟩, rfl⟩)
                        case measure => simp [intOf]; omega
                  · have R : Hid (fitsG l g q = (true, 0)) := by
                      show _ = _
                      have := hH.out
                      rw [List.take_of_length_le (by omega)] at this
                      rw [hR.out, this]
                      rfl
                    clear hR hH
                    go_wp2
                    go_ret2
                    rw [R.out]
                    exact ⟨rfl, hE.out⟩
  | true =>
    by_cases k1 : 0 ≤ g
    · have d1 : decide (0 ≤ g) = true := decide_eq_true k1
      obtain ⟨r, hr⟩ : ∃ r, decide (g ≤ 4) = r := ⟨_, rfl⟩
      have hokv : Hid (ok = r) := by show _ = _; rw [← hok.out, hv.out]; unfold grainB; rw [d1, hr]; rfl
      clear hv hok k1
      go_enter Try.func31, Try.ntmps31
      go_wp2_with fail
      refine (hVal.out _ (Ext.refl _)).mono ?_
      rintro e w1 ⟨rfl, hx1⟩
      have hE := Lib.hid hx1
      clear hx1 hVal
      go_wp2_with fail
      go_loopw [8, 9] (fun v8 vi wr => ∃ (i : Nat) (b : Bool), i ≤ q.length ∧ v8 = .bool b ∧ vi = .int .i64 i ∧ Hid (b = (ok && (q.take i).all propB)) ∧ Hid (Ext w wr)) (fun _ vi _ => q.length - (intOf vi).toNat)
      case atStart => exact ⟨0, _, by omega, rfl, rfl, Lib.hid (by rw [hokv.out]; simp), hE⟩
      case round =>
        clear hE hokv
        obtain ⟨i, b, hi, rfl, rfl, hb, hE⟩ := hrel
        by_cases h1 : i < q.length ∧ b = true
        · obtain ⟨h1, rfl⟩ := h1
          obtain ⟨b1, o1, x, y, rfl, hb1, _, ex, g1, g2⟩ := hqt'.out i h1 wr hE.out
          have hw : Hid (∀ W, Calls Try.prog 34 #[.agg #[.int .i64 x, .int .i64 y]] W fun e w' => e = .returned (.bool (windowB x y)) ∧ Ext W w') := fun W => rwin_calls x y W
          have hstep : Hid ((ok && (q.take (i + 1)).all propB) = propB (x, y)) := by
            show _ = _
            rw [takeStep ex.out, List.all_append, ← Bool.and_assoc, ← hb.out]
            simp
          have hpx : Hid (propB (x, y) = (windowB x y && decide (x < y))) := by
            show _ = _
            unfold propB
            dsimp only
            cases hwq : windowB x y with
            | false => rfl
            | true =>
              have := window_iff.1 hwq
              rw [Bool.true_and, Bool.true_and, Bool.eq_iff_iff, Bool.not_eq_true', decide_eq_false_iff_not, decide_eq_true_iff]
              omega
          obtain ⟨c, hc⟩ : ∃ c, Hid (windowB x y = c) := ⟨_, rfl⟩
          rw [hc.out] at hw hpx
          have z1 := After.cell g1
          have z2 := After.cell g2
          clear ex hb hc g1 g2
          cases c with
          | false =>
            have R : Hid (false = (ok && (q.take (i + 1)).all propB)) := by show _ = _; rw [hstep.out, hpx.out]; rfl
            clear hstep hpx
            go_upto_region 4 with (fail)
            refine wp_region_after (by kernel_rfl) (by kernel_rfl) ?_
            repeat (go_big_quiet_step (exact After.call _ (hw.out _)))
            refine wpQuiet_nil ?_
            rintro _ ⟨u, rfl⟩
            have hE2 := Lib.hid (hE.out.trans u.ext)
            generalize u.world = V at hE2 ⊢
            clear z1 z2 hE
            go_wp2
            go_roundw
            case rel => first | exact ⟨i + 1, _, h1, rfl, by go_num, R, hE2⟩ | ((repeat apply Exists.intro); exact ⟨⟨i + 1, _, h1, rfl, by go_num, R, hE2⟩, rfl⟩)
            case measure => simp [intOf]; omega
          | true =>
            obtain ⟨r, hr⟩ : ∃ r, decide (x < y) = r := ⟨_, rfl⟩
            have R : Hid (r = (ok && (q.take (i + 1)).all propB)) := by show _ = _; rw [hstep.out, hpx.out, hr]; rfl
            clear hstep hpx
            go_upto_region 4 with (fail)
            refine wp_region_after (by kernel_rfl) (by kernel_rfl) ?_
            repeat (go_big_quiet_step (exact After.call _ (hw.out _)))
            refine wpQuiet_nil ?_
            rintro _ ⟨u, rfl⟩
            have hE2 := Lib.hid (hE.out.trans u.ext)
            generalize u.world = V at hE2 ⊢
            clear z1 z2 hE
            go_wp2
            go_roundw
            case rel => first | exact ⟨i + 1, _, h1, rfl, by go_num, R, hE2⟩ | ((repeat apply Exists.intro); exact ⟨⟨i + 1, _, h1, rfl, by go_num, R, hE2⟩, rfl⟩)
            case measure => simp [intOf]; omega
        · have hbf : Hid (b = (ok && q.all propB)) := by
            show _ = _
            by_cases h2 : i < q.length
            · have hb0 : b = false := by
                cases b with
                | false => rfl
                | true => exact absurd ⟨h2, rfl⟩ h1
              have h3 := hb.out
              rw [hb0] at h3 ⊢
              cases ok with
              | false => rfl
              | true =>
                rw [Bool.true_and] at h3 ⊢
                symm
                rw [Bool.eq_false_iff]
                intro h4
                have : (q.take i).all propB = true := List.all_eq_true.2 fun s hs => List.all_eq_true.1 h4 s (List.mem_of_mem_take hs)
                rw [this] at h3
                cases h3
            · have := hb.out
              rwa [List.take_of_length_le (by omega)] at this
          have dc : (decide (i < q.length) && b) = false := by
            rw [Bool.and_eq_false_iff]
            by_cases h2 : i < q.length
            · right
              cases b with
              | false => rfl
              | true => exact absurd ⟨h2, rfl⟩ h1
            · left
              exact decide_eq_false h2
          rw [← hbf.out] at hF
          clear hbf hb
          by_cases h2 : i < q.length
          · obtain rfl : b = false := by
              cases b with
              | false => rfl
              | true => exact absurd ⟨h2, rfl⟩ h1
            have R : Hid (fitsG l g q = (false, 1)) := by show _ = _; rw [hF.out]; rfl
            clear h1 dc hF
            go_wp2
            go_ret2
            rw [R.out]
            exact ⟨rfl, hE.out⟩
          · clear dc h1
            cases b with
            | false =>
              have R : Hid (fitsG l g q = (false, 1)) := by show _ = _; rw [hF.out]; rfl
              clear hF
              go_wp2
              go_ret2
              rw [R.out]
              exact ⟨rfl, hE.out⟩
            | true =>
              by_cases h3 : g < 2
              · have d3 : decide (g < 2) = true := decide_eq_true h3
                have R : Hid (fitsG l g q = (false, 12)) := by show _ = _; rw [hF.out, if_pos rfl, if_pos h3]
                clear hF h3
                go_wp2
                go_ret2
                rw [R.out]
                exact ⟨rfl, hE.out⟩
              · have d3 : decide (g < 2) = false := decide_eq_false h3
                by_cases h4 : 65536 < q.length
                · have d4 : decide (65536 < q.length) = true := decide_eq_true h4
                  have R : Hid (fitsG l g q = (false, 2)) := by show _ = _; rw [hF.out, if_pos rfl, if_neg h3, if_pos h4]
                  clear hF h3
                  go_wp2
                  go_ret2
                  rw [R.out]
                  exact ⟨rfl, hE.out⟩
                · have hR : Hid (fitsG l g q = (!hitsB l q, 0)) := by show _ = _; rw [hF.out, if_pos rfl, if_neg h3, if_neg h4]
                  have d4 : decide (65536 < q.length) = false := decide_eq_false h4
                  clear hF h3 hi
                  go_wp2_with fail
                  clear h2
                  rename World => wM
                  go_loopw [10, 11] (fun vi _ wr => ∃ i : Nat, i ≤ l.length ∧ vi = .int .i64 i ∧ Hid (hitsB (l.take i) q = false) ∧ Hid (Ext w wr)) (fun vi _ _ => l.length - (intOf vi).toNat)
                  case atStart => exact ⟨0, by omega, rfl, rfl, hE⟩
                  case round =>
                    clear hE
                    obtain ⟨i, hi, rfl, hH, hE⟩ := hrel
                    by_cases h1 : i < l.length
                    · obtain ⟨x, y, z, hxyz⟩ : ∃ x y z, Hid (l[i]? = some ⟨x, y, z⟩) := ⟨_, _, _, List.getElem?_eq_getElem h1⟩
                      rename World => wL
                      go_wp2_with fail
                      go_loopw [11] (fun vk wr => ∃ k : Nat, k ≤ q.length ∧ vk = .int .i64 k ∧ Hid (((q.take k).any fun s => touchB ⟨x, y, z⟩ s.1 s.2) = false) ∧ Hid (Ext w wr)) (fun vk _ => q.length - (intOf vk).toNat)
                      case atStart => exact ⟨0, by omega, rfl, rfl, hE⟩
                      case round =>
                        clear hE
                        obtain ⟨k, hk, rfl, hK, hE⟩ := hrel
                        by_cases h2 : k < q.length
                        · obtain ⟨b1, o1, x', y', z', rfl, hb1, _, ex, g1, g2, g3⟩ := hat'.out i h1 wr hE.out
                          obtain ⟨rfl, rfl, rfl⟩ : x' = x ∧ y' = y ∧ z' = z := by
                            have := ex.out.symm.trans hxyz.out
                            cases this
                            exact ⟨rfl, rfl, rfl⟩
                          obtain ⟨b2, o2, u, v, rfl, hb2, _, eu, k1, k2⟩ := hqt'.out k h2 wr hE.out
                          obtain ⟨r, hr⟩ : ∃ r, Hid ((decide (x' < v) && decide (u < y')) = r) := ⟨_, rfl⟩
                          have ht : Hid (∀ W, Calls Try.prog 52 #[.agg #[.int .i64 x', .int .i64 y'], .agg #[.int .i64 u, .int .i64 v]] W fun e w' => e = .returned (.bool r) ∧ Ext W w') := fun W => hr.out ▸ rTouches_calls x' y' u v W
                          have hkst : Hid (((q.take (k + 1)).any fun s => touchB ⟨x', y', z'⟩ s.1 s.2) = r) := by
                            show _ = _
                            rw [takeStep eu.out, List.any_append, hK.out, ← hr.out]
                            simp [touchB]
                          have z1 := After.cell g1
                          have z2 := After.cell g2
                          have z4 := After.cell k1
                          have z5 := After.cell k2
                          clear ex eu hr hK g1 g2 g3 k1 k2
                          cases r with
                          | true =>
                            have R : Hid (fitsG l g q = (false, 0)) := by
                              show _ = _
                              rw [hR.out]
                              have h1' : hitsB l q = true := by
                                obtain ⟨s, hs, hts⟩ := List.any_eq_true.1 hkst.out
                                exact List.any_eq_true.2 ⟨_, List.mem_of_getElem? hxyz.out, List.any_eq_true.2 ⟨s, List.mem_of_mem_take hs, hts⟩⟩
                              rw [h1']
                              rfl
                            clear hkst hR hxyz
                            go_upto_region 18 with (fail)
                            refine wp_region_after (by kernel_rfl) (by kernel_rfl) ?_
                            repeat (go_big_quiet_step (exact After.call _ (ht.out _)))
                            refine wpQuiet_nil ?_
                            rintro _ ⟨yy, rfl⟩
                            have hE2 := Lib.hid (hE.out.trans yy.ext)
                            generalize yy.world = V at hE2 ⊢
                            clear z1 z2 z4 z5 hE
                            go_wp2
                            go_ret2
                            rw [R.out]
                            exact ⟨rfl, hE2.out⟩
                          | false =>
                            go_upto_region 18 with (fail)
                            refine wp_region_after (by kernel_rfl) (by kernel_rfl) ?_
                            repeat (go_big_quiet_step (exact After.call _ (ht.out _)))
                            refine wpQuiet_nil ?_
                            rintro _ ⟨yy, rfl⟩
                            have hE2 := Lib.hid (hE.out.trans yy.ext)
                            generalize yy.world = V at hE2 ⊢
                            clear z1 z2 z4 z5 hE
                            go_wp2
                            go_roundw
                            case rel => first | exact ⟨k + 1, h2, by go_num, hkst, hE2⟩ | ((repeat apply Exists.intro); exact ⟨⟨k + 1, h2, by go_num, hkst, hE2⟩, rfl⟩)
                            case measure => simp [intOf]; omega
                        · have hH2 : Hid (hitsB (l.take (i + 1)) q = false) := by
                            show _ = _
                            have := hK.out
                            rw [List.take_of_length_le (by omega)] at this
                            rw [hits_step hxyz.out, hH.out, this]
                            rfl
                          clear hK hH hxyz
                          go_wp2
                          go_roundw
                          case rel => first | exact ⟨i + 1, h1, by go_num, hH2, hE⟩ | ((repeat apply Exists.intro); exact ⟨⟨i + 1, h1, by go_num, hH2, hE⟩, rfl⟩)
                          case measure => simp [intOf]; omega
                    · have R : Hid (fitsG l g q = (true, 0)) := by
                        show _ = _
                        have := hH.out
                        rw [List.take_of_length_le (by omega)] at this
                        rw [hR.out, this]
                        rfl
                      clear hR hH
                      go_wp2
                      go_ret2
                      rw [R.out]
                      exact ⟨rfl, hE.out⟩
    · have d1 : decide (0 ≤ g) = false := decide_eq_false k1
      have hokv : Hid (ok = false) := by show _ = _; rw [← hok.out, hv.out]; unfold grainB; rw [d1]; rfl
      clear hv hok k1
      go_enter Try.func31, Try.ntmps31
      go_wp2_with fail
      refine (hVal.out _ (Ext.refl _)).mono ?_
      rintro e w1 ⟨rfl, hx1⟩
      have hE := Lib.hid hx1
      clear hx1 hVal
      go_wp2_with fail
      go_loopw [8, 9] (fun v8 vi wr => ∃ (i : Nat) (b : Bool), i ≤ q.length ∧ v8 = .bool b ∧ vi = .int .i64 i ∧ Hid (b = (ok && (q.take i).all propB)) ∧ Hid (Ext w wr)) (fun _ vi _ => q.length - (intOf vi).toNat)
      case atStart => exact ⟨0, _, by omega, rfl, rfl, Lib.hid (by rw [hokv.out]; simp), hE⟩
      case round =>
        clear hE hokv
        obtain ⟨i, b, hi, rfl, rfl, hb, hE⟩ := hrel
        by_cases h1 : i < q.length ∧ b = true
        · obtain ⟨h1, rfl⟩ := h1
          obtain ⟨b1, o1, x, y, rfl, hb1, _, ex, g1, g2⟩ := hqt'.out i h1 wr hE.out
          have hw : Hid (∀ W, Calls Try.prog 34 #[.agg #[.int .i64 x, .int .i64 y]] W fun e w' => e = .returned (.bool (windowB x y)) ∧ Ext W w') := fun W => rwin_calls x y W
          have hstep : Hid ((ok && (q.take (i + 1)).all propB) = propB (x, y)) := by
            show _ = _
            rw [takeStep ex.out, List.all_append, ← Bool.and_assoc, ← hb.out]
            simp
          have hpx : Hid (propB (x, y) = (windowB x y && decide (x < y))) := by
            show _ = _
            unfold propB
            dsimp only
            cases hwq : windowB x y with
            | false => rfl
            | true =>
              have := window_iff.1 hwq
              rw [Bool.true_and, Bool.true_and, Bool.eq_iff_iff, Bool.not_eq_true', decide_eq_false_iff_not, decide_eq_true_iff]
              omega
          obtain ⟨c, hc⟩ : ∃ c, Hid (windowB x y = c) := ⟨_, rfl⟩
          rw [hc.out] at hw hpx
          have z1 := After.cell g1
          have z2 := After.cell g2
          clear ex hb hc g1 g2
          cases c with
          | false =>
            have R : Hid (false = (ok && (q.take (i + 1)).all propB)) := by show _ = _; rw [hstep.out, hpx.out]; rfl
            clear hstep hpx
            go_upto_region 4 with (fail)
            refine wp_region_after (by kernel_rfl) (by kernel_rfl) ?_
            repeat (go_big_quiet_step (exact After.call _ (hw.out _)))
            refine wpQuiet_nil ?_
            rintro _ ⟨u, rfl⟩
            have hE2 := Lib.hid (hE.out.trans u.ext)
            generalize u.world = V at hE2 ⊢
            clear z1 z2 hE
            go_wp2
            go_roundw
            case rel => first | exact ⟨i + 1, _, h1, rfl, by go_num, R, hE2⟩ | ((repeat apply Exists.intro); exact ⟨⟨i + 1, _, h1, rfl, by go_num, R, hE2⟩, rfl⟩)
            case measure => simp [intOf]; omega
          | true =>
            obtain ⟨r, hr⟩ : ∃ r, decide (x < y) = r := ⟨_, rfl⟩
            have R : Hid (r = (ok && (q.take (i + 1)).all propB)) := by show _ = _; rw [hstep.out, hpx.out, hr]; rfl
            clear hstep hpx
            go_upto_region 4 with (fail)
            refine wp_region_after (by kernel_rfl) (by kernel_rfl) ?_
            repeat (go_big_quiet_step (exact After.call _ (hw.out _)))
            refine wpQuiet_nil ?_
            rintro _ ⟨u, rfl⟩
            have hE2 := Lib.hid (hE.out.trans u.ext)
            generalize u.world = V at hE2 ⊢
            clear z1 z2 hE
            go_wp2
            go_roundw
            case rel => first | exact ⟨i + 1, _, h1, rfl, by go_num, R, hE2⟩ | ((repeat apply Exists.intro); exact ⟨⟨i + 1, _, h1, rfl, by go_num, R, hE2⟩, rfl⟩)
            case measure => simp [intOf]; omega
        · have hbf : Hid (b = (ok && q.all propB)) := by
            show _ = _
            by_cases h2 : i < q.length
            · have hb0 : b = false := by
                cases b with
                | false => rfl
                | true => exact absurd ⟨h2, rfl⟩ h1
              have h3 := hb.out
              rw [hb0] at h3 ⊢
              cases ok with
              | false => rfl
              | true =>
                rw [Bool.true_and] at h3 ⊢
                symm
                rw [Bool.eq_false_iff]
                intro h4
                have : (q.take i).all propB = true := List.all_eq_true.2 fun s hs => List.all_eq_true.1 h4 s (List.mem_of_mem_take hs)
                rw [this] at h3
                cases h3
            · have := hb.out
              rwa [List.take_of_length_le (by omega)] at this
          have dc : (decide (i < q.length) && b) = false := by
            rw [Bool.and_eq_false_iff]
            by_cases h2 : i < q.length
            · right
              cases b with
              | false => rfl
              | true => exact absurd ⟨h2, rfl⟩ h1
            · left
              exact decide_eq_false h2
          rw [← hbf.out] at hF
          clear hbf hb
          by_cases h2 : i < q.length
          · obtain rfl : b = false := by
              cases b with
              | false => rfl
              | true => exact absurd ⟨h2, rfl⟩ h1
            have R : Hid (fitsG l g q = (false, 1)) := by show _ = _; rw [hF.out]; rfl
            clear h1 dc hF
            go_wp2
            go_ret2
            rw [R.out]
            exact ⟨rfl, hE.out⟩
          · clear dc h1
            cases b with
            | false =>
              have R : Hid (fitsG l g q = (false, 1)) := by show _ = _; rw [hF.out]; rfl
              clear hF
              go_wp2
              go_ret2
              rw [R.out]
              exact ⟨rfl, hE.out⟩
            | true =>
              by_cases h3 : g < 2
              · have d3 : decide (g < 2) = true := decide_eq_true h3
                have R : Hid (fitsG l g q = (false, 12)) := by show _ = _; rw [hF.out, if_pos rfl, if_pos h3]
                clear hF h3
                go_wp2
                go_ret2
                rw [R.out]
                exact ⟨rfl, hE.out⟩
              · have d3 : decide (g < 2) = false := decide_eq_false h3
                by_cases h4 : 65536 < q.length
                · have d4 : decide (65536 < q.length) = true := decide_eq_true h4
                  have R : Hid (fitsG l g q = (false, 2)) := by show _ = _; rw [hF.out, if_pos rfl, if_neg h3, if_pos h4]
                  clear hF h3
                  go_wp2
                  go_ret2
                  rw [R.out]
                  exact ⟨rfl, hE.out⟩
                · have hR : Hid (fitsG l g q = (!hitsB l q, 0)) := by show _ = _; rw [hF.out, if_pos rfl, if_neg h3, if_neg h4]
                  have d4 : decide (65536 < q.length) = false := decide_eq_false h4
                  clear hF h3 hi
                  go_wp2_with fail
                  clear h2
                  rename World => wM
                  go_loopw [10, 11] (fun vi _ wr => ∃ i : Nat, i ≤ l.length ∧ vi = .int .i64 i ∧ Hid (hitsB (l.take i) q = false) ∧ Hid (Ext w wr)) (fun vi _ _ => l.length - (intOf vi).toNat)
                  case atStart => exact ⟨0, by omega, rfl, rfl, hE⟩
                  case round =>
                    clear hE
                    obtain ⟨i, hi, rfl, hH, hE⟩ := hrel
                    by_cases h1 : i < l.length
                    · obtain ⟨x, y, z, hxyz⟩ : ∃ x y z, Hid (l[i]? = some ⟨x, y, z⟩) := ⟨_, _, _, List.getElem?_eq_getElem h1⟩
                      rename World => wL
                      go_wp2_with fail
                      go_loopw [11] (fun vk wr => ∃ k : Nat, k ≤ q.length ∧ vk = .int .i64 k ∧ Hid (((q.take k).any fun s => touchB ⟨x, y, z⟩ s.1 s.2) = false) ∧ Hid (Ext w wr)) (fun vk _ => q.length - (intOf vk).toNat)
                      case atStart => exact ⟨0, by omega, rfl, rfl, hE⟩
                      case round =>
                        clear hE
                        obtain ⟨k, hk, rfl, hK, hE⟩ := hrel
                        by_cases h2 : k < q.length
                        · obtain ⟨b1, o1, x', y', z', rfl, hb1, _, ex, g1, g2, g3⟩ := hat'.out i h1 wr hE.out
                          obtain ⟨rfl, rfl, rfl⟩ : x' = x ∧ y' = y ∧ z' = z := by
                            have := ex.out.symm.trans hxyz.out
                            cases this
                            exact ⟨rfl, rfl, rfl⟩
                          obtain ⟨b2, o2, u, v, rfl, hb2, _, eu, k1, k2⟩ := hqt'.out k h2 wr hE.out
                          obtain ⟨r, hr⟩ : ∃ r, Hid ((decide (x' < v) && decide (u < y')) = r) := ⟨_, rfl⟩
                          have ht : Hid (∀ W, Calls Try.prog 52 #[.agg #[.int .i64 x', .int .i64 y'], .agg #[.int .i64 u, .int .i64 v]] W fun e w' => e = .returned (.bool r) ∧ Ext W w') := fun W => hr.out ▸ rTouches_calls x' y' u v W
                          have hkst : Hid (((q.take (k + 1)).any fun s => touchB ⟨x', y', z'⟩ s.1 s.2) = r) := by
                            show _ = _
                            rw [takeStep eu.out, List.any_append, hK.out, ← hr.out]
                            simp [touchB]
                          have z1 := After.cell g1
                          have z2 := After.cell g2
                          have z4 := After.cell k1
                          have z5 := After.cell k2
                          clear ex eu hr hK g1 g2 g3 k1 k2
                          cases r with
                          | true =>
                            have R : Hid (fitsG l g q = (false, 0)) := by
                              show _ = _
                              rw [hR.out]
                              have h1' : hitsB l q = true := by
                                obtain ⟨s, hs, hts⟩ := List.any_eq_true.1 hkst.out
                                exact List.any_eq_true.2 ⟨_, List.mem_of_getElem? hxyz.out, List.any_eq_true.2 ⟨s, List.mem_of_mem_take hs, hts⟩⟩
                              rw [h1']
                              rfl
                            clear hkst hR hxyz
                            go_upto_region 18 with (fail)
                            refine wp_region_after (by kernel_rfl) (by kernel_rfl) ?_
                            repeat (go_big_quiet_step (exact After.call _ (ht.out _)))
                            refine wpQuiet_nil ?_
                            rintro _ ⟨yy, rfl⟩
                            have hE2 := Lib.hid (hE.out.trans yy.ext)
                            generalize yy.world = V at hE2 ⊢
                            clear z1 z2 z4 z5 hE
                            go_wp2
                            go_ret2
                            rw [R.out]
                            exact ⟨rfl, hE2.out⟩
                          | false =>
                            go_upto_region 18 with (fail)
                            refine wp_region_after (by kernel_rfl) (by kernel_rfl) ?_
                            repeat (go_big_quiet_step (exact After.call _ (ht.out _)))
                            refine wpQuiet_nil ?_
                            rintro _ ⟨yy, rfl⟩
                            have hE2 := Lib.hid (hE.out.trans yy.ext)
                            generalize yy.world = V at hE2 ⊢
                            clear z1 z2 z4 z5 hE
                            go_wp2
                            go_roundw
                            case rel => first | exact ⟨k + 1, h2, by go_num, hkst, hE2⟩ | ((repeat apply Exists.intro); exact ⟨⟨k + 1, h2, by go_num, hkst, hE2⟩, rfl⟩)
                            case measure => simp [intOf]; omega
                        · have hH2 : Hid (hitsB (l.take (i + 1)) q = false) := by
                            show _ = _
                            have := hK.out
                            rw [List.take_of_length_le (by omega)] at this
                            rw [hits_step hxyz.out, hH.out, this]
                            rfl
                          clear hK hH hxyz
                          go_wp2
                          go_roundw
                          case rel => first | exact ⟨i + 1, h1, by go_num, hH2, hE⟩ | ((repeat apply Exists.intro); exact ⟨⟨i + 1, h1, by go_num, hH2, hE⟩, rfl⟩)
                          case measure => simp [intOf]; omega
                    · have R : Hid (fitsG l g q = (true, 0)) := by
                        show _ = _
                        have := hH.out
                        rw [List.take_of_length_le (by omega)] at this
                        rw [hR.out, this]
                        rfl
                      clear hR hH
                      go_wp2
                      go_ret2
                      rw [R.out]
                      exact ⟨rfl, hE.out⟩
end Go.Proofs.Ytcmcojmhlgknoaa
