/- Walks of the reference 26: Possible, Witness; the plain law of Coarser by single cells. -/
import Derived.Test.YtcmcojmhlgknoaaGV
namespace Go.Proofs.Ytcmcojmhlgknoaa
open Go.RowKit

/-! ### Possible -/
theorem bad_take {most : Int} {l : List Int} {i : Nat} {x : Int} (h : l[i]? = some x) (hx : badX most x = true) : l.any (badX most) = true := List.any_eq_true.2 ⟨x, List.mem_of_getElem? h, hx⟩
set_option maxHeartbeats 1600000 in
theorem rPossible_calls (va : Value) (view : List Int) (g n : Int) (w : World) (h : Ints w va view) :
    Calls Try.prog 40 #[va, .int .i64 g, .int .i64 n] w fun e w' => e = .returned (.bool (possB view g n)) ∧ Ext w w' := by
  obtain ⟨a, c, rfl, hn, hc, hat⟩ := h.open
  have hat' := Lib.hid hat
  clear h hat
  obtain ⟨d, hd⟩ : ∃ d, (decide ((view.length : Int) = n)) = d := ⟨_, rfl⟩
  have hd' : ((view.length : Int) == n) = d := by rw [← hd, Bool.eq_iff_iff, beq_iff_eq, decide_eq_true_iff]
  have R : Hid (possB view g n = (d && !view.any (badX (mostG g)))) := by show _ = _; unfold possB; rw [hd]
  clear hd
  by_cases h3 : 3 ≤ g
  · have d3 : decide (3 ≤ g) = true := decide_eq_true h3
    have hm : mostG g = 255 := if_pos h3
    rw [hm] at R
    clear hm h3
    go_enter Try.func40, Try.ntmps40
    go_wp2_with fail
    go_loopw [8] (fun vi wr => ∃ i : Nat, i ≤ view.length ∧ vi = .int .i64 i ∧ Hid (Ext w wr) ∧ Hid ((view.take i).any (badX 255) = false)) (fun vi _ => view.length - (intOf vi).toNat)
    case atStart => exact ⟨0, by omega, rfl, Lib.hid (Ext.refl _), rfl⟩
    case round =>
      obtain ⟨i, hi, rfl, hx, hG⟩ := hrel
      by_cases h1 : i < view.length
      · obtain ⟨b1, o1, x, rfl, hb1, _, ex, g1⟩ := hat'.out i h1 wr hx.out
        cases hbx : badX 255 x with
        | true =>
          have R2 : Hid (possB view g n = false) := by show _ = _; rw [R.out, bad_take ex.out hbx]; simp
          clear R hG
          unfold badX at hbx
          by_cases k1 : x < 0
          · have d1 : decide (x < 0) = true := decide_eq_true k1
            clear hbx k1
            go_wp2
            go_ret
            rw [R2.out]
            exact ⟨rfl, hx.out⟩
          · have d1 : decide (x < 0) = false := decide_eq_false k1
            rw [d1, Bool.false_or] at hbx
            clear k1
            go_wp2
            go_ret
            rw [R2.out]
            exact ⟨rfl, hx.out⟩
        | false =>
          have R2 : Hid ((view.take (i + 1)).any (badX 255) = false) := by show _ = _; rw [takeStep ex.out, List.any_append, hG.out]; simp [hbx]
          unfold badX at hbx
          rw [Bool.or_eq_false_iff] at hbx
          obtain ⟨d1, d2⟩ := hbx
          clear hG
          go_wp2
          go_roundw
          case rel => exact ⟨i + 1, h1, by go_num, hx, R2⟩
          case measure => simp [intOf]; omega
      · have R2 : Hid (possB view g n = d) := by
          show _ = _
          have := hG.out
          rw [List.take_of_length_le (by omega)] at this
          rw [R.out, this]
          simp
        clear R hG
        go_wp2
        go_ret
        rw [R2.out]
        exact ⟨rfl, hx.out⟩
  · have d3 : decide (3 ≤ g) = false := decide_eq_false h3
    have hm : mostG g = 1 := if_neg h3
    rw [hm] at R
    clear hm h3
    go_enter Try.func40, Try.ntmps40
    go_wp2_with fail
    go_loopw [8] (fun vi wr => ∃ i : Nat, i ≤ view.length ∧ vi = .int .i64 i ∧ Hid (Ext w wr) ∧ Hid ((view.take i).any (badX 1) = false)) (fun vi _ => view.length - (intOf vi).toNat)
    case atStart => exact ⟨0, by omega, rfl, Lib.hid (Ext.refl _), rfl⟩
    case round =>
      obtain ⟨i, hi, rfl, hx, hG⟩ := hrel
      by_cases h1 : i < view.length
      · obtain ⟨b1, o1, x, rfl, hb1, _, ex, g1⟩ := hat'.out i h1 wr hx.out
        cases hbx : badX 1 x with
        | true =>
          have R2 : Hid (possB view g n = false) := by show _ = _; rw [R.out, bad_take ex.out hbx]; simp
          clear R hG
          unfold badX at hbx
          by_cases k1 : x < 0
          · have d1 : decide (x < 0) = true := decide_eq_true k1
            clear hbx k1
            go_wp2
            go_ret
            rw [R2.out]
            exact ⟨rfl, hx.out⟩
          · have d1 : decide (x < 0) = false := decide_eq_false k1
            rw [d1, Bool.false_or] at hbx
            clear k1
            go_wp2
            go_ret
            rw [R2.out]
            exact ⟨rfl, hx.out⟩
        | false =>
          have R2 : Hid ((view.take (i + 1)).any (badX 1) = false) := by show _ = _; rw [takeStep ex.out, List.any_append, hG.out]; simp [hbx]
          unfold badX at hbx
          rw [Bool.or_eq_false_iff] at hbx
          obtain ⟨d1, d2⟩ := hbx
          clear hG
          go_wp2
          go_roundw
          case rel => exact ⟨i + 1, h1, by go_num, hx, R2⟩
          case measure => simp [intOf]; omega
      · have R2 : Hid (possB view g n = d) := by
          show _ = _
          have := hG.out
          rw [List.take_of_length_le (by omega)] at this
          rw [R.out, this]
          simp
        clear R hG
        go_wp2
        go_ret
        rw [R2.out]
        exact ⟨rfl, hx.out⟩

/-! ### Witness -/
set_option maxHeartbeats 6400000 in
set_option maxRecDepth 100000 in
theorem rWitness_calls (va : Value) (view : List Int) (g f t : Int) (w : World) (h : Ints w va view) :
    Calls Try.prog 18 #[va, .int .i64 g, .agg #[.int .i64 f, .int .i64 t]] w fun e w' => ∃ v, e = .returned (.tuple #[v, .int .i64 (witG view g f t).2]) ∧ MarksO w' w.heap.size v (witG view g f t).1 ∧ Ext w w' := by
  have hI := Lib.hid h
  obtain ⟨a, c, rfl, hn, hc, hat⟩ := h.open
  have hat' := Lib.hid hat
  clear h hat
  obtain ⟨j0, hj0, jz0, jz1, jz2⟩ := info_parts mark_info
  obtain ⟨n0, e0, hce⟩ : ∃ n0 e0, Hid (cellsG g f t = (n0, e0)) := ⟨_, _, rfl⟩
  have hcel : Hid (∀ W, Calls Try.prog 14 #[.int .i64 g, .agg #[.int .i64 f, .int .i64 t]] W fun e w' => e = .returned (.tuple #[.int .i64 n0, .int .i64 e0]) ∧ Ext W w') := fun W => by
    have := rCells_calls g f t W
    rw [hce.out] at this
    exact this
  obtain ⟨p, hp⟩ : ∃ p, Hid (possB view g n0 = p) := ⟨_, rfl⟩
  have hpos : Hid (∀ W, Ext w W → Calls Try.prog 40 #[.slice a view.length c, .int .i64 g, .int .i64 n0] W fun e w' => e = .returned (.bool p) ∧ Ext W w') := fun W hW => hp.out ▸ rPossible_calls _ view g n0 W (hI.out.ext hW)
  by_cases h0 : e0 = 0
  · have hz0 : (e0 != 0) = false := by simp [h0]
    have hce0 : (cellsG g f t).2 = 0 := by rw [hce.out]; exact h0
    cases p with
    | false =>
      have R : Hid (witG view g f t = ([], 1)) := by show _ = _; unfold witG; rw [if_pos hce0, hce.out, hp.out]; rfl
      clear hce hp h0 hce0
      go_enter Try.func18, Try.ntmps18
      go_wp2_with fail
      refine (hcel.out _).mono ?_
      rintro e w1 ⟨rfl, hx1⟩
      have hB1 : Hid (Blk w1 w.heap.size 28 #[.int .i64 f, .int .i64 t]) := Lib.hid ((Keep.of_ext (X := fun _ => False) hx1).blk (blk_new' rfl rfl) id)
      have hE1 := Lib.hid (((Ext.refl w).alloc (.cells #[.int .i64 f, .int .i64 t] 28)).trans hx1)
      clear hx1 hcel
      go_wp2_with fail
      refine (hpos.out _ hE1.out).mono ?_
      rintro e w2 ⟨rfl, hx2⟩
      go_wp2
      go_ret2
      rw [R.out]
      exact ⟨_, rfl, MarksO.nil _ _, hE1.out.trans hx2⟩
    | true =>
      have R : Hid (witG view g f t = (witL g f view view.length, 0)) := by show _ = _; unfold witG; rw [if_pos hce0, hce.out, hp.out]; rfl
      obtain ⟨hg4, hwin, hcl⟩ := cells_ok hce0
      clear hcl
      obtain ⟨n, hn1, hn2, hn3⟩ := cells_num hce0
      have hwn := window_iff.1 hwin
      have hlen : view.length = n := by
        have h1 := hp.out
        rw [hce.out] at hn1
        simp only [possB, Bool.and_eq_true, decide_eq_true_eq] at h1
        have h2 := h1.1
        dsimp only at hn1
        omega
      obtain rfl : n0 = (view.length : Int) := by rw [hlen, ← hn1, hce.out]
      have hlen2 : view.length ≤ 65536 := by omega
      obtain ⟨s, hs⟩ : ∃ s, Hid (sizeG g = s) := ⟨_, rfl⟩
      have hs1 : 1 ≤ s := by rw [← hs.out]; exact (size_pos g).1
      have hs2 : s ≤ 1440 := by rw [← hs.out]; exact (size_pos g).2
      clear hlen hn1 hn2 hn3 hwin hce h0 hce0
      have hsz : Hid (∀ W, Calls Try.prog 26 #[.int .i64 g] W fun e w' => e = .returned (.int .i64 s) ∧ Ext W w') := fun W => hs.out ▸ rSize_calls g W
      go_enter Try.func18, Try.ntmps18
      go_wp2_with fail
      refine (hcel.out _).mono ?_
      rintro e w1 ⟨rfl, hx1⟩
      have hB1 : Hid (Blk w1 w.heap.size 28 #[.int .i64 f, .int .i64 t]) := Lib.hid ((Keep.of_ext (X := fun _ => False) hx1).blk (blk_new' rfl rfl) id)
      have hE1 := Lib.hid (((Ext.refl w).alloc (.cells #[.int .i64 f, .int .i64 t] 28)).trans hx1)
      clear hx1 hcel
      go_wp2_with fail
      refine (hpos.out _ hE1.out).mono ?_
      rintro e w2 ⟨rfl, hx2⟩
      have hB2 : Hid (Blk w2 w.heap.size 28 #[.int .i64 f, .int .i64 t]) := Lib.hid ((Keep.of_ext (X := fun _ => False) hx2).blk hB1.out id)
      have hE2 := Lib.hid (hE1.out.trans hx2)
      clear hx2 hE1 hB1 hpos
      go_wp2_with fail
      have hb2lt := hB2.out.lt
      go_loopw [10, 11] (fun v10 vi wr => ∃ (i m : Nat) (A : Option Addr) (C : Nat) (out : List MarkD), i ≤ view.length ∧ m ≤ 8 * i ∧ v10 = .slice A m C ∧ vi = .int .i64 i ∧ Hid (m = out.length) ∧ Hid (out = witL g f view i) ∧ Hid (Blk wr w.heap.size 28 #[.int .i64 f, .int .i64 t]) ∧ Hid (Ext w wr) ∧ Hid (wr.ownsRow (w.heap.size + 1) 47 3 (.slice A m C) m (markCells out))) (fun _ vi _ => view.length - (intOf vi).toNat)
      case atStart => exact ⟨0, 0, _, _, [], by omega, by omega, rfl, rfl, Lib.hid rfl, Lib.hid rfl, Lib.hid (Blk.alloc hB2.out _), Lib.hid (hE2.out.alloc _), Lib.hid (World.ownsRow_made w2 #[] 0 (by omega) (by unfold maxLen; omega) rfl)⟩
      case round =>
        clear hB2 hE2
        obtain ⟨i, m, A, C, out, hi, hm8, rfl, rfl, hm, hout, hB, hx, hO⟩ := hrel
        by_cases h1 : i < view.length
        · have hb0 : 0 ≤ (i : Int) * s := Int.mul_nonneg (by omega) (by omega)
          have hb2 : (i : Int) * s ≤ 94371840 := by
            have := Int.mul_le_mul (show (i : Int) ≤ 65536 by omega) hs2 (by omega) (by omega)
            omega
          have hb3 : ((i : Int) + 1) * s = (i : Int) * s + s := by rw [Int.add_mul, Int.one_mul]
          have hblt := hB.out.lt
          have z0 := After.cell (show wr.cell? ⟨w.heap.size, 0, none⟩ = some (.int .i64 f) from hB.out.cell 0)
          go_upto_region 10 with (fail)
          refine wp_region_after (by kernel_rfl) (by kernel_rfl) ?_
          repeat (go_big_quiet_step (exact After.call _ (hsz.out _)))
          refine wpQuiet_nil ?_
          rintro _ ⟨u, rfl⟩
          have hu := u.ext
          generalize u.world = V at hu ⊢
          obtain ⟨y1, hy1⟩ : ∃ y1, Hid (f + (i : Int) * s = y1) := ⟨_, rfl⟩
          have hy1b : -2251799813685248 ≤ y1 ∧ y1 ≤ 2251799913685248 := by rw [← hy1.out]; omega
          rw [hy1.out]
          have hBV := Lib.hid ((Keep.of_ext (X := fun _ => False) hu).blk hB.out id)
          have hxV := Lib.hid (hx.out.trans hu)
          have hOV := Lib.hid (owns_ext hO.out hu)
          clear z0 u hB hx hO hu hblt
          rename World => wL
          go_wp2_with fail
          go_loopw [10, 13] (fun v10 vk wq => ∃ (k m : Nat) (A : Option Addr) (C : Nat) (out : List MarkD), k ≤ 8 ∧ m ≤ 8 * i + k ∧ v10 = .slice A m C ∧ vk = .int .i64 ((k : Int) + 1) ∧ Hid (m = out.length) ∧ Hid (out = witL g f view i ++ cellM g f i (view[i]?.getD 0) k) ∧ Hid (Blk wq w.heap.size 28 #[.int .i64 f, .int .i64 t]) ∧ Hid (Ext w wq) ∧ Hid (wq.ownsRow (w.heap.size + 1) 47 3 (.slice A m C) m (markCells out))) (fun _ vk _ => (9 - intOf vk).toNat)
          case atStart => exact ⟨0, m, A, C, out, by omega, by omega, rfl, rfl, hm, Lib.hid (by rw [hout.out]; simp [cellM]), hBV, hxV, hOV⟩
          case round =>
            clear hBV hxV hOV hm hout
            rename World => wq
            have hm8i := hm8
            clear hm8
            obtain ⟨k, m, A, C, out, hk, hm8, rfl, rfl, hm, hout, hB, hx, hO⟩ := hrel
            by_cases hk8 : k < 8
            · obtain ⟨b1, o1, x, rfl, hb1, _, ex, g1⟩ := hat'.out i h1 wq hx.out
              rw [ex.out] at hout
              obtain ⟨hx0, hx255⟩ := poss_at hp.out ex.out
              have h0 : 0 ≤ x / 2 ^ k := Int.ediv_nonneg hx0 (Int.pow_nonneg (by decide))
              have hbt : (x / 2 ^ k % 2 == 1) = bitB x k := by
                rw [Bool.eq_iff_iff, beq_iff_eq]
                unfold bitB
                rw [decide_eq_true_iff]
              have hkb : decide ((k : Int) + 1 ≤ 8) = true := decide_eq_true (by omega)
              have hsq := hx.out.size
              cases hbk : bitB x k with
              | true =>
                rw [hbk] at hbt
                have hout5 : Hid (out ++ [⟨y1, y1 + s, (k : Int) + 1⟩] = witL g f view i ++ cellM g f i (view[i]?.getD 0) (k + 1)) := by
                  show _ = _
                  rw [ex.out, Option.getD_some, cellM_yes hbk, hout.out, hs.out, hb3, ← hy1.out, List.append_assoc, Option.getD_some, show f + ((i : Int) * s + s) = f + (i : Int) * s + s by omega]
                have hm5 : Hid (m + 1 = (out ++ [(⟨y1, y1 + s, (k : Int) + 1⟩ : MarkD)]).length) := by show _ = _; rw [List.length_append, ← hm.out]; rfl
                clear hm hout hbk hm8i ex hx0 hx255
                go_wp2_with fail
                refine (hsz.out _).mono ?_
                rintro e w4 ⟨rfl, hu⟩
                have hO4 := Lib.hid (owns_ext hO.out hu)
                have hB4 := Lib.hid ((Keep.of_ext (X := fun _ => False) hu).blk hB.out id)
                have hx4 := Lib.hid (hx.out.trans hu)
                have hs4 := hx4.out.size
                have hb4 := hB4.out.lt
                clear hO hB hx hu g1 hsq
                go_wp2_with (at_builtin; refine wpList_append_any _ rfl (.tmp 54) (.tmp 63) _ rfl (w.heap.size + 1) 47 j0 _ 3 24 Try.underlying37 hj0 jz0 jz1 jz2 rfl (by decide) (.slice A m C) m (markCells out) rfl (hO4.out.alloc _) (w4.heap.size + 1) (some ⟨w4.heap.size, 0, none⟩) 1 1 [.int .i64 y1, .int .i64 (y1 + s), .int .i64 ((k : Int) + 1)] rfl (reads_last _ #[_, _, _] _ 3 1 _ _ rfl (by omega) rfl) (three_ints _ _ _) (by unfold maxLen; omega) (by omega) (by rw [World.size_alloc]; omega) ?_; intro v5 w5 hown5 hg5 hat5; obtain ⟨A5, C5, rfl⟩ := owns_form hown5)
                have hO5 : Hid (w5.ownsRow (w.heap.size + 1) 47 3 (.slice A5 (m + 1) C5) (m + 1) (markCells (out ++ [⟨y1, y1 + s, (k : Int) + 1⟩]))) := Lib.hid (by rw [markCells_app]; exact hown5)
                have hx5 := Lib.hid ((hx4.out.alloc (.cells #[.int .i64 y1, .int .i64 (y1 + s), .int .i64 ((k : Int) + 1)] 47)).grown hg5 (fun k e => Nat.le_of_succ_le (hO4.out.lt k e).1))
                have hB5 := Lib.hid ((Blk.alloc hB4.out (.cells #[.int .i64 y1, .int .i64 (y1 + s), .int .i64 ((k : Int) + 1)] 47)).grown hg5 (fun e => own_blk_ne hO4.out hB4.out (by decide) e.symm))
                clear hown5 hg5 hat5 hO4 hx4 hB4 hb4 hs4
                go_wp2
                go_roundw
                case rel => first | exact ⟨k + 1, m + 1, A5, C5, _, by omega, by omega, rfl, by go_num, hm5, hout5, hB5, hx5, hO5⟩ | ((repeat apply Exists.intro); exact ⟨⟨k + 1, m + 1, A5, C5, _, by omega, by omega, rfl, by go_num, hm5, hout5, hB5, hx5, hO5⟩, rfl⟩)
                case measure => simp [intOf] <;> omega
              | false =>
                rw [hbk] at hbt
                have hout5 : Hid (out = witL g f view i ++ cellM g f i (view[i]?.getD 0) (k + 1)) := by show _ = _; rw [ex.out, Option.getD_some, cellM_no hbk, hout.out, Option.getD_some]
                clear hout hbk hm8i ex
                go_wp2
                go_roundw
                case rel => first | exact ⟨k + 1, m, _, C, out, by omega, by omega, rfl, by go_num, hm, hout5, hB, hx, hO⟩ | ((repeat apply Exists.intro); exact ⟨⟨k + 1, m, _, C, out, by omega, by omega, rfl, by go_num, hm, hout5, hB, hx, hO⟩, rfl⟩)
                case measure => simp [intOf] <;> omega
            · obtain rfl : k = 8 := by omega
              have hout5 : Hid (out = witL g f view (i + 1)) := by
                obtain ⟨x, hx⟩ : ∃ x, view[i]? = some x := ⟨_, List.getElem?_eq_getElem h1⟩
                show _ = _
                rw [witL_succ hx, hout.out, hx]; rfl
              clear hout
              go_wp2
              go_roundw
              case rel => first | exact ⟨i + 1, m, A, C, out, h1, by omega, rfl, by go_num, hm, hout5, hB, hx, hO⟩ | ((repeat apply Exists.intro); exact ⟨⟨i + 1, m, A, C, out, h1, by omega, rfl, by go_num, hm, hout5, hB, hx, hO⟩, rfl⟩)
              case measure => simp [intOf]; omega
        · obtain rfl : i = view.length := by omega
          go_wp2
          go_ret2
          rw [R.out]
          refine ⟨_, rfl, ?_, hx.out⟩
          have hmm := hm.out
          rw [hout.out] at hmm
          subst hmm
          have := hO.out
          rw [hout.out] at this
          exact owns_base this (Nat.le_succ _)
  · have hz0 : (e0 != 0) = true := by simp [h0]
    have R : Hid (witG view g f t = ([], e0)) := by show _ = _; unfold witG; rw [hce.out, if_neg h0]
    clear hce hp h0
    go_enter Try.func18, Try.ntmps18
    go_wp2_with fail
    refine (hcel.out _).mono ?_
    rintro e w1 ⟨rfl, hx1⟩
    have hB1 : Hid (Blk w1 w.heap.size 28 #[.int .i64 f, .int .i64 t]) := Lib.hid ((Keep.of_ext (X := fun _ => False) hx1).blk (blk_new' rfl rfl) id)
    have hE1 := Lib.hid (((Ext.refl w).alloc (.cells #[.int .i64 f, .int .i64 t] 28)).trans hx1)
    clear hx1 hcel
    go_wp2
    go_ret2
    rw [R.out]
    exact ⟨_, rfl, MarksO.nil _ _, hE1.out⟩
end Go.Proofs.Ytcmcojmhlgknoaa
