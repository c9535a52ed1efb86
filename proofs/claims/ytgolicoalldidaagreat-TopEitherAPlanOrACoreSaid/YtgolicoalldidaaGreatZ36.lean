import Derived.Test.YtgolicoalldidaaGreatZ35
import Derived.Deep.Upon
import Derived.Lib.AppendZeros
set_option maxHeartbeats 12800000
namespace Go.Proofs.YtgolicoalldidaaGreat
open Go.RowKit
theorem without_calls (va : Value) (l : List Int) (i : Nat) (w : World) (h : Ints w va l) (hi : i < l.length) (hlen : l.length ≤ 1000) :
  Calls Tryz.prog 42 #[va, .int .i64 i] w fun e w' => ∃ v, e = .returned v ∧ Ints w' v (l.eraseIdx i) ∧ Ext w w' := by
 obtain ⟨a, c, rfl, hn, hc, hat⟩ := h.open
 have hI := Lib.hid h
 obtain ⟨b, off, x, rfl, hb, _, ex, g1⟩ := hat i hi w (Ext.refl _)
 obtain ⟨j0, hj0, jz0, jz1, jz2⟩ := info_parts int_info
 clear h hat ex g1
 have hil : i ≤ l.length := by omega
 have hil2 : i + 1 ≤ l.length := hi
 have hic : i + 1 ≤ c := by omega
 have hic2 : i ≤ c := by omega
 go_enter Tryz.func42, Tryz.ntmps42
 go_upto_region 1 with (fail)
 refine wp_region_tail 8 (by kernel_rfl) (by kernel_rfl) ?_
 simp only [List.take_succ_cons, List.take_zero, List.drop_succ_cons, List.drop_zero]
 repeat (go_big_quiet_step (fail))
 refine wpQuiet_nil ?_
 rintro _ ⟨u, rfl⟩
 have hu := u.ext
 generalize u.world = W at hu ⊢
 have hIW := hI.out.ext hu
 have her : l.eraseIdx i = l.take i ++ l.drop (i + 1) := List.eraseIdx_eq_take_drop_succ _ _
 by_cases hl2 : i + 1 < l.length
 ·rw [if_neg (show ¬ c = i + 1 by omega)]
  have hcell : ∀ j z, l[j]? = some z → W.cell? ⟨b, off + j, none⟩ = some (.int .i64 z) := fun j z hz => by
   obtain ⟨a', c', e, h1, h2, h3⟩ := hIW
   cases e
   obtain ⟨b', off', e1, e2, e3⟩ := h3 (by omega)
   cases e1
   have := e3 j ((List.getElem?_eq_some_iff.1 hz).1) 0 (by omega)
   rw [Nat.mul_one, Nat.add_zero] at this
   rw [this]
   simp [hz]
  have e1 : ((l.take i).map (Value.int .i64)).length = i * 1 := by simp; omega
  have e2 : ∀ a, some (⟨b, off, none⟩ : Addr) = some a → ∀ j u, ((l.take i).map (Value.int .i64))[j]? = some u → W.cell? (a.add j) = some u := fun a ha j u hj => by
   cases ha
   rw [List.getElem?_map] at hj
   obtain ⟨z, hz, rfl⟩ := Option.map_eq_some_iff.1 hj
   have hji : j < i := by have := (List.getElem?_eq_some_iff.1 hz).1; simp at this; omega
   rw [List.getElem?_take_of_lt hji] at hz
   rw [show (⟨b, off, none⟩ : Addr).add j = ⟨b, off + j, none⟩ by unfold Addr.add; split <;> simp_all]
   exact hcell j z hz
  have e3 : ((l.drop (i + 1)).map (Value.int .i64)).length = (l.length - (i + 1)) * 1 := by simp
  have e4 : ∀ j u, ((l.drop (i + 1)).map (Value.int .i64))[j]? = some u → W.cell? ((⟨b, off + (i + 1), none⟩ : Addr).add j) = some u := fun j u hj => by
   rw [List.getElem?_map] at hj
   obtain ⟨z, hz, rfl⟩ := Option.map_eq_some_iff.1 hj
   rw [List.getElem?_drop] at hz
   rw [show (⟨b, off + (i + 1), none⟩ : Addr).add j = ⟨b, off + (i + 1 + j), none⟩ by unfold Addr.add; split <;> simp_all; omega]
   exact hcell _ z hz
  refine wpList_append_grows W rfl (.tmp 8) (.tmp 12) 31 rfl 3 j0 _ 1 8 Tryz.underlying31 hj0 jz0 jz1 jz2 rfl (by decide) (some ⟨b, off, none⟩) i i _ rfl (fun h => by cases h) e1 e2 ⟨b, off + (i + 1), none⟩ (l.length - (i + 1)) (c - (i + 1)) _ rfl e3 e4 (fun u hu => by obtain ⟨z, _, rfl⟩ := List.mem_map.1 hu; rfl) (by omega) (by unfold maxLen; omega) (by omega) fun v1 w1 hown hgr => ?_
  have hE1 : Hid (Ext w w1) := Lib.hid (hu.trans ((Ext.refl W).grown hgr (fun k e => by cases e)))
  have hO : Hid (Ints w1 v1 (l.eraseIdx i)) := by
   rw [her]
   refine Lib.hid (ints_of_owns (base := W.heap.size) ?_)
   have e5 : (l.take i ++ l.drop (i + 1)).length = i + (l.length - (i + 1)) := by simp; omega
   rw [e5, List.map_append]
   exact hown
  obtain ⟨A1, C1, rfl⟩ := owns_form hown
  clear hown hgr e1 e2 e3 e4 hcell
  go_wp2
  go_ret
  exact ⟨_, rfl, hO.out, hE1.out⟩
 ·have hil3 : l.length - (i + 1) = 0 := by omega
  rw [hil3]
  obtain ⟨A, hA⟩ : ∃ A, (if c = i + 1 then some (⟨b, off, none⟩ : Addr) else some ⟨b, off + (i + 1), none⟩) = some A := by split <;> exact ⟨_, rfl⟩
  rw [hA]
  refine Lib.wpList_append_run W rfl (.tmp 8) (.tmp 12) 31 31 rfl _ _ rfl rfl _ W (run_append_nothing W 31 31 _ 3 j0 Tryz.underlying31 hj0 (some ⟨b, off, none⟩) i i (Nat.le_refl _) _ (Src.ofSlice W Tryz.underlying31 A 0 (c - (i + 1)) [] (by simp) (fun j u h => by simp at h) (fun u h => by cases h))) ?_
  have hO : Hid (Ints W (.slice (some ⟨b, off, none⟩) i i) (l.eraseIdx i)) := by
   rw [her, List.drop_eq_nil_of_le (by omega), List.append_nil]
   obtain ⟨a', c', e, h1, h2, h3⟩ := hIW
   cases e
   have e5 : (l.take i).length = i := by simp; omega
   refine Lib.hid ⟨_, i, by rw [e5], by rw [e5]; exact Nat.le_refl _, by unfold maxLen; omega, fun hp => ?_⟩
   obtain ⟨b', off', e1, e2, e3⟩ := h3 (by omega)
   cases e1
   refine ⟨b, off, rfl, e2, fun j hj k hk => ?_⟩
   rw [e5] at hj
   have := e3 j (by omega) k hk
   rw [this]
   dsimp only
   rw [List.getElem?_take_of_lt hj]
  have hE1 := Lib.hid hu
  clear hA hIW hu
  go_wp2
  go_ret
  exact ⟨_, rfl, hO.out, hE1.out⟩
def upI (n : Nat) : List Int := (List.range n).map fun k : Nat => (k : Int)
theorem upI_len (n : Nat) : (upI n).length = n := by simp [upI]
theorem upI_succ (n : Nat) : upI (n + 1) = upI n ++ [(n : Int)] := by simp [upI, List.range_succ]
theorem upI_idx {n : Nat} : ∀ x ∈ upI n, idxB x n = true := fun x hx => by
 obtain ⟨k, hk, rfl⟩ := List.mem_map.1 hx
 exact idxB_of_lt (List.mem_range.1 hk)
def ofLoop (t : List WishD) : Nat → List Int → List Int × Bool × Int
 | 0, l => (l, true, 0)
 | i + 1, l => if (standsT t (l.eraseIdx i)).2 ≠ 0 then ([], false, (standsT t (l.eraseIdx i)).2) else ofLoop t i (if (standsT t (l.eraseIdx i)).1 then l else l.eraseIdx i)
def ofT (t : List WishD) : List Int × Bool × Int :=
 if validT t = 0 then (if (standsT t (upI t.length)).1 = true ∨ (standsT t (upI t.length)).2 ≠ 0 then ([], false, (standsT t (upI t.length)).2) else ofLoop t t.length (upI t.length)) else ([], false, validT t)
theorem ints_nilK (w : World) : Ints w (.slice none 0 0) [] := ⟨none, 0, rfl, Nat.le_refl _, by unfold maxLen; omega, fun h => absurd h (by simp)⟩
set_option maxRecDepth 100000 in
theorem of_calls (wv : Value) (t : List WishD) (w : World) (h : Wishes w wv t) :
  Calls Tryz.prog 15 #[.agg #[wv]] w fun e w' => ∃ v, e = .returned (.tuple #[v, .bool (ofT t).2.1, .int .i64 (ofT t).2.2]) ∧ Ints w' v (ofT t).1 ∧ Ext w w' := by
 have hT := Lib.hid h
 obtain ⟨ta, tc, rfl, htn, htc, _⟩ := h.open
 clear h
 obtain ⟨z, hz⟩ : ∃ z, Hid (validT t = z) := ⟨_, rfl⟩
 have hv : Hid (∀ W, Ext w W → Calls Tryz.prog 24 #[.agg #[.slice ta t.length tc]] W fun e w' => e = .returned (.int .i64 z) ∧ Ext W w') := fun W hW => hz.out ▸ valid_calls _ t W (hT.out.ext hW)
 by_cases h0 : z = 0
 ·have d0 : (z != 0) = false := by simp [h0]
  have hv0 : validT t = 0 := by rw [hz.out, h0]
  have h512 := tooLarge_len (validT_ok hv0).1
  have hsp := Lib.hid (spans_valid hv0)
  have hst : Hid (∀ (W : World) (v : Value) (l : List Int), Ext w W → Ints W v l → (∀ x ∈ l, idxB x t.length = true) → l.length ≤ 512 → Calls Tryz.prog 41 #[.agg #[.slice ta t.length tc], v] W fun e w' => e = .returned (.tuple #[.bool (standsT t l).1, .int .i64 (standsT t l).2]) ∧ Ext W w') := fun W v l hW hl hi h5 => stands_calls _ _ t l W (hT.out.ext hW) hl hi h5 hsp.out
  have hR : Hid (ofT t = if (standsT t (upI t.length)).1 = true ∨ (standsT t (upI t.length)).2 ≠ 0 then ([], false, (standsT t (upI t.length)).2) else ofLoop t t.length (upI t.length)) := if_pos hv0
  obtain ⟨j0, hj0, jz0, jz1, jz2⟩ := info_parts int_info
  clear hz hv0 h0 hsp
  go_enter Tryz.func15, Tryz.ntmps15
  go_wp2_with fail
  refine (hv.out _ (by with_reducible repeat' (first | exact Ext.refl _ | assumption | refine Ext.drewN ?_ _ | refine Ext.drew ?_ | refine Ext.alloc ?_ _ | refine Ext.trans ?_ (by with_reducible assumption)))).mono ?_
  rintro e w1 ⟨rfl, hx1⟩
  have hB1 : Hid (Blk w1 w.heap.size 28 #[.slice ta t.length tc]) := Lib.hid ((Keep.of_ext (X := fun _ => False) hx1).blk (blk_new' rfl rfl) id)
  have hE1 := Lib.hid (((Ext.refl w).alloc (.cells #[.slice ta t.length tc] 28)).trans hx1)
  clear hx1 hv
  have c0 : w1.cell? ⟨w.heap.size, 0, none⟩ = some (.slice ta t.length tc) := hB1.out.cell 0
  have l0 := hB1.out.lt
  go_wp2_with fail
  clear c0 l0
  go_loopw [22, 7, 6] (fun vi _ v6 wr => ∃ (i : Nat) (A : Option Addr) (C : Nat), i ≤ t.length ∧ vi = .int .i64 i ∧ v6 = .slice A i C ∧ Hid (wr.ownsRow (w.heap.size + 1) 3 1 (.slice A i C) i ((upI i).map (Value.int .i64))) ∧ Hid (Blk wr w.heap.size 28 #[.slice ta t.length tc]) ∧ Hid (Ext w wr)) (fun vi _ _ _ => t.length - (intOf vi).toNat)
  case atStart => exact ⟨0, none, 0, by omega, rfl, rfl, Lib.hid (World.ownsRow_nil _ _ _ _), hB1, hE1⟩
  case round =>
   clear hB1 hE1
   obtain ⟨i, A, C, hi, rfl, rfl, hO, hB, hE⟩ := hrel
   by_cases h1 : i < t.length
   ·have hsz := hB.out.lt
    go_wp2_with (at_builtin; refine wpList_append_any _ rfl (.tmp 25) (.tmp 27) _ rfl (w.heap.size + 1) 3 j0 _ 1 8 Tryz.underlying31 hj0 jz0 jz1 jz2 rfl (by decide) (.slice A i C) i _ rfl (hO.out.alloc _) (wr.heap.size + 1) (some ⟨wr.heap.size, 0, none⟩) 1 1 [.int .i64 (i : Int)] rfl (reads_last _ #[_] _ 1 1 _ _ rfl (by omega) rfl) (one_int _) (by unfold maxLen; omega) (by omega) (by rw [World.size_alloc]; omega) ?_; intro v6 w6 hown6 hg6 hat6; obtain ⟨A6, C6, rfl⟩ := owns_form hown6)
    have hO6 : Hid (w6.ownsRow (w.heap.size + 1) 3 1 (.slice A6 (i + 1) C6) (i + 1) ((upI (i + 1)).map (Value.int .i64))) := by rw [upI_succ, List.map_append]; exact Lib.hid hown6
    have hB6 := Lib.hid ((Blk.alloc hB.out (.cells #[.int .i64 (i : Int)] 3)).grown hg6 (fun e => by have h := (hO.out.lt _ e.symm).1; omega))
    have hE6 := Lib.hid ((hE.out.alloc (.cells #[.int .i64 (i : Int)] 3)).grown hg6 (fun k e => by have h := (hO.out.lt _ e).1; omega))
    clear hown6 hg6 hat6 hO hB hE
    go_wp2
    go_roundw
    case rel => first | exact ⟨i + 1, A6, C6, h1, by go_num, rfl, hO6, hB6, hE6⟩ | ((repeat apply Exists.intro); exact ⟨⟨i + 1, A6, C6, h1, by go_num, rfl, hO6, hB6, hE6⟩, rfl⟩)
    case measure => simp [intOf]; omega
   ·obtain rfl : i = t.length := by omega
    have hL : Hid (Ints wr (.slice A t.length C) (upI t.length)) := by
     have e1 := ints_of_owns (l := upI t.length) (v := .slice A t.length C) (w := wr) (base := w.heap.size + 1) (by rw [upI_len]; exact hO.out)
     exact Lib.hid e1
    have hst1 := Lib.hid (hst.out wr _ _ hE.out hL.out upI_idx (by rw [upI_len]; exact h512))
    obtain ⟨q, e, hq⟩ : ∃ q e, Hid (standsT t (upI t.length) = (q, e)) := ⟨_, _, rfl⟩
    rw [hq.out] at hst1 hR
    have c0 : wr.cell? ⟨w.heap.size, 0, none⟩ = some (.slice ta t.length tc) := hB.out.cell 0
    have l0 := hB.out.lt
    clear hO hq
    go_wp2_with fail
    refine hst1.out.mono ?_
    rintro e' w2 ⟨rfl, hx2⟩
    have hB2 := Lib.hid ((Keep.of_ext (X := fun _ => False) hx2).blk hB.out id)
    have hL2 := Lib.hid (hL.out.ext hx2)
    have hE2 := Lib.hid (hE.out.trans hx2)
    clear hst1 c0 l0 hx2 hB hL hE
    (try dsimp only at hR)
    cases q with
    | true =>
     have R : Hid (ofT t = ([], false, e)) := by show _ = _; rw [hR.out, if_pos (Or.inl rfl)]
     clear hR
     go_wp2
     refine bodyPost_ret (v := .tuple #[.slice none 0 0, .bool false, .int .i64 e]) (by simp [results, Tryz.results15, go_sem]) rfl ?_
     rw [R.out]
     exact ⟨_, rfl, ints_nilK _, hE2.out⟩
    | false =>
     by_cases he : e = 0
     ·have d3 : (e != 0) = false := by simp [he]
      have hR2 : Hid (ofT t = ofLoop t t.length (upI t.length)) := by show _ = _; rw [hR.out, if_neg (by simp [he])]
      clear hR he
      go_wp2_with fail
      rename World => wL
      go_loopw [6, 10, 11] (fun v6 vi _ wr => ∃ (j : Nat) (L : List Int), j ≤ L.length ∧ L.length ≤ 512 ∧ vi = .int .i64 ((j : Int) - 1) ∧ Hid (Ints wr v6 L) ∧ Hid (∀ x ∈ L, idxB x t.length = true) ∧ Hid (ofT t = ofLoop t j L) ∧ Hid (Blk wr w.heap.size 28 #[.slice ta t.length tc]) ∧ Hid (Ext w wr)) (fun _ vi _ _ => (intOf vi + 1).toNat)
      case atStart => exact ⟨t.length, upI t.length, by rw [upI_len]; exact Nat.le_refl _, by rw [upI_len]; exact h512, rfl, hL2, Lib.hid upI_idx, hR2, hB2, hE2⟩
      case round =>
       clear hL2 hR2 hB2 hE2
       obtain ⟨j, L, hj, hL5, rfl, hL, hid, hR, hB, hE⟩ := hrel
       obtain ⟨LA, LC, rfl⟩ := hL.out.form
       by_cases hj0' : j = 0
       ·subst hj0'
        have R : Hid (ofT t = (L, true, 0)) := hR.out
        clear hR hid
        go_wp2
        refine bodyPost_ret (v := .tuple #[.slice LA L.length LC, .bool true, .int .i64 0]) (by simp [results, Tryz.results15, go_sem]) rfl ?_
        rw [R.out]
        exact ⟨_, rfl, hL.out, hE.out⟩
       ·obtain ⟨k, rfl⟩ : ∃ k, j = k + 1 := ⟨j - 1, by omega⟩
        have e1 : ((k + 1 : Nat) : Int) - 1 = (k : Int) := by omega
        rw [e1]
        have d4 : decide (0 ≤ (k : Int)) = true := decide_eq_true (by omega)
        clear e1 hj0'
        go_wp2_with fail
        refine (without_calls _ L k wr hL.out (by omega) (by omega)).mono ?_
        rintro e' w3 ⟨rv, rfl, hr, hx3⟩
        obtain ⟨RA, RC, rfl⟩ := hr.form
        obtain ⟨M, hM⟩ : ∃ M, Hid (L.eraseIdx k = M) := ⟨_, rfl⟩
        have hrl1 : M.length ≤ 512 ∧ k ≤ M.length := by rw [← hM.out, List.length_eraseIdx, if_pos (by omega)]; omega
        obtain ⟨hrl1, hrl2⟩ := hrl1
        rw [hM.out] at hr
        rw [hM.out]
        have hL3 := Lib.hid (hL.out.ext hx3)
        have hB3 := Lib.hid ((Keep.of_ext (X := fun _ => False) hx3).blk hB.out id)
        have hE3 := Lib.hid (hE.out.trans hx3)
        have hid2 : Hid (∀ x ∈ M, idxB x t.length = true) := fun x hx => hid.out x (List.mem_of_mem_eraseIdx (hM.out.symm ▸ hx))
        have hst2 := Lib.hid (hst.out w3 _ _ hE3.out hr hid2.out hrl1)
        have hR3 : Hid (ofT t = if (standsT t M).2 ≠ 0 then ([], false, (standsT t M).2) else ofLoop t k (if (standsT t M).1 then L else M)) := by rw [← hM.out]; exact hR.out
        obtain ⟨q, e, hq⟩ : ∃ q e, Hid (standsT t M = (q, e)) := ⟨_, _, rfl⟩
        rw [hq.out] at hst2 hR3
        have hr3 := Lib.hid hr
        have c0 : w3.cell? ⟨w.heap.size, 0, none⟩ = some (.slice ta t.length tc) := hB3.out.cell 0
        have l0 := hB3.out.lt
        clear hq hr hx3 hL hB hE hR hM
        go_wp2_with fail
        refine hst2.out.mono ?_
        rintro e' w4 ⟨rfl, hx4⟩
        have hL4 := Lib.hid (hL3.out.ext hx4)
        have hr4 := Lib.hid (hr3.out.ext hx4)
        have hB4 := Lib.hid ((Keep.of_ext (X := fun _ => False) hx4).blk hB3.out id)
        have hE4 := Lib.hid (hE3.out.trans hx4)
        clear hst2 c0 l0 hx4 hL3 hr3 hB3 hE3
        (try dsimp only at hR3)
        by_cases he : e = 0
        ·have d5 : (e != 0) = false := by simp [he]
         rw [he] at hR3
         cases q with
         | true =>
          have R : Hid (ofT t = ofLoop t k L) := by show _ = _; rw [hR3.out]; rfl
          clear hR3 he hid2 hr4
          go_wp2
          go_roundw
          case rel => first | exact ⟨k, L, by omega, hL5, rfl, hL4, hid, R, hB4, hE4⟩ | ((repeat apply Exists.intro); exact ⟨⟨k, L, by omega, hL5, rfl, hL4, hid, R, hB4, hE4⟩, rfl⟩)
          case measure => simp [intOf] <;> omega
         | false =>
          have R : Hid (ofT t = ofLoop t k M) := by show _ = _; rw [hR3.out]; rfl
          clear hR3 he hid hL4
          go_wp2
          go_roundw
          case rel => first | exact ⟨k, M, hrl2, hrl1, rfl, hr4, hid2, R, hB4, hE4⟩ | ((repeat apply Exists.intro); exact ⟨⟨k, M, hrl2, hrl1, rfl, hr4, hid2, R, hB4, hE4⟩, rfl⟩)
          case measure => simp [intOf] <;> omega
        ·have d5 : (e != 0) = true := by simp [he]
         have R : Hid (ofT t = ([], false, e)) := by show _ = _; rw [hR3.out, if_pos he]
         clear hR3 he hid hid2 hr4 hL4
         go_wp2
         refine bodyPost_ret (v := .tuple #[.slice none 0 0, .bool false, .int .i64 e]) (by simp [results, Tryz.results15, go_sem]) rfl ?_
         rw [R.out]
         exact ⟨_, rfl, ints_nilK _, hE4.out⟩
     ·have d3 : (e != 0) = true := by simp [he]
      have R : Hid (ofT t = ([], false, e)) := by show _ = _; rw [hR.out, if_pos (Or.inr he)]
      clear hR he
      go_wp2
      refine bodyPost_ret (v := .tuple #[.slice none 0 0, .bool false, .int .i64 e]) (by simp [results, Tryz.results15, go_sem]) rfl ?_
      rw [R.out]
      exact ⟨_, rfl, ints_nilK _, hE2.out⟩
 ·have d0 : (z != 0) = true := by simp [h0]
  have R : Hid (ofT t = ([], false, z)) := by show _ = _; unfold ofT; rw [if_neg (by rw [hz.out]; exact h0), hz.out]
  clear hz h0
  go_enter Tryz.func15, Tryz.ntmps15
  go_wp2_with fail
  refine (hv.out _ (by with_reducible repeat' (first | exact Ext.refl _ | assumption | refine Ext.drewN ?_ _ | refine Ext.drew ?_ | refine Ext.alloc ?_ _ | refine Ext.trans ?_ (by with_reducible assumption)))).mono ?_
  rintro e w1 ⟨rfl, hx1⟩
  have hB1 : Hid (Blk w1 w.heap.size 28 #[.slice ta t.length tc]) := Lib.hid ((Keep.of_ext (X := fun _ => False) hx1).blk (blk_new' rfl rfl) id)
  have hE1 := Lib.hid (((Ext.refl w).alloc (.cells #[.slice ta t.length tc] 28)).trans hx1)
  clear hx1 hv
  go_wp2
  refine bodyPost_ret (v := .tuple #[.slice none 0 0, .bool false, .int .i64 z]) (by simp [results, Tryz.results15, go_sem]) rfl ?_
  rw [R.out]
  exact ⟨_, rfl, ints_nilK _, hE1.out⟩
def lackI (t : List WishD) (l : List Int) : List Nat → Int
 | [] => 0
 | i :: r => if (standsT t (l.eraseIdx i)).2 ≠ 0 then (standsT t (l.eraseIdx i)).2 else if (standsT t (l.eraseIdx i)).1 then lackI t l r else 11
def coreCheckT (t : List WishD) (l : List Int) (c : List NodeD) : Int :=
 if checkI t l = 0 then (if l.length = 0 then 1 else if checkT (subT t l) 1000000000 c = 0 then lackI t l (List.range l.length) else checkT (subT t l) 1000000000 c) else checkI t l
theorem range_drop {n i : Nat} (h : i < n) : (List.range n).drop i = i :: (List.range n).drop (i + 1) := by
 rw [List.drop_eq_getElem_cons (by simpa using h)]
 simp
def CkCon (L : List Int) (q : Bool) (e : Int) (k : Nat) (v : Value) (W : World) : Prop := (k = 3 → Ints W v L) ∧ (k = 4 → v = .tuple #[.bool q, .int .i64 e])
set_option maxRecDepth 100000 in
theorem coreCheck_calls (wv lv cv : Value) (t : List WishD) (l : List Int) (c : List NodeD) (w : World) (h : Wishes w wv t) (hl : Ints w lv l) (hc : Nodes w cv c) (hk : ∀ n ∈ c, n.kids.length ≤ 17592186044416) :
  Calls Tryz.prog 18 #[.agg #[wv], lv, cv] w fun e w' => e = .returned (.int .i64 (coreCheckT t l c)) ∧ Ext w w' := by
 have hT := Lib.hid h
 have hL := Lib.hid hl
 have hN := Lib.hid hc
 have hkk := Lib.hid hk
 obtain ⟨ta, tc, rfl⟩ := h.form
 obtain ⟨la, lc, rfl⟩ := hl.form
 obtain ⟨ca, cc, rfl⟩ := hc.form
 have hll := hl.len
 clear h hl hc hk
 obtain ⟨z, hz⟩ : ∃ z, Hid (checkI t l = z) := ⟨_, rfl⟩
 have hck : Hid (∀ W, Ext w W → Calls Tryz.prog 44 #[.agg #[.slice ta t.length tc], .slice la l.length lc] W fun e w' => e = .returned (.int .i64 z) ∧ Ext W w') := fun W hW => hz.out ▸ check_core_calls _ _ t l W (hT.out.ext hW) (hL.out.ext hW)
 by_cases h0 : z = 0
 ·have d0 : (z != 0) = false := by simp [h0]
  have hz0 : checkI t l = 0 := by rw [hz.out, h0]
  obtain ⟨h5, hi⟩ := sel_few hz0
  have hi' := Lib.hid hi
  have hsp := Lib.hid (spans_valid (checkI_ok hz0).1)
  have hR0 : Hid (coreCheckT t l c = if l.length = 0 then 1 else if checkT (subT t l) 1000000000 c = 0 then lackI t l (List.range l.length) else checkT (subT t l) 1000000000 c) := if_pos hz0
  clear hz hz0 h0 hi
  by_cases hl0 : l.length = 0
  ·have d1 : ((l.length : Int) == 0) = true := by simp [hl0]
   have R : Hid (coreCheckT t l c = 1) := by show _ = _; rw [hR0.out, if_pos hl0]
   clear hR0 hl0
   go_enter Tryz.func18, Tryz.ntmps18
   go_wp2_with fail
   refine (hck.out _ (by with_reducible repeat' (first | exact Ext.refl _ | assumption | refine Ext.drewN ?_ _ | refine Ext.drew ?_ | refine Ext.alloc ?_ _ | refine Ext.trans ?_ (by with_reducible assumption)))).mono ?_
   rintro e w1 ⟨rfl, hx1⟩
   have hB1 : Hid (Blk w1 w.heap.size 28 #[.slice ta t.length tc]) := Lib.hid ((Keep.of_ext (X := fun _ => False) hx1).blk (blk_new' rfl rfl) id)
   have hE1 := Lib.hid (((Ext.refl w).alloc (.cells #[.slice ta t.length tc] 28)).trans hx1)
   clear hx1 hck
   go_wp2
   go_ret
   rw [R.out]
   exact ⟨rfl, hE1.out⟩
  ·have d1 : ((l.length : Int) == 0) = false := by rw [beq_eq_false_iff_ne]; omega
   obtain ⟨k, hk⟩ : ∃ k, Hid (checkT (subT t l) 1000000000 c = k) := ⟨_, rfl⟩
   have hR1 : Hid (coreCheckT t l c = if k = 0 then lackI t l (List.range l.length) else k) := by show _ = _; rw [hR0.out, if_neg hl0, hk.out]
   clear hR0
   go_enter Tryz.func18, Tryz.ntmps18
   go_wp2_with fail
   refine (hck.out _ (by with_reducible repeat' (first | exact Ext.refl _ | assumption | refine Ext.drewN ?_ _ | refine Ext.drew ?_ | refine Ext.alloc ?_ _ | refine Ext.trans ?_ (by with_reducible assumption)))).mono ?_
   rintro e w1 ⟨rfl, hx1⟩
   have hB1 : Hid (Blk w1 w.heap.size 28 #[.slice ta t.length tc]) := Lib.hid ((Keep.of_ext (X := fun _ => False) hx1).blk (blk_new' rfl rfl) id)
   have hE1 := Lib.hid (((Ext.refl w).alloc (.cells #[.slice ta t.length tc] 28)).trans hx1)
   clear hx1 hck
   have c0 : w1.cell? ⟨w.heap.size, 0, none⟩ = some (.slice ta t.length tc) := hB1.out.cell 0
   have l0 := hB1.out.lt
   go_wp2_with fail
   refine (sub_calls _ _ t l w1 (hT.out.ext hE1.out) (hL.out.ext hE1.out) hi'.out (by omega)).mono ?_
   rintro e w2 ⟨sv, rfl, hs, hx2⟩
   obtain ⟨sa, sc, rfl⟩ := hs.form
   have hS2 := Lib.hid hs
   have hB2 := Lib.hid ((Keep.of_ext (X := fun _ => False) hx2).blk hB1.out id)
   have hE2 := Lib.hid (hE1.out.trans hx2)
   clear c0 l0 hs hx2 hB1 hE1
   go_wp2_with fail
   refine (check_callsK _ _ (subT t l) 1000000000 c w2 hS2.out (hN.out.ext hE2.out) hkk.out).mono ?_
   rw [hk.out]
   rintro e w3 ⟨rfl, hx3⟩
   have hB3 := Lib.hid ((Keep.of_ext (X := fun _ => False) hx3).blk hB2.out id)
   have hE3 := Lib.hid (hE2.out.trans hx3)
   clear hx3 hB2 hE2 hS2 hk
   by_cases hk0 : k = 0
   ·have d2 : (k != 0) = false := by simp [hk0]
    have hR2 : Hid (coreCheckT t l c = lackI t l (List.range l.length)) := by show _ = _; rw [hR1.out, if_pos hk0]
    clear hR1 hk0
    go_wp2_with fail
    go_loopw [31] (fun vi wr => ∃ i : Nat, i ≤ l.length ∧ vi = .int .i64 i ∧ Hid (coreCheckT t l c = lackI t l ((List.range l.length).drop i)) ∧ Hid (Blk wr w.heap.size 28 #[.slice ta t.length tc]) ∧ Hid (Ext w wr)) (fun vi _ => l.length - (intOf vi).toNat)
    case atStart => exact ⟨0, by omega, rfl, hR2, hB3, hE3⟩
    case round =>
     clear hR2 hB3 hE3
     obtain ⟨i, hi, rfl, hR, hB, hE⟩ := hrel
     by_cases h1 : i < l.length
     ·obtain ⟨M, hM⟩ : ∃ M, Hid (l.eraseIdx i = M) := ⟨_, rfl⟩
      have hMl : M.length ≤ 512 := by rw [← hM.out, List.length_eraseIdx, if_pos h1]; omega
      have hMi : Hid (∀ x ∈ M, idxB x t.length = true) := fun x hx => hi'.out x (List.mem_of_mem_eraseIdx (hM.out.symm ▸ hx))
      obtain ⟨q, e, hq⟩ : ∃ q e, Hid (standsT t M = (q, e)) := ⟨_, _, rfl⟩
      have hR3 : Hid (coreCheckT t l c = if e ≠ 0 then e else if q then lackI t l ((List.range l.length).drop (i + 1)) else 11) := by
       show _ = _
       rw [hR.out, range_drop h1]
       simp only [lackI]
       rw [hM.out, hq.out]
      clear hR
      go_upto_region 12 with (fail)
      have z0 := After.cell (show wr.cell? ⟨w.heap.size, 0, none⟩ = some (.slice ta t.length tc) from hB.out.cell 0)
      (refine wp_region_held [] [0, 1, 2, 3, 4, 5, 6, 7, 8, 9] [] (CkCon M q e) (by kernel_rfl) (by kernel_rfl) ?_; simp only [pickL]; with_reducible refine wpQuiet_nil ?_)
      (refine held_quiet [0, 1, 2] [3, 4, 5, 6, 7, 8, 9] (by kernel_rfl) (by kernel_rfl) ?_; simp only [pickL, List.drop]; (repeat (go_big_quiet_step (fail))); with_reducible refine wpQuiet_nil ?_)
      (refine held_call 3 [4, 5, 6, 7, 8, 9] rfl (by kernel_rfl) 42 (#[.slice la l.length lc, .int .i64 (i : Int)]) (fun W => by kernel_rfl) rfl ?_ ?_ ?_)
      ·exact fun W W' v e hh => ⟨fun h => (hh.1 h).ext e, hh.2⟩
      ·refine fun W hW _ => (without_calls _ l i W (hL.out.ext (hE.out.trans hW)) h1 (by omega)).mono ?_
       rw [hM.out]
       rintro e W' ⟨v, rfl, hv, hxx⟩
       exact ⟨_, rfl, hxx, ⟨fun _ => hv, (fun h => by cases h)⟩⟩
      rintro v ⟨Y, hY, hCv⟩
      obtain ⟨mA, mC, rfl⟩ := (hCv.1 rfl).form
      clear hCv hY Y
      simp only [Act.put, putA, putB, putC]
      (refine held_call 4 [5, 6, 7, 8, 9] rfl (by kernel_rfl) 41 (#[.agg #[.slice ta t.length tc], .slice mA M.length mC]) (fun W => by kernel_rfl) rfl ?_ ?_ ?_)
      ·exact fun W W' v e hh => ⟨fun h => (hh.1 h).ext e, hh.2⟩
      ·refine fun W hW hD => (stands_calls _ _ t M W (hT.out.ext (hE.out.trans hW)) (((hD 3 (dep_of 10 4 3 (by kernel_rfl))).2 rfl).1 rfl) hMi.out hMl hsp.out).mono ?_
       rw [hq.out]
       rintro e W' ⟨rfl, hxx⟩
       exact ⟨_, rfl, hxx, ⟨(fun h => by cases h), fun _ => rfl⟩⟩
      rintro v ⟨Y, hY, hCv⟩
      obtain rfl := hCv.2 rfl
      clear hCv hY Y
      simp only [Act.put, putA, putB, putC]
      (refine held_quiet [5, 6, 7, 8, 9] [] (by kernel_rfl) (by kernel_rfl) ?_; simp only [pickL, List.drop]; (repeat (go_big_quiet_step (fail))); with_reducible refine wpQuiet_nil ?_)
      intro w9 hx9 hfc htk Q0 hQ0
      simp only [pickL]
      have hB9 := Lib.hid ((Keep.of_ext (X := fun _ => False) hx9).blk hB.out id)
      have hE9 := Lib.hid (hE.out.trans hx9)
      clear hfc htk z0 hx9 hB hE hq hM hMi
      refine hQ0 _ _ ?_
      clear hQ0 Q0
      by_cases he : e = 0
      ·have d3 : (e != 0) = false := by simp [he]
       have hR4 : Hid (coreCheckT t l c = if q then lackI t l ((List.range l.length).drop (i + 1)) else 11) := by show _ = _; rw [hR3.out, if_neg (by simp [he])]
       clear hR3 he
       cases q with
       | true =>
        have R : Hid (coreCheckT t l c = lackI t l ((List.range l.length).drop (i + 1))) := hR4.out
        clear hR4
        go_wp2
        go_roundw
        case rel => first | exact ⟨i + 1, h1, by go_num, R, hB9, hE9⟩ | ((repeat apply Exists.intro); exact ⟨⟨i + 1, h1, by go_num, R, hB9, hE9⟩, rfl⟩)
        case measure => simp [intOf]; omega
       | false =>
        have R : Hid (coreCheckT t l c = 11) := hR4.out
        clear hR4
        go_wp2
        go_ret
        rw [R.out]
        exact ⟨rfl, hE9.out⟩
      ·have d3 : (e != 0) = true := by simp [he]
       have R : Hid (coreCheckT t l c = e) := by show _ = _; rw [hR3.out, if_pos he]
       clear hR3 he
       go_wp2
       go_ret
       rw [R.out]
       exact ⟨rfl, hE9.out⟩
     ·have R : Hid (coreCheckT t l c = 0) := by show _ = _; rw [hR.out, List.drop_eq_nil_of_le (by simp; omega)]; rfl
      clear hR
      go_wp2
      go_ret
      rw [R.out]
      exact ⟨rfl, hE.out⟩
   ·have d2 : (k != 0) = true := by simp [hk0]
    have R : Hid (coreCheckT t l c = k) := by show _ = _; rw [hR1.out, if_neg hk0]
    clear hR1 hk0
    go_wp2
    go_ret
    rw [R.out]
    exact ⟨rfl, hE3.out⟩
 ·have d0 : (z != 0) = true := by simp [h0]
  have R : Hid (coreCheckT t l c = z) := by show _ = _; unfold coreCheckT; rw [hz.out, if_neg h0]
  clear hz h0
  go_enter Tryz.func18, Tryz.ntmps18
  go_wp2_with fail
  refine (hck.out _ (by with_reducible repeat' (first | exact Ext.refl _ | assumption | refine Ext.drewN ?_ _ | refine Ext.drew ?_ | refine Ext.alloc ?_ _ | refine Ext.trans ?_ (by with_reducible assumption)))).mono ?_
  rintro e w1 ⟨rfl, hx1⟩
  have hB1 : Hid (Blk w1 w.heap.size 28 #[.slice ta t.length tc]) := Lib.hid ((Keep.of_ext (X := fun _ => False) hx1).blk (blk_new' rfl rfl) id)
  have hE1 := Lib.hid (((Ext.refl w).alloc (.cells #[.slice ta t.length tc] 28)).trans hx1)
  clear hx1 hck
  go_wp2
  go_ret
  rw [R.out]
  exact ⟨rfl, hE1.out⟩
end Go.Proofs.YtgolicoalldidaaGreat
