/- Walk of package carry: Play. -/
import Derived.Test.YtkicielleiafgaaCB
namespace Go.Proofs.Ytkicielleiafgaa
open Go.RowKit

theorem stepsT_bd {t : List WishD} (h : validT t = 0) : 0 < t.length ∧ t.length ≤ 512 := by
  have h2 := h
  unfold validT at h2
  split at h2
  · cases h2
  · rename_i hb
    split at h2
    · rename_i hw
      simp only [Bool.and_eq_true, decide_eq_true_eq] at hw
      exact ⟨hw.2, tooLarge_len (by simpa using hb)⟩
    · cases h2
theorem take_step {α : Type} {l : List α} {i : Nat} {x : α} (h : l[i]? = some x) : l.take (i + 1) = l.take i ++ [x] := by rw [List.take_add_one, h]; rfl
theorem all_at {α : Type} {p : α → Bool} {l : List α} (h : l.all p = true) {i : Nat} {x : α} (hx : l[i]? = some x) : p x = true := List.all_eq_true.1 h x (List.mem_of_getElem? hx)

set_option maxHeartbeats 1600000 in
set_option maxRecDepth 100000 in
theorem play_calls (wv sv fv : Value) (t : List WishD) (l : List (Int × Int)) (fails : List Int) (w : World) (h : Wishes w wv t) (hs : Spans w sv l) (hf : Ints w fv fails) :
    Calls Try.prog 21 #[.agg #[wv], sv, fv] w fun e w' => ∃ v, e = .returned (.tuple #[v, .bool (playS t l fails).2.1, .int .i64 (playS t l fails).2.2]) ∧ Ints w' v (playS t l fails).1 ∧ Ext w w' := by
  have hT := Lib.hid h
  have hS := Lib.hid hs
  have hF := Lib.hid hf
  obtain ⟨ta, tc, rfl⟩ := h.form
  obtain ⟨sa, sc, rfl, hsn, hsc, sat⟩ := hs.open
  obtain ⟨fa, fc, rfl⟩ := hf.form
  clear h hs hf
  obtain ⟨z, hz⟩ : ∃ z, Hid (stepsT t l = z) := ⟨_, rfl⟩
  have hchk : Hid (∀ W, Ext w W → Calls Try.prog 52 #[.agg #[.slice ta t.length tc], .slice sa l.length sc] W fun e w' => e = .returned (.int .i64 z) ∧ Ext W w') := fun W hW => hz.out ▸ carryCheck_calls _ _ t l W (hT.out.ext hW) (hS.out.ext hW)
  have sat' := Lib.hid sat
  clear sat
  go_enter Try.func21, Try.ntmps21
  go_wp2_with fail
  refine (hchk.out _ (by repeat' (first | (with_reducible exact Ext.refl _) | (with_reducible assumption) | (with_reducible refine Ext.drewN ?_ _) | (with_reducible refine Ext.drew ?_) | (with_reducible refine Ext.alloc ?_ _) | (with_reducible refine Ext.trans ?_ (by with_reducible assumption))))).mono ?_
  rintro e w1 ⟨rfl, hx1⟩
  have c0 : w1.cell? ⟨w.heap.size, 0, none⟩ = some (.slice ta t.length tc) := hx1.cell (by simp)
  have c1 : w1.cell? ⟨w.heap.size + 1, 0, none⟩ = some (.slice sa l.length sc) := hx1.cell (by simp)
  have hW := Lib.hid ((((Ext.refl w).alloc (.cells #[.slice ta t.length tc] 27)).alloc (.cells #[.slice sa l.length sc] 32)).trans hx1)
  clear hx1 hchk
  by_cases h0 : z = 0
  · have hz0 : (z != 0) = false := by simp [h0]
    obtain ⟨hv, hok, _⟩ := stepsT_ok (hz.out.trans h0)
    have hok' := Lib.hid hok
    obtain ⟨hb1, hb2⟩ := stepsT_bd hv
    have hst : Hid (stepsT t l = 0) := hz.out.trans h0
    have hmk := run_make_ints t.length (by omega)
    have hcont : Hid (∀ W, Ext w1 W → Calls Try.prog 57 #[.slice fa fails.length fc, .func (.func 58) #[] #[.pointer (some ⟨w.heap.size + 1, 0, none⟩)]] W fun e w' => e = .returned (.bool (fails.any fun i => idxB i l.length)) ∧ Ext W w') :=
      fun W hx => containsFunc_intC_calls _ _ fails 58 (fun _ _ => by kernel_rfl) (fun i => idxB i l.length) W (hF.out.ext (hW.out.trans hx)) (fun s _ W' hw => play1_calls (w.heap.size + 1) sa l.length sc _ s W' ((hx.trans hw).cell c1) rfl)
    clear hz h0 hv hok hT hS hF
    have hlw := hW.out.size
    go_wp2_with fail
    refine (hcont.out _ (by repeat' (first | (with_reducible exact Ext.refl _) | (with_reducible assumption) | (with_reducible refine Ext.drewN ?_ _) | (with_reducible refine Ext.drew ?_) | (with_reducible refine Ext.alloc ?_ _) | (with_reducible refine Ext.trans ?_ (by with_reducible assumption))))).mono ?_
    rintro e w2 ⟨rfl, hx2⟩
    have hS0 : Hid (St w2 w1.heap.size (zeros t.length)) := Lib.hid ((St.new w1 t.length).ext hx2)
    have c2 := (((Ext.refl w1).alloc (.cells (zerosV t.length) 3)).trans hx2).cell c1
    have hW2 := Lib.hid (hW.out.trans (((Ext.refl w1).alloc (.cells (zerosV t.length) 3)).trans hx2))
    have hzl : (zeros t.length).length = t.length := by simp [zeros]
    clear hcont hx2 c0 c1
    cases hany : fails.any fun i => idxB i l.length with
    | true =>
      have R : Hid (playS t l fails = (zeros t.length, false, 0)) := by show _ = _; unfold playS; rw [if_pos hst.out, hany]; rfl
      clear hany
      go_wp2
      go_ret3
      rw [R.out]
      exact ⟨_, rfl, by have := hS0.out.read (by rw [hzl]; unfold maxLen; omega); rwa [hzl] at this, hW2.out⟩
    | false =>
      have R : Hid (playS t l fails = (afterS (zeros t.length) l, true, 0)) := by show _ = _; unfold playS; rw [if_pos hst.out, hany]; rfl
      clear hany
      go_wp2_with fail
      go_loopw [29] (fun vi wr => ∃ i : Nat, i ≤ l.length ∧ vi = .int .i64 i ∧ Hid (Ext w wr) ∧ Hid (Ext w2 wr ∨ True) ∧ Hid (St wr w1.heap.size (afterS (zeros t.length) (l.take i)))) (fun vi _ => l.length - (intOf vi).toNat)
      case atStart => exact ⟨0, by omega, rfl, hW2, Lib.hid (Or.inr trivial), hS0⟩
      case round =>
        clear hS0 hW2
        obtain ⟨i, hi, rfl, hx, _, hSt⟩ := hrel
        by_cases h1 : i < l.length
        · obtain ⟨b1, o1, x, y, rfl, hb3, dx, ex, g1, g2⟩ := sat'.out i h1 wr hx.out
          obtain ⟨n, hn, hnt⟩ := stepOk_idx (all_at hok'.out ex.out)
          dsimp only at hn
          subst hn
          obtain ⟨st, hst'⟩ : ∃ st, Hid (afterS (zeros t.length) (l.take i) = st) := ⟨_, rfl⟩
          have hsl : st.length = t.length := by rw [← hst'.out, afterS_len, hzl]
          have hnext : Hid (afterS (zeros t.length) (l.take (i + 1)) = st.set n y) := by
            show _ = _
            rw [take_step ex.out, afterS_snoc, hst'.out]
            simp [stepS]
          rw [hst'.out] at hSt
          clear hst'
          go_upto_region 10 with (fail)
          refine wp_abs (S := fun W => Hid (Ext w W) ∧ Hid (St W w1.heap.size st) ∧ W.cell? ⟨wr.heap.size, 0, none⟩ = some (.int .i64 n) ∧ W.cell? ⟨wr.heap.size, 1, none⟩ = some (.int .i64 y)) ?_ ?_
          · exact ⟨Lib.hid (hx.out.trans (by exact (by repeat' (first | (with_reducible exact Ext.refl _) | (with_reducible assumption) | (with_reducible refine Ext.drewN ?_ _) | (with_reducible refine Ext.drew ?_) | (with_reducible refine Ext.alloc ?_ _) | (with_reducible refine Ext.trans ?_ (by with_reducible assumption)))))), Lib.hid (hSt.out.ext (by exact (by repeat' (first | (with_reducible exact Ext.refl _) | (with_reducible assumption) | (with_reducible refine Ext.drewN ?_ _) | (with_reducible refine Ext.drew ?_) | (with_reducible refine Ext.alloc ?_ _) | (with_reducible refine Ext.trans ?_ (by with_reducible assumption)))))), by simp, by simp⟩
          rintro W ⟨hxW, hSW, k0, k1⟩
          have hlt := hSW.out.lt
          have m1 := hSW.out.cell (i := n) (by omega)
          have m2 := hSW.out.frozen n
          have hSn : Hid (St (W.setCell ⟨w1.heap.size, n, none⟩ (.int .i64 y)) w1.heap.size (st.set n y)) := hSW.out.set_ n y
          have hxn : Hid (Ext w (W.setCell ⟨w1.heap.size, n, none⟩ (.int .i64 y))) := Lib.hid (hxW.out.setCell (by dsimp only; omega) _)
          rw [← hnext.out] at hSn
          clear hSt hx hnext
          go_wp2
          go_roundw
          case rel => exact ⟨i + 1, by omega, by go_num, hxn, Lib.hid (Or.inr trivial), hSn⟩
          case measure => simp [intOf]; omega
        · have hfin : Hid (afterS (zeros t.length) (l.take i) = afterS (zeros t.length) l) := by show _ = _; rw [List.take_of_length_le (by omega)]
          rw [hfin.out] at hSt
          clear hfin
          go_wp2
          go_ret3
          rw [R.out]
          exact ⟨_, rfl, by have := hSt.out.read (by rw [afterS_len, hzl]; unfold maxLen; omega); rwa [afterS_len, hzl] at this, hx.out⟩
  · have hz0 : (z != 0) = true := by simp [h0]
    have R : Hid (playS t l fails = ([], false, z)) := by show _ = _; unfold playS; rw [hz.out, if_neg h0]
    clear hz h0
    go_wp2
    go_ret3
    rw [R.out]
    exact ⟨_, rfl, (IntsO.nil w1 0).read, hW.out⟩
end Go.Proofs.Ytkicielleiafgaa
