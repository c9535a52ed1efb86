/- The law CarryChecksTasks, walked. -/
import Derived.Test.YtkicielleiafgaaCP
import Derived.Test.YtkicielleiafgaaCK
namespace Go.Proofs.Ytkicielleiafgaa
open Go.RowKit

def TaskV (w : World) (v : Value) (t : List WishD) : Prop := ∃ wv, v = .agg #[wv] ∧ Wishes w wv t
theorem wishes_take {w : World} {a : Option Addr} {n c m : Nat} {l : List WishD} (h : Wishes w (.slice a n c) l) (hm : m ≤ n) : Wishes w (.slice a m c) (l.take m) := by
  obtain ⟨Pp, O, ⟨a', c', e, h1, h2, h3⟩, h4⟩ := h
  have en : n = l.length := by cases e; rfl
  cases e
  have hl : (l.take m).length = m := by simp; omega
  refine ⟨Pp, O, ⟨a, c, by rw [hl], by rw [hl]; omega, h2, fun h0 => ?_⟩, fun i hi => ?_⟩
  · obtain ⟨b, off, e1, e2, e3⟩ := h3 (by omega)
    refine ⟨b, off, e1, e2, fun i hi j hj => ?_⟩
    rw [hl] at hi
    rw [e3 i (by omega) j hj]
    simp only [List.getElem?_take_of_lt hi]
  · rw [hl] at hi
    have := h4 i (by omega)
    simpa only [List.getElem?_take_of_lt hi] using this
theorem made_steps (n : Nat) : madeCells (Value.agg #[.int .i64 0, .int .i64 0]).cells (n * 2) = zerosV (n * 2) := by
  apply Array.ext_getElem?
  intro k
  have h2 : k % 2 = 0 ∨ k % 2 = 1 := by omega
  by_cases h : k < n * 2
  · rcases h2 with e | e <;> simp [madeCells, zerosV, zerosL, h, Value.cells, e]
  · simp [madeCells, zerosV, zerosL, h]
theorem run_make_steps (n : Nat) (hn : n ≤ 1000000) (w : World) :
    (Instr.makeSlice 32 (.int .i64 (n : Int)) (.int .i64 (n : Int))).run Try.prog w = .ok (.slice (some ⟨w.heap.size, 0, none⟩) n n) (w.alloc (.cells (zerosV (n * 2)) 42)) := by
  obtain ⟨i0, hi, hz, hs, hb⟩ := info_parts step_info
  have := run_make_any (P := Try.prog) 32 42 i0 _ Try.underlying32 hi hz .i64 .i64 n n (Nat.le_refl _) (by rw [hb]; omega) (by omega) w
  rw [this, hs, made_steps]
theorem spans_zero {W : World} {g m : Nat} {T : TypeId} (hb : Blk W g T (zerosV (m * 2))) (hm : m ≤ maxLen) : Spans W (.slice (some ⟨g, 0, none⟩) m m) (List.replicate m (0, 0)) := by
  refine ⟨some ⟨g, 0, none⟩, m, by simp, by simp, hm, fun h0 => ⟨g, 0, rfl, hb.lt, fun i hi j hj => ?_⟩⟩
  simp only [List.length_replicate] at hi
  have hk : i * 2 + j < m * 2 := by omega
  rw [Nat.zero_add, hb.cell]
  simp [zerosV, zerosL, hk, hi]
theorem steps_zero (m : Nat) : stepsT exchangeT (List.replicate m (0, 0)) = if 1024 < m then 2 else 0 := by
  have h1 : (List.replicate m ((0, 0) : StepD)).all (stepOkB exchangeT) = true := by
    rw [List.all_eq_true]
    intro s hs
    rw [List.eq_of_mem_replicate hs]
    rfl
  unfold stepsT
  rw [if_pos (show validT exchangeT = 0 by kernel_rfl), if_pos h1, List.length_replicate]
theorem nil_spans (w : World) : Spans w (.slice none 0 0) [] := ⟨none, 0, rfl, Nat.le_refl _, by unfold maxLen; omega, fun h => absurd h (by decide)⟩
theorem steps_nil (u : List WishD) : stepsT u [] = validT u := by
  unfold stepsT
  split
  · rename_i h; rw [h]; rfl
  · rfl
theorem lawful_nil {u : List WishD} (h : validT u = 0) : lawfulB u [] = false := by
  cases hl : lawfulB u [] with
  | false => rfl
  | true =>
    have := lawful_len hl
    have hu : u = [] := List.eq_nil_of_length_eq_zero this.symm
    subst hu
    exact absurd h (by decide)
def errN (u : List WishD) : Int := if validT u = 0 then 1 else validT u
theorem order_nil (u : List WishD) : (orderS u []).2 = errN u := by
  unfold orderS errN
  by_cases h : validT u = 0
  · rw [if_pos h, if_pos h, if_neg (by rw [lawful_nil h]; decide)]
  · rw [if_neg h, if_neg h]
theorem check_nil (u : List WishD) : checkS u [] [] = errN u := by
  unfold checkS errN
  by_cases h : validT u = 0
  · rw [if_pos h, if_pos h, if_neg (by rw [lawful_nil h]; decide)]
  · rw [if_neg h, if_neg h]
theorem states_nil (u : List WishD) : (statesS u []).2 = validT u := by
  unfold statesS
  rw [steps_nil]
  split
  · rename_i h; rw [h]
  · rfl
theorem parked_nil (u : List WishD) : (parkedS u []).2 = validT u := by
  unfold parkedS
  rw [steps_nil]
  split
  · rename_i h; rw [h]
  · rfl
theorem play_nil (u : List WishD) : (playS u [] []).2.2 = validT u := by
  unfold playS
  rw [steps_nil]
  split
  · rename_i h; rw [h]; rfl
  · rfl
theorem states_zero (m : Nat) : (statesS exchangeT (List.replicate m (0, 0))).2 = if 1024 < m then 2 else 0 := by
  unfold statesS
  rw [steps_zero]
  by_cases h : 1024 < m
  · rw [if_pos h, if_neg (by decide)]
  · rw [if_neg h, if_pos rfl]

set_option maxHeartbeats 1600000 in
set_option maxRecDepth 100000 in
theorem carryChecksTasks_calls (tv : Value) (t : List WishD) (a : Int) (h0 : 0 ≤ a) (h1 : a ≤ 65535) (w : World) (h : TaskV w tv t) :
    Calls Try.prog 7 #[tv, .int .u16 a] w fun e w' => e = .returned (.bool true) ∧ Ext w w' := by
  obtain ⟨wv, rfl, hw⟩ := h
  have hT := Lib.hid hw
  obtain ⟨ta, tc, rfl, hn, hc, _⟩ := hw.open
  clear hw
  go_enter Try.func7, Try.ntmps7
  go_upto_region 1 with (fail)
  refine wp_abs (S := fun W => Hid (Ext w W) ∧ Hid (Blk W w.heap.size 27 #[.slice ta t.length tc])) ?_ ?_
  · exact ⟨Lib.hid (by exact (by repeat' (first | (with_reducible exact Ext.refl _) | (with_reducible assumption) | (with_reducible refine Ext.drewN ?_ _) | (with_reducible refine Ext.drew ?_) | (with_reducible refine Ext.alloc ?_ _) | (with_reducible refine Ext.trans ?_ (by with_reducible assumption))))), blk_new' rfl rfl⟩
  rintro W ⟨hW, bp⟩
  have tb : W.cell? ⟨w.heap.size, 0, none⟩ = some (.slice ta t.length tc) := bp.out.cell 0
  clear bp
  revert tb
  generalize w.heap.size = bt
  intro tb
  go_wp2_with fail
  refine (sanity35_calls _).mono ?_
  rintro e w1 ⟨rfl, hx1⟩
  replace tb := hx1.cell tb
  have hE1 := Lib.hid (hW.out.trans hx1)
  clear hx1 hW
  obtain ⟨km, hkm⟩ : ∃ km : Nat, km = min 5 t.length := ⟨_, rfl⟩
  have hkm1 : (if 5 < (t.length : Int) then (5 : Int) else (t.length : Int)) = (km : Int) := by rw [hkm]; split <;> omega
  have hkl : km ≤ t.length := by omega
  have hkc : km ≤ tc := by omega
  clear hkm
  go_upto_region 3 with (fail)
  obtain ⟨u, hbl, hU⟩ : ∃ u : List WishD, km = u.length ∧ Hid (Wishes w (.slice ta km tc) u) := ⟨t.take km, by simp; omega, Lib.hid (wishes_take hT.out hkl)⟩
  clear hkm1 hkl hkc hT hn
  subst hbl
  refine wp_abs (S := fun W => Hid (Ext w1 W) ∧ Hid (Blk W w1.heap.size 27 #[.slice ta u.length tc])) ?_ ?_
  · exact ⟨Lib.hid (by exact (by repeat' (first | (with_reducible exact Ext.refl _) | (with_reducible assumption) | (with_reducible refine Ext.drewN ?_ _) | (with_reducible refine Ext.drew ?_) | (with_reducible refine Ext.alloc ?_ _) | (with_reducible refine Ext.trans ?_ (by with_reducible assumption))))), blk_new' rfl rfl⟩
  rintro W ⟨hW, bp⟩
  have ub : W.cell? ⟨w1.heap.size, 0, none⟩ = some (.slice ta u.length tc) := bp.out.cell 0
  clear bp tb
  have hE2 := Lib.hid (hE1.out.trans hW.out)
  revert ub
  generalize w1.heap.size = bu
  intro ub
  obtain ⟨m, hm, hm2⟩ : ∃ m : Nat, a % 2048 = (m : Int) ∧ m < 2048 := ⟨(a % 2048).toNat, by omega, by omega⟩
  have hmk : ∀ V, (Instr.makeSlice 32 (.int .i64 (a % 2048)) (.int .i64 (a % 2048))).run Try.prog V = .ok (.slice (some ⟨V.heap.size, 0, none⟩) m m) (V.alloc (.cells (zerosV (m * 2)) 42)) := fun V => by rw [hm]; exact run_make_steps m (by omega) V
  clear hm
  go_upto_region 4 with (fail)
  clear hmk
  refine wp_abs (S := fun V => Hid (Ext W V) ∧ Hid (Spans V (.slice (some ⟨W.heap.size, 0, none⟩) m m) (List.replicate m (0, 0)))) ?_ ?_
  · exact ⟨Lib.hid (by exact (by repeat' (first | (with_reducible exact Ext.refl _) | (with_reducible assumption) | (with_reducible refine Ext.drewN ?_ _) | (with_reducible refine Ext.drew ?_) | (with_reducible refine Ext.alloc ?_ _) | (with_reducible refine Ext.trans ?_ (by with_reducible assumption))))), spans_zero (blk_new' rfl rfl) (by unfold maxLen; omega)⟩
  rintro V ⟨hV, hZ⟩
  replace ub := hV.out.cell ub
  replace hU := Lib.hid (hU.out.ext (hE2.out.trans hV.out))
  have hE := Lib.hid (hE2.out.trans hV.out)
  clear hV hE2 hW hE1
  generalize W.heap.size = bz at hZ ⊢
  obtain ⟨E, hEv⟩ : ∃ E, Hid (validT u = E) := ⟨_, rfl⟩
  obtain ⟨F, hF⟩ : ∃ F, Hid (errN u = F) := ⟨_, rfl⟩
  go_wp2_with fail
  refine (valid_calls _ u _ hU.out).mono ?_
  rw [hEv.out]
  rintro e v1 ⟨rfl, hx⟩
  replace ub := hx.cell ub
  replace hU := Lib.hid (hU.out.ext hx)
  replace hZ := Lib.hid (hZ.out.ext hx)
  replace hE := Lib.hid (hE.out.trans hx)
  clear hx
  go_wp2_with fail
  refine (states_calls _ (.slice none 0 0) u [] _ hU.out (nil_spans _)).mono ?_
  rw [states_nil, hEv.out]
  rintro e v2 ⟨sv, rfl, _, hx⟩
  replace ub := hx.cell ub
  replace hU := Lib.hid (hU.out.ext hx)
  replace hZ := Lib.hid (hZ.out.ext hx)
  replace hE := Lib.hid (hE.out.trans hx)
  clear hx
  go_wp2_with fail
  refine (parked_calls _ (.slice none 0 0) u [] _ hU.out (nil_spans _)).mono ?_
  rw [parked_nil, hEv.out]
  rintro e v3 ⟨rfl, hx⟩
  replace ub := hx.cell ub
  replace hU := Lib.hid (hU.out.ext hx)
  replace hZ := Lib.hid (hZ.out.ext hx)
  replace hE := Lib.hid (hE.out.trans hx)
  clear hx
  go_wp2_with fail
  refine (play_calls _ (.slice none 0 0) (.slice none 0 0) u [] [] _ hU.out (nil_spans _) (IntsO.nil _ 0).read).mono ?_
  rw [play_nil, hEv.out]
  rintro e v4 ⟨pv, rfl, _, hx⟩
  replace ub := hx.cell ub
  replace hU := Lib.hid (hU.out.ext hx)
  replace hZ := Lib.hid (hZ.out.ext hx)
  replace hE := Lib.hid (hE.out.trans hx)
  clear hx
  go_wp2_with fail
  refine (order_calls _ (.slice none 0 0) u [] _ hU.out (IntsO.nil _ 0).read).mono ?_
  rw [order_nil, hF.out]
  rintro e v5 ⟨ov, rfl, _, hx⟩
  replace ub := hx.cell ub
  replace hU := Lib.hid (hU.out.ext hx)
  replace hZ := Lib.hid (hZ.out.ext hx)
  replace hE := Lib.hid (hE.out.trans hx)
  clear hx
  go_wp2_with fail
  refine (carryCheckFull_calls _ (.slice none 0 0) (.slice none 0 0) u [] [] _ hU.out (IntsO.nil _ 0).read (nil_spans _)).mono ?_
  rw [check_nil, hF.out]
  rintro e v6 ⟨rfl, hx⟩
  replace ub := hx.cell ub
  replace hU := Lib.hid (hU.out.ext hx)
  replace hZ := Lib.hid (hZ.out.ext hx)
  replace hE := Lib.hid (hE.out.trans hx)
  clear hx
  go_wp2_with fail
  refine (exchange_calls _).mono ?_
  rintro e v7 ⟨xv, rfl, hX, hx⟩
  replace hZ := Lib.hid (hZ.out.ext hx)
  replace hE := Lib.hid (hE.out.trans hx)
  have hX' := Lib.hid hX
  obtain ⟨xa, xc, rfl⟩ := hX.form
  clear hx hX ub hU
  go_wp2_with fail
  refine (states_calls _ (.slice (some ⟨bz, 0, none⟩) m m) exchangeT (List.replicate m (0, 0)) _ hX'.out hZ.out).mono ?_
  rw [states_zero]
  rintro e v8 ⟨sv2, rfl, _, hx⟩
  replace hE := Lib.hid (hE.out.trans hx)
  clear hx hX' hZ
  by_cases hm3 : 1024 < m
  · rw [if_pos hm3]
    by_cases hz : E = 0
    · have hF1 : F = 1 := by rw [← hF.out, errN, if_pos (hEv.out.trans hz)]
      subst hz hF1
      clear hF hEv
      go_wp2
      go_ret
      exact ⟨rfl, hE.out⟩
    · have hF1 : F = E := by rw [← hF.out, errN, if_neg (fun e => hz (hEv.out.symm.trans e)), hEv.out]
      subst hF1
      have d0 : (F != 0) = true := by simp [hz]
      have d1 : (F == F) = true := by simp
      clear hF hEv hz
      go_wp2
      go_ret
      exact ⟨rfl, hE.out⟩
  · rw [if_neg hm3]
    have hm4 : m ≤ 1024 := by omega
    clear hm3
    by_cases hz : E = 0
    · have hF1 : F = 1 := by rw [← hF.out, errN, if_pos (hEv.out.trans hz)]
      subst hz hF1
      clear hF hEv
      go_wp2
      go_ret
      exact ⟨rfl, hE.out⟩
    · have hF1 : F = E := by rw [← hF.out, errN, if_neg (fun e => hz (hEv.out.symm.trans e)), hEv.out]
      subst hF1
      have d0 : (F != 0) = true := by simp [hz]
      have d1 : (F == F) = true := by simp
      clear hF hEv hz
      go_wp2
      go_ret
      exact ⟨rfl, hE.out⟩
end Go.Proofs.Ytkicielleiafgaa
