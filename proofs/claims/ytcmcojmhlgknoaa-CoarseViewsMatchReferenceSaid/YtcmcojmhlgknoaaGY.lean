/- The reference's Coarser: cell by cell; walked. -/
import Derived.Test.YtcmcojmhlgknoaaGX
namespace Go.Proofs.Ytcmcojmhlgknoaa
open Go.RowKit

/-! ### the plain law -/
/-- the first i numbers, each joined to the coarser cell that it lies in -/
def orS (view : List Nat) (r m : Nat) : Nat → List Nat
  | 0 => List.replicate m 0
  | i + 1 => (orS view r m i).set (i / r) (((orS view r m i)[i / r]?.getD 0) ||| (view[i]?.getD 0))
theorem orS_len (view : List Nat) (r m : Nat) : ∀ i, (orS view r m i).length = m
  | 0 => by simp [orS]
  | i + 1 => by simp [orS, orS_len view r m i]
theorem orS_bit (view : List Nat) (r m : Nat) (j p : Nat) (hj : j < m) : ∀ i, ((orS view r m i)[j]?.getD 0).testBit p = (List.range i).any fun q => decide (q / r = j) && (view[q]?.getD 0).testBit p
  | 0 => by simp [orS, hj]
  | i + 1 => by
    have ih := orS_bit view r m j p hj i
    rw [List.range_succ, List.any_append, ← ih]
    simp only [orS, List.any_cons, List.any_nil, Bool.or_false]
    by_cases h : i / r = j
    · rw [h, List.getElem?_set_self (by rw [orS_len]; exact hj)]
      simp
    · rw [List.getElem?_set_ne h]
      simp [h]
theorem orS_lt {view : List Nat} {r m : Nat} (hv : ∀ x ∈ view, x < 2 ^ 8) : ∀ i, ∀ x ∈ orS view r m i, x < 2 ^ 8
  | 0, x, h => by
    simp only [orS, List.mem_replicate] at h
    omega
  | i + 1, x, h => by
    simp only [orS] at h
    rcases List.mem_or_eq_of_mem_set h with h | rfl
    · exact orS_lt hv i x h
    · refine Nat.or_lt_two_pow ?_ ?_
      · cases e : (orS view r m i)[i / r]? with
        | none => simp
        | some y => exact orS_lt hv i y (List.mem_of_getElem? e)
      · cases e : view[i]? with
        | none => simp
        | some y => exact hv y (List.mem_of_getElem? e)
/-- the first k numbers, each 1 at most -/
def minS (l : List Nat) (k : Nat) : List Nat := (l.take k).map (fun x => min x 1) ++ l.drop k
theorem minS_len (l : List Nat) (k : Nat) : (minS l k).length = l.length := by simp [minS]; omega
theorem minS_at {l : List Nat} {k : Nat} {x : Nat} (h : l[k]? = some x) : (minS l k)[k]? = some x := by
  have hk := (List.getElem?_eq_some_iff.1 h).1
  unfold minS
  rw [List.getElem?_append_right (by simp; omega)]
  simp only [List.length_map, List.length_take, List.getElem?_drop]
  rw [← h]
  congr 1
  omega
theorem minS_step {l : List Nat} {k : Nat} {x : Nat} (h : l[k]? = some x) : minS l (k + 1) = (minS l k).set k (min x 1) := by
  obtain ⟨hk, rfl⟩ := List.getElem?_eq_some_iff.1 h
  unfold minS
  rw [List.set_append_right _ _ (by simp; omega)]
  simp only [List.length_map, List.length_take]
  rw [show k - min k l.length = 0 by omega, List.drop_eq_getElem_cons hk, List.set_cons_zero, List.take_add_one, List.getElem?_eq_getElem hk, List.map_append, List.append_assoc]
  rfl
theorem minS_all (l : List Nat) : minS l l.length = l.map fun x => min x 1 := by simp [minS]
theorem or_part {view : List Nat} {r m j : Nat} (hr : 1 ≤ r) (hj : j < m) (hn : view.length = m * r) (p : Nat) : ((orS view r m view.length)[j]?.getD 0).testBit p = ((view.drop (j * r)).take r).any fun x => x.testBit p := by
  rw [orS_bit view r m j p hj, Bool.eq_iff_iff, List.any_eq_true, List.any_eq_true]
  have hjr : j * r + r ≤ m * r := by rw [← Nat.succ_mul]; exact Nat.mul_le_mul_right _ hj
  constructor
  · rintro ⟨q, hq, h⟩
    simp only [Bool.and_eq_true, decide_eq_true_eq, List.mem_range] at hq h
    obtain ⟨h1, h2⟩ := h
    have hdm := Nat.div_add_mod q r
    have hlt := Nat.mod_lt q (show 0 < r by omega)
    rw [h1, Nat.mul_comm] at hdm
    refine ⟨view[q]?.getD 0, ?_, h2⟩
    refine List.mem_of_getElem? (i := q - j * r) ?_
    rw [List.getElem?_take_of_lt (by omega), List.getElem?_drop, show j * r + (q - j * r) = q by omega, List.getElem?_eq_getElem hq]
    rfl
  · rintro ⟨x, hx, h⟩
    obtain ⟨i, hi⟩ := List.mem_iff_getElem?.1 hx
    have hir : i < r := by
      have := (List.getElem?_eq_some_iff.1 hi).1
      simp at this
      omega
    rw [List.getElem?_take_of_lt hir, List.getElem?_drop] at hi
    refine ⟨j * r + i, ?_, ?_⟩
    · rw [List.mem_range]
      omega
    · rw [hi]
      simp only [Bool.and_eq_true, decide_eq_true_eq, Option.getD_some]
      refine ⟨?_, h⟩
      rw [Nat.mul_comm, Nat.mul_add_div (by omega), Nat.div_eq_of_lt hir, Nat.add_zero]
theorem coars_or {view : List Nat} {to : Int} {r m : Nat} (hr : 1 ≤ r) (hn : view.length = m * r) : coarsL to r view m = if to ≤ 2 then (orS view r m view.length).map (fun x => min x 1) else orS view r m view.length := by
  have hlen := orS_len view r m view.length
  apply List.ext_getElem?
  intro j
  by_cases hj : j < m
  · have e1 : (coarsL to r view m)[j]? = some (joinN to ((view.drop (j * r)).take r)) := by simp [coarsL, hj]
    obtain ⟨y, hy⟩ : ∃ y, (orS view r m view.length)[j]? = some y := ⟨_, List.getElem?_eq_getElem (by rw [hlen]; exact hj)⟩
    have hb : ∀ p, y.testBit p = ((view.drop (j * r)).take r).any fun x => x.testBit p := fun p => by
      have := or_part hr hj hn p
      rwa [hy] at this
    rw [e1]
    by_cases h2 : to ≤ 2
    · rw [if_pos h2, List.getElem?_map, hy, Option.map_some]
      congr 1
      apply Nat.eq_of_testBit_eq
      intro p
      rw [join_bit, min_bit]
      have hbn : ∀ x, bitN to x = min x 1 := fun x => if_pos h2
      simp only [hbn, min_bit]
      by_cases hp : p = 0
      · rw [decide_eq_true hp, Bool.true_and]
        simp only [Bool.true_and]
        rw [Bool.eq_iff_iff, List.any_eq_true, decide_eq_true_iff]
        constructor
        · rintro ⟨x, hx, hx2⟩ h0
          rw [decide_eq_true_iff] at hx2
          refine hx2 (Nat.eq_of_testBit_eq fun q => ?_)
          rw [Nat.zero_testBit]
          have := hb q
          rw [h0, Nat.zero_testBit] at this
          have h3 := this.symm
          rw [List.any_eq_false] at h3
          simpa using h3 x hx
        · intro h0
          apply Classical.byContradiction
          intro h3
          refine h0 (Nat.eq_of_testBit_eq fun q => ?_)
          rw [hb q, Nat.zero_testBit, List.any_eq_false]
          intro x hx
          have : x = 0 := Classical.byContradiction fun h4 => h3 ⟨x, hx, by rw [decide_eq_true_iff]; exact h4⟩
          rw [this]
          simp
      · rw [decide_eq_false hp]
        simp
    · rw [if_neg h2, hy]
      congr 1
      apply Nat.eq_of_testBit_eq
      intro p
      rw [join_bit, hb p]
      have hbn : ∀ x, bitN to x = x := fun x => if_neg h2
      simp only [hbn]
  · rw [List.getElem?_eq_none (by simp [coarsL]; omega)]
    split
    · rw [List.getElem?_eq_none (by simp; omega)]
    · rw [List.getElem?_eq_none (by omega)]

/-! ### the walk -/
theorem nums_ofV {w : World} {g : Nat} {l : List Nat} (h : Blk w g 3 (numV l)) (hl : l.length ≤ maxLen) (n : Nat) (hn : n = l.length) : Nums w (.slice (some ⟨g, 0, none⟩) n n) l := by
  subst hn
  exact nums_of_blk h hl
set_option maxHeartbeats 6400000 in
set_option maxRecDepth 100000 in
theorem rCoarser_calls (va : Value) (view : List Int) (g to f t : Int) (w : World) (h : Ints w va view) :
    Calls Try.prog 16 #[va, .int .i64 g, .int .i64 to, .agg #[.int .i64 f, .int .i64 t]] w fun e w' => ∃ v, e = .returned (.tuple #[v, .int .i64 (coarserG view g to f t).2]) ∧ Nums w' v (coarserG view g to f t).1 ∧ Ext w w' := by
  have hI := Lib.hid h
  obtain ⟨a, c, rfl, hn, hc, hat⟩ := h.open
  have hat' := Lib.hid hat
  clear h hat
  obtain ⟨n0, e0, hce⟩ : ∃ n0 e0, Hid (cellsG g f t = (n0, e0)) := ⟨_, _, rfl⟩
  have hcel : Hid (∀ W, Calls Try.prog 14 #[.int .i64 g, .agg #[.int .i64 f, .int .i64 t]] W fun e w' => e = .returned (.tuple #[.int .i64 n0, .int .i64 e0]) ∧ Ext W w') := fun W => by
    have := rCells_calls g f t W
    rw [hce.out] at this
    exact this
  obtain ⟨m0, e1, hct⟩ : ∃ n0 e0, Hid (cellsG to f t = (n0, e0)) := ⟨_, _, rfl⟩
  have hcel2 : Hid (∀ W, Calls Try.prog 14 #[.int .i64 to, .agg #[.int .i64 f, .int .i64 t]] W fun e w' => e = .returned (.tuple #[.int .i64 m0, .int .i64 e1]) ∧ Ext W w') := fun W => by
    have := rCells_calls to f t W
    rw [hct.out] at this
    exact this
  obtain ⟨p, hp⟩ : ∃ p, Hid (possB view g n0 = p) := ⟨_, rfl⟩
  have hpos : Hid (∀ W, Ext w W → Calls Try.prog 40 #[.slice a view.length c, .int .i64 g, .int .i64 n0] W fun e w' => e = .returned (.bool p) ∧ Ext W w') := fun W hW => hp.out ▸ rPossible_calls _ view g n0 W (hI.out.ext hW)
  by_cases h0 : e0 = 0
  · have hz0 : (e0 != 0) = false := by simp [h0]
    have hce0 : (cellsG g f t).2 = 0 := by rw [hce.out]; exact h0
    have hG : Hid (coarserG view g to f t = if p && (decide (0 ≤ to) && decide (to ≤ g)) then (if (cellsG to f t).2 = 0 then (coarsL to (ratioG g to) (view.map Int.toNat) (cellsG to f t).1.toNat, 0) else ([], (cellsG to f t).2)) else ([], 1)) := by
      show _ = _
      unfold coarserG
      rw [if_pos hce0, hce.out, hp.out]
    clear h0
    cases p with
    | false =>
      have R : Hid (coarserG view g to f t = ([], 1)) := by show _ = _; rw [hG.out]; rfl
      clear hce hp hce0 hG
      go_enter Try.func16, Try.ntmps16
      go_wp2_with fail
      refine (hcel.out _).mono ?_
      rintro e w1 ⟨rfl, hx1⟩
      have hB1 : Hid (Blk w1 w.heap.size 28 #[.int .i64 f, .int .i64 t]) := Lib.hid ((Keep.of_ext (X := fun _ => False) hx1).blk (blk_new' rfl rfl) id)
      have hE1 := Lib.hid (((Ext.refl w).alloc (.cells #[.int .i64 f, .int .i64 t] 28)).trans hx1)
      clear hx1 hcel
      go_wp2_with fail
      refine (hpos.out _ hE1.out).mono ?_
      rintro e w2 ⟨rfl, hx2⟩
      have hB2 := Lib.hid ((Keep.of_ext (X := fun _ => False) hx2).blk hB1.out id)
      have hE2 := Lib.hid (hE1.out.trans hx2)
      clear hx2 hE1 hB1 hpos
      go_wp2
      go_ret2
      rw [R.out]
      exact ⟨_, rfl, nums_nil _, hE2.out⟩
    | true =>
      by_cases k1 : to < 0
      · have d1 : decide (to < 0) = true := decide_eq_true k1
        have R : Hid (coarserG view g to f t = ([], 1)) := by show _ = _; rw [hG.out, decide_eq_false (show ¬ 0 ≤ to by omega)]; rfl
        clear hce hp hce0 hG k1
        go_enter Try.func16, Try.ntmps16
        go_wp2_with fail
        refine (hcel.out _).mono ?_
        rintro e w1 ⟨rfl, hx1⟩
        have hB1 : Hid (Blk w1 w.heap.size 28 #[.int .i64 f, .int .i64 t]) := Lib.hid ((Keep.of_ext (X := fun _ => False) hx1).blk (blk_new' rfl rfl) id)
        have hE1 := Lib.hid (((Ext.refl w).alloc (.cells #[.int .i64 f, .int .i64 t] 28)).trans hx1)
        clear hx1 hcel
        go_wp2_with fail
        refine (hpos.out _ hE1.out).mono ?_
        rintro e w2 ⟨rfl, hx2⟩
        have hB2 := Lib.hid ((Keep.of_ext (X := fun _ => False) hx2).blk hB1.out id)
        have hE2 := Lib.hid (hE1.out.trans hx2)
        clear hx2 hE1 hB1 hpos
        go_wp2
        go_ret2
        rw [R.out]
        exact ⟨_, rfl, nums_nil _, hE2.out⟩
      · have d1 : decide (to < 0) = false := decide_eq_false k1
        by_cases k2 : g < to
        · have d2 : decide (g < to) = true := decide_eq_true k2
          have R : Hid (coarserG view g to f t = ([], 1)) := by show _ = _; rw [hG.out, decide_eq_false (show ¬ to ≤ g by omega), Bool.and_false, Bool.and_false]; rfl
          clear hce hp hce0 hG k1 k2
          go_enter Try.func16, Try.ntmps16
          go_wp2_with fail
          refine (hcel.out _).mono ?_
          rintro e w1 ⟨rfl, hx1⟩
          have hB1 : Hid (Blk w1 w.heap.size 28 #[.int .i64 f, .int .i64 t]) := Lib.hid ((Keep.of_ext (X := fun _ => False) hx1).blk (blk_new' rfl rfl) id)
          have hE1 := Lib.hid (((Ext.refl w).alloc (.cells #[.int .i64 f, .int .i64 t] 28)).trans hx1)
          clear hx1 hcel
          go_wp2_with fail
          refine (hpos.out _ hE1.out).mono ?_
          rintro e w2 ⟨rfl, hx2⟩
          have hB2 := Lib.hid ((Keep.of_ext (X := fun _ => False) hx2).blk hB1.out id)
          have hE2 := Lib.hid (hE1.out.trans hx2)
          clear hx2 hE1 hB1 hpos
          go_wp2
          go_ret2
          rw [R.out]
          exact ⟨_, rfl, nums_nil _, hE2.out⟩
        · have d2 : decide (g < to) = false := decide_eq_false k2
          have hG2 : Hid (coarserG view g to f t = if (cellsG to f t).2 = 0 then (coarsL to (ratioG g to) (view.map Int.toNat) (cellsG to f t).1.toNat, 0) else ([], (cellsG to f t).2)) := by
            show _ = _
            rw [hG.out, decide_eq_true (show 0 ≤ to by omega), decide_eq_true (show to ≤ g by omega)]
            rfl
          clear hG
          by_cases h1 : e1 = 0
          · have hz1 : (e1 != 0) = false := by simp [h1]
            have hct0 : (cellsG to f t).2 = 0 := by rw [hct.out]; exact h1
            obtain ⟨hg4, hwin, hcl⟩ := cells_ok hce0
            obtain ⟨ht4, _, _⟩ := cells_ok hct0
            obtain ⟨n, hn1, hn2, hn3⟩ := cells_num hce0
            obtain ⟨m, hm1, hm2, hm3⟩ := cells_num hct0
            obtain ⟨hr0, hr1, hr2⟩ := ratio_is ht4.1 (show to ≤ g by omega) hg4.2
            have hnm := cells_ratio hce0 hct0 (by omega) hn1 hm1
            obtain ⟨r, hr⟩ : ∃ r, Hid (ratioG g to = r) := ⟨_, rfl⟩
            rw [hr.out] at hr0 hr1 hr2 hnm hG2
            obtain rfl : n0 = (n : Int) := by rw [← hn1, hce.out]
            obtain rfl : m0 = (m : Int) := by rw [← hm1, hct.out]
            have hlen : view.length = n := by
              have h3 := hp.out
              simp only [possB, Bool.and_eq_true, decide_eq_true_eq] at h3
              omega
            obtain ⟨hnat, h28⟩ := poss_nat hp.out
            obtain ⟨l, hl⟩ : ∃ l, Hid (view.map Int.toNat = l) := ⟨_, rfl⟩
            rw [hl.out] at hnat h28 hG2
            have hll : Hid (l.length = n) := by show _ = _; rw [← hl.out, List.length_map, hlen]
            have hlv : Hid (∀ (i : Nat) (x : Int), view[i]? = some x → ∃ y : Nat, l[i]? = some y ∧ x = y ∧ y < 2 ^ 8) := fun i x hx => by
              rw [hnat, List.getElem?_map] at hx
              cases e : l[i]? with
              | none => rw [e] at hx; cases hx
              | some y => rw [e] at hx; cases hx; exact ⟨y, rfl, rfl, h28 y (List.mem_of_getElem? e)⟩
            have h28' := Lib.hid h28
            have R : Hid (coarserG view g to f t = (coarsL to r l m, 0)) := by
              show _ = _
              rw [hG2.out, if_pos hct0, hct.out]
              rfl
            have hR2 : Hid (coarsL to r l m = if to ≤ 2 then (orS l r m n).map (fun x => min x 1) else orS l r m n) := by
              show _ = _
              rw [coars_or hr1 (by rw [hll.out, hnm]), hll.out]
            obtain ⟨s, hs⟩ : ∃ s, Hid (sizeG g = s) := ⟨_, rfl⟩
            obtain ⟨S, hS⟩ : ∃ s, Hid (sizeG to = s) := ⟨_, rfl⟩
            rw [hs.out, hS.out] at hr0
            have hs1 : 1 ≤ s := by rw [← hs.out]; exact (size_pos g).1
            have hs2 : s ≤ 1440 := by rw [← hs.out]; exact (size_pos g).2
            have hS1 : 1 ≤ S := by rw [← hS.out]; exact (size_pos to).1
            have hsz : Hid (∀ W, Calls Try.prog 26 #[.int .i64 g] W fun e w' => e = .returned (.int .i64 s) ∧ Ext W w') := fun W => hs.out ▸ rSize_calls g W
            have hSz : Hid (∀ W, Calls Try.prog 26 #[.int .i64 to] W fun e w' => e = .returned (.int .i64 S) ∧ Ext W w') := fun W => hS.out ▸ rSize_calls to W
            have hS0 : (S == 0) = false := by rw [beq_eq_false_iff_ne]; omega
            have hr0' := Lib.hid hr0
            have hnm' := Lib.hid hnm
            have hlen' := Lib.hid hlen
            have hmk := run_make_ints m (by omega)
            clear hce hp hce0 hct hct0 h1 k1 k2 hwin hcl hg4 ht4 hn1 hm1 hn3 hm3 hr0 hnm hG2 hnat h28 hl hlen hs hS hr
            go_enter Try.func16, Try.ntmps16
            go_wp2_with fail
            refine (hcel.out _).mono ?_
            rintro e w1 ⟨rfl, hx1⟩
            have hB1 : Hid (Blk w1 w.heap.size 28 #[.int .i64 f, .int .i64 t]) := Lib.hid ((Keep.of_ext (X := fun _ => False) hx1).blk (blk_new' rfl rfl) id)
            have hE1 := Lib.hid (((Ext.refl w).alloc (.cells #[.int .i64 f, .int .i64 t] 28)).trans hx1)
            clear hx1 hcel
            go_wp2_with fail
            refine (hpos.out _ hE1.out).mono ?_
            rintro e w2 ⟨rfl, hx2⟩
            have hB2 := Lib.hid ((Keep.of_ext (X := fun _ => False) hx2).blk hB1.out id)
            have hE2 := Lib.hid (hE1.out.trans hx2)
            clear hx2 hE1 hB1 hpos
            have b0 : w2.cell? ⟨w.heap.size, 0, none⟩ = some (.int .i64 f) := hB2.out.cell 0
            have b1 : w2.cell? ⟨w.heap.size, 1, none⟩ = some (.int .i64 t) := hB2.out.cell 1
            have blt := hB2.out.lt
            go_wp2_with fail
            refine (hcel2.out _).mono ?_
            rintro e w3 ⟨rfl, hx3⟩
            have hE3 := Lib.hid (hE2.out.trans hx3)
            clear b0 b1 blt hx3 hE2 hB2 hcel2
            go_wp2_with fail
            have hs3 := hE3.out.size
            refine wp_abs (S := fun W => Hid (Ext w W) ∧ Hid (Blk W w3.heap.size 3 (numV (orS l r m 0)))) ⟨Lib.hid (hE3.out.alloc _), Lib.hid (by
              have : numV (orS l r m 0) = zerosV m := numV_zeros m
              rw [this]
              exact blk_new' rfl rfl)⟩ ?_
            rintro w4 ⟨hE4, hB4⟩
            clear hmk hE3
            go_loopw [15, 16] (fun vi _ wr => ∃ i : Nat, i ≤ n ∧ vi = .int .i64 i ∧ Hid (Blk wr w3.heap.size 3 (numV (orS l r m i))) ∧ Hid (Ext w wr)) (fun vi _ _ => n - (intOf vi).toNat)
            case atStart => exact ⟨0, by omega, rfl, hB4, hE4⟩
            case round =>
              clear hB4 hE4
              obtain ⟨i, hi, rfl, hB, hE⟩ := hrel
              by_cases hin : i < n
              · have hiv : i < view.length := by have := hlen'.out; omega
                obtain ⟨b1, o1, x, rfl, hb1, _, ex, g1⟩ := hat'.out i hiv wr hE.out
                obtain ⟨y, hy, rfl, hy8⟩ := hlv.out i x ex.out
                obtain ⟨k, hk⟩ : ∃ k, Hid (i / r = k) := ⟨_, rfl⟩
                have hkm : k < m := by
                  rw [← hk.out]
                  exact (Nat.div_lt_iff_lt_mul (by omega)).2 (by have := hnm'.out; omega)
                obtain ⟨z, hz⟩ : ∃ z, (orS l r m i)[k]? = some z := ⟨_, List.getElem?_eq_getElem (by rw [orS_len]; exact hkm)⟩
                have hz8 : z < 2 ^ 8 := orS_lt h28'.out i z (List.mem_of_getElem? hz)
                have hor : bits .or .i64 (z : Int) (y : Int) = ((z ||| y : Nat) : Int) := or_nat z y hz8 hy8
                have hnext : Hid (orS l r m (i + 1) = (orS l r m i).set k (z ||| y)) := by
                  show _ = _
                  simp only [orS]
                  rw [hk.out, hz, hy]
                  rfl
                have hq : ((i : Int) * s).tdiv S = (k : Int) := by
                  rw [hr0'.out, Int.tdiv_eq_ediv_of_nonneg (Int.mul_nonneg (by omega) (by omega)), Int.mul_ediv_mul_of_pos_left _ _ (by omega), ← hk.out]
                  exact (Int.natCast_ediv i r).symm
                have hb0 : 0 ≤ (i : Int) * s := Int.mul_nonneg (by omega) (by omega)
                have hb2 : (i : Int) * s ≤ 94371840 := by
                  have := Int.mul_le_mul (show (i : Int) ≤ 65536 by omega) hs2 (by omega) (by omega)
                  omega
                have hkc : Hid ((numV (orS l r m i))[k]? = some (.int .i64 (z : Int))) := by
                  show _ = _
                  rw [numV_at (by rw [orS_len]; exact hkm), hz]; rfl
                clear hk ex hy8 hz8 hy
                go_wp2_with fail
                refine (hsz.out _).mono ?_
                rintro e w5 ⟨rfl, hu⟩
                replace g1 := hu.cell g1
                have hB5 := Lib.hid ((Keep.of_ext (X := fun _ => False) hu).blk hB.out id)
                have hE5 := Lib.hid (hE.out.trans hu)
                clear hB hE hu
                go_wp2_with fail
                refine (hSz.out _).mono ?_
                rintro e w6 ⟨rfl, hu⟩
                replace g1 := hu.cell g1
                have hB := Lib.hid ((Keep.of_ext (X := fun _ => False) hu).blk hB5.out id)
                have hE := Lib.hid (hE5.out.trans hu)
                clear hB5 hE5 hu
                go_upto_region 14 with (fail)
                have z1 := After.cell g1
                have z2 := After.cell (show w6.cell? ⟨w3.heap.size, k, none⟩ = some (.int .i64 z) by rw [hB.out.cell k]; exact hkc.out)
                refine wp_region_tail 12 (by kernel_rfl) (by kernel_rfl) ?_
                simp only [List.take_succ_cons, List.take_zero, List.drop_succ_cons, List.drop_zero]
                repeat (go_big_quiet_step (fail))
                refine wpQuiet_nil ?_
                rintro _ ⟨u, rfl⟩
                have hu := u.ext
                generalize u.world = V at hu ⊢
                clear z1 z2 g1 u hq hb0 hb2
                have hBV := (Keep.of_ext (X := fun _ => False) hu).blk hB.out id
                have hlt := hBV.lt
                have c1 : V.cell? ⟨w3.heap.size, k, none⟩ = some (.int .i64 z) := by rw [hBV.cell k]; exact hkc.out
                have f1 := hBV.frozen k
                have hBn : Hid (Blk (V.setCell ⟨w3.heap.size, k, none⟩ (.int .i64 ((z ||| y : Nat) : Int))) w3.heap.size 3 (numV (orS l r m (i + 1)))) := by
                  rw [hnext.out, ← numV_set]
                  exact Lib.hid (hBV.set_ k _)
                have hEn : Hid (Ext w (V.setCell ⟨w3.heap.size, k, none⟩ (.int .i64 ((z ||| y : Nat) : Int)))) := Lib.hid ((hE.out.trans hu).setCell hs3 _)
                clear hBV hB hE hu hnext hkc
                go_wp2
                go_roundw
                case rel => first | exact ⟨i + 1, hin, by go_num, hBn, hEn⟩ | ((repeat apply Exists.intro); exact ⟨⟨i + 1, hin, by go_num, hBn, hEn⟩, rfl⟩)
                case measure => simp [intOf]; omega
              · obtain rfl : i = n := by omega
                obtain ⟨F, hF⟩ : ∃ F, Hid (orS l r m i = F) := ⟨_, rfl⟩
                rw [hF.out] at hB hR2
                have hFl : Hid (F.length = m) := by show _ = _; rw [← hF.out, orS_len]
                clear hF hlv h28' hsz hSz hat'
                by_cases h2 : to ≤ 2
                · have d5 : decide (to ≤ 2) = true := decide_eq_true h2
                  have hR3 : Hid (coarsL to r l m = F.map fun x => min x 1) := by show _ = _; rw [hR2.out, if_pos h2]
                  clear hR2 h2
                  rename World => wL
                  go_wp2_with fail
                  go_loopw [17] (fun vi wr => ∃ j : Nat, j ≤ m ∧ vi = .int .i64 j ∧ Hid (Blk wr w3.heap.size 3 (numV (minS F j))) ∧ Hid (Ext w wr)) (fun vi _ => m - (intOf vi).toNat)
                  case atStart => exact ⟨0, by omega, rfl, Lib.hid (by have : minS F 0 = F := by simp [minS]
                                                                       rw [this]; exact hB.out), hE⟩
                  case round =>
                    clear hB hE
                    obtain ⟨j, hj, rfl, hB, hE⟩ := hrel
                    by_cases hjm : j < m
                    · obtain ⟨z, hz⟩ : ∃ z, F[j]? = some z := ⟨_, List.getElem?_eq_getElem (by have := hFl.out; omega)⟩
                      have hnext : Hid (minS F (j + 1) = (minS F j).set j (min z 1)) := minS_step hz
                      have hkc : (numV (minS F j))[j]? = some (.int .i64 (z : Int)) := by
                        rw [numV_at (by rw [minS_len]; have := hFl.out; omega), minS_at hz]; rfl
                      have c1 : wr.cell? ⟨w3.heap.size, j, none⟩ = some (.int .i64 z) := by rw [hB.out.cell j]; exact hkc
                      have f1 := hB.out.frozen j
                      have hlt := hB.out.lt
                      have hmin : min (z : Int) 1 = ((min z 1 : Nat) : Int) := by omega
                      clear hz hkc
                      have hBn : Hid (Blk (wr.setCell ⟨w3.heap.size, j, none⟩ (.int .i64 ((min z 1 : Nat) : Int))) w3.heap.size 3 (numV (minS F (j + 1)))) := by
                        rw [hnext.out, ← numV_set]
                        exact Lib.hid (hB.out.set_ j _)
                      have hEn : Hid (Ext w (wr.setCell ⟨w3.heap.size, j, none⟩ (.int .i64 ((min z 1 : Nat) : Int)))) := Lib.hid (hE.out.setCell hs3 _)
                      clear hnext hB hE
                      go_wp2_with fail
                      refine ⟨⟨j + 1, hjm, by go_num, hBn, hEn⟩, ?_⟩
                      simp [intOf]; omega
                    · obtain rfl : j = m := by omega
                      have R2 : Hid (minS F j = coarsL to r l j) := by
                        show _ = _
                        rw [hR3.out, ← hFl.out, minS_all]
                      go_wp2
                      go_ret2
                      rw [R.out]
                      refine ⟨_, rfl, ?_, hE.out⟩
                      dsimp only
                      rw [← R2.out]
                      exact nums_ofV hB.out (by rw [minS_len, hFl.out]; unfold maxLen; omega) j (by rw [minS_len]; exact hFl.out.symm)
                · have d5 : decide (to ≤ 2) = false := decide_eq_false h2
                  have hR3 : Hid (coarsL to r l m = F) := by show _ = _; rw [hR2.out, if_neg h2]
                  clear hR2 h2
                  rename World => wL
                  go_wp2_with fail
                  go_loopw [17] (fun vi wr => vi = .int .i64 0 ∧ Hid (Blk wr w3.heap.size 3 (numV F)) ∧ Hid (Ext w wr)) (fun vi _ => m - (intOf vi).toNat)
                  case atStart => exact ⟨rfl, hB, hE⟩
                  case round =>
                    clear hB hE
                    obtain ⟨rfl, hB, hE⟩ := hrel
                    go_wp2
                    all_goals
                      go_ret2
                      rw [R.out]
                      refine ⟨_, rfl, ?_, hE.out⟩
                      dsimp only
                      rw [hR3.out]
                      exact nums_ofV hB.out (by rw [hFl.out]; unfold maxLen; omega) m hFl.out.symm
          · have hz1 : (e1 != 0) = true := by simp [h1]
            have R : Hid (coarserG view g to f t = ([], e1)) := by show _ = _; rw [hG2.out, hct.out, if_neg h1]
            clear hce hp hce0 hct h1 k1 k2 hG2
            go_enter Try.func16, Try.ntmps16
            go_wp2_with fail
            refine (hcel.out _).mono ?_
            rintro e w1 ⟨rfl, hx1⟩
            have hB1 : Hid (Blk w1 w.heap.size 28 #[.int .i64 f, .int .i64 t]) := Lib.hid ((Keep.of_ext (X := fun _ => False) hx1).blk (blk_new' rfl rfl) id)
            have hE1 := Lib.hid (((Ext.refl w).alloc (.cells #[.int .i64 f, .int .i64 t] 28)).trans hx1)
            clear hx1 hcel
            go_wp2_with fail
            refine (hpos.out _ hE1.out).mono ?_
            rintro e w2 ⟨rfl, hx2⟩
            have hB2 := Lib.hid ((Keep.of_ext (X := fun _ => False) hx2).blk hB1.out id)
            have hE2 := Lib.hid (hE1.out.trans hx2)
            clear hx2 hE1 hB1 hpos
            have b0 : w2.cell? ⟨w.heap.size, 0, none⟩ = some (.int .i64 f) := hB2.out.cell 0
            have b1 : w2.cell? ⟨w.heap.size, 1, none⟩ = some (.int .i64 t) := hB2.out.cell 1
            have blt := hB2.out.lt
            go_wp2_with fail
            refine (hcel2.out _).mono ?_
            rintro e w3 ⟨rfl, hx3⟩
            have hE3 := Lib.hid (hE2.out.trans hx3)
            clear b0 b1 blt hx3 hE2 hB2 hcel2
            go_wp2
            go_ret2
            rw [R.out]
            exact ⟨_, rfl, nums_nil _, hE3.out⟩
  · have hz0 : (e0 != 0) = true := by simp [h0]
    have R : Hid (coarserG view g to f t = ([], e0)) := by show _ = _; unfold coarserG; rw [hce.out, if_neg h0]
    clear hce hp h0
    go_enter Try.func16, Try.ntmps16
    go_wp2_with fail
    refine (hcel.out _).mono ?_
    rintro e w1 ⟨rfl, hx1⟩
    have hB1 : Hid (Blk w1 w.heap.size 28 #[.int .i64 f, .int .i64 t]) := Lib.hid ((Keep.of_ext (X := fun _ => False) hx1).blk (blk_new' rfl rfl) id)
    have hE1 := Lib.hid (((Ext.refl w).alloc (.cells #[.int .i64 f, .int .i64 t] 28)).trans hx1)
    clear hx1 hcel
    go_wp2
    go_ret2
    rw [R.out]
    exact ⟨_, rfl, nums_nil _, hE1.out⟩
end Go.Proofs.Ytcmcojmhlgknoaa
