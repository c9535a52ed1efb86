/- Walks of the check: formed. -/
import Derived.Test.YtonmlmkemliefaaFormA
import Derived.Test.YtonmlmkemliefaaBegin
namespace Go.Proofs.Ytonmlmkemliefaa
open Go.RowKit

theorem tickKids_len {n i : Int} : ∀ {l ps qs : List Int}, tickKids n i l ps = some qs → qs.length = ps.length
  | [], ps, qs, h => by cases h; rfl
  | k :: r, ps, qs, h => by
    simp only [tickKids] at h
    split at h
    · cases h
    · have := tickKids_len h; simpa using this
/-- from kid j on, with the counts ps, the answer is that of the whole -/
def TickAt (n i : Int) (l : List Int) (ps0 : List Int) (j : Nat) (ps : List Int) : Prop := tickKids n i l ps0 = tickKids n i (l.drop j) ps
def AllAt (n : Int) (c : List NodeD) (ps0 : List Int) (i : Nat) (ps : List Int) : Prop := tickAll n c 0 ps0 = tickAll n (c.drop i) i ps
/-- the counts are small -/
def Small (m : Nat) (ps : List Int) : Prop := ∀ x ∈ ps, 0 ≤ x ∧ x ≤ m
theorem Small.mono {m m' : Nat} {ps : List Int} (h : Small m ps) (hm : m ≤ m') : Small m' ps := fun x hx => by have := h x hx; omega
theorem Small.tick {m : Nat} {ps : List Int} (h : Small m ps) (k : Nat) (hk : k < ps.length) : Small (m + 1) (ps.set k (ps[k]?.getD 0 + 1)) := by
  intro x hx
  rcases List.mem_or_eq_of_mem_set hx with h1 | h1
  · have := h x h1; omega
  · have := h (ps[k]) (List.getElem_mem hk)
    rw [List.getElem?_eq_getElem hk] at h1
    simp at h1
    omega

set_option maxHeartbeats 3200000 in
set_option maxRecDepth 100000 in
theorem formed_calls (cv : Value) (c : List NodeD) (w : World) (h : Nodes w cv c) (hk : ∀ n ∈ c, n.kids.length ≤ 65536) :
    Calls Try.prog 41 #[cv] w fun e w' => e = .returned (.bool (formedB c)) ∧ Ext w w' := by
  have hkk := Lib.hid hk
  obtain ⟨a, cc, rfl, hn, hc, hat⟩ := h.open
  clear h hk
  by_cases h0 : c.length = 0
  · have e : Hid (formedB c = false) := by show _ = _; simp [formedB, h0]
    go_enter Try.func41, Try.ntmps41
    go_wp2
    go_ret
    rw [e.out]
    exact ⟨rfl, Ext.refl _⟩
  by_cases h1 : 65536 < c.length
  · have e : Hid (formedB c = false) := by show _ = _; simp [formedB, h1]
    go_enter Try.func41, Try.ntmps41
    go_wp2
    go_ret
    rw [e.out]
    exact ⟨rfl, Ext.refl _⟩
  have hmk := run_make_ints c.length (by omega)
  have hF : Hid (formedB c = tickOk (tickAll c.length c 0 (zerosL c.length))) := by
    show _ = _
    unfold formedB
    rw [if_neg (by omega)]
  have hb0 : ((c.length : Int) == 0) = false := by simpa using h0
  go_enter Try.func41, Try.ntmps41
  go_wp2_with fail
  go_loopw [21] (fun vi wr => ∃ (i : Nat) (ps : List Int), i ≤ c.length ∧ vi = .int .i64 i ∧ Hid (Ext w wr) ∧ Hid (Blk wr w.heap.size 3 (ps.map (Value.int .i64)).toArray) ∧ ps.length = c.length ∧ Hid (AllAt c.length c (zerosL c.length) i ps) ∧ Hid (Small (i * 65536) ps)) (fun vi _ => c.length - (intOf vi).toNat)
  case atStart =>
    refine ⟨0, zerosL c.length, by omega, rfl, Lib.hid (by exact (by repeat' (first | (with_reducible exact Ext.refl _) | (with_reducible assumption) | (with_reducible refine Ext.drewN ?_ _) | (with_reducible refine Ext.drew ?_) | (with_reducible refine Ext.alloc ?_ _) | (with_reducible refine Ext.trans ?_ (by with_reducible assumption))))), Lib.hid (by exact blk_new' rfl rfl), zerosL_len _, rfl, ?_⟩
    intro x hx
    simp [zerosL] at hx
    omega
  case round =>
    obtain ⟨i, ps, hi, rfl, hx, hP, hpl, hA, hS⟩ := hrel
    by_cases h2 : i < c.length
    · obtain ⟨b1, o1, x, ka, kc, rfl, hb1, dx, ex, g0, g1, g2, g3, gk⟩ := hat i h2 w (Ext.refl _)
      have hxk := hkk.out x (List.mem_of_getElem? ex.out)
      have q0 := hx.out.cell g0
      have q1 := hx.out.cell g1
      have q2 := hx.out.cell g2
      have q3 := hx.out.cell g3
      have gat := gk.at_.1
      clear hat gk g0 g1 g2 g3
      have hPlt : w.heap.size < wr.heap.size := hP.out.lt
      have hb1' : b1 < wr.heap.size := by omega
      go_wp2_with fail
      go_loopw [29] (fun vj wr2 => ∃ (j : Nat) (ps2 : List Int), j ≤ x.kids.length ∧ vj = .int .i64 j ∧ Hid (Ext w wr2) ∧ Hid (Blk wr2 w.heap.size 3 (ps2.map (Value.int .i64)).toArray) ∧ ps2.length = c.length ∧ Hid (TickAt c.length i x.kids ps j ps2) ∧ Hid (Small (i * 65536 + j) ps2)) (fun vj _ => x.kids.length - (intOf vj).toNat)
      case atStart =>
        exact ⟨0, ps, by omega, rfl, Lib.hid (hx.out.trans (by exact (by repeat' (first | (with_reducible exact Ext.refl _) | (with_reducible assumption) | (with_reducible refine Ext.drewN ?_ _) | (with_reducible refine Ext.drew ?_) | (with_reducible refine Ext.alloc ?_ _) | (with_reducible refine Ext.trans ?_ (by with_reducible assumption)))))), Lib.hid (hP.out.alloc _), hpl, rfl, by simpa using hS⟩
      case round =>
        obtain ⟨j, ps2, hj, rfl, hx2, hP2, hpl2, hT, hS2⟩ := hrel
        by_cases h3 : j < x.kids.length
        · obtain ⟨b2, o2, k, rfl, hb2, dk, ek, k1⟩ := gat j h3 wr hx2.out
          have hT' := hT.out
          unfold TickAt at hT'
          rw [dk.out] at hT'
          by_cases hk1 : k ≤ (i : Int)
          · have R : Hid (formedB c = false) := by
              show _ = _
              rw [hF.out, hA.out, dx.out]
              simp only [tickAll]
              rw [hT']
              simp [tickKids, hk1, tickOk]
            clear hT' hT
            go_wp2
            go_ret
            rw [R.out]
            exact ⟨rfl, hx2.out⟩
          by_cases hk2 : (c.length : Int) ≤ k
          · have R : Hid (formedB c = false) := by
              show _ = _
              rw [hF.out, hA.out, dx.out]
              simp only [tickAll]
              rw [hT']
              simp [tickKids, hk2, tickOk]
            clear hT' hT
            go_wp2
            go_ret
            rw [R.out]
            exact ⟨rfl, hx2.out⟩
          obtain ⟨kn, rfl⟩ : ∃ kn : Nat, k = kn := ⟨k.toNat, by omega⟩
          have hkl : kn < ps2.length := by omega
          have hTn : Hid (TickAt c.length i x.kids ps (j + 1) (ps2.set kn (ps2[kn]?.getD 0 + 1))) := by
            show _ = _
            rw [hT']
            simp only [tickKids]
            rw [if_neg (by omega)]
            rfl
          have hSn : Hid (Small (i * 65536 + (j + 1)) (ps2.set kn (ps2[kn]?.getD 0 + 1))) := by
            have := hS2.out.tick kn hkl
            rw [Nat.add_assoc] at this
            exact this
          have hPn : Hid (Blk (wr.setCell ⟨w.heap.size, kn, none⟩ (.int .i64 (ps2[kn]?.getD 0 + 1))) w.heap.size 3 ((ps2.set kn (ps2[kn]?.getD 0 + 1)).map (Value.int .i64)).toArray) := by
            have hpk := hP2.out.set_ kn (.int .i64 (ps2[kn]?.getD 0 + 1))
            have e : (ps2.map (Value.int .i64)).toArray.setIfInBounds kn (.int .i64 (ps2[kn]?.getD 0 + 1)) = ((ps2.set kn (ps2[kn]?.getD 0 + 1)).map (Value.int .i64)).toArray := by simp [List.map_set]
            rw [e] at hpk
            exact hpk
          have hold : 0 ≤ ps2[kn]?.getD 0 ∧ ps2[kn]?.getD 0 ≤ 10000000000 := by
            have := hS2.out ps2[kn] (List.getElem_mem hkl)
            rw [List.getElem?_eq_getElem hkl]
            simp only [Option.getD_some]
            omega
          have m1 : wr.cell? ⟨w.heap.size, kn, none⟩ = some (.int .i64 (ps2[kn]?.getD 0)) := by
            have := hP2.out.cell kn
            rw [this]
            simp [hkl]
          have m2 : wr.frozen? ⟨w.heap.size, kn, none⟩ = false := hP2.out.frozen _
          have ol := hold.1
          have oh := hold.2
          have hpn : (ps2.set kn (ps2[kn]?.getD 0 + 1)).length = c.length := by rw [List.length_set]; exact hpl2
          have hxn : Hid (Ext w (wr.setCell ⟨w.heap.size, kn, none⟩ (.int .i64 (ps2[kn]?.getD 0 + 1)))) := Ext.setCell hx2.out (Nat.le_refl _) _
          clear hT' hT hold hS2
          generalize ps2.set kn (ps2[kn]?.getD 0 + 1) = ps3 at *
          generalize ps2[kn]?.getD 0 = old at *
          go_wp2
          go_roundw
          case rel => exact ⟨j + 1, ps3, by omega, by go_num, hxn, hPn, hpn, hTn, hSn⟩
          case measure => simp [intOf]; omega
        · have hTe : Hid (tickKids c.length i x.kids ps = some ps2) := by
            show _ = _
            have := hT.out
            unfold TickAt at this
            rw [List.drop_eq_nil_of_le (by omega)] at this
            exact this
          have hAn : Hid (AllAt c.length c (zerosL c.length) (i + 1) ps2) := by
            have := hA.out
            unfold AllAt at this
            rw [dx.out] at this
            show _ = _
            rw [this]
            simp only [tickAll, hTe.out]
            rfl
          have hSn : Hid (Small ((i + 1) * 65536) ps2) := hS2.out.mono (by omega)
          clear hT hTe
          go_wp2
          go_roundw
          case rel => exact ⟨i + 1, ps2, by omega, by go_num, hx2, hP2, hpl2, hAn, hSn⟩
          case measure => simp [intOf]; omega
    · have R : Hid (formedB c = !(ps.drop 1).any (fun x => !(x == 1))) := by
        show _ = _
        have := hA.out
        unfold AllAt at this
        rw [List.drop_eq_nil_of_le (by omega)] at this
        rw [hF.out, this]
        rfl
      clear hat hA hF
      have hints : Hid (Ints wr (.slice (if c.length = 1 then some ⟨w.heap.size, 0, none⟩ else some ⟨w.heap.size, 1, none⟩) (c.length - 1) (c.length - 1)) (ps.drop 1)) := by
        refine ⟨_, _, by rw [List.length_drop, hpl], by simp [hpl], by unfold maxLen; omega, fun h0 => ⟨w.heap.size, 1, ?_, hP.out.lt, fun k hk j hj => ?_⟩⟩
        · rw [if_neg (by rw [List.length_drop] at h0; omega)]
        · obtain rfl : j = 0 := by omega
          rw [hP.out.cell]
          rw [List.length_drop] at hk
          have e1 : 1 + k * 1 + 0 = k + 1 := by omega
          rw [e1]
          simp [show k + 1 < ps.length by omega]
      obtain ⟨B, hB⟩ : ∃ B, Hid ((ps.drop 1).any (fun x => !(x == 1)) = B) := ⟨_, rfl⟩
      rw [hB.out] at R
      by_cases hone : c.length = 1
      · rw [if_pos hone] at hints
        have hcc := Lib.hid (containsFunc_int_calls _ _ 63 (fun _ _ => by kernel_rfl) (fun x => !(x == 1)) wr hints.out (fun s _ W _ => formed1_calls s W))
        rw [hB.out, show c.length - 1 = 0 by omega] at hcc
        go_wp2_with fail
        refine hcc.out.mono ?_
        rintro e w1 ⟨rfl, hx1⟩
        go_wp2
        go_ret
        rw [R.out]
        exact ⟨rfl, hx.out.trans hx1⟩
      · rw [if_neg hone] at hints
        have hcc := Lib.hid (containsFunc_int_calls _ _ 63 (fun _ _ => by kernel_rfl) (fun x => !(x == 1)) wr hints.out (fun s _ W _ => formed1_calls s W))
        rw [hB.out] at hcc
        go_wp2_with fail
        refine hcc.out.mono ?_
        rintro e w1 ⟨rfl, hx1⟩
        go_wp2
        go_ret
        rw [R.out]
        exact ⟨rfl, hx.out.trans hx1⟩
end Go.Proofs.Ytonmlmkemliefaa
