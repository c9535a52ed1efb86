/- Walks of the reference of plans: Formed. -/
import Derived.Test.YtonmlmkemliefaaPI
namespace Go.Proofs.Ytonmlmkemliefaa
open Go.RowKit

theorem drop1_any {ps : List Int} {i : Nat} {x : Int} (h1 : 1 ≤ i) (h : ps[i]? = some x) (hx : x ≠ 1) : (ps.drop 1).any (fun x => !(x == 1)) = true := by
  rw [List.any_eq_true]
  refine ⟨x, List.mem_of_getElem? (i := i - 1) ?_, by simpa using hx⟩
  rw [List.getElem?_drop, show 1 + (i - 1) = i by omega]
  exact h
theorem drop1_none {ps : List Int} (h : ∀ j, 1 ≤ j → j < ps.length → ps[j]? = some 1) : (ps.drop 1).any (fun x => !(x == 1)) = false := by
  rw [List.any_eq_false]
  intro x hx
  obtain ⟨k, hk, rfl⟩ := List.getElem_of_mem hx
  rw [List.length_drop] at hk
  have := h (1 + k) (by omega) (by omega)
  rw [List.getElem_drop]
  rw [List.getElem?_eq_getElem (by omega)] at this
  simp [Option.some.inj this]
set_option maxHeartbeats 3200000 in
set_option maxRecDepth 100000 in
theorem rFormed_calls (cv : Value) (c : List NodeD) (w : World) (h : Nodes w cv c) (hk : ∀ n ∈ c, n.kids.length ≤ 65536) :
    Calls Try.prog 44 #[cv] w fun e w' => e = .returned (.bool (formedB c)) ∧ Ext w w' := by
  have hkk := Lib.hid hk
  obtain ⟨a, cc, rfl, hn, hc, hat⟩ := h.open
  clear h hk
  by_cases h0 : c.length = 0
  · have e : Hid (formedB c = false) := by show _ = _; simp [formedB, h0]
    go_enter Try.func44, Try.ntmps44
    go_wp2
    go_ret
    rw [e.out]
    exact ⟨rfl, Ext.refl _⟩
  by_cases h1 : 65536 < c.length
  · have e : Hid (formedB c = false) := by show _ = _; simp [formedB, h1]
    go_enter Try.func44, Try.ntmps44
    go_wp2
    go_ret
    rw [e.out]
    exact ⟨rfl, Ext.refl _⟩
  have hmk := run_make_ints c.length (by omega)
  have hF : Hid (formedB c = tickOk (tickAll c.length c 0 (zerosL c.length))) := by
    show _ = _
    unfold formedB
    rw [if_neg (by omega)]
  have hb0 : ((c.length : Int) == 0) = false := by simpa using h0
  go_enter Try.func44, Try.ntmps44
  go_wp2_with fail
  go_loopw [4] (fun vi wr => ∃ (i : Nat) (ps : List Int), i ≤ c.length ∧ vi = .int .i64 i ∧ Hid (Ext w wr) ∧ Hid (Blk wr w.heap.size 3 (ps.map (Value.int .i64)).toArray) ∧ ps.length = c.length ∧ Hid (AllAt c.length c (zerosL c.length) i ps) ∧ Hid (Small (i * 65536) ps)) (fun vi _ => c.length - (intOf vi).toNat)
  case atStart =>
    refine ⟨0, zerosL c.length, by omega, rfl, Lib.hid (by exact (by repeat' (first | (with_reducible exact Ext.refl _) | (with_reducible assumption) | (with_reducible refine Ext.drewN ?_ _) | (with_reducible refine Ext.drew ?_) | (with_reducible refine Ext.alloc ?_ _) | (with_reducible refine Ext.trans ?_ (by with_reducible assumption))))), Lib.hid (by exact blk_new' rfl rfl), zerosL_len _, rfl, ?_⟩
    intro x hx
    simp [zerosL] at hx
    omega
  case round =>
    obtain ⟨i, ps, hi, rfl, hx, hP, hpl, hA, hS⟩ := hrel
    by_cases h2 : i < c.length
    · obtain ⟨b1, o1, x, ka, kc, rfl, hb1, dx, ex, g0, g1, g2, g3, gk⟩ := hat i h2 w (Ext.refl _)
      have hxk := hkk.out x (List.mem_of_getElem? ex.out)
      have hg1 := Lib.hid g1
      have gat := gk.at_.1
      have hPlt : w.heap.size < wr.heap.size := hP.out.lt
      have hb1' : b1 < wr.heap.size := by omega
      clear hat gk g0 g1 g2 g3
      go_wp2_with fail
      go_loopw [5] (fun vj wr2 => ∃ (j : Nat) (ps2 : List Int), j ≤ x.kids.length ∧ vj = .int .i64 j ∧ Hid (Ext w wr2) ∧ Hid (Blk wr2 w.heap.size 3 (ps2.map (Value.int .i64)).toArray) ∧ ps2.length = c.length ∧ Hid (TickAt c.length i x.kids ps j ps2) ∧ Hid (Small (i * 65536 + j) ps2)) (fun vj _ => x.kids.length - (intOf vj).toNat)
      case atStart =>
        exact ⟨0, ps, by omega, rfl, Lib.hid (hx.out.trans (by exact (by repeat' (first | (with_reducible exact Ext.refl _) | (with_reducible assumption) | (with_reducible refine Ext.drewN ?_ _) | (with_reducible refine Ext.drew ?_) | (with_reducible refine Ext.alloc ?_ _) | (with_reducible refine Ext.trans ?_ (by with_reducible assumption)))))), hP, hpl, rfl, by simpa using hS⟩
      case round =>
        obtain ⟨j, ps2, hj, rfl, hx2, hP2, hpl2, hT, hS2⟩ := hrel
        have q1 := hx2.out.cell hg1.out
        have hb1'' : b1 < wr.heap.size := World.block_lt_of_cell? _ _ q1
        by_cases h3 : j < x.kids.length
        · obtain ⟨b2, o2, k, rfl, hb2, dk, ek, k1⟩ := gat j h3 wr hx2.out
          have hT' := hT.out
          unfold TickAt at hT'
          rw [dk.out] at hT'
          by_cases hk1 : k ≤ (i : Int)
          · have R : Hid (formedB c = false) := by
              show _ = _
              rw [hF.out, hA.out, dx.out]
              simp only [tickAll]
              rw [hT']
              simp [tickKids, hk1, tickOk]
            clear hT' hT
            go_wp2
            go_ret
            rw [R.out]
            exact ⟨rfl, hx2.out⟩
          by_cases hk2 : (c.length : Int) ≤ k
          · have R : Hid (formedB c = false) := by
              show _ = _
              rw [hF.out, hA.out, dx.out]
              simp only [tickAll]
              rw [hT']
              simp [tickKids, hk2, tickOk]
            clear hT' hT
            go_wp2
            go_ret
            rw [R.out]
            exact ⟨rfl, hx2.out⟩
          obtain ⟨kn, rfl⟩ : ∃ kn : Nat, k = kn := ⟨k.toNat, by omega⟩
          have hkl : kn < ps2.length := by omega
          have hTn : Hid (TickAt c.length i x.kids ps (j + 1) (ps2.set kn (ps2[kn]?.getD 0 + 1))) := by
            show _ = _
            rw [hT']
            simp only [tickKids]
            rw [if_neg (by omega)]
            rfl
          have hSn : Hid (Small (i * 65536 + (j + 1)) (ps2.set kn (ps2[kn]?.getD 0 + 1))) := by
            have := hS2.out.tick kn hkl
            rw [Nat.add_assoc] at this
            exact this
          have hPn : Hid (Blk (wr.setCell ⟨w.heap.size, kn, none⟩ (.int .i64 (ps2[kn]?.getD 0 + 1))) w.heap.size 3 ((ps2.set kn (ps2[kn]?.getD 0 + 1)).map (Value.int .i64)).toArray) := by
            have hpk := hP2.out.set_ kn (.int .i64 (ps2[kn]?.getD 0 + 1))
            have e : (ps2.map (Value.int .i64)).toArray.setIfInBounds kn (.int .i64 (ps2[kn]?.getD 0 + 1)) = ((ps2.set kn (ps2[kn]?.getD 0 + 1)).map (Value.int .i64)).toArray := by simp [List.map_set]
            rw [e] at hpk
            exact hpk
          have hold : 0 ≤ ps2[kn]?.getD 0 ∧ ps2[kn]?.getD 0 ≤ 10000000000 := by
            have := hS2.out ps2[kn] (List.getElem_mem hkl)
            rw [List.getElem?_eq_getElem hkl]
            simp only [Option.getD_some]
            omega
          have m1 : wr.cell? ⟨w.heap.size, kn, none⟩ = some (.int .i64 (ps2[kn]?.getD 0)) := by
            have := hP2.out.cell kn
            rw [this]
            simp [hkl]
          have m2 : wr.frozen? ⟨w.heap.size, kn, none⟩ = false := hP2.out.frozen _
          have ol := hold.1
          have oh := hold.2
          have hpn : (ps2.set kn (ps2[kn]?.getD 0 + 1)).length = c.length := by rw [List.length_set]; exact hpl2
          have hxn : Hid (Ext w (wr.setCell ⟨w.heap.size, kn, none⟩ (.int .i64 (ps2[kn]?.getD 0 + 1)))) := Ext.setCell hx2.out (Nat.le_refl _) _
          clear hT' hT hold hS2
          generalize ps2.set kn (ps2[kn]?.getD 0 + 1) = ps3 at *
          generalize ps2[kn]?.getD 0 = old at *
          go_wp2
          go_roundw
          case rel => exact ⟨j + 1, ps3, by omega, by go_num, hxn, hPn, hpn, hTn, hSn⟩
          case measure => simp [intOf]; omega
        · have hTe : Hid (tickKids c.length i x.kids ps = some ps2) := by
            show _ = _
            have := hT.out
            unfold TickAt at this
            rw [List.drop_eq_nil_of_le (by omega)] at this
            exact this
          have hAn : Hid (AllAt c.length c (zerosL c.length) (i + 1) ps2) := by
            have := hA.out
            unfold AllAt at this
            rw [dx.out] at this
            show _ = _
            rw [this]
            simp only [tickAll, hTe.out]
            rfl
          have hSn : Hid (Small ((i + 1) * 65536) ps2) := hS2.out.mono (by omega)
          clear hT hTe
          go_wp2
          go_roundw
          case rel => exact ⟨i + 1, ps2, by omega, by go_num, hx2, hP2, hpl2, hAn, hSn⟩
          case measure => simp [intOf]; omega
    · have R : Hid (formedB c = !(ps.drop 1).any (fun x => !(x == 1))) := by
        show _ = _
        have := hA.out
        unfold AllAt at this
        rw [List.drop_eq_nil_of_le (by omega)] at this
        rw [hF.out, this]
        rfl
      clear hat hA hF hS
      go_wp2_with fail
      go_loopw [7] (fun vj wr2 => ∃ j : Nat, 1 ≤ j ∧ j ≤ c.length ∧ vj = .int .i64 j ∧ Hid (Ext w wr2) ∧ Hid (Blk wr2 w.heap.size 3 (ps.map (Value.int .i64)).toArray) ∧ Hid (∀ k, 1 ≤ k → k < j → ps[k]? = some 1)) (fun vj _ => c.length - (intOf vj).toNat)
      case atStart => exact ⟨1, by omega, by omega, rfl, hx, hP, fun k h1 h2 => by omega⟩
      case round =>
        clear hx hP
        obtain ⟨j, hj1, hj, rfl, hx, hP, hG⟩ := hrel
        by_cases h3 : j < c.length
        · obtain ⟨p, hp⟩ : ∃ p, Hid (ps[j]? = some p) := ⟨ps[j], List.getElem?_eq_getElem (by omega)⟩
          have m1 : wr.cell? ⟨w.heap.size, j, none⟩ = some (.int .i64 p) := by
            rw [hP.out.cell j]
            simp [hp.out]
          by_cases hp1 : p = 1
          · have hG' : Hid (∀ k, 1 ≤ k → k < j + 1 → ps[k]? = some 1) := fun k h1 h2 => by
              rcases Nat.lt_succ_iff_lt_or_eq.1 h2 with h | rfl
              · exact hG.out k h1 h
              · rw [hp.out, hp1]
            have hpb : (p != 1) = false := by simpa using hp1
            clear hG hp hp1
            go_wp2
            go_roundw
            case rel => exact ⟨j + 1, by omega, by omega, by go_num, hx, hP, hG'⟩
            case measure => simp [intOf]; omega
          · have R' : Hid (formedB c = false) := by show _ = _; rw [R.out, drop1_any hj1 hp.out hp1]; rfl
            have hpb : (p != 1) = true := by simpa using hp1
            clear hG hp hp1
            go_wp2
            go_ret
            rw [R'.out]
            exact ⟨rfl, hx.out⟩
        · have R' : Hid (formedB c = true) := by show _ = _; rw [R.out, drop1_none fun k h1 h2 => hG.out k h1 (by omega)]; rfl
          clear hG
          go_wp2
          go_ret
          rw [R'.out]
          exact ⟨rfl, hx.out⟩
end Go.Proofs.Ytonmlmkemliefaa
