/- Walks of the reference of plans: path. -/
import Derived.Test.YtonmlmkemliefaaPJ
import Derived.Deep.LoopGhost
namespace Go.Proofs.Ytonmlmkemliefaa
open Go.RowKit

/-! ### the options that the path of a node decides -/
def pathSet (wish at_ : Int) : List Int → Nat → List Int → List Int
  | [], _, out => out
  | q :: r, k, out => pathSet wish at_ r (k + 1) (if q = at_ ∧ 0 ≤ wish ∧ wish < out.length then out.set wish.toNat (k : Int) else out)
def pathUp (i : Int) : List Int → Int → Int
  | [], a => a
  | q :: r, a => pathUp i r (if q = a then i else a)
def pathGo (c : List NodeD) : Nat → Int → List Int → List Int
  | 0, _, out => out
  | i + 1, a, out => pathGo c i (pathUp (i : Int) (c[i]?.getD default).kids a) (pathSet (c[i]?.getD default).wish a (c[i]?.getD default).kids 0 out)
def pathP (m : Nat) (c : List NodeD) (a : Nat) : List Int := pathGo c a (a : Int) (List.replicate m (-1))

theorem pathSet_len {wish a : Int} : ∀ {l : List Int} {k : Nat} {out : List Int}, (pathSet wish a l k out).length = out.length
  | [], _, _ => rfl
  | _ :: r, k, out => by rw [pathSet, pathSet_len]; split <;> simp
theorem pathGo_len {c : List NodeD} : ∀ {i : Nat} {a : Int} {out : List Int}, (pathGo c i a out).length = out.length
  | 0, _, _ => rfl
  | i + 1, a, out => by rw [pathGo, pathGo_len, pathSet_len]
theorem pathP_len {m : Nat} {c : List NodeD} {a : Nat} : (pathP m c a).length = m := by rw [pathP, pathGo_len, List.length_replicate]

theorem intsO_of_blk {w : World} {B g : Nat} {l : List Int} (h : Blk w g 3 (l.map (Value.int .i64)).toArray) (hB : B ≤ g) (hl : l.length ≤ 9223372036854775807) : IntsO w B (.slice (some ⟨g, 0, none⟩) l.length l.length) l :=
  ⟨by simp, Or.inr ⟨g, l.length, _, rfl, hB, h, Nat.le_refl _, by unfold maxLen; exact hl, by simp, by simp [List.take_of_length_le]⟩⟩

set_option maxHeartbeats 3200000 in
set_option maxRecDepth 100000 in
theorem rPath_calls (tv cv : Value) (t : List WishD) (c : List NodeD) (at_ : Nat) (w : World) (h : Wishes w tv t) (hc : Nodes w cv c) (ha : at_ ≤ c.length) (hl : c.length ≤ 65536) (h512 : t.length ≤ 512) (hk : ∀ n ∈ c, n.kids.length ≤ 65536) :
    Calls Try.prog 65 #[.agg #[tv], cv, .int .i64 (at_ : Int)] w fun e w' => ∃ v, e = .returned v ∧ IntsO w' w.heap.size v (pathP t.length c at_) ∧ Ext w w' := by
  obtain ⟨ta, tc, rfl⟩ := h.form
  obtain ⟨ca, cc, rfl, hcn, hcc, hca⟩ := hc.open
  have hca' := Lib.hid hca
  have hkk := Lib.hid hk
  have hmk := run_make_ints t.length (by omega)
  clear h hc hca hk
  go_enter Try.func65, Try.ntmps65
  go_wp2_with fail
  refine wp_abs (S := fun W => Hid (Ext w W) ∧ Hid (Blk W (w.heap.size + 1) 3 ((decI t.length 0).map (Value.int .i64)).toArray)) ?_ ?_
  · exact ⟨Lib.hid (by exact (by repeat' (first | (with_reducible exact Ext.refl _) | (with_reducible assumption) | (with_reducible refine Ext.drewN ?_ _) | (with_reducible refine Ext.drew ?_) | (with_reducible refine Ext.alloc ?_ _) | (with_reducible refine Ext.trans ?_ (by with_reducible assumption))))), Lib.hid (by exact blk_new' (by simp only [World.size_alloc]) rfl)⟩
  rintro W1 ⟨hx1, hB1⟩
  go_loopw [8] (fun vi wr => ∃ i : Nat, i ≤ t.length ∧ vi = .int .i64 i ∧ Hid (Ext w wr) ∧ Hid (Blk wr (w.heap.size + 1) 3 ((decI t.length i).map (Value.int .i64)).toArray)) (fun vi _ => t.length - (intOf vi).toNat)
  case atStart => exact ⟨0, by omega, rfl, hx1, hB1⟩
  case round =>
    clear hx1 hB1
    obtain ⟨i, hi, rfl, hx, hB⟩ := hrel
    by_cases h1 : i < t.length
    · have fr := hB.out.frozen i
      have hBn : Hid (Blk (wr.setCell ⟨w.heap.size + 1, i, none⟩ (.int .i64 (-1))) (w.heap.size + 1) 3 ((decI t.length (i + 1)).map (Value.int .i64)).toArray) := by
        have := hB.out.set_ i (.int .i64 (-1))
        have e : ((decI t.length i).map (Value.int .i64)).toArray.setIfInBounds i (.int .i64 (-1)) = ((decI t.length (i + 1)).map (Value.int .i64)).toArray := by rw [← decI_step h1]; simp [List.map_set]
        rw [e] at this
        exact this
      have old : ∃ u, wr.cell? ⟨w.heap.size + 1, i, none⟩ = some u := by
        rw [hB.out.cell i]
        cases e : ((decI t.length i).map (Value.int .i64)).toArray[i]? with
        | some u => exact ⟨u, rfl⟩
        | none => simp [decI_len hi] at e; omega
      obtain ⟨u, hu⟩ := old
      have hxn := Lib.hid (hx.out.setCell (p := ⟨w.heap.size + 1, i, none⟩) (Nat.le_succ _) (.int .i64 (-1)))
      clear hB hx
      go_wp2
      go_roundw
      case rel => exact ⟨i + 1, by omega, by go_num, hxn, hBn⟩
      case measure => simp [intOf]; omega
    · have hBe : Hid (Blk wr (w.heap.size + 1) 3 ((List.replicate t.length (-1 : Int)).map (Value.int .i64)).toArray) := by
        have := hB.out
        rwa [show i = t.length by omega, decI_end] at this
      have hxe := hx
      clear hB hx
      go_wp2_with fail
      go_loopg [9, 2] at_ (fun gm vi va wr2 => ∃ (z a : Int) (out : List Int), vi = .int .i64 z ∧ va = .int .i64 a ∧ gm ≤ c.length ∧ Hid (z = (gm : Int) - 1) ∧ Hid (out.length = t.length) ∧ Hid (Ext w wr2) ∧ Hid (Blk wr2 (w.heap.size + 1) 3 (out.map (Value.int .i64)).toArray) ∧ Hid (pathP t.length c at_ = pathGo c gm a out))
      case atStart => exact ⟨_, _, List.replicate t.length (-1), rfl, rfl, ha, rfl, Lib.hid (by simp), hxe, hBe, rfl⟩
      case round =>
        clear hxe hBe
        obtain ⟨z, a, out, rfl, rfl, hgm, hz, hol, hx, hB, hP⟩ := hrel
        rcases Nat.eq_zero_or_pos gk with hk0 | hk0
        · subst hk0
          obtain rfl : z = -1 := by have := hz.out; simpa using this
          have hI : Hid (IntsO wr w.heap.size (.slice (some ⟨w.heap.size + 1, 0, none⟩) t.length t.length) (pathP t.length c at_)) := by
            have := intsO_of_blk hB.out (Nat.le_succ _) (by have := hol.out; omega)
            rw [hol.out] at this
            rw [hP.out]
            exact this
          clear hP hB hol hca'
          go_wp2
          go_ret
          exact ⟨_, rfl, hI.out, hx.out⟩
        · obtain ⟨k, rfl⟩ : ∃ k, gk = k + 1 := ⟨gk - 1, by omega⟩
          obtain rfl : z = (k : Int) := by have := hz.out; omega
          obtain ⟨b1, o1, n, ka, kc, rfl, hb1, _, ex, g0, g1, g2, g3, gk'⟩ := hca'.out k (by omega) w (Ext.refl _)
          have hg0 := Lib.hid g0
          have hg1 := Lib.hid g1
          have gat := gk'.at_.1
          have hnk := hkk.out n (List.mem_of_getElem? ex.out)
          have hP' : Hid (pathP t.length c at_ = pathGo c k (pathUp (k : Int) n.kids a) (pathSet n.wish a n.kids 0 out)) := by
            show _ = _
            rw [hP.out, pathGo]
            simp only [ex.out, Option.getD_some]
          clear g0 g1 g2 g3 gk' hP
          go_wp2_with fail
          go_loopw [10] (fun vj wr3 => ∃ (j : Nat) (o2 : List Int), j ≤ n.kids.length ∧ vj = .int .i64 j ∧ Hid (o2.length = t.length) ∧ Hid (Ext w wr3) ∧ Hid (Blk wr3 (w.heap.size + 1) 3 (o2.map (Value.int .i64)).toArray) ∧ Hid (pathSet n.wish a n.kids 0 out = pathSet n.wish a (n.kids.drop j) j o2)) (fun vj _ => n.kids.length - (intOf vj).toNat)
          case atStart => exact ⟨0, out, by omega, rfl, hol, hx, hB, rfl⟩
          case round =>
            clear hx hB hol
            obtain ⟨j, o2, hj, rfl, hol, hx, hB, hS⟩ := hrel
            have q0 := hx.out.cell hg0.out
            have q1 := hx.out.cell hg1.out
            have hb1' : b1 < wr.heap.size := World.block_lt_of_cell? _ _ q1
            by_cases h3 : j < n.kids.length
            · obtain ⟨b2, o2', kd, rfl, hb2, dk, ek, k1⟩ := gat j h3 wr hx.out
              have hS' := hS.out
              rw [dk.out, pathSet] at hS'
              by_cases hit : kd = a ∧ 0 ≤ n.wish ∧ n.wish < (t.length : Int)
              · obtain ⟨rfl, hw0, hw1⟩ := hit
                rw [if_pos ⟨rfl, hw0, by have := hol.out; omega⟩] at hS'
                obtain ⟨m, hm⟩ : ∃ m : Nat, n.wish = m := ⟨n.wish.toNat, by omega⟩
                rw [hm] at q0 hw1
                rw [show n.wish.toNat = m by omega] at hS'
                have hml : m < t.length := by omega
                have hS2 := Lib.hid hS'
                have fr := hB.out.frozen m
                have old : ∃ u, wr.cell? ⟨w.heap.size + 1, m, none⟩ = some u := by
                  rw [hB.out.cell m]
                  cases e : ((o2.map (Value.int .i64)).toArray)[m]? with
                  | some u => exact ⟨u, rfl⟩
                  | none => simp at e; have := hol.out; omega
                obtain ⟨u, hu⟩ := old
                have hBn : Hid (Blk (wr.setCell ⟨w.heap.size + 1, m, none⟩ (.int .i64 (j : Int))) (w.heap.size + 1) 3 ((o2.set m (j : Int)).map (Value.int .i64)).toArray) := by
                  have := hB.out.set_ m (.int .i64 (j : Int))
                  have e : (o2.map (Value.int .i64)).toArray.setIfInBounds m (.int .i64 (j : Int)) = ((o2.set m (j : Int)).map (Value.int .i64)).toArray := by simp [List.map_set]
                  rw [e] at this
                  exact this
                have hxn := Lib.hid (hx.out.setCell (p := ⟨w.heap.size + 1, m, none⟩) (Nat.le_succ _) (.int .i64 (j : Int)))
                have hon : Hid ((o2.set m (j : Int)).length = t.length) := Lib.hid (by rw [List.length_set]; exact hol.out)
                clear hS hS' hB hx hw0 hm
                go_wp2
                go_roundw
                case rel => exact ⟨j + 1, o2.set m (j : Int), by omega, by go_num, hon, hxn, hBn, hS2⟩
                case measure => simp [intOf]; omega
              · rw [if_neg (by have := hol.out; intro hh; exact hit ⟨hh.1, hh.2.1, by omega⟩)] at hS'
                have hS2 := Lib.hid hS'
                clear hS hS'
                by_cases e1 : kd = a
                · have e1' : (kd == a) = true := by simpa using e1
                  by_cases e2 : 0 ≤ n.wish
                  · have e3 : ¬ n.wish < (t.length : Int) := fun e3 => hit ⟨e1, e2, e3⟩
                    have e2' : decide (0 ≤ n.wish) = true := by simpa using e2
                    have e3' : decide (n.wish < (t.length : Int)) = false := by simpa using e3
                    clear hit
                    go_wp2
                    go_roundw
                    case rel => exact ⟨j + 1, o2, by omega, by go_num, hol, hx, hB, hS2⟩
                    case measure => simp [intOf]; omega
                  · have e2' : decide (0 ≤ n.wish) = false := by simpa using e2
                    clear hit
                    go_wp2
                    go_roundw
                    case rel => exact ⟨j + 1, o2, by omega, by go_num, hol, hx, hB, hS2⟩
                    case measure => simp [intOf]; omega
                · have e1' : (kd == a) = false := by simpa using e1
                  clear hit
                  go_wp2
                  go_roundw
                  case rel => exact ⟨j + 1, o2, by omega, by go_num, hol, hx, hB, hS2⟩
                  case measure => simp [intOf]; omega
            · have hSe : Hid (pathSet n.wish a n.kids 0 out = o2) := by
                show _ = _
                rw [hS.out, List.drop_of_length_le (by omega)]
                rfl
              clear hS
              rw [hSe.out] at hP'
              go_wp2_with fail
              go_loopw [11, 2] (fun vj va wr4 => ∃ (j : Nat) (a2 : Int), j ≤ n.kids.length ∧ vj = .int .i64 j ∧ va = .int .i64 a2 ∧ Hid (Ext w wr4) ∧ Hid (Blk wr4 (w.heap.size + 1) 3 (o2.map (Value.int .i64)).toArray) ∧ Hid (pathUp (k : Int) n.kids a = pathUp (k : Int) (n.kids.drop j) a2)) (fun vj _ _ => n.kids.length - (intOf vj).toNat)
              case atStart => exact ⟨0, a, by omega, rfl, rfl, hx, hB, rfl⟩
              case round =>
                clear hx hB
                obtain ⟨j2, a2, hj2, rfl, rfl, hx, hB, hU⟩ := hrel
                have q0 := hx.out.cell hg0.out
                have q1 := hx.out.cell hg1.out
                have hb1'' : b1 < wr.heap.size := World.block_lt_of_cell? _ _ q1
                by_cases h4 : j2 < n.kids.length
                · obtain ⟨b2, o2', kd, rfl, hb2, dk, ek, k1⟩ := gat j2 h4 _ hx.out
                  have hU' := hU.out
                  rw [dk.out, pathUp] at hU'
                  by_cases e1 : kd = a2
                  · rw [if_pos e1] at hU'
                    have hU2 := Lib.hid hU'
                    have e1' : (kd == a2) = true := by simpa using e1
                    clear hU hU' e1
                    go_wp2
                    go_roundw
                    case rel => exact ⟨j2 + 1, (k : Int), by omega, by go_num, rfl, hx, hB, hU2⟩
                    case measure => simp [intOf]; omega
                  · rw [if_neg e1] at hU'
                    have hU2 := Lib.hid hU'
                    have e1' : (kd == a2) = false := by simpa using e1
                    clear hU hU' e1
                    go_wp2
                    go_roundw
                    case rel => exact ⟨j2 + 1, a2, by omega, by go_num, rfl, hx, hB, hU2⟩
                    case measure => simp [intOf]; omega
                · have hPn : Hid (pathP t.length c at_ = pathGo c k a2 o2) := by
                    show _ = _
                    rw [hP'.out, hU.out, List.drop_of_length_le (by omega)]
                    rfl
                  clear hU hP'
                  go_wp2
                  go_roundg k
                  · exact ⟨_, a2, o2, rfl, rfl, by omega, rfl, hol, hx, hB, hPn⟩
                  · omega
end Go.Proofs.Ytonmlmkemliefaa
