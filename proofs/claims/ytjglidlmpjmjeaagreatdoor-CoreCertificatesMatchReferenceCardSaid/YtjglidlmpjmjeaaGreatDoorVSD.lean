/- Merged parts: RS, SA, SB, SE, SC, SD. -/
import Derived.Test.YtjglidlmpjmjeaaGreatDoorPM
import Derived.Test.YtjglidlmpjmjeaaGreatDoorPI
import Derived.Test.YtjglidlmpjmjeaaGreatDoorPJ
import Derived.Deep.LoopGhost
import Derived.Test.YtjglidlmpjmjeaaGreatDoorPK
import Derived.Test.YtjglidlmpjmjeaaGreatDoorRH
import Derived.Test.YtjglidlmpjmjeaaGreatDoorHE
import Derived.Deep.Cut
import Derived.Test.YtjglidlmpjmjeaaGreatDoorRC
/- Walks of the reference of plans: Least, rest, clash. -/
namespace Go.Proofs.YtjglidlmpjmjeaaGreatDoor
open Go.RowKit

theorem leastB_first {x : WishD} {o : OptD} (h : x.opts[0]? = some o) (hb : o.harm ≤ 1000000) : leastB x = leastN (x.opts.drop 1) o.harm := by
 unfold leastB
 cases hx : x.opts with
 | nil => rw [hx] at h; simp at h
 | cons a r =>
  rw [hx] at h
  simp at h
  subst h
  show leastN r (min 1000000 a.harm) = leastN r a.harm
  rw [show min (1000000 : Int) a.harm = a.harm by omega]
set_option maxHeartbeats 1600000 in
theorem rLeast_calls (v : Value) (x : WishD) (w : World) (h : WishV w v x) (h0 : 0 < x.opts.length) (hb : ∀ o ∈ x.opts, o.harm ≤ 1000000) :
  Calls Tryz.prog 93 #[v] w fun e w' => e = .returned (.int .i64 (leastB x)) ∧ Ext w w' := by
 obtain ⟨pv, ov, rfl, hp, ho⟩ := h
 obtain ⟨pa, pc, rfl⟩ := hp.form
 obtain ⟨oa, oc, rfl, hn, hc, hat⟩ := ho.open
 obtain ⟨b0, o0, o, _, _, rfl, hb0, d0, e0, k1, _, _, _⟩ := hat 0 h0 w (Ext.refl w)
 rw [Nat.zero_mul, Nat.add_zero] at k1
 have hF0 := Lib.hid (leastB_first e0.out (hb o (List.mem_of_getElem? e0.out)))
 clear hp ho hb d0 e0
 go_enter Tryz.func93, Tryz.ntmps93
 go_wp2_with fail
 refine wp_abs (S := fun W => Hid (Ext w W) ∧ Hid (Blk W w.heap.size 52 #[.int .i64 x.meeting, .slice pa x.people.length pc, .slice (some ⟨b0, o0, none⟩) x.opts.length oc])) ?_ ?_
 ·exact ⟨Lib.hid (by exact (by with_reducible repeat' (first | exact Ext.refl _ | assumption | refine Ext.drewN ?_ _ | refine Ext.drew ?_ | refine Ext.alloc ?_ _ | refine Ext.trans ?_ (by with_reducible assumption)))), Lib.hid (blk_new' rfl rfl)⟩
 rintro W1 ⟨hx1, hB1⟩
 clear k1 hb0
 go_loopw [3, 4] (fun vn vi wr => ∃ (i : Nat) (n : Int), i ≤ x.opts.length ∧ vi = .int .i64 i ∧ vn = .int .i64 n ∧ Hid (Ext w wr) ∧ Hid (Blk wr w.heap.size 52 #[.int .i64 x.meeting, .slice pa x.people.length pc, .slice (some ⟨b0, o0, none⟩) x.opts.length oc]) ∧ Hid (leastB x = leastN (x.opts.drop i) n)) (fun _ vi _ => x.opts.length - (intOf vi).toNat)
 case atStart => exact ⟨1, o.harm, by omega, rfl, rfl, hx1, hB1, hF0⟩
 case round =>
  clear hF0 hx1 hB1
  obtain ⟨i, n, hi, rfl, rfl, hx, hB, hF⟩ := hrel
  have c2 : wr.cell? ⟨w.heap.size, 2, none⟩ = some (.slice (some ⟨b0, o0, none⟩) x.opts.length oc) := hB.out.cell 2
  by_cases h1 : i < x.opts.length
  ·obtain ⟨b1, o1, q, sa, sc, e1, hb1, dx, ex, g1, g2, g3, gs⟩ := hat i h1 wr hx.out
   cases e1
   clear gs
   have R : Hid (leastB x = leastN (x.opts.drop (i + 1)) (min n q.harm)) := by show _ = _; rw [hF.out, leastN_drop dx.out]
   clear hF
   go_wp2
   go_roundw
   case rel => exact ⟨i + 1, min n q.harm, by omega, by go_num, by rw [min_ite], hx, hB, R⟩
   case measure => simp [intOf]; omega
  ·have R : Hid (leastB x = n) := by show _ = _; rw [hF.out, List.drop_of_length_le (by omega)]; rfl
   clear hF
   go_wp2
   go_ret
   rw [R.out]
   exact ⟨rfl, hx.out⟩
theorem findI_hit {q : Nat → Bool} {d k : Nat} (hk : k < d) (h : q k = true) (hG : ∀ j, j < k → q j = false) : findI q (List.range d) = k := by
 have : (List.range d).findIdx? q = some k := by
  rw [List.findIdx?_eq_some_iff_getElem]
  exact ⟨by simpa using hk, by simpa using h, fun j hj => by simpa using hG j hj⟩
 unfold findI
 rw [this]
theorem findI_none {q : Nat → Bool} {d : Nat} (hG : ∀ j, j < d → q j = false) : findI q (List.range d) = -1 := by
 have : (List.range d).findIdx? q = none := by
  rw [List.findIdx?_eq_none_iff]
  intro x hx
  exact hG x (by simpa using hx)
 unfold findI
 rw [this]
theorem clashT_opt {t : List WishD} {p : List Int} (hv : validT t = 0) {i d : Nat} (hne : i ≠ d) {k l : Int} (hk : p[i]? = some k) (hl : p[d]? = some l) (h1 : (optOf t p i).isSome) (h2 : (optOf t p d).isSome) :
  clashT t i k d l = clashAt t p i d := by
 obtain ⟨⟨x, o⟩, hx⟩ := Option.isSome_iff_exists.1 h1
 obtain ⟨⟨y, q⟩, hy⟩ := Option.isSome_iff_exists.1 h2
 obtain ⟨n, h1, h2, h3⟩ := optOf_spec hx
 obtain ⟨m, h4, h5, h6⟩ := optOf_spec hy
 obtain rfl : k = n := Option.some.inj (hk.symm.trans h2)
 obtain rfl : l = m := Option.some.inj (hl.symm.trans h5)
 rw [clashT_eq hv hne h1 h4 h3 h6]
 simp only [clashAt, hx, hy]
end Go.Proofs.YtjglidlmpjmjeaaGreatDoor

/- Walks of the reference of plans: Formed. -/
namespace Go.Proofs.YtjglidlmpjmjeaaGreatDoor
open Go.RowKit

theorem drop1_any {ps : List Int} {i : Nat} {x : Int} (h1 : 1 ≤ i) (h : ps[i]? = some x) (hx : x ≠ 1) : (ps.drop 1).any (fun x => !(x == 1)) = true := by
 rw [List.any_eq_true]
 refine ⟨x, List.mem_of_getElem? (i := i - 1) ?_, by simpa using hx⟩
 rw [List.getElem?_drop, show 1 + (i - 1) = i by omega]
 exact h
theorem drop1_none {ps : List Int} (h : ∀ j, 1 ≤ j → j < ps.length → ps[j]? = some 1) : (ps.drop 1).any (fun x => !(x == 1)) = false := by
 rw [List.any_eq_false]
 intro x hx
 obtain ⟨k, hk, rfl⟩ := List.getElem_of_mem hx
 rw [List.length_drop] at hk
 have := h (1 + k) (by omega) (by omega)
 rw [List.getElem_drop]
 rw [List.getElem?_eq_getElem (by omega)] at this
 simp [Option.some.inj this]
set_option maxHeartbeats 3200000 in
set_option maxRecDepth 100000 in
theorem rFormed_calls (cv : Value) (c : List NodeD) (w : World) (h : Nodes w cv c) (hk : ∀ n ∈ c, n.kids.length ≤ 17592186044416) :
  Calls Tryz.prog 73 #[cv] w fun e w' => e = .returned (.bool (formedB c)) ∧ Ext w w' := by
 have hkk := Lib.hid hk
 obtain ⟨a, cc, rfl, hn, hc, hat⟩ := h.open
 clear h hk
 by_cases h0 : c.length = 0
 ·have e : Hid (formedB c = false) := by show _ = _; simp [formedB, h0]
  go_enter Tryz.func73, Tryz.ntmps73
  go_wp2
  go_ret
  rw [e.out]
  exact ⟨rfl, Ext.refl _⟩
 by_cases h1 : 65536 < c.length
 ·have e : Hid (formedB c = false) := by show _ = _; simp [formedB, h1]
  go_enter Tryz.func73, Tryz.ntmps73
  go_wp2
  go_ret
  rw [e.out]
  exact ⟨rfl, Ext.refl _⟩
 have hmk := run_make_ints c.length (by omega)
 have hF : Hid (formedB c = tickOk (tickAll c.length c 0 (zerosL c.length))) := by
  show _ = _
  unfold formedB
  rw [if_neg (by omega)]
 have hb0 : ((c.length : Int) == 0) = false := by simpa using h0
 go_enter Tryz.func73, Tryz.ntmps73
 go_wp2_with fail
 go_loopw [4] (fun vi wr => ∃ (i : Nat) (ps : List Int), i ≤ c.length ∧ vi = .int .i64 i ∧ Hid (Ext w wr) ∧ Hid (Blk wr w.heap.size 3 (ps.map (Value.int .i64)).toArray) ∧ ps.length = c.length ∧ Hid (AllAt c.length c (zerosL c.length) i ps) ∧ Hid (Small (i * 17592186044416) ps)) (fun vi _ => c.length - (intOf vi).toNat)
 case atStart =>
  refine ⟨0, zerosL c.length, by omega, rfl, Lib.hid (by exact (by with_reducible repeat' (first | exact Ext.refl _ | assumption | refine Ext.drewN ?_ _ | refine Ext.drew ?_ | refine Ext.alloc ?_ _ | refine Ext.trans ?_ (by with_reducible assumption)))), Lib.hid (by exact blk_new' rfl rfl), zerosL_len _, rfl, ?_⟩
  intro x hx
  simp [zerosL] at hx
  omega
 case round =>
  obtain ⟨i, ps, hi, rfl, hx, hP, hpl, hA, hS⟩ := hrel
  by_cases h2 : i < c.length
  ·obtain ⟨b1, o1, x, ka, kc, rfl, hb1, dx, ex, g0, g1, g2, g3, gk⟩ := hat i h2 w (Ext.refl _)
   have hxk := hkk.out x (List.mem_of_getElem? ex.out)
   have hg1 := Lib.hid g1
   have gat := gk.at_.1
   have hPlt : w.heap.size < wr.heap.size := hP.out.lt
   have hb1' : b1 < wr.heap.size := by omega
   clear hat gk g0 g1 g2 g3
   go_wp2_with fail
   go_loopw [5] (fun vj wr2 => ∃ (j : Nat) (ps2 : List Int), j ≤ x.kids.length ∧ vj = .int .i64 j ∧ Hid (Ext w wr2) ∧ Hid (Blk wr2 w.heap.size 3 (ps2.map (Value.int .i64)).toArray) ∧ ps2.length = c.length ∧ Hid (TickAt c.length i x.kids ps j ps2) ∧ Hid (Small (i * 17592186044416 + j) ps2)) (fun vj _ => x.kids.length - (intOf vj).toNat)
   case atStart =>
    exact ⟨0, ps, by omega, rfl, Lib.hid (hx.out.trans (by exact (by with_reducible repeat' (first | exact Ext.refl _ | assumption | refine Ext.drewN ?_ _ | refine Ext.drew ?_ | refine Ext.alloc ?_ _ | refine Ext.trans ?_ (by with_reducible assumption))))), hP, hpl, rfl, by simpa using hS⟩
   case round =>
    obtain ⟨j, ps2, hj, rfl, hx2, hP2, hpl2, hT, hS2⟩ := hrel
    have q1 := hx2.out.cell hg1.out
    have hb1'' : b1 < wr.heap.size := World.block_lt_of_cell? _ _ q1
    by_cases h3 : j < x.kids.length
    ·obtain ⟨b2, o2, k, rfl, hb2, dk, ek, k1⟩ := gat j h3 wr hx2.out
     have hT' := hT.out
     unfold TickAt at hT'
     rw [dk.out] at hT'
     by_cases hk1 : k ≤ (i : Int)
     ·have R : Hid (formedB c = false) := by
       show _ = _
       rw [hF.out, hA.out, dx.out]
       simp only [tickAll]
       rw [hT']
       simp [tickKids, hk1, tickOk]
      clear hT' hT
      go_wp2
      go_ret
      rw [R.out]
      exact ⟨rfl, hx2.out⟩
     by_cases hk2 : (c.length : Int) ≤ k
     ·have R : Hid (formedB c = false) := by
       show _ = _
       rw [hF.out, hA.out, dx.out]
       simp only [tickAll]
       rw [hT']
       simp [tickKids, hk2, tickOk]
      clear hT' hT
      go_wp2
      go_ret
      rw [R.out]
      exact ⟨rfl, hx2.out⟩
     obtain ⟨kn, rfl⟩ : ∃ kn : Nat, k = kn := ⟨k.toNat, by omega⟩
     have hkl : kn < ps2.length := by omega
     have hTn : Hid (TickAt c.length i x.kids ps (j + 1) (ps2.set kn (ps2[kn]?.getD 0 + 1))) := by
      show _ = _
      rw [hT']
      simp only [tickKids]
      rw [if_neg (by omega)]
      rfl
     have hSn : Hid (Small (i * 17592186044416 + (j + 1)) (ps2.set kn (ps2[kn]?.getD 0 + 1))) := by
      have := hS2.out.tick kn hkl
      rw [Nat.add_assoc] at this
      exact this
     have hPn : Hid (Blk (wr.setCell ⟨w.heap.size, kn, none⟩ (.int .i64 (ps2[kn]?.getD 0 + 1))) w.heap.size 3 ((ps2.set kn (ps2[kn]?.getD 0 + 1)).map (Value.int .i64)).toArray) := by
      have hpk := hP2.out.set_ kn (.int .i64 (ps2[kn]?.getD 0 + 1))
      have e : (ps2.map (Value.int .i64)).toArray.setIfInBounds kn (.int .i64 (ps2[kn]?.getD 0 + 1)) = ((ps2.set kn (ps2[kn]?.getD 0 + 1)).map (Value.int .i64)).toArray := by simp [List.map_set]
      rw [e] at hpk
      exact hpk
     have hold : 0 ≤ ps2[kn]?.getD 0 ∧ ps2[kn]?.getD 0 ≤ 1152921504606846976 := by
      have := hS2.out ps2[kn] (List.getElem_mem hkl)
      rw [List.getElem?_eq_getElem hkl]
      simp only [Option.getD_some]
      omega
     have m1 : wr.cell? ⟨w.heap.size, kn, none⟩ = some (.int .i64 (ps2[kn]?.getD 0)) := by
      have := hP2.out.cell kn
      rw [this]
      simp [hkl]
     have m2 : wr.frozen? ⟨w.heap.size, kn, none⟩ = false := hP2.out.frozen _
     have ol := hold.1
     have oh := hold.2
     have hpn : (ps2.set kn (ps2[kn]?.getD 0 + 1)).length = c.length := by rw [List.length_set]; exact hpl2
     have hxn : Hid (Ext w (wr.setCell ⟨w.heap.size, kn, none⟩ (.int .i64 (ps2[kn]?.getD 0 + 1)))) := Ext.setCell hx2.out (Nat.le_refl _) _
     clear hT' hT hold hS2
     generalize ps2.set kn (ps2[kn]?.getD 0 + 1) = ps3 at *
     generalize ps2[kn]?.getD 0 = old at *
     go_wp2
     go_roundw
     case rel => exact ⟨j + 1, ps3, by omega, by go_num, hxn, hPn, hpn, hTn, hSn⟩
     case measure => simp [intOf]; omega
    ·have hTe : Hid (tickKids c.length i x.kids ps = some ps2) := by
      show _ = _
      have := hT.out
      unfold TickAt at this
      rw [List.drop_eq_nil_of_le (by omega)] at this
      exact this
     have hAn : Hid (AllAt c.length c (zerosL c.length) (i + 1) ps2) := by
      have := hA.out
      unfold AllAt at this
      rw [dx.out] at this
      show _ = _
      rw [this]
      simp only [tickAll, hTe.out]
      rfl
     have hSn : Hid (Small ((i + 1) * 17592186044416) ps2) := hS2.out.mono (by omega)
     clear hT hTe
     go_wp2
     go_roundw
     case rel => exact ⟨i + 1, ps2, by omega, by go_num, hx2, hP2, hpl2, hAn, hSn⟩
     case measure => simp [intOf]; omega
  ·have R : Hid (formedB c = !(ps.drop 1).any (fun x => !(x == 1))) := by
    show _ = _
    have := hA.out
    unfold AllAt at this
    rw [List.drop_eq_nil_of_le (by omega)] at this
    rw [hF.out, this]
    rfl
   clear hat hA hF hS
   go_wp2_with fail
   go_loopw [7] (fun vj wr2 => ∃ j : Nat, 1 ≤ j ∧ j ≤ c.length ∧ vj = .int .i64 j ∧ Hid (Ext w wr2) ∧ Hid (Blk wr2 w.heap.size 3 (ps.map (Value.int .i64)).toArray) ∧ Hid (∀ k, 1 ≤ k → k < j → ps[k]? = some 1)) (fun vj _ => c.length - (intOf vj).toNat)
   case atStart => exact ⟨1, by omega, by omega, rfl, hx, hP, fun k h1 h2 => by omega⟩
   case round =>
    clear hx hP
    obtain ⟨j, hj1, hj, rfl, hx, hP, hG⟩ := hrel
    by_cases h3 : j < c.length
    ·obtain ⟨p, hp⟩ : ∃ p, Hid (ps[j]? = some p) := ⟨ps[j], List.getElem?_eq_getElem (by omega)⟩
     have m1 : wr.cell? ⟨w.heap.size, j, none⟩ = some (.int .i64 p) := by
      rw [hP.out.cell j]
      simp [hp.out]
     by_cases hp1 : p = 1
     ·have hG' : Hid (∀ k, 1 ≤ k → k < j + 1 → ps[k]? = some 1) := fun k h1 h2 => by
       rcases Nat.lt_succ_iff_lt_or_eq.1 h2 with h | rfl
       ·exact hG.out k h1 h
       ·rw [hp.out, hp1]
      have hpb : (p != 1) = false := by simpa using hp1
      clear hG hp hp1
      go_wp2
      go_roundw
      case rel => exact ⟨j + 1, by omega, by omega, by go_num, hx, hP, hG'⟩
      case measure => simp [intOf]; omega
     ·have R' : Hid (formedB c = false) := by show _ = _; rw [R.out, drop1_any hj1 hp.out hp1]; rfl
      have hpb : (p != 1) = true := by simpa using hp1
      clear hG hp hp1
      go_wp2
      go_ret
      rw [R'.out]
      exact ⟨rfl, hx.out⟩
    ·have R' : Hid (formedB c = true) := by show _ = _; rw [R.out, drop1_none fun k h1 h2 => hG.out k h1 (by omega)]; rfl
     clear hG
     go_wp2
     go_ret
     rw [R'.out]
     exact ⟨rfl, hx.out⟩
end Go.Proofs.YtjglidlmpjmjeaaGreatDoor

/- Walks of the reference of plans: path. -/
namespace Go.Proofs.YtjglidlmpjmjeaaGreatDoor
open Go.RowKit

/-! ### the options that the path of a node decides -/
def pathSet (wish at_ : Int) : List Int → Nat → List Int → List Int
 | [], _, out => out
 | q :: r, k, out => pathSet wish at_ r (k + 1) (if q = at_ ∧ 0 ≤ wish ∧ wish < out.length then out.set wish.toNat (k : Int) else out)
def pathUp (i : Int) : List Int → Int → Int
 | [], a => a
 | q :: r, a => pathUp i r (if q = a then i else a)
def pathGo (c : List NodeD) : Nat → Int → List Int → List Int
 | 0, _, out => out
 | i + 1, a, out => pathGo c i (pathUp (i : Int) (c[i]?.getD default).kids a) (pathSet (c[i]?.getD default).wish a (c[i]?.getD default).kids 0 out)
def pathP (m : Nat) (c : List NodeD) (a : Nat) : List Int := pathGo c a (a : Int) (List.replicate m (-1))

theorem pathSet_len {wish a : Int} : ∀ {l : List Int} {k : Nat} {out : List Int}, (pathSet wish a l k out).length = out.length
 | [], _, _ => rfl
 | _ :: r, k, out => by rw [pathSet, pathSet_len]; split <;> simp
theorem pathGo_len {c : List NodeD} : ∀ {i : Nat} {a : Int} {out : List Int}, (pathGo c i a out).length = out.length
 | 0, _, _ => rfl
 | i + 1, a, out => by rw [pathGo, pathGo_len, pathSet_len]
theorem pathP_len {m : Nat} {c : List NodeD} {a : Nat} : (pathP m c a).length = m := by rw [pathP, pathGo_len, List.length_replicate]

theorem intsO_of_blk {w : World} {B g : Nat} {l : List Int} (h : Blk w g 3 (l.map (Value.int .i64)).toArray) (hB : B ≤ g) (hl : l.length ≤ 9223372036854775807) : IntsO w B (.slice (some ⟨g, 0, none⟩) l.length l.length) l :=
 ⟨by simp, Or.inr ⟨g, l.length, _, rfl, hB, h, Nat.le_refl _, by unfold maxLen; exact hl, by simp, by simp [List.take_of_length_le]⟩⟩

set_option maxHeartbeats 3200000 in
set_option maxRecDepth 100000 in
theorem rPath_calls (tv cv : Value) (t : List WishD) (c : List NodeD) (at_ : Nat) (w : World) (h : Wishes w tv t) (hc : Nodes w cv c) (ha : at_ ≤ c.length) (hl : c.length ≤ 65536) (h512 : t.length ≤ 512) (hk : ∀ n ∈ c, n.kids.length ≤ 17592186044416) :
  Calls Tryz.prog 92 #[.agg #[tv], cv, .int .i64 (at_ : Int)] w fun e w' => ∃ v, e = .returned v ∧ IntsO w' w.heap.size v (pathP t.length c at_) ∧ Ext w w' := by
 obtain ⟨ta, tc, rfl⟩ := h.form
 obtain ⟨ca, cc, rfl, hcn, hcc, hca⟩ := hc.open
 have hca' := Lib.hid hca
 have hkk := Lib.hid hk
 have hmk := run_make_ints t.length (by omega)
 clear h hc hca hk
 go_enter Tryz.func92, Tryz.ntmps92
 go_wp2_with fail
 refine wp_abs (S := fun W => Hid (Ext w W) ∧ Hid (Blk W (w.heap.size + 1) 3 ((decI t.length 0).map (Value.int .i64)).toArray)) ?_ ?_
 ·exact ⟨Lib.hid (by exact (by with_reducible repeat' (first | exact Ext.refl _ | assumption | refine Ext.drewN ?_ _ | refine Ext.drew ?_ | refine Ext.alloc ?_ _ | refine Ext.trans ?_ (by with_reducible assumption)))), Lib.hid (by exact blk_new' (by simp only [World.size_alloc]) rfl)⟩
 rintro W1 ⟨hx1, hB1⟩
 go_loopw [8] (fun vi wr => ∃ i : Nat, i ≤ t.length ∧ vi = .int .i64 i ∧ Hid (Ext w wr) ∧ Hid (Blk wr (w.heap.size + 1) 3 ((decI t.length i).map (Value.int .i64)).toArray)) (fun vi _ => t.length - (intOf vi).toNat)
 case atStart => exact ⟨0, by omega, rfl, hx1, hB1⟩
 case round =>
  clear hx1 hB1
  obtain ⟨i, hi, rfl, hx, hB⟩ := hrel
  by_cases h1 : i < t.length
  ·have fr := hB.out.frozen i
   have hBn : Hid (Blk (wr.setCell ⟨w.heap.size + 1, i, none⟩ (.int .i64 (-1))) (w.heap.size + 1) 3 ((decI t.length (i + 1)).map (Value.int .i64)).toArray) := by
    have := hB.out.set_ i (.int .i64 (-1))
    have e : ((decI t.length i).map (Value.int .i64)).toArray.setIfInBounds i (.int .i64 (-1)) = ((decI t.length (i + 1)).map (Value.int .i64)).toArray := by rw [← decI_step h1]; simp [List.map_set]
    rw [e] at this
    exact this
   have old : ∃ u, wr.cell? ⟨w.heap.size + 1, i, none⟩ = some u := by
    rw [hB.out.cell i]
    cases e : ((decI t.length i).map (Value.int .i64)).toArray[i]? with
    | some u => exact ⟨u, rfl⟩
    | none => simp [decI_len hi] at e; omega
   obtain ⟨u, hu⟩ := old
   have hxn := Lib.hid (hx.out.setCell (p := ⟨w.heap.size + 1, i, none⟩) (Nat.le_succ _) (.int .i64 (-1)))
   clear hB hx
   go_wp2
   go_roundw
   case rel => exact ⟨i + 1, by omega, by go_num, hxn, hBn⟩
   case measure => simp [intOf]; omega
  ·have hBe : Hid (Blk wr (w.heap.size + 1) 3 ((List.replicate t.length (-1 : Int)).map (Value.int .i64)).toArray) := by
    have := hB.out
    rwa [show i = t.length by omega, decI_end] at this
   have hxe := hx
   clear hB hx
   go_wp2_with fail
   go_loopg [9, 2] at_ (fun gm vi va wr2 => ∃ (z a : Int) (out : List Int), vi = .int .i64 z ∧ va = .int .i64 a ∧ gm ≤ c.length ∧ Hid (z = (gm : Int) - 1) ∧ Hid (out.length = t.length) ∧ Hid (Ext w wr2) ∧ Hid (Blk wr2 (w.heap.size + 1) 3 (out.map (Value.int .i64)).toArray) ∧ Hid (pathP t.length c at_ = pathGo c gm a out))
   case atStart => exact ⟨_, _, List.replicate t.length (-1), rfl, rfl, ha, rfl, Lib.hid (by simp), hxe, hBe, rfl⟩
   case round =>
    clear hxe hBe
    obtain ⟨z, a, out, rfl, rfl, hgm, hz, hol, hx, hB, hP⟩ := hrel
    rcases Nat.eq_zero_or_pos gk with hk0 | hk0
    ·subst hk0
     obtain rfl : z = -1 := by have := hz.out; simpa using this
     have hI : Hid (IntsO wr w.heap.size (.slice (some ⟨w.heap.size + 1, 0, none⟩) t.length t.length) (pathP t.length c at_)) := by
      have := intsO_of_blk hB.out (Nat.le_succ _) (by have := hol.out; omega)
      rw [hol.out] at this
      rw [hP.out]
      exact this
     clear hP hB hol hca'
     go_wp2
     go_ret
     exact ⟨_, rfl, hI.out, hx.out⟩
    ·obtain ⟨k, rfl⟩ : ∃ k, gk = k + 1 := ⟨gk - 1, by omega⟩
     obtain rfl : z = (k : Int) := by have := hz.out; omega
     obtain ⟨b1, o1, n, ka, kc, rfl, hb1, _, ex, g0, g1, g2, g3, gk'⟩ := hca'.out k (by omega) w (Ext.refl _)
     have hg0 := Lib.hid g0
     have hg1 := Lib.hid g1
     have gat := gk'.at_.1
     have hnk := hkk.out n (List.mem_of_getElem? ex.out)
     have hP' : Hid (pathP t.length c at_ = pathGo c k (pathUp (k : Int) n.kids a) (pathSet n.wish a n.kids 0 out)) := by
      show _ = _
      rw [hP.out, pathGo]
      simp only [ex.out, Option.getD_some]
     clear g0 g1 g2 g3 gk' hP
     go_wp2_with fail
     go_loopw [10] (fun vj wr3 => ∃ (j : Nat) (o2 : List Int), j ≤ n.kids.length ∧ vj = .int .i64 j ∧ Hid (o2.length = t.length) ∧ Hid (Ext w wr3) ∧ Hid (Blk wr3 (w.heap.size + 1) 3 (o2.map (Value.int .i64)).toArray) ∧ Hid (pathSet n.wish a n.kids 0 out = pathSet n.wish a (n.kids.drop j) j o2)) (fun vj _ => n.kids.length - (intOf vj).toNat)
     case atStart => exact ⟨0, out, by omega, rfl, hol, hx, hB, rfl⟩
     case round =>
      clear hx hB hol
      obtain ⟨j, o2, hj, rfl, hol, hx, hB, hS⟩ := hrel
      have q0 := hx.out.cell hg0.out
      have q1 := hx.out.cell hg1.out
      have hb1' : b1 < wr.heap.size := World.block_lt_of_cell? _ _ q1
      by_cases h3 : j < n.kids.length
      ·obtain ⟨b2, o2', kd, rfl, hb2, dk, ek, k1⟩ := gat j h3 wr hx.out
       have hS' := hS.out
       rw [dk.out, pathSet] at hS'
       by_cases hit : kd = a ∧ 0 ≤ n.wish ∧ n.wish < (t.length : Int)
       ·obtain ⟨rfl, hw0, hw1⟩ := hit
        rw [if_pos ⟨rfl, hw0, by have := hol.out; omega⟩] at hS'
        obtain ⟨m, hm⟩ : ∃ m : Nat, n.wish = m := ⟨n.wish.toNat, by omega⟩
        rw [hm] at q0 hw1
        rw [show n.wish.toNat = m by omega] at hS'
        have hml : m < t.length := by omega
        have hS2 := Lib.hid hS'
        have fr := hB.out.frozen m
        have old : ∃ u, wr.cell? ⟨w.heap.size + 1, m, none⟩ = some u := by
         rw [hB.out.cell m]
         cases e : ((o2.map (Value.int .i64)).toArray)[m]? with
         | some u => exact ⟨u, rfl⟩
         | none => simp at e; have := hol.out; omega
        obtain ⟨u, hu⟩ := old
        have hBn : Hid (Blk (wr.setCell ⟨w.heap.size + 1, m, none⟩ (.int .i64 (j : Int))) (w.heap.size + 1) 3 ((o2.set m (j : Int)).map (Value.int .i64)).toArray) := by
         have := hB.out.set_ m (.int .i64 (j : Int))
         have e : (o2.map (Value.int .i64)).toArray.setIfInBounds m (.int .i64 (j : Int)) = ((o2.set m (j : Int)).map (Value.int .i64)).toArray := by simp [List.map_set]
         rw [e] at this
         exact this
        have hxn := Lib.hid (hx.out.setCell (p := ⟨w.heap.size + 1, m, none⟩) (Nat.le_succ _) (.int .i64 (j : Int)))
        have hon : Hid ((o2.set m (j : Int)).length = t.length) := Lib.hid (by rw [List.length_set]; exact hol.out)
        clear hS hS' hB hx hw0 hm
        go_wp2
        go_roundw
        case rel => exact ⟨j + 1, o2.set m (j : Int), by omega, by go_num, hon, hxn, hBn, hS2⟩
        case measure => simp [intOf]; omega
       ·rw [if_neg (by have := hol.out; intro hh; exact hit ⟨hh.1, hh.2.1, by omega⟩)] at hS'
        have hS2 := Lib.hid hS'
        clear hS hS'
        by_cases e1 : kd = a
        ·have e1' : (kd == a) = true := by simpa using e1
         by_cases e2 : 0 ≤ n.wish
         ·have e3 : ¬ n.wish < (t.length : Int) := fun e3 => hit ⟨e1, e2, e3⟩
          have e2' : decide (0 ≤ n.wish) = true := by simpa using e2
          have e3' : decide (n.wish < (t.length : Int)) = false := by simpa using e3
          clear hit
          go_wp2
          go_roundw
          case rel => exact ⟨j + 1, o2, by omega, by go_num, hol, hx, hB, hS2⟩
          case measure => simp [intOf]; omega
         ·have e2' : decide (0 ≤ n.wish) = false := by simpa using e2
          clear hit
          go_wp2
          go_roundw
          case rel => exact ⟨j + 1, o2, by omega, by go_num, hol, hx, hB, hS2⟩
          case measure => simp [intOf]; omega
        ·have e1' : (kd == a) = false := by simpa using e1
         clear hit
         go_wp2
         go_roundw
         case rel => exact ⟨j + 1, o2, by omega, by go_num, hol, hx, hB, hS2⟩
         case measure => simp [intOf]; omega
      ·have hSe : Hid (pathSet n.wish a n.kids 0 out = o2) := by
        show _ = _
        rw [hS.out, List.drop_of_length_le (by omega)]
        rfl
       clear hS
       rw [hSe.out] at hP'
       go_wp2_with fail
       go_loopw [11, 2] (fun vj va wr4 => ∃ (j : Nat) (a2 : Int), j ≤ n.kids.length ∧ vj = .int .i64 j ∧ va = .int .i64 a2 ∧ Hid (Ext w wr4) ∧ Hid (Blk wr4 (w.heap.size + 1) 3 (o2.map (Value.int .i64)).toArray) ∧ Hid (pathUp (k : Int) n.kids a = pathUp (k : Int) (n.kids.drop j) a2)) (fun vj _ _ => n.kids.length - (intOf vj).toNat)
       case atStart => exact ⟨0, a, by omega, rfl, rfl, hx, hB, rfl⟩
       case round =>
        clear hx hB
        obtain ⟨j2, a2, hj2, rfl, rfl, hx, hB, hU⟩ := hrel
        have q0 := hx.out.cell hg0.out
        have q1 := hx.out.cell hg1.out
        have hb1'' : b1 < wr.heap.size := World.block_lt_of_cell? _ _ q1
        by_cases h4 : j2 < n.kids.length
        ·obtain ⟨b2, o2', kd, rfl, hb2, dk, ek, k1⟩ := gat j2 h4 _ hx.out
         have hU' := hU.out
         rw [dk.out, pathUp] at hU'
         by_cases e1 : kd = a2
         ·rw [if_pos e1] at hU'
          have hU2 := Lib.hid hU'
          have e1' : (kd == a2) = true := by simpa using e1
          clear hU hU' e1
          go_wp2
          go_roundw
          case rel => exact ⟨j2 + 1, (k : Int), by omega, by go_num, rfl, hx, hB, hU2⟩
          case measure => simp [intOf]; omega
         ·rw [if_neg e1] at hU'
          have hU2 := Lib.hid hU'
          have e1' : (kd == a2) = false := by simpa using e1
          clear hU hU' e1
          go_wp2
          go_roundw
          case rel => exact ⟨j2 + 1, a2, by omega, by go_num, rfl, hx, hB, hU2⟩
          case measure => simp [intOf]; omega
        ·have hPn : Hid (pathP t.length c at_ = pathGo c k a2 o2) := by
          show _ = _
          rw [hP'.out, hU.out, List.drop_of_length_le (by omega)]
          rfl
         clear hU hP'
         go_wp2
         go_roundg k
         ·exact ⟨_, a2, o2, rfl, rfl, by omega, rfl, hol, hx, hB, hPn⟩
         ·omega
end Go.Proofs.YtjglidlmpjmjeaaGreatDoor

/- Plain law: to look at each node of a well-formed certificate with its own path is to walk the tree once from the root. No program in sight. -/
namespace Go.Proofs.YtjglidlmpjmjeaaGreatDoor
open Go.RowKit

def sumD : List WishD → List Int → Int
 | x :: t, d :: ds => (if d < 0 then leastB x else harmK x d) + sumD t ds
 | _, _ => 0
def rightR (t : List WishD) (bound : Int) (c : List NodeD) (a : Nat) : Bool :=
 let n := c[a]?.getD default
 let dec := pathP t.length c a
 if 0 ≤ n.wish then (if (t.length : Int) ≤ n.wish ∨ n.clA ≠ 0 ∨ n.clB ≠ 0 then false else decide (decAt dec n.wish < 0) && (n.kids.length == ((t[n.wish.toNat]?).getD default).opts.length))
 else if n.wish ≠ -1 ∨ 0 < n.kids.length then false
 else if n.clA = -1 then (n.clB == 0) && decide (bound ≤ sumD t dec)
 else if n.clA < 0 ∨ (t.length : Int) ≤ n.clA ∨ n.clB < 0 ∨ (t.length : Int) ≤ n.clB then false
 else clashT t n.clA (decAt dec n.clA) n.clB (decAt dec n.clB)
def checkR (t : List WishD) (bound : Int) (c : List NodeD) : Int :=
 if validT t ≠ 0 then validT t else if formedB c = false then 3 else if (List.range c.length).all (fun a => rightR t bound c a) then 0 else 11

theorem sumD_start : ∀ t : List WishD, sumD t (List.replicate t.length (-1)) = leastSum t
 | [] => rfl
 | x :: t => by
  simp only [List.length_cons, List.replicate_succ, sumD, leastSum, sumD_start t]
  rw [if_pos (by omega)]
  omega
theorem sumD_set : ∀ {t : List WishD} {dec : List Int} {m : Nat} {x : WishD} {d i : Int}, t[m]? = some x → dec[m]? = some d → d < 0 → 0 ≤ i → sumD t (dec.set m i) = sumD t dec - leastB x + harmK x i
 | [], _, m, _, _, _, h, _, _, _ => by simp at h
 | _ :: _, [], m, _, _, _, _, h, _, _ => by simp at h
 | y :: t, e :: dec, 0, x, d, i, h1, h2, h3, h4 => by
  simp at h1 h2
  subst h1 h2
  simp only [List.set_cons_zero, sumD]
  rw [if_neg (by omega), if_pos h3]
  omega
 | y :: t, e :: dec, m + 1, x, d, i, h1, h2, h3, h4 => by
  have := sumD_set (t := t) (dec := dec) (m := m) (by simpa using h1) (by simpa using h2) h3 h4
  simp only [List.set_cons_succ, sumD, this]
  omega

/-! ### pieces of a path -/
theorem pathSet_none {wi a : Int} : ∀ {l : List Int} {k : Nat} {out : List Int}, (∀ q ∈ l, q ≠ a) → pathSet wi a l k out = out
 | [], _, _, _ => rfl
 | q :: r, k, out, h => by
  rw [pathSet, if_neg (fun e => h q List.mem_cons_self e.1)]
  exact pathSet_none fun q' h' => h q' (List.mem_cons_of_mem _ h')
theorem pathUp_none {i a : Int} : ∀ {l : List Int}, (∀ q ∈ l, q ≠ a) → pathUp i l a = a
 | [], _ => rfl
 | q :: r, h => by
  rw [pathUp, if_neg (h q List.mem_cons_self)]
  exact pathUp_none fun q' h' => h q' (List.mem_cons_of_mem _ h')
theorem pathUp_one {i a : Int} : ∀ {l : List Int}, a ∈ l → (∀ q ∈ l, q ≠ i) → pathUp i l a = i
 | [], h, _ => by simp at h
 | q :: r, h, hi => by
  rw [pathUp]
  by_cases e : q = a
  ·rw [if_pos e]
   exact pathUp_none fun q' h' => hi q' (List.mem_cons_of_mem _ h')
  ·rw [if_neg e]
   rcases List.mem_cons.1 h with h | h
   ·exact absurd h.symm e
   ·exact pathUp_one h fun q' h' => hi q' (List.mem_cons_of_mem _ h')
theorem pathSet_one {wi a : Int} : ∀ {l : List Int} {k j : Nat} {out : List Int}, l[j]? = some a → (∀ j', l[j']? = some a → j' = j) → 0 ≤ wi → wi < out.length → pathSet wi a l k out = out.set wi.toNat ((k + j : Nat) : Int)
 | [], _, j, _, h, _, _, _ => by simp at h
 | q :: r, k, 0, out, h, hu, h0, h1 => by
  simp at h
  subst h
  rw [pathSet, if_pos ⟨rfl, h0, h1⟩, pathSet_none]
  ·rfl
  ·intro q' hq' e
   obtain ⟨m, hm⟩ := List.mem_iff_getElem?.1 hq'
   have := hu (m + 1) (by rw [← e]; simpa using hm)
   omega
 | q :: r, k, j + 1, out, h, hu, h0, h1 => by
  have hq : q ≠ a := fun e => by have := hu 0 (by rw [e]; rfl); omega
  rw [pathSet, if_neg (fun e => hq e.1), pathSet_one (j := j) (by simpa using h) (fun j' hj' => by have := hu (j' + 1) (by simpa using hj'); omega) h0 h1]
  congr 2
  omega
theorem pathSet_keep {wi a : Int} {w : Nat} : ∀ {l : List Int} {k : Nat} {out : List Int}, w < out.length → 0 ≤ out[w]?.getD 0 → 0 ≤ (pathSet wi a l k out)[w]?.getD 0
 | [], _, _, _, h => h
 | q :: r, k, out, hw, h => by
  rw [pathSet]
  split
  ·refine pathSet_keep (by rw [List.length_set]; exact hw) ?_
   rw [List.getElem?_set]
   split
   ·split
    ·simp
    ·simp
   ·exact h
  ·exact pathSet_keep hw h
theorem pathGo_keep {c : List NodeD} {w : Nat} : ∀ {i : Nat} {a : Int} {out : List Int}, w < out.length → 0 ≤ out[w]?.getD 0 → 0 ≤ (pathGo c i a out)[w]?.getD 0
 | 0, _, _, _, h => h
 | i + 1, a, out, hw, h => by
  rw [pathGo]
  exact pathGo_keep (by rw [pathSet_len]; exact hw) (pathSet_keep hw h)
theorem pathSet_set {wi a v : Int} {w : Nat} : ∀ {l : List Int} {k : Nat} {out : List Int}, w < out.length → (pathSet wi a l k out)[w]?.getD 0 < 0 → pathSet wi a l k (out.set w v) = (pathSet wi a l k out).set w v
 | [], _, _, _, _ => rfl
 | q :: r, k, out, hw, h => by
  rw [pathSet, pathSet, List.length_set]
  rw [pathSet] at h
  by_cases hc : q = a ∧ 0 ≤ wi ∧ wi < out.length
  ·rw [if_pos hc] at h
   rw [if_pos hc, if_pos hc]
   have hne : w ≠ wi.toNat := by
    rintro rfl
    have := pathSet_keep (wi := wi) (a := a) (w := wi.toNat) (l := r) (k := k + 1) (out := out.set wi.toNat (k : Int)) (by rw [List.length_set]; exact hw) (by rw [List.getElem?_set_self hw]; simp)
    omega
   rw [List.set_comm _ _ hne]
   exact pathSet_set (by rw [List.length_set]; exact hw) h
  ·rw [if_neg hc] at h
   rw [if_neg hc, if_neg hc]
   exact pathSet_set hw h
theorem pathGo_set {c : List NodeD} {v : Int} {w : Nat} : ∀ {i : Nat} {a : Int} {out : List Int}, w < out.length → (pathGo c i a out)[w]?.getD 0 < 0 → pathGo c i a (out.set w v) = (pathGo c i a out).set w v
 | 0, _, _, _, _ => rfl
 | i + 1, a, out, hw, h => by
  rw [pathGo] at h ⊢
  rw [pathGo]
  have hw' : w < (pathSet (c[i]?.getD default).wish a (c[i]?.getD default).kids 0 out).length := by rw [pathSet_len]; exact hw
  rw [pathSet_set hw]
  ·exact pathGo_set hw' h
  ·rcases Int.lt_or_le ((pathSet (c[i]?.getD default).wish a (c[i]?.getD default).kids 0 out)[w]?.getD 0) 0 with h1 | h1
   ·exact h1
   ·have := pathGo_keep (c := c) (i := i) (a := pathUp (i : Int) (c[i]?.getD default).kids a) hw' h1
    omega

/-! ### the tree of a well-formed certificate -/
structure TreeF (c : List NodeD) : Prop where
 inn : ∀ (i : Nat) (n : NodeD), c[i]? = some n → ∀ k ∈ n.kids, (i : Int) < k ∧ k < c.length
 uniq : ∀ (i i' : Nat) (n n' : NodeD) (k : Int), c[i]? = some n → c[i']? = some n' → k ∈ n.kids → k ∈ n'.kids → i = i'
 once : ∀ (i : Nat) (n : NodeD) (k : Int) (j j' : Nat), c[i]? = some n → n.kids[j]? = some k → n.kids[j']? = some k → j = j'
 par : ∀ a : Nat, 1 ≤ a → a < c.length → ∃ (p : Nat) (n : NodeD) (j : Nat), p < a ∧ c[p]? = some n ∧ n.kids[j]? = some (a : Int)
theorem formed_count {c : List NodeD} (h : formedB c = true) (a : Nat) (h1 : 1 ≤ a) (ha : a < c.length) : (allKids c).count (a : Int) = 1 := by
 obtain ⟨f1, f2, f3⟩ := formed_in h
 unfold formedB at h
 rw [if_neg (by omega), tickAll_ok (fun j x hx k hk => by have := f3 j x hx k hk; omega) (Int.le_refl 0)] at h
 simp only [tickOk, Bool.not_eq_true', List.any_eq_false] at h
 have hm : ((addC (allKids c) (zerosL c.length)).drop 1)[a - 1]? = some (((allKids c).count (a : Int) : Nat) : Int) := by
  rw [List.getElem?_drop, show 1 + (a - 1) = a by omega]
  unfold addC
  rw [List.getElem?_mapIdx, show (zerosL c.length)[a]? = some 0 by simp [zerosL, ha]]
  simp
 have := h _ (List.mem_of_getElem? hm)
 simp at this
 omega
theorem count_two {l : List Int} {k : Int} : ∀ {i j : Nat}, i < j → l[i]? = some k → l[j]? = some k → 2 ≤ l.count k := by
 induction l with
 | nil => intro i j _ h _; simp at h
 | cons x r ih =>
  intro i j hij h1 h2
  obtain ⟨j', rfl⟩ : ∃ j', j = j' + 1 := ⟨j - 1, by omega⟩
  rcases i with _ | i
  ·simp at h1 h2
   subst h1
   have := List.count_pos_iff.2 (List.mem_of_getElem? h2)
   rw [List.count_cons, if_pos (by simp)]
   omega
  ·have := ih (i := i) (j := j') (by omega) (by simpa using h1) (by simpa using h2)
   rw [List.count_cons]
   omega
theorem count_flat {c : List NodeD} {k : Int} : ∀ {i : Nat} {n : NodeD}, c[i]? = some n → n.kids.count k ≤ (allKids c).count k := by
 induction c with
 | nil => intro i n h; simp at h
 | cons x r ih =>
  intro i n h
  rw [allKids_cons, List.count_append]
  rcases i with _ | i
  ·simp at h; subst h; omega
  ·have := ih (i := i) (n := n) (by simpa using h); omega
theorem count_flat2 {c : List NodeD} {k : Int} : ∀ {i j : Nat} {n m : NodeD}, i < j → c[i]? = some n → c[j]? = some m → n.kids.count k + m.kids.count k ≤ (allKids c).count k := by
 induction c with
 | nil => intro i j n m _ h; simp at h
 | cons x r ih =>
  intro i j n m hij h h'
  rw [allKids_cons, List.count_append]
  obtain ⟨j', rfl⟩ : ∃ j', j = j' + 1 := ⟨j - 1, by omega⟩
  rcases i with _ | i
  ·simp at h; subst h
   have := count_flat (c := r) (k := k) (i := j') (n := m) (by simpa using h')
   omega
  ·have := ih (i := i) (j := j') (n := n) (m := m) (by omega) (by simpa using h) (by simpa using h'); omega
theorem treeF_of {c : List NodeD} (h : formedB c = true) : TreeF c := by
 have hc := formed_count h
 obtain ⟨f1, f2, f3⟩ := formed_in h
 have cnt : ∀ (i : Nat) (n : NodeD) (k : Int), c[i]? = some n → k ∈ n.kids → (allKids c).count k = 1 := fun i n k hn hk => by
  have := f3 i n hn k hk
  obtain ⟨m, rfl⟩ : ∃ m : Nat, k = m := ⟨k.toNat, by omega⟩
  exact hc m (by omega) (by omega)
 refine ⟨f3, fun i i' n n' k hn hn' hk hk' => ?_, fun i n k j j' hn hj hj' => ?_, fun a h1 ha => ?_⟩
 ·have h1 := cnt i n k hn hk
  have p1 := List.count_pos_iff.2 hk
  have p2 := List.count_pos_iff.2 hk'
  rcases Nat.lt_trichotomy i i' with h | h | h
  ·have := count_flat2 (k := k) h hn hn'; omega
  ·exact h
  ·have := count_flat2 (k := k) h hn' hn; omega
 ·have h1 := cnt i n k hn (List.mem_of_getElem? hj)
  have h2 := count_flat (k := k) hn
  rcases Nat.lt_trichotomy j j' with h | h | h
  ·have := count_two h hj hj'; omega
  ·exact h
  ·have := count_two h hj' hj; omega
 ·have h2 := hc a h1 ha
  have : (a : Int) ∈ allKids c := List.count_pos_iff.1 (by omega)
  unfold allKids at this
  obtain ⟨n, hn, hk⟩ := List.mem_flatMap.1 this
  obtain ⟨p, hp⟩ := List.mem_iff_getElem?.1 hn
  obtain ⟨j, hj⟩ := List.mem_iff_getElem?.1 hk
  have := f3 p n hp _ hk
  exact ⟨p, n, j, by omega, hp, hj⟩

theorem pathGo_skip {c : List NodeD} (F : TreeF c) {i : Nat} {n : NodeD} {k : Nat} (hn : c[i]? = some n) (hk : (k : Int) ∈ n.kids) : ∀ (d : Nat) (out : List Int), i + 1 + d ≤ c.length → pathGo c (i + 1 + d) (k : Int) out = pathGo c (i + 1) (k : Int) out
 | 0, _, _ => rfl
 | d + 1, out, hd => by
  have hlt : i + 1 + d < c.length := by omega
  have e : c[i + 1 + d]? = some c[i + 1 + d] := List.getElem?_eq_getElem hlt
  have hno : ∀ q ∈ c[i + 1 + d].kids, q ≠ (k : Int) := by
   rintro q hq rfl
   have := F.uniq i (i + 1 + d) n _ _ hn e hk hq
   omega
  rw [show i + 1 + (d + 1) = (i + 1 + d) + 1 by omega, pathGo]
  simp only [e, Option.getD_some]
  rw [pathUp_none hno, pathSet_none hno]
  exact pathGo_skip F hn hk d out (by omega)
theorem path_kid {c : List NodeD} (F : TreeF c) {m i j k : Nat} {n : NodeD} (hn : c[i]? = some n) (hj : n.kids[j]? = some (k : Int)) {w : Nat} (hw : n.wish = w) (hm : w < m) (hd : decAt (pathP m c i) n.wish < 0) :
  pathP m c k = (pathP m c i).set w (j : Int) := by
 have hk := List.mem_of_getElem? hj
 have hin := F.inn i n hn _ hk
 unfold pathP at hd ⊢
 rw [hw] at hd
 obtain ⟨d, rfl⟩ : ∃ d, k = i + 1 + d := ⟨k - (i + 1), by omega⟩
 rw [pathGo_skip F hn hk d _ (by omega), pathGo]
 simp only [hn, Option.getD_some]
 rw [pathUp_one hk (fun q hq e => by have := F.inn i n hn q hq; omega), pathSet_one hj (fun j' hj' => F.once i n _ j' j hn hj' hj) (by omega) (by rw [List.length_replicate]; omega), hw, Int.toNat_natCast, Nat.zero_add]
 exact pathGo_set (by rw [List.length_replicate]; exact hm) (by simpa [decAt] using hd)

/-! ### what a path decides is in range -/
theorem pathSet_dec {t : List WishD} {wi a : Int} : ∀ {l : List Int} {k : Nat} {out : List Int}, DecOk t out → (∀ x, 0 ≤ wi → t[wi.toNat]? = some x → k + l.length ≤ x.opts.length) → DecOk t (pathSet wi a l k out)
 | [], _, _, h, _ => h
 | q :: r, k, out, h, hx => by
  rw [pathSet]
  refine pathSet_dec ?_ fun x h0 h1 => by have := hx x h0 h1; simp at this; omega
  split
  ·rename_i hc
   have hlt : wi.toNat < t.length := by have := h.1; omega
   have e := List.getElem?_eq_getElem hlt
   have := hx _ hc.2.1 e
   simp at this
   exact h.set_ e (by omega) (by omega)
  ·exact h
def Fits (t : List WishD) (n : NodeD) : Prop := ∀ x, 0 ≤ n.wish → t[n.wish.toNat]? = some x → n.kids.length ≤ x.opts.length
theorem pathGo_dec {t : List WishD} {c : List NodeD} : ∀ {i : Nat} {a : Int} {out : List Int}, DecOk t out → (∀ (j : Nat) (n : NodeD), j < i → c[j]? = some n → Fits t n) → i ≤ c.length → DecOk t (pathGo c i a out)
 | 0, _, _, h, _, _ => h
 | i + 1, a, out, h, hf, hi => by
  rw [pathGo]
  have e : c[i]? = some c[i] := List.getElem?_eq_getElem (by omega)
  simp only [e, Option.getD_some]
  exact pathGo_dec (pathSet_dec h fun x h0 h1 => by have := hf i _ (by omega) e x h0 h1; omega) (fun j n hj hn => hf j n (by omega) hn) (by omega)
theorem decOk_start (t : List WishD) : DecOk t (List.replicate t.length (-1)) :=
 ⟨by simp, fun i x d hx hd => by
  rw [List.getElem?_replicate] at hd
  split at hd
  ·cases hd; omega
  ·cases hd⟩
theorem pathP_dec {t : List WishD} {c : List NodeD} {a : Nat} (hf : ∀ (j : Nat) (n : NodeD), j < a → c[j]? = some n → Fits t n) (ha : a ≤ c.length) : DecOk t (pathP t.length c a) := pathGo_dec (decOk_start t) hf ha
theorem right_fits {t : List WishD} {bound : Int} {c : List NodeD} {a : Nat} {n : NodeD} (hn : c[a]? = some n) (h : rightR t bound c a = true) : Fits t n := by
 intro x h0 hx
 unfold rightR at h
 simp only [hn, Option.getD_some] at h
 rw [if_pos h0] at h
 split at h
 ·cases h
 ·simp [hx] at h
  omega

/-! ### a node -/
theorem clashT_dec {t : List WishD} (hv : validT t = 0) {dec : List Int} (hd : DecOk t dec) {A B : Int} (hA : idxB A t.length = true) (hB : idxB B t.length = true) :
  clashT t A (decAt dec A) B (decAt dec B) = (decide (A ≠ B) && (decide (0 ≤ decAt dec A) && decide (0 ≤ decAt dec B) && clashAt t dec A.toNat B.toNat)) := by
 obtain ⟨a, rfl, ha⟩ := idxB_nat hA
 obtain ⟨b, rfl, hb⟩ := idxB_nat hB
 obtain ⟨x, hx⟩ : ∃ x, t[a]? = some x := ⟨_, List.getElem?_eq_getElem ha⟩
 obtain ⟨y, hy⟩ : ∃ y, t[b]? = some y := ⟨_, List.getElem?_eq_getElem hb⟩
 obtain ⟨d, hda⟩ : ∃ d, dec[a]? = some d := ⟨dec[a]'(by have := hd.1; omega), List.getElem?_eq_getElem _⟩
 obtain ⟨e, hdb⟩ : ∃ d, dec[b]? = some d := ⟨dec[b]'(by have := hd.1; omega), List.getElem?_eq_getElem _⟩
 have rd := hd.2 a x d hx hda
 have re := hd.2 b y e hy hdb
 have va : decAt dec (a : Int) = d := by simp [decAt, hda]
 have vb : decAt dec (b : Int) = e := by simp [decAt, hdb]
 rw [va, vb]
 by_cases hne : a = b
 ·subst hne
  simp [clashT_same]
 have hne' : ((a : Int) ≠ (b : Int)) := by omega
 by_cases h1 : 0 ≤ d
 ·by_cases h2 : 0 ≤ e
  ·obtain ⟨i, rfl⟩ : ∃ i : Nat, d = i := ⟨d.toNat, by omega⟩
   obtain ⟨k, rfl⟩ : ∃ k : Nat, e = k := ⟨e.toNat, by omega⟩
   obtain ⟨o, ho⟩ : ∃ o, x.opts[i]? = some o := ⟨_, List.getElem?_eq_getElem (by omega)⟩
   obtain ⟨p, hp⟩ : ∃ p, y.opts[k]? = some p := ⟨_, List.getElem?_eq_getElem (by omega)⟩
   rw [clashT_eq hv hne hx hy ho hp]
   have e1 : optOf t dec a = some (x, o) := by simp [optOf, hx, hda, ho]
   have e2 : optOf t dec b = some (y, p) := by simp [optOf, hy, hdb, hp]
   rw [decide_eq_true hne']
   simp [clashAt, e1, e2]
  ·rw [clashT_k hy (by simp [idxB]; omega)]
   simp [h2]
 ·rw [clashT_i hx (by simp [idxB]; omega)]
  simp [h1]
theorem rightP_eq {t : List WishD} (hv : validT t = 0) {bound : Int} {c : List NodeD} {a : Nat} {n : NodeD} (hn : c[a]? = some n) (hd : DecOk t (pathP t.length c a)) {f : Nat} {lst harm : Int} (hs : harm + lst = sumD t (pathP t.length c a)) :
  rightP t bound c (f + 1) (pathP t.length c a) lst a harm = (rightR t bound c a && (if n.wish = -1 then true else
   kidsR (fun i kid o => rightP t bound c f ((pathP t.length c a).set n.wish.toNat i) (lst - leastB ((t[n.wish.toNat]?).getD default)) kid.toNat (harm + o.harm)) 0 n.kids ((t[n.wish.toNat]?).getD default).opts)) := by
 unfold rightR
 simp only [rightP, hn, Option.getD_some]
 by_cases hw : n.wish = -1
 ·rw [if_pos hw, if_pos hw, if_neg (by omega), Bool.and_true]
  by_cases hk : n.kids.length = 0
  ·rw [if_neg (by omega)]
   simp only [hk, beq_self_eq_true, Bool.true_and]
   unfold closedB
   by_cases hA : n.clA = -1
   ·rw [if_pos hA, if_pos hA, hs]
   ·rw [if_neg hA, if_neg hA]
    cases hI : idxB n.clA t.length with
    | false => 
     rw [if_pos (Or.inl rfl), if_pos]
     simp only [idxB, Bool.and_eq_false_iff, decide_eq_false_iff_not] at hI
     omega
    | true =>
     cases hJ : idxB n.clB t.length with
     | false =>
      rw [if_pos (Or.inr (Or.inl rfl)), if_pos]
      simp only [idxB, Bool.and_eq_false_iff, decide_eq_false_iff_not] at hJ
      omega
     | true =>
      have hI' := hI
      have hJ' := hJ
      simp only [idxB, Bool.and_eq_true, decide_eq_true_eq] at hI' hJ'
      rw [if_neg (c := n.clA < 0 ∨ _) (by omega), clashT_dec hv hd hI hJ]
      by_cases hE : n.clA = n.clB
      ·rw [if_pos (Or.inr (Or.inr hE))]
       simp [hE]
      ·rw [if_neg (by simp [hE])]
       simp [hE]
  ·rw [if_pos (Or.inr (by omega))]
   have : (n.kids.length == 0) = false := by simpa using hk
   rw [this, Bool.false_and]
 ·rw [if_neg hw, if_neg hw]
  cases hI : idxB n.wish t.length with
  | false =>
   rw [if_pos rfl]
   simp only [idxB, Bool.and_eq_false_iff, decide_eq_false_iff_not] at hI
   by_cases h0 : 0 ≤ n.wish
   ·rw [if_pos h0, if_pos (Or.inl (by omega)), Bool.false_and]
   ·rw [if_neg h0, if_pos (Or.inl hw), Bool.false_and]
  | true =>
   obtain ⟨m, hm, hmt⟩ := idxB_nat hI
   rw [if_neg (by simp), if_pos (c := 0 ≤ n.wish) (by omega)]
   rw [hm, Int.toNat_natCast]
   have hx : t[m]? = some t[m] := List.getElem?_eq_getElem hmt
   simp only [hx, Option.getD_some]
   by_cases hd0 : 0 ≤ decAt (pathP t.length c a) (m : Int)
   ·rw [if_pos (Or.inl hd0)]
    have : decide (decAt (pathP t.length c a) (m : Int) < 0) = false := by simpa using hd0
    rw [this]
    simp
   ·by_cases hA : n.clA = 0
    ·by_cases hB : n.clB = 0
     ·by_cases hl : n.kids.length = t[m].opts.length
      ·rw [if_neg (by omega), if_neg (by omega)]
       have : decide (decAt (pathP t.length c a) (m : Int) < 0) = true := by simpa using hd0
       rw [this]
       simp [hl]
      ·rw [if_pos (by omega), if_neg (by omega)]
       simp [hl]
     ·rw [if_pos (by omega), if_pos (by omega), Bool.false_and]
    ·rw [if_pos (by omega), if_pos (by omega), Bool.false_and]

theorem kidsR_all {g : Int → Int → OptD → Bool} : ∀ {i : Int} {ks : List Int} {os : List OptD}, (∀ (j : Nat) (k : Int) (o : OptD), ks[j]? = some k → os[j]? = some o → g (i + j) k o = true) → kidsR g i ks os = true
 | i, [], os, _ => by simp [kidsR]
 | i, _ :: _, [], _ => by simp [kidsR]
 | i, a :: ks, b :: os, h => by
  simp only [kidsR, Bool.and_eq_true]
  refine ⟨by simpa using h 0 a b rfl rfl, kidsR_all fun j k o h1 h2 => ?_⟩
  have := h (j + 1) k o (by simpa using h1) (by simpa using h2)
  rw [show i + 1 + (j : Int) = i + ((j + 1 : Nat) : Int) by omega]
  exact this
theorem right_wish {t : List WishD} {bound : Int} {c : List NodeD} {a : Nat} {n : NodeD} (hn : c[a]? = some n) (h : rightR t bound c a = true) (hw : n.wish ≠ -1) :
  ∃ (m : Nat) (x : WishD), n.wish = m ∧ t[m]? = some x ∧ decAt (pathP t.length c a) n.wish < 0 ∧ n.kids.length = x.opts.length := by
 unfold rightR at h
 simp only [hn, Option.getD_some] at h
 by_cases h0 : 0 ≤ n.wish
 ·rw [if_pos h0] at h
  split at h
  ·cases h
  ·rename_i hc
   obtain ⟨m, hm⟩ : ∃ m : Nat, n.wish = m := ⟨n.wish.toNat, by omega⟩
   have hmt : m < t.length := by omega
   have hx : t[m]? = some t[m] := List.getElem?_eq_getElem hmt
   rw [hm, Int.toNat_natCast] at h
   simp [hx] at h
   exact ⟨m, _, hm, hx, by rw [hm]; exact h.1, h.2⟩
 ·rw [if_neg h0, if_pos (Or.inl hw)] at h
  cases h
theorem kid_state {t : List WishD} {bound : Int} {c : List NodeD} (F : TreeF c) {a : Nat} {n : NodeD} (hn : c[a]? = some n) (h : rightR t bound c a = true) (hd : DecOk t (pathP t.length c a)) {j k : Nat} (hj : n.kids[j]? = some (k : Int)) :
  ∃ (m : Nat) (x : WishD) (o : OptD), n.wish = m ∧ t[m]? = some x ∧ x.opts[j]? = some o ∧ pathP t.length c k = (pathP t.length c a).set m (j : Int) ∧ sumD t (pathP t.length c k) = sumD t (pathP t.length c a) - leastB x + o.harm ∧ DecOk t (pathP t.length c k) := by
 have hw : n.wish ≠ -1 := fun e => by
  unfold rightR at h
  simp only [hn, Option.getD_some] at h
  have := (List.getElem?_eq_some_iff.1 hj).1
  rw [if_neg (by omega), if_pos (Or.inr (by omega))] at h
  cases h
 obtain ⟨m, x, hm, hx, hdc, hl⟩ := right_wish hn h hw
 have hjl := (List.getElem?_eq_some_iff.1 hj).1
 have hjo : j < x.opts.length := by omega
 have hmt := (List.getElem?_eq_some_iff.1 hx).1
 have hp := path_kid F hn hj hm hmt hdc
 have hpm : m < (pathP t.length c a).length := by rw [pathP_len]; exact hmt
 have hd0 : (pathP t.length c a)[m]? = some (pathP t.length c a)[m] := List.getElem?_eq_getElem hpm
 have hneg : (pathP t.length c a)[m] < 0 := by
  rw [hm] at hdc
  simpa [decAt, hd0] using hdc
 refine ⟨m, x, x.opts[j], hm, hx, List.getElem?_eq_getElem hjo, hp, ?_, ?_⟩
 ·rw [hp, sumD_set hx hd0 hneg (by omega)]
  simp [harmK, hjo]
 ·rw [hp]
  exact hd.set_ hx (by omega) (by omega)

theorem all_right {t : List WishD} (hv : validT t = 0) {bound : Int} {c : List NodeD} (F : TreeF c) (H : ∀ a, a < c.length → rightR t bound c a = true) :
  ∀ (f a : Nat) (lst harm : Int), c.length ≤ a + f → a < c.length → harm + lst = sumD t (pathP t.length c a) → rightP t bound c f (pathP t.length c a) lst a harm = true
 | 0, a, _, _, h1, h2, _ => by omega
 | f + 1, a, lst, harm, h1, h2, hs => by
  have hn : c[a]? = some c[a] := List.getElem?_eq_getElem h2
  have hd : DecOk t (pathP t.length c a) := pathP_dec (fun j n hj hn => right_fits hn (H j (by omega))) (by omega)
  rw [rightP_eq hv hn hd hs, H a h2, Bool.true_and]
  split
  ·rfl
  ·rename_i hw
   refine kidsR_all fun j k o hj ho => ?_
   have hin := F.inn a _ hn k (List.mem_of_getElem? hj)
   obtain ⟨kn, rfl⟩ : ∃ kn : Nat, k = kn := ⟨k.toNat, by omega⟩
   obtain ⟨m, x, o', hm, hx, ho', hp, hsum, _⟩ := kid_state F hn (H a h2) hd hj
   rw [hm, Int.toNat_natCast, hx, Option.getD_some] at ho ⊢
   obtain rfl : o' = o := Option.some.inj (ho'.symm.trans ho)
   rw [Int.toNat_natCast, Int.zero_add, ← hp]
   exact all_right hv F H f kn _ _ (by omega) (by omega) (by rw [hsum]; omega)
theorem right_all {t : List WishD} (hv : validT t = 0) {bound : Int} {c : List NodeD} (F : TreeF c) {f0 : Nat} (H : rightP t bound c f0 (pathP t.length c 0) (leastSum t) 0 0 = true) :
  ∀ a, a < c.length → rightR t bound c a = true ∧ DecOk t (pathP t.length c a) ∧ ∃ (f : Nat) (lst harm : Int), rightP t bound c f (pathP t.length c a) lst a harm = true ∧ harm + lst = sumD t (pathP t.length c a) := by
 have loc : ∀ a, a < c.length → DecOk t (pathP t.length c a) → (∃ (f : Nat) (lst harm : Int), rightP t bound c f (pathP t.length c a) lst a harm = true ∧ harm + lst = sumD t (pathP t.length c a)) → rightR t bound c a = true := by
  rintro a ha hd ⟨f, lst, harm, h, hs⟩
  rcases f with _ | f
  ·simp [rightP] at h
  ·rw [rightP_eq hv (List.getElem?_eq_getElem ha) hd hs, Bool.and_eq_true] at h
   exact h.1
 intro a
 induction a using Nat.strongRecOn with
 | ind a ih =>
 intro ha
 rcases Nat.eq_zero_or_pos a with rfl | hpos
 ·have hd : DecOk t (pathP t.length c 0) := decOk_start t
  have hex : ∃ (f : Nat) (lst harm : Int), rightP t bound c f (pathP t.length c 0) lst 0 harm = true ∧ harm + lst = sumD t (pathP t.length c 0) := ⟨f0, _, _, H, by rw [show pathP t.length c 0 = List.replicate t.length (-1) from rfl, sumD_start]; omega⟩
  exact ⟨loc 0 ha hd hex, hd, hex⟩
 ·obtain ⟨p, n, j, hp, hn, hj⟩ := F.par a hpos ha
  obtain ⟨hr, hd, f, lst, harm, h, hs⟩ := ih p hp (by omega)
  obtain ⟨m, x, o, hm, hx, ho, hpth, hsum, hdk⟩ := kid_state F hn hr hd hj
  have hex : ∃ (f : Nat) (lst harm : Int), rightP t bound c f (pathP t.length c a) lst a harm = true ∧ harm + lst = sumD t (pathP t.length c a) := by
   rcases f with _ | f
   ·simp [rightP] at h
   ·rw [rightP_eq hv hn hd hs, Bool.and_eq_true] at h
    have h2 := h.2
    rw [if_neg (by omega)] at h2
    have := kidsR_at h2 j a o hj (by rw [hm, Int.toNat_natCast, hx]; exact ho)
    rw [hm, Int.toNat_natCast, hx, Option.getD_some, Int.zero_add, Int.toNat_natCast, ← hpth] at this
    exact ⟨f, _, _, this, by rw [hsum]; omega⟩
  exact ⟨loc a ha hdk hex, hdk, hex⟩
theorem checkR_eq (t : List WishD) (bound : Int) (c : List NodeD) : checkR t bound c = checkT t bound c := by
 unfold checkR checkT
 by_cases hv : validT t = 0
 ·have hv' : ¬ (validT t ≠ 0) := fun h => h hv
  simp only [if_neg hv']
  cases hf : formedB c with
  | false => rfl
  | true =>
   have hf' : ¬ (true = false) := by decide
   simp only [if_neg hf']
   have F := treeF_of hf
   have h0 := (formed_in hf).1
   have e : ((List.range c.length).all fun a => rightR t bound c a) = rightP t bound c c.length (List.replicate t.length (-1)) (leastSum t) 0 0 := by
    rw [Bool.eq_iff_iff, List.all_eq_true]
    constructor
    ·intro h
     exact all_right hv F (fun a ha => h a (List.mem_range.2 ha)) c.length 0 _ _ (by omega) h0 (by rw [show pathP t.length c 0 = List.replicate t.length (-1) from rfl, sumD_start]; omega)
    ·intro h a ha
     exact (right_all hv F h a (List.mem_range.1 ha)).1
   rw [e]
 ·rw [if_pos hv, if_pos hv]
end Go.Proofs.YtjglidlmpjmjeaaGreatDoor

/- Walks of the reference of plans: right. -/
namespace Go.Proofs.YtjglidlmpjmjeaaGreatDoor
open Go.RowKit

theorem sumD_step {t : List WishD} {dec : List Int} {i : Nat} {x : WishD} {d : Int} (h : t.drop i = x :: t.drop (i + 1)) (h' : dec.drop i = d :: dec.drop (i + 1)) :
  sumD (t.drop i) (dec.drop i) = (if d < 0 then leastB x else harmK x d) + sumD (t.drop (i + 1)) (dec.drop (i + 1)) := by rw [h, h', sumD]
theorem leastB_bd {x : WishD} (h : ∀ o ∈ x.opts, 0 ≤ o.harm) : 0 ≤ leastB x ∧ leastB x ≤ 1000000 := by
 have := leastSum_bd [x] (by intro y hy; simp at hy; subst hy; exact h)
 have e : leastSum [x] = leastB x := by simp [leastSum]
 rw [e] at this
 exact ⟨this.1, by have := this.2; simpa using this⟩
def PathCon (B : Nat) (t : List WishD) (c : List NodeD) (a : Nat) (k : Nat) (v : Value) (W : World) : Prop := k = 7 → IntsO W B v (pathP t.length c a)
set_option maxHeartbeats 6400000 in
set_option maxRecDepth 100000 in
theorem rRight_calls (tv cv : Value) (t : List WishD) (bound : Int) (c : List NodeD) (a : Nat) (w : World) (h : Wishes w tv t) (hc : Nodes w cv c) (hv : validT t = 0) (ho : ∀ x ∈ t, 0 < x.opts.length) (ha : a < c.length) (hl : c.length ≤ 65536)
  (hk : ∀ n ∈ c, n.kids.length ≤ 17592186044416) (hd : DecOk t (pathP t.length c a)) :
  Calls Tryz.prog 74 #[.agg #[tv], .int .i64 bound, cv, .int .i64 (a : Int)] w fun e w' => e = .returned (.bool (rightR t bound c a)) ∧ Ext w w' := by
 have hT := Lib.hid h
 have hN := Lib.hid hc
 obtain ⟨ta, tc, rfl⟩ := h.form
 obtain ⟨ca, cc, rfl, hcn, hcc, hca⟩ := hc.open
 obtain ⟨hat, _⟩ := Wishes.at_ h
 have hat' := Lib.hid hat
 have hv' := Lib.hid hv
 have ho' := Lib.hid ho
 have hd' := Lib.hid hd
 have hkk := Lib.hid hk
 have h512 := tooLarge_len (validT_ok hv).1
 have hharm := Lib.hid (harms_of hv)
 obtain ⟨b1, o1, n, ka, kc, rfl, hb1, _, ex, g0, g1, g2, g3, gk⟩ := hca a ha w (Ext.refl _)
 have hex := Lib.hid ex.out
 clear h hc hca hat hv ho hd hk ex gk
 go_enter Tryz.func74, Tryz.ntmps74
 go_upto_region 1 with (fail)
 refine wp_abs (S := fun W => Hid (Ext w W) ∧ Hid (Blk W w.heap.size 27 #[.slice ta t.length tc])) ?_ ?_
 ·exact ⟨Lib.hid (by exact (by with_reducible repeat' (first | exact Ext.refl _ | assumption | refine Ext.drewN ?_ _ | refine Ext.drew ?_ | refine Ext.alloc ?_ _ | refine Ext.trans ?_ (by with_reducible assumption)))), Lib.hid (blk_new' rfl rfl)⟩
 rintro w1 ⟨hE1, hB1⟩
 have z0 := After.cell (show w1.cell? ⟨w.heap.size, 0, none⟩ = some (.slice ta t.length tc) from hB1.out.cell 0)
 have y0 := After.cell (hE1.out.cell g0)
 have y1 := After.cell (hE1.out.cell g1)
 have y2 := After.cell (hE1.out.cell g2)
 have y3 := After.cell (hE1.out.cell g3)
 clear g0 g1 g2 g3
 (refine wp_region_held [0, 1, 2, 5, 6] [3, 4, 7, 8] [9, 10] (PathCon w.heap.size t c a) (by kernel_rfl) (by kernel_rfl) ?_; simp only [pickL, List.drop]; (repeat (go_big_quiet_step (fail))); with_reducible refine wpQuiet_nil ?_)
 (refine held_quiet [3, 4] [7, 8] (by kernel_rfl) (by kernel_rfl) ?_; simp only [pickL, List.drop]; (repeat (go_big_quiet_step (fail))); with_reducible refine wpQuiet_nil ?_)
 (refine held_call 7 [8] rfl (by kernel_rfl) 92 (#[.agg #[.slice ta t.length tc], .slice (some ⟨b1, o1, none⟩) c.length cc, .int .i64 (a : Int)]) (fun W => by kernel_rfl) rfl ?_ ?_ ?_)
 ·exact fun W W' v e h hk => (h hk).ext e
 ·refine fun W hW _ => (rPath_calls _ _ t c a W (hT.out.ext (hE1.out.trans hW)) (hN.out.ext (hE1.out.trans hW)) (by omega) hl h512 hkk.out).mono ?_
  rintro e W' ⟨v, rfl, hi, hx⟩
  exact ⟨_, rfl, hx, fun _ => hi.base (hE1.out.trans hW).size⟩
 rintro v ⟨Y, hY, hC⟩
 obtain ⟨da, dc, rfl⟩ := (hC rfl).read.form
 rw [pathP_len]
 clear hC hY Y
 simp only [Act.put, List.setIfInBounds_toArray, List.set_cons_succ, List.set_cons_zero]
 (refine held_made 8 [] rfl (by kernel_rfl) (fun g => .pointer (some ⟨g, 0, none⟩)) (.cells #[.int .i64 0, .slice none 0 0, .int .i64 0, .int .i64 0] 48) (fun W => by kernel_rfl) (fun g g2 e => by cases e; rfl) (fun g => rfl) ?_)
 intro gu
 simp only [Act.put, List.setIfInBounds_toArray, List.set_cons_succ, List.set_cons_zero]
 intro W hW hf ht Q0 hQ0
 have hI := Lib.hid ((hf 7).1.2 rfl rfl)
 have h8 := (hf 8).2 rfl
 have b8 : Blk W gu 48 #[.int .i64 0, .slice none 0 0, .int .i64 0, .int .i64 0] := h8.1
 have hgu : w1.heap.size ≤ gu := h8.2
 have c80 : W.cell? ⟨gu, 0, none⟩ = some (.int .i64 0) := b8.cell 0
 have c81 : W.cell? ⟨gu, 1, none⟩ = some (.slice none 0 0) := b8.cell 1
 have c82 : W.cell? ⟨gu, 2, none⟩ = some (.int .i64 0) := b8.cell 2
 have c83 : W.cell? ⟨gu, 3, none⟩ = some (.int .i64 0) := b8.cell 3
 have f80 := b8.frozen 0
 have f81 := b8.frozen 1
 have f82 := b8.frozen 2
 have f83 := b8.frozen 3
 have b8' := Lib.hid b8
 have hW' := Lib.hid hW
 simp only [pickL, List.drop]
 clear hf ht h8 b8 hW z0 y0 y1 y2 y3
 go_upto_region 2 with (fail)
 refine wp_abs (S := fun V => Hid (Ext w V) ∧ Hid (Blk V gu 48 #[.int .i64 n.wish, .slice ka n.kids.length kc, .int .i64 n.clA, .int .i64 n.clB]) ∧ Hid (Ints V (.slice da t.length dc) (pathP t.length c a)) ∧ Hid (Blk V w.heap.size 27 #[.slice ta t.length tc])) ?_ ?_
 ·have hx := (((hW'.out.setCell (p := ⟨gu, 0, none⟩) hgu (.int .i64 n.wish)).setCell (p := ⟨gu, 1, none⟩) hgu (.slice ka n.kids.length kc)).setCell (p := ⟨gu, 2, none⟩) hgu (.int .i64 n.clA)).setCell (p := ⟨gu, 3, none⟩) hgu (.int .i64 n.clB)
  have hB := hB1.out.below hx hB1.out.lt
  have hI' := hI.out
  have k : ∀ {W' : World} {cs : Array Value} (_ : Blk W' gu 48 cs) (j : Nat) (u : Value), IntsO W' w.heap.size (.slice da t.length dc) (pathP t.length c a) → IntsO (W'.setCell ⟨gu, j, none⟩ u) w.heap.size (.slice da t.length dc) (pathP t.length c a) := fun hb j u h => h.keepT (keep_set _ gu j u) (TX.one hb) (by decide)
  exact ⟨Lib.hid (hE1.out.trans hx), Lib.hid ((((b8'.out.set_ 0 _).set_ 1 _).set_ 2 _).set_ 3 _), Lib.hid (k (((b8'.out.set_ 0 _).set_ 1 _).set_ 2 _) 3 _ (k ((b8'.out.set_ 0 _).set_ 1 _) 2 _ (k (b8'.out.set_ 0 _) 1 _ (k b8'.out 0 _ hI')))).read, Lib.hid hB⟩
 rintro V ⟨hE, hB8, hID, hB0⟩
 clear hW' b8' hI hB1 hE1 c80 c81 c82 c83 f80 f81 f82 f83
 have c0 : V.cell? ⟨gu, 0, none⟩ = some (.int .i64 n.wish) := hB8.out.cell 0
 have c1 : V.cell? ⟨gu, 1, none⟩ = some (.slice ka n.kids.length kc) := hB8.out.cell 1
 have c2 : V.cell? ⟨gu, 2, none⟩ = some (.int .i64 n.clA) := hB8.out.cell 2
 have c3 : V.cell? ⟨gu, 3, none⟩ = some (.int .i64 n.clB) := hB8.out.cell 3
 have t0 : V.cell? ⟨w.heap.size, 0, none⟩ = some (.slice ta t.length tc) := hB0.out.cell 0
 obtain ⟨dec, hdec⟩ : ∃ dec, Hid (pathP t.length c a = dec) := ⟨_, rfl⟩
 have hdl : dec.length = t.length := by rw [← hdec.out, pathP_len]
 rw [hdec.out] at hID hd'
 have hR : Hid (rightR t bound c a = rightR t bound c a) := rfl
 have hRw := hR.out
 conv at hRw => rhs; unfold rightR
 simp only [hex.out, Option.getD_some, hdec.out] at hRw
 obtain ⟨nw, nk, nA, nB⟩ := n
 dsimp only at *
 have hID0 := hID.out
 rw [← hdl] at hID0
 obtain ⟨hda, _⟩ := hID0.at_
 have hda' := Lib.hid hda
 clear hID0 hda hR hex hkk
 by_cases w0 : 0 ≤ nw
 ·rw [if_pos w0] at hRw
  have w0' : decide (0 ≤ nw) = true := by simpa using w0
  by_cases w1 : (t.length : Int) ≤ nw
  ·have R : Hid (rightR t bound c a = false) := by show _ = _; rw [hRw, if_pos (Or.inl w1)]
   have w1' : decide ((t.length : Int) ≤ nw) = true := by simpa using w1
   clear hRw
   go_wp2
   go_ret
   rw [R.out]
   exact ⟨rfl, hE.out⟩
  have w1' : decide ((t.length : Int) ≤ nw) = false := by simpa using w1
  by_cases hA : nA = 0
  ·by_cases hB : nB = 0
   ·rw [if_neg (by omega)] at hRw
    obtain ⟨m, rfl⟩ : ∃ m : Nat, nw = m := ⟨nw.toNat, by omega⟩
    have hm : m < t.length := by omega
    obtain ⟨b2, o2, x, pa, pc, oa, oc, e2, hb2, _, ex, _, _, q2, _, _⟩ := hat'.out m hm V hE.out
    obtain ⟨b3, o3, d, rfl, hb3, _, ed, k0⟩ := hda'.out m (by omega) V (Ext.refl _)
    cases e2
    have hdv : decAt dec (m : Int) = d := by simp [decAt, ed.out]
    rw [hdv] at hRw
    simp only [Int.toNat_natCast, ex.out, Option.getD_some] at hRw
    subst hA hB
    have z0 := After.cell c0
    have z1 := After.cell c1
    have zt := After.cell t0
    have zq := After.cell q2
    have zk := After.cell k0
    have hcast : ((nk.length : Int) == (x.opts.length : Int)) = (nk.length == x.opts.length) := by
     rw [Bool.eq_iff_iff]; simp only [beq_iff_eq]; omega
    by_cases hd0 : d < 0
    ·have R : Hid (rightR t bound c a = (nk.length == x.opts.length)) := by show _ = _; rw [hRw, decide_eq_true hd0, Bool.true_and]
     have hd0' : decide (d < 0) = true := by simpa using hd0
     clear hRw hdv
     go_wp2_with fail
     refine wp_region_after (by kernel_rfl) (by kernel_rfl) ?_
     repeat (go_big_quiet_step (fail))
     refine wpQuiet_nil ?_
     rintro _ ⟨z, rfl⟩
     have hz := z.ext
     generalize z.world = Z at hz ⊢
     try rw [hcast]
     clear z0 z1 zt zq zk
     go_wp2
     go_ret
     rw [R.out]
     exact ⟨rfl, hE.out.trans hz⟩
    ·have R : Hid (rightR t bound c a = false) := by show _ = _; rw [hRw, decide_eq_false hd0, Bool.false_and]
     have hd0' : decide (d < 0) = false := by simpa using hd0
     clear hRw hdv
     go_wp2_with fail
     refine wp_region_after (by kernel_rfl) (by kernel_rfl) ?_
     repeat (go_big_quiet_step (fail))
     refine wpQuiet_nil ?_
     rintro _ ⟨z, rfl⟩
     have hz := z.ext
     generalize z.world = Z at hz ⊢
     clear z0 z1 zt zq zk
     go_wp2
     go_ret
     rw [R.out]
     exact ⟨rfl, hE.out.trans hz⟩
   ·have R : Hid (rightR t bound c a = false) := by show _ = _; rw [hRw, if_pos (Or.inr (Or.inr hB))]
    have hB' : (nB != 0) = true := by simpa using hB
    subst hA
    clear hRw
    go_wp2
    go_ret
    rw [R.out]
    exact ⟨rfl, hE.out⟩
  ·have R : Hid (rightR t bound c a = false) := by show _ = _; rw [hRw, if_pos (Or.inr (Or.inl hA))]
   have hA' : (nA != 0) = true := by simpa using hA
   clear hRw
   go_wp2
   go_ret
   rw [R.out]
   exact ⟨rfl, hE.out⟩
 rw [if_neg w0] at hRw
 have w0' : decide (0 ≤ nw) = false := by simpa using w0
 by_cases w1 : nw = -1
 rotate_left
 ·have R : Hid (rightR t bound c a = false) := by show _ = _; rw [hRw, if_pos (Or.inl w1)]
  have w1' : (nw != -1) = true := by simpa using w1
  clear hRw
  go_wp2
  go_ret
  rw [R.out]
  exact ⟨rfl, hE.out⟩
 by_cases hk : 0 < nk.length
 ·have R : Hid (rightR t bound c a = false) := by show _ = _; rw [hRw, if_pos (Or.inr hk)]
  have hk' : decide (0 < (nk.length : Int)) = true := by simpa using hk
  subst w1
  clear hRw
  go_wp2
  go_ret
  rw [R.out]
  exact ⟨rfl, hE.out⟩
 rw [if_neg (by omega)] at hRw
 have hk' : decide (0 < (nk.length : Int)) = false := by simpa using hk
 subst w1
 clear w0 w0'
 by_cases hA : nA = -1
 ·rw [if_pos hA] at hRw
  subst hA
  have hRh := Lib.hid hRw
  clear hRw
  go_wp2_with fail
  go_loopw [11, 12] (fun vn vi wr => ∃ (i : Nat) (h : Int), i ≤ t.length ∧ vi = .int .i64 i ∧ vn = .int .i64 h ∧ 0 ≤ h ∧ h ≤ 1000000 * (i : Int) ∧ Hid (Ext V wr) ∧ Hid (sumD t dec = h + sumD (t.drop i) (dec.drop i))) (fun _ vi _ => t.length - (intOf vi).toNat)
  case atStart => exact ⟨0, 0, by omega, rfl, rfl, by omega, by omega, Lib.hid (Ext.refl _), Lib.hid (by simp)⟩
  case round =>
   obtain ⟨i, hh, hi, rfl, rfl, hh0, hh1, hx, hF⟩ := hrel
   have d3 := hx.out.cell c3
   by_cases h1 : i < t.length
   ·obtain ⟨b2, o2, x, pa, pc, oa, oc, e2, hb2, dx, ex, p0, p1, p2, gp, go⟩ := hat'.out i h1 wr (hE.out.trans hx.out)
    obtain ⟨b3, o3, d, rfl, hb3, dd, ed, k0⟩ := hda'.out i (by omega) wr hx.out
    have dt := hx.out.cell t0
    have hxm := List.mem_of_getElem? ex.out
    have hst := Lib.hid (sumD_step dx.out dd.out)
    by_cases hd0 : d < 0
    ·have hd0' : decide (d < 0) = true := by simpa using hd0
     have hlb := leastB_bd (x := x) (fun o ho => (hharm.out x hxm o ho).1)
     have hcl := Lib.hid (rLeast_calls _ x wr ⟨_, _, rfl, gp, go⟩ (ho'.out x hxm) (fun o ho => (hharm.out x hxm o ho).2))
     obtain ⟨L, hL⟩ : ∃ L, Hid (leastB x = L) := ⟨_, rfl⟩
     rw [hL.out] at hlb hcl
     have R : Hid (sumD t dec = (hh + L) + sumD (t.drop (i + 1)) (dec.drop (i + 1))) := by show _ = _; rw [hF.out, hst.out, if_pos hd0, hL.out]; omega
     have l0 := hlb.1
     have l1 := hlb.2
     clear hF hst gp go hlb hL
     cases e2
     go_wp2_with fail
     refine hcl.out.mono ?_
     rintro e w2 ⟨rfl, hx2⟩
     have hx2' := Lib.hid (hx.out.trans hx2)
     clear hx2 hcl
     go_wp2
     go_roundw
     case rel => exact ⟨i + 1, hh + L, by omega, by go_num, by go_num, by omega, by omega, hx2', R⟩
     case measure => simp [intOf]; omega
    ·have hd0' : decide (d < 0) = false := by simpa using hd0
     obtain ⟨j, rfl⟩ : ∃ j : Nat, d = j := ⟨d.toNat, by omega⟩
     have hjr := (hd'.out.2 i x _ ex.out ed.out).2
     have hjl : j < x.opts.length := by omega
     have gol := go.len
     obtain ⟨_, _, e0, _, _, oat⟩ := go.open
     cases e0
     obtain ⟨b4, o4, q, sa, sc, rfl, hb4, _, eq, r0, _, _, _⟩ := oat j hjl wr (Ext.refl _)
     have hqb := hharm.out x hxm q (List.mem_of_getElem? eq.out)
     have R : Hid (sumD t dec = (hh + q.harm) + sumD (t.drop (i + 1)) (dec.drop (i + 1))) := by
      show _ = _
      rw [hF.out, hst.out, if_neg hd0]
      simp [harmK, eq.out]
      omega
     obtain ⟨hq0, hq1⟩ := hqb
     cases e2
     generalize q.harm = qh at *
     clear hF hst gp go oat eq
     have z1 := After.cell dt
     have z2 := After.cell p2
     have z3 := After.cell k0
     have z4 := After.cell r0
     go_wp2_with fail
     refine wp_region_after (by kernel_rfl) (by kernel_rfl) ?_
     repeat (go_big_quiet_step (fail))
     refine wpQuiet_nil ?_
     rintro _ ⟨z, rfl⟩
     have hz := z.ext
     generalize z.world = Z at hz ⊢
     clear z1 z2 z3 z4
     go_wp2
     go_roundw
     case rel => exact ⟨i + 1, hh + qh, by omega, by go_num, by go_num, by omega, by omega, Lib.hid (hx.out.trans hz), R⟩
     case measure => simp [intOf]; omega
   ·have hS : Hid (sumD t dec = hh) := by show _ = _; rw [hF.out, List.drop_of_length_le (l := t) (by omega)]; simp [sumD]
    have R : Hid (rightR t bound c a = ((nB == 0) && decide (bound ≤ hh))) := by show _ = _; rw [hRh.out, hS.out]
    clear hF hS hRh
    cases hb : (nB == 0) with
    | false =>
     rw [hb, Bool.false_and] at R
     go_wp2
     go_ret
     rw [R.out]
     exact ⟨rfl, hE.out.trans hx.out⟩
    | true =>
     rw [hb, Bool.true_and] at R
     go_wp2
     go_ret
     rw [R.out]
     exact ⟨rfl, hE.out.trans hx.out⟩
 rw [if_neg hA] at hRw
 have hA' : (nA == -1) = false := by simpa using hA
 by_cases a0 : nA < 0
 ·have R : Hid (rightR t bound c a = false) := by show _ = _; rw [hRw, if_pos (by omega)]
  have a0' : decide (nA < 0) = true := by simpa using a0
  clear hRw
  go_wp2
  go_ret
  rw [R.out]
  exact ⟨rfl, hE.out⟩
 have a0' : decide (nA < 0) = false := by simpa using a0
 by_cases a1 : (t.length : Int) ≤ nA
 ·have R : Hid (rightR t bound c a = false) := by show _ = _; rw [hRw, if_pos (by omega)]
  have a1' : decide ((t.length : Int) ≤ nA) = true := by simpa using a1
  clear hRw
  go_wp2
  go_ret
  rw [R.out]
  exact ⟨rfl, hE.out⟩
 have a1' : decide ((t.length : Int) ≤ nA) = false := by simpa using a1
 by_cases b0 : nB < 0
 ·have R : Hid (rightR t bound c a = false) := by show _ = _; rw [hRw, if_pos (by omega)]
  have b0' : decide (nB < 0) = true := by simpa using b0
  clear hRw
  go_wp2
  go_ret
  rw [R.out]
  exact ⟨rfl, hE.out⟩
 have b0' : decide (nB < 0) = false := by simpa using b0
 by_cases b1' : (t.length : Int) ≤ nB
 ·have R : Hid (rightR t bound c a = false) := by show _ = _; rw [hRw, if_pos (by omega)]
  have b1'' : decide ((t.length : Int) ≤ nB) = true := by simpa using b1'
  clear hRw
  go_wp2
  go_ret
  rw [R.out]
  exact ⟨rfl, hE.out⟩
 have b1'' : decide ((t.length : Int) ≤ nB) = false := by simpa using b1'
 rw [if_neg (by omega)] at hRw
 obtain ⟨i, rfl⟩ : ∃ i : Nat, nA = i := ⟨nA.toNat, by omega⟩
 obtain ⟨j, rfl⟩ : ∃ j : Nat, nB = j := ⟨nB.toNat, by omega⟩
 obtain ⟨b3, o3, d, rfl, hb3, _, ed, k0⟩ := hda'.out i (by omega) V (Ext.refl _)
 obtain ⟨b4, o4, e, e4, hb4, _, ee, k1⟩ := hda'.out j (by omega) V (Ext.refl _)
 cases e4
 have hv1 : decAt dec (i : Int) = d := by simp [decAt, ed.out]
 have hv2 : decAt dec (j : Int) = e := by simp [decAt, ee.out]
 rw [hv1, hv2] at hRw
 obtain ⟨z, hz⟩ : ∃ z, Hid (clashT t i d j e = z) := ⟨_, rfl⟩
 have R : Hid (rightR t bound c a = z) := by show _ = _; rw [hRw, hz.out]
 have hcl : Hid (∀ W, Ext V W → Calls Tryz.prog 69 #[.agg #[.slice ta t.length tc], .agg #[.int .i64 (i : Int), .int .i64 d], .agg #[.int .i64 (j : Int), .int .i64 e]] W fun e w' => e = .returned (.bool z) ∧ Ext W w') := fun W hW => by
  have := rMeets_calls _ t i d j e W (hT.out.ext (hE.out.trans hW)) hv'.out
  rwa [hz.out] at this
 have hil : i < t.length := by omega
 have hjl : j < t.length := by omega
 clear hRw hv1 hv2 hz hA a0 a1 b0 b1' ed ee
 have z2 := After.cell c2
 have z3 := After.cell c3
 have zt := After.cell t0
 have zk := After.cell k0
 have zl := After.cell k1
 go_wp2_with fail
 refine wp_region_after (by kernel_rfl) (by kernel_rfl) ?_
 repeat (go_big_quiet_step (exact After.call _ (hcl.out _ (After.ext _))))
 refine wpQuiet_nil ?_
 rintro _ ⟨y, rfl⟩
 have hy := y.ext
 generalize y.world = Y at hy ⊢
 clear z2 z3 zt zk zl
 go_wp2
 go_ret
 rw [R.out]
 exact ⟨rfl, hE.out.trans hy⟩
end Go.Proofs.YtjglidlmpjmjeaaGreatDoor

/- Walks of the reference of plans: Check. -/
namespace Go.Proofs.YtjglidlmpjmjeaaGreatDoor
open Go.RowKit

theorem checkR_invalid {t : List WishD} {bound : Int} {c : List NodeD} (h : validT t ≠ 0) : checkR t bound c = validT t := by unfold checkR; rw [if_pos h]
theorem checkR_form {t : List WishD} {bound : Int} {c : List NodeD} (h : validT t = 0) (hf : formedB c = false) : checkR t bound c = 3 := by unfold checkR; simp [h, hf]
theorem checkR_all {t : List WishD} {bound : Int} {c : List NodeD} (h : validT t = 0) (hf : formedB c = true) (ha : ∀ a, a < c.length → rightR t bound c a = true) : checkR t bound c = 0 := by
 unfold checkR
 simp only [h, hf]
 rw [if_neg (by simp), if_neg (by simp), if_pos]
 rw [List.all_eq_true]
 exact fun a h => ha a (List.mem_range.1 h)
theorem checkR_no {t : List WishD} {bound : Int} {c : List NodeD} (h : validT t = 0) (hf : formedB c = true) {a : Nat} (hl : a < c.length) (ha : rightR t bound c a = false) : checkR t bound c = 11 := by
 unfold checkR
 simp only [h, hf]
 rw [if_neg (by simp), if_neg (by simp), if_neg]
 rw [List.all_eq_true]
 intro h'
 have := h' a (List.mem_range.2 hl)
 rw [ha] at this
 cases this
set_option maxHeartbeats 1600000 in
set_option maxRecDepth 100000 in
theorem rCheckR_calls (tv cv : Value) (t : List WishD) (bound : Int) (c : List NodeD) (w : World) (h : Wishes w tv t) (hc : Nodes w cv c) (ho : ∀ x ∈ t, 0 < x.opts.length) (hk : ∀ n ∈ c, n.kids.length ≤ 17592186044416) :
  Calls Tryz.prog 53 #[.agg #[tv], .int .i64 bound, cv] w fun e w' => e = .returned (.int .i64 (checkR t bound c)) ∧ Ext w w' := by
 have hT := Lib.hid h
 have hN := Lib.hid hc
 obtain ⟨ta, tc, rfl⟩ := h.form
 obtain ⟨ca, cc, rfl, _, hcc, _⟩ := hc.open
 have hval : ∀ z, validT t = z → ∀ W, Ext w W → Calls Tryz.prog 29 #[.agg #[.slice ta t.length tc]] W fun e w' => e = .returned (.int .i64 z) ∧ Ext W w' :=
  fun z hz W hW => hz ▸ rValid_calls _ t W (hT.out.ext hW)
 have bad : ∀ z, validT t = z → (z == 0) = false → Calls Tryz.prog 53 #[.agg #[.slice ta t.length tc], .int .i64 bound, .slice ca c.length cc] w fun e w' => e = .returned (.int .i64 (checkR t bound c)) ∧ Ext w w' := by
  intro z hz hz0
  have R : Hid (checkR t bound c = z) := by
   show _ = _
   rw [checkR_invalid (by rw [hz]; intro e; rw [e] at hz0; cases hz0), hz]
  have hc1 := Lib.hid (hval z hz)
  have hz1 : (z != 0) = true := by simpa using hz0
  clear hval hz h hc
  go_enter Tryz.func53, Tryz.ntmps53
  go_wp2_with fail
  refine (hc1.out _ (by with_reducible repeat' (first | exact Ext.refl _ | assumption | refine Ext.drewN ?_ _ | refine Ext.drew ?_ | refine Ext.alloc ?_ _ | refine Ext.trans ?_ (by with_reducible assumption)))).mono ?_
  rintro e w1 ⟨rfl, hx1⟩
  go_wp2
  go_ret
  rw [R.out]
  exact ⟨rfl, ((Ext.refl _).alloc _).trans hx1⟩
 rcases validT_cases t with hv | hv | hv
 rotate_left
 ·exact bad _ hv rfl
 ·exact bad _ hv rfl
 have hc1 := Lib.hid (hval _ hv)
 have hv' := Lib.hid hv
 have ho' := Lib.hid ho
 have hkk := Lib.hid hk
 clear hval hv bad h hc ho hk
 have hfo : Hid (∀ W, Ext w W → Calls Tryz.prog 73 #[.slice ca c.length cc] W fun e w' => e = .returned (.bool (formedB c)) ∧ Ext W w') :=
  fun W hW => rFormed_calls _ c W (hN.out.ext hW) hkk.out
 go_enter Tryz.func53, Tryz.ntmps53
 go_wp2_with fail
 refine (hc1.out _ (by with_reducible repeat' (first | exact Ext.refl _ | assumption | refine Ext.drewN ?_ _ | refine Ext.drew ?_ | refine Ext.alloc ?_ _ | refine Ext.trans ?_ (by with_reducible assumption)))).mono ?_
 rintro e w1 ⟨rfl, hx1⟩
 have c0 : w1.cell? ⟨w.heap.size, 0, none⟩ = some (.slice ta t.length tc) := hx1.cell (by simp)
 have hxw := Lib.hid (((Ext.refl w).alloc (.cells #[.slice ta t.length tc] 27)).trans hx1)
 clear hx1 hc1
 go_wp2_with fail
 refine (hfo.out _ hxw.out).mono ?_
 rintro e w2 ⟨rfl, hx2⟩
 have hxw2 := Lib.hid (hxw.out.trans hx2)
 have c2 := hx2.cell c0
 clear c0 hx2 hfo hxw
 cases hf : formedB c with
 | false =>
  have R : Hid (checkR t bound c = 3) := Lib.hid (checkR_form hv'.out hf)
  clear hf
  go_wp2
  go_ret
  rw [R.out]
  exact ⟨rfl, hxw2.out⟩
 | true =>
  have hff := Lib.hid hf
  have hcl : c.length ≤ 65536 := (formed_in hf).2.1
  clear hf
  go_wp2_with fail
  go_loopw [8] (fun vi wr => ∃ i : Nat, i ≤ c.length ∧ vi = .int .i64 i ∧ Hid (Ext w2 wr) ∧ Hid (∀ a, a < i → rightR t bound c a = true)) (fun vi _ => c.length - (intOf vi).toNat)
  case atStart => exact ⟨0, by omega, rfl, Lib.hid (Ext.refl _), fun a h => by omega⟩
  case round =>
   obtain ⟨i, hi, rfl, hx, hG⟩ := hrel
   have d0 := hx.out.cell c2
   by_cases h1 : i < c.length
   ·have hd : DecOk t (pathP t.length c i) := pathP_dec (fun j n hj hn => right_fits hn (hG.out j hj)) (by omega)
    have hcl := Lib.hid (rRight_calls _ _ t bound c i wr (hT.out.ext (hxw2.out.trans hx.out)) (hN.out.ext (hxw2.out.trans hx.out)) hv'.out ho'.out h1 hcl hkk.out hd)
    obtain ⟨z, hz⟩ : ∃ z, Hid (rightR t bound c i = z) := ⟨_, rfl⟩
    rw [hz.out] at hcl
    clear hd
    cases z with
    | true =>
     have hG' : Hid (∀ a, a < i + 1 → rightR t bound c a = true) := fun a ha => by
      rcases Nat.lt_succ_iff_lt_or_eq.1 ha with h | rfl
      ·exact hG.out a h
      ·exact hz.out
     clear hG hz
     go_wp2_with fail
     refine hcl.out.mono ?_
     rintro e w3 ⟨rfl, hx3⟩
     have hx3' := Lib.hid (hx.out.trans hx3)
     clear hx3 hcl
     go_wp2
     go_roundw
     case rel => exact ⟨i + 1, by omega, by go_num, hx3', hG'⟩
     case measure => simp [intOf]; omega
    | false =>
     have R : Hid (checkR t bound c = 11) := Lib.hid (checkR_no hv'.out hff.out h1 hz.out)
     clear hG hz
     go_wp2_with fail
     refine hcl.out.mono ?_
     rintro e w3 ⟨rfl, hx3⟩
     clear hcl
     go_wp2
     go_ret
     rw [R.out]
     exact ⟨rfl, (hxw2.out.trans hx.out).trans hx3⟩
   ·have R : Hid (checkR t bound c = 0) := Lib.hid (checkR_all hv'.out hff.out fun a ha => hG.out a (by omega))
    clear hG
    go_wp2
    go_ret
    rw [R.out]
    exact ⟨rfl, hxw2.out.trans hx.out⟩
theorem rCheck_calls (tv cv : Value) (t : List WishD) (bound : Int) (c : List NodeD) (w : World) (h : Wishes w tv t) (hc : Nodes w cv c) (ho : ∀ x ∈ t, 0 < x.opts.length) (hk : ∀ n ∈ c, n.kids.length ≤ 17592186044416) :
  Calls Tryz.prog 53 #[.agg #[tv], .int .i64 bound, cv] w fun e w' => e = .returned (.int .i64 (checkT t bound c)) ∧ Ext w w' := by
 have := rCheckR_calls tv cv t bound c w h hc ho hk
 rwa [checkR_eq] at this
end Go.Proofs.YtjglidlmpjmjeaaGreatDoor
