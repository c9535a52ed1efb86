/- Walks of the reference's earlier and listed; the stands as MadeStand makes them are in order. -/
import Derived.Test.YtepcdhpikpmepaaGreatTSQ
import Derived.Test.YtepcdhpikpmepaaGreatTUQ
import Derived.BigQuiet
namespace Go.Proofs.YtepcdhpikpmepaaGreat
open Go.RowKit Go.Shelf
attribute [local go_sem] Oper.semAt_some

def earlierB (a b : StandD) : Bool := decide (a.meeting < b.meeting) || (decide (a.meeting = b.meeting) && decide (a.room < b.room))
set_option maxHeartbeats 1600000 in
theorem earlier18_calls (va vb : Value) (a b : StandD) (w : World) (ha : StandV w va a) (hb : StandV w vb b) :
  Calls Tryz.prog 15 #[va, vb] w fun e w' => e = .returned (.bool (earlierB a b)) ∧ Ext w w' := by
 obtain ⟨c1, e1, rfl, h1, k1⟩ := ha
 obtain ⟨c2, e2, rfl, h2, k2⟩ := hb
 obtain ⟨a1, n1, rfl, _⟩ := h1.open
 obtain ⟨a2, n2, rfl⟩ := k1.form
 obtain ⟨a3, n3, rfl, _⟩ := h2.open
 obtain ⟨a4, n4, rfl⟩ := k2.form
 clear h1 h2 k1 k2
 obtain ⟨m1, hm1⟩ : ∃ m, a.meeting = m := ⟨_, rfl⟩
 obtain ⟨m2, hm2⟩ : ∃ m, b.meeting = m := ⟨_, rfl⟩
 obtain ⟨r1, hr1⟩ : ∃ m, a.room = m := ⟨_, rfl⟩
 obtain ⟨r2, hr2⟩ : ∃ m, b.room = m := ⟨_, rfl⟩
 obtain ⟨q, hq⟩ : ∃ q, Hid (earlierB a b = q) := ⟨_, rfl⟩
 rw [hq.out]
 unfold earlierB at hq
 rw [hm1, hm2, hr1, hr2] at hq ⊢
 clear hm1 hm2 hr1 hr2
 by_cases q1 : m1 < m2
 ·have d1 : decide (m1 < m2) = true := decide_eq_true q1
  rw [d1] at hq
  obtain rfl : q = true := hq.out.symm
  clear q1
  go_enter Tryz.func15, Tryz.ntmps15
  go_wp2
  go_ret
  exact ⟨rfl, (by with_reducible repeat' (first | exact Ext.refl _ | assumption | refine Ext.drewN ?_ _ | refine Ext.drew ?_ | refine Ext.alloc ?_ _ | refine Ext.trans ?_ (by with_reducible assumption)))⟩
 ·have d1 : decide (m1 < m2) = false := decide_eq_false q1
  by_cases q2 : m1 = m2
  ·have d2 : (m1 == m2) = true := by rw [beq_iff_eq]; exact q2
   rw [d1, decide_eq_true q2] at hq
   obtain ⟨q3, hq3⟩ : ∃ q3, decide (r1 < r2) = q3 := ⟨_, rfl⟩
   rw [hq3] at hq
   obtain rfl : q = q3 := by have := hq.out; simpa using this.symm
   clear q1 q2
   go_enter Tryz.func15, Tryz.ntmps15
   go_wp2
   go_ret
   exact ⟨rfl, (by with_reducible repeat' (first | exact Ext.refl _ | assumption | refine Ext.drewN ?_ _ | refine Ext.drew ?_ | refine Ext.alloc ?_ _ | refine Ext.trans ?_ (by with_reducible assumption)))⟩
  ·have d2 : (m1 == m2) = false := by rw [beq_eq_false_iff_ne]; exact q2
   rw [d1, decide_eq_false q2] at hq
   obtain rfl : q = false := hq.out.symm
   clear q1 q2
   go_enter Tryz.func15, Tryz.ntmps15
   go_wp2
   go_ret
   exact ⟨rfl, (by with_reducible repeat' (first | exact Ext.refl _ | assumption | refine Ext.drewN ?_ _ | refine Ext.drew ?_ | refine Ext.alloc ?_ _ | refine Ext.trans ?_ (by with_reducible assumption)))⟩
/-! ### what MadeStand makes is in order -/
theorem ltI_trans {x y z : InstD} (h1 : ltI x y) (h2 : ltI y z) : ltI x z := by
 obtain ⟨a, b, c⟩ := x
 obtain ⟨a', b', c'⟩ := y
 obtain ⟨a2, b2, c2⟩ := z
 unfold ltI at h1 h2 ⊢
 dsimp only at h1 h2 ⊢
 omega
theorem insI_lt {x : InstD} : ∀ {l : List InstD}, l.Pairwise ltI → (∀ y ∈ l, y ≠ x) → (insI x l).Pairwise ltI
 | [], _, _ => List.pairwise_singleton _ _
 | y :: r, h, hn => by
  obtain ⟨h1, h2⟩ := List.pairwise_cons.1 h
  unfold insI
  split
  ·next hlt =>
   refine List.pairwise_cons.2 ⟨fun z hz => ?_, insI_lt h2 fun z hz => hn z (List.mem_cons_of_mem _ hz)⟩
   rcases List.mem_cons.1 ((insI_perm x r).mem_iff.1 hz) with rfl | hz
   ·exact hlt
   ·exact h1 z hz
  ·next hlt =>
   have hxy : ltI x y := by
    cases Decidable.em (ltI x y) with
    | inl h => exact h
    | inr h => exact absurd (ltI_eq hlt h) (hn y List.mem_cons_self)
   refine List.pairwise_cons.2 ⟨fun z hz => ?_, h⟩
   rcases List.mem_cons.1 hz with rfl | hz
   ·exact hxy
   ·exact ltI_trans hxy (h1 z hz)
theorem insR_lt {x : InstD} {l : List InstD} (h : l.Pairwise ltI) : (insR x l).Pairwise ltI := by
 unfold insR
 split
 ·exact h
 ·next hx => exact insI_lt h fun y hy e => hx (e ▸ hy)
theorem insR_mem {x y : InstD} {l : List InstD} (h : y ∈ insR x l) : y = x ∨ y ∈ l := by
 unfold insR at h
 split at h
 ·exact Or.inr h
 ·exact List.mem_cons.1 ((insI_perm x l).mem_iff.1 h)
theorem extTo_lt (len : Int) (xe : List Int) : ∀ i, (extTo len xe i).Pairwise ltI
 | 0 => List.Pairwise.nil
 | i + 1 => by unfold extTo; exact insR_lt (extTo_lt len xe i)
theorem extX_ok {len e : Int} (h : byteB e) (l0 : 15 ≤ len) (l1 : len ≤ 180) : InstOk (extX len e) := by
 obtain ⟨e0, e1⟩ := h
 unfold InstOk extX
 dsimp only
 omega
theorem extTo_ok {len : Int} {xe : List Int} (h : ∀ y ∈ xe, byteB y) (l0 : 15 ≤ len) (l1 : len ≤ 180) : ∀ i, ∀ y ∈ extTo len xe i, InstOk y
 | 0, _, hy => by cases hy
 | i + 1, y, hy => by
  unfold extTo at hy
  rcases insR_mem hy with rfl | hy
  ·refine extX_ok ?_ l0 l1
   cases hx : xe[i]? with
   | none => exact ⟨by decide, by decide⟩
   | some z => exact h z (List.mem_of_getElem? hx)
  ·exact extTo_ok h l0 l1 i y hy
theorem standOk_of {x : RawS} (h : RawSOk x) : StandOk (standT x) := by
 obtain ⟨l0, l1⟩ := h.length
 obtain ⟨m0, m1⟩ := h.minute
 obtain ⟨r0, r1⟩ := h.room
 have hl0 : 15 ≤ lenS x := by unfold lenS; omega
 have hl1 : lenS x ≤ 180 := by unfold lenS; omega
 have hx := extTo_len (lenS x) x.extra (min x.extra.length 3)
 refine ⟨⟨?_, fun c hc => ?_, by show 1 ≤ lenS x; omega, by show lenS x ≤ 10080; omega, by show (extTo (lenS x) x.extra _).length ≤ 40; omega, extTo_ok h.extra hl0 hl1 _, extTo_lt _ _ _⟩, by show (extTo (lenS x) x.extra _).length ≤ 3; omega, by show 0 ≤ x.room % 3; omega, by show x.room % 3 ≤ 2; omega⟩
 ·show (if (cycL x).length = 0 then [] else [_] : List ClassD).length ≤ 1
  split <;> simp
 ·have hc' : c ∈ (if (cycL x).length = 0 then [] else [⟨perS x, 60 + 15 * (x.minute % 80)⟩] : List ClassD) := hc
  split at hc'
  ·cases hc'
  ·next hn =>
   obtain rfl := List.mem_singleton.1 hc'
   obtain ⟨q0, q1, q2, q3, q4, q5, q6⟩ := perS_ok h
   refine ⟨⟨q0, q1, q2, q3, q4, fun e => hn ?_, q5, q6⟩, by dsimp only; omega, by dsimp only; omega⟩
   have : cycL x = [] := e
   rw [this]; rfl
/-! ### listed -/
def listedB (l : List StandD) (s : StandD) : Bool := l.any fun x => decide (x.meeting = s.meeting) && decide (x.room = s.room)
set_option maxHeartbeats 3200000 in
set_option maxRecDepth 100000 in
theorem listed18_calls (v sv : Value) (l : List StandD) (s : StandD) (w : World) (h : StandsL w v l) (hs : StandV w sv s) :
  Calls Tryz.prog 14 #[v, sv] w fun e w' => e = .returned (.bool (listedB l s)) ∧ Ext w w' := by
 obtain ⟨la, lc, rfl, _, _, hat⟩ := h.open
 have hat' := Lib.hid hat
 obtain ⟨c1, e1, rfl, h1, k1⟩ := hs
 obtain ⟨a1, n1, rfl, _⟩ := h1.open
 obtain ⟨a2, n2, rfl⟩ := k1.form
 clear h hat h1 k1
 obtain ⟨ms, hms⟩ : ∃ m, Hid (s.meeting = m) := ⟨_, rfl⟩
 obtain ⟨rs, hrs⟩ : ∃ m, Hid (s.room = m) := ⟨_, rfl⟩
 obtain ⟨ts, hts⟩ : ∃ m, s.team = m := ⟨_, rfl⟩
 obtain ⟨zs, hzs⟩ : ∃ m, s.size = m := ⟨_, rfl⟩
 obtain ⟨ln, hln⟩ : ∃ m, s.stream.len = m := ⟨_, rfl⟩
 obtain ⟨x1, hx1⟩ : ∃ m, s.stream.classes.length = m := ⟨_, rfl⟩
 obtain ⟨x2, hx2⟩ : ∃ m, s.stream.extra.length = m := ⟨_, rfl⟩
 rw [hms.out, hrs.out, hts, hzs, hln, hx1, hx2]
 clear hts hzs hln hx1 hx2
 go_enter Tryz.func14, Tryz.ntmps14
 go_upto_region 1 with (fail)
 refine wp_abs (S := fun W => Hid (Ext w W) ∧ Hid (Blk W w.heap.size 52 #[.int .i64 ms, .int .i64 rs, .int .i64 ts, .int .i64 zs, .slice a1 x1 n1, .int .i64 ln, .slice a2 x2 n2])) ?_ ?_
 ·exact ⟨Lib.hid (by exact (by with_reducible repeat' (first | exact Ext.refl _ | assumption | refine Ext.drewN ?_ _ | refine Ext.drew ?_ | refine Ext.alloc ?_ _ | refine Ext.trans ?_ (by with_reducible assumption)))), Lib.hid (blk_new' rfl rfl)⟩
 rintro w1 ⟨hE1, hB1⟩
 go_wp2_with fail
 go_loopw [5] (fun v5 wr => ∃ i : Nat, i ≤ l.length ∧ v5 = .int .i64 i ∧ Hid (Ext w wr) ∧ Hid (Blk wr w.heap.size 52 #[.int .i64 ms, .int .i64 rs, .int .i64 ts, .int .i64 zs, .slice a1 x1 n1, .int .i64 ln, .slice a2 x2 n2]) ∧ Hid (listedB (l.take i) s = false)) (fun v5 _ => l.length - (intOf v5).toNat)
 case atStart => exact ⟨0, by omega, rfl, hE1, hB1, Lib.hid rfl⟩
 case round =>
  clear hE1 hB1
  obtain ⟨i, hi, rfl, hE1, hB1, hno⟩ := hrel
  by_cases h1 : i < l.length
  ·have b0 : wr.cell? ⟨w.heap.size, 0, none⟩ = some (.int .i64 ms) := hB1.out.cell 0
   have b1 : wr.cell? ⟨w.heap.size, 1, none⟩ = some (.int .i64 rs) := hB1.out.cell 1
   have bl := hB1.out.lt
   obtain ⟨b, o, x, ca, cc, ea, ec, rfl, hb, ex, g0, g1, g2, g3, g4, g5, g6, hcl, hin⟩ := hat'.out i h1 _ hE1.out
   have hst : Hid (listedB (l.take (i + 1)) s = (listedB (l.take i) s || (decide (x.meeting = ms) && decide (x.room = rs)))) := Lib.hid (by
    unfold listedB
    rw [List.take_add_one, ex.out, List.any_append, hms.out, hrs.out]
    simp)
   have hwh : Hid ((decide (x.meeting = ms) && decide (x.room = rs)) = true → listedB l s = true) := Lib.hid (fun h => by
    unfold listedB
    rw [List.any_eq_true]
    exact ⟨x, List.mem_of_getElem? ex.out, by rw [hms.out, hrs.out]; exact h⟩)
   obtain ⟨xm, hxm⟩ : ∃ m, x.meeting = m := ⟨_, rfl⟩
   obtain ⟨xr, hxr⟩ : ∃ m, x.room = m := ⟨_, rfl⟩
   rw [hxm] at g0 hst hwh
   rw [hxr] at g1 hst hwh
   clear g2 g3 g4 g5 g6 hcl hin ex hxm hxr
   by_cases q1 : xm = ms
   ·have d1 : (xm == ms) = true := by rw [beq_iff_eq]; exact q1
    rw [decide_eq_true q1] at hst hwh
    by_cases q2 : xr = rs
    ·have d2 : (xr == rs) = true := by rw [beq_iff_eq]; exact q2
     rw [decide_eq_true q2] at hst hwh
     have hR : Hid (listedB l s = true) := Lib.hid (hwh.out rfl)
     clear hst hwh q1 q2
     go_upto_region 4 with (fail)
     go_quiet (fail)
     go_wp2
     go_ret
     exact ⟨by rw [hR.out]; rfl, hE1.out.drewN _⟩
    ·have d2 : (xr == rs) = false := by rw [beq_eq_false_iff_ne]; exact q2
     rw [decide_eq_false q2] at hst hwh
     have hN : Hid (listedB (l.take (i + 1)) s = false) := Lib.hid (by rw [hst.out, hno.out]; rfl)
     clear hst hwh q1 q2
     go_upto_region 4 with (fail)
     go_quiet (fail)
     go_wp2
     go_roundw
     case rel => exact ⟨i + 1, by omega, by go_num, Lib.hid (hE1.out.drewN _), Lib.hid (hB1.out.drewN _), hN⟩
     case measure => simp [intOf]; omega
   ·have d1 : (xm == ms) = false := by rw [beq_eq_false_iff_ne]; exact q1
    rw [decide_eq_false q1] at hst hwh
    have hN : Hid (listedB (l.take (i + 1)) s = false) := Lib.hid (by rw [hst.out, hno.out]; rfl)
    clear hst hwh q1
    go_upto_region 4 with (fail)
    go_quiet (fail)
    go_wp2
    go_roundw
    case rel => exact ⟨i + 1, by omega, by go_num, Lib.hid (hE1.out.drewN _), Lib.hid (hB1.out.drewN _), hN⟩
    case measure => simp [intOf]; omega
  ·have hR : Hid (listedB l s = false) := Lib.hid (by
    have := hno.out
    rwa [List.take_of_length_le (by omega)] at this)
   go_wp2
   go_ret
   exact ⟨by rw [hR.out]; rfl, hE1.out⟩
end Go.Proofs.YtepcdhpikpmepaaGreat
