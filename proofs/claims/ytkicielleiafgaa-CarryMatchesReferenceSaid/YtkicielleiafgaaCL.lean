/- Walks for package carry's Check: slices.Equal, the moves of each wish in memory; a drawn region within a round. -/
import Derived.Test.YtkicielleiafgaaCK
namespace Go.Proofs.Ytkicielleiafgaa
open Go.RowKit Go.Shelf

/-! ### slices.Equal -/
theorem beq_drop {a b : List Int} {i : Nat} {x y : Int} (hx : a[i]? = some x) (hy : b[i]? = some y) (h : a.take i = b.take i) : (a.take (i + 1) = b.take (i + 1)) ↔ x = y := by
  rw [take_step hx, take_step hy, h]
  simp
set_option maxHeartbeats 800000 in
theorem equal_calls (va vb : Value) (a b : List Int) (w : World) (ha : Ints w va a) (hb : Ints w vb b) :
    Calls Try.prog 53 #[va, vb] w fun e w' => e = .returned (.bool (decide (a = b))) ∧ Ext w w' := by
  obtain ⟨aa, ac, rfl, han, hac, aat⟩ := ha.open
  obtain ⟨ba, bc, rfl, hbn, hbc, bat⟩ := hb.open
  have aat' := Lib.hid aat
  have bat' := Lib.hid bat
  clear ha hb aat bat
  by_cases hl : a.length = b.length
  · have d0 : ((a.length : Int) != b.length) = false := by simp [hl]
    have hl' := Lib.hid hl
    have l1 : a.length ≤ b.length := Nat.le_of_eq hl
    have l2 : b.length ≤ a.length := Nat.le_of_eq hl.symm
    clear hl
    go_enter Try.func53, Try.ntmps53
    go_wp2_with fail
    go_loopw [13] (fun vi wr => ∃ i : Nat, i ≤ a.length ∧ vi = .int .i64 i ∧ Hid (Ext w wr) ∧ Hid (a.take i = b.take i)) (fun vi _ => a.length - (intOf vi).toNat)
    case atStart => exact ⟨0, by omega, rfl, Lib.hid (Ext.refl _), Lib.hid (by simp)⟩
    case round =>
      obtain ⟨i, hi, rfl, hx, hF⟩ := hrel
      by_cases h1 : i < a.length
      · obtain ⟨b1, o1, x, rfl, hb1, _, ex, g0⟩ := aat'.out i h1 wr hx.out
        obtain ⟨b2, o2, y, rfl, hb2, _, ey, g1⟩ := bat'.out i (by omega) wr hx.out
        have hstep := Lib.hid (beq_drop ex.out ey.out hF.out)
        clear ex ey
        by_cases hxy : x = y
        · have d1 : (x != y) = false := by simp [hxy]
          have R : Hid (a.take (i + 1) = b.take (i + 1)) := hstep.out.2 hxy
          clear hxy hstep
          go_upto_region 6 with (fail)
          have z1 := After.cell g0
          have z2 := After.cell g1
          clear g0 g1
          refine wp_region_after (by kernel_rfl) (by kernel_rfl) ?_
          repeat (go_big_quiet_step (fail))
          refine wpQuiet_nil ?_
          rintro _ ⟨u, rfl⟩
          have hu := Lib.hid (hx.out.trans u.ext)
          generalize u.world = W at hu ⊢
          clear z1 z2
          go_wp2
          go_roundw
          case rel => exact ⟨i + 1, by omega, by go_num, hu, R⟩
          case measure => simp [intOf]; omega
        · have d1 : (x != y) = true := by simp [hxy]
          have R : Hid (decide (a = b) = false) := decide_eq_false (fun e => hxy (hstep.out.1 (by rw [e])))
          clear hxy hstep
          go_upto_region 6 with (fail)
          have z1 := After.cell g0
          have z2 := After.cell g1
          clear g0 g1
          refine wp_region_after (by kernel_rfl) (by kernel_rfl) ?_
          repeat (go_big_quiet_step (fail))
          refine wpQuiet_nil ?_
          rintro _ ⟨u, rfl⟩
          have hu := Lib.hid (hx.out.trans u.ext)
          generalize u.world = W at hu ⊢
          clear z1 z2
          go_wp2
          go_ret
          rw [R.out]
          exact ⟨rfl, hu.out⟩
      · have R : Hid (decide (a = b) = true) := decide_eq_true (by
          have := hF.out
          rwa [List.take_of_length_le (by omega), List.take_of_length_le (by omega)] at this)
        go_wp2
        go_ret
        rw [R.out]
        exact ⟨rfl, hx.out⟩
  · have d0 : ((a.length : Int) != b.length) = true := by simp; omega
    have R : Hid (decide (a = b) = false) := decide_eq_false (fun e => hl (by rw [e]))
    clear hl
    go_enter Try.func53, Try.ntmps53
    go_wp2
    go_ret
    rw [R.out]
    exact ⟨rfl, Ext.refl _⟩

/-! ### a drawn region in a round -/
theorem opIn_round {l n : Nat} {P : Program} {o : Oper} {a : Act} {w : World} {K : Act → World → Prop} {Q : Exit → Act → World → Prop} (hnd : ∀ c, o.op ≠ .defer c) (h : o.wp P a w K Q) : o.wpIn (Fence.wide.inRound l) n P a w K Q := by
  refine ⟨fun _ _ => trivial, ?_⟩
  have e : o.semAt (Fence.wide.inRound l).round a.eval = execOp a.eval o := Oper.semAt_some l a.eval o hnd
  rw [e]
  unfold Oper.wp at h
  generalize (execOp a.eval o).run P w = r at *
  cases r with
  | halt x w' =>
    cases x <;> first | exact h | exact h.elim
  | ok nx w' =>
    cases nx with
    | value v => exact h
    | skip => exact h
    | defer d => exact h
    | enter f args => exact ⟨fun x => (by cases x), CallsIn.inRound l (callsIn_wide.2 h)⟩
    | row r args => 
      refine ⟨fun x => (by cases x), fun c cs _ => ?_⟩
      obtain ⟨v, w2, x, y⟩ := h c cs
      exact ⟨v, w2, x, stepsIn_wide.2 y⟩
    | round => exact h.elim
    | _ => exact h.elim
def noDeferB (l : List Oper) : Bool := l.all fun o => match o.op with | .defer _ => false | _ => true
theorem wpAnyIn_round {l n : Nat} {P : Program} {ops : List Oper} {md : Region.Mode} {Q : Exit → Act → World → Prop} (hQ : ¬ LetsOut Q) (hnd : noDeferB ops = true) :
    ∀ (fuel : Nat) (listed : Array Bool) (a : Act) (w : World), wpAny P md ops.toArray Q fuel listed a w → wpAnyIn (Fence.wide.inRound l) n P md ops.toArray Q fuel listed a w
  | 0, _, _, _, h => h
  | fuel + 1, listed, a, w, h => by
    refine ⟨h.1, fun i hi => ?_⟩
    have h2 := h.2 i hi
    unfold wpOp at h2
    unfold wpOpIn
    cases ho : ops.toArray[i]? with
    | none => rw [ho] at h2; exact wpAnyIn_round hQ hnd fuel _ _ _ h2
    | some o =>
      rw [ho] at h2
      dsimp only at h2 ⊢
      have hdf : ∀ c, o.op ≠ .defer c := fun c e => by
        simp only [noDeferB, List.all_eq_true] at hnd
        have hm : o ∈ ops := by
          have : ops[i]? = some o := by simpa using ho
          exact List.mem_of_getElem? this
        have := hnd o hm
        rw [e] at this
        cases this
      split
      · rename_i hw
        rw [if_pos hw] at h2
        rcases h2 with h2 | h2
        · exact opIn_round hdf (Oper.wp_mono (fun a w x => wpAnyIn_round hQ hnd fuel _ a w x) h2)
        · exact absurd h2.2 hQ
      · rename_i hw
        rw [if_neg hw] at h2
        exact ⟨fun _ _ => trivial, wpAnyIn_round hQ hnd fuel _ _ _ h2⟩
theorem wpIn_region_after {l' n id : Nat} {P : Program} {Q : Exit → Act → World → Prop} {a : Act} {w : World} {l : List Oper} (hm : P.follows .mixedOrders = true) (hB : Region.lexB .any l.toArray = true) (hnd : noDeferB l = true) (hQ : ¬ LetsOut Q)
    (h : wpQuiet P l.toArray (fun W => ∃ x : After w, W = x.world) (fun a' => ∀ W, (∃ x : After w, W = x.world) → Q .normal a' W) l a) : (Code.region id l.toArray true).wpIn (Fence.wide.inRound l') n P Q a w := by
  simp only [Region.lexB, Bool.and_eq_true] at hB
  refine wpIn_region_any hm (wpAnyIn_round hQ hnd _ _ _ _ (wpAny_of_quiet (C := fun W => ∃ x : After w, W = x.world) (Q := fun a' => ∀ w', (∃ x : After w, w' = x.world) → Q .normal a' w') (fun _ w' hw' h => h w' hw') _ _ _ _ ⟨⟨w.drew, (Ext.refl w).drew⟩, rfl⟩ ?_))
  have := wpAnyQ_lex (C := fun W => ∃ x : After w, W = x.world) (md := .any) hB.1 l 0 (Array.replicate l.toArray.size false) a (by simp) (by simpa using hB.2) h
  simpa using this
end Go.Proofs.Ytkicielleiafgaa
