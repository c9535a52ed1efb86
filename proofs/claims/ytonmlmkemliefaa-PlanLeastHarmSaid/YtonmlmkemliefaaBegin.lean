import Derived.Test.YtonmlmkemliefaaGrowE
import Derived.Test.YtonmlmkemliefaaQuietTail
import Derived.Test.YtonmlmkemliefaaMake
namespace Go.Proofs.Ytonmlmkemliefaa
open Go.RowKit

/-- a write to a rest -/
theorem Srch.setRest {Z : Nat → Prop} {w0 w : World} {S Pk Rb : Nat} {tv nv fv : Value} {t : List WishD} {bound over : Int} {rest pick : List Int} {nodes : List NodeD} {found : Option (List Int × Int)}
    (h : Srch Z w0 w S Pk Rb tv nv fv t bound rest pick nodes found over) (d : Nat) (i : Int) :
    Srch Z w0 (w.setCell ⟨Rb, d, none⟩ (.int .i64 i)) S Pk Rb tv nv fv t bound (rest.set d i) pick nodes found over := by
  have k := keep_set w Rb d (.int .i64 i)
  have hi : IntFar w Z (fun k => k = Rb) := fun g hg => Or.inl (by rw [hg]; exact h.zR)
  have hp : PlanFar w (fun k => k = Rb) := fun g hg cs hc => by rw [hg] at hc; have := blk_type hc h.rb; revert this; decide
  have hpk := h.rb.set_ d (.int .i64 i)
  have e : (rest.map (Value.int .i64)).toArray.setIfInBounds d (.int .i64 i) = ((rest.set d i).map (Value.int .i64)).toArray := by simp [List.map_set]
  rw [e] at hpk
  obtain ⟨xs, o1, o2⟩ := h.owns
  refine ⟨h.ext.keep k (by rintro i hi rfl; have := h.bR; omega), h.wishes, h.bS, h.bP, h.bR, ?_, k.blk h.pk (fun e => h.ne e.symm), hpk, h.ne, h.zP, h.zR,
    ⟨xs, k.owns o1 (fun g hg e => SX_rest h (Or.inr (Or.inr (by rw [hg, e])))), o2.keep k hi⟩, h.fnd.keep k hi hp⟩
  rw [List.length_set]
  exact k.blk h.blk (fun e => SX_rest h (Or.inl e.symm))
theorem blk_new' {w : World} {g : Nat} {t : TypeId} {cs : Array Value} {o : Obj} (h : g = w.heap.size) (ho : o = .cells cs t) : Blk (w.alloc o) g t cs := by
  subst h ho; exact Blk.new w t cs
/-- what 'begin' hands out -/
def BG (w W : World) (S Pk Rb : Nat) (tv : Value) (t : List WishD) (bound : Int) (rest : List Int) : Prop :=
  Srch (fun g => g = Rb ∨ g = Pk) w W S Pk Rb tv (.slice none 0 0) (.pointer none) t bound rest (zerosL t.length) [] none 9223372036854775807
theorem BG.base {w w1 W : World} {S Pk Rb : Nat} {tv : Value} {t : List WishD} {bound : Int} {rest : List Int} (h : BG w1 W S Pk Rb tv t bound rest) (hx : Ext w w1) (hw : Wishes w tv t) : BG w W S Pk Rb tv t bound rest := by
  have hs := hx.size
  have h' : Srch _ _ _ _ _ _ _ _ _ _ _ _ _ _ _ _ := h
  refine ⟨hx.trans h'.ext, hw, ?_, ?_, ?_, h'.blk, h'.pk, h'.rb, h'.ne, Or.inr rfl, Or.inl rfl, ⟨[], World.ownsRow_nil _ _ _ _, rfl⟩, rfl⟩
  · have := h'.bS; omega
  · have := h'.bP; omega
  · have := h'.bR; omega
/-- the rests from k on are right -/
def RestFrom (t : List WishD) (rest : List Int) (k : Nat) : Prop := rest.length = t.length + 1 ∧ ∀ d, k ≤ d → d ≤ t.length → rest[d]? = some (leastSum (t.drop d))
theorem RestFrom.start (t : List WishD) : RestFrom t (zerosL (t.length + 1)) t.length := by
  refine ⟨zerosL_len _, fun d h1 h2 => ?_⟩
  have : d = t.length := by omega
  subst this
  simp [zerosL, leastSum]
theorem RestFrom.step {t : List WishD} {rest : List Int} {k : Nat} (h : RestFrom t rest (k + 1)) {x : WishD} (hx : t[k]? = some x) : RestFrom t (rest.set k (leastSum (t.drop (k + 1)) + leastB x)) k := by
  have hk : k < t.length := (List.getElem?_eq_some_iff.1 hx).1
  refine ⟨by rw [List.length_set]; exact h.1, fun d h1 h2 => ?_⟩
  by_cases hd : d = k
  · subst hd
    obtain ⟨y, e, hy⟩ := drop_cons t d hk
    rw [hx] at hy; cases hy
    rw [List.getElem?_set_self (by rw [h.1]; omega), e]
    rfl
  · rw [List.getElem?_set_ne (by omega)]
    exact h.2 d (by omega) h2


set_option maxHeartbeats 1600000 in
set_option maxRecDepth 100000 in
theorem begin_calls (tv : Value) (t : List WishD) (bound : Int) (w : World) (h : Wishes w tv t) (hl : t.length ≤ 512) (hh0' : ∀ x ∈ t, ∀ o ∈ x.opts, 0 ≤ o.harm) :
    Calls Try.prog 36 #[.agg #[tv], .int .i64 bound] w fun e w' => ∃ (S Pk Rb : Nat) (rest : List Int), e = .returned (.pointer (some ⟨S, 0, none⟩)) ∧ BG w w' S Pk Rb tv t bound rest ∧ RestFrom t rest 0 := by
  have hh := Lib.hid h
  have hh0 := Lib.hid hh0'
  obtain ⟨ta, tc, rfl, hn, hc, hat⟩ := h.open
  clear hh0'
  have hmk1 := run_make_ints (t.length + 1) (by omega)
  rw [show ((t.length + 1 : Nat) : Int) = (t.length : Int) + 1 from by omega] at hmk1
  have hmk2 := run_make_ints t.length (by omega)
  go_enter Try.func36, Try.ntmps36
  go_wp2_with fail
  refine wp_abs (S := fun W => Ext w W ∧ W.cell? ⟨w.heap.size, 0, none⟩ = some (.slice ta t.length tc)) ⟨(by repeat' (first | (with_reducible exact Ext.refl _) | (with_reducible assumption) | (with_reducible refine Ext.drewN ?_ _) | (with_reducible refine Ext.drew ?_) | (with_reducible refine Ext.alloc ?_ _) | (with_reducible refine Ext.trans ?_ (by with_reducible assumption)))), by simp⟩ ?_
  rintro W1 ⟨hx1, c0⟩
  have h1w : Hid (Wishes W1 (.slice ta t.length tc) t) := h.ext hx1
  have hsz : w.heap.size < W1.heap.size := World.block_lt_of_cell? _ _ c0
  have hw : IntKind.i64.wrap ((t.length : Int) + 1) = (t.length : Int) + 1 := IntWalk.i64_in _ (by omega)
  go_region
  all_goals go_goals
  · skip
    go_step; go_step
    refine wp_abs (S := fun W => Hid (BG W1 W (W1.heap.size + 1 + 1) (W1.heap.size+1) W1.heap.size (.slice ta t.length tc) t bound (zerosL (t.length + 1)))) ?_ ?_
    · refine ⟨?_, h1w, by omega, by omega, by omega, ?_, ?_, ?_, by omega, Or.inr rfl, Or.inl rfl, ⟨[], World.ownsRow_nil _ _ _ _, rfl⟩, rfl⟩
      · exact (by repeat' (first | (with_reducible exact Ext.refl _) | (with_reducible assumption) | (with_reducible refine Ext.drewN ?_ _) | (with_reducible refine Ext.drew ?_) | (with_reducible refine Ext.alloc ?_ _) | (with_reducible refine Ext.trans ?_ (by with_reducible assumption))))
      · rw [zerosL_len, zerosL_len]; exact (blk_new' (by simp only [World.size_alloc]) rfl).drew
      · first | exact ((blk_new' (by simp only [World.size_alloc]) rfl).alloc _).drew | exact (((blk_new' rfl rfl).alloc _).alloc _).drew
      · first | exact ((blk_new' (by simp only [World.size_alloc]) rfl).alloc _).drew | exact (((blk_new' rfl rfl).alloc _).alloc _).drew
    intro W2 hB2
    generalize W1.heap.size + 1 + 1 = S at hB2 ⊢
    generalize W1.heap.size + 1 = Pk at hB2 ⊢
    generalize W1.heap.size = Rb at hB2 ⊢
    have c0' : W2.cell? ⟨w.heap.size, 0, none⟩ = some (.slice ta t.length tc) := hB2.out.ext.cell c0
    go_wp2
    go_loopw [6] (fun vi wr => ∃ (k : Nat) (rest : List Int), k ≤ t.length ∧ vi = .int .i64 ((k : Int) - 1) ∧ Hid (BG W1 wr S Pk Rb (.slice ta t.length tc) t bound rest) ∧ Hid (RestFrom t rest k)) (fun vi _ => (intOf vi + 1).toNat)
    case atStart => exact ⟨t.length, _, Nat.le_refl _, rfl, hB2, RestFrom.start t⟩
    case round =>
      obtain ⟨k, rest, hk, rfl, hB, hR⟩ := hrel
      rcases k with _ | k
      · rw [show ((0 : Nat) : Int) - 1 = -1 from rfl]
        go_wp2
        go_ret
        exact ⟨S, Pk, Rb, rest, rfl, hB.out.base hx1 hh.out, hR.out⟩
      · rw [show ((k + 1 : Nat) : Int) - 1 = (k : Int) from by omega]
        obtain ⟨b1, o1, x, pa, pc, oa, oc, rfl, hb1, _, ex, g1, g2, g3, gp, go⟩ := hat k (by omega) wr (hx1.trans hB.out.ext)
        have q1 := After.cell g1
        have q2 := After.cell g2
        have q3 := After.cell g3
        have q0 := After.cell (hB.out.ext.cell c0)
        have qs := After.cell (show wr.cell? ⟨S, 2, none⟩ = some (.slice (some ⟨Rb, 0, none⟩) rest.length rest.length) from hB.out.blk.cell 2)
        have hrr := hR.out.2 (k + 1) (Nat.le_refl _) hk
        have hrl := hR.out.1
        have qr : ∀ y : After wr, y.world.cell? ⟨Rb, k + 1, none⟩ = some (.int .i64 (leastSum (t.drop (k + 1)))) := After.cell (by
          have := hB.out.rb.cell (k + 1)
          rw [this]
          simp [hrr])
        have hls := leastSum_bd (t.drop (k + 1)) (fun x hx o ho => hh0.out x (List.mem_of_mem_drop hx) o ho)
        have hl1 := leastSum_bd [x] (fun y hy o ho => by simp at hy; subst hy; exact hh0.out y (List.mem_of_getElem? ex.out) o ho)
        have hls0 := hls.1
        have hls1 : leastSum (t.drop (k + 1)) ≤ 512000000 := by have := hls.2; simp at this; omega
        have hl0 : 0 ≤ leastB x := by have := hl1.1; simpa [leastSum] using this
        have hl2 : leastB x ≤ 1000000 := by have := hl1.2; simpa [leastSum] using this
        have hcl : Hid (∀ W, Ext wr W → Calls Try.prog 42 #[.agg #[.int .i64 x.meeting, .slice pa x.people.length pc, .slice oa x.opts.length oc]] W
              fun e w' => e = .returned (.int .i64 (leastB x)) ∧ Ext W w') := fun W hW => least_calls _ x W ⟨_, _, rfl, gp.ext hW, go.ext hW⟩
        have hkt : k < t.length := by omega
        have hR' := Lib.hid (hR.out.step ex.out)
        clear hrr hls hl1 gp go g1 g2 g3
        generalize leastSum (t.drop (k + 1)) = ls at *
        generalize leastB x = lx at *
        go_wp2_with fail
        refine wp_region_tail 20 (by kernel_rfl) (by kernel_rfl) ?_
        simp only [List.take_succ_cons, List.take_zero, List.drop_succ_cons, List.drop_zero]
        repeat (go_big_quiet_step ((exact After.call _ (hcl.out _ (After.ext _)))))
        refine wpQuiet_nil ?_
        rintro _ ⟨y, rfl⟩
        have hB' := Lib.hid (hB.out.toExt y.ext)
        have m1 : y.world.cell? ⟨Rb, k, none⟩ = some (.int .i64 (rest[k]?.getD 0)) := by
          have := hB'.out.rb.cell k
          rw [this]
          simp [show k < rest.length by omega]
        have m2 : y.world.frozen? ⟨Rb, k, none⟩ = false := hB'.out.rb.frozen _
        have hBn := Lib.hid (hB'.out.setRest k (ls + lx))
        generalize y.world = W3 at *
        generalize rest[k]?.getD 0 = old at m1
        go_wp2
        go_roundw
        case rel => exact ⟨k, _, by omega, by go_num, hBn, hR'⟩
        case measure => simp [intOf]
  · skip
    go_step; go_step
    refine wp_abs (S := fun W => Hid (BG W1 W (W1.heap.size + 1 + 1) W1.heap.size (W1.heap.size+1) (.slice ta t.length tc) t bound (zerosL (t.length + 1)))) ?_ ?_
    · refine ⟨?_, h1w, by omega, by omega, by omega, ?_, ?_, ?_, by omega, Or.inr rfl, Or.inl rfl, ⟨[], World.ownsRow_nil _ _ _ _, rfl⟩, rfl⟩
      · exact (by repeat' (first | (with_reducible exact Ext.refl _) | (with_reducible assumption) | (with_reducible refine Ext.drewN ?_ _) | (with_reducible refine Ext.drew ?_) | (with_reducible refine Ext.alloc ?_ _) | (with_reducible refine Ext.trans ?_ (by with_reducible assumption))))
      · rw [zerosL_len, zerosL_len]; exact (blk_new' (by simp only [World.size_alloc]) rfl).drew
      · first | exact ((blk_new' (by simp only [World.size_alloc]) rfl).alloc _).drew | exact (((blk_new' rfl rfl).alloc _).alloc _).drew
      · first | exact ((blk_new' (by simp only [World.size_alloc]) rfl).alloc _).drew | exact (((blk_new' rfl rfl).alloc _).alloc _).drew
    intro W2 hB2
    generalize W1.heap.size + 1 + 1 = S at hB2 ⊢
    generalize W1.heap.size + 1 = Rb at hB2 ⊢
    generalize W1.heap.size = Pk at hB2 ⊢
    have c0' : W2.cell? ⟨w.heap.size, 0, none⟩ = some (.slice ta t.length tc) := hB2.out.ext.cell c0
    go_wp2
    go_loopw [6] (fun vi wr => ∃ (k : Nat) (rest : List Int), k ≤ t.length ∧ vi = .int .i64 ((k : Int) - 1) ∧ Hid (BG W1 wr S Pk Rb (.slice ta t.length tc) t bound rest) ∧ Hid (RestFrom t rest k)) (fun vi _ => (intOf vi + 1).toNat)
    case atStart => exact ⟨t.length, _, Nat.le_refl _, rfl, hB2, RestFrom.start t⟩
    case round =>
      obtain ⟨k, rest, hk, rfl, hB, hR⟩ := hrel
      rcases k with _ | k
      · rw [show ((0 : Nat) : Int) - 1 = -1 from rfl]
        go_wp2
        go_ret
        exact ⟨S, Pk, Rb, rest, rfl, hB.out.base hx1 hh.out, hR.out⟩
      · rw [show ((k + 1 : Nat) : Int) - 1 = (k : Int) from by omega]
        obtain ⟨b1, o1, x, pa, pc, oa, oc, rfl, hb1, _, ex, g1, g2, g3, gp, go⟩ := hat k (by omega) wr (hx1.trans hB.out.ext)
        have q1 := After.cell g1
        have q2 := After.cell g2
        have q3 := After.cell g3
        have q0 := After.cell (hB.out.ext.cell c0)
        have qs := After.cell (show wr.cell? ⟨S, 2, none⟩ = some (.slice (some ⟨Rb, 0, none⟩) rest.length rest.length) from hB.out.blk.cell 2)
        have hrr := hR.out.2 (k + 1) (Nat.le_refl _) hk
        have hrl := hR.out.1
        have qr : ∀ y : After wr, y.world.cell? ⟨Rb, k + 1, none⟩ = some (.int .i64 (leastSum (t.drop (k + 1)))) := After.cell (by
          have := hB.out.rb.cell (k + 1)
          rw [this]
          simp [hrr])
        have hls := leastSum_bd (t.drop (k + 1)) (fun x hx o ho => hh0.out x (List.mem_of_mem_drop hx) o ho)
        have hl1 := leastSum_bd [x] (fun y hy o ho => by simp at hy; subst hy; exact hh0.out y (List.mem_of_getElem? ex.out) o ho)
        have hls0 := hls.1
        have hls1 : leastSum (t.drop (k + 1)) ≤ 512000000 := by have := hls.2; simp at this; omega
        have hl0 : 0 ≤ leastB x := by have := hl1.1; simpa [leastSum] using this
        have hl2 : leastB x ≤ 1000000 := by have := hl1.2; simpa [leastSum] using this
        have hcl : Hid (∀ W, Ext wr W → Calls Try.prog 42 #[.agg #[.int .i64 x.meeting, .slice pa x.people.length pc, .slice oa x.opts.length oc]] W
              fun e w' => e = .returned (.int .i64 (leastB x)) ∧ Ext W w') := fun W hW => least_calls _ x W ⟨_, _, rfl, gp.ext hW, go.ext hW⟩
        have hkt : k < t.length := by omega
        have hR' := Lib.hid (hR.out.step ex.out)
        clear hrr hls hl1 gp go g1 g2 g3
        generalize leastSum (t.drop (k + 1)) = ls at *
        generalize leastB x = lx at *
        go_wp2_with fail
        refine wp_region_tail 20 (by kernel_rfl) (by kernel_rfl) ?_
        simp only [List.take_succ_cons, List.take_zero, List.drop_succ_cons, List.drop_zero]
        repeat (go_big_quiet_step ((exact After.call _ (hcl.out _ (After.ext _)))))
        refine wpQuiet_nil ?_
        rintro _ ⟨y, rfl⟩
        have hB' := Lib.hid (hB.out.toExt y.ext)
        have m1 : y.world.cell? ⟨Rb, k, none⟩ = some (.int .i64 (rest[k]?.getD 0)) := by
          have := hB'.out.rb.cell k
          rw [this]
          simp [show k < rest.length by omega]
        have m2 : y.world.frozen? ⟨Rb, k, none⟩ = false := hB'.out.rb.frozen _
        have hBn := Lib.hid (hB'.out.setRest k (ls + lx))
        generalize y.world = W3 at *
        generalize rest[k]?.getD 0 = old at m1
        go_wp2
        go_roundw
        case rel => exact ⟨k, _, by omega, by go_num, hBn, hR'⟩
        case measure => simp [intOf]
end Go.Proofs.Ytonmlmkemliefaa
