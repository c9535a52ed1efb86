/- Merged parts: QuietTail, Make, Begin, BestA, BestB, BestC. -/
import Derived.Test.YtepcdhpikpmepaaGreatPDQ
import Derived.StillTail
import Derived.Laws.MakeOwn
import Derived.Test.YtepcdhpikpmepaaGreatPFQ
import Derived.Defers
import Derived.Recover
/- A region that draws its order: all operations but the last few read or call, one value whatever the world behind w; the last ones come in one forced order. After the library's own two theorems on such regions (one world; no tail), for a class of worlds. -/
namespace Go.Proofs.YtepcdhpikpmepaaGreat
open Go.RowKit

section
variable {P : Program} {ops : Array Oper} {md : Region.Mode} {C : World → Prop}

def headAny (P : Program) (md : Region.Mode) (ops : Array Oper) (C : World → Prop) (n : Nat) (L : Array Bool → Act → Prop) : Nat → Array Bool → Act → Prop
 | 0, listed, a => L listed a
 | f + 1, listed, a => Region.ready md ops listed ≠ [] ∧ ∀ i ∈ Region.ready md ops listed, i < n ∧ qOp P ops C i (headAny P md ops C n L f (listed.setIfInBounds i true)) a

theorem any_of_head {n g : Nat} {L : Array Bool → Act → Prop} {Q' : Exit → Act → World → Prop} (hL : ∀ listed a, L listed a → ∀ W, C W → wpAny P md ops Q' g listed a W) :
  ∀ (f : Nat) (listed : Array Bool) (a : Act), headAny P md ops C n L f listed a → ∀ W, C W → wpAny P md ops Q' (f + g) listed a W
 | 0, listed, a, h, W, hW => by rw [Nat.zero_add]; exact hL _ _ h W hW
 | f + 1, listed, a, h, W, hW => by
  rw [show f + 1 + g = (f + g) + 1 by omega]
  exact ⟨fun h0 => absurd h0 h.1, fun i hi => wpOp_of_qOp hW (fun a' W' hW' h' => any_of_head hL f _ a' h' W' hW') (h.2 i hi).2⟩

theorem head_take {n i : Nat} {oi : Oper} {v : Value} {L : Array Bool → Act → Prop} (hi : ops[i]? = some oi) (hsel : ∀ (j : Nat) (o : Oper) cs b, ops[j]? = some o → o.op ≠ .select cs b)
  (hs : Region.sinkB md ops n = true) (hc : Region.chainB md ops n = true) (hn : n < ops.size) (hin : i < n) (hdone : ∀ listed a, L listed a → ∀ j ∈ Region.ready md ops listed, n ≤ j) :
  ∀ (f : Nat) (listed : Array Bool) (a : Act), HeadInv md ops n listed →
   (∀ j oj, ops[j]? = some oj → j ≠ i → listed.getD j true = false → (∀ e ∈ oj.after, Region.binds md e = true → e.on ≠ i) → oi.apart ops oj = true) →
   i ∈ Region.ready md ops listed → YieldsIn P ops C oi v a → headAny P md ops C n L f (listed.setIfInBounds i true) (a.put oi.dst v) → headAny P md ops C n L (f + 1) listed a := by
 intro f
 induction f with
 | zero =>
  intro listed a inv _ hr hy H
  have hun := (mem_ready.1 hr).1
  refine ⟨fun h => (by rw [h] at hr; cases hr), fun j hj => ?_⟩
  have hjn : j < n := Nat.lt_of_not_le fun h => tail_waits hs hc hn inv _ i rfl hin hun j h hj
  refine ⟨hjn, ?_⟩
  by_cases hji : j = i
  ·subst hji; exact hy.qOp hi H
  ·have := hdone _ _ H j (ready_mono hj hji)
   omega
 | succ f ih =>
  intro listed a inv hfree hr hy H
  have hun := (mem_ready.1 hr).1
  refine ⟨fun h => (by rw [h] at hr; cases hr), fun j hj => ?_⟩
  have hjn : j < n := Nat.lt_of_not_le fun h => tail_waits hs hc hn inv _ i rfl hin hun j h hj
  refine ⟨hjn, ?_⟩
  by_cases hji : j = i
  ·subst hji; exact hy.qOp hi H
  ·have h1 := (H.2 j (ready_mono hj hji)).2
   obtain ⟨hjun, oj, hoj, hall⟩ := mem_ready.1 hj
   have hnot : ∀ e ∈ oj.after, Region.binds md e = true → e.on ≠ i := fun e he hb heq => by
    have h1 := hall e he hb
    rw [heq, getD_both hun] at h1
    cases h1
   have h2 := qOp_put hoj (hfree j oj hoj hji hjun hnot) (fun cs b => hsel i oi cs b hi) (fun cs b => hsel j oj cs b hoj) hy h1
   refine qOp_mono (fun a' h3 => ih (listed.setIfInBounds j true) a' (inv.set hj hjn) (fun k ok hk hki hun' hno => hfree k ok hk hki ?_ hno) (ready_mono hr (Ne.symm hji)) h3.1 ?_) h2
   ·by_cases hjk : j = k
    ·subst hjk; exact hjun
    ·rw [getD_set_ne true hjk] at hun'; exact hun'
   ·rw [Array.setIfInBounds_comm _ _ hji]; exact h3.2

theorem head_lex {n g : Nat} {Lq : Act → Prop} (hsel : Region.noSelect ops = true) (hs : Region.sinkB md ops n = true) (hc : Region.chainB md ops n = true) (hn : n < ops.size) :
  ∀ (l : List Oper) (k : Nat) (listed : Array Bool) (a : Act), (∀ j, j < l.length → l[j]? = ops[k + j]?) → k + l.length = n → HeadInv md ops n listed →
  Region.lexHead md ops g l.length k listed = true → wpQuiet P ops C Lq l a →
  headAny P md ops C n (fun listed' a' => Region.seqB md ops g n listed' = true ∧ Lq a') l.length listed a
 | [], k, listed, a, _, hk, _, hB, h => by
  have : k = n := by simpa using hk
  subst this
  exact ⟨by simpa [Region.lexHead] using hB, h⟩
 | o :: l, k, listed, a, hl, hk, inv, hB, h => by
  have h0 : ops[k]? = some o := by simpa using (hl 0 (by simp)).symm
  simp only [List.length_cons, Region.lexHead, Bool.and_eq_true] at hB
  obtain ⟨⟨hr, hf⟩, hB'⟩ := hB
  have hkn : k < n := by simp only [List.length_cons] at hk; omega
  have hr' : k ∈ Region.ready md ops listed := by simpa using hr
  have hst : qOp P ops C k (wpQuiet P ops C Lq l) a := by unfold qOp; simp only [h0]; exact h
  obtain ⟨v, hy, hK⟩ := yieldsIn_of_qOp h0 hst
  exact head_take h0 (Region.noSelect_spec hsel) hs hc hn hkn (fun listed' a' hL => seqB_ready hL.1) l.length listed a inv (Region.free_spec h0 hf) hr' hy
   (head_lex hsel hs hc hn l (k + 1) _ _ (fun j hj => by have := hl (j + 1) (by simp; omega); simpa [Nat.add_assoc, Nat.add_comm 1 j] using this) (by simp only [List.length_cons] at hk; omega) (inv.set hr' hkn) hB' hK)
end

theorem wp_region_tail {P : Program} {id : Nat} {Q : Exit → Act → World → Prop} {a : Act} {w : World} {l : List Oper} (n : Nat) (hm : P.follows .mixedOrders = true) (hB : Region.lexTailB .any l.toArray n = true)
  (h : wpQuiet P l.toArray (fun W => ∃ x : After w, W = x.world) (fun a' => ∀ W, (∃ x : After w, W = x.world) → wpList P l.toArray Q (l.drop n) a' W) (l.take n) a) : (Code.region id l.toArray true).wp P Q a w := by
 simp only [Region.lexTailB, Bool.and_eq_true, decide_eq_true_eq] at hB
 obtain ⟨⟨⟨⟨hsel, hn⟩, hs⟩, hc⟩, hlex⟩ := hB
 have hn' : n < l.length := by simpa using hn
 have htl : (l.take n).length = n := by simp; omega
 have hdl : (l.drop n).length = l.toArray.size - n := by simp
 have inv0 : HeadInv .any l.toArray n (Array.replicate l.toArray.size false) :=
  ⟨by simp, fun j oj _ hl => (by rw [getD_replicate_false] at hl; cases hl), fun t _ ht => getD_in (by simpa using ht) (getD_replicate_false _ _)⟩
 have H := head_lex (md := .any) (g := l.toArray.size - n) hsel hs hc hn (l.take n) 0 _ a (fun j hj => by
  have hj' : j < n := by rw [htl] at hj; exact hj
  simp [hj']) (by simpa using htl) inv0 (by rw [htl]; exact hlex) h
 refine wp_region_any hm ?_
 have := any_of_head (Q' := Q) (g := l.toArray.size - n) (fun listed a' hL W hW => by
  have := wpAny_of_seq (md := .any) (Q' := Q) (l.drop n) n listed a' W (fun j => by simp [List.getElem?_drop]) (by rw [hdl]; exact hL.1) (hL.2 W hW)
  rwa [hdl] at this) _ _ _ H { w with drawn := w.drawn + 1 } ⟨⟨w.drew, (Ext.refl w).drew⟩, rfl⟩
 rw [htl, show n + (l.toArray.size - n) = l.toArray.size by omega] at this
 exact this

end Go.Proofs.YtepcdhpikpmepaaGreat

/- make of integers, at a size that is a variable. -/
namespace Go.Proofs.YtepcdhpikpmepaaGreat
open Go.RowKit

def zerosL (n : Nat) : List Int := List.replicate n 0
theorem zerosL_len (n : Nat) : (zerosL n).length = n := by simp [zerosL]
def zerosV (n : Nat) : Array Value := ((zerosL n).map (Value.int .i64)).toArray

theorem made_zeros (n : Nat) : madeCells (Value.int .i64 0).cells n = zerosV n := by
 apply Array.ext_getElem?
 intro k
 by_cases h : k < n
 ·simp [madeCells, zerosV, zerosL, h, Value.cells, Nat.mod_one]
 ·simp [madeCells, zerosV, zerosL, h]
theorem run_make_any {P : Program} (t e : TypeId) (i : TypeInfo) (z : Value) (ht : P.underlying t = some (.slice e)) (hi : P.info? e = some i) (hz : i.zero = some z)
  (kl kc : IntKind) (n c : Nat) (hnc : n ≤ c) (hbytes : i.bytes * c ≤ 281474976710656) (h63 : c ≤ 9223372036854775807) (w : World) :
  (Instr.makeSlice t (.int kl (n : Int)) (.int kc (c : Int))).run P w = .ok (.slice (some ⟨w.heap.size, 0, none⟩) n c) (w.alloc (.cells (madeCells z.cells (c * i.size)) e)) := by
 have hb : (i.bytes : Int) * (c : Int) ≤ 281474976710656 := by
  have h : ((i.bytes * c : Nat) : Int) ≤ 281474976710656 := by omega
  rwa [Int.natCast_mul] at h
 have hr := run_make (P := P) w t e i z ht hi hz kl kc n c (by omega) (by omega) hb (by omega)
 simp only [Int.toNat_natCast] at hr
 exact hr
theorem run_make_ints (n : Nat) (hn : n ≤ 35184372088832) (w : World) :
  (Instr.makeSlice 31 (.int .i64 (n : Int)) (.int .i64 (n : Int))).run Tryz.prog w = .ok (.slice (some ⟨w.heap.size, 0, none⟩) n n) (w.alloc (.cells (zerosV n) 3)) := by
 obtain ⟨i0, hi, hz, hs, hb⟩ := info_parts int_info
 have := run_make_any (P := Tryz.prog) 31 3 i0 _ Tryz.underlying31 hi hz .i64 .i64 n n (Nat.le_refl _) (by rw [hb]; omega) (by omega) w
 rw [this, hs, Nat.mul_one, made_zeros]

end Go.Proofs.YtepcdhpikpmepaaGreat

namespace Go.Proofs.YtepcdhpikpmepaaGreat
open Go.RowKit

theorem Srch.setRest {Z : Nat → Prop} {w0 w : World} {S Pk Rb : Nat} {tv nv fv : Value} {t : List WishD} {bound over : Int} {rest pick : List Int} {nodes : List NodeD} {found : Option (List Int × Int)}
  (h : Srch Z w0 w S Pk Rb tv nv fv t bound rest pick nodes found over) (d : Nat) (i : Int) :
  Srch Z w0 (w.setCell ⟨Rb, d, none⟩ (.int .i64 i)) S Pk Rb tv nv fv t bound (rest.set d i) pick nodes found over := by
 have k := keep_set w Rb d (.int .i64 i)
 have hi : IntFar w Z (fun k => k = Rb) := fun g hg => Or.inl (by rw [hg]; exact h.zR)
 have hp : PlanFar w (fun k => k = Rb) := fun g hg cs hc => by rw [hg] at hc; have := blk_type hc h.rb; revert this; decide
 have hpk := h.rb.set_ d (.int .i64 i)
 have e : (rest.map (Value.int .i64)).toArray.setIfInBounds d (.int .i64 i) = ((rest.set d i).map (Value.int .i64)).toArray := by simp [List.map_set]
 rw [e] at hpk
 obtain ⟨xs, o1, o2⟩ := h.owns
 refine ⟨h.ext.keep k (by rintro i hi rfl; have := h.bR; omega), h.wishes, h.bS, h.bP, h.bR, ?_, k.blk h.pk (fun e => h.ne e.symm), hpk, h.ne, h.zP, h.zR,
  ⟨xs, k.owns o1 (fun g hg e => SX_rest h (Or.inr (Or.inr (by rw [hg, e])))), o2.keep k hi⟩, h.fnd.keep k hi hp⟩
 rw [List.length_set]
 exact k.blk h.blk (fun e => SX_rest h (Or.inl e.symm))
theorem blk_new' {w : World} {g : Nat} {t : TypeId} {cs : Array Value} {o : Obj} (h : g = w.heap.size) (ho : o = .cells cs t) : Blk (w.alloc o) g t cs := by
 subst h ho; exact Blk.new w t cs
def BG (w W : World) (S Pk Rb : Nat) (tv : Value) (t : List WishD) (bound : Int) (rest : List Int) : Prop :=
 Srch (fun g => g = Rb ∨ g = Pk) w W S Pk Rb tv (.slice none 0 0) (.pointer none) t bound rest (zerosL t.length) [] none 9223372036854775807
theorem BG.base {w w1 W : World} {S Pk Rb : Nat} {tv : Value} {t : List WishD} {bound : Int} {rest : List Int} (h : BG w1 W S Pk Rb tv t bound rest) (hx : Ext w w1) (hw : Wishes w tv t) : BG w W S Pk Rb tv t bound rest := by
 have hs := hx.size
 have h' : Srch _ _ _ _ _ _ _ _ _ _ _ _ _ _ _ _ := h
 refine ⟨hx.trans h'.ext, hw, ?_, ?_, ?_, h'.blk, h'.pk, h'.rb, h'.ne, Or.inr rfl, Or.inl rfl, ⟨[], World.ownsRow_nil _ _ _ _, rfl⟩, rfl⟩
 ·have := h'.bS; omega
 ·have := h'.bP; omega
 ·have := h'.bR; omega
def RestFrom (t : List WishD) (rest : List Int) (k : Nat) : Prop := rest.length = t.length + 1 ∧ ∀ d, k ≤ d → d ≤ t.length → rest[d]? = some (leastSum (t.drop d))
theorem RestFrom.start (t : List WishD) : RestFrom t (zerosL (t.length + 1)) t.length := by
 refine ⟨zerosL_len _, fun d h1 h2 => ?_⟩
 have : d = t.length := by omega
 subst this
 simp [zerosL, leastSum]
theorem RestFrom.step {t : List WishD} {rest : List Int} {k : Nat} (h : RestFrom t rest (k + 1)) {x : WishD} (hx : t[k]? = some x) : RestFrom t (rest.set k (leastSum (t.drop (k + 1)) + leastB x)) k := by
 have hk : k < t.length := (List.getElem?_eq_some_iff.1 hx).1
 refine ⟨by rw [List.length_set]; exact h.1, fun d h1 h2 => ?_⟩
 by_cases hd : d = k
 ·subst hd
  obtain ⟨y, e, hy⟩ := drop_cons t d hk
  rw [hx] at hy; cases hy
  rw [List.getElem?_set_self (by rw [h.1]; omega), e]
  rfl
 ·rw [List.getElem?_set_ne (by omega)]
  exact h.2 d (by omega) h2


set_option maxHeartbeats 1600000 in
set_option maxRecDepth 100000 in
theorem begin_calls (tv : Value) (t : List WishD) (bound : Int) (w : World) (h : Wishes w tv t) (hl : t.length ≤ 512) (hh0' : ∀ x ∈ t, ∀ o ∈ x.opts, 0 ≤ o.harm) :
  Calls Tryz.prog 19 #[.agg #[tv], .int .i64 bound] w fun e w' => ∃ (S Pk Rb : Nat) (rest : List Int), e = .returned (.pointer (some ⟨S, 0, none⟩)) ∧ BG w w' S Pk Rb tv t bound rest ∧ RestFrom t rest 0 := by
 have hh := Lib.hid h
 have hh0 := Lib.hid hh0'
 obtain ⟨ta, tc, rfl, hn, hc, hat⟩ := h.open
 clear hh0'
 have hmk1 := run_make_ints (t.length + 1) (by omega)
 rw [show ((t.length + 1 : Nat) : Int) = (t.length : Int) + 1 from by omega] at hmk1
 have hmk2 := run_make_ints t.length (by omega)
 go_enter Tryz.func19, Tryz.ntmps19
 go_wp2_with fail
 refine wp_abs (S := fun W => Ext w W ∧ W.cell? ⟨w.heap.size, 0, none⟩ = some (.slice ta t.length tc)) ⟨(by with_reducible repeat' (first | exact Ext.refl _ | assumption | refine Ext.drewN ?_ _ | refine Ext.drew ?_ | refine Ext.alloc ?_ _ | refine Ext.trans ?_ (by with_reducible assumption))), by simp⟩ ?_
 rintro W1 ⟨hx1, c0⟩
 have h1w : Hid (Wishes W1 (.slice ta t.length tc) t) := h.ext hx1
 have hsz : w.heap.size < W1.heap.size := World.block_lt_of_cell? _ _ c0
 have hw : IntKind.i64.wrap ((t.length : Int) + 1) = (t.length : Int) + 1 := IntWalk.i64_in _ (by omega)
 go_region
 all_goals go_goals
 ·skip
  go_step; go_step
  refine wp_abs (S := fun W => Hid (BG W1 W (W1.heap.size + 1 + 1) (W1.heap.size+1) W1.heap.size (.slice ta t.length tc) t bound (zerosL (t.length + 1)))) ?_ ?_
  ·refine ⟨?_, h1w, by omega, by omega, by omega, ?_, ?_, ?_, by omega, Or.inr rfl, Or.inl rfl, ⟨[], World.ownsRow_nil _ _ _ _, rfl⟩, rfl⟩
   ·exact (by with_reducible repeat' (first | exact Ext.refl _ | assumption | refine Ext.drewN ?_ _ | refine Ext.drew ?_ | refine Ext.alloc ?_ _ | refine Ext.trans ?_ (by with_reducible assumption)))
   ·rw [zerosL_len, zerosL_len]; exact (blk_new' (by simp only [World.size_alloc]) rfl).drew
   ·first | exact ((blk_new' (by simp only [World.size_alloc]) rfl).alloc _).drew | exact (((blk_new' rfl rfl).alloc _).alloc _).drew
   ·first | exact ((blk_new' (by simp only [World.size_alloc]) rfl).alloc _).drew | exact (((blk_new' rfl rfl).alloc _).alloc _).drew
  intro W2 hB2
  generalize W1.heap.size + 1 + 1 = S at hB2 ⊢
  generalize W1.heap.size + 1 = Pk at hB2 ⊢
  generalize W1.heap.size = Rb at hB2 ⊢
  have c0' : W2.cell? ⟨w.heap.size, 0, none⟩ = some (.slice ta t.length tc) := hB2.out.ext.cell c0
  go_wp2
  go_loopw [6] (fun vi wr => ∃ (k : Nat) (rest : List Int), k ≤ t.length ∧ vi = .int .i64 ((k : Int) - 1) ∧ Hid (BG W1 wr S Pk Rb (.slice ta t.length tc) t bound rest) ∧ Hid (RestFrom t rest k)) (fun vi _ => (intOf vi + 1).toNat)
  case atStart => exact ⟨t.length, _, Nat.le_refl _, rfl, hB2, RestFrom.start t⟩
  case round =>
   obtain ⟨k, rest, hk, rfl, hB, hR⟩ := hrel
   rcases k with _ | k
   ·rw [show ((0 : Nat) : Int) - 1 = -1 from rfl]
    go_wp2
    go_ret
    exact ⟨S, Pk, Rb, rest, rfl, hB.out.base hx1 hh.out, hR.out⟩
   ·rw [show ((k + 1 : Nat) : Int) - 1 = (k : Int) from by omega]
    obtain ⟨b1, o1, x, pa, pc, oa, oc, rfl, hb1, _, ex, g1, g2, g3, gp, go⟩ := hat k (by omega) wr (hx1.trans hB.out.ext)
    have q1 := After.cell g1
    have q2 := After.cell g2
    have q3 := After.cell g3
    have q0 := After.cell (hB.out.ext.cell c0)
    have qs := After.cell (show wr.cell? ⟨S, 2, none⟩ = some (.slice (some ⟨Rb, 0, none⟩) rest.length rest.length) from hB.out.blk.cell 2)
    have hrr := hR.out.2 (k + 1) (Nat.le_refl _) hk
    have hrl := hR.out.1
    have qr : ∀ y : After wr, y.world.cell? ⟨Rb, k + 1, none⟩ = some (.int .i64 (leastSum (t.drop (k + 1)))) := After.cell (by
     have := hB.out.rb.cell (k + 1)
     rw [this]
     simp [hrr])
    have hls := leastSum_bd (t.drop (k + 1)) (fun x hx o ho => hh0.out x (List.mem_of_mem_drop hx) o ho)
    have hl1 := leastSum_bd [x] (fun y hy o ho => by simp at hy; subst hy; exact hh0.out y (List.mem_of_getElem? ex.out) o ho)
    have hls0 := hls.1
    have hls1 : leastSum (t.drop (k + 1)) ≤ 512000000 := by have := hls.2; simp at this; omega
    have hl0 : 0 ≤ leastB x := by have := hl1.1; simpa [leastSum] using this
    have hl2 : leastB x ≤ 1000000 := by have := hl1.2; simpa [leastSum] using this
    have hcl : Hid (∀ W, Ext wr W → Calls Tryz.prog 22 #[.agg #[.int .i64 x.meeting, .slice pa x.people.length pc, .slice oa x.opts.length oc]] W
          fun e w' => e = .returned (.int .i64 (leastB x)) ∧ Ext W w') := fun W hW => least_calls _ x W ⟨_, _, rfl, gp.ext hW, go.ext hW⟩
    have hkt : k < t.length := by omega
    have hR' := Lib.hid (hR.out.step ex.out)
    clear hrr hls hl1 gp go g1 g2 g3
    generalize leastSum (t.drop (k + 1)) = ls at *
    generalize leastB x = lx at *
    go_wp2_with fail
    refine wp_region_tail 20 (by kernel_rfl) (by kernel_rfl) ?_
    simp only [List.take_succ_cons, List.take_zero, List.drop_succ_cons, List.drop_zero]
    repeat (go_big_quiet_step ((exact After.call _ (hcl.out _ (After.ext _)))))
    refine wpQuiet_nil ?_
    rintro _ ⟨y, rfl⟩
    have hB' := Lib.hid (hB.out.toExt y.ext)
    have m1 : y.world.cell? ⟨Rb, k, none⟩ = some (.int .i64 (rest[k]?.getD 0)) := by
     have := hB'.out.rb.cell k
     rw [this]
     simp [show k < rest.length by omega]
    have m2 : y.world.frozen? ⟨Rb, k, none⟩ = false := hB'.out.rb.frozen _
    have hBn := Lib.hid (hB'.out.setRest k (ls + lx))
    generalize y.world = W3 at *
    generalize rest[k]?.getD 0 = old at m1
    go_wp2
    go_roundw
    case rel => exact ⟨k, _, by omega, by go_num, hBn, hR'⟩
    case measure => simp [intOf]
 ·skip
  go_step; go_step
  refine wp_abs (S := fun W => Hid (BG W1 W (W1.heap.size + 1 + 1) W1.heap.size (W1.heap.size+1) (.slice ta t.length tc) t bound (zerosL (t.length + 1)))) ?_ ?_
  ·refine ⟨?_, h1w, by omega, by omega, by omega, ?_, ?_, ?_, by omega, Or.inr rfl, Or.inl rfl, ⟨[], World.ownsRow_nil _ _ _ _, rfl⟩, rfl⟩
   ·exact (by with_reducible repeat' (first | exact Ext.refl _ | assumption | refine Ext.drewN ?_ _ | refine Ext.drew ?_ | refine Ext.alloc ?_ _ | refine Ext.trans ?_ (by with_reducible assumption)))
   ·rw [zerosL_len, zerosL_len]; exact (blk_new' (by simp only [World.size_alloc]) rfl).drew
   ·first | exact ((blk_new' (by simp only [World.size_alloc]) rfl).alloc _).drew | exact (((blk_new' rfl rfl).alloc _).alloc _).drew
   ·first | exact ((blk_new' (by simp only [World.size_alloc]) rfl).alloc _).drew | exact (((blk_new' rfl rfl).alloc _).alloc _).drew
  intro W2 hB2
  generalize W1.heap.size + 1 + 1 = S at hB2 ⊢
  generalize W1.heap.size + 1 = Rb at hB2 ⊢
  generalize W1.heap.size = Pk at hB2 ⊢
  have c0' : W2.cell? ⟨w.heap.size, 0, none⟩ = some (.slice ta t.length tc) := hB2.out.ext.cell c0
  go_wp2
  go_loopw [6] (fun vi wr => ∃ (k : Nat) (rest : List Int), k ≤ t.length ∧ vi = .int .i64 ((k : Int) - 1) ∧ Hid (BG W1 wr S Pk Rb (.slice ta t.length tc) t bound rest) ∧ Hid (RestFrom t rest k)) (fun vi _ => (intOf vi + 1).toNat)
  case atStart => exact ⟨t.length, _, Nat.le_refl _, rfl, hB2, RestFrom.start t⟩
  case round =>
   obtain ⟨k, rest, hk, rfl, hB, hR⟩ := hrel
   rcases k with _ | k
   ·rw [show ((0 : Nat) : Int) - 1 = -1 from rfl]
    go_wp2
    go_ret
    exact ⟨S, Pk, Rb, rest, rfl, hB.out.base hx1 hh.out, hR.out⟩
   ·rw [show ((k + 1 : Nat) : Int) - 1 = (k : Int) from by omega]
    obtain ⟨b1, o1, x, pa, pc, oa, oc, rfl, hb1, _, ex, g1, g2, g3, gp, go⟩ := hat k (by omega) wr (hx1.trans hB.out.ext)
    have q1 := After.cell g1
    have q2 := After.cell g2
    have q3 := After.cell g3
    have q0 := After.cell (hB.out.ext.cell c0)
    have qs := After.cell (show wr.cell? ⟨S, 2, none⟩ = some (.slice (some ⟨Rb, 0, none⟩) rest.length rest.length) from hB.out.blk.cell 2)
    have hrr := hR.out.2 (k + 1) (Nat.le_refl _) hk
    have hrl := hR.out.1
    have qr : ∀ y : After wr, y.world.cell? ⟨Rb, k + 1, none⟩ = some (.int .i64 (leastSum (t.drop (k + 1)))) := After.cell (by
     have := hB.out.rb.cell (k + 1)
     rw [this]
     simp [hrr])
    have hls := leastSum_bd (t.drop (k + 1)) (fun x hx o ho => hh0.out x (List.mem_of_mem_drop hx) o ho)
    have hl1 := leastSum_bd [x] (fun y hy o ho => by simp at hy; subst hy; exact hh0.out y (List.mem_of_getElem? ex.out) o ho)
    have hls0 := hls.1
    have hls1 : leastSum (t.drop (k + 1)) ≤ 512000000 := by have := hls.2; simp at this; omega
    have hl0 : 0 ≤ leastB x := by have := hl1.1; simpa [leastSum] using this
    have hl2 : leastB x ≤ 1000000 := by have := hl1.2; simpa [leastSum] using this
    have hcl : Hid (∀ W, Ext wr W → Calls Tryz.prog 22 #[.agg #[.int .i64 x.meeting, .slice pa x.people.length pc, .slice oa x.opts.length oc]] W
          fun e w' => e = .returned (.int .i64 (leastB x)) ∧ Ext W w') := fun W hW => least_calls _ x W ⟨_, _, rfl, gp.ext hW, go.ext hW⟩
    have hkt : k < t.length := by omega
    have hR' := Lib.hid (hR.out.step ex.out)
    clear hrr hls hl1 gp go g1 g2 g3
    generalize leastSum (t.drop (k + 1)) = ls at *
    generalize leastB x = lx at *
    go_wp2_with fail
    refine wp_region_tail 20 (by kernel_rfl) (by kernel_rfl) ?_
    simp only [List.take_succ_cons, List.take_zero, List.drop_succ_cons, List.drop_zero]
    repeat (go_big_quiet_step ((exact After.call _ (hcl.out _ (After.ext _)))))
    refine wpQuiet_nil ?_
    rintro _ ⟨y, rfl⟩
    have hB' := Lib.hid (hB.out.toExt y.ext)
    have m1 : y.world.cell? ⟨Rb, k, none⟩ = some (.int .i64 (rest[k]?.getD 0)) := by
     have := hB'.out.rb.cell k
     rw [this]
     simp [show k < rest.length by omega]
    have m2 : y.world.frozen? ⟨Rb, k, none⟩ = false := hB'.out.rb.frozen _
    have hBn := Lib.hid (hB'.out.setRest k (ls + lx))
    generalize y.world = W3 at *
    generalize rest[k]?.getD 0 = old at m1
    go_wp2
    go_roundw
    case rel => exact ⟨k, _, by omega, by go_num, hBn, hR'⟩
    case measure => simp [intOf]
end Go.Proofs.YtepcdhpikpmepaaGreat

namespace Go.Proofs.YtepcdhpikpmepaaGreat
open Go.RowKit

theorem no_large (w : World) : (Instr.typeAssert .nilIface 20 70 true).run Tryz.prog w = .ok (.tuple #[.agg #[], .bool false]) w := by kernel_rfl

set_option maxRecDepth 20000 in
theorem best1_idle (a b c : Value) (w : World) : CallsD Tryz.prog 18 #[a, b, c] .returning w fun e u' w' => e = .returned (.tuple #[]) ∧ u' = .returning ∧ Ext w w' := by
 refine callsD_of_wpS Tryz.func18 rfl fun c₀ cs hu => ?_
 have hta := no_large
 apply wpS_seq
 apply wpS_region
 simp [wpOpsS, go_sem, recoverD, hu, Tryz.ntmps18, Exit.thenS, hta]
 apply wpS_seq
 apply wpS_region
 simp [wpOpsS, go_sem, Exit.thenS]
 refine wpS_cond (t := false) (by simp [Act.eval, Array.replicate]) ?_
 simp only [Bool.false_eq_true, if_false]
 refine wpS_of_wp (wp_skip ?_)
 have hx : Ext w (w.alloc (Obj.cells #[] 70)) := (by with_reducible repeat' (first | exact Ext.refl _ | assumption | refine Ext.drewN ?_ _ | refine Ext.drew ?_ | refine Ext.alloc ?_ _ | refine Ext.trans ?_ (by with_reducible assumption)))
 cases c₀
 simp_all [bodyPostS, results, Tryz.results18]

def BestRes (t : List WishD) : Option (List Int × Int) → Prop
 | some r => ∃ b, foldFound none (growL t b t [] 0 0).opens = some r
 | none => ∃ b, (growL t b t [] 0 0).opens = [] ∧ (growL t b t [] 0 0).ests = []
def BestOut (t : List WishD) (w : World) (e : Ending) (w' : World) : Prop :=
 ∃ pv cv er, e = .returned (.tuple #[.agg #[pv, .int .i64 er.1], cv, .int .i64 er.2]) ∧ Ext w w' ∧
  ((validT t ≠ 0 ∧ pv = .slice none 0 0 ∧ cv = .slice none 0 0 ∧ er = (0, validT t)) ∨
   (validT t = 0 ∧ BestRes t none ∧ pv = .slice none 0 0 ∧ cv = .slice none 0 0 ∧ er = (0, 4)) ∨
   (validT t = 0 ∧ ∃ p h, BestRes t (some (p, h)) ∧ Ints w' pv p ∧ Nodes w' cv (growL t h t [] 0 0).nodes ∧ er = (h, 0)))

def BX (w W : World) (tv pv hv cv er : Value) : Prop :=
 Ext w W ∧ Blk W w.heap.size 28 #[tv] ∧ Blk W (w.heap.size + 1) 33 #[pv, hv] ∧ Blk W (w.heap.size + 1 + 1) 34 #[cv] ∧ Blk W (w.heap.size + 1 + 1 + 1) 35 #[er]
section
variable {w W W' : World} {tv pv hv cv er : Value}
theorem BX.toExt (h : BX w W tv pv hv cv er) (e : Ext W W') : BX w W' tv pv hv cv er := by
 have k : Keep (fun _ => False) W W' := Keep.of_ext e
 obtain ⟨h1, h2, h3, h4, h5⟩ := h
 exact ⟨h1.trans e, k.blk h2 id, k.blk h3 id, k.blk h4 id, k.blk h5 id⟩
theorem BX.start (w : World) (tv pv hv cv er : Value) : BX w ((((w.alloc (.cells #[tv] 28)).alloc (.cells #[pv, hv] 33)).alloc (.cells #[cv] 34)).alloc (.cells #[er] 35)) tv pv hv cv er := by
 refine ⟨by exact (by with_reducible repeat' (first | exact Ext.refl _ | assumption | refine Ext.drewN ?_ _ | refine Ext.drew ?_ | refine Ext.alloc ?_ _ | refine Ext.trans ?_ (by with_reducible assumption))), ?_, ?_, ?_, ?_⟩
 ·exact (((blk_new' rfl rfl).alloc _).alloc _).alloc _
 ·exact ((blk_new' (by simp only [World.size_alloc]) rfl).alloc _).alloc _
 ·exact (blk_new' (by simp only [World.size_alloc]) rfl).alloc _
 ·exact blk_new' (by simp only [World.size_alloc]) rfl
theorem BX.set_ (h : BX w W tv pv hv cv er) (pv' hv' cv' er' : Value) :
  BX w ((((W.setCell ⟨w.heap.size + 1, 0, none⟩ pv').setCell ⟨w.heap.size + 1, 1, none⟩ hv').setCell ⟨w.heap.size + 1 + 1, 0, none⟩ cv').setCell ⟨w.heap.size + 1 + 1 + 1, 0, none⟩ er') tv pv' hv' cv' er' := by
 obtain ⟨h1, h2, h3, h4, h5⟩ := h
 refine ⟨?_, ?_, ?_, ?_, ?_⟩
 ·exact (((h1.setCell (by dsimp only; omega) _).setCell (by dsimp only; omega) _).setCell (by dsimp only; omega) _).setCell (by dsimp only; omega) _
 ·exact (((h2.far (by dsimp only; omega) _).far (by dsimp only; omega) _).far (by dsimp only; omega) _).far (by dsimp only; omega) _
 ·exact (((h3.set_ 0 _).set_ 1 _).far (by dsimp only; omega) _).far (by dsimp only; omega) _
 ·exact (((h4.far (by dsimp only; omega) _).far (by dsimp only; omega) _).set_ 0 _).far (by dsimp only; omega) _
 ·exact (((h5.far (by dsimp only; omega) _).far (by dsimp only; omega) _).far (by dsimp only; omega) _).set_ 0 _
end
theorem leaves_end {w W : World} {tv pv cv : Value} {hv er : Int} {R : Ending → World → Prop} (hb : BX w W tv pv (.int .i64 hv) cv (.int .i64 er)) (tmps : Array Value)
  (h2 : tmps.getD 2 undef = .pointer (some ⟨w.heap.size + 1, 0, none⟩)) (h3 : tmps.getD 3 undef = .pointer (some ⟨w.heap.size + 1 + 1, 0, none⟩)) (h4 : tmps.getD 4 undef = .pointer (some ⟨w.heap.size + 1 + 1 + 1, 0, none⟩))
  (h : R (.returned (.tuple #[.agg #[pv, .int .i64 hv], cv, .int .i64 er])) W) : Leaves Tryz.prog Tryz.f7 tmps R [] .returning W := by
 obtain ⟨_, _, b2, b3, b4⟩ := hb
 have c1 := b2.cell 0
 have c2 := b2.cell 1
 have c3 := b3.cell 0
 have c4 := b4.cell 0
 simp only [List.getElem?_toArray, List.getElem?_cons_zero, List.getElem?_cons_succ] at c1 c2 c3 c4
 refine ⟨_, ?_, h⟩
 simp only [Array.getD_eq_getD_getElem?] at h2 h3 h4
 simp [results, Tryz.results7, go_sem, h2, h3, h4, c1, c2, c3, c4]

set_option maxHeartbeats 1600000 in
set_option maxRecDepth 100000 in
theorem best_invalid (tv : Value) (t : List WishD) (w : World) (h : Wishes w tv t) (hv : validT t ≠ 0) : Calls Tryz.prog 7 #[.agg #[tv]] w (BestOut t w) := by
 have hh := Lib.hid h
 have hvv := Lib.hid hv
 obtain ⟨ta, tc, rfl⟩ := h.form
 have hnb : (validT t == 0) = false := by simpa using hv
 obtain ⟨vt, hvt⟩ : ∃ vt, Hid (validT t = vt) := ⟨_, rfl⟩
 rw [hvt.out] at hnb
 clear h hv
 go_enter_defers Tryz.func7, Tryz.ntmps7
 go_wp2_with fail
 refine (valid_calls _ t _ (hh.out.ext (by exact (by with_reducible repeat' (first | exact Ext.refl _ | assumption | refine Ext.drewN ?_ _ | refine Ext.drew ?_ | refine Ext.alloc ?_ _ | refine Ext.trans ?_ (by with_reducible assumption)))))).mono ?_
 rintro e w1 ⟨rfl, hx1⟩
 have hb := Lib.hid ((BX.start w (.slice ta t.length tc) (.slice none 0 0) (.int .i64 0) (.slice none 0 0) (.int .i64 0)).toExt hx1)
 have b1 := hb.out.2.2.1.cell 0
 have b2 := hb.out.2.2.1.cell 1
 have b3 := hb.out.2.2.2.1.cell 0
 have b4 := hb.out.2.2.2.2.cell 0
 have f1 := hb.out.2.2.1.frozen 0
 have f2 := hb.out.2.2.1.frozen 1
 have f3 := hb.out.2.2.2.1.frozen 0
 have f4 := hb.out.2.2.2.2.frozen 0
 simp only [List.getElem?_toArray, List.getElem?_cons_zero, List.getElem?_cons_succ] at b1 b2 b3 b4
 clear hx1
 rw [hvt.out]
 go_wp2
 have hbs := hb.out.set_ (.slice none 0 0) (.int .i64 0) (.slice none 0 0) (.int .i64 vt)
 refine leaves_end hbs _ rfl rfl rfl ?_
 exact ⟨_, _, (0, vt), rfl, hbs.1, Or.inl ⟨hvv.out, rfl, rfl, by rw [hvt.out]⟩⟩
end Go.Proofs.YtepcdhpikpmepaaGreat

namespace Go.Proofs.YtepcdhpikpmepaaGreat
open Go.RowKit

/-! ### the estimates that reached the bound -/
theorem kidsG_ests {f : Int → OptD → Nat → Res} {lo hi : Int} : ∀ (l : List OptD) (i : Int) (N : Nat), (∀ o ∈ l, ∀ i N, ∀ e ∈ (f i o N).ests, lo ≤ e ∧ e ≤ hi) → ∀ e ∈ (kidsG f l i N).ests, lo ≤ e ∧ e ≤ hi
 | [], _, _, _, e, he => by simp [kidsG] at he
 | o :: r, i, N, h, e, he => by
  simp only [kidsG, List.mem_append] at he
  rcases he with he | he
  ·exact h o List.mem_cons_self _ _ e he
  ·exact kidsG_ests r _ _ (fun o ho => h o (List.mem_cons_of_mem _ ho)) e he
theorem growL_ests (t : List WishD) (b : Int) : ∀ (l : List WishD), (∀ x ∈ l, ∀ o ∈ x.opts, 0 ≤ o.harm ∧ o.harm ≤ 1000000) → ∀ (pre : List Int) (harm : Int) (N : Nat), ∀ e ∈ (growL t b l pre harm N).ests, b ≤ e ∧ e ≤ harm + 1000000 * l.length
 | [], _, pre, harm, N, e, he => by
  simp only [growL] at he
  split at he
  ·simp at he
  ·split at he
   ·simp at he; subst he; simp; assumption
   ·simp at he
 | x :: r, h, pre, harm, N, e, he => by
  simp only [growL] at he
  split at he
  ·simp at he
  ·split at he
   ·rename_i hb
    simp at he; subst he
    have := (leastSum_bd (x :: r) (fun y hy o ho => (h y hy o ho).1)).2
    exact ⟨hb, by omega⟩
   ·refine kidsG_ests x.opts _ _ (fun o ho i N e he => ?_) e he
    have := growL_ests t b r (fun y hy => h y (List.mem_cons_of_mem _ hy)) _ _ _ e he
    have h2 := (h x List.mem_cons_self o ho).2
    simp only [List.length_cons]
    omega
theorem foldOver_nil (o : Int) : foldOver o [] = o := rfl
theorem foldOver_bd {lo hi : Int} : ∀ (l : List Int) (o : Int), (∀ e ∈ l, lo ≤ e ∧ e ≤ hi) → lo ≤ o → o ≤ hi → lo ≤ foldOver o l ∧ foldOver o l ≤ hi
 | [], o, _, h1, h2 => ⟨h1, h2⟩
 | e :: r, o, h, h1, h2 => by
  have he := h e List.mem_cons_self
  exact foldOver_bd r (min o e) (fun x hx => h x (List.mem_cons_of_mem _ hx)) (by omega) (by omega)
theorem foldOver_cons {lo hi : Int} {l : List Int} (hl : l ≠ []) (h : ∀ e ∈ l, lo ≤ e ∧ e ≤ hi) (o : Int) (ho : hi ≤ o) : lo ≤ foldOver o l ∧ foldOver o l ≤ hi := by
 cases l with
 | nil => exact absurd rfl hl
 | cons e r =>
  have he := h e List.mem_cons_self
  exact foldOver_bd r (min o e) (fun x hx => h x (List.mem_cons_of_mem _ hx)) (by omega) (by omega)
theorem foldFound_none : ∀ {l : List (List Int × Int)} {f : Option (List Int × Int)}, foldFound f l = none → l = [] ∧ f = none
 | [], f, h => ⟨rfl, h⟩
 | x :: r, f, h => by
  have := foldFound_none (l := r) (f := stepFound f x) h
  cases f <;> simp [stepFound] at this
  split at this <;> simp at this

theorem nodesC_at {w : World} {B : Nat} {Z : Nat → Prop} : ∀ {nodes : List NodeD} {xs : List Value}, NodesC w B Z nodes xs → ∀ i n, nodes[i]? = some n →
  ∃ kv, xs[i * 4]? = some (.int .i64 n.wish) ∧ xs[i * 4 + 1]? = some kv ∧ xs[i * 4 + 2]? = some (.int .i64 n.clA) ∧ xs[i * 4 + 3]? = some (.int .i64 n.clB) ∧ KidsOk w B Z kv n.kids
 | [], _, _, i, n, hn => by simp at hn
 | m :: ns, _, ⟨kv, r, e, h1, h2⟩, 0, n, hn => by
  simp at hn; subst hn
  exact ⟨kv, by rw [e]; rfl, by rw [e]; rfl, by rw [e]; rfl, by rw [e]; rfl, h1⟩
 | m :: ns, _, ⟨kv, r, e, h1, h2⟩, i + 1, n, hn => by
  obtain ⟨kv', a, b, c, d, h⟩ := nodesC_at h2 i n (by simpa using hn)
  have e4 : ∀ j, (i + 1) * 4 + j = (i * 4 + j) + 1 + 1 + 1 + 1 := fun j => by omega
  refine ⟨kv', ?_, ?_, ?_, ?_, h⟩
  ·rw [e, show (i + 1) * 4 = i * 4 + 1 + 1 + 1 + 1 by omega]; exact a
  ·rw [e, e4]; exact b
  ·rw [e, e4]; exact c
  ·rw [e, e4]; exact d
theorem nodes_of {w : World} {B : Nat} {Z : Nat → Prop} {v : Value} {nodes : List NodeD} {xs : List Value} (h : w.ownsRow B 123 4 v nodes.length xs) (hc : NodesC w B Z nodes xs) : Nodes w v nodes := by
 have hat := nodesC_at hc
 refine ⟨fun i => xs[i * 4 + 1]?.getD undef, ?_, fun i hi => ?_⟩
 ·rcases h.2 with ⟨rfl, h0⟩ | ⟨g, cap, cur, rfl, hb, hg, hn, hcap, hcs, htake⟩
  ·exact ⟨none, 0, by rw [h0], by omega, by unfold maxLen; omega, fun hp => by omega⟩
  ·refine ⟨_, _, rfl, hn, hcap, fun hp => ⟨g, 0, rfl, (Array.getElem?_eq_some_iff.1 hg).1, fun i hi j hj => ?_⟩⟩
   obtain ⟨n, hn'⟩ : ∃ n, nodes[i]? = some n := ⟨nodes[i], List.getElem?_eq_getElem hi⟩
   obtain ⟨kv, a, b, c, d, _⟩ := hat i n hn'
   have e : ∀ k, (⟨g, 0, none⟩ : Addr).add k = ⟨g, 0 + k, none⟩ := fun k => by unfold Addr.add; split <;> simp_all
   have hcl := h.cells (g := g) rfl
   rcases j with _ | _ | _ | _ | j
   ·have := hcl _ _ a; rw [e] at this; simpa [hn'] using this
   ·have := hcl _ _ b; rw [e] at this; simpa [hn', b] using this
   ·have := hcl _ _ c; rw [e] at this; simpa [hn'] using this
   ·have := hcl _ _ d; rw [e] at this; simpa [hn'] using this
   ·omega
 ·obtain ⟨n, hn'⟩ : ∃ n, nodes[i]? = some n := ⟨nodes[i], List.getElem?_eq_getElem hi⟩
  obtain ⟨kv, a, b, c, d, hk⟩ := hat i n hn'
  simp only [b, hn', Option.getD_some]
  exact ints_of_owns hk.1
theorem harms_of {t : List WishD} (hv : validT t = 0) : ∀ x ∈ t, ∀ o ∈ x.opts, 0 ≤ o.harm ∧ o.harm ≤ 1000000 := by
 intro x hx o ho
 have := (validT_ok hv).2.1 x hx
 simp only [wishOkB, Bool.and_eq_true, List.all_eq_true] at this
 have := this.2 o ho
 simp only [optOkB, Bool.and_eq_true, decide_eq_true_eq] at this
 exact ⟨this.1.1.1.1, this.1.1.1.2⟩

theorem BG.root {w W : World} {S Pk Rb : Nat} {tv : Value} {t : List WishD} {bound : Int} {rest : List Int} (h : BG w W S Pk Rb tv t bound rest) (hr : RestFrom t rest 0) (hv : validT t = 0) (hm : treeMax t ≤ 65536) :
  GrowIn (fun g => g = Rb ∨ g = Pk) w W S Pk Rb tv (.slice none 0 0) (.pointer none) t bound rest (zerosL t.length) [] none 9223372036854775807 [] 0 := by
 have hs : Srch _ _ _ _ _ _ _ _ _ _ _ _ _ _ _ _ := h
 have hL : t.length ≤ 512 := by
  have := (validT_ok hv).1
  simp [tooLargeB] at this
  exact this.1
 refine ⟨?_, hs, taskIn_of hv, hL, ?_, fun d hd => hr.2 d (Nat.zero_le _) hd, by rw [hr.1]; omega, zerosL_len _, by simp, Nat.zero_le _, by simp, Int.le_refl _, by simp, by simpa using hm⟩
 ·rintro g (rfl | rfl)
  ·exact hs.rb.lt
  ·exact hs.pk.lt
 ·intro x hx o ho
  exact harms_of hv x hx o ho
end Go.Proofs.YtepcdhpikpmepaaGreat

namespace Go.Proofs.YtepcdhpikpmepaaGreat
open Go.RowKit


set_option maxHeartbeats 3200000 in
set_option maxRecDepth 100000 in
theorem best_valid (tv : Value) (t : List WishD) (w : World) (h : Wishes w tv t) (hv : validT t = 0) (hm : treeMax t ≤ 65536) : Calls Tryz.prog 7 #[.agg #[tv]] w (BestOut t w) := by
 have hh := Lib.hid h
 have hvv := Lib.hid hv
 have hmm := Lib.hid hm
 obtain ⟨ta, tc, rfl⟩ := h.form
 have hL : t.length ≤ 512 := by
  have := (validT_ok hv).1
  simp [tooLargeB] at this
  exact this.1
 have hharm := Lib.hid (harms_of hv)
 have hls := leastSum_bd t (fun x hx o ho => (hharm.out x hx o ho).1)
 have hls0 := hls.1
 have hls1 : leastSum t ≤ 512000000 := by omega
 have hmf : ∀ (fn : Fn) (first cap : Array Value) (w : World), (Instr.makeFunc fn first cap).run Tryz.prog w = .ok (.func fn first cap) w := fun _ _ _ _ => rfl
 clear h hv hls hm
 go_enter_defers Tryz.func7, Tryz.ntmps7
 go_wp2_with fail
 refine (valid_calls _ t _ (hh.out.ext (by exact (by with_reducible repeat' (first | exact Ext.refl _ | assumption | refine Ext.drewN ?_ _ | refine Ext.drew ?_ | refine Ext.alloc ?_ _ | refine Ext.trans ?_ (by with_reducible assumption)))))).mono ?_
 rintro e w1 ⟨rfl, hx1⟩
 rw [hvv.out]
 have hBX := Lib.hid ((BX.start w (.slice ta t.length tc) (.slice none 0 0) (.int .i64 0) (.slice none 0 0) (.int .i64 0)).toExt hx1)
 have x0 : w1.cell? ⟨w.heap.size, 0, none⟩ = some (.slice ta t.length tc) := hBX.out.2.1.cell 0
 clear hx1
 go_wp2_with fail
 refine (begin_calls _ t 0 w1 (hh.out.ext hBX.out.1) hL (fun x hx o ho => (hharm.out x hx o ho).1)).mono ?_
 rintro e w2 ⟨S0, Pk0, Rb0, rest0, rfl, hG0, hR0⟩
 have hs0 : Srch _ _ _ _ _ _ _ _ _ _ _ _ _ _ _ _ := hG0
 have hBX2 := Lib.hid (hBX.out.toExt hs0.ext)
 have z1 : w2.cell? ⟨S0, 2, none⟩ = some (.slice (some ⟨Rb0, 0, none⟩) rest0.length rest0.length) := hs0.blk.cell 2
 have z2 : w2.cell? ⟨Rb0, 0, none⟩ = some (.int .i64 (leastSum t)) := by
  have h0 := hR0.2 0 (Nat.le_refl _) (Nat.zero_le _)
  have := hs0.rb.cell 0
  rw [this]
  simp [h0]
 have hrl : 0 < rest0.length := by have := hR0.1; omega
 clear hs0 hG0 hR0 hBX x0
 obtain ⟨ls, hlsv⟩ : ∃ ls, Hid (leastSum t = ls) := ⟨_, rfl⟩
 rw [hlsv.out] at z2 hls0 hls1
 go_wp2_with fail
 go_loopw [6, 7] (fun vi vs wr => ∃ b : Int, 1 ≤ b ∧ b ≤ 512000001 ∧ vi = .int .i64 b ∧ Hid (BX w wr (.slice ta t.length tc) (.slice none 0 0) (.int .i64 0) (.slice none 0 0) (.int .i64 0))) (fun vi _ _ => (1000000000 - intOf vi).toNat)
 case atStart => exact ⟨ls + 1, by omega, by omega, rfl, hBX2⟩
 case round =>
  clear hBX2 z1 z2 hls0 hls1 hrl
  obtain ⟨b, hb1, hb2, rfl, hBX⟩ := hrel
  have x0 : wr.cell? ⟨w.heap.size, 0, none⟩ = some (.slice ta t.length tc) := hBX.out.2.1.cell 0
  go_wp2_with fail
  refine (begin_calls _ t b wr (hh.out.ext hBX.out.1) hL (fun x hx o ho => (hharm.out x hx o ho).1)).mono ?_
  rintro e w3 ⟨S, Pk, Rb, rest, rfl, hG, hR⟩
  have hgr := Lib.hid (grow_calls wr S Pk Rb _ t b rest t _ w3 _ _ _ _ _ _ [] 0 (hG.root hR hvv.out hmm.out) rfl)
  clear hG hR x0
  go_wp2_with fail
  refine hgr.out.mono ?_
  rintro e w4 ⟨nv, fv, pick, rfl, hs2, _, _, _, _⟩
  have hs := Lib.hid hs2
  obtain ⟨R, hRR⟩ : ∃ R, Hid (growL t b t [] 0 0 = R) := ⟨_, rfl⟩
  simp only [List.nil_append, List.length_nil] at hs2
  rw [hRR.out] at hs2
  have hs := Lib.hid hs2
  have hBX' := Lib.hid (hBX.out.toExt hs2.ext)
  have hwr : w.heap.size + 1 + 1 + 1 < wr.heap.size := hBX.out.2.2.2.2.lt
  clear hBX hs2 hgr
  have hBX := hBX'
  clear hBX'
  obtain ⟨ov, hov⟩ : ∃ ov, Hid (foldOver 9223372036854775807 R.ests = ov) := ⟨_, rfl⟩
  have n6 : w4.cell? ⟨S, 6, none⟩ = some (.int .i64 ov) := by rw [← hov.out]; exact hs.out.blk.cell 6
  have n5 : w4.cell? ⟨S, 5, none⟩ = some fv := hs.out.blk.cell 5
  have x0 : w4.cell? ⟨w.heap.size, 0, none⟩ = some (.slice ta t.length tc) := hBX.out.2.1.cell 0
  have x1 : w4.cell? ⟨w.heap.size + 1, 0, none⟩ = some (.slice none 0 0) := hBX.out.2.2.1.cell 0
  have x2 : w4.cell? ⟨w.heap.size + 1, 1, none⟩ = some (.int .i64 0) := hBX.out.2.2.1.cell 1
  have x3 : w4.cell? ⟨w.heap.size + 1 + 1, 0, none⟩ = some (.slice none 0 0) := hBX.out.2.2.2.1.cell 0
  have x4 : w4.cell? ⟨w.heap.size + 1 + 1 + 1, 0, none⟩ = some (.int .i64 0) := hBX.out.2.2.2.2.cell 0
  have y1 := hBX.out.2.2.1.frozen 0
  have y2 := hBX.out.2.2.1.frozen 1
  have y3 := hBX.out.2.2.2.1.frozen 0
  have y4 := hBX.out.2.2.2.2.frozen 0
  cases hf : foldFound none R.opens with
  | none =>
   have hfv : fv = .pointer none := by have := hs.out.fnd; rw [hf] at this; exact this
   subst hfv
   have hof := Lib.hid (foldFound_none hf).1
   clear hf
   by_cases he : R.ests = []
   ·have hov2 : ov = 9223372036854775807 := by rw [← hov.out, he]; rfl
    subst hov2
    go_wp2
    have hbs := hBX.out.set_ (.slice none 0 0) (.int .i64 0) (.slice none 0 0) (.int .i64 4)
    refine leaves_cons (f := 18) (args := #[.pointer (some ⟨w.heap.size + 1, 0, none⟩), .pointer (some ⟨w.heap.size + 1 + 1, 0, none⟩), .pointer (some ⟨w.heap.size + 1 + 1 + 1, 0, none⟩)]) (by simp) (by simp [go_sem]) ?_
    refine (best1_idle _ _ _ _).mono ?_
    rintro e u' w'' ⟨rfl, rfl, hxd⟩
    have hbd := hbs.toExt hxd
    refine leaves_end hbd _ rfl rfl rfl ?_
    exact ⟨_, _, (0, 4), rfl, hbd.1, Or.inr (Or.inl ⟨hvv.out, ⟨b, by rw [hRR.out]; exact hof.out, by rw [hRR.out]; exact he⟩, rfl, rfl, rfl⟩)⟩
   ·have hbd : b ≤ ov ∧ ov ≤ 512000000 := by
     have h1 := growL_ests t b t hharm.out [] 0 0
     rw [hRR.out] at h1
     have := foldOver_cons he (lo := b) (hi := 512000000) (fun e he => by have := h1 e he; omega) 9223372036854775807 (by omega)
     rwa [hov.out] at this
    have ho1 := hbd.1
    have ho2 := hbd.2
    clear hbd
    go_wp2
    go_roundw
    case rel => exact ⟨ov + 1, by omega, by omega, by go_num, hBX⟩
    case measure => simp [intOf]; omega
  | some r =>
   obtain ⟨p, q⟩ := r
   obtain ⟨F, pv, rfl, hF, hFb, hpo, hpz⟩ : FoundC w4 wr.heap.size _ fv (some (p, q)) := by have := hs.out.fnd; rw [hf] at this; exact this
   have hFb' := Lib.hid hFb
   have hpo' := Lib.hid hpo
   obtain ⟨pA, pC, rfl⟩ := owns_form hpo
   have z0 := After.cell x0
   have z5 := After.cell n5
   have zq := After.cell (show w4.cell? ⟨F, 1, none⟩ = some (.int .i64 q) from hFb.cell 1)
   have hff := Lib.hid hf
   clear hf hFb hpo hpz hF
   go_wp2_with fail
   refine wp_region_tail 8 (by kernel_rfl) (by kernel_rfl) ?_
   simp only [List.take_succ_cons, List.take_zero, List.drop_succ_cons, List.drop_zero]
   repeat (go_big_quiet_step (fail))
   refine wpQuiet_nil ?_
   rintro _ ⟨y, rfl⟩
   have hy := y.ext
   generalize y.world = w5 at hy ⊢
   clear z0 z5 zq x0 x1 x2 x3 x4 y1 y2 y3 y4 n5 n6
   have hBX5 := Lib.hid (hBX.out.toExt hy)
   have hFb5 : Hid (Blk w5 F 33 _) := Lib.hid ((Keep.of_ext (X := fun _ => False) hy).blk hFb'.out id)
   have hpo5 := Lib.hid ((Keep.of_ext (X := fun _ => False) hy).owns hpo'.out (fun _ _ => id))
   have hs5 := Lib.hid (hs.out.toExt hy)
   go_wp2_with fail
   refine (begin_calls _ t q w5 (hh.out.ext hBX5.out.1) hL (fun x hx o ho => (hharm.out x hx o ho).1)).mono ?_
   rintro e w6 ⟨S', Pk', Rb', rest', rfl, hG, hR⟩
   have hgr := Lib.hid (grow_calls w5 S' Pk' Rb' _ t q rest' t _ w6 _ _ _ _ _ _ [] 0 (hG.root hR hvv.out hmm.out) rfl)
   clear hG hR
   go_wp2_with fail
   refine hgr.out.mono ?_
   rintro e w7 ⟨nv', fv', pick', rfl, hs7, _, _, _, _⟩
   simp only [List.nil_append, List.length_nil] at hs7
   have hs' := Lib.hid hs7
   clear hs7 hgr
   have hx7 := Lib.hid hs'.out.ext
   have hBX := Lib.hid (hBX5.out.toExt hx7.out)
   have hs4 := Lib.hid (hs5.out.toExt hx7.out)
   have hFb := (Keep.of_ext (X := fun _ => False) hx7.out).blk hFb5.out id
   have hpi := Lib.hid ((Keep.of_ext (X := fun _ => False) hx7.out).owns hpo5.out (fun _ _ => id))
   obtain ⟨xs, o1, o2⟩ := hs'.out.owns
   obtain ⟨nA, nC, rfl⟩ := owns_form o1
   have m5 : w7.cell? ⟨S, 5, none⟩ = some (.pointer (some ⟨F, 0, none⟩)) := hs4.out.blk.cell 5
   have mp : w7.cell? ⟨F, 0, none⟩ = some (.slice pA p.length pC) := hFb.cell 0
   have mq : w7.cell? ⟨F, 1, none⟩ = some (.int .i64 q) := hFb.cell 1
   have m4 : w7.cell? ⟨S', 4, none⟩ = some (.slice nA (growL t q t [] 0 0).nodes.length nC) := hs'.out.blk.cell 4
   have x0 : w7.cell? ⟨w.heap.size, 0, none⟩ = some (.slice ta t.length tc) := hBX.out.2.1.cell 0
   have x1 : w7.cell? ⟨w.heap.size + 1, 0, none⟩ = some (.slice none 0 0) := hBX.out.2.2.1.cell 0
   have x2 : w7.cell? ⟨w.heap.size + 1, 1, none⟩ = some (.int .i64 0) := hBX.out.2.2.1.cell 1
   have x3 : w7.cell? ⟨w.heap.size + 1 + 1, 0, none⟩ = some (.slice none 0 0) := hBX.out.2.2.2.1.cell 0
   have x4 : w7.cell? ⟨w.heap.size + 1 + 1 + 1, 0, none⟩ = some (.int .i64 0) := hBX.out.2.2.2.2.cell 0
   have y1 := hBX.out.2.2.1.frozen 0
   have y2 := hBX.out.2.2.1.frozen 1
   have y3 := hBX.out.2.2.2.1.frozen 0
   have y4 := hBX.out.2.2.2.2.frozen 0
   have ho1 := Lib.hid o1
   have ho2 := Lib.hid o2
   have a0 := hBX5.out.1.size
   have a8 : w.heap.size + 1 + 1 + 1 < wr.heap.size := hwr
   have a1 := hx7.out.size
   have a2 := hBX5.out.2.2.2.2.lt
   have a3 := hs'.out.bS
   obtain ⟨LN, hLN⟩ : ∃ LN, Hid ((growL t q t [] 0 0).nodes.length = LN) := ⟨_, rfl⟩
   rw [hLN.out] at m4
   have a4 : w.heap.size + 1 + 1 + 1 < S' := by omega
   have a5 : w.heap.size + 1 < S' := by omega
   have a6 : w.heap.size + 1 ≠ S' := by omega
   have a7 : S' ≠ w.heap.size + 1 := by omega
   clear hFb o1 o2
   go_wp2_with fail
   go_region
   go_step; go_step
   go_wp2
   have hbs := (hBX.out.set_ (.slice pA p.length pC) (.int .i64 q) (.slice nA LN nC) (.int .i64 0)).toExt ((Ext.refl _).drew)
   refine leaves_cons (f := 18) (args := #[.pointer (some ⟨w.heap.size + 1, 0, none⟩), .pointer (some ⟨w.heap.size + 1 + 1, 0, none⟩), .pointer (some ⟨w.heap.size + 1 + 1 + 1, 0, none⟩)]) (by simp) (by simp [go_sem]) ?_
   refine (best1_idle _ _ _ _).mono ?_
   rintro e u' w'' ⟨rfl, rfl, hxd⟩
   have hbd := hbs.toExt hxd
   refine leaves_end hbd _ rfl rfl rfl ?_
   have hk : Keep (fun g => g = w.heap.size + 1 ∨ g = w.heap.size + 1 + 1 ∨ g = w.heap.size + 1 + 1 + 1) w7 w'' :=
    (((((((Keep.refl _ w7).setCell (Or.inl (Or.inl rfl)) _).setCell (Or.inl (Or.inl rfl)) _).setCell (Or.inl (Or.inr (Or.inl rfl))) _).setCell (Or.inl (Or.inr (Or.inr rfl))) _).drew).trans (Keep.of_ext hxd))
   have hpe := ints_of_owns (hk.owns hpi.out (fun g hg => by have := (hpi.out.lt g hg).1; omega))
   have hfar : IntFar w7 (fun g => g = Rb' ∨ g = Pk') (fun g => g = w.heap.size + 1 ∨ g = w.heap.size + 1 + 1 ∨ g = w.heap.size + 1 + 1 + 1) := by
    rintro g (rfl | rfl | rfl)
    ·exact Or.inr fun cs hc => by have := blk_type hc hBX.out.2.2.1; revert this; decide
    ·exact Or.inr fun cs hc => by have := blk_type hc hBX.out.2.2.2.1; revert this; decide
    ·exact Or.inr fun cs hc => by have := blk_type hc hBX.out.2.2.2.2; revert this; decide
   have hne := nodes_of (hk.owns ho1.out (fun g hg => by have := (ho1.out.lt g hg).1; omega)) (ho2.out.keep hk hfar)
   rw [hLN.out] at hne
   exact ⟨_, _, (q, 0), rfl, hbd.1, Or.inr (Or.inr ⟨hvv.out, p, q, ⟨b, by rw [hRR.out]; exact hff.out⟩, hpe, hne, rfl⟩)⟩
theorem best_calls (tv : Value) (t : List WishD) (w : World) (h : Wishes w tv t) (hm : validT t = 0 → treeMax t ≤ 65536) : Calls Tryz.prog 7 #[.agg #[tv]] w (BestOut t w) := by
 by_cases hv : validT t = 0
 ·exact best_valid tv t w h hv (hm hv)
 ·exact best_invalid tv t w h hv
end Go.Proofs.YtepcdhpikpmepaaGreat
