/- Walk of the reference's MadeStands. -/
import Derived.Test.YtepcdhpikpmepaaGreatTWQ
namespace Go.Proofs.YtepcdhpikpmepaaGreat
open Go.RowKit Go.Shelf
attribute [local go_sem] Oper.semAt_some

/-! ### rows of stands -/
def StandsC (w : World) : List StandD → List Value → Prop
 | [], xs => xs = []
 | x :: r, xs => ∃ cv ev ys, xs = .int .i64 x.meeting :: .int .i64 x.room :: .int .i64 x.team :: .int .i64 x.size :: cv :: .int .i64 x.stream.len :: ev :: ys ∧ (Classes w cv x.stream.classes ∧ Insts w ev x.stream.extra) ∧ StandsC w r ys
def standCells (x : StandD) (cv ev : Value) : List Value := [.int .i64 x.meeting, .int .i64 x.room, .int .i64 x.team, .int .i64 x.size, cv, .int .i64 x.stream.len, ev]
theorem StandsC.ext {w w' : World} (k : Ext w w') : ∀ {l : List StandD} {xs : List Value}, StandsC w l xs → StandsC w' l xs
 | [], _, h => h
 | _ :: _, _, ⟨cv, ev, ys, e, h1, h2⟩ => ⟨cv, ev, ys, e, ⟨h1.1.ext k, h1.2.ext k⟩, StandsC.ext k h2⟩
theorem StandsC.snoc {w : World} {x : StandD} {cv ev : Value} (hc : Classes w cv x.stream.classes) (he : Insts w ev x.stream.extra) : ∀ {l : List StandD} {xs : List Value}, StandsC w l xs → StandsC w (l ++ [x]) (xs ++ standCells x cv ev)
 | [], _, h => by subst h; exact ⟨cv, ev, [], rfl, ⟨hc, he⟩, rfl⟩
 | _ :: _, _, ⟨cv', ev', ys, e, h1, h2⟩ => ⟨cv', ev', _, by rw [e]; rfl, h1, StandsC.snoc hc he h2⟩
theorem StandsC.at_ {w : World} : ∀ {l : List StandD} {xs : List Value}, StandsC w l xs → ∀ i x, l[i]? = some x → (∀ j, j < 7 → xs[i * 7 + j]? = some (standCell x (xs[i * 7 + 4]?.getD undef) (xs[i * 7 + 6]?.getD undef) j)) ∧ Classes w (xs[i * 7 + 4]?.getD undef) x.stream.classes ∧ Insts w (xs[i * 7 + 6]?.getD undef) x.stream.extra
 | [], _, _, i, x, h => by simp at h
 | y :: r, _, ⟨cv, ev, ys, e, h1, h2⟩, 0, x, h => by
  obtain rfl : y = x := by simpa using h
  subst e
  refine ⟨fun j hj => ?_, h1.1, h1.2⟩
  obtain rfl | rfl | rfl | rfl | rfl | rfl | rfl : j = 0 ∨ j = 1 ∨ j = 2 ∨ j = 3 ∨ j = 4 ∨ j = 5 ∨ j = 6 := by omega
  all_goals rfl
 | y :: r, _, ⟨cv, ev, ys, e, h1, h2⟩, i + 1, x, h => by
  have ih := StandsC.at_ h2 i x (by simpa using h)
  subst e
  have hs : ∀ j, (.int .i64 y.meeting :: .int .i64 y.room :: .int .i64 y.team :: .int .i64 y.size :: cv :: .int .i64 y.stream.len :: ev :: ys : List Value)[(i + 1) * 7 + j]? = ys[i * 7 + j]? := fun j => by
   rw [show (i + 1) * 7 + j = (i * 7 + j) + 1 + 1 + 1 + 1 + 1 + 1 + 1 by omega]
   simp only [List.getElem?_cons_succ]
  simp only [hs]
  exact ih
theorem stands_of_row {w : World} {B : Nat} {v : Value} {l : List StandD} {xs : List Value} (a : w.ownsRow B 52 7 v l.length xs) (b : StandsC w l xs) : StandsL w v l := by
 refine ⟨fun i => xs[i * 7 + 4]?.getD undef, fun i => xs[i * 7 + 6]?.getD undef, sl_of_owns a fun i hi j hj => ?_, fun i hi => ?_⟩
 ·have := (StandsC.at_ b i l[i] (List.getElem?_eq_getElem hi)).1 j hj
  rw [this, List.getElem?_eq_getElem hi]; rfl
 ·have := (StandsC.at_ b i l[i] (List.getElem?_eq_getElem hi)).2
  simpa [List.getElem?_eq_getElem hi] using this
/-! ### raw stands -/
def rawCell (x : RawS) (E : Value) (j : Nat) : Value :=
 if j = 0 then .int .u8 x.meeting else if j = 1 then .int .u8 x.room else if j = 2 then .int .u8 x.team else if j = 3 then .int .u8 x.size else if j = 4 then .int .u8 x.from_ else if j = 5 then .int .u8 x.period else if j = 6 then .int .u8 x.cycle else if j = 7 then .int .u8 x.minute else if j = 8 then .int .u8 x.length else E
def RawsS (w : World) (v : Value) (l : List RawS) : Prop :=
 ∃ E : Nat → Value, Sl w 10 v l.length (fun i j => rawCell (l[i]?.getD default) (E i) j) ∧ ∀ i, i < l.length → Bytes w (E i) (l[i]?.getD default).extra ∧ RawSOk (l[i]?.getD default)
theorem RawsS.ext {w w' : World} {v : Value} {l : List RawS} (h : RawsS w v l) (e : Ext w w') : RawsS w' v l :=
 let ⟨E, h1, h2⟩ := h
 ⟨E, Sl.ext h1 e, fun i hi => ⟨(h2 i hi).1.ext e, (h2 i hi).2⟩⟩
def RawsSAt (a : Option Addr) (w : World) (l : List RawS) : Prop :=
 ∀ i, i < l.length → ∀ W, Ext w W → ∃ b off x ea ec, a = some ⟨b, off, none⟩ ∧ b < W.heap.size ∧ Hid (l[i]? = some x) ∧
  W.cell? ⟨b, off + i * 10, none⟩ = some (.int .u8 x.meeting) ∧ W.cell? ⟨b, off + i * 10 + 1, none⟩ = some (.int .u8 x.room) ∧ W.cell? ⟨b, off + i * 10 + 2, none⟩ = some (.int .u8 x.team) ∧ W.cell? ⟨b, off + i * 10 + 3, none⟩ = some (.int .u8 x.size) ∧
  W.cell? ⟨b, off + i * 10 + 4, none⟩ = some (.int .u8 x.from_) ∧ W.cell? ⟨b, off + i * 10 + 5, none⟩ = some (.int .u8 x.period) ∧ W.cell? ⟨b, off + i * 10 + 6, none⟩ = some (.int .u8 x.cycle) ∧ W.cell? ⟨b, off + i * 10 + 7, none⟩ = some (.int .u8 x.minute) ∧
  W.cell? ⟨b, off + i * 10 + 8, none⟩ = some (.int .u8 x.length) ∧ W.cell? ⟨b, off + i * 10 + 9, none⟩ = some (.slice ea x.extra.length ec) ∧
  Bytes W (.slice ea x.extra.length ec) x.extra ∧ RawSOk x
theorem RawsS.open {w : World} {v : Value} {l : List RawS} (h : RawsS w v l) :
  ∃ a c, v = .slice a l.length c ∧ l.length ≤ c ∧ c ≤ 9223372036854775807 ∧ RawsSAt a w l := by
 obtain ⟨E, h1, h2⟩ := h
 obtain ⟨a, c, hv, hn, hc, h⟩ := Sl.open h1
 refine ⟨a, c, hv, hn, hc, fun i hi W e => ?_⟩
 obtain ⟨b, off, ha, hb, h⟩ := h i hi
 obtain ⟨x, d, ex⟩ := drop_cons l i hi
 have hp := (h2 i hi).1.ext e
 have hq := (h2 i hi).2
 simp only [ex, Option.getD_some] at hp hq
 obtain ⟨ea, ec, hE, _⟩ := Bytes.open hp
 rw [hE] at hp
 refine ⟨b, off, x, ea, ec, ha, Nat.lt_of_lt_of_le hb e.size, ex, ?_, ?_, ?_, ?_, ?_, ?_, ?_, ?_, ?_, ?_, hp, hq⟩
 ·have := h W e 0 (by omega); simpa [ex, rawCell] using this
 ·have := h W e 1 (by omega); simpa [ex, rawCell] using this
 ·have := h W e 2 (by omega); simpa [ex, rawCell] using this
 ·have := h W e 3 (by omega); simpa [ex, rawCell] using this
 ·have := h W e 4 (by omega); simpa [ex, rawCell] using this
 ·have := h W e 5 (by omega); simpa [ex, rawCell] using this
 ·have := h W e 6 (by omega); simpa [ex, rawCell] using this
 ·have := h W e 7 (by omega); simpa [ex, rawCell] using this
 ·have := h W e 8 (by omega); simpa [ex, rawCell] using this
 ·have := h W e 9 (by omega); simpa [ex, rawCell, hE] using this
/-! ### the stands -/
def addS (out : List StandD) (s : StandD) : List StandD := if listedB out s then out else out.filter (fun x => earlierB x s) ++ [s] ++ out.filter (fun x => !earlierB x s)
def madeSTo (l : List RawS) : Nat → List StandD
 | 0 => []
 | i + 1 => addS (madeSTo l i) (standT (l[i]?.getD default))
def madeS (l : List RawS) : List StandD := madeSTo l (min l.length 5)
theorem filter_halves {p : StandD → Bool} : ∀ l : List StandD, (l.filter p).length + (l.filter fun x => !p x).length = l.length
 | [] => rfl
 | x :: r => by
  have := filter_halves (p := p) r
  cases h : p x <;> simp [h] <;> omega
theorem addS_len (out : List StandD) (s : StandD) : (addS out s).length ≤ out.length + 1 := by
 unfold addS
 split
 ·omega
 ·have := filter_halves (p := fun x => earlierB x s) out
  simp only [List.length_append, List.length_cons, List.length_nil]
  omega
theorem madeSTo_len (l : List RawS) : ∀ i, (madeSTo l i).length ≤ i
 | 0 => Nat.le_refl _
 | i + 1 => by
  have := madeSTo_len l i
  have := addS_len (madeSTo l i) (standT (l[i]?.getD default))
  unfold madeSTo
  omega
theorem stand_info : (Tryz.prog.info? 52).map (fun i => (i.zero, i.size, i.bytes)) = some (some (.agg #[.int .i64 0, .int .i64 0, .int .i64 0, .int .i64 0, .slice none 0 0, .int .i64 0, .slice none 0 0]), 7, 88) := by kernel_rfl
def EarCon (b : Bool) (j : Nat) (k : Nat) (v : Value) (_ : World) : Prop := k = j → v = .bool b
theorem filt_next {L : List StandD} {p : StandD → Bool} {k : Nat} {y : StandD} (h : L[k]? = some y) : (L.take (k + 1)).filter p = (L.take k).filter p ++ (if p y then [y] else []) := by
 rw [List.take_add_one, h, List.filter_append]
 cases hp : p y <;> simp [hp]
set_option maxHeartbeats 6400000 in
set_option maxRecDepth 100000 in
theorem madeStands_calls (v : Value) (l : List RawS) (w : World) (h : RawsS w v l) :
  Calls Tryz.prog 5 #[v] w fun e w' => ∃ lv, e = .returned lv ∧ StandsL w' lv (madeS l) ∧ Ext w w' := by
 obtain ⟨la, lc, rfl, _, hlc, hat⟩ := h.open
 have hat' := Lib.hid hat
 have hll : l.length ≤ 9223372036854775807 := by omega
 obtain ⟨j0, hj0, jz0, jz1, jz2⟩ := info_parts stand_info
 clear h hat
 go_enter Tryz.func5, Tryz.ntmps5
 go_upto_region 2 with (fail)
 refine wp_abs (S := fun W => Hid (Ext w W) ∧ Hid (W.ownsRow w.heap.size 52 7 (.slice (some ⟨w.heap.size, 0, none⟩) 0 0) 0 [])) ?_ ?_
 ·exact ⟨Lib.hid (by exact (by with_reducible repeat' (first | exact Ext.refl _ | assumption | refine Ext.drewN ?_ _ | refine Ext.drew ?_ | refine Ext.alloc ?_ _ | refine Ext.trans ?_ (by with_reducible assumption)))), Lib.hid (World.ownsRow_made (e := 52) (size := 7) w #[] 0 (Nat.le_refl _) (by unfold maxLen; omega) rfl)⟩
 rintro W1 ⟨hE1, hO1⟩
 go_wp2_with fail
 go_loopw [3, 4] (fun v3 v4 wr => ∃ (i n C : Nat) (A : Option Addr) (xs : List Value), i ≤ min l.length 5 ∧ v4 = .int .i64 i ∧ v3 = .slice A n C ∧ n ≤ i ∧ Hid (n = (madeSTo l i).length) ∧ Hid (Ext w wr) ∧ Hid (wr.ownsRow w.heap.size 52 7 (.slice A n C) n xs) ∧ Hid (StandsC wr (madeSTo l i) xs)) (fun _ v4 _ => min l.length 5 - (intOf v4).toNat)
 case atStart => exact ⟨0, 0, 0, _, [], by omega, rfl, rfl, by omega, Lib.hid rfl, hE1, hO1, Lib.hid rfl⟩
 case round =>
  clear hE1 hO1
  obtain ⟨i, n, oC, oA, xs, hi, rfl, rfl, hni, hn, hE, hO, hC⟩ := hrel
  by_cases h1 : i < min l.length 5
  ·have d1 : decide ((i : Int) < (l.length : Int)) = true := decide_eq_true (by omega)
   have d2 : decide ((i : Int) < 5) = true := decide_eq_true (by omega)
   obtain ⟨b, o, x, ea, ec, rfl, hb, ex, g0, g1, g2, g3, g4, g5, g6, g7, g8, g9, hby, hxo⟩ := hat'.out i (by omega) wr hE.out
   have hmk := Lib.hid (madeStand_calls (.agg #[.int .u8 x.meeting, .int .u8 x.room, .int .u8 x.team, .int .u8 x.size, .int .u8 x.from_, .int .u8 x.period, .int .u8 x.cycle, .int .u8 x.minute, .int .u8 x.length, .slice ea x.extra.length ec]) x wr ⟨_, rfl, hby, hxo⟩)
   have hnext : Hid (madeSTo l (i + 1) = addS (madeSTo l i) (standT x)) := Lib.hid (by rw [madeSTo, ex.out]; rfl)
   obtain ⟨s, hs⟩ : ∃ s, Hid (standT x = s) := ⟨_, rfl⟩
   rw [hs.out] at hnext hmk
   obtain ⟨x0, e0⟩ : ∃ q, x.meeting = q := ⟨_, rfl⟩
   obtain ⟨x1, e1⟩ : ∃ q, x.room = q := ⟨_, rfl⟩
   obtain ⟨x2, e2⟩ : ∃ q, x.team = q := ⟨_, rfl⟩
   obtain ⟨x3, e3⟩ : ∃ q, x.size = q := ⟨_, rfl⟩
   obtain ⟨x4, e4⟩ : ∃ q, x.from_ = q := ⟨_, rfl⟩
   obtain ⟨x5, e5⟩ : ∃ q, x.period = q := ⟨_, rfl⟩
   obtain ⟨x6, e6⟩ : ∃ q, x.cycle = q := ⟨_, rfl⟩
   obtain ⟨x7, e7⟩ : ∃ q, x.minute = q := ⟨_, rfl⟩
   obtain ⟨x8, e8⟩ : ∃ q, x.length = q := ⟨_, rfl⟩
   obtain ⟨x9, e9⟩ : ∃ q, x.extra.length = q := ⟨_, rfl⟩
   rw [e0, e1, e2, e3, e4, e5, e6, e7, e8, e9] at hmk
   rw [e0] at g0
   rw [e1] at g1
   rw [e2] at g2
   rw [e3] at g3
   rw [e4] at g4
   rw [e5] at g5
   rw [e6] at g6
   rw [e7] at g7
   rw [e8] at g8
   rw [e9] at g9
   clear e0 e1 e2 e3 e4 e5 e6 e7 e8 e9 hby hxo ex
   go_wp2_with fail
   refine hmk.out.mono ?_
   rintro e W1' ⟨sv, rfl, hsv, hx1⟩
   obtain ⟨cv, ev, rfl, hcl, hin⟩ := hsv
   obtain ⟨ca, cc, rfl, _⟩ := hcl.open
   obtain ⟨ga, gc, rfl⟩ := hin.form
   obtain ⟨L, hL⟩ : ∃ L, Hid (madeSTo l i = L) := ⟨_, rfl⟩
   rw [hL.out] at hn hC hnext
   have hO1 := Lib.hid (owns_ext hO.out hx1)
   have hC1 := Lib.hid (StandsC.ext hx1 hC.out)
   have hx1' := Lib.hid hx1
   have hsv1 : Hid (StandV W1' (.agg #[.int .i64 s.meeting, .int .i64 s.room, .int .i64 s.team, .int .i64 s.size, .slice ca s.stream.classes.length cc, .int .i64 s.stream.len, .slice ga s.stream.extra.length gc]) s) := Lib.hid ⟨_, _, rfl, hcl, hin⟩
   have hpS := Lib.hid (fun (W : World) (hx : Ext W1' W) (l : List StandD) (xs : List Value) (h : StandsC W l xs) => StandsC.snoc (hcl.ext hx) (hin.ext hx) h)
   unfold standCells at hpS
   obtain ⟨s0, e0⟩ : ∃ q, s.meeting = q := ⟨_, rfl⟩
   obtain ⟨s1, e1⟩ : ∃ q, s.room = q := ⟨_, rfl⟩
   obtain ⟨s2, e2⟩ : ∃ q, s.team = q := ⟨_, rfl⟩
   obtain ⟨s3, e3⟩ : ∃ q, s.size = q := ⟨_, rfl⟩
   obtain ⟨s4, e4⟩ : ∃ q, s.stream.classes.length = q := ⟨_, rfl⟩
   obtain ⟨s5, e5⟩ : ∃ q, s.stream.len = q := ⟨_, rfl⟩
   obtain ⟨s6, e6⟩ : ∃ q, s.stream.extra.length = q := ⟨_, rfl⟩
   rw [e0, e1, e2, e3, e4, e5, e6] at hsv1 hpS ⊢
   clear g0 g1 g2 g3 g4 g5 g6 g7 g8 g9 hmk hcl hin hx1 hO hC
   go_upto_region 6 with (fail)
   refine wp_abs (S := fun W => Hid (Ext W1' W) ∧ Hid (Blk W W1'.heap.size 52 #[.int .i64 s0, .int .i64 s1, .int .i64 s2, .int .i64 s3, .slice ca s4 cc, .int .i64 s5, .slice ga s6 gc])) ?_ ?_
   ·exact ⟨Lib.hid (by exact (by with_reducible repeat' (first | exact Ext.refl _ | assumption | refine Ext.drewN ?_ _ | refine Ext.drew ?_ | refine Ext.alloc ?_ _ | refine Ext.trans ?_ (by with_reducible assumption)))), Lib.hid (blk_new' rfl rfl)⟩
   rintro W2 ⟨hx2, hB2⟩
   have hO2 := Lib.hid (owns_ext hO1.out hx2.out)
   have hC2 := Lib.hid (StandsC.ext hx2.out hC1.out)
   have hs2 := Lib.hid (hsv1.out.ext hx2.out)
   have hE2 := Lib.hid (hE.out.trans (hx1'.out.trans hx2.out))
   have hrow : Hid (StandsL W2 (.slice oA n oC) L) := Lib.hid (stands_of_row (by rw [← hn.out]; exact hO2.out) hC2.out)
   have c0 : W2.cell? ⟨W1'.heap.size, 0, none⟩ = some (.int .i64 s0) := hB2.out.cell 0
   have c1 : W2.cell? ⟨W1'.heap.size, 1, none⟩ = some (.int .i64 s1) := hB2.out.cell 1
   have c2 : W2.cell? ⟨W1'.heap.size, 2, none⟩ = some (.int .i64 s2) := hB2.out.cell 2
   have c3 : W2.cell? ⟨W1'.heap.size, 3, none⟩ = some (.int .i64 s3) := hB2.out.cell 3
   have c4 : W2.cell? ⟨W1'.heap.size, 4, none⟩ = some (.slice ca s4 cc) := hB2.out.cell 4
   have c5 : W2.cell? ⟨W1'.heap.size, 5, none⟩ = some (.int .i64 s5) := hB2.out.cell 5
   have c6 : W2.cell? ⟨W1'.heap.size, 6, none⟩ = some (.slice ga s6 gc) := hB2.out.cell 6
   have cl := hB2.out.lt
   obtain ⟨SB, hSB⟩ : ∃ g, Hid (W1'.heap.size = g) := ⟨_, rfl⟩
   rw [hSB.out] at hB2 c0 c1 c2 c3 c4 c5 c6 cl ⊢
   clear hO1 hC1 hsv1 hx1'
   go_wp2_with fail
   refine (listed18_calls _ _ L s W2 hrow.out hs2.out).mono ?_
   rintro e W3 ⟨rfl, hx3⟩
   have hO3 := Lib.hid (owns_ext hO2.out hx3)
   have hC3 := Lib.hid (StandsC.ext hx3 hC2.out)
   have hs3 := Lib.hid (hs2.out.ext hx3)
   have hx13 := Lib.hid (hx2.out.trans hx3)
   have hE3 := Lib.hid (hE2.out.trans hx3)
   have hrow3 := hrow.out.ext hx3
   obtain ⟨_, _, ee, _, _, hrat⟩ := hrow3.open
   have hnL : n = L.length := hn.out
   cases ee
   have hrat' := Lib.hid hrat
   have c0 := hx3.cell c0
   have c1 := hx3.cell c1
   have c2 := hx3.cell c2
   have c3 := hx3.cell c3
   have c4 := hx3.cell c4
   have c5 := hx3.cell c5
   have c6 := hx3.cell c6
   have cl := Nat.lt_of_lt_of_le cl hx3.size
   cases hls0 : listedB L s with
   | true =>
    have hls := Lib.hid hls0
    have hN : Hid (addS L s = L) := Lib.hid (by unfold addS; rw [if_pos hls.out])
    rw [hN.out] at hnext
    rw [← hnext.out] at hC3
    have hn4 : Hid (L.length = (madeSTo l (i + 1)).length) := Lib.hid (by rw [hnext.out])
    clear hO2 hC2 hs2 hE2 hrow hx3 hrow3 hrat hls0 hn hE hrat' hnext hs3 hls hN c0 c1 c2 c3 c4 c5 c6 hB2
    have hln : L.length ≤ i + 1 := by have := madeSTo_len l (i + 1); have := hn4.out; omega
    go_wp2
    refine ⟨⟨i + 1, L.length, oC, oA, xs, by omega, by go_num, rfl, hln, hn4, hE3, hO3, hC3⟩, ?_⟩
    simp [intOf]; omega
   | false =>
    have hls := Lib.hid hls0
    have hN : Hid (addS L s = L.filter (fun x => earlierB x s) ++ [s] ++ L.filter (fun x => !earlierB x s)) := Lib.hid (by unfold addS; rw [if_neg (by rw [hls.out]; decide)])
    rw [hN.out] at hnext
    obtain ⟨n, hnn⟩ : ∃ n, Hid (L.length = n) := ⟨_, rfl⟩
    rw [hnn.out] at hO3 ⊢
    have hn6 : n ≤ 4 := by have := madeSTo_len l i; rw [hL.out, hnn.out] at this; omega
    clear hO2 hC2 hs2 hE2 hrow hx3 hrow3 hrat hls0 hB2 hn hnL hls hN hE hni
    go_upto_region 8 with (fail)
    refine wp_abs (S := fun W => Hid (Ext W3 W) ∧ Hid (W.ownsRow W3.heap.size 52 7 (.slice (some ⟨W3.heap.size, 0, none⟩) 0 0) 0 [])) ?_ ?_
    ·exact ⟨Lib.hid (by exact (by with_reducible repeat' (first | exact Ext.refl _ | assumption | refine Ext.drewN ?_ _ | refine Ext.drew ?_ | refine Ext.alloc ?_ _ | refine Ext.trans ?_ (by with_reducible assumption)))), Lib.hid (World.ownsRow_made (e := 52) (size := 7) W3 #[] 0 (Nat.le_refl _) (by unfold maxLen; omega) rfl)⟩
    rintro W4 ⟨hx4, hO4⟩
    go_wp2_with fail
    go_loopw [6, 7] (fun v6 v7 wr2 => ∃ (k m C : Nat) (A : Option Addr) (ys : List Value), k ≤ n ∧ v7 = .int .i64 k ∧ v6 = .slice A m C ∧ m ≤ 10 + k ∧ Hid (m = (([] : List StandD) ++ (L.take k).filter (fun x => earlierB x s)).length) ∧ Hid (Ext W3 wr2) ∧ Hid (wr2.ownsRow W3.heap.size 52 7 (.slice A m C) m ys) ∧ Hid (StandsC W3 (([] : List StandD) ++ (L.take k).filter (fun x => earlierB x s)) ys)) (fun _ v7 _ => n - (intOf v7).toNat)
    case atStart => exact ⟨0, 0, 0, _, [], by omega, rfl, rfl, by omega, Lib.hid rfl, hx4, hO4, Lib.hid rfl⟩
    case round =>
     clear hx4 hO4
     obtain ⟨k, m, C, A, ys, hk, rfl, rfl, hm, hml, hxq, hOq, hCq⟩ := hrel
     rename World => wq
     by_cases h2 : k < n
     ·skip
      have d3 : decide ((k : Int) < (n : Int)) = true := decide_eq_true (by omega)
      obtain ⟨b2, o2, y, ya, yc, za, zc, rfl, hb2, ey, f0, f1, f2, f3, f4, f5, f6, hyc, hyi⟩ := hrat'.out k (by rw [hnn.out]; exact h2) W3 (Ext.refl _)
      have hnx := Lib.hid (filt_next (p := (fun x => earlierB x s)) ey.out)
      obtain ⟨q, hq⟩ : ∃ q, Hid (earlierB y s = q) := ⟨_, rfl⟩
      have hpush := Lib.hid (fun (l : List StandD) (xs : List Value) (h : StandsC W3 l xs) => StandsC.snoc hyc hyi h)
      have hyv : Hid (StandV W3 (.agg #[.int .i64 y.meeting, .int .i64 y.room, .int .i64 y.team, .int .i64 y.size, .slice ya y.stream.classes.length yc, .int .i64 y.stream.len, .slice za y.stream.extra.length zc]) y) := Lib.hid ⟨_, _, rfl, hyc, hyi⟩
      unfold standCells at hpush
      obtain ⟨y0, e0⟩ : ∃ q, y.meeting = q := ⟨_, rfl⟩
      obtain ⟨y1, e1⟩ : ∃ q, y.room = q := ⟨_, rfl⟩
      obtain ⟨y2, e2⟩ : ∃ q, y.team = q := ⟨_, rfl⟩
      obtain ⟨y3, e3⟩ : ∃ q, y.size = q := ⟨_, rfl⟩
      obtain ⟨y4, e4⟩ : ∃ q, y.stream.classes.length = q := ⟨_, rfl⟩
      obtain ⟨y5, e5⟩ : ∃ q, y.stream.len = q := ⟨_, rfl⟩
      obtain ⟨y6, e6⟩ : ∃ q, y.stream.extra.length = q := ⟨_, rfl⟩
      rw [e0, e1, e2, e3, e4, e5, e6] at hpush hyv
      rw [e0] at f0
      rw [e1] at f1
      rw [e2] at f2
      rw [e3] at f3
      rw [e4] at f4
      rw [e5] at f5
      rw [e6] at f6
      clear e0 e1 e2 e3 e4 e5 e6 hyc hyi ey
      have z0 := After.cell (hxq.out.cell f0)
      have z1 := After.cell (hxq.out.cell f1)
      have z2 := After.cell (hxq.out.cell f2)
      have z3 := After.cell (hxq.out.cell f3)
      have z4 := After.cell (hxq.out.cell f4)
      have z5 := After.cell (hxq.out.cell f5)
      have z6 := After.cell (hxq.out.cell f6)
      have t0 := After.cell (hxq.out.cell c0)
      have t1 := After.cell (hxq.out.cell c1)
      have t2 := After.cell (hxq.out.cell c2)
      have t3 := After.cell (hxq.out.cell c3)
      have t4 := After.cell (hxq.out.cell c4)
      have t5 := After.cell (hxq.out.cell c5)
      have t6 := After.cell (hxq.out.cell c6)
      go_upto_region 11 with (fail)
      (refine wp_region_held [] [0, 1, 2, 3, 4, 5] [] (EarCon q 5) (by kernel_rfl) (by kernel_rfl) ?_; simp only [pickL]; with_reducible refine wpQuiet_nil ?_)
      (refine held_quiet [0, 1, 2, 3, 4] [5] (by kernel_rfl) (by kernel_rfl) ?_; simp only [pickL, List.drop]; (repeat (go_big_quiet_step (fail))); with_reducible refine wpQuiet_nil ?_)
      (refine held_call 5 [] rfl (by kernel_rfl) 15 (#[.agg #[.int .i64 y0, .int .i64 y1, .int .i64 y2, .int .i64 y3, .slice ya y4 yc, .int .i64 y5, .slice za y6 zc], .agg #[.int .i64 s0, .int .i64 s1, .int .i64 s2, .int .i64 s3, .slice ca s4 cc, .int .i64 s5, .slice ga s6 gc]]) (fun W => by kernel_rfl) rfl ?_ ?_ ?_)
      ·exact fun W W' v e hh => hh
      ·refine fun W hW _ => (earlier18_calls _ _ y s W (hyv.out.ext (hxq.out.trans hW)) (hs3.out.ext (hxq.out.trans hW))).mono ?_
       rw [hq.out]
       rintro e W' ⟨rfl, hx⟩
       exact ⟨_, rfl, hx, fun _ => rfl⟩
      rintro v ⟨Y, hY, hC⟩
      obtain rfl := hC rfl
      clear hC hY Y
      simp only [Act.put, List.setIfInBounds_toArray, List.set_cons_succ, List.set_cons_zero]
      skip
      intro wz hW hf ht Q0 hQ0
      have hxz := Lib.hid (hxq.out.trans hW)
      have hOz := Lib.hid (owns_ext hOq.out hW)
      clear hf ht hW z0 z1 z2 z3 z4 z5 z6 t0 t1 t2 t3 t4 t5 t6 hxq hOq
      have f0 := hxz.out.cell f0
      have f1 := hxz.out.cell f1
      have f2 := hxz.out.cell f2
      have f3 := hxz.out.cell f3
      have f4 := hxz.out.cell f4
      have f5 := hxz.out.cell f5
      have f6 := hxz.out.cell f6
      have hbz := Nat.lt_of_lt_of_le hb2 hxz.out.size
      have hszz := hxz.out.size
      clear hyv
      refine hQ0 _ _ ?_
      clear hQ0
      cases q with
      | true =>
       rw [if_pos hq.out] at hnx
       go_wp2_with (at_builtin; go_loud (refine wpList_append_any _ rfl (.tmp 41) (.tmp 46) _ rfl W3.heap.size 52 j0 _ 7 88 Tryz.underlying24 hj0 jz0 jz1 jz2 rfl (by decide) (.slice A m C) m ys rfl (hOz.out.alloc _) (wz.heap.size + 1) (some ⟨wz.heap.size, 0, none⟩) 1 1 [.int .i64 y0, .int .i64 y1, .int .i64 y2, .int .i64 y3, .slice ya y4 yc, .int .i64 y5, .slice za y6 zc] rfl (reads_last wz #[.int .i64 y0, .int .i64 y1, .int .i64 y2, .int .i64 y3, .slice ya y4 yc, .int .i64 y5, .slice za y6 zc] 52 7 1 wz.heap.size (wz.heap.size + 1) rfl (by omega) rfl) (by simp [Value.oneCell']) (by unfold maxLen; omega) (by omega) (by rw [World.size_alloc]; omega) ?_; intro v5 w5 hown5 hg5 hat5; obtain ⟨A5, C5, rfl⟩ := owns_form hown5))
       have hx5 := Lib.hid ((hxz.out.alloc (.cells #[.int .i64 y0, .int .i64 y1, .int .i64 y2, .int .i64 y3, .slice ya y4 yc, .int .i64 y5, .slice za y6 zc] 52)).grown hg5 (fun k e => (hOz.out.lt k e).1))
       have hO5 : Hid (w5.ownsRow W3.heap.size 52 7 (.slice A5 (m + 1) C5) (m + 1) (ys ++ [.int .i64 y0, .int .i64 y1, .int .i64 y2, .int .i64 y3, .slice ya y4 yc, .int .i64 y5, .slice za y6 zc])) := Lib.hid hown5
       clear hown5 hg5 hat5
       have hC5 := Lib.hid (hpush.out _ _ hCq.out)
       have hm5 : Hid (m + 1 = (([] : List StandD) ++ (L.take (k + 1)).filter (fun x => earlierB x s)).length) := Lib.hid (by rw [hnx.out, ← List.append_assoc, List.length_append, ← hml.out]; rfl)
       rw [List.append_assoc, ← hnx.out] at hC5
       clear hCq hml hxz hOz hnx
       refine ⟨⟨k + 1, m + 1, C5, A5, _, by omega, by go_num, rfl, by omega, hm5, hx5, hO5, hC5⟩, ?_⟩
       simp [intOf]; omega
      | false =>
       rw [if_neg (by rw [hq.out]; decide), List.append_nil] at hnx
       rw [← hnx.out] at hCq hml
       go_wp2
       go_roundw
       case rel => exact ⟨k + 1, m, C, A, ys, by omega, by go_num, rfl, by omega, hml, hxz, hOz, hCq⟩
       case measure => simp [intOf]; omega
     ·obtain rfl : k = n := by omega
      have htk : L.take k = L := List.take_of_length_le (by rw [hnn.out]; omega)
      rw [htk] at hml hCq
      have hm4 : m ≤ k := by
       have a := hml.out
       have b := List.length_filter_le (fun x => earlierB x s) L
       have c := hnn.out
       simp only [List.nil_append] at a
       omega
      have hCs := Lib.hid (hpS.out W3 hx13.out _ _ hCq.out)
      obtain ⟨P1, hP1⟩ : ∃ P1, Hid (([] : List StandD) ++ L.filter (fun x => earlierB x s) ++ [s] = P1) := ⟨_, rfl⟩
      have hmP : Hid (m + 1 = P1.length) := Lib.hid (by rw [← hP1.out, List.length_append, ← hml.out]; rfl)
      rw [hP1.out] at hCs
      have hfin : Hid (P1 ++ L.filter (fun x => !earlierB x s) = madeSTo l (i + 1)) := Lib.hid (by rw [hnext.out, ← hP1.out]; simp)
      have k0 := hxq.out.cell c0
      have k1 := hxq.out.cell c1
      have k2 := hxq.out.cell c2
      have k3 := hxq.out.cell c3
      have k4 := hxq.out.cell c4
      have k5 := hxq.out.cell c5
      have k6 := hxq.out.cell c6
      have kl := Nat.lt_of_lt_of_le cl hxq.out.size
      have hszz := hxq.out.size
      clear htk hml hCq hP1 hnext
      go_wp2_with (at_builtin; go_loud (refine wpList_append_any _ rfl (.tmp 48) (.tmp 50) _ rfl W3.heap.size 52 j0 _ 7 88 Tryz.underlying24 hj0 jz0 jz1 jz2 rfl (by decide) (.slice A m C) m ys rfl (hOq.out.alloc _) (wq.heap.size + 1) (some ⟨wq.heap.size, 0, none⟩) 1 1 [.int .i64 s0, .int .i64 s1, .int .i64 s2, .int .i64 s3, .slice ca s4 cc, .int .i64 s5, .slice ga s6 gc] rfl (reads_last wq #[.int .i64 s0, .int .i64 s1, .int .i64 s2, .int .i64 s3, .slice ca s4 cc, .int .i64 s5, .slice ga s6 gc] 52 7 1 wq.heap.size (wq.heap.size + 1) rfl (by omega) rfl) (by simp [Value.oneCell']) (by unfold maxLen; omega) (by omega) (by rw [World.size_alloc]; omega) ?_; intro v5 w5 hown5 hg5 hat5; obtain ⟨A5, C5, rfl⟩ := owns_form hown5))
      have hx5 := Lib.hid ((hxq.out.alloc (.cells #[.int .i64 s0, .int .i64 s1, .int .i64 s2, .int .i64 s3, .slice ca s4 cc, .int .i64 s5, .slice ga s6 gc] 52)).grown hg5 (fun k e => (hOq.out.lt k e).1))
      have hO5 : Hid (w5.ownsRow W3.heap.size 52 7 (.slice A5 (m + 1) C5) (m + 1) (ys ++ [.int .i64 s0, .int .i64 s1, .int .i64 s2, .int .i64 s3, .slice ca s4 cc, .int .i64 s5, .slice ga s6 gc])) := Lib.hid hown5
      clear hown5 hg5 hat5
      clear k0 k1 k2 k3 k4 k5 k6 kl hxq hOq
      obtain ⟨m0, hm0⟩ : ∃ m0, m + 1 = m0 := ⟨_, rfl⟩
      rw [hm0] at hmP hO5 ⊢
      have hm5 : m0 ≤ 5 := by omega
      clear hm0 hm4
      obtain ⟨ys0, hys⟩ : ∃ z, ys ++ [.int .i64 s0, .int .i64 s1, .int .i64 s2, .int .i64 s3, .slice ca s4 cc, .int .i64 s5, .slice ga s6 gc] = z := ⟨_, rfl⟩
      rw [hys] at hO5 hCs
      clear hys
      obtain ⟨n, hkn⟩ : ∃ n, k = n := ⟨_, rfl⟩
      rw [hkn] at hnn hn6 hO3 hk ⊢
      clear hkn h2 hm hk
      go_loopw [6, 8] (fun v6 v7 wr2 => ∃ (k m C : Nat) (A : Option Addr) (ys : List Value), k ≤ n ∧ v7 = .int .i64 k ∧ v6 = .slice A m C ∧ m ≤ 10 + k ∧ Hid (m = (P1 ++ (L.take k).filter (fun x => !earlierB x s)).length) ∧ Hid (Ext W3 wr2) ∧ Hid (wr2.ownsRow W3.heap.size 52 7 (.slice A m C) m ys) ∧ Hid (StandsC W3 (P1 ++ (L.take k).filter (fun x => !earlierB x s)) ys)) (fun _ v7 _ => n - (intOf v7).toNat)
      case atStart => exact ⟨0, m0, C5, A5, ys0, by omega, rfl, rfl, by omega, Lib.hid (by simpa using hmP.out), hx5, hO5, Lib.hid (by simpa using hCs.out)⟩
      case round =>
       clear hx5 hO5 hCs hmP
       obtain ⟨k, m, C, A, ys, hk, rfl, rfl, hm, hml, hxq, hOq, hCq⟩ := hrel
       rename World => wq
       by_cases h2 : k < n
       ·skip
        have d3 : decide ((k : Int) < (n : Int)) = true := decide_eq_true (by omega)
        obtain ⟨b2, o2, y, ya, yc, za, zc, rfl, hb2, ey, f0, f1, f2, f3, f4, f5, f6, hyc, hyi⟩ := hrat'.out k (by rw [hnn.out]; exact h2) W3 (Ext.refl _)
        have hnx := Lib.hid (filt_next (p := (fun x => !earlierB x s)) ey.out)
        obtain ⟨q, hq⟩ : ∃ q, Hid (earlierB y s = q) := ⟨_, rfl⟩
        have hpush := Lib.hid (fun (l : List StandD) (xs : List Value) (h : StandsC W3 l xs) => StandsC.snoc hyc hyi h)
        have hyv : Hid (StandV W3 (.agg #[.int .i64 y.meeting, .int .i64 y.room, .int .i64 y.team, .int .i64 y.size, .slice ya y.stream.classes.length yc, .int .i64 y.stream.len, .slice za y.stream.extra.length zc]) y) := Lib.hid ⟨_, _, rfl, hyc, hyi⟩
        unfold standCells at hpush
        obtain ⟨y0, e0⟩ : ∃ q, y.meeting = q := ⟨_, rfl⟩
        obtain ⟨y1, e1⟩ : ∃ q, y.room = q := ⟨_, rfl⟩
        obtain ⟨y2, e2⟩ : ∃ q, y.team = q := ⟨_, rfl⟩
        obtain ⟨y3, e3⟩ : ∃ q, y.size = q := ⟨_, rfl⟩
        obtain ⟨y4, e4⟩ : ∃ q, y.stream.classes.length = q := ⟨_, rfl⟩
        obtain ⟨y5, e5⟩ : ∃ q, y.stream.len = q := ⟨_, rfl⟩
        obtain ⟨y6, e6⟩ : ∃ q, y.stream.extra.length = q := ⟨_, rfl⟩
        rw [e0, e1, e2, e3, e4, e5, e6] at hpush hyv
        rw [e0] at f0
        rw [e1] at f1
        rw [e2] at f2
        rw [e3] at f3
        rw [e4] at f4
        rw [e5] at f5
        rw [e6] at f6
        clear e0 e1 e2 e3 e4 e5 e6 hyc hyi ey
        have z0 := After.cell (hxq.out.cell f0)
        have z1 := After.cell (hxq.out.cell f1)
        have z2 := After.cell (hxq.out.cell f2)
        have z3 := After.cell (hxq.out.cell f3)
        have z4 := After.cell (hxq.out.cell f4)
        have z5 := After.cell (hxq.out.cell f5)
        have z6 := After.cell (hxq.out.cell f6)
        have t0 := After.cell (hxq.out.cell c0)
        have t1 := After.cell (hxq.out.cell c1)
        have t2 := After.cell (hxq.out.cell c2)
        have t3 := After.cell (hxq.out.cell c3)
        have t4 := After.cell (hxq.out.cell c4)
        have t5 := After.cell (hxq.out.cell c5)
        have t6 := After.cell (hxq.out.cell c6)
        go_upto_region 17 with (fail)
        (refine wp_region_held [] [0, 1, 2, 3, 4, 5, 6] [] (EarCon q 5) (by kernel_rfl) (by kernel_rfl) ?_; simp only [pickL]; with_reducible refine wpQuiet_nil ?_)
        (refine held_quiet [0, 1, 2, 3, 4] [5, 6] (by kernel_rfl) (by kernel_rfl) ?_; simp only [pickL, List.drop]; (repeat (go_big_quiet_step (fail))); with_reducible refine wpQuiet_nil ?_)
        (refine held_call 5 [6] rfl (by kernel_rfl) 15 (#[.agg #[.int .i64 y0, .int .i64 y1, .int .i64 y2, .int .i64 y3, .slice ya y4 yc, .int .i64 y5, .slice za y6 zc], .agg #[.int .i64 s0, .int .i64 s1, .int .i64 s2, .int .i64 s3, .slice ca s4 cc, .int .i64 s5, .slice ga s6 gc]]) (fun W => by kernel_rfl) rfl ?_ ?_ ?_)
        ·exact fun W W' v e hh => hh
        ·refine fun W hW _ => (earlier18_calls _ _ y s W (hyv.out.ext (hxq.out.trans hW)) (hs3.out.ext (hxq.out.trans hW))).mono ?_
         rw [hq.out]
         rintro e W' ⟨rfl, hx⟩
         exact ⟨_, rfl, hx, fun _ => rfl⟩
        rintro v ⟨Y, hY, hC⟩
        obtain rfl := hC rfl
        clear hC hY Y
        simp only [Act.put, List.setIfInBounds_toArray, List.set_cons_succ, List.set_cons_zero]
        (refine held_quiet [6] [] (by kernel_rfl) (by kernel_rfl) ?_; simp only [pickL, List.drop]; (repeat (go_big_quiet_step (fail))); with_reducible refine wpQuiet_nil ?_)
        intro wz hW hf ht Q0 hQ0
        have hxz := Lib.hid (hxq.out.trans hW)
        have hOz := Lib.hid (owns_ext hOq.out hW)
        clear hf ht hW z0 z1 z2 z3 z4 z5 z6 t0 t1 t2 t3 t4 t5 t6 hxq hOq
        have f0 := hxz.out.cell f0
        have f1 := hxz.out.cell f1
        have f2 := hxz.out.cell f2
        have f3 := hxz.out.cell f3
        have f4 := hxz.out.cell f4
        have f5 := hxz.out.cell f5
        have f6 := hxz.out.cell f6
        have hbz := Nat.lt_of_lt_of_le hb2 hxz.out.size
        have hszz := hxz.out.size
        clear hyv
        refine hQ0 _ _ ?_
        clear hQ0
        cases q with
        | false =>
         rw [if_pos (by rw [hq.out]; rfl)] at hnx
         go_wp2_with (at_builtin; go_loud (refine wpList_append_any _ rfl (.tmp 65) (.tmp 70) _ rfl W3.heap.size 52 j0 _ 7 88 Tryz.underlying24 hj0 jz0 jz1 jz2 rfl (by decide) (.slice A m C) m ys rfl (hOz.out.alloc _) (wz.heap.size + 1) (some ⟨wz.heap.size, 0, none⟩) 1 1 [.int .i64 y0, .int .i64 y1, .int .i64 y2, .int .i64 y3, .slice ya y4 yc, .int .i64 y5, .slice za y6 zc] rfl (reads_last wz #[.int .i64 y0, .int .i64 y1, .int .i64 y2, .int .i64 y3, .slice ya y4 yc, .int .i64 y5, .slice za y6 zc] 52 7 1 wz.heap.size (wz.heap.size + 1) rfl (by omega) rfl) (by simp [Value.oneCell']) (by unfold maxLen; omega) (by omega) (by rw [World.size_alloc]; omega) ?_; intro v5 w5 hown5 hg5 hat5; obtain ⟨A5, C5, rfl⟩ := owns_form hown5))
         have hx5 := Lib.hid ((hxz.out.alloc (.cells #[.int .i64 y0, .int .i64 y1, .int .i64 y2, .int .i64 y3, .slice ya y4 yc, .int .i64 y5, .slice za y6 zc] 52)).grown hg5 (fun k e => (hOz.out.lt k e).1))
         have hO5 : Hid (w5.ownsRow W3.heap.size 52 7 (.slice A5 (m + 1) C5) (m + 1) (ys ++ [.int .i64 y0, .int .i64 y1, .int .i64 y2, .int .i64 y3, .slice ya y4 yc, .int .i64 y5, .slice za y6 zc])) := Lib.hid hown5
         clear hown5 hg5 hat5
         have hC5 := Lib.hid (hpush.out _ _ hCq.out)
         have hm5 : Hid (m + 1 = (P1 ++ (L.take (k + 1)).filter (fun x => !earlierB x s)).length) := Lib.hid (by rw [hnx.out, ← List.append_assoc, List.length_append, ← hml.out]; rfl)
         rw [List.append_assoc, ← hnx.out] at hC5
         clear hCq hml hxz hOz hnx
         refine ⟨⟨k + 1, m + 1, C5, A5, _, by omega, by go_num, rfl, by omega, hm5, hx5, hO5, hC5⟩, ?_⟩
         simp [intOf]; omega
        | true =>
         rw [if_neg (by rw [hq.out]; decide), List.append_nil] at hnx
         rw [← hnx.out] at hCq hml
         go_wp2
         go_roundw
         case rel => exact ⟨k + 1, m, C, A, ys, by omega, by go_num, rfl, by omega, hml, hxz, hOz, hCq⟩
         case measure => simp [intOf]; omega
       ·have htk : L.take k = L := List.take_of_length_le (by rw [hnn.out]; omega)
        rw [htk, hfin.out] at hml hCq
        have hlm := madeSTo_len l (i + 1)
        have hmi : m ≤ i + 1 := by have := hml.out; omega
        have hb9 := Lib.hid (owns_base hOq.out hE3.out.size)
        have hE9 := Lib.hid (hE3.out.trans hxq.out)
        have hC9 := Lib.hid (StandsC.ext hxq.out hCq.out)
        clear hxq hOq hCq hlm
        go_wp2
        first
        | (go_roundw
           case rel => exact ⟨i + 1, m, C, A, ys, by omega, by go_num, rfl, hmi, hml, hE9, hb9, hC9⟩
           case measure => simp [intOf]; omega)
        | (refine ⟨⟨i + 1, m, C, A, ys, by omega, by go_num, rfl, hmi, hml, hE9, hb9, hC9⟩, ?_⟩; simp [intOf]; omega)
  ·have hR : Hid (madeSTo l i = madeS l) := Lib.hid (by unfold madeS; rw [show i = min l.length 5 by omega])
   rw [hR.out] at hn hC
   by_cases q : i < l.length
   ·have d1 : decide ((i : Int) < (l.length : Int)) = true := decide_eq_true (by omega)
    have d2 : decide ((i : Int) < 5) = false := decide_eq_false (by omega)
    go_wp2
    go_ret
    exact ⟨_, rfl, stands_of_row (by rw [← hn.out]; exact hO.out) hC.out, hE.out⟩
   ·have d1 : decide ((i : Int) < (l.length : Int)) = false := decide_eq_false (by omega)
    go_wp2
    go_ret
    exact ⟨_, rfl, stands_of_row (by rw [← hn.out]; exact hO.out) hC.out, hE.out⟩
end Go.Proofs.YtepcdhpikpmepaaGreat
