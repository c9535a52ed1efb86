/- Walk of package carry: States. -/
import Derived.Test.YtepcdhpikpmepaaGreatCHQ
import Derived.Laws.CopyRow
import Derived.Maps.AppendAt
namespace Go.Proofs.YtepcdhpikpmepaaGreat
open Go.RowKit Go.Shelf

attribute [local go_sem] Oper.semAt_some

/-! ### slices of slices of integers -/
def IntRows (w : World) (v : Value) (ls : List (List Int)) : Prop :=
 ∃ R : Nat → Value, Sl w 1 v ls.length (fun i _ => R i) ∧ ∀ i, i < ls.length → Ints w (R i) (ls[i]?.getD [])
theorem IntRows.ext {w w' : World} {v : Value} {ls : List (List Int)} (h : IntRows w v ls) (e : Ext w w') : IntRows w' v ls :=
 let ⟨R, h1, h2⟩ := h
 ⟨R, Sl.ext h1 e, fun i hi => (h2 i hi).ext e⟩
theorem IntRows.form {w : World} {v : Value} {ls : List (List Int)} (h : IntRows w v ls) : ∃ a c, v = .slice a ls.length c := let ⟨_, ⟨a, c, hv, _⟩, _⟩ := h; ⟨a, c, hv⟩
def IntRowsAt (a : Option Addr) (w : World) (ls : List (List Int)) : Prop :=
 ∀ i, i < ls.length → ∀ W, Ext w W → ∃ b off r ra rc, a = some ⟨b, off, none⟩ ∧ b < W.heap.size ∧ Hid (ls[i]? = some r) ∧ W.cell? ⟨b, off + i, none⟩ = some (.slice ra r.length rc) ∧ Ints W (.slice ra r.length rc) r
theorem IntRows.open {w : World} {v : Value} {ls : List (List Int)} (h : IntRows w v ls) : ∃ a c, v = .slice a ls.length c ∧ ls.length ≤ c ∧ c ≤ 9223372036854775807 ∧ IntRowsAt a w ls := by
 obtain ⟨R, h1, h2⟩ := h
 obtain ⟨a, c, hv, hn, hc, h⟩ := Sl.open h1
 refine ⟨a, c, hv, hn, hc, fun i hi W e => ?_⟩
 obtain ⟨b, off, ha, hb, h⟩ := h i hi
 have hi2 := (h2 i hi).ext e
 have ex : ls[i]? = some ls[i] := by simp [hi]
 simp only [ex, Option.getD_some] at hi2
 obtain ⟨ra, rc, hR, _⟩ := Ints.open hi2
 refine ⟨b, off, ls[i], ra, rc, ha, Nat.lt_of_lt_of_le hb e.size, ex, ?_, by rw [← hR]; exact hi2⟩
 have := h W e 0 (by omega)
 rw [← hR]
 simpa using this
def KeptRows (W : World) (B : Nat) (xs : List Value) (ls : List (List Int)) : Prop :=
 xs.length = ls.length ∧ ∀ (j : Nat) (st : List Int), ls[j]? = some st → ∃ K, xs[j]? = some (Value.slice (some ⟨K, 0, none⟩) st.length st.length) ∧ B ≤ K ∧ St W K st ∧ st.length ≤ maxLen
theorem KeptRows.keep {W W' : World} {B : Nat} {xs : List Value} {ls : List (List Int)} (h : KeptRows W B xs ls) {X : Nat → Prop} (k : Keep X W W') (hX : ∀ K st, B ≤ K → St W K st → ¬ X K) : KeptRows W' B xs ls :=
 ⟨h.1, fun j st hj => let ⟨K, a, b, c, d⟩ := h.2 j st hj; ⟨K, a, b, k.blk c (hX K st b c), d⟩⟩
theorem KeptRows.ext {W W' : World} {B : Nat} {xs : List Value} {ls : List (List Int)} (h : KeptRows W B xs ls) (e : Ext W W') : KeptRows W' B xs ls := h.keep (Keep.of_ext (X := fun _ => False) e) (fun _ _ _ _ => id)
theorem KeptRows.push {W : World} {B K : Nat} {xs : List Value} {ls : List (List Int)} {st : List Int} (h : KeptRows W B xs ls) (hK : B ≤ K) (hS : St W K st) (hl : st.length ≤ maxLen) : KeptRows W B (xs ++ [Value.slice (some ⟨K, 0, none⟩) st.length st.length]) (ls ++ [st]) := by
 refine ⟨by simp [h.1], fun j s hj => ?_⟩
 by_cases e : j < ls.length
 ·rw [List.getElem?_append_left e] at hj
  obtain ⟨K', a, b, c, d⟩ := h.2 j s hj
  exact ⟨K', by rw [List.getElem?_append_left (by rw [h.1]; exact e)]; exact a, b, c, d⟩
 ·rw [List.getElem?_append_right (by omega)] at hj
  have e2 : j - ls.length = 0 := by
   cases hk : j - ls.length with
   | zero => rfl
   | succ k => rw [hk] at hj; simp at hj
  rw [e2] at hj
  obtain rfl : s = st := by simpa using hj.symm
  refine ⟨K, ?_, hK, hS, hl⟩
  rw [List.getElem?_append_right (by rw [h.1]; omega), h.1, e2]
  rfl
theorem KeptRows.read {W : World} {B B' : Nat} {xs : List Value} {ls : List (List Int)} {v : Value} (h : KeptRows W B xs ls) (ho : W.ownsRow B' 31 1 v ls.length xs) : IntRows W v ls := by
 refine ⟨fun i => xs[i]?.getD undef, sl_of_owns ho fun i hi j hj => ?_, fun i hi => ?_⟩
 ·obtain rfl : j = 0 := by omega
  rw [Nat.mul_one, Nat.add_zero]
  have : i < xs.length := by rw [h.1]; exact hi
  simp [this]
 ·have ex : ls[i]? = some ls[i] := by simp [hi]
  obtain ⟨K, a, _, c, d⟩ := h.2 i _ ex
  simp only [a, ex, Option.getD_some]
  exact c.read d
theorem alloc_setRow (W : World) (z cs : Array Value) (T : TypeId) : (W.alloc (.cells z T)).setRow W.heap.size cs = W.alloc (.cells cs T) := by
 unfold World.setRow World.alloc
 congr 1
 apply Array.ext_getElem?
 intro i
 by_cases h : i = W.heap.size
 ·subst h
  rw [Array.getElem?_modify, if_pos rfl]
  simp
 ·by_cases h2 : i < W.heap.size
  ·have h3 : W.heap.size ≠ i := fun e => h e.symm
   simp [Array.getElem?_modify, Array.getElem?_push, h, h3]
  ·rw [Array.getElem?_eq_none (by simp; omega), Array.getElem?_eq_none (by simp; omega)]
theorem run_copy_state (W : World) (S : Nat) (st : List Int) (hS : St W S st) (ty : TypeId) :
  (Builtin.copy_ #[31, 31] ty #[.slice (some ⟨W.heap.size, 0, none⟩) st.length st.length, .slice (some ⟨S, 0, none⟩) st.length st.length]).run Tryz.prog (W.alloc (.cells (zerosV st.length) 3)) = .ok (goInt st.length) (W.alloc (.cells (st.map (Value.int .i64)).toArray 3)) := by
 obtain ⟨i0, hi0, hz0, hz1, hz2⟩ := info_parts int_info
 have h := run_copy_row (P := Tryz.prog) (W.alloc (.cells (zerosV st.length) 3)) 31 31 ty 3 W.heap.size 0 st.length st.length ⟨S, 0, none⟩ st.length st.length (zerosV st.length) 3 (st.map (Value.int .i64)) Tryz.underlying31
  (by simp [hi0, hz1]) (heap_alloc_new W _) (by simp) (fun j v hj => ?_) (by simp [zerosV, zerosL]) (fun v hv => by simp at hv; obtain ⟨x, _, rfl⟩ := hv; rfl)
 ·rw [h, alloc_setRow]
  simp [zerosV, zerosL]
 ·have hlt : j < st.length := by have := (List.getElem?_eq_some_iff.1 hj).1; simpa using this
  have e : (⟨S, 0, none⟩ : Addr).add j = ⟨S, j, none⟩ := by unfold Addr.add; split <;> simp_all
  rw [e]
  have := (hS.ext ((Ext.refl W).alloc (.cells (zerosV st.length) 3))).cell hlt
  rw [this]
  simp [hlt] at hj
  rw [← hj]
  simp [atI, hlt]

def trailTo (t : List WishD) (l : List StepD) (i : Nat) : List (List Int) := (List.range i).map (stAt t l)
theorem trailTo_step (t : List WishD) (l : List StepD) (i : Nat) : trailTo t l (i + 1) = trailTo t l i ++ [stAt t l i] := by simp [trailTo, List.range_succ]
theorem trailTo_len (t : List WishD) (l : List StepD) (i : Nat) : (trailTo t l i).length = i := by simp [trailTo]
def statesS (t : List WishD) (l : List StepD) : List (List Int) × Int := if stepsT t l = 0 then (trailTo t l (l.length + 1), 0) else ([], stepsT t l)
def StatesI (w : World) (M B : Nat) (t : List WishD) (l : List StepD) (i : Nat) (W : World) : Prop :=
 Ext w W ∧ ∃ v xs, Blk W M 42 #[v] ∧ W.ownsRow (B + 3) 31 1 v i xs ∧ KeptRows W (B + 3) xs (trailTo t l i)
theorem StatesI.stands {w : World} {M B : Nat} {t : List WishD} {l : List StepD} {i : Nat} (hw : w.heap.size ≤ B) (hM : M < B) : Stands B (StatesI w M B t l i) := fun A A' row h g r => by
 obtain ⟨h1, v, xs, h2, h3, h4⟩ := h
 have k : Keep (fun x => row = some x) A A' := (Keep.refl _ A).grown g (fun g' e => Or.inl e)
 refine ⟨Stands.ext hw A A' row h1 g r, v, xs, Stands.blk hM A A' row h2 g r, k.owns h3 (fun g' hg e => ?_), h4.keep k (fun K st hK _ e => ?_)⟩
 ·have := (h3.lt g' hg).1
  rcases r with r | r | r | r <;> rw [r] at e <;> simp at e <;> omega
 ·rcases r with r | r | r | r <;> rw [r] at e <;> simp at e <;> omega
theorem ints_info : (Tryz.prog.info? 31).map (fun i => (i.zero, i.size, i.bytes)) = some (some (.slice none 0 0), 1, 24) := by kernel_rfl

set_option maxHeartbeats 3200000 in
set_option maxRecDepth 100000 in
theorem states_calls (wv sv : Value) (t : List WishD) (l : List (Int × Int)) (w : World) (h : Wishes w wv t) (hs : Spans w sv l) :
  Calls Tryz.prog 10 #[.agg #[wv], sv] w fun e w' => ∃ v, e = .returned (.tuple #[v, .int .i64 (statesS t l).2]) ∧ IntRows w' v (statesS t l).1 ∧ Ext w w' := by
 have hT := Lib.hid h
 have hS := Lib.hid hs
 obtain ⟨ta, tc, rfl⟩ := h.form
 obtain ⟨sa, sc, rfl⟩ := hs.form
 clear h hs
 obtain ⟨z, hz⟩ : ∃ z, Hid (stepsT t l = z) := ⟨_, rfl⟩
 have hchk : Hid (∀ W, Ext w W → Calls Tryz.prog 30 #[.agg #[.slice ta t.length tc], .slice sa l.length sc] W fun e w' => e = .returned (.int .i64 z) ∧ Ext W w') := fun W hW => hz.out ▸ carryCheck_calls _ _ t l W (hT.out.ext hW) (hS.out.ext hW)
 obtain ⟨j0, hj0, jz0, jz1, jz2⟩ := info_parts ints_info
 refine (callsIn_wide (n := 5)).1 ?_
 refine callsIn_of_wp_marks Tryz.func10 rfl trivial ?_ rfl
 simp only [Tryz.ntmps10, List.size_toArray, List.length_cons, List.length_nil, Nat.reduceAdd, Nat.reduceSub, Array.replicate_succ, Array.replicate_zero, List.push_toArray, List.append_toArray, List.nil_append, List.cons_append]
 gi_wp2_with fail
 refine ⟨trivial, (callsIn_wide.2 (hchk.out _ (by with_reducible repeat' (first | exact Ext.refl _ | assumption | refine Ext.drewN ?_ _ | refine Ext.drew ?_ | refine Ext.alloc ?_ _ | refine Ext.trans ?_ (by with_reducible assumption))))).mono ?_⟩
 rintro e w1 ⟨rfl, hx1⟩
 have c0 : w1.cell? ⟨w.heap.size, 0, none⟩ = some (.slice ta t.length tc) := hx1.cell (by simp)
 have hW := Lib.hid (((Ext.refl w).alloc (.cells #[.slice ta t.length tc] 28)).trans hx1)
 clear hx1 hchk
 by_cases h0 : z = 0
 ·have hz0 : (z != 0) = false := by simp [h0]
  obtain ⟨hv, hok, hll⟩ := stepsT_ok (hz.out.trans h0)
  have hok' := Lib.hid hok
  obtain ⟨hb1, hb2⟩ := stepsT_bd hv
  have hst : Hid (stepsT t l = 0) := hz.out.trans h0
  clear hz h0 hv hok
  have hlt0 := World.block_lt_of_cell? _ _ c0
  gi_wp2_with fail
  refine ⟨trivial, (callsIn_wide.2 (walk_calls _ _ _ _ _ _ _)).mono ?_⟩
  rintro e w2 ⟨rfl, hx2, k0, k1⟩
  have hM : Hid (Blk w2 w1.heap.size 42 #[.slice none 0 0]) := Lib.hid ((Keep.of_ext (X := fun _ => False) hx2).blk (blk_new' rfl rfl) id)
  have hMlt := hM.out.lt
  have hE2 := Lib.hid (hW.out.trans (((Ext.refl w1).alloc (.cells #[.slice none 0 0] 42)).trans hx2))
  have hsz := hE2.out.size
  have hs1 := hW.out.size
  have hI0 : Hid (StatesI w w1.heap.size w2.heap.size t l 0 w2) := Lib.hid ⟨hE2.out, .slice none 0 0, [], hM.out, World.ownsRow_nil _ _ _ _, rfl, fun j st hj => by simp [trailTo] at hj⟩
  clear hx2 c0
  simp only [World.size_alloc] at k0 k1
  gi_wp2_with fail
  refine wpIn_range_walk (n := 5) (by omega) ?hg k0 k1 hE2.out hS.out hok'.out hb2 (StatesI w w1.heap.size w2.heap.size t l) (fun _ _ => False) (fun i => StatesI.stands hsz hMlt) (fun c A A' row x _ _ => x) hI0.out 8 ?assign ?body ?done ?stop
  case hg => rfl
  case assign =>
   intro l W K hK
   simp only [List.setIfInBounds_toArray, List.set_cons_succ, List.set_cons_zero] at hK
   gi_wp2
   exact hK
  case body =>
   rintro l' i W hi ⟨hx, v, xs, hB, hO, hK⟩ hxw hcb hSt hSlt
   simp only [List.setIfInBounds_toArray, List.set_cons_succ, List.set_cons_zero]
   have hsl := stAt_len t l i
   have mlt := hB.lt
   obtain ⟨A, C, rfl⟩ := owns_form hO
   have hOb := hO.lt
   have m0 : W.cell? ⟨w1.heap.size, 0, none⟩ = some (.slice A i C) := hB.cell 0
   have hmk := run_make_ints t.length (by omega)
   have hcp : ∀ ty, (Builtin.copy_ #[31, 31] ty #[.slice (some ⟨W.heap.size, 0, none⟩) t.length t.length, .slice (some ⟨w2.heap.size + 2, 0, none⟩) t.length t.length]).run Tryz.prog (W.alloc (.cells (zerosV t.length) 3)) = .ok (goInt t.length) (W.alloc (.cells ((stAt t l i).map (Value.int .i64)).toArray 3)) := fun ty => by
    have := run_copy_state W _ _ hSt ty
    rwa [hsl] at this
   have hB' := Lib.hid hB
   have hx' := Lib.hid hx
   have hcb' := Lib.hid hcb
   have hSt' := Lib.hid hSt
   have hO' := Lib.hid hO
   have hK' := Lib.hid hK
   have hOb' := Lib.hid hOb
   clear hB hx hxw hcb hSt hO hK hOb
   obtain ⟨cs, hcs⟩ : ∃ cs, Hid (((stAt t l i).map (Value.int .i64)).toArray = cs) := ⟨_, rfl⟩
   rw [hcs.out] at hcp
   gi_wp2_with (gi_at_builtin; refine wpListIn_append_own _ rfl (.tmp 26) (.tmp 28) _ rfl (w2.heap.size + 3) 31 j0 _ 1 24 Tryz.underlying42 hj0 jz0 jz1 jz2 rfl (by decide) (.slice A i C) i xs rfl ((hO'.out.alloc _).alloc _) ⟨W.heap.size + 1, 0, none⟩ 1 1 [.slice (some ⟨W.heap.size, 0, none⟩) t.length t.length] rfl rfl (by have := cell_one_new (W.alloc (.cells cs 3)) (.slice (some ⟨W.heap.size, 0, none⟩) t.length t.length) 31; rw [World.size_alloc] at this; exact this) (by simp [Value.oneCell']) (by unfold maxLen; omega) (by omega) (by rw [World.size_alloc, World.size_alloc]; omega) ?_; intro v5 w5 hown5 hg5 _; obtain ⟨A5, C5, rfl⟩ := owns_form hown5; have hM5 : Blk w5 w1.heap.size 42 #[.slice A i C] := ((hB'.out.alloc _).alloc _).grown hg5 (fun e => by have := (hOb'.out _ e.symm).1; omega); have m5 : w5.cell? ⟨w1.heap.size, 0, none⟩ = some (.slice A i C) := hM5.cell 0; have f5 := hM5.frozen 0; have lt5 := hM5.lt)
   -- the round's end
   have hX : Ext W ((W.alloc (.cells cs 3)).alloc (.cells #[.slice (some ⟨W.heap.size, 0, none⟩) t.length t.length] 31)) := ((Ext.refl W).alloc _).alloc _
   have hrow : ∀ g, (Value.slice A i C).ownBlock = some g → w2.heap.size + 3 ≤ g ∧ g < W.heap.size := fun g e => hOb'.out g e
   have hcells : ∀ (j : Nat) (o : Obj), (Value.slice A i C).ownBlock = some j → ((W.alloc (.cells cs 3)).alloc (.cells #[.slice (some ⟨W.heap.size, 0, none⟩) t.length t.length] 31)).heap[j]? = some o → o.isCells = true := fun j o e ho => by
    obtain ⟨cs', hb⟩ := owns_block ((hO'.out.alloc _).alloc _) e
    rw [hb] at ho
    cases ho
    rfl
   have kp : Keep (fun x => (Value.slice A i C).ownBlock = some x) ((W.alloc (.cells cs 3)).alloc (.cells #[.slice (some ⟨W.heap.size, 0, none⟩) t.length t.length] 31)) w5 := (Keep.refl _ _).grown hg5 (fun g e => Or.inl e)
   have hnew : St ((W.alloc (.cells cs 3)).alloc (.cells #[.slice (some ⟨W.heap.size, 0, none⟩) t.length t.length] 31)) W.heap.size (stAt t l i) := by
    rw [← hcs.out]
    exact Blk.alloc (blk_new' rfl rfl) _
   have hK5 : KeptRows w5 (w2.heap.size + 3) (xs ++ [.slice (some ⟨W.heap.size, 0, none⟩) t.length t.length]) (trailTo t l (i + 1)) := by
    have h1 := (hK'.out.ext hX).push (st := stAt t l i) (K := W.heap.size) (by omega) hnew (by rw [hsl]; unfold maxLen; omega)
    rw [hsl] at h1
    rw [trailTo_step]
    refine h1.keep kp (fun K st' _ hSK e => ?_)
    obtain ⟨cs', hb⟩ := owns_block ((hO'.out.alloc _).alloc _) e
    exact absurd (blk_type hb hSK) (by decide)
   have hx5 : Ext w w5 := (hx'.out.trans hX).grown hg5 (fun g e => by have := hrow g e; omega)
   have hS5 : St w5 (w2.heap.size + 2) (stAt t l i) := ((hSt'.out.alloc _).alloc _).grown hg5 (fun e => by have := (hrow _ e.symm).1; omega)
   have hc5 : w5.cell? ⟨w1.heap.size + 1 + 1, 0, none⟩ = some (.slice sa l.length sc) := kp.cell (hX.cell hcb'.out) (fun e => by have := (hrow _ e).1; dsimp only at this; omega)
   have hX' := Lib.hid hX
   have hcells' := Lib.hid hcells
   have hK5' := Lib.hid hK5
   have hx5' := Lib.hid hx5
   have hS5' := Lib.hid hS5
   have hc5' := Lib.hid hc5
   have hg5' := Lib.hid hg5
   have hown5' := Lib.hid hown5
   have hM5' := Lib.hid hM5
   clear hX hcells hK5 hx5 hS5 hc5 hg5 hown5 hM5 kp hnew hrow hK' hO' hB' hSt' hcb' hx' hOb' hcs
   gi_wp2
   have ks := keep_set w5 w1.heap.size 0 (.slice A5 (i + 1) C5)
   have hx6 := hx5'.out.setCell (p := ⟨w1.heap.size, 0, none⟩) hs1 (.slice A5 (i + 1) C5)
   refine ⟨((((KeepsOthers.alloc W _).trans (KeepsOthers.alloc _ _)).trans (KeepsOthers.of_grownBy hg5'.out hcells'.out)).trans (KeepsOthers.setCell _ _ _)).from _, hx6, ks.cell hc5'.out (by dsimp only; omega), Blk.far hS5'.out (by dsimp only; omega) _,
    hx6, _, _, hM5'.out.set_ 0 _, ks.owns hown5'.out (fun g e h => by have := (hown5'.out.lt g e).1; omega), hK5'.out.keep ks (fun K st' hKB _ e => by omega)⟩
  case done =>
   rintro D W hD ⟨hx, v, xs, hB, hO, hK⟩ hDk
   have hBc : W.cell? ⟨w1.heap.size, 0, none⟩ = some v := hB.cell 0
   obtain ⟨A, C, rfl⟩ := owns_form hO
   have R : Hid (statesS t l = (trailTo t l (l.length + 1), 0)) := by show _ = _; unfold statesS; rw [if_pos hst.out]
   gi_wp2
   refine postM_ret1 hDk (results_tmp2 rfl _ _ _) ?_
   rw [R.out]
   have hgr := grownBy_putObj' W D (.deferred none)
   have kd : Keep (fun x => some D = some x) W (W.putObj D (.deferred none)) := (Keep.refl _ W).grown hgr (fun g e => Or.inl e)
   have hnc : ∀ (K : Nat) (T : TypeId) (cs : Array Value), Blk W K T cs → ¬ some D = some K := fun K T cs hb e => by
    cases e
    rw [hb] at hDk
    cases hDk
   have hl1 : (trailTo t l (l.length + 1)).length = l.length + 1 := trailTo_len t l _
   refine ⟨_, rfl, ?_, hx.grown hgr (fun k e => by cases e; omega)⟩
   refine (hK.keep kd (fun K st _ hSK => hnc K _ _ hSK)).read (B' := w2.heap.size + 3) ?_
   rw [hl1]
   exact kd.owns hO (fun g hg => by
    obtain ⟨cs, hb⟩ := owns_block hO hg
    exact hnc g _ _ hb)
  case stop =>
   rintro D c W _ h _
   exact h.elim
 ·have hz0 : (z != 0) = true := by simp [h0]
  have R : Hid (statesS t l = ([], z)) := by show _ = _; unfold statesS; rw [hz.out, if_neg h0]
  clear hz h0
  gi_wp2
  refine postM_ret (results_tmp2 rfl _ _ _) ?_
  rw [R.out]
  exact ⟨_, rfl, ⟨fun _ => undef, ⟨none, 0, rfl, Nat.le_refl _, by decide, fun h => by simp at h⟩, fun i hi => by simp at hi⟩, hW.out⟩
end Go.Proofs.YtepcdhpikpmepaaGreat
