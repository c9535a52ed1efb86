/- Walk of package core: All. -/
import Derived.Test.YtjglidlmpjmjeaaGreatDoorKX
import Derived.Test.YtjglidlmpjmjeaaGreatDoorHJ
namespace Go.Proofs.YtjglidlmpjmjeaaGreatDoor
open Go.RowKit Go.Shelf List
attribute [local go_sem] Oper.semAt_some run_store_func

theorem rows_info : (Tryz.prog.info? 23).map (fun i => (i.zero, i.size, i.bytes)) = some (some (.slice none 0 0), 1, 24) := by kernel_rfl
def outsT (t : List WishD) (i : Nat) : List (List Int) := ((sels t.length).take i).filter (coreB t)
theorem outsT_step {t : List WishD} {i : Nat} {l : List Int} (h : (sels t.length)[i]? = some l) : outsT t (i + 1) = outsT t i ++ (if coreB t l = true then [l] else []) := by
 unfold outsT
 rw [List.take_add_one, h, List.filter_append]
 cases hc : coreB t l <;> simp [hc]
theorem outsT_end (t : List WishD) : outsT t (sels t.length).length = (sels t.length).filter (coreB t) := by unfold outsT; rw [List.take_length]
theorem outsT_key {t : List WishD} {i : Nat} {l : List Int} (hi : (sels t.length)[i]? = some l) : (!selSt t l && !((outsT t i).any fun c => inSelB c l)) = coreB t l := by
 have hlt := (List.getElem?_eq_some_iff.1 hi).1
 have e : sels t.length = (sels t.length).take i ++ l :: (sels t.length).drop (i + 1) := by
  have h2 := List.getElem?_eq_some_iff.1 hi
  conv => lhs; rw [← List.take_append_drop i (sels t.length), List.drop_eq_getElem_cons hlt]
  rw [h2.2]
 exact core_key e
def KB (A B : World) : Prop := ∀ (g : Nat) (ty : TypeId) (cs : Array Value), Blk A g ty cs → Blk B g ty cs
theorem KB.of_ext {A B : World} (h : Ext A B) : KB A B := fun _ _ _ a => (Keep.of_ext (X := fun _ => False) h).blk a id
theorem KB.kt {A B : World} (h : KB A B) : KT A B := fun g ty cs a _ _ => h g ty cs a
theorem KB.owns {A B : World} {e : TypeId} {base size n : Nat} {v : Value} {xs : List Value} (h : KB A B) (ho : A.ownsRow base e size v n xs) : B.ownsRow base e size v n xs := by
 rcases ho with ⟨h1, h2 | ⟨g, cap, cur, e, hb, hg, r⟩⟩
 ·exact ⟨h1, Or.inl h2⟩
 ·exact ⟨h1, Or.inr ⟨g, cap, cur, e, hb, h g _ _ hg, r⟩⟩
structure AllI (w : World) (Tb Rb Eb Ob B : Nat) (tv : Value) (t : List WishD) (i : Nat) (W : World) : Prop where
 ext : Ext w W
 tb : Blk W Tb 27 #[tv]
 rb : Blk W Rb 32 #[.slice none 0 0]
 eb : Blk W Eb 29 #[.int .i64 0]
 out : ∃ v xs, Blk W Ob 32 #[v] ∧ W.ownsRow B 23 1 v (outsT t i).length xs ∧ KeptS W xs (outsT t i)
section
variable {w A A' : World} {Tb Rb Eb Ob B i : Nat} {tv : Value} {t : List WishD}
theorem AllI.kb (h : AllI w Tb Rb Eb Ob B tv t i A) (k : KB A A') (hx : Ext w A') : AllI w Tb Rb Eb Ob B tv t i A' := by
 obtain ⟨v, xs, h1, h2, h3⟩ := h.out
 exact ⟨hx, k _ _ _ h.tb, k _ _ _ h.rb, k _ _ _ h.eb, v, xs, k _ _ _ h1, k.owns h2, h3.kt k.kt⟩
theorem AllI.toExt (h : AllI w Tb Rb Eb Ob B tv t i A) (k : Ext A A') : AllI w Tb Rb Eb Ob B tv t i A' := h.kb (KB.of_ext k) (h.ext.trans k)
theorem AllI.stands (hw : w.heap.size ≤ B) : StandsR B (AllI w Tb Rb Eb Ob B tv t i) := fun A A' h hh => by
 rcases hh with k | ⟨row, hg, hn, hr⟩
 ·exact h.toExt k
 ·refine h.kb (fun g ty cs hb => hb.grown hg fun e => hn ty cs g e.symm hb) (h.ext.grown hg fun k e => ?_)
  rcases hr with r | r <;> rw [r] at e <;> have := Option.some.inj e <;> omega
end
theorem keepsFrom_keep {A B : World} {X : Nat → Prop} {b : Nat} (h : Keep X A B) (hX : ∀ g o, X g → A.heap[g]? = some o → o.isCells = true) : KeepsFrom b A B :=
 ⟨h.size, fun k o _ hk ho => (h.block k (Array.getElem?_eq_some_iff.1 hk).1 fun hx => by rw [hX k o hx hk] at ho; cases ho).trans hk⟩
theorem keepsFrom_ext {W W' : World} {b : Nat} (e : Ext W W') : KeepsFrom b W W' := ⟨e.size, fun _ _ _ hk _ => (e.heap (Array.getElem?_eq_some_iff.1 hk).1).trans hk⟩
theorem allPostM_ret1 {F : Fence} {n D : Nat} {P : Program} {fn : Func} {R : Ending → World → Prop} {tmps : Array Value} {w : World} {v : Value} (hK : w.heap[D]? = some (.deferred (some [])))
  (h : (results fn tmps).run P (w.putObj D (.deferred none)) = .ok v (w.putObj D (.deferred none))) (hR : R (.returned v) (w.putObj D (.deferred none))) :
  bodyPostM F n P fn R .ret { tmps := tmps, defers := [{ target := .collected D, args := #[] }] } w := ⟨by simp, .inl ⟨_, _, rfl, run_takeDeferred hK, v, h, hR⟩⟩
theorem all_results {tmps : Array Value} {w : World} {g g' : Nat} {v : Value} {x : Int} (hp : tmps.getD 2 undef = .pointer (some ⟨g, 0, none⟩)) (hp2 : tmps.getD 3 undef = .pointer (some ⟨g', 0, none⟩)) (hb : Blk w g 32 #[v]) (hb2 : Blk w g' 29 #[.int .i64 x])
  (hv : ∃ a n c, v = .slice a n c) : (results Tryz.f10 tmps).run Tryz.prog w = .ok (.tuple #[v, .int .i64 x]) w := by
 obtain ⟨a, n, c, rfl⟩ := hv
 have hp' : tmps[2]?.getD undef = .pointer (some ⟨g, 0, none⟩) := by simpa using hp
 have hp2' : tmps[3]?.getD undef = .pointer (some ⟨g', 0, none⟩) := by simpa using hp2
 have hc : w.cell? ⟨g, 0, none⟩ = some (.slice a n c) := hb.cell 0
 have hc2 : w.cell? ⟨g', 0, none⟩ = some (.int .i64 x) := hb2.cell 0
 simp [results, Tryz.results10, hp', hp2', asAddr, go_sem, hc, hc2]
set_option maxHeartbeats 3200000 in
set_option maxRecDepth 100000 in
theorem all_callsO (wv : Value) (t : List WishD) (w : World) (h : Wishes w wv t) (hs : SmallT t) (hv0 : validT t = 0) :
  Calls Tryz.prog 10 #[.agg #[wv]] w fun e w' => ∃ v xs, e = .returned (.tuple #[v, .int .i64 0]) ∧ w'.ownsRow w.heap.size 23 1 v ((sels t.length).filter (coreB t)).length xs ∧ KeptS w' xs ((sels t.length).filter (coreB t)) ∧ Ext w w' := by
 have hT := Lib.hid h
 obtain ⟨ta, tc, rfl, htn, htc, _⟩ := h.open
 clear h
 have hlen := hs.len
 have hv : Hid (∀ W, Ext w W → Calls Tryz.prog 26 #[.agg #[.slice ta t.length tc]] W fun e w' => e = .returned (.int .i64 0) ∧ Ext W w') := Lib.hid fun W hW => hv0 ▸ valid_calls _ t W (hT.out.ext hW)
 obtain ⟨j0, hj0, jz0, jz1, jz2⟩ := info_parts rows_info
 have hs' := Lib.hid hs
 have hsp := Lib.hid (spans_valid hv0)
 clear hs hv0
 refine (callsIn_wide (n := 5)).1 ?_
 refine callsIn_of_wp_marks Tryz.func10 rfl trivial ?_ rfl
 simp only [Tryz.ntmps10, List.size_toArray, List.length_cons, List.length_nil, Nat.reduceAdd, Nat.reduceSub, Array.replicate_succ, Array.replicate_zero, List.push_toArray, List.append_toArray, List.nil_append, List.cons_append]
 gi_wp2_with fail
 refine ⟨trivial, (callsIn_wide.2 (hv.out _ (by with_reducible repeat' (first | exact Ext.refl _ | assumption | refine Ext.drewN ?_ _ | refine Ext.drew ?_ | refine Ext.alloc ?_ _ | refine Ext.trans ?_ (by with_reducible assumption))))).mono ?_⟩
 rintro e w1 ⟨rfl, hx1⟩
 have k1 := Keep.of_ext (X := fun _ => False) hx1
 have hTb : Hid (Blk w1 w.heap.size 27 #[.slice ta t.length tc]) := Lib.hid (k1.blk (Blk.alloc (Blk.alloc (blk_new' rfl rfl) _) _) id)
 have hRb : Hid (Blk w1 (w.heap.size + 1) 32 #[.slice none 0 0]) := Lib.hid (k1.blk (Blk.alloc (blk_new' (by simp) rfl) _) id)
 have hEb : Hid (Blk w1 (w.heap.size + 2) 29 #[.int .i64 0]) := Lib.hid (k1.blk (blk_new' (by simp) rfl) id)
 have hE1 : Hid (Ext w w1) := Lib.hid ((((Ext.refl w).alloc _).alloc _).alloc _ |>.trans hx1)
 have c0 : w1.cell? ⟨w.heap.size, 0, none⟩ = some (.slice ta t.length tc) := hTb.out.cell 0
 have l0 := hTb.out.lt
 have hw1 : w.heap.size + 2 < w1.heap.size := hEb.out.lt
 have d1 : decide (12 < (t.length : Int)) = false := decide_eq_false (by omega)
 clear hx1 k1 hv
 gi_wp2_with fail
 refine ⟨trivial, (callsIn_wide.2 (selections_calls t.length _)).mono ?_⟩
 rintro e w2 ⟨rfl, hx2, hNb⟩
 have k2 := Keep.of_ext (X := fun _ => False) hx2
 have hI0 : Hid (AllI w w.heap.size (w.heap.size + 1) (w.heap.size + 2) w1.heap.size w2.heap.size (.slice ta t.length tc) t 0 w2) := Lib.hid ⟨hE1.out.trans (((Ext.refl w1).alloc _).trans hx2), k2.blk (hTb.out.alloc _) id, k2.blk (hRb.out.alloc _) id, k2.blk (hEb.out.alloc _) id,
  .slice none 0 0, [], k2.blk (blk_new' rfl rfl) id, World.ownsRow_nil _ _ _ _, rfl, fun j st hj => by simp [outsT] at hj⟩
 have hsz := hI0.out.ext.size
 have hOlt : w1.heap.size < w2.heap.size := by have := hx2.size; rw [World.size_alloc] at this; omega
 rw [World.size_alloc] at hNb
 have hNb' := Lib.hid hNb
 clear hx2 hNb k2 hTb hRb hEb c0 l0
 gi_wp2_with fail
 refine wpIn_range_sel (F := 61) (N := (sels t.length).length) ?hg (fun _ _ => by kernel_rfl) (selections_iter (w1.heap.size + 1) t.length (by omega)) (fun A B h e => h.below e (h.lt)) hNb'.out (AllI w w.heap.size (w.heap.size + 1) (w.heap.size + 2) w1.heap.size w2.heap.size (.slice ta t.length tc) t) (fun _ _ => False) (fun i => AllI.stands hsz) (fun c A A' x _ => x) hI0.out 6 ?assign ?body ?done ?stop
 case hg => rfl
 case assign =>
  intro l n0 c0 A0 W K hK
  simp only [List.setIfInBounds_toArray, List.set_cons_succ, List.set_cons_zero] at hK
  gi_wp2
  exact hK
 case body =>
  intro l' i lb v W hi hI hv hlb hlt
  simp only [List.setIfInBounds_toArray, List.set_cons_succ, List.set_cons_zero]
  obtain ⟨l, hil⟩ : ∃ l, Hid ((sels t.length)[i]? = some l) := ⟨_, List.getElem?_eq_getElem hi⟩
  rw [hil.out, Option.getD_some] at hv
  obtain ⟨Bv, hO⟩ := hv
  have hup : l <+ upI t.length := mem_sels.1 (List.mem_of_getElem? hil.out)
  obtain ⟨la, lc, rfl⟩ := owns_form hO
  have hst := hs'.out.stands hup
  obtain ⟨q, hq⟩ : ∃ q, Hid (selSt t l = q) := ⟨_, rfl⟩
  rw [hq.out] at hst
  have hL := hO.read
  have hI' := Lib.hid hI
  have hO' := Lib.hid hO
  have hlb' := Lib.hid hlb
  have hcall : Hid (∀ V, Ext W V → Calls Tryz.prog 27 #[.agg #[.slice ta t.length tc], .slice la l.length lc] V fun e w' => e = .returned (.tuple #[.bool q, .int .i64 0]) ∧ Ext V w') := Lib.hid fun V hV => by
   have := stands_calls (.slice ta t.length tc) (.slice la l.length lc) t l V (hT.out.ext (hI.ext.trans hV)) (hL.ext hV) (up_idx hup) (by have := up_len hup; omega) hsp.out
   rwa [hst] at this
  have c1 : W.cell? ⟨w.heap.size, 0, none⟩ = some (.slice ta t.length tc) := hI.tb.cell 0
  have l1 := hI.tb.lt
  have c2 : W.cell? ⟨lb, 0, none⟩ = some (.slice la l.length lc) := hlb.cell 0
  have l2 := hlb.lt
  have hll : l.length ≤ 6 := by have := up_len hup; omega
  clear hI hO hlb hst hup hi hL
  gi_wp2_with fail
  refine ⟨trivial, (CallsIn.inRound l' (callsIn_wide.2 (hcall.out W (Ext.refl _)))).mono ?_⟩
  rintro e W3 ⟨rfl, hx3⟩
  have hI3 := Lib.hid (hI'.out.toExt hx3)
  have hx3' := Lib.hid hx3
  have c3 : W3.cell? ⟨lb, 0, none⟩ = some (.slice la l.length lc) := hx3.cell c2
  have hO3 : Hid (IntsO W3 Bv (.slice la l.length lc) l) := Lib.hid (KT.owns (KT.of_ext hx3) hO'.out)
  have hkey : Hid ((!q && !((outsT t i).any fun c => inSelB c l)) = coreB t l) := Lib.hid (by rw [← hq.out]; exact outsT_key hil.out)
  have l3 : lb < W3.heap.size := World.block_lt_of_cell? _ _ c3
  clear c1 l1 c2 l2 hcall hx3
  cases q with
  | true =>
   have hsame : Hid (outsT t (i + 1) = outsT t i) := by show _ = _; rw [outsT_step hil.out, ← hkey.out]; simp 
   have hfin : Hid (selPost w2.heap.size (AllI w w.heap.size (w.heap.size + 1) (w.heap.size + 2) w1.heap.size w2.heap.size (.slice ta t.length tc) t (i + 1)) (fun _ _ => False) W .normal { tmps := #[], defers := [] } W3) := by
    have hI9 := hI3.out
    refine ⟨keepsFrom_ext hx3'.out, KT.of_ext hx3'.out, hI9.ext, hI9.tb, hI9.rb, hI9.eb, ?_⟩
    rw [hsame.out]
    exact hI9.out
   clear hsame hkey hI3 hO3
   gi_wp2
   refine ⟨trivial, ?_⟩
   gi_wp2
   exact hfin.out
  | false =>
   obtain ⟨vo, xs, hB, hOwn, hK⟩ := hI3.out.out
   obtain ⟨oa, oc, rfl⟩ := owns_form hOwn
   have hrows := hK.read hOwn
   obtain ⟨A, hA⟩ : ∃ A, Hid ((outsT t i).any (fun c => inSelB c l) = A) := ⟨_, rfl⟩
   have hg : ∀ (y : Array Value) (V : World), (callFunc 34 y).run Tryz.prog V = .ok (.enter 34 y) V := fun _ _ => by kernel_rfl
   have hcf : Hid (∀ V, Ext W3 V → Calls Tryz.prog 38 #[.slice oa (outsT t i).length oc, .func (.func 34) #[] #[.pointer (some ⟨lb, 0, none⟩)]] V fun e w' => e = .returned (.bool A) ∧ Ext V w') := Lib.hid fun V hV => by
    rw [← hA.out]
    exact containsFunc_rows_calls _ (.pointer (some ⟨lb, 0, none⟩)) (outsT t i) 34 hg (fun c => inSelB c l) V (hrows.ext hV) fun s v W' hW' hs' => all1_calls (.slice la l.length lc) v l s lb W' ((hV.trans hW').cell c3) (hO3.out.read.ext (hV.trans hW')) hs'
   rw [hA.out] at hkey
   have m0 : W3.cell? ⟨w1.heap.size, 0, none⟩ = some (.slice oa (outsT t i).length oc) := hB.cell 0
   have ml := hB.lt
   have hB' := Lib.hid hB
   have hOwn' := Lib.hid hOwn
   have hK' := Lib.hid hK
   have hol : (outsT t i).length ≤ 1000000 := by
    have h1 := List.length_filter_le (coreB t) ((sels t.length).take i)
    have h2 : ((sels t.length).take i).length ≤ (sels t.length).length := by rw [List.length_take]; omega
    have h3 : (sels t.length).length ≤ 1000 := by
     obtain ⟨n, hn⟩ : ∃ n, t.length = n := ⟨_, rfl⟩
     rw [hn] at hlen ⊢
     have : ∀ n, n ≤ 6 → (sels n).length ≤ 1000 := by decide
     exact this n hlen
    unfold outsT
    omega
   obtain ⟨LO, hLO⟩ : ∃ LO, Hid ((outsT t i).length = LO) := ⟨_, rfl⟩
   rw [hLO.out] at hcf m0 hB' hOwn' hol
   clear hB hOwn hK hrows
   gi_wp2_with fail
   refine ⟨trivial, (CallsIn.inRound l' (callsIn_wide.2 (hcf.out W3 (Ext.refl _)))).mono ?_⟩
   rintro e W4 ⟨rfl, hx4⟩
   have hI4 := Lib.hid (hI3.out.toExt hx4)
   have hx4' := Lib.hid (hx3'.out.trans hx4)
   have c4 : W4.cell? ⟨lb, 0, none⟩ = some (.slice la l.length lc) := hx4.cell c3
   have l4 : lb < W4.heap.size := World.block_lt_of_cell? _ _ c4
   have m4 : W4.cell? ⟨w1.heap.size, 0, none⟩ = some (.slice oa LO oc) := hx4.cell m0
   have ml4 : w1.heap.size < W4.heap.size := World.block_lt_of_cell? _ _ m4
   have kx := Keep.of_ext (X := fun _ => False) hx4
   have hB4 := Lib.hid (kx.blk hB'.out id)
   have hOwn4 := Lib.hid (owns_ext hOwn'.out hx4)
   have hK4 := Lib.hid (hK'.out.kt (KT.of_ext hx4))
   have hO4 : Hid (IntsO W4 Bv (.slice la l.length lc) l) := Lib.hid (KT.owns (KT.of_ext hx4) hO3.out)
   clear hcf hx4 kx c3 l3 m0 ml hB' hOwn' hK' hO3
   cases A with
   | true =>
    have hsame : Hid (outsT t (i + 1) = outsT t i) := by show _ = _; rw [outsT_step hil.out, ← hkey.out]; simp 
    have hfin : Hid (selPost w2.heap.size (AllI w w.heap.size (w.heap.size + 1) (w.heap.size + 2) w1.heap.size w2.heap.size (.slice ta t.length tc) t (i + 1)) (fun _ _ => False) W .normal { tmps := #[], defers := [] } W4) := by
     have hI9 := hI4.out
     refine ⟨keepsFrom_ext hx4'.out, KT.of_ext hx4'.out, hI9.ext, hI9.tb, hI9.rb, hI9.eb, ?_⟩
     rw [hsame.out]
     exact hI9.out
    clear hsame hkey hI3 hI4 hB4 hOwn4 hK4 hO4
    gi_wp2
    exact hfin.out
   | false =>
    have hnext : Hid (outsT t (i + 1) = outsT t i ++ [l]) := by show _ = _; rw [outsT_step hil.out, ← hkey.out]; simp
    have hszB : w2.heap.size ≤ W4.heap.size := by omega
    gi_wp2_with (gi_at_builtin; refine wpListIn_append_own _ rfl (.tmp 42) (.tmp 44) _ rfl w2.heap.size 23 j0 _ 1 24 Tryz.underlying32 hj0 jz0 jz1 jz2 rfl (by decide) (.slice oa LO oc) LO xs rfl (hOwn4.out.alloc _) ⟨W4.heap.size, 0, none⟩ 1 1 [.slice la l.length lc] rfl rfl (cell_one_new W4 (.slice la l.length lc) 23) (by simp [Value.oneCell']) (by unfold maxLen; omega) (by omega) (by rw [World.size_alloc]; omega) ?_; intro v5 w5 hown5 hg5 _; obtain ⟨A5, C5, rfl⟩ := owns_form hown5; have hM5 := (hB4.out.alloc (.cells #[.slice la l.length lc] 23)).grown hg5 (fun e => own_blk_ne (hOwn4.out.alloc (.cells #[.slice la l.length lc] 23)) (hB4.out.alloc _) (by decide) e.symm); have m5 : w5.cell? ⟨w1.heap.size, 0, none⟩ = some (.slice oa LO oc) := hM5.cell 0; have f5 := hM5.frozen 0; have lt5 := hM5.lt; have hown5' := Lib.hid hown5; have hg5' := Lib.hid hg5; have hM5' := Lib.hid hM5; clear hown5 hg5 hM5)
    have hlt5 : ∀ g, (Value.slice oa LO oc).ownBlock = some g → w2.heap.size ≤ g := fun g e => (hOwn4.out.lt g e).1
    have hx5 : Ext W4 (W4.alloc (.cells #[.slice la l.length lc] 23)) := (Ext.refl W4).alloc _
    have k5 : Keep (fun g => (Value.slice oa LO oc).ownBlock = some g ∨ g = w1.heap.size) W4 w5 := (Keep.of_ext hx5).grown hg5'.out (fun g e => Or.inl (Or.inl e))
    have k6 := Keep.setCell (p := ⟨w1.heap.size, 0, none⟩) k5 (Or.inl (Or.inr rfl)) (.slice A5 (LO + 1) C5)
    have kp := (Keep.of_ext (X := fun g => (Value.slice oa LO oc).ownBlock = some g ∨ g = w1.heap.size) hx4'.out).trans k6
    have hty : ∀ g ty cs, ((Value.slice oa LO oc).ownBlock = some g ∨ g = w1.heap.size) → Blk W4 g ty cs → ty = 23 ∨ ty = 32 := fun g ty cs hx hb => by
     rcases hx with e | rfl
     ·obtain ⟨cs', hc⟩ := owns_block hOwn4.out e
      exact Or.inl (blk_type hb hc)
     ·exact Or.inr (blk_type hb hB4.out)
    have kt := KT.of_keep k6 hty
    have hfar : ∀ g, g < w1.heap.size → ¬ ((Value.slice oa LO oc).ownBlock = some g ∨ g = w1.heap.size) := fun g hg hx => by
     rcases hx with e | e
     ·have := hlt5 g e; omega
     ·omega
    refine ⟨keepsFrom_keep kp fun g o hx ho => ?_, KT.of_keep kp fun g ty cs hx hb => hty g ty cs hx (KB.of_ext hx4'.out g ty cs hb), ?_, k6.blk hI4.out.tb (hfar _ (by omega)), k6.blk hI4.out.rb (hfar _ (by omega)), k6.blk hI4.out.eb (hfar _ (by omega)), _, xs ++ [.slice la l.length lc], hM5'.out.set_ 0 _, ?_, ?_⟩
    ·have h4 := (hx4'.out.heap (Array.getElem?_eq_some_iff.1 ho).1).trans ho
     rcases hx with e | rfl
     ·obtain ⟨cs', hc⟩ := owns_block hOwn4.out e
      rw [show W4.heap[g]? = _ from hc] at h4
      cases h4
      rfl
     ·rw [show W4.heap[w1.heap.size]? = _ from hB4.out] at h4
      cases h4
      rfl
    ·exact hI4.out.ext.keep k6 fun g hg hx => hfar g (by omega) hx
    ·rw [hnext.out, List.length_append, hLO.out]
     exact (keep_set w5 w1.heap.size 0 _).owns hown5'.out fun g e h => own_blk_ne hown5'.out hM5'.out (by decide) (by rw [e, h])
    ·rw [hnext.out]
     exact (hK4.out.push hO4.out).kt kt
 case done =>
  rintro D W hD hI hDk
  obtain ⟨v, xs, hB, hOwn, hK⟩ := hI.out
  obtain ⟨oa, oc, rfl⟩ := owns_form hOwn
  obtain ⟨LO, hLO⟩ : ∃ LO, Hid ((outsT t (sels t.length).length).length = LO) := ⟨_, rfl⟩
  have m0 : W.cell? ⟨w1.heap.size, 0, none⟩ = some (.slice oa (outsT t (sels t.length).length).length oc) := hB.cell 0
  have ml := hB.lt
  rw [hLO.out] at m0 hOwn
  have r0 : W.cell? ⟨w.heap.size + 1, 0, none⟩ = some (.slice none 0 0) := hI.rb.cell 0
  have rl := hI.rb.lt
  have rf := hI.rb.frozen 0
  have e0 : W.cell? ⟨w.heap.size + 2, 0, none⟩ = some (.int .i64 0) := hI.eb.cell 0
  have el := hI.eb.lt
  have ef := hI.eb.frozen 0
  have hOwn' := Lib.hid hOwn
  have hK' := Lib.hid hK
  have hI9 := Lib.hid hI
  have hDk' := Lib.hid hDk
  clear hI hOwn hK hB hDk
  gi_wp2
  have k1 : Keep (fun g => g = w.heap.size + 1 ∨ g = w.heap.size + 2) W (W.setCell ⟨w.heap.size + 1, 0, none⟩ (.slice oa LO oc)) := Keep.setCell (p := ⟨w.heap.size + 1, 0, none⟩) (Keep.refl _ _) (Or.inl (Or.inl rfl)) _
  have k2 := Keep.setCell (p := ⟨w.heap.size + 1 + 1, 0, none⟩) k1 (Or.inl (Or.inr rfl)) (.int .i64 0)
  have hgr := grownBy_putObj' ((W.setCell ⟨w.heap.size + 1, 0, none⟩ (.slice oa LO oc)).setCell ⟨w.heap.size + 1 + 1, 0, none⟩ (.int .i64 0)) D (.deferred none)
  have hDk2 : ((W.setCell ⟨w.heap.size + 1, 0, none⟩ (.slice oa LO oc)).setCell ⟨w.heap.size + 1 + 1, 0, none⟩ (.int .i64 0)).heap[D]? = some (.deferred (some [])) :=
   (Below.heap_setCell _ _ _ D (by dsimp only; omega)).trans ((Below.heap_setCell _ _ _ D (by dsimp only; omega)).trans hDk'.out)
  have hR2 := (((hI9.out.rb.set_ 0 (.slice oa LO oc)).far (p := ⟨w.heap.size + 1 + 1, 0, none⟩) (by dsimp only; omega) (.int .i64 0))).grown hgr (fun e => by have := Option.some.inj e; omega)
  have hE2 := (((hI9.out.eb.far (p := ⟨w.heap.size + 1, 0, none⟩) (by dsimp only; omega) (.slice oa LO oc))).set_ 0 (.int .i64 0)).grown hgr (fun e => by have := Option.some.inj e; omega)
  refine allPostM_ret1 hDk2 (all_results rfl rfl hR2 hE2 ⟨_, _, _, rfl⟩) ?_
  have kd := Keep.grown (X := fun g => (g = w.heap.size + 1 ∨ g = w.heap.size + 2) ∨ g = D) (k2.mono fun g _ h => Or.inl h) hgr (fun g e => by cases e; exact Or.inl (Or.inr rfl))
  have hno : ∀ (g : Nat) (ty : TypeId) (cs : Array Value), ty ≠ 32 → ty ≠ 29 → ((g = w.heap.size + 1 ∨ g = w.heap.size + 2) ∨ g = D) → ¬ Blk W g ty cs := fun g ty cs n1 n2 hx hb => by
   rcases hx with (rfl | rfl) | rfl
   ·exact n1 (blk_type hb hI9.out.rb)
   ·exact n2 (blk_type hb hI9.out.eb)
   ·have h9 := hDk'.out
    rw [hb] at h9
    cases h9
  refine ⟨_, xs, rfl, ?_, ?_, (hI9.out.ext.keep k2 fun g hg hx => by rcases hx with h | h <;> omega).grown hgr fun k e => by cases e; omega⟩
  ·rw [← outsT_end, hLO.out]
   refine owns_base (kd.owns hOwn'.out fun g hg hx => ?_) hsz
   obtain ⟨cs, hc⟩ := owns_block hOwn'.out hg
   exact hno g _ cs (by decide) (by decide) hx hc
  ·rw [← outsT_end]
   exact hK'.out.keepX kd fun g cs hx => hno g _ cs (by decide) (by decide) hx
 case stop =>
  rintro D c W _ h _
  exact h.elim
theorem all_calls (wv : Value) (t : List WishD) (w : World) (h : Wishes w wv t) (hs : SmallT t) (hv0 : validT t = 0) :
  Calls Tryz.prog 10 #[.agg #[wv]] w fun e w' => ∃ v, e = .returned (.tuple #[v, .int .i64 0]) ∧ RowsI w' v ((sels t.length).filter (coreB t)) ∧ Ext w w' := by
 refine (all_callsO wv t w h hs hv0).mono ?_
 rintro e w' ⟨v, xs, rfl, h1, h2, h3⟩
 exact ⟨v, rfl, h2.read h1, h3⟩
end Go.Proofs.YtjglidlmpjmjeaaGreatDoor
