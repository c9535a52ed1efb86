/- Walk of package carry: Order. -/
import Derived.Test.YtepcdhpikpmepaaGreatCDQ
import Derived.Test.YtepcdhpikpmepaaGreatHIQ
namespace Go.Proofs.YtepcdhpikpmepaaGreat
open Go.RowKit

/-! ### steps of the call's own -/
theorem stepCells_app (l : List (Int × Int)) (x y : Int) : spanCells (l ++ [(x, y)]) = spanCells l ++ [.int .i64 x, .int .i64 y] := by simp [spanCells]
def StepsO (w : World) (B : Nat) (v : Value) (l : List (Int × Int)) : Prop := w.ownsRow B 92 2 v l.length (spanCells l)
theorem StepsO.read {w : World} {B : Nat} {v : Value} {l : List (Int × Int)} (h : StepsO w B v l) : Spans w v l :=
 sl_of_owns h fun i hi j hj => by
  have h := spanCells_at i l[i] (List.getElem?_eq_getElem hi)
  rcases j with _ | _ | j
  ·rw [Nat.add_zero, h.1]; simp [hi]
  ·rw [h.2]; simp [hi]
  ·omega
theorem StepsO.nil (w : World) (B : Nat) : StepsO w B (.slice none 0 0) [] := World.ownsRow_nil _ _ _ _
theorem step_info : (Tryz.prog.info? 92).map (fun i => (i.zero, i.size, i.bytes)) = some (some (.agg #[.int .i64 0, .int .i64 0]), 2, 16) := by kernel_rfl
theorem Tab.ne {w : World} {b g : Nat} {t : List WishD} {T : TypeId} {cs : Array Value} (h : Tab w b t) (h' : Blk w g T cs) : b ≠ g := by
 rintro rfl
 obtain ⟨_, es, clock, hb, _⟩ := h
 rw [Blk] at h'
 rw [h'] at hb
 cases hb

/-! ### the loop's plain words -/
theorem ord_fuel {t : List WishD} {pick : List Int} : ∀ (n m : Nat) (st : List Int), Way t pick st → left pick st ≤ n → left pick st ≤ m → ordF t pick n st = ordF t pick m st
 | n, m, st, h, hn, hm => by
  cases hg : goS t pick st with
  | none =>
   have e : ∀ k, ordF t pick k st = [] := fun k => by
    cases k with
    | zero => rfl
    | succ k => simp [ordF, hg]
   rw [e, e]
  | some s =>
   obtain ⟨hw, hlt, _⟩ := h.step hg
   cases n with
   | zero => omega
   | succ n =>
    cases m with
    | zero => omega
    | succ m =>
     have := ord_fuel n m (stepS st s) hw (by omega) (by omega)
     simp [ordF, hg, this]
theorem ord_next {t : List WishD} {pick st : List Int} {s : StepD} (h : Way t pick st) (hg : goS t pick st = some s) : ordF t pick (left pick st) st = s :: ordF t pick (left pick (stepS st s)) (stepS st s) := by
 obtain ⟨hw, hlt, _⟩ := h.step hg
 obtain ⟨k, hk⟩ : ∃ k, left pick st = k + 1 := ⟨left pick st - 1, by omega⟩
 rw [hk]
 have e : ordF t pick (k + 1) st = s :: ordF t pick k (stepS st s) := by simp [ordF, hg]
 rw [e, ord_fuel k (left pick (stepS st s)) _ hw (by omega) (Nat.le_refl _)]
theorem ord_end {t : List WishD} {pick st : List Int} (hg : goS t pick st = none) (n : Nat) : ordF t pick n st = [] := by
 cases n with
 | zero => rfl
 | succ k => simp [ordF, hg]
theorem valid_opts {t : List WishD} (h : validT t = 0) {x : WishD} (hx : x ∈ t) : x.opts.length ≤ 16 := by
 unfold validT at h
 split at h
 ·cases h
 ·rename_i hb
  have hb' : tooLargeB t = false := by simpa using hb
  simp only [tooLargeB, Bool.or_eq_false_iff, List.any_eq_false] at hb'
  have := hb'.2 x hx
  simp at this
  omega
theorem lawful_range {t : List WishD} {p : List Int} (h : lawfulB t p = true) {i : Nat} (hi : i < t.length) : 0 ≤ atI p i ∧ atI p i ≤ 16 := by
 have h1 := lawful_at h hi
 have hx : t[i]? = some t[i] := by simp [hi]
 have := valid_opts (lawful_parts h).1 (List.getElem_mem hi)
 rw [hx] at h1
 simp only [Option.getD_some] at h1
 omega
theorem inRange_of {l : List Int} (h : ∀ i, i < l.length → -9223372036854775808 ≤ atI l i ∧ atI l i ≤ 9223372036854775807) : InRange l := fun x hx => by
 obtain ⟨i, hi⟩ := List.mem_iff_getElem?.1 hx
 have hlt := (List.getElem?_eq_some_iff.1 hi).1
 have := h i hlt
 rwa [atI_some hi] at this
theorem lawful_inRange {t : List WishD} {p : List Int} (h : lawfulB t p = true) : InRange p := inRange_of fun i hi => by
 have := lawful_range h (i := i) (by rw [← lawful_len h]; exact hi)
 omega
theorem Way.range {t : List WishD} {p st : List Int} (h : Way t p st) : InRange st := inRange_of fun i hi => by
 have hit : i < t.length := by rw [← h.len]; exact hi
 have := lawful_range h.lawful hit
 rcases h.at_ i hit with e | ⟨_, e | e⟩ <;> omega

/-! ### Order's memory -/
structure OrdM (w0 : World) (g4 g5 g6 b : Nat) (pv : Value) (t : List WishD) (wr : World) (vo : Value) (out : List StepD) (st : List Int) : Prop where
 ext : Ext w0 wr
 b4 : w0.heap.size ≤ g4
 state : St wr g4 st
 cb : Blk wr g5 86 #[.map (some b)]
 sb : Blk wr g6 31 #[.slice (some ⟨g4, 0, none⟩) t.length t.length]
 pb : Blk wr (w0.heap.size + 1) 31 #[pv]
 tab : Tab wr b t
 own : StepsO wr w0.heap.size vo out
section
variable {w0 wr wr' : World} {g4 g5 g6 b : Nat} {pv vo : Value} {t : List WishD} {out : List StepD} {st : List Int}
theorem OrdM.toExt (h : OrdM w0 g4 g5 g6 b pv t wr vo out st) (e : Ext wr wr') : OrdM w0 g4 g5 g6 b pv t wr' vo out st := by
 have k : Keep (fun _ => False) wr wr' := Keep.of_ext e
 exact ⟨h.ext.trans e, h.b4, h.state.ext e, k.blk h.cb id, k.blk h.sb id, k.blk h.pb id, h.tab.ext e, owns_ext h.own e⟩
theorem OrdM.setSt (h : OrdM w0 g4 g5 g6 b pv t wr vo out st) (i : Nat) (v : Int) : OrdM w0 g4 g5 g6 b pv t (wr.setCell ⟨g4, i, none⟩ (.int .i64 v)) vo out (st.set i v) := by
 have k : Keep (fun x => x = g4) wr (wr.setCell ⟨g4, i, none⟩ (.int .i64 v)) := keep_set wr g4 i _
 have n1 : g5 ≠ g4 := Blk.ne_ h.cb h.state (by decide)
 have n2 : g6 ≠ g4 := Blk.ne_ h.sb h.state (by decide)
 have n3 : w0.heap.size + 1 ≠ g4 := Blk.ne_ h.pb h.state (by decide)
 exact ⟨h.ext.setCell h.b4 _, h.b4, h.state.set_ i v, k.blk h.cb n1, k.blk h.sb n2, k.blk h.pb n3, h.tab.keep k (h.tab.ne h.state), owns_keepT h.own k (TX.one h.state) (by decide)⟩
theorem OrdM.push {w1 : World} {v' : Value} {s : StepD} (h : OrdM w0 g4 g5 g6 b pv t wr vo out st) (ho : w1.ownsRow w0.heap.size 92 2 v' (out.length + 1) (spanCells out ++ [.int .i64 s.1, .int .i64 s.2])) (hg : wr.grownBy w1 vo.ownBlock) :
  OrdM w0 g4 g5 g6 b pv t w1 v' (out ++ [s]) st := by
 have hb : ∀ g, vo.ownBlock = some g → w0.heap.size ≤ g := fun g e => (h.own.lt g e).1
 have k : Keep (fun x => vo.ownBlock = some x) wr w1 := (Keep.refl _ wr).grown hg (fun g e => Or.inl e)
 have ht : ∀ {g : Nat} {T : TypeId} {cs : Array Value}, Blk wr g T cs → T ≠ 92 → ¬ vo.ownBlock = some g := fun hB hne e => by
  obtain ⟨cs', hb'⟩ := owns_block h.own e
  exact hne (blk_type hB hb')
 refine ⟨h.ext.grown hg hb, h.b4, k.blk h.state (ht h.state (by decide)), k.blk h.cb (ht h.cb (by decide)), k.blk h.sb (ht h.sb (by decide)), k.blk h.pb (ht h.pb (by decide)), h.tab.keep k (fun e => ?_), ?_⟩
 ·obtain ⟨cs', hb'⟩ := owns_block h.own e
  exact h.tab.ne hb' rfl
 ·unfold StepsO
  rw [List.length_append, stepCells_app]
  exact ho
end
def sliceLen : Value → Nat
 | .slice _ n _ => n
 | _ => 0
structure OrdI (w2 : World) (t : List WishD) (tv pv : Value) (L : Nat → Bool) (v22 v23 v24 v25 v26 v7 v8 : Value) (W : World) : Prop where
 ext : Ext w2 W
 f0 : L 0 = true → v22 = .agg #[tv]
 f1 : L 1 = true → ∃ b, v23 = .map (some b) ∧ Tab W b t
 f2 : L 2 = true → v24 = pv
 f3 : L 3 = true → v25 = .int .i64 t.length
 f4 : L 4 = true → ∃ g, v26 = .slice (some ⟨g, 0, none⟩) t.length t.length ∧ w2.heap.size ≤ g ∧ Blk W g 3 (zerosV t.length)
 f5 : L 5 = true → ∃ g x, v7 = .pointer (some ⟨g, 0, none⟩) ∧ w2.heap.size ≤ g ∧ Blk W g 86 #[x] ∧ (L 7 = true → x = v23)
 f6 : L 6 = true → ∃ g x, v8 = .pointer (some ⟨g, 0, none⟩) ∧ w2.heap.size ≤ g ∧ Blk W g 31 #[x] ∧ (L 8 = true → x = v26)
 d7 : L 7 = true → L 1 = true ∧ L 5 = true
 d8 : L 8 = true → L 4 = true ∧ L 6 = true
theorem OrdI.toExt {w2 W W' : World} {t : List WishD} {tv pv : Value} {L : Nat → Bool} {v22 v23 v24 v25 v26 v7 v8 : Value} (h : OrdI w2 t tv pv L v22 v23 v24 v25 v26 v7 v8 W) (e : Ext W W') : OrdI w2 t tv pv L v22 v23 v24 v25 v26 v7 v8 W' := by
 have k : Keep (fun _ => False) W W' := Keep.of_ext e
 exact ⟨h.ext.trans e, h.f0, fun q => let ⟨b, x, y⟩ := h.f1 q; ⟨b, x, y.ext e⟩, h.f2, h.f3, fun q => let ⟨g, x, y, z⟩ := h.f4 q; ⟨g, x, y, k.blk z id⟩,
  fun q => let ⟨g, u, x, y, z, r⟩ := h.f5 q; ⟨g, u, x, y, k.blk z id, r⟩, fun q => let ⟨g, u, x, y, z, r⟩ := h.f6 q; ⟨g, u, x, y, k.blk z id, r⟩, h.d7, h.d8⟩

set_option maxHeartbeats 3200000 in
set_option maxRecDepth 100000 in
theorem order_calls (wv pv : Value) (t : List WishD) (pick : List Int) (w : World) (h : Wishes w wv t) (hp : Ints w pv pick) :
  Calls Tryz.prog 9 #[.agg #[wv], pv] w fun e w' => ∃ v, e = .returned (.tuple #[v, .int .i64 (orderS t pick).2]) ∧ StepsO w' w.heap.size v (orderS t pick).1 ∧ Ext w w' := by
 have hT := Lib.hid h
 have hP := Lib.hid hp
 obtain ⟨ta, tc, rfl⟩ := h.form
 obtain ⟨pa, pc, rfl⟩ := hp.form
 have lp := hp.len
 clear h hp
 obtain ⟨z, hz⟩ : ∃ z, Hid (validT t = z) := ⟨_, rfl⟩
 obtain ⟨lw, hlw⟩ : ∃ z, Hid (lawfulB t pick = z) := ⟨_, rfl⟩
 have hval : Hid (∀ W, Ext w W → Calls Tryz.prog 17 #[.agg #[.slice ta t.length tc]] W fun e w' => e = .returned (.int .i64 z) ∧ Ext W w') := fun W hW => hz.out ▸ valid_calls _ t W (hT.out.ext hW)
 have hlaw : Hid (∀ W, Ext w W → Calls Tryz.prog 24 #[.agg #[.slice ta t.length tc], .slice pa pick.length pc] W fun e w' => e = .returned (.bool lw) ∧ Ext W w') := fun W hW => hlw.out ▸ lawful_calls _ _ t pick W (hT.out.ext hW) (hP.out.ext hW)
 obtain ⟨j0, hj0, jz0, jz1, jz2⟩ := info_parts step_info
 go_enter Tryz.func9, Tryz.ntmps9
 go_upto_region 1 with (fail)
 refine wp_abs (S := fun W => Hid (Ext w W) ∧ Hid (Blk W w.heap.size 28 #[.slice ta t.length tc]) ∧ Hid (Blk W (w.heap.size + 1) 31 #[.slice pa pick.length pc])) ?_ ?_
 ·exact ⟨Lib.hid (by exact (by with_reducible repeat' (first | exact Ext.refl _ | assumption | refine Ext.drewN ?_ _ | refine Ext.drew ?_ | refine Ext.alloc ?_ _ | refine Ext.trans ?_ (by with_reducible assumption)))), Lib.hid (Blk.alloc (blk_new' rfl rfl) _), Lib.hid (blk_new' (by simp only [World.size_alloc]) rfl)⟩
 rintro W0 ⟨hE0, hB0, hP0⟩
 have c0 : W0.cell? ⟨w.heap.size, 0, none⟩ = some (.slice ta t.length tc) := hB0.out.cell 0
 have c1 : W0.cell? ⟨w.heap.size + 1, 0, none⟩ = some (.slice pa pick.length pc) := hP0.out.cell 0
 go_wp2_with fail
 refine (hval.out _ hE0.out).mono ?_
 rintro e w1 ⟨rfl, hx1⟩
 have hE1 := Lib.hid (hE0.out.trans hx1)
 have d0 := hx1.cell c0
 have d1 := hx1.cell c1
 have hP1 := Lib.hid ((Keep.of_ext (X := fun _ => False) hx1).blk hP0.out id)
 clear hx1 hval hE0 hB0 hP0 c0 c1
 by_cases h0 : z = 0
 ·have hz0 : (z != 0) = false := by simp [h0]
  have hv : Hid (validT t = 0) := hz.out.trans h0
  clear hz h0
  go_wp2_with fail
  refine (hlaw.out _ hE1.out).mono ?_
  rintro e w2 ⟨rfl, hx2⟩
  have hE2 := Lib.hid (hE1.out.trans hx2)
  have e0 := hx2.cell d0
  have e1 := hx2.cell d1
  have hP2 := Lib.hid ((Keep.of_ext (X := fun _ => False) hx2).blk hP1.out id)
  clear hx2 hlaw hE1 d0 d1 hP1
  cases lw with
  | false =>
   have R : Hid (orderS t pick = ([], 1)) := by show _ = _; unfold orderS; rw [if_pos hv.out, hlw.out]; rfl
   clear hlw
   go_wp2
   go_ret2
   rw [R.out]
   exact ⟨_, rfl, StepsO.nil _ _, hE2.out⟩
  | true =>
   have hpl := Lib.hid (lawful_len hlw.out)
   obtain ⟨hb1, hb2⟩ := stepsT_bd hv.out
   have R : Hid (orderS t pick = (orderL t pick, 0)) := by show _ = _; unfold orderS; rw [if_pos hv.out, hlw.out]; rfl
   have hL1 : (orderL t pick).length ≤ 1024 := by have := (order_spec hlw.out).2.2.1; have := left_zeros_le pick t.length; omega
   have hlp : pick.length ≤ 512 := by rw [hpl.out]; exact hb2
   rw [hpl.out] at e1
   have hcl : Hid (∀ W, Ext w2 W → Calls Tryz.prog 25 #[.agg #[.slice ta t.length tc]] W fun e w' => ∃ b, e = .returned (.map (some b)) ∧ Tab w' b t ∧ W.heap.size ≤ b ∧ Ext W w') := fun W hW => clashes_calls _ t W (hT.out.ext (hE2.out.trans hW)) hv.out
   have hmk := run_make_ints t.length (by omega)
   have hs0 := World.block_lt_of_cell? _ _ e0
   have hs1 := World.block_lt_of_cell? _ _ e1
   have hst0 := hE2.out.size
   go_upto_region 6 with (fail)
   refine wp_region_inv (fun A L a W => ∃ v22 v23 v24 v25 v26 v7 v8, a = ((((((A.put (some 22) v22).put (some 23) v23).put (some 24) v24).put (some 25) v25).put (some 26) v26).put (some 7) v7).put (some 8) v8 ∧ OrdI w2 t (.slice ta t.length tc) (.slice pa t.length pc) L v22 v23 v24 v25 v26 v7 v8 W) (by kernel_rfl) (by kernel_rfl) ?_ ?_ ?_
   ·exact ⟨undef, undef, undef, undef, undef, undef, undef, (by simp only [Act.put, List.setIfInBounds_toArray, List.set_cons_succ, List.set_cons_zero]), ⟨(Ext.refl _).drew, (fun q => by cases q), (fun q => by cases q), (fun q => by cases q), (fun q => by cases q), (fun q => by cases q), (fun q => by cases q), (fun q => by cases q), (fun q => by cases q), (fun q => by cases q)⟩⟩
   ·refine ⟨⟨rfl, ?_⟩, ⟨rfl, ?_⟩, ⟨rfl, ?_⟩, ⟨rfl, ?_⟩, ⟨rfl, ?_⟩, ⟨rfl, ?_⟩, ⟨rfl, ?_⟩, ⟨rfl, ?_⟩, ⟨rfl, ?_⟩, trivial⟩
    ·rintro L _ W ⟨v22, v23, v24, v25, v26, v7, v8, rfl, hI⟩ hL hd K hK
     simp only [Act.put, List.setIfInBounds_toArray, List.set_cons_succ, List.set_cons_zero]
     have c0 := hI.ext.cell e0
     go_simp
     refine hK _ _ ⟨_, v23, v24, v25, v26, v7, v8, (by simp only [Act.put, List.setIfInBounds_toArray, List.set_cons_succ, List.set_cons_zero]), ⟨hI.ext, fun _ => rfl, hI.f1, hI.f2, hI.f3, hI.f4, hI.f5, hI.f6, hI.d7, hI.d8⟩⟩
    ·rintro L _ W ⟨v22, v23, v24, v25, v26, v7, v8, rfl, hI⟩ hL hd K hK
     simp only [Act.put, List.setIfInBounds_toArray, List.set_cons_succ, List.set_cons_zero]
     obtain rfl := hI.f0 (by simpa [Region.binds] using hd)
     go_simp
     refine (hcl.out W hI.ext).mono ?_
     rintro e w3 ⟨b, rfl, ht, _, hx⟩
     have h2 := hI.toExt hx
     refine hK _ _ ⟨_, .map (some b), v24, v25, v26, v7, v8, (by simp only [Act.put, List.setIfInBounds_toArray, List.set_cons_succ, List.set_cons_zero]), ⟨h2.ext, h2.f0, fun _ => ⟨b, rfl, ht⟩, h2.f2, h2.f3, h2.f4, fun q => let ⟨g, u, x, y, z, _⟩ := h2.f5 q; ⟨g, u, x, y, z, fun r => by have := (h2.d7 r).1; rw [hL] at this; cases this⟩, h2.f6, fun q => ⟨rfl, (h2.d7 q).2⟩, h2.d8⟩⟩
    ·rintro L _ W ⟨v22, v23, v24, v25, v26, v7, v8, rfl, hI⟩ hL hd K hK
     simp only [Act.put, List.setIfInBounds_toArray, List.set_cons_succ, List.set_cons_zero]
     have c0 := hI.ext.cell e1
     go_simp
     refine hK _ _ ⟨v22, v23, _, v25, v26, v7, v8, (by simp only [Act.put, List.setIfInBounds_toArray, List.set_cons_succ, List.set_cons_zero]), ⟨hI.ext, hI.f0, hI.f1, fun _ => rfl, hI.f3, hI.f4, hI.f5, hI.f6, hI.d7, hI.d8⟩⟩
    ·rintro L _ W ⟨v22, v23, v24, v25, v26, v7, v8, rfl, hI⟩ hL hd K hK
     simp only [Act.put, List.setIfInBounds_toArray, List.set_cons_succ, List.set_cons_zero]
     obtain rfl := hI.f2 (by simpa [Region.binds] using hd)
     go_simp
     refine hK _ _ ⟨v22, v23, _, _, v26, v7, v8, (by simp only [Act.put, List.setIfInBounds_toArray, List.set_cons_succ, List.set_cons_zero]), ⟨hI.ext, hI.f0, hI.f1, fun _ => rfl, fun _ => rfl, hI.f4, hI.f5, hI.f6, hI.d7, hI.d8⟩⟩
    ·rintro L _ W ⟨v22, v23, v24, v25, v26, v7, v8, rfl, hI⟩ hL hd K hK
     simp only [Act.put, List.setIfInBounds_toArray, List.set_cons_succ, List.set_cons_zero]
     obtain rfl := hI.f3 (by simpa [Region.binds] using hd)
     go_simp
     have h2 := hI.toExt ((Ext.refl W).alloc (.cells (zerosV t.length) 3))
     refine hK _ _ ⟨v22, v23, v24, _, _, v7, v8, (by simp only [Act.put, List.setIfInBounds_toArray, List.set_cons_succ, List.set_cons_zero]), ⟨h2.ext, h2.f0, h2.f1, h2.f2, fun _ => rfl, fun _ => ⟨_, rfl, hI.ext.size, blk_new' rfl rfl⟩, h2.f5, fun q => let ⟨g, u, x, y, z, _⟩ := h2.f6 q; ⟨g, u, x, y, z, fun r => by have := (h2.d8 r).1; rw [hL] at this; cases this⟩, h2.d7, fun q => ⟨rfl, (h2.d8 q).2⟩⟩⟩
    ·rintro L _ W ⟨v22, v23, v24, v25, v26, v7, v8, rfl, hI⟩ hL hd K hK
     simp only [Act.put, List.setIfInBounds_toArray, List.set_cons_succ, List.set_cons_zero]
     go_simp
     have h2 := hI.toExt ((Ext.refl W).alloc (.cells #[.map none] 86))
     refine hK _ _ ⟨v22, v23, v24, v25, v26, _, v8, (by simp only [Act.put, List.setIfInBounds_toArray, List.set_cons_succ, List.set_cons_zero]), ⟨h2.ext, h2.f0, h2.f1, h2.f2, h2.f3, h2.f4, fun _ => ⟨_, _, rfl, hI.ext.size, blk_new' rfl rfl, fun r => by have := (h2.d7 r).2; rw [hL] at this; cases this⟩, h2.f6, fun q => ⟨(h2.d7 q).1, rfl⟩, h2.d8⟩⟩
    ·rintro L _ W ⟨v22, v23, v24, v25, v26, v7, v8, rfl, hI⟩ hL hd K hK
     simp only [Act.put, List.setIfInBounds_toArray, List.set_cons_succ, List.set_cons_zero]
     go_simp
     have h2 := hI.toExt ((Ext.refl W).alloc (.cells #[.slice none 0 0] 31))
     refine hK _ _ ⟨v22, v23, v24, v25, v26, v7, _, (by simp only [Act.put, List.setIfInBounds_toArray, List.set_cons_succ, List.set_cons_zero]), ⟨h2.ext, h2.f0, h2.f1, h2.f2, h2.f3, h2.f4, h2.f5, fun _ => ⟨_, _, rfl, hI.ext.size, blk_new' rfl rfl, fun r => by have := (h2.d8 r).2; rw [hL] at this; cases this⟩, h2.d7, fun q => ⟨(h2.d8 q).1, rfl⟩⟩⟩
    ·rintro L _ W ⟨v22, v23, v24, v25, v26, v7, v8, rfl, hI⟩ hL hd K hK
     simp only [Act.put, List.setIfInBounds_toArray, List.set_cons_succ, List.set_cons_zero]
     simp [Region.binds] at hd
     obtain ⟨b, rfl, ht⟩ := hI.f1 (by simp [hd])
     obtain ⟨g, u, rfl, hg, hB, _⟩ := hI.f5 (by simp [hd])
     have c0 : W.cell? ⟨g, 0, none⟩ = some u := hB.cell 0
     have m0 := hB.frozen 0
     have lg := hB.lt
     have kp : Keep (fun x => x = g) W (W.setCell ⟨g, 0, none⟩ (.map (some b))) := keep_set W g 0 _
     go_simp
     refine hK _ _ ⟨v22, _, v24, v25, v26, _, v8, (by simp only [Act.put, List.setIfInBounds_toArray, List.set_cons_succ, List.set_cons_zero]), ⟨hI.ext.setCell (p := ⟨g, 0, none⟩) hg _, hI.f0, fun _ => ⟨b, rfl, ht.keep kp (ht.ne hB)⟩, hI.f2, hI.f3, fun q => let ⟨g2, x, y, z⟩ := hI.f4 q; ⟨g2, x, y, kp.blk z (Blk.ne_ z hB (by decide))⟩, fun _ => ⟨g, _, rfl, hg, hB.set_ 0 _, fun _ => rfl⟩,
      fun q => let ⟨g2, u2, x, y, z, r⟩ := hI.f6 q; ⟨g2, u2, x, y, kp.blk z (Blk.ne_ z hB (by decide)), r⟩, fun _ => ⟨by simp [upL, hd], by simp [upL, hd]⟩, hI.d8⟩⟩
    ·rintro L _ W ⟨v22, v23, v24, v25, v26, v7, v8, rfl, hI⟩ hL hd K hK
     simp only [Act.put, List.setIfInBounds_toArray, List.set_cons_succ, List.set_cons_zero]
     simp [Region.binds] at hd
     obtain ⟨g4, rfl, hg4, hB4⟩ := hI.f4 (by simp [hd])
     obtain ⟨g, u, rfl, hg, hB, _⟩ := hI.f6 (by simp [hd])
     have c0 : W.cell? ⟨g, 0, none⟩ = some u := hB.cell 0
     have m0 := hB.frozen 0
     have lg := hB.lt
     have kp : Keep (fun x => x = g) W (W.setCell ⟨g, 0, none⟩ (.slice (some ⟨g4, 0, none⟩) t.length t.length)) := keep_set W g 0 _
     go_simp
     refine hK _ _ ⟨v22, v23, v24, v25, _, v7, _, (by simp only [Act.put, List.setIfInBounds_toArray, List.set_cons_succ, List.set_cons_zero]), ⟨hI.ext.setCell (p := ⟨g, 0, none⟩) hg _, hI.f0, fun q => let ⟨b, x, y⟩ := hI.f1 q; ⟨b, x, y.keep kp (y.ne hB)⟩, hI.f2, hI.f3, fun _ => ⟨g4, rfl, hg4, kp.blk hB4 (Blk.ne_ hB4 hB (by decide))⟩,
      fun q => let ⟨g2, u2, x, y, z, r⟩ := hI.f5 q; ⟨g2, u2, x, y, kp.blk z (Blk.ne_ z hB (by decide)), r⟩, fun _ => ⟨g, _, rfl, hg, hB.set_ 0 _, fun _ => rfl⟩, hI.d7, fun _ => ⟨by simp [upL, hd], by simp [upL, hd]⟩⟩⟩
   ·rintro L _ W ⟨v22, v23, v24, v25, v26, v7, v8, rfl, hI⟩ hL
    simp only [Act.put, List.setIfInBounds_toArray, List.set_cons_succ, List.set_cons_zero]
    obtain rfl := hI.f0 (hL 0 (by decide))
    obtain ⟨b, rfl, ht⟩ := hI.f1 (hL 1 (by decide))
    obtain rfl := hI.f2 (hL 2 (by decide))
    obtain rfl := hI.f3 (hL 3 (by decide))
    obtain ⟨g4, rfl, hg4, hB4⟩ := hI.f4 (hL 4 (by decide))
    obtain ⟨g5, _, rfl, hg5, hB5, r5⟩ := hI.f5 (hL 5 (by decide))
    obtain ⟨g6, _, rfl, hg6, hB6, r6⟩ := hI.f6 (hL 6 (by decide))
    obtain rfl := r5 (hL 7 (by decide))
    obtain rfl := r6 (hL 8 (by decide))
    have hM0 : Hid (OrdM w g4 g5 g6 b (.slice pa pick.length pc) t W (.slice none 0 0) [] (zeros t.length)) := by
     refine Lib.hid ⟨hE2.out.trans hI.ext, by omega, ?_, hB5, hB6, (Keep.of_ext (X := fun _ => False) hI.ext).blk hP2.out id, ht, StepsO.nil _ _⟩
     have e : zerosV t.length = ((zeros t.length).map (Value.int .i64)).toArray := by simp [zerosV, zerosL, zeros]
     rw [e] at hB4
     exact hB4
    clear hI hL ht hB4 hB5 hB6 r5 r6 hg5 hg6 e0 e1 hs0 hs1 hcl hmk
    have hW0 := Lib.hid (Way.begin hlw.out)
    have hpath0 : Hid (orderL t pick = [] ++ ordF t pick (left pick (zeros t.length)) (zeros t.length)) := rfl
    skip
    go_wp2_with fail
    go_loopw [9] (fun vo wr => ∃ (m : Nat) (A : Option Addr) (C : Nat) (out : List StepD) (st : List Int), vo = .slice A m C ∧ Hid (m = out.length) ∧ m ≤ 1024 ∧ Hid (OrdM w g4 g5 g6 b (.slice pa pick.length pc) t wr (.slice A m C) out st) ∧ Hid (Way t pick st) ∧ Hid (orderL t pick = out ++ ordF t pick (left pick st) st)) (fun vo _ => 1025 - sliceLen vo)
    case atStart => exact ⟨0, none, 0, [], zeros t.length, rfl, rfl, by omega, hM0, hW0, hpath0⟩
    case round =>
     clear hM0 hW0 hpath0
     obtain ⟨m, A, C, out, st, rfl, hm, hm1, hM, hWay, hpath⟩ := hrel
     have hsl := Lib.hid hWay.out.len
     have hcan : Hid (∀ i, i < st.length → ∀ W, Ext wr W → Calls Tryz.prog 26 #[.int .i64 i, .pointer (some ⟨g6, 0, none⟩), .pointer (some ⟨w.heap.size + 1, 0, none⟩), .pointer (some ⟨g5, 0, none⟩)] W fun e w' => e = .returned (.bool (canB t pick st i)) ∧ Ext W w') := fun i hi W hW => by
      have h := hM.out.toExt hW
      exact can_calls g6 (w.heap.size + 1) g5 g4 b t.length _ t pick st i W (h.sb.cell 0) hsl.out.symm h.state (h.pb.cell 0) (hP.out.ext h.ext) (h.cb.cell 0) h.tab (lawful_inRange hlw.out) hWay.out.range (hpl.out.trans hsl.out.symm) hi (by rw [hsl.out]; exact hb2)
     have hsv : Hid (Ints wr (.slice (some ⟨g4, 0, none⟩) t.length t.length) st) := by
      have := hM.out.state.read (by rw [hsl.out]; unfold maxLen; omega)
      rw [hsl.out] at this
      exact this
     have hnx := Lib.hid (next_calls _ _ 26 _ _ _ (fun _ _ => by kernel_rfl) t pick st wr hsv.out (hP.out.ext hM.out.ext) (hpl.out.trans hsl.out.symm) hcan.out)
     have c6 : wr.cell? ⟨g6, 0, none⟩ = some (.slice (some ⟨g4, 0, none⟩) t.length t.length) := hM.out.sb.cell 0
     have cp : wr.cell? ⟨w.heap.size + 1, 0, none⟩ = some (.slice pa pick.length pc) := hM.out.pb.cell 0
     clear hcan hsv
     cases hgo : goS t pick st with
     | none =>
      have R2 : Hid (orderL t pick = out) := by show _ = _; rw [hpath.out, ord_end hgo, List.append_nil]
      rw [hgo] at hnx
      clear hgo hpath
      go_wp2_with fail
      refine hnx.out.mono ?_
      rintro e w3 ⟨rfl, hx3⟩
      have hM3 := Lib.hid (hM.out.toExt hx3)
      clear hx3 hM hnx
      go_wp2
      go_ret2
      rw [R.out, R2.out]
      exact ⟨_, rfl, (hM3.out.toExt ((Ext.refl _).alloc _)).own, (hM3.out.ext.alloc _)⟩
     | some s =>
      obtain ⟨hw2, _, _, i, hi, hs, _⟩ := hWay.out.step hgo
      obtain ⟨x, y⟩ := s
      dsimp only at hs
      subst hs
      have hnext : Hid (ordF t pick (left pick st) st = ((i : Int), y) :: ordF t pick (left pick (stepS st ((i : Int), y))) (stepS st ((i : Int), y))) := ord_next hWay.out hgo
      have hst2 : Hid (stepS st ((i : Int), y) = st.set i y) := by show _ = _; simp [stepS]
      have hmlt : m + 1 ≤ 1024 := by
       have := congrArg List.length hpath.out
       rw [hnext.out, List.length_append, List.length_cons, ← hm.out] at this
       omega
      have hpath2 : Hid (orderL t pick = (out ++ [((i : Int), y)]) ++ ordF t pick (left pick (st.set i y)) (st.set i y)) := by
       show _ = _
       rw [hpath.out, hnext.out, hst2.out]
       simp
      have hway2 : Hid (Way t pick (st.set i y)) := by rw [← hst2.out]; exact hw2
      rw [hgo] at hnx
      clear hgo hpath hnext hst2 hw2 hWay
      go_wp2_with fail
      refine hnx.out.mono ?_
      rintro e w3 ⟨rfl, hx3⟩
      have hM3 := Lib.hid (hM.out.toExt hx3)
      clear hx3 hM hnx c6 cp
      go_upto_region 12 with (fail)
      refine wp_abs (S := fun V => Hid (OrdM w g4 g5 g6 b (.slice pa pick.length pc) t V (.slice A m C) out st) ∧ V.cell? ⟨w3.heap.size, 0, none⟩ = some (.int .i64 i) ∧ V.cell? ⟨w3.heap.size, 1, none⟩ = some (.int .i64 y)) ?_ ?_
      ·exact ⟨Lib.hid (hM3.out.toExt (by with_reducible repeat' (first | exact Ext.refl _ | assumption | refine Ext.drewN ?_ _ | refine Ext.drew ?_ | refine Ext.alloc ?_ _ | refine Ext.trans ?_ (by with_reducible assumption)))), by simp [nextV], by simp [nextV]⟩
      rintro V ⟨hV, k0, k1⟩
      have h4 := hM3.out.state.lt
      clear hM3
      have c6 : V.cell? ⟨g6, 0, none⟩ = some (.slice (some ⟨g4, 0, none⟩) t.length t.length) := hV.out.sb.cell 0
      have m1 := hV.out.state.cell (i := i) (by rw [hsl.out]; exact hi)
      have m2 := hV.out.state.frozen i
      have lg4 := hV.out.state.lt
      go_upto_region 13 with (fail)
      refine wp_abs (S := fun V => Hid (OrdM w g4 g5 g6 b (.slice pa pick.length pc) t V (.slice A m C) out (st.set i y)) ∧ V.cell? ⟨w3.heap.size, 0, none⟩ = some (.int .i64 i) ∧ V.cell? ⟨w3.heap.size, 1, none⟩ = some (.int .i64 y)) ?_ ?_
      ·have k := keep_set V g4 i (.int .i64 y)
       exact ⟨Lib.hid (hV.out.setSt i y), k.cell k0 (by dsimp only; omega), k.cell k1 (by dsimp only; omega)⟩
      clear hV k0 k1 c6 m1 m2 lg4 h4
      rintro V2 ⟨hV, k0, k1⟩
      have hs2 := hV.out.ext.size
      have hown := Lib.hid hV.out.own
      have hown' : Hid (V2.ownsRow w.heap.size 92 2 (.slice A m C) m (spanCells out)) := by have := hown.out; unfold StepsO at this; rw [← hm.out] at this; exact this
      clear hown hsl
      go_wp2_with (at_builtin; refine wpList_append_any _ rfl (.tmp 44) (.tmp 46) _ rfl w.heap.size 92 j0 _ 2 16 Tryz.underlying39 hj0 jz0 jz1 jz2 rfl (by decide) (.slice A m C) m (spanCells out) rfl (hown'.out.alloc _) (V2.heap.size + 1) (some ⟨V2.heap.size, 0, none⟩) 1 1 [.int .i64 (i : Int), .int .i64 y] rfl (reads_last _ #[_, _] _ 2 1 _ _ rfl (by omega) rfl) (two_ints _ _) (by unfold maxLen; omega) (by omega) (by rw [World.size_alloc]; omega) ?_; intro v5 w5 hown5 hg5 hat5; obtain ⟨A5, C5, rfl⟩ := owns_form hown5)
      have hM5 : Hid (OrdM w g4 g5 g6 b (.slice pa pick.length pc) t w5 (.slice A5 (m + 1) C5) (out ++ [((i : Int), y)]) (st.set i y)) := by
       rw [hm.out] at hown5
       have := (hV.out.toExt ((Ext.refl V2).alloc (.cells #[.int .i64 (i : Int), .int .i64 y] 92))).push (s := ((i : Int), y)) hown5 hg5
       rw [← hm.out] at this
       exact this
      have hm5 : Hid (m + 1 = (out ++ [((i : Int), y)]).length) := by show _ = _; rw [List.length_append, ← hm.out]; rfl
      clear hown5 hg5 hat5 hV hown' hm k0 k1
      go_wp2
      go_roundw
      case rel => exact ⟨m + 1, A5, C5, _, _, rfl, hm5, hmlt, hM5, hway2, hpath2⟩
      case measure => simp [sliceLen]; omega
 ·have hz0 : (z != 0) = true := by simp [h0]
  have R : Hid (orderS t pick = ([], z)) := by show _ = _; unfold orderS; rw [hz.out, if_neg h0]
  clear hz h0
  go_wp2
  go_ret2
  rw [R.out]
  exact ⟨_, rfl, StepsO.nil _ _, hE1.out⟩
end Go.Proofs.YtepcdhpikpmepaaGreat
