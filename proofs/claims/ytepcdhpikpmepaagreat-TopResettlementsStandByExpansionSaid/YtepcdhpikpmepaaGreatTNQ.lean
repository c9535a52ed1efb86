/- Walk of slices.Compact at instances. -/
import Derived.Test.YtepcdhpikpmepaaGreatTMQ
import Derived.Test.YtepcdhpikpmepaaGreatTMAQ
import Derived.Lib.SliceRun
namespace Go.Proofs.YtepcdhpikpmepaaGreat
open Go.RowKit
attribute [local go_sem] Oper.semAt_some

/-! ### one copy of each run -/
theorem compI_snoc : ∀ (a : List InstD) (x : InstD), compI (a ++ [x]) = if a.getLast? = some x then compI a else compI a ++ [x]
 | [], x => by simp [compI]
 | [y], x => by
  by_cases h : y = x
  ·subst h; simp [compI]
  ·have h' : ¬ x = y := fun e => h e.symm
   simp [compI, h, h']
 | y :: z :: t, x => by
  have ih := compI_snoc (z :: t) x
  have e : (y :: z :: t) ++ [x] = y :: ((z :: t) ++ [x]) := rfl
  have hl : (y :: z :: t).getLast? = (z :: t).getLast? := by simp
  have h1 : ((z :: t) ++ [x]).head? = (z :: t).head? := rfl
  rw [e, compI, h1, ih, hl]
  conv => rhs; rw [compI]
  split <;> split <;> simp_all
theorem compI_take {l : List InstD} {j : Nat} {x y : InstD} (hx : l[j]? = some x) (h0 : 0 < j) (hy : l[j - 1]? = some y) : compI (l.take (j + 1)) = if y = x then compI (l.take j) else compI (l.take j) ++ [x] := by
 have hj : j < l.length := (List.getElem?_eq_some_iff.1 hx).1
 have hl : (l.take j).getLast? = some y := by
  rw [List.getLast?_eq_getElem?, List.length_take, Nat.min_eq_left (by omega), List.getElem?_take, if_pos (by omega), hy]
 rw [List.take_add_one, hx]
 simp only [Option.toList_some]
 rw [compI_snoc, hl]
 by_cases h : y = x <;> simp [h]

theorem take_at' {l : List InstD} {i : Nat} {y : InstD} (hy : l[i]? = some y) : l.take (i + 1) = l.take i ++ [y] := by rw [List.take_add_one, hy]; rfl

/-! ### cells set one after the other -/
theorem setCells_blk : ∀ (xs : List Value) (w : World) (g o : Nat) (T : TypeId) (cs : Array Value), Blk w g T cs → ∃ cs', Blk (w.setCells g o xs) g T cs' ∧ cs'.size = cs.size ∧ (∀ j, j < o → cs'[j]? = cs[j]?) ∧ Keep (fun k => k = g) w (w.setCells g o xs)
 | [], w, g, o, T, cs, h => ⟨cs, h, rfl, fun _ _ => rfl, Keep.refl _ _⟩
 | x :: xs, w, g, o, T, cs, h => by
  obtain ⟨cs', h1, h2, h3, h4⟩ := setCells_blk xs (w.setCell ⟨g, o, none⟩ x) g (o + 1) T _ (h.set_ o x)
  refine ⟨cs', h1, by rw [h2]; simp, fun j hj => ?_, (Keep.setCell (X := fun k => k = g) (p := ⟨g, o, none⟩) (Keep.refl _ _) (Or.inl rfl) x).trans h4⟩
  rw [h3 j (by omega), Array.getElem?_setIfInBounds_ne (by omega)]
theorem zero_cells (n : Nat) : (Builtin.zeroCells #[Value.int .i64 0, .int .i64 0, .int .i64 0] n).toList = List.replicate (n * 3) (.int .i64 0) := by
 apply List.ext_getElem
 ·simp [Builtin.zeroCells]
 ·intro i h1 h2
  simp [Builtin.zeroCells]
  have : i % 3 = 0 ∨ i % 3 = 1 ∨ i % 3 = 2 := by omega
  rcases this with h | h | h <;> simp [h]
theorem run_clear_in (w : World) (ty : TypeId) (g o n c : Nat) (hc : ∀ j, j < n * 3 → (w.cell? ⟨g, o + j, none⟩).isSome = true) (hf : ∀ j, j < n * 3 → w.frozen? ⟨g, o + j, none⟩ = false) (hn : 0 < n) :
  (Builtin.clear_ #[48] ty #[.slice (some ⟨g, o, none⟩) n c]).run Tryz.prog w = .ok (.tuple #[]) (w.setCells g o (List.replicate (n * 3) (.int .i64 0))) := by
 have hst := run_storeCells_cells (P := Tryz.prog) g o (List.replicate (n * 3) (.int .i64 0)) 0 w (by simpa using hc) (by simpa using hf) (by intro v hv'; rw [List.eq_of_mem_replicate hv']; rfl)
 simp only [Nat.add_zero] at hst
 have ht := Tryz.underlying48
 have hz : ∀ W, (zeroValue 105).run Tryz.prog W = .ok (.agg #[.int .i64 0, .int .i64 0, .int .i64 0]) W := Tryz.zeroValue105
 obtain ⟨m, rfl⟩ : ∃ m, n = m + 1 := ⟨n - 1, by omega⟩
 have hzc := zero_cells (m + 1)
 have hcl : (Value.agg #[.int .i64 0, .int .i64 0, .int .i64 0]).cells = #[.int .i64 0, .int .i64 0, .int .i64 0] := rfl
 simp [Builtin.clear_, run_underlying ht, hz, hcl, hzc, hst]

theorem inCells_set (x : InstD) : ∀ (l : List InstD) (i : Nat), i < l.length → inCells (l.set i x) = (((inCells l).set (i * 3) (.int .i64 x.1)).set (i * 3 + 1) (.int .i64 x.2.1)).set (i * 3 + 2) (.int .i64 x.2.2)
 | [], i, h => by simp at h
 | y :: r, 0, _ => rfl
 | y :: r, i + 1, h => by
  have ih := inCells_set x r i (by simpa using h)
  have e : ∀ l' : List InstD, inCells (y :: l') = .int .i64 y.1 :: .int .i64 y.2.1 :: .int .i64 y.2.2 :: inCells l' := fun _ => rfl
  rw [List.set_cons_succ, e, ih, e, show (i + 1) * 3 + 2 = i * 3 + 2 + 1 + 1 + 1 by omega, show (i + 1) * 3 + 1 = i * 3 + 1 + 1 + 1 + 1 by omega, show (i + 1) * 3 = i * 3 + 1 + 1 + 1 by omega]
  rfl
theorem InstsO.set_ {W : World} {B g n c i : Nat} {l : List InstD} (h : InstsO W B (.slice (some ⟨g, 0, none⟩) n c) l) (hn : n = l.length) (hi : i < n) (x : InstD) :
  InstsO (((W.setCell ⟨g, i * 3, none⟩ (.int .i64 x.1)).setCell ⟨g, i * 3 + 1, none⟩ (.int .i64 x.2.1)).setCell ⟨g, i * 3 + 2, none⟩ (.int .i64 x.2.2)) B (.slice (some ⟨g, 0, none⟩) n c) (l.set i x) := by
 subst hn
 have h1 := (World.ownsRow.stored h (i * 3) (.int .i64 x.1)).1
 have h2 := (h1.stored (i * 3 + 1) (.int .i64 x.2.1)).1
 have h3 := (h2.stored (i * 3 + 2) (.int .i64 x.2.2)).1
 unfold InstsO
 rw [List.length_set, inCells_set x l i hi]
 exact h3
theorem InstsO.at_ {W : World} {B g n c i : Nat} {l : List InstD} {x : InstD} (h : InstsO W B (.slice (some ⟨g, 0, none⟩) n c) l) (hx : l[i]? = some x) :
  W.cell? ⟨g, i * 3, none⟩ = some (.int .i64 x.1) ∧ W.cell? ⟨g, i * 3 + 1, none⟩ = some (.int .i64 x.2.1) ∧ W.cell? ⟨g, i * 3 + 2, none⟩ = some (.int .i64 x.2.2) := by
 obtain ⟨h0, h1, h2⟩ := inCells_at i x hx
 have e : ∀ j, (⟨g, 0, none⟩ : Addr).add j = ⟨g, j, none⟩ := fun j => by unfold Addr.add; split <;> simp_all
 have k0 := h.cells (g := g) rfl _ _ h0
 have k1 := h.cells (g := g) rfl _ _ h1
 have k2 := h.cells (g := g) rfl _ _ h2
 rw [e] at k0 k1 k2
 exact ⟨k0, k1, k2⟩
structure CompS (l : List InstD) (j k : Nat) (cur : List InstD) : Prop where
 len : cur.length = l.length
 low : cur.take k = compI (l.take j)
 high : ∀ i, j ≤ i + 1 → cur[i]? = l[i]?
 lt : k < j
theorem CompS.start {l : List InstD} {k : Nat} {x : InstD} (h0 : 1 ≤ k) (hno : compI (l.take k) = l.take k) (hx : l[k]? = some x) (hy : l[k - 1]? = some x) : CompS l (k + 1) k l :=
 ⟨rfl, by rw [compI_take hx (by omega) hy, if_pos rfl, hno], fun _ _ => rfl, by omega⟩
theorem CompS.skip {l cur : List InstD} {j k : Nat} {x : InstD} (h : CompS l j k cur) (hx : l[j]? = some x) (hy : l[j - 1]? = some x) : CompS l (j + 1) k cur :=
 ⟨h.len, by rw [h.low, compI_take hx (by have := h.lt; omega) hy, if_pos rfl], fun i hi => h.high i (by omega), by have := h.lt; omega⟩
theorem CompS.keep {l cur : List InstD} {j k : Nat} {x y : InstD} (h : CompS l j k cur) (hx : l[j]? = some x) (hy : l[j - 1]? = some y) (hne : x ≠ y) : CompS l (j + 1) (k + 1) (cur.set k x) := by
 have hj : j < l.length := (List.getElem?_eq_some_iff.1 hx).1
 have hk := h.lt
 have hl := h.len
 refine ⟨by rw [List.length_set]; exact hl, ?_, fun i hi => ?_, by omega⟩
 ·rw [compI_take hx (by omega) hy, if_neg (fun e => hne e.symm), ← h.low, List.take_add_one, List.getElem?_set_self (by omega), List.take_set_of_le (Nat.le_refl _)]
  rfl
 ·rw [List.getElem?_set_ne (by omega)]
  exact h.high i (by omega)
theorem compI_short : ∀ {l : List InstD}, l.length < 2 → compI l = l
 | [], _ => rfl
 | [x], _ => by simp [compI]
 | _ :: _ :: _, h => by simp at h; omega
set_option maxHeartbeats 6400000 in
set_option maxRecDepth 100000 in
theorem compact_calls (w : World) (B : Nat) (A : Option Addr) (C n0 : Nat) (l : List InstD) (h : InstsO w B (.slice A n0 C) l) (hl : l.length ≤ 1000000) :
  Calls Tryz.prog 57 #[.slice A n0 C] w fun e w' => ∃ m, e = .returned (.slice A m C) ∧ Insts w' (.slice A m C) (compI l) ∧ Keep (fun k => (Value.slice A n0 C).ownBlock = some k) w w' := by
 obtain rfl : n0 = l.length := by
  rcases h.2 with ⟨e, h0⟩ | ⟨_, _, _, e, _⟩
  ·cases e; exact h0.symm
  ·cases e; rfl
 by_cases h2 : l.length < 2
 ·have hR : Hid (Insts w (.slice A l.length C) (compI l)) := Lib.hid (by rw [compI_short h2]; exact h.read)
  clear h
  have d2 : decide ((l.length : Int) < 2) = true := decide_eq_true (by omega)
  go_enter Tryz.func57, Tryz.ntmps57
  go_wp2
  go_ret
  exact ⟨_, rfl, hR.out, Keep.refl _ _⟩
 ·obtain ⟨g, c, hv, hv2, hc, hc2⟩ : ∃ g c, A = some ⟨g, 0, none⟩ ∧ c = C ∧ l.length ≤ c ∧ c ≤ 9223372036854775807 := by
   rcases h.2 with ⟨_, h0⟩ | ⟨g, cap, cur, e, _, _, hn, hcap, _⟩
   ·omega
   ·cases e
    exact ⟨_, _, rfl, rfl, hn, hcap⟩
  subst hv
  obtain rfl : c = C := hv2
  obtain ⟨n, hn⟩ : ∃ n, l.length = n := ⟨_, rfl⟩
  rw [hn] at h hc hl h2 ⊢
  have hn' := Lib.hid hn
  clear hn
  have hO := Lib.hid h
  clear h
  have d2 : decide ((n : Int) < 2) = false := decide_eq_false (by omega)
  go_enter Tryz.func57, Tryz.ntmps57
  go_wp2_with fail
  go_loopw [3] (fun v3 wr => ∃ k : Nat, 1 ≤ k ∧ k ≤ n ∧ v3 = .int .i64 k ∧ Hid (Ext w wr) ∧ Hid (compI (l.take k) = l.take k)) (fun v3 _ => n - (intOf v3).toNat)
  case atStart => exact ⟨1, by omega, by omega, rfl, Lib.hid (Ext.refl _), Lib.hid (compI_short (by rw [List.length_take]; omega))⟩
  case round =>
   obtain ⟨k, hk1, hkn, rfl, hx, hno⟩ := hrel
   by_cases hlt : k < n
   ·obtain ⟨x, hxk⟩ : ∃ x, l[k]? = some x := ⟨_, List.getElem?_eq_getElem (by rw [hn'.out]; exact hlt)⟩
    obtain ⟨y, hyk⟩ : ∃ y, l[k - 1]? = some y := ⟨_, List.getElem?_eq_getElem (by rw [hn'.out]; omega)⟩
    have hOr := Lib.hid (owns_ext hO.out hx.out)
    obtain ⟨p0, p1, p2⟩ := InstsO.at_ (l := l) hOr.out hxk
    obtain ⟨q0, q1, q2⟩ := InstsO.at_ (l := l) hOr.out hyk
    have gl := ((hOr.out.lt g rfl).2)
    have hne := in_eql x y
    have hgd := fun op p q => in_guard op p q x y
    obtain ⟨q, hq⟩ : ∃ q, Hid (decide (x = y) = q) := ⟨_, rfl⟩
    rw [hq.out] at hne
    have z0 := After.cell p0
    have z1 := After.cell p1
    have z2 := After.cell p2
    have z3 := After.cell q0
    have z4 := After.cell q1
    have z5 := After.cell q2
    have hxk' := Lib.hid hxk
    have hyk' := Lib.hid hyk
    clear p0 p1 p2 q0 q1 q2 hxk hyk
    go_wp2_with fail
    refine wp_region_after (by kernel_rfl) (by kernel_rfl) ?_
    repeat (go_big_quiet_step (fail))
    refine wpQuiet_nil ?_
    rintro _ ⟨u, rfl⟩
    have hxV := Lib.hid (hx.out.trans u.ext)
    generalize u.world = V at hxV ⊢
    clear z0 z1 z2 z3 z4 z5 hne hgd hOr hx
    cases q with
    | false =>
     have hno' : Hid (compI (l.take (k + 1)) = l.take (k + 1)) := Lib.hid (by
      rw [compI_take hxk'.out (by omega) hyk'.out, if_neg (fun e => of_decide_eq_false hq.out e.symm), hno.out, take_at' hxk'.out])
     clear hno hq hxk' hyk'
     go_wp2
     go_roundw
     case rel => exact ⟨k + 1, by omega, by omega, by go_num, hxV, hno'⟩
     case measure => simp [intOf]; omega
    | true =>
     have exy := of_decide_eq_true hq.out
     have hC0 : Hid (CompS l (k + 1) k l) := Lib.hid (CompS.start hk1 hno.out hxk'.out (by rw [exy]; exact hyk'.out))
     have hOV := Lib.hid (owns_ext hO.out hxV.out)
     have dck : (c == k) = false := by rw [beq_eq_false_iff_ne]; omega
     clear hno hq hxk' hyk' exy gl
     go_wp2_with fail
     have kV := Lib.hid (Keep.of_ext (X := fun i => i = g) hxV.out)
     clear hO hxV
     go_loopw [3, 5] (fun v3 v5 wr => ∃ (kk k2 : Nat) (cur : List InstD), 1 ≤ k2 ∧ k + k2 ≤ n ∧ v3 = .int .i64 kk ∧ v5 = .int .i64 k2 ∧ Hid (InstsO wr B (.slice (some ⟨g, 0, none⟩) n c) cur) ∧ Hid (CompS l (k + k2) kk cur) ∧ Hid (Keep (fun i => i = g) w wr)) (fun _ v5 _ => n - k - (intOf v5).toNat)
     case atStart => exact ⟨k, 1, l, by omega, by omega, rfl, rfl, hOV, hC0, kV⟩
     case round =>
      clear hC0 hOV kV
      obtain ⟨kk, k2, cur, hk2, hkn2, rfl, rfl, hO, hC, hK⟩ := hrel
      rename World => wq
      have hkk := hC.out.lt
      by_cases hlt2 : k + k2 < n
      ·obtain ⟨x2, hx2⟩ : ∃ x2, l[k + k2]? = some x2 := ⟨_, List.getElem?_eq_getElem (by rw [hn'.out]; exact hlt2)⟩
       obtain ⟨y2, hy2⟩ : ∃ y2, l[k + (k2 - 1)]? = some y2 := ⟨_, List.getElem?_eq_getElem (by rw [hn'.out]; omega)⟩
       obtain ⟨o, ho⟩ : ∃ o, cur[kk]? = some o := ⟨_, List.getElem?_eq_getElem (by rw [hC.out.len, hn'.out]; omega)⟩
       obtain ⟨p0, p1, p2⟩ := InstsO.at_ hO.out (show cur[k + k2]? = some x2 by rw [hC.out.high _ (by omega)]; exact hx2)
       obtain ⟨q0, q1, q2⟩ := InstsO.at_ hO.out (show cur[k + (k2 - 1)]? = some y2 by rw [hC.out.high _ (by omega)]; exact hy2)
       rw [Nat.add_mul] at p0 p1 p2 q0 q1 q2
       have gl := ((hO.out.lt g rfl).2)
       have hne := in_neq x2 y2
       have hgd := fun op p q => in_guard op p q x2 y2
       obtain ⟨q, hq⟩ : ∃ q, Hid ((!decide (x2 = y2)) = q) := ⟨_, rfl⟩
       rw [hq.out] at hne
       have z0 := After.cell p0
       have z1 := After.cell p1
       have z2 := After.cell p2
       have z3 := After.cell q0
       have z4 := After.cell q1
       have z5 := After.cell q2
       have hx2' := Lib.hid hx2
       have hy2' : Hid (l[k + k2 - 1]? = some y2) := Lib.hid (by rw [show k + k2 - 1 = k + (k2 - 1) by omega]; exact hy2)
       have ho' := Lib.hid ho
       clear q0 q1 q2 hx2 hy2 ho p0 p1 p2
       go_wp2_with fail
       refine wp_region_after (by kernel_rfl) (by kernel_rfl) ?_
       repeat (go_big_quiet_step (fail))
       refine wpQuiet_nil ?_
       rintro _ ⟨u, rfl⟩
       replace hO := Lib.hid (show InstsO u.world B (.slice (some ⟨g, 0, none⟩) n c) cur from owns_ext hO.out u.ext)
       replace hK := Lib.hid (hK.out.trans (Keep.of_ext u.ext))
       generalize u.world = V2 at hO hK ⊢
       clear z0 z1 z2 z3 z4 z5 hne hgd
       cases q with
       | false =>
        have exy : x2 = y2 := by have := hq.out; simpa using this
        have hC' : Hid (CompS l (k + (k2 + 1)) kk cur) := Lib.hid (hC.out.skip hx2'.out (by rw [exy]; exact hy2'.out))
        clear hq hC hx2' hy2' ho' exy
        go_wp2
        go_roundw
        case rel => exact ⟨kk, k2 + 1, cur, by omega, by omega, rfl, by go_num, hO, hC', hK⟩
        case measure => simp [intOf]; omega
       | true =>
        have hxy : x2 ≠ y2 := by have := hq.out; simpa using this
        obtain ⟨p0, p1, p2⟩ := InstsO.at_ hO.out (show cur[k + k2]? = some x2 by rw [hC.out.high _ (by omega)]; exact hx2'.out)
        obtain ⟨q0, q1, q2⟩ := InstsO.at_ hO.out ho'.out
        rw [Nat.add_mul] at p0 p1 p2
        have hC' : Hid (CompS l (k + (k2 + 1)) (kk + 1) (cur.set kk x2)) := Lib.hid (hC.out.keep hx2'.out hy2'.out hxy)
        have hrow : V2.ownsRow B 105 3 (.slice (some ⟨g, 0, none⟩) n c) n (inCells cur) := by
         have h := hO.out
         unfold InstsO at h
         rwa [hC.out.len, hn'.out] at h
        have f0 := hrow.frozenAt (kk * 3)
        have f1 := hrow.frozenAt (kk * 3 + 1)
        have f2 := hrow.frozenAt (kk * 3 + 2)
        clear hrow
        have hO' := Lib.hid (hO.out.set_ (i := kk) (by rw [hC.out.len, hn'.out]) (by omega) x2)
        have hK' := Lib.hid (((hK.out.setCell (p := ⟨g, kk * 3, none⟩) (Or.inl rfl) (.int .i64 x2.1)).setCell (p := ⟨g, kk * 3 + 1, none⟩) (Or.inl rfl) (.int .i64 x2.2.1)).setCell (p := ⟨g, kk * 3 + 2, none⟩) (Or.inl rfl) (.int .i64 x2.2.2))
        replace gl := ((hO.out.lt g rfl).2)
        clear hq hC hx2' hy2' ho' hxy hO hK
        go_wp2_with fail
        refine ⟨⟨kk + 1, k2 + 1, _, by omega, by omega, by go_num, by go_num, hO', hC', hK'⟩, ?_⟩
        simp [intOf]
        omega
      ·have hend : k + k2 = n := by omega
       have hrow : wq.ownsRow B 105 3 (.slice (some ⟨g, 0, none⟩) n c) n (inCells cur) := by
        have h := hO.out
        unfold InstsO at h
        rwa [hC.out.len, hn'.out] at h
       have hcl : ∀ ty, (Builtin.clear_ #[48] ty #[.slice (some ⟨g, kk * 3, none⟩) (n - kk) (c - kk)]).run Tryz.prog wq = .ok (.tuple #[]) (wq.setCells g (kk * 3) (List.replicate ((n - kk) * 3) (.int .i64 0))) := fun ty =>
        run_clear_in wq ty g (kk * 3) (n - kk) (c - kk) (fun j hj => by
         have hlt : kk * 3 + j < n * 3 := by omega
         obtain ⟨z, h0⟩ : ∃ z, (inCells cur)[kk * 3 + j]? = some z := ⟨_, List.getElem?_eq_getElem (by rw [inCells_len, hC.out.len, hn'.out]; exact hlt)⟩
         have h1 := hrow.cells (g := g) rfl _ _ h0
         have e : (⟨g, 0, none⟩ : Addr).add (kk * 3 + j) = ⟨g, kk * 3 + j, none⟩ := by unfold Addr.add; split <;> simp_all
         rw [e] at h1
         rw [h1]
         rfl) (fun j _ => hrow.frozenAt (kk * 3 + j)) (by omega)
       have hfin : Hid (Insts (wq.setCells g (kk * 3) (List.replicate ((n - kk) * 3) (.int .i64 0))) (.slice (some ⟨g, 0, none⟩) kk c) (compI l) ∧ Keep (fun i => i = g) w (wq.setCells g (kk * 3) (List.replicate ((n - kk) * 3) (.int .i64 0)))) := Lib.hid (by
        rcases hrow.2 with ⟨h0, _⟩ | ⟨g', cap, cs, e, _, hb, _, _, _, htake⟩
        ·cases h0
        ·cases e
         obtain ⟨cs', h1, _, h3, h4⟩ := setCells_blk (List.replicate ((n - kk) * 3) (.int .i64 0)) wq g (kk * 3) 105 cs hb
         refine ⟨?_, hK.out.trans h4⟩
         have hlow : cur.take kk = compI l := by
          have := hC.out.low
          rw [hend, ← hn'.out, List.take_length] at this
          exact this
         have hlen : (compI l).length = kk := by rw [← hlow, List.length_take, hC.out.len, hn'.out]; omega
         have hat : ∀ i, i < kk → ∀ j, j < 3 → cs'[i * 3 + j]? = (inCells cur)[i * 3 + j]? := fun i hi j hj => by
          rw [h3 _ (by omega), ← htake, List.getElem?_take, if_pos (by omega), Array.getElem?_toList]
         have := sl_of_blk (n := kk) (c := c) (F := fun i j => .int .i64 (instCell ((compI l)[i]?.getD default) j)) h1 (by omega) (by unfold maxLen; omega) (fun i hi j hj => by
          have hi2 : i < cur.length := by rw [hC.out.len, hn'.out]; omega
          have hx : (compI l)[i]? = some cur[i] := by rw [← hlow, List.getElem?_take, if_pos hi, List.getElem?_eq_getElem hi2]
          obtain ⟨k0, k1, k2⟩ := inCells_at i cur[i] (List.getElem?_eq_getElem hi2)
          rw [hat i hi j hj, hx]
          rcases j with _ | _ | _ | j
          ·rw [Nat.add_zero, k0]; simp [instCell]
          ·rw [k1]; simp [instCell]
          ·rw [k2]; simp [instCell]
          ·omega)
         unfold Insts
         rw [hlen]
         exact this)
       have dck2 : (c == kk) = false := by rw [beq_eq_false_iff_ne]; omega
       have hkn3 : kk < n := by omega
       clear hrow hO hC hK
       go_wp2_with fail
       go_ret
       exact ⟨_, rfl, hfin.out.1, hfin.out.2.mono (fun i _ h => by rw [h]; rfl)⟩
   ·have hR : Hid (compI l = l) := Lib.hid (by
     have := hno.out
     rwa [List.take_of_length_le (by rw [hn'.out]; omega)] at this)
    have hfin : Hid (Insts wr (.slice (some ⟨g, 0, none⟩) n c) l) := Lib.hid (by
     have : InstsO wr B (.slice (some ⟨g, 0, none⟩) n c) l := owns_ext hO.out hx.out
     exact this.read)
    clear hno
    go_wp2
    go_ret
    rw [hR.out]
    exact ⟨_, rfl, hfin.out, Keep.of_ext hx.out⟩
end Go.Proofs.YtepcdhpikpmepaaGreat
