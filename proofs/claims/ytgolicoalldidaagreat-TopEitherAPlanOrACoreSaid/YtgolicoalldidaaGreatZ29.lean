import Derived.Test.YtgolicoalldidaaGreatZ27
import Derived.Test.YtgolicoalldidaaGreatZ28
set_option maxHeartbeats 12800000
namespace Go.Proofs.YtgolicoalldidaaGreat
open Go.RowKit
attribute [local go_sem] Oper.semAt_some
theorem compI_snoc : ∀ (a : List InstD) (x : InstD), compI (a ++ [x]) = if a.getLast? = some x then compI a else compI a ++ [x]
 | [], x => by simp [compI]
 | [y], x => by
  by_cases h : y = x
  ·subst h; simp [compI]
  ·have h' : ¬ x = y := fun e => h e.symm
   simp [compI, h, h']
 | y :: z :: t, x => by
  have ih := compI_snoc (z :: t) x
  have e : (y :: z :: t) ++ [x] = y :: ((z :: t) ++ [x]) := rfl
  have hl : (y :: z :: t).getLast? = (z :: t).getLast? := by simp
  have h1 : ((z :: t) ++ [x]).head? = (z :: t).head? := rfl
  rw [e, compI, h1, ih, hl]
  conv => rhs; rw [compI]
  split <;> split <;> simp_all
theorem compI_take {l : List InstD} {j : Nat} {x y : InstD} (hx : l[j]? = some x) (h0 : 0 < j) (hy : l[j - 1]? = some y) : compI (l.take (j + 1)) = if y = x then compI (l.take j) else compI (l.take j) ++ [x] := by
 have hj : j < l.length := (List.getElem?_eq_some_iff.1 hx).1
 have hl : (l.take j).getLast? = some y := by
  rw [List.getLast?_eq_getElem?, List.length_take, Nat.min_eq_left (by omega), List.getElem?_take, if_pos (by omega), hy]
 rw [List.take_add_one, hx]
 simp only [Option.toList_some]
 rw [compI_snoc, hl]
 by_cases h : y = x <;> simp [h]
theorem take_at' {l : List InstD} {i : Nat} {y : InstD} (hy : l[i]? = some y) : l.take (i + 1) = l.take i ++ [y] := by rw [List.take_add_one, hy]; rfl
theorem setCells_blk : ∀ (xs : List Value) (w : World) (g o : Nat) (T : TypeId) (cs : Array Value), Blk w g T cs → ∃ cs', Blk (w.setCells g o xs) g T cs' ∧ cs'.size = cs.size ∧ (∀ j, j < o → cs'[j]? = cs[j]?) ∧ Keep (fun k => k = g) w (w.setCells g o xs)
 | [], w, g, o, T, cs, h => ⟨cs, h, rfl, fun _ _ => rfl, Keep.refl _ _⟩
 | x :: xs, w, g, o, T, cs, h => by
  obtain ⟨cs', h1, h2, h3, h4⟩ := setCells_blk xs (w.setCell ⟨g, o, none⟩ x) g (o + 1) T _ (h.set_ o x)
  refine ⟨cs', h1, by rw [h2]; simp, fun j hj => ?_, (Keep.setCell (X := fun k => k = g) (p := ⟨g, o, none⟩) (Keep.refl _ _) (Or.inl rfl) x).trans h4⟩
  rw [h3 j (by omega), Array.getElem?_setIfInBounds_ne (by omega)]
theorem zero_cells (n : Nat) : (Builtin.zeroCells #[Value.int .i64 0, .int .i64 0, .int .i64 0] n).toList = List.replicate (n * 3) (.int .i64 0) := by
 apply List.ext_getElem
 ·simp [Builtin.zeroCells]
 ·intro i h1 h2
  simp [Builtin.zeroCells]
  have : i % 3 = 0 ∨ i % 3 = 1 ∨ i % 3 = 2 := by omega
  rcases this with h | h | h <;> simp [h]
theorem run_clear_in (w : World) (ty : TypeId) (g o n c : Nat) (hc : ∀ j, j < n * 3 → (w.cell? ⟨g, o + j, none⟩).isSome = true) (hf : ∀ j, j < n * 3 → w.frozen? ⟨g, o + j, none⟩ = false) (hn : 0 < n) :
  (Builtin.clear_ #[48] ty #[.slice (some ⟨g, o, none⟩) n c]).run Tryz.prog w = .ok (.tuple #[]) (w.setCells g o (List.replicate (n * 3) (.int .i64 0))) := by
 have hst := run_storeCells_cells (P := Tryz.prog) g o (List.replicate (n * 3) (.int .i64 0)) 0 w (by simpa using hc) (by simpa using hf) (by intro v hv'; rw [List.eq_of_mem_replicate hv']; rfl)
 simp only [Nat.add_zero] at hst
 have ht := Tryz.underlying48
 have hz : ∀ W, (zeroValue 114).run Tryz.prog W = .ok (.agg #[.int .i64 0, .int .i64 0, .int .i64 0]) W := Tryz.zeroValue114
 obtain ⟨m, rfl⟩ : ∃ m, n = m + 1 := ⟨n - 1, by omega⟩
 have hzc := zero_cells (m + 1)
 have hcl : (Value.agg #[.int .i64 0, .int .i64 0, .int .i64 0]).cells = #[.int .i64 0, .int .i64 0, .int .i64 0] := rfl
 simp [Builtin.clear_, run_underlying ht, hz, hcl, hzc, hst]
theorem inCells_set (x : InstD) : ∀ (l : List InstD) (i : Nat), i < l.length → inCells (l.set i x) = (((inCells l).set (i * 3) (.int .i64 x.1)).set (i * 3 + 1) (.int .i64 x.2.1)).set (i * 3 + 2) (.int .i64 x.2.2)
 | [], i, h => by simp at h
 | y :: r, 0, _ => rfl
 | y :: r, i + 1, h => by
  have ih := inCells_set x r i (by simpa using h)
  have e : ∀ l' : List InstD, inCells (y :: l') = .int .i64 y.1 :: .int .i64 y.2.1 :: .int .i64 y.2.2 :: inCells l' := fun _ => rfl
  rw [List.set_cons_succ, e, ih, e, show (i + 1) * 3 + 2 = i * 3 + 2 + 1 + 1 + 1 by omega, show (i + 1) * 3 + 1 = i * 3 + 1 + 1 + 1 + 1 by omega, show (i + 1) * 3 = i * 3 + 1 + 1 + 1 by omega]
  rfl
theorem InstsO.set_ {W : World} {B g n c i : Nat} {l : List InstD} (h : InstsO W B (.slice (some ⟨g, 0, none⟩) n c) l) (hn : n = l.length) (hi : i < n) (x : InstD) :
  InstsO (((W.setCell ⟨g, i * 3, none⟩ (.int .i64 x.1)).setCell ⟨g, i * 3 + 1, none⟩ (.int .i64 x.2.1)).setCell ⟨g, i * 3 + 2, none⟩ (.int .i64 x.2.2)) B (.slice (some ⟨g, 0, none⟩) n c) (l.set i x) := by
 subst hn
 have h1 := (World.ownsRow.stored h (i * 3) (.int .i64 x.1)).1
 have h2 := (h1.stored (i * 3 + 1) (.int .i64 x.2.1)).1
 have h3 := (h2.stored (i * 3 + 2) (.int .i64 x.2.2)).1
 unfold InstsO
 rw [List.length_set, inCells_set x l i hi]
 exact h3
theorem InstsO.at_ {W : World} {B g n c i : Nat} {l : List InstD} {x : InstD} (h : InstsO W B (.slice (some ⟨g, 0, none⟩) n c) l) (hx : l[i]? = some x) :
  W.cell? ⟨g, i * 3, none⟩ = some (.int .i64 x.1) ∧ W.cell? ⟨g, i * 3 + 1, none⟩ = some (.int .i64 x.2.1) ∧ W.cell? ⟨g, i * 3 + 2, none⟩ = some (.int .i64 x.2.2) := by
 obtain ⟨h0, h1, h2⟩ := inCells_at i x hx
 have e : ∀ j, (⟨g, 0, none⟩ : Addr).add j = ⟨g, j, none⟩ := fun j => by unfold Addr.add; split <;> simp_all
 have k0 := h.cells (g := g) rfl _ _ h0
 have k1 := h.cells (g := g) rfl _ _ h1
 have k2 := h.cells (g := g) rfl _ _ h2
 rw [e] at k0 k1 k2
 exact ⟨k0, k1, k2⟩
structure CompS (l : List InstD) (j k : Nat) (cur : List InstD) : Prop where
 len : cur.length = l.length
 low : cur.take k = compI (l.take j)
 high : ∀ i, j ≤ i + 1 → cur[i]? = l[i]?
 lt : k < j
theorem CompS.start {l : List InstD} {k : Nat} {x : InstD} (h0 : 1 ≤ k) (hno : compI (l.take k) = l.take k) (hx : l[k]? = some x) (hy : l[k - 1]? = some x) : CompS l (k + 1) k l :=
 ⟨rfl, by rw [compI_take hx (by omega) hy, if_pos rfl, hno], fun _ _ => rfl, by omega⟩
theorem CompS.skip {l cur : List InstD} {j k : Nat} {x : InstD} (h : CompS l j k cur) (hx : l[j]? = some x) (hy : l[j - 1]? = some x) : CompS l (j + 1) k cur :=
 ⟨h.len, by rw [h.low, compI_take hx (by have := h.lt; omega) hy, if_pos rfl], fun i hi => h.high i (by omega), by have := h.lt; omega⟩
theorem CompS.keep {l cur : List InstD} {j k : Nat} {x y : InstD} (h : CompS l j k cur) (hx : l[j]? = some x) (hy : l[j - 1]? = some y) (hne : x ≠ y) : CompS l (j + 1) (k + 1) (cur.set k x) := by
 have hj : j < l.length := (List.getElem?_eq_some_iff.1 hx).1
 have hk := h.lt
 have hl := h.len
 refine ⟨by rw [List.length_set]; exact hl, ?_, fun i hi => ?_, by omega⟩
 ·rw [compI_take hx (by omega) hy, if_neg (fun e => hne e.symm), ← h.low, List.take_add_one, List.getElem?_set_self (by omega), List.take_set_of_le (Nat.le_refl _)]
  rfl
 ·rw [List.getElem?_set_ne (by omega)]
  exact h.high i (by omega)
theorem compI_short : ∀ {l : List InstD}, l.length < 2 → compI l = l
 | [], _ => rfl
 | [x], _ => by simp [compI]
 | _ :: _ :: _, h => by simp at h; omega
set_option maxRecDepth 100000 in
theorem compact_calls (w : World) (B : Nat) (A : Option Addr) (C n0 : Nat) (l : List InstD) (h : InstsO w B (.slice A n0 C) l) (hl : l.length ≤ 1000000) :
  Calls Tryz.prog 71 #[.slice A n0 C] w fun e w' => ∃ m, e = .returned (.slice A m C) ∧ Insts w' (.slice A m C) (compI l) ∧ Keep (fun k => (Value.slice A n0 C).ownBlock = some k) w w' := by
 obtain rfl : n0 = l.length := by
  rcases h.2 with ⟨e, h0⟩ | ⟨_, _, _, e, _⟩
  ·cases e; exact h0.symm
  ·cases e; rfl
 by_cases h2 : l.length < 2
 ·have hR : Hid (Insts w (.slice A l.length C) (compI l)) := Lib.hid (by rw [compI_short h2]; exact h.read)
  clear h
  have d2 : decide ((l.length : Int) < 2) = true := decide_eq_true (by omega)
  go_enter Tryz.func71, Tryz.ntmps71
  go_wp2
  go_ret
  exact ⟨_, rfl, hR.out, Keep.refl _ _⟩
 ·obtain ⟨g, c, hv, hv2, hc, hc2⟩ : ∃ g c, A = some ⟨g, 0, none⟩ ∧ c = C ∧ l.length ≤ c ∧ c ≤ 9223372036854775807 := by
   rcases h.2 with ⟨_, h0⟩ | ⟨g, cap, cur, e, _, _, hn, hcap, _⟩
   ·omega
   ·cases e
    exact ⟨_, _, rfl, rfl, hn, hcap⟩
  subst hv
  obtain rfl : c = C := hv2
  obtain ⟨n, hn⟩ : ∃ n, l.length = n := ⟨_, rfl⟩
  rw [hn] at h hc hl h2 ⊢
  have hn' := Lib.hid hn
  clear hn
  have hO := Lib.hid h
  clear h
  have d2 : decide ((n : Int) < 2) = false := decide_eq_false (by omega)
  go_enter Tryz.func71, Tryz.ntmps71
  go_wp2_with fail
  go_loopw [3] (fun v3 wr => ∃ k : Nat, 1 ≤ k ∧ k ≤ n ∧ v3 = .int .i64 k ∧ Hid (Ext w wr) ∧ Hid (compI (l.take k) = l.take k)) (fun v3 _ => n - (intOf v3).toNat)
  case atStart => exact ⟨1, by omega, by omega, rfl, Lib.hid (Ext.refl _), Lib.hid (compI_short (by rw [List.length_take]; omega))⟩
  case round =>
   obtain ⟨k, hk1, hkn, rfl, hx, hno⟩ := hrel
   by_cases hlt : k < n
   ·obtain ⟨x, hxk⟩ : ∃ x, l[k]? = some x := ⟨_, List.getElem?_eq_getElem (by rw [hn'.out]; exact hlt)⟩
    obtain ⟨y, hyk⟩ : ∃ y, l[k - 1]? = some y := ⟨_, List.getElem?_eq_getElem (by rw [hn'.out]; omega)⟩
    have hOr := Lib.hid (owns_ext hO.out hx.out)
    obtain ⟨p0, p1, p2⟩ := InstsO.at_ (l := l) hOr.out hxk
    obtain ⟨q0, q1, q2⟩ := InstsO.at_ (l := l) hOr.out hyk
    have gl := ((hOr.out.lt g rfl).2)
    have hne := in_eql x y
    have hgd := fun op p q => in_guard op p q x y
    obtain ⟨q, hq⟩ : ∃ q, Hid (decide (x = y) = q) := ⟨_, rfl⟩
    rw [hq.out] at hne
    have z0 := After.cell p0
    have z1 := After.cell p1
    have z2 := After.cell p2
    have z3 := After.cell q0
    have z4 := After.cell q1
    have z5 := After.cell q2
    have hxk' := Lib.hid hxk
    have hyk' := Lib.hid hyk
    clear p0 p1 p2 q0 q1 q2 hxk hyk
    go_wp2_with fail
    refine wp_region_after (by kernel_rfl) (by kernel_rfl) ?_
    repeat (go_big_quiet_step (fail))
    refine wpQuiet_nil ?_
    rintro _ ⟨u, rfl⟩
    have hxV := Lib.hid (hx.out.trans u.ext)
    generalize u.world = V at hxV ⊢
    clear z0 z1 z2 z3 z4 z5 hne hgd hOr hx
    cases q with
    | false =>
     have hno' : Hid (compI (l.take (k + 1)) = l.take (k + 1)) := Lib.hid (by
      rw [compI_take hxk'.out (by omega) hyk'.out, if_neg (fun e => of_decide_eq_false hq.out e.symm), hno.out, take_at' hxk'.out])
     clear hno hq hxk' hyk'
     go_wp2
     go_roundw
     case rel => exact ⟨k + 1, by omega, by omega, by go_num, hxV, hno'⟩
     case measure => simp [intOf]; omega
    | true =>
     have exy := of_decide_eq_true hq.out
     have hC0 : Hid (CompS l (k + 1) k l) := Lib.hid (CompS.start hk1 hno.out hxk'.out (by rw [exy]; exact hyk'.out))
     have hOV := Lib.hid (owns_ext hO.out hxV.out)
     have dck : (c == k) = false := by rw [beq_eq_false_iff_ne]; omega
     clear hno hq hxk' hyk' exy gl
     go_wp2_with fail
     have kV := Lib.hid (Keep.of_ext (X := fun i => i = g) hxV.out)
     clear hO hxV
     go_loopw [3, 5] (fun v3 v5 wr => ∃ (kk k2 : Nat) (cur : List InstD), 1 ≤ k2 ∧ k + k2 ≤ n ∧ v3 = .int .i64 kk ∧ v5 = .int .i64 k2 ∧ Hid (InstsO wr B (.slice (some ⟨g, 0, none⟩) n c) cur) ∧ Hid (CompS l (k + k2) kk cur) ∧ Hid (Keep (fun i => i = g) w wr)) (fun _ v5 _ => n - k - (intOf v5).toNat)
     case atStart => exact ⟨k, 1, l, by omega, by omega, rfl, rfl, hOV, hC0, kV⟩
     case round =>
      clear hC0 hOV kV
      obtain ⟨kk, k2, cur, hk2, hkn2, rfl, rfl, hO, hC, hK⟩ := hrel
      rename World => wq
      have hkk := hC.out.lt
      by_cases hlt2 : k + k2 < n
      ·obtain ⟨x2, hx2⟩ : ∃ x2, l[k + k2]? = some x2 := ⟨_, List.getElem?_eq_getElem (by rw [hn'.out]; exact hlt2)⟩
       obtain ⟨y2, hy2⟩ : ∃ y2, l[k + (k2 - 1)]? = some y2 := ⟨_, List.getElem?_eq_getElem (by rw [hn'.out]; omega)⟩
       obtain ⟨o, ho⟩ : ∃ o, cur[kk]? = some o := ⟨_, List.getElem?_eq_getElem (by rw [hC.out.len, hn'.out]; omega)⟩
       obtain ⟨p0, p1, p2⟩ := InstsO.at_ hO.out (show cur[k + k2]? = some x2 by rw [hC.out.high _ (by omega)]; exact hx2)
       obtain ⟨q0, q1, q2⟩ := InstsO.at_ hO.out (show cur[k + (k2 - 1)]? = some y2 by rw [hC.out.high _ (by omega)]; exact hy2)
       rw [Nat.add_mul] at p0 p1 p2 q0 q1 q2
       have gl := ((hO.out.lt g rfl).2)
       have hne := in_neq x2 y2
       have hgd := fun op p q => in_guard op p q x2 y2
       obtain ⟨q, hq⟩ : ∃ q, Hid ((!decide (x2 = y2)) = q) := ⟨_, rfl⟩
       rw [hq.out] at hne
       have z0 := After.cell p0
       have z1 := After.cell p1
       have z2 := After.cell p2
       have z3 := After.cell q0
       have z4 := After.cell q1
       have z5 := After.cell q2
       have hx2' := Lib.hid hx2
       have hy2' : Hid (l[k + k2 - 1]? = some y2) := Lib.hid (by rw [show k + k2 - 1 = k + (k2 - 1) by omega]; exact hy2)
       have ho' := Lib.hid ho
       clear q0 q1 q2 hx2 hy2 ho p0 p1 p2
       go_wp2_with fail
       refine wp_region_after (by kernel_rfl) (by kernel_rfl) ?_
       repeat (go_big_quiet_step (fail))
       refine wpQuiet_nil ?_
       rintro _ ⟨u, rfl⟩
       replace hO := Lib.hid (show InstsO u.world B (.slice (some ⟨g, 0, none⟩) n c) cur from owns_ext hO.out u.ext)
       replace hK := Lib.hid (hK.out.trans (Keep.of_ext u.ext))
       generalize u.world = V2 at hO hK ⊢
       clear z0 z1 z2 z3 z4 z5 hne hgd
       cases q with
       | false =>
        have exy : x2 = y2 := by have := hq.out; simpa using this
        have hC' : Hid (CompS l (k + (k2 + 1)) kk cur) := Lib.hid (hC.out.skip hx2'.out (by rw [exy]; exact hy2'.out))
        clear hq hC hx2' hy2' ho' exy
        go_wp2
        go_roundw
        case rel => exact ⟨kk, k2 + 1, cur, by omega, by omega, rfl, by go_num, hO, hC', hK⟩
        case measure => simp [intOf]; omega
       | true =>
        have hxy : x2 ≠ y2 := by have := hq.out; simpa using this
        obtain ⟨p0, p1, p2⟩ := InstsO.at_ hO.out (show cur[k + k2]? = some x2 by rw [hC.out.high _ (by omega)]; exact hx2'.out)
        obtain ⟨q0, q1, q2⟩ := InstsO.at_ hO.out ho'.out
        rw [Nat.add_mul] at p0 p1 p2
        have hC' : Hid (CompS l (k + (k2 + 1)) (kk + 1) (cur.set kk x2)) := Lib.hid (hC.out.keep hx2'.out hy2'.out hxy)
        have hrow : V2.ownsRow B 114 3 (.slice (some ⟨g, 0, none⟩) n c) n (inCells cur) := by
         have h := hO.out
         unfold InstsO at h
         rwa [hC.out.len, hn'.out] at h
        have f0 := hrow.frozenAt (kk * 3)
        have f1 := hrow.frozenAt (kk * 3 + 1)
        have f2 := hrow.frozenAt (kk * 3 + 2)
        clear hrow
        have hO' := Lib.hid (hO.out.set_ (i := kk) (by rw [hC.out.len, hn'.out]) (by omega) x2)
        have hK' := Lib.hid (((hK.out.setCell (p := ⟨g, kk * 3, none⟩) (Or.inl rfl) (.int .i64 x2.1)).setCell (p := ⟨g, kk * 3 + 1, none⟩) (Or.inl rfl) (.int .i64 x2.2.1)).setCell (p := ⟨g, kk * 3 + 2, none⟩) (Or.inl rfl) (.int .i64 x2.2.2))
        replace gl := ((hO.out.lt g rfl).2)
        clear hq hC hx2' hy2' ho' hxy hO hK
        go_wp2_with fail
        refine ⟨⟨kk + 1, k2 + 1, _, by omega, by omega, by go_num, by go_num, hO', hC', hK'⟩, ?_⟩
        simp [intOf]
        omega
      ·have hend : k + k2 = n := by omega
       have hrow : wq.ownsRow B 114 3 (.slice (some ⟨g, 0, none⟩) n c) n (inCells cur) := by
        have h := hO.out
        unfold InstsO at h
        rwa [hC.out.len, hn'.out] at h
       have hcl : ∀ ty, (Builtin.clear_ #[48] ty #[.slice (some ⟨g, kk * 3, none⟩) (n - kk) (c - kk)]).run Tryz.prog wq = .ok (.tuple #[]) (wq.setCells g (kk * 3) (List.replicate ((n - kk) * 3) (.int .i64 0))) := fun ty =>
        run_clear_in wq ty g (kk * 3) (n - kk) (c - kk) (fun j hj => by
         have hlt : kk * 3 + j < n * 3 := by omega
         obtain ⟨z, h0⟩ : ∃ z, (inCells cur)[kk * 3 + j]? = some z := ⟨_, List.getElem?_eq_getElem (by rw [inCells_len, hC.out.len, hn'.out]; exact hlt)⟩
         have h1 := hrow.cells (g := g) rfl _ _ h0
         have e : (⟨g, 0, none⟩ : Addr).add (kk * 3 + j) = ⟨g, kk * 3 + j, none⟩ := by unfold Addr.add; split <;> simp_all
         rw [e] at h1
         rw [h1]
         rfl) (fun j _ => hrow.frozenAt (kk * 3 + j)) (by omega)
       have hfin : Hid (Insts (wq.setCells g (kk * 3) (List.replicate ((n - kk) * 3) (.int .i64 0))) (.slice (some ⟨g, 0, none⟩) kk c) (compI l) ∧ Keep (fun i => i = g) w (wq.setCells g (kk * 3) (List.replicate ((n - kk) * 3) (.int .i64 0)))) := Lib.hid (by
        rcases hrow.2 with ⟨h0, _⟩ | ⟨g', cap, cs, e, _, hb, _, _, _, htake⟩
        ·cases h0
        ·cases e
         obtain ⟨cs', h1, _, h3, h4⟩ := setCells_blk (List.replicate ((n - kk) * 3) (.int .i64 0)) wq g (kk * 3) 114 cs hb
         refine ⟨?_, hK.out.trans h4⟩
         have hlow : cur.take kk = compI l := by
          have := hC.out.low
          rw [hend, ← hn'.out, List.take_length] at this
          exact this
         have hlen : (compI l).length = kk := by rw [← hlow, List.length_take, hC.out.len, hn'.out]; omega
         have hat : ∀ i, i < kk → ∀ j, j < 3 → cs'[i * 3 + j]? = (inCells cur)[i * 3 + j]? := fun i hi j hj => by
          rw [h3 _ (by omega), ← htake, List.getElem?_take, if_pos (by omega), Array.getElem?_toList]
         have := sl_of_blk (n := kk) (c := c) (F := fun i j => .int .i64 (instCell ((compI l)[i]?.getD default) j)) h1 (by omega) (by unfold maxLen; omega) (fun i hi j hj => by
          have hi2 : i < cur.length := by rw [hC.out.len, hn'.out]; omega
          have hx : (compI l)[i]? = some cur[i] := by rw [← hlow, List.getElem?_take, if_pos hi, List.getElem?_eq_getElem hi2]
          obtain ⟨k0, k1, k2⟩ := inCells_at i cur[i] (List.getElem?_eq_getElem hi2)
          rw [hat i hi j hj, hx]
          rcases j with _ | _ | _ | j
          ·rw [Nat.add_zero, k0]; simp [instCell]
          ·rw [k1]; simp [instCell]
          ·rw [k2]; simp [instCell]
          ·omega)
         unfold Insts
         rw [hlen]
         exact this)
       have dck2 : (c == kk) = false := by rw [beq_eq_false_iff_ne]; omega
       have hkn3 : kk < n := by omega
       clear hrow hO hC hK
       go_wp2_with fail
       go_ret
       exact ⟨_, rfl, hfin.out.1, hfin.out.2.mono (fun i _ h => by rw [h]; rfl)⟩
   ·have hR : Hid (compI l = l) := Lib.hid (by
     have := hno.out
     rwa [List.take_of_length_le (by rw [hn'.out]; omega)] at this)
    have hfin : Hid (Insts wr (.slice (some ⟨g, 0, none⟩) n c) l) := Lib.hid (by
     have : InstsO wr B (.slice (some ⟨g, 0, none⟩) n c) l := owns_ext hO.out hx.out
     exact this.read)
    clear hno
    go_wp2
    go_ret
    rw [hR.out]
    exact ⟨_, rfl, hfin.out, Keep.of_ext hx.out⟩
end Go.Proofs.YtgolicoalldidaaGreat
namespace Go.Proofs.YtgolicoalldidaaGreat
open Go.RowKit
attribute [local go_sem] Oper.semAt_some
theorem order_calls2 (x y : InstD) (W : World) : Calls Tryz.prog 70 #[.agg #[.int .i64 x.1, .int .i64 x.2.1, .int .i64 x.2.2], .agg #[.int .i64 y.1, .int .i64 y.2.1, .int .i64 y.2.2]] W fun e w' => e = .returned (.int .i64 (ordI x y)) ∧ Ext W w' := by
 refine (order_calls_in x y W).mono ?_
 rintro e w' ⟨rfl, q, os, rfl⟩
 refine ⟨rfl, rfl, rfl, rfl, ?_, fun k hk => ?_⟩
 ·show W.heap.size ≤ (W.heap ++ os).size
  rw [Array.size_append]
  exact Nat.le_add_right _ _
 ·show (W.heap ++ os)[k]? = _
  exact Array.getElem?_append_left hk
theorem in_true {x a b : Int} (h1 : a ≤ x) (h2 : x ≤ b) (w : World) : Calls Tryz.prog 87 #[.int .i64 x, .int .i64 a, .int .i64 b] w fun e w' => e = .returned (.bool true) ∧ Ext w w' := by
 have := in_calls x a b w
 rwa [decide_eq_true h1, decide_eq_true h2] at this
set_option maxRecDepth 100000 in
theorem endValid_calls (v : Value) (s : StreamD) (w : World) (h : StreamV w v s) (hok : StreamOk s) :
  Calls Tryz.prog 65 #[v] w fun e w' => e = .returned (.bool true) ∧ Ext w w' := by
 obtain ⟨cv, ev, rfl, hc, he⟩ := h
 have hC := Lib.hid hc
 have hE := Lib.hid he
 have hok' := Lib.hid hok
 obtain ⟨ca, cc, rfl, _, _, cat⟩ := hc.open
 obtain ⟨ea, ec, rfl, _, _, eat⟩ := he.open
 have cat' := Lib.hid cat
 have eat' := Lib.hid eat
 obtain ⟨n1, hn1⟩ : ∃ n, Hid (s.classes.length = n) := ⟨_, rfl⟩
 obtain ⟨n2, hn2⟩ : ∃ n, Hid (s.extra.length = n) := ⟨_, rfl⟩
 obtain ⟨len, hlen⟩ : ∃ n, Hid (s.len = n) := ⟨_, rfl⟩
 have b1 : n1 ≤ 1 := hn1.out ▸ hok.few
 have b2 : n2 ≤ 40 := hn2.out ▸ hok.extra
 have hl0 : 1 ≤ len := hlen.out ▸ hok.len0
 have hl1 : len ≤ 10080 := hlen.out ▸ hok.len1
 rw [hn1.out, hn2.out, hlen.out]
 have hin := Lib.hid (in_true hl0 hl1)
 have d1 : decide (64 < (n1 : Int)) = false := decide_eq_false (by omega)
 have d2 : decide (4096 < (n2 : Int)) = false := decide_eq_false (by omega)
 clear hc he cat eat hok hl0 hl1
 go_enter Tryz.func65, Tryz.ntmps65
 go_wp2_with fail
 refine (hin.out _).mono ?_
 rintro e w1 ⟨rfl, hx1⟩
 have hB : Hid (Blk w1 w.heap.size 50 #[.slice ca n1 cc, .int .i64 len, .slice ea n2 ec]) := Lib.hid ((Keep.of_ext (X := fun _ => False) hx1).blk (blk_new' rfl rfl) id)
 have hE1 := Lib.hid (show Ext w w1 from Ext.trans (by exact (by with_reducible repeat' (first | exact Ext.refl _ | assumption | refine Ext.drewN ?_ _ | refine Ext.drew ?_ | refine Ext.alloc ?_ _ | refine Ext.trans ?_ (by with_reducible assumption)))) hx1)
 have c0 : w1.cell? ⟨w.heap.size, 0, none⟩ = some (.slice ca n1 cc) := hB.out.cell 0
 have c2 : w1.cell? ⟨w.heap.size, 2, none⟩ = some (.slice ea n2 ec) := hB.out.cell 2
 have l0 := hB.out.lt
 clear hx1 hin d1
 go_wp2_with fail
 clear c0 c2 l0 d2
 go_loopw [3, 4, 27] (fun _ _ vi wr => ∃ i : Nat, i ≤ n1 ∧ vi = .int .i64 i ∧ Hid (Ext w wr) ∧ Hid (Blk wr w.heap.size 50 #[.slice ca n1 cc, .int .i64 len, .slice ea n2 ec])) (fun _ _ vi _ => n1 - (intOf vi).toNat)
 case atStart => exact ⟨0, by omega, rfl, hE1, hB⟩
 case round =>
  clear hE1 hB
  obtain ⟨i, hi, rfl, hx, hB⟩ := hrel
  by_cases h1 : i < n1
  ·obtain rfl : i = 0 := by omega
   obtain ⟨b, off, x, ta, tc, rfl, hb, ex, g0, g1, gT⟩ := cat'.out 0 (by rw [hn1.out]; exact h1) wr hx.out
   obtain ⟨hpo, hm0, hm1⟩ := hok'.out.cls x (List.mem_of_getElem? ex.out)
   obtain ⟨m, hm⟩ : ∃ m, Hid (x.minute = m) := ⟨_, rfl⟩
   rw [hm.out] at g1 hm0 hm1
   have hT := Lib.hid gT
   have hmv : Hid (∀ W, Ext wr W → Calls Tryz.prog 88 #[.agg #[.slice ta 1 tc]] W fun e w' => e = .returned (.bool true) ∧ Ext W w') := Lib.hid fun W hW => mixedValid_calls _ x.days W (hT.out.ext hW) hpo
   have hin2 : Hid (∀ W, Calls Tryz.prog 87 #[.int .i64 m, .int .i64 (-4320), .int .i64 4320] W fun e w' => e = .returned (.bool true) ∧ Ext W w') := Lib.hid fun W => in_true (by omega) (by omega) W
   simp only [Nat.zero_mul, Nat.add_zero] at g0 g1
   clear gT hpo hm0 hm1 ex
   go_upto_region 6 with (fail)
   refine wp_abs (S := fun W => Hid (Ext wr W) ∧ Hid (Blk W wr.heap.size 137 #[.slice ta 1 tc, .int .i64 m])) ?_ ?_
   ·exact ⟨Lib.hid (by exact (by with_reducible repeat' (first | exact Ext.refl _ | assumption | refine Ext.drewN ?_ _ | refine Ext.drew ?_ | refine Ext.alloc ?_ _ | refine Ext.trans ?_ (by with_reducible assumption)))), Lib.hid (blk_new' rfl rfl)⟩
   rintro W1 ⟨hx2, hK⟩
   have z0 := After.cell (show W1.cell? ⟨wr.heap.size, 0, none⟩ = some (.slice ta 1 tc) from hK.out.cell 0)
   have z1 := After.cell (show W1.cell? ⟨wr.heap.size, 1, none⟩ = some (.int .i64 m) from hK.out.cell 1)
   have hmv2 := Lib.hid fun W (x : Ext W1 W) => hmv.out W (hx2.out.trans x)
   clear g0 g1 hmv hT
   refine wp_region_after (by kernel_rfl) (by kernel_rfl) ?_
   repeat (go_big_quiet_step (first | (with_reducible exact After.call _ (hmv2.out _ (After.ext _))) | (with_reducible exact After.call _ (hin2.out _))))
   refine wpQuiet_nil ?_
   rintro _ ⟨u, rfl⟩
   have hx3 := Lib.hid (hx.out.trans (hx2.out.trans u.ext))
   have hB3 := Lib.hid ((Keep.of_ext (X := fun _ => False) (hx2.out.trans u.ext)).blk hB.out id)
   generalize u.world = V at hx3 hB3 ⊢
   clear z0 z1 hmv2 hin2 hx2 hK hx hB
   go_wp2
   go_roundw
   case rel => exact ⟨1, by omega, by go_num, hx3, hB3⟩
   case measure => simp [intOf]; omega
  ·have c2 : wr.cell? ⟨w.heap.size, 2, none⟩ = some (.slice ea n2 ec) := hB.out.cell 2
   have l0 := hB.out.lt
   obtain ⟨wA, hwA⟩ : ∃ wA, Hid (wr = wA) := ⟨_, rfl⟩
   rw [hwA.out] at hx hB c2 l0 ⊢
   clear hwA
   go_wp2_with fail
   clear c2 l0
   go_loopw [5, 6, 7, 62] (fun _ _ _ vi wr => ∃ i : Nat, i ≤ n2 ∧ vi = .int .i64 i ∧ Hid (Ext w wr) ∧ Hid (Blk wr w.heap.size 50 #[.slice ca n1 cc, .int .i64 len, .slice ea n2 ec])) (fun _ _ _ vi _ => n2 - (intOf vi).toNat)
   case atStart => exact ⟨0, by omega, rfl, hx, hB⟩
   case round =>
    clear hx hB h1 hi
    obtain ⟨k, hk, rfl, hx, hB⟩ := hrel
    rename World => wq
    by_cases h2 : k < n2
    ·obtain ⟨b, off, d, f, t, rfl, hb, _, ex, g0, g1, g2⟩ := eat'.out k (by rw [hn2.out]; exact h2) wq hx.out
     obtain ⟨o0, o1, o2, o3, o4, o5⟩ := hok'.out.each (d, f, t) (List.mem_of_getElem? ex.out)
     dsimp only at o0 o1 o2 o3 o4 o5
     have w1' : wrap64 (f + 1) = f + 1 := by unfold wrap64; omega
     have w2' : wrap64 (f + 10080) = f + 10080 := by unfold wrap64; omega
     have i1 : Hid (∀ W, Calls Tryz.prog 87 #[.int .i64 d, .int .i64 0, .int .i64 1099511627776] W fun e w' => e = .returned (.bool true) ∧ Ext W w') := Lib.hid fun W => in_true (by omega) (by omega) W
     have i2 : Hid (∀ W, Calls Tryz.prog 87 #[.int .i64 f, .int .i64 (-2251799813685248), .int .i64 1583296743997439] W fun e w' => e = .returned (.bool true) ∧ Ext W w') := Lib.hid fun W => in_true (by omega) (by omega) W
     have i3 : Hid (∀ W, Calls Tryz.prog 87 #[.int .i64 t, .int .i64 (f + 1), .int .i64 (f + 10080)] W fun e w' => e = .returned (.bool true) ∧ Ext W w') := Lib.hid fun W => in_true (by omega) (by omega) W
     clear o0 o1 o2 o3 o4 o5
     go_upto_region 12 with (fail)
     refine wp_abs (S := fun W => Hid (Ext wq W) ∧ Hid (Blk W wq.heap.size 114 #[.int .i64 d, .int .i64 f, .int .i64 t])) ?_ ?_
     ·exact ⟨Lib.hid (by exact (by with_reducible repeat' (first | exact Ext.refl _ | assumption | refine Ext.drewN ?_ _ | refine Ext.drew ?_ | refine Ext.alloc ?_ _ | refine Ext.trans ?_ (by with_reducible assumption)))), Lib.hid (blk_new' rfl rfl)⟩
     rintro W1 ⟨hx2, hI⟩
     have z0 := After.cell (show W1.cell? ⟨wq.heap.size, 0, none⟩ = some (.int .i64 d) from hI.out.cell 0)
     have z1 := After.cell (show W1.cell? ⟨wq.heap.size, 1, none⟩ = some (.int .i64 f) from hI.out.cell 1)
     have z2 := After.cell (show W1.cell? ⟨wq.heap.size, 2, none⟩ = some (.int .i64 t) from hI.out.cell 2)
     clear g0 g1 g2
     refine wp_region_after0 ?_
     repeat (go_big_quiet_step (first | (with_reducible exact After.call _ (i1.out _)) | (with_reducible exact After.call _ (i2.out _)) | (with_reducible exact After.call _ (i3.out _))))
     refine wpQuiet_nil ?_
     rintro _ ⟨u, rfl⟩
     have hx3 := Lib.hid (hx2.out.trans u.ext)
     have hI3 := Lib.hid ((Keep.of_ext (X := fun _ => False) u.ext).blk hI.out id)
     have hB3 := Lib.hid ((Keep.of_ext (X := fun _ => False) hx3.out).blk hB.out id)
     have hx4 := Lib.hid (hx.out.trans hx3.out)
     generalize u.world = V at hx3 hI3 hB3 hx4 ⊢
     clear z0 z1 z2 i1 i2 i3 hx2 hI hB w1' w2' hb
     by_cases k0 : k = 0
     ·subst k0
      go_wp2_with fail
      refine wp_region_after (by kernel_rfl) (by kernel_rfl) ?_
      repeat (go_big_quiet_step (fail))
      refine wpQuiet_nil ?_
      rintro _ ⟨u2, rfl⟩
      have hx5 := Lib.hid (hx4.out.trans u2.ext)
      have hB5 := Lib.hid ((Keep.of_ext (X := fun _ => False) u2.ext).blk hB3.out id)
      generalize u2.world = V2 at hx5 hB5 ⊢
      clear hx4 hB3 hI3 hx3 hx
      go_wp2
      go_roundw
      case rel => exact ⟨0 + 1, by omega, by go_num, hx5, hB5⟩
      case measure => simp [intOf]; omega
     ·obtain ⟨b2', off2, d2', f2', t2', e2, hb2, _, ey, y0, y1, y2⟩ := eat'.out (k - 1) (by rw [hn2.out]; omega) V hx4.out
      cases e2
      have hlt : ltI (d2', f2', t2') (d, f, t) := by
       have hp := List.pairwise_iff_getElem.1 hok'.out.order (k - 1) k (by rw [hn2.out]; omega) (by rw [hn2.out]; omega) (by omega)
       obtain ⟨q1, e1⟩ := List.getElem?_eq_some_iff.1 ey.out
       obtain ⟨q2, e2⟩ := List.getElem?_eq_some_iff.1 ex.out
       rwa [e1, e2] at hp
      obtain ⟨r, hr⟩ : ∃ r, Hid (ordI (d2', f2', t2') (d, f, t) = r) := ⟨_, rfl⟩
      have hr0 : r < 0 := by rw [← hr.out]; exact (ordI_lt _ _).2 hlt
      have hord : Hid (∀ W, Calls Tryz.prog 70 #[.agg #[.int .i64 d2', .int .i64 f2', .int .i64 t2'], .agg #[.int .i64 d, .int .i64 f, .int .i64 t]] W fun e w' => e = .returned (.int .i64 r) ∧ Ext W w') := Lib.hid fun W => by
       have := order_calls2 (d2', f2', t2') (d, f, t) W
       rw [hr.out] at this
       exact this
      have dr : decide (0 ≤ r) = false := decide_eq_false (by omega)
      have dk : decide (0 < k) = true := decide_eq_true (by omega)
      have z0 := After.cell (show V.cell? ⟨wq.heap.size, 0, none⟩ = some (.int .i64 d) from hI3.out.cell 0)
      have z1 := After.cell (show V.cell? ⟨wq.heap.size, 1, none⟩ = some (.int .i64 f) from hI3.out.cell 1)
      have z2 := After.cell (show V.cell? ⟨wq.heap.size, 2, none⟩ = some (.int .i64 t) from hI3.out.cell 2)
      have z3 := After.cell y0
      have z4 := After.cell y1
      have z5 := After.cell y2
      have z6 := After.cell (show V.cell? ⟨w.heap.size, 2, none⟩ = some (.slice (some ⟨b, off, none⟩) n2 ec) from hB3.out.cell 2)
      clear y0 y1 y2 hlt hr0 hr ey
      go_wp2_with fail
      refine wp_region_after (by kernel_rfl) (by kernel_rfl) ?_
      repeat (go_big_quiet_step (with_reducible exact After.call _ (hord.out _)))
      clear z0 z1 z2 z3 z4 z5 z6 hord
      refine wpQuiet_nil ?_
      rintro _ ⟨u2, rfl⟩
      have hx5 := Lib.hid (hx4.out.trans u2.ext)
      have hB5 := Lib.hid ((Keep.of_ext (X := fun _ => False) u2.ext).blk hB3.out id)
      generalize u2.world = V2 at hx5 hB5 ⊢
      clear hx4 hB3 hI3 hx3 hx
      go_wp2
      go_roundw
      case rel => exact ⟨k + 1, by omega, by go_num, hx5, hB5⟩
      case measure => simp [intOf]; omega
    ·go_wp2
     go_ret
     exact ⟨rfl, hx.out⟩
end Go.Proofs.YtgolicoalldidaaGreat
