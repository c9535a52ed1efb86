/- Walk of package coarse: View. -/
import Derived.Test.YtcmcojmhlgknoaaGD
import Derived.Test.YtcmcojmhlgknoaaHJ
import Derived.Test.YtcmcojmhlgknoaaHE
namespace Go.Proofs.Ytcmcojmhlgknoaa
open Go.RowKit Go.Shelf

attribute [local go_sem] Oper.semAt_some

theorem postM_ret {F : Fence} {n : Nat} {P : Program} {fn : Func} {R : Ending → World → Prop} {tmps : Array Value} {w : World} {v : Value} (h : (results fn tmps).run P w = .ok v w) (hR : R (.returned v) w) :
    bodyPostM F n P fn R .ret { tmps := tmps, defers := [] } w := ⟨v, h, hR⟩
/-- marks of loops over a function that have been left: each block stands empty -/
structure MarksD (w : World) (B : Nat) (W : World) (ds : List Deferred) : Prop where
  each : ∀ d ∈ ds, ∃ D, d.target = .collected D ∧ w.heap.size ≤ D ∧ D < B ∧ W.heap[D]? = some (.deferred (some []))
  apart : ds.Pairwise fun d e => d.target ≠ e.target
theorem MarksD.nil (w : World) (B : Nat) (W : World) : MarksD w B W [] := ⟨fun d h => (by cases h), List.Pairwise.nil⟩
theorem MarksD.keep {w W W' : World} {B : Nat} {ds : List Deferred} (h : MarksD w B W ds) (k : ∀ D, W.heap[D]? = some (.deferred (some [])) → D < B → W'.heap[D]? = some (.deferred (some []))) : MarksD w B W' ds :=
  ⟨fun d hd => let ⟨_, a, b, c, e⟩ := h.each d hd; ⟨_, a, b, c, k _ e c⟩, h.apart⟩
theorem MarksD.ext {w W W' : World} {B : Nat} {ds : List Deferred} (h : MarksD w B W ds) (e : Ext W W') : MarksD w B W' ds := h.keep fun _ hD _ => (e.heap (Array.getElem?_eq_some_iff.1 hD).1).trans hD
theorem MarksD.up {w W : World} {B B' : Nat} {ds : List Deferred} (h : MarksD w B W ds) (hB : B ≤ B') : MarksD w B' W ds := ⟨fun d hd => let ⟨D, a, b, c, e⟩ := h.each d hd; ⟨D, a, b, by omega, e⟩, h.apart⟩
theorem MarksD.cons {w W : World} {B D : Nat} {ds : List Deferred} (h : MarksD w B W ds) (hw : w.heap.size ≤ D) (hD : B ≤ D) (hK : W.heap[D]? = some (.deferred (some []))) : MarksD w (D + 1) W ({ target := .collected D, args := #[] } :: ds) := by
  refine ⟨fun d hd => ?_, List.Pairwise.cons (fun d hd e => ?_) h.apart⟩
  · rcases List.mem_cons.1 hd with rfl | hd
    · exact ⟨D, rfl, hw, by omega, hK⟩
    · obtain ⟨D', a, b, c, e⟩ := h.each d hd
      exact ⟨D', a, b, by omega, e⟩
  · obtain ⟨D', a, _, c, _⟩ := h.each d hd
    rw [a] at e
    cases e
    omega
theorem postM_marks {F : Fence} {n : Nat} {P : Program} {fn : Func} {R : Ending → World → Prop} {tmps : Array Value} {w : World} {v : Value} {B : Nat} (hres : ∀ W, (results fn tmps).run P W = .ok v W) : ∀ (ds : List Deferred) (W : World), MarksD w B W ds → Ext w W →
    (∀ W', (∀ g T cs, Blk W g T cs → Blk W' g T cs) → Ext w W' → R (.returned v) W') → bodyPostM F n P fn R .ret { tmps := tmps, defers := ds } W
  | [], W, _, hx, hR => postM_ret (hres W) (hR W (fun _ _ _ h => h) hx)
  | d :: ds, W, h, hx, hR => by
    obtain ⟨D, a, b, c, hK⟩ := h.each d List.mem_cons_self
    have hgr := grownBy_putObj' W D (.deferred none)
    refine ⟨by simp, .inl ⟨D, W.putObj D (.deferred none), a, run_takeDeferred hK, ?_⟩⟩
    refine postM_marks (w := w) (B := B) hres ds (W.putObj D (.deferred none)) ⟨fun e he => ?_, (List.pairwise_cons.1 h.apart).2⟩ (hx.grown hgr (fun k e => by cases e; omega)) (fun W' h1 h2 => hR W' (fun g T cs hb => h1 g T cs (hb.grown hgr (fun e => ?_))) h2)
    · obtain ⟨D', a', b', c', hK'⟩ := h.each e (List.mem_cons_of_mem _ he)
      have hne : D' ≠ D := fun e2 => (List.pairwise_cons.1 h.apart).1 e he (by rw [a, a', e2])
      exact ⟨D', a', b', c', (World.putObj_heap_other hne).trans hK'⟩
    · obtain rfl := Option.some.inj e
      rw [hb] at hK
      exact absurd hK (by simp)
/-- numbers in memory -/
def Nums (w : World) (v : Value) (l : List Nat) : Prop := Ints w v (l.map fun n : Nat => (n : Int))
theorem Nums.ext {w w' : World} {v : Value} {l : List Nat} (h : Nums w v l) (e : Ext w w') : Nums w' v l := Ints.ext h e
def numV (l : List Nat) : Array Value := (l.map fun n : Nat => Value.int .i64 (n : Int)).toArray
theorem numV_zeros (n : Nat) : numV (List.replicate n 0) = zerosV n := by simp [numV, zerosV, zerosL]
theorem numV_set (l : List Nat) (i x : Nat) : (numV l).setIfInBounds i (.int .i64 (x : Int)) = numV (l.set i x) := by simp [numV, List.map_set]
theorem numV_at {l : List Nat} {i : Nat} (h : i < l.length) : (numV l)[i]? = some (.int .i64 ((l[i]?.getD 0 : Nat) : Int)) := by simp [numV, h]
theorem nums_of_blk {w : World} {g : Nat} {l : List Nat} (h : Blk w g 3 (numV l)) (hl : l.length ≤ maxLen) : Nums w (.slice (some ⟨g, 0, none⟩) l.length l.length) l := by
  have h2 := ints_of_blk (l := l.map fun n : Nat => (n : Int)) (w := w) (g := g) (by have := h; simpa [numV, Function.comp_def] using this) (Nat.le_refl _) (by simpa using hl)
  rwa [List.length_map] at h2
theorem cell_stands {B : Nat} {p : Addr} {v : Value} (h : p.block < B) : Stands B fun W => W.cell? p = some v := fun A A' hA hx => by
  rcases hx with e | ⟨row, hg, hr⟩
  · exact e.cell hA
  · refine (World.cell?_of_block (hg.block _ (World.block_lt_of_cell? _ _ hA) (fun e => ?_))).trans hA
    rcases hr with r | r <;> rw [r] at e <;> have := Option.some.inj e <;> omega
theorem blk_stands {B g : Nat} {T : TypeId} {cs : Array Value} (h : g < B) : Stands B fun W => Blk W g T cs := fun A A' hA hx => by
  rcases hx with e | ⟨row, hg, hr⟩
  · exact (Keep.of_ext (X := fun _ => False) e).blk hA id
  · refine hA.grown hg (fun e => ?_)
    rcases hr with r | r <;> rw [r] at e <;> have := Option.some.inj e <;> omega
theorem ext_stands {B : Nat} {w : World} (h : w.heap.size ≤ B) : Stands B fun W => Ext w W := fun A A' hA hx => by
  rcases hx with e | ⟨row, hg, hr⟩
  · exact hA.trans e
  · exact hA.grown hg (fun k e => by rcases hr with r | r <;> rw [r] at e <;> have := Option.some.inj e <;> omega)
theorem marks_stands {B : Nat} {w : World} {ds : List Deferred} : Stands B fun W => MarksD w B W ds := fun A A' hA hx => by
  rcases hx with e | ⟨row, hg, hr⟩
  · exact hA.ext e
  · refine hA.keep fun D hD hlt => (hg.block D (Array.getElem?_eq_some_iff.1 hD).1 (fun e => ?_)).trans hD
    rcases hr with r | r <;> rw [r] at e <;> have := Option.some.inj e <;> omega
/-- what View's outer loop keeps -/
structure ViewI (w : World) (bw O K n : Nat) (g : Int) (l : List MarkD) (f t : Int) (i : Nat) (W : World) (ds : List Deferred) : Prop where
  ext : Ext w W
  box : Blk W bw 28 #[.int .i64 f, .int .i64 t]
  out : Blk W O 22 #[.slice (some ⟨K, 0, none⟩) n n]
  row : Blk W K 3 (numV (viewN g (l.take i) f n))
  marks : MarksD w W.heap.size W ds
theorem shl_bit {g k : Int} (h3 : 3 ≤ g) : bitG g k = 2 ^ (k - 1).toNat := if_pos h3
theorem keepsOthers_ext {W W' : World} (e : Ext W W') : KeepsOthers W W' := ⟨e.size, fun _ _ hk _ => (e.heap (Array.getElem?_eq_some_iff.1 hk).1).trans hk⟩
theorem num_lt {g a b : Int} : ∀ {l : List MarkD}, l.all markB = true → ∀ o : Nat, o < 2 ^ 8 → l.foldl (numStep g a b) o < 2 ^ 8
  | [], _, _, h => h
  | m :: l, hl, o, h => by
    simp only [List.all_cons, Bool.and_eq_true] at hl
    obtain ⟨h1, h8, _, _⟩ := mark_iff.1 hl.1
    refine num_lt hl.2 _ ?_
    unfold numStep
    split
    · refine Nat.or_lt_two_pow h ?_
      unfold bitG
      split
      · exact Nat.pow_lt_pow_right (by decide) (by omega)
      · decide
    · exact h
theorem takeStep {α : Type} {l : List α} {i : Nat} {x : α} (h : l[i]? = some x) : l.take (i + 1) = l.take i ++ [x] := by rw [List.take_add_one, h]; rfl
theorem cell_lt {g f : Int} {l : List MarkD} (h : l.all markB = true) (i : Nat) : cellN g l f i < 2 ^ 8 := num_lt h 0 (by decide)
theorem or_nat (a b : Nat) (ha : a < 2 ^ 8) (hb : b < 2 ^ 8) : bits .or .i64 a b = ((a ||| b : Nat) : Int) :=
  (bits_nat .i64 8 (by decide) (fun n h0 h1 => by rw [IntKind.wrap_i64]; omega) a b ha hb).2
theorem ViewI.far {w : World} {bw O K n : Nat} {g : Int} {l : List MarkD} {f t : Int} {i : Nat} {W W' : World} {ds : List Deferred} (h : ViewI w bw O K n g l f t i W ds) (e : Ext W W') : ViewI w bw O K n g l f t i W' ds :=
  have k := Keep.of_ext (X := fun _ => False) e
  ⟨h.ext.trans e, k.blk h.box id, k.blk h.out id, k.blk h.row id, (h.marks.ext e).up e.size⟩
/-- what the loop over the cells of one mark keeps -/
structure FillI (w : World) (bw O K bb n : Nat) (f t : Int) (old : List Nat) (bit lo B : Nat) (ds : List Deferred) (j : Nat) (W : World) : Prop where
  ext : Ext w W
  box : Blk W bw 28 #[.int .i64 f, .int .i64 t]
  out : Blk W O 22 #[.slice (some ⟨K, 0, none⟩) n n]
  row : Blk W K 3 (numV (fillN old bit lo ((lo : Int) + j)))
  bit : Blk W bb 3 #[.int .i64 (bit : Int)]
  marks : MarksD w B W ds
theorem FillI.stands {w : World} {bw O K bb n : Nat} {f t : Int} {old : List Nat} {bit lo B : Nat} {ds : List Deferred} (h0 : w.heap.size ≤ B) (h1 : bw < B) (h2 : O < B) (h3 : K < B) (h4 : bb < B) (j : Nat) :
    Stands B (FillI w bw O K bb n f t old bit lo B ds j) := fun A A' h hx =>
  ⟨ext_stands h0 A A' h.ext hx, blk_stands h1 A A' h.box hx, blk_stands h2 A A' h.out hx, blk_stands h3 A A' h.row hx, blk_stands h4 A A' h.bit hx, marks_stands A A' h.marks hx⟩
theorem touchC_stands {B0 B : Nat} {f t wf wt c : Int} (h : B0 + 2 < B) : Stands B (TouchC B0 f t wf wt c) := fun A A' hT hx =>
  ⟨cell_stands (by dsimp only; omega) A A' hT.1 hx, cell_stands (by dsimp only; omega) A A' hT.2.1 hx, cell_stands (by dsimp only; omega) A A' hT.2.2.1 hx, cell_stands (by dsimp only; omega) A A' hT.2.2.2.1 hx, cell_stands h A A' hT.2.2.2.2 hx⟩
set_option maxHeartbeats 6400000 in
set_option maxRecDepth 100000 in
theorem view_calls (lv : Value) (l : List MarkD) (g f t : Int) (w : World) (h : Marks w lv l) :
    Calls Try.prog 25 #[lv, .int .i64 g, .agg #[.int .i64 f, .int .i64 t]] w fun e w' => ∃ v, e = .returned (.tuple #[v, .int .i64 (viewG l g f t).2]) ∧ Nums w' v (viewG l g f t).1 ∧ Ext w w' := by
  have hM := Lib.hid h
  obtain ⟨la, lc, rfl, hln, hlc, lat⟩ := h.open
  have lat' := Lib.hid lat
  clear h lat
  obtain ⟨q, hq⟩ : ∃ q, Hid (l.all markB = q) := ⟨_, rfl⟩
  have hval : Hid (∀ W, Ext w W → Calls Try.prog 46 #[.slice la l.length lc] W fun e w' => e = .returned (.bool q) ∧ Ext W w') := fun W hW => hq.out ▸ coarseValid_calls _ l W (hM.out.ext hW)
  obtain ⟨n0, e0, hce⟩ : ∃ n0 e0, Hid (cellsG g f t = (n0, e0)) := ⟨_, _, rfl⟩
  have hcel : Hid (∀ W, Calls Try.prog 28 #[.int .i64 g, .agg #[.int .i64 f, .int .i64 t]] W fun e w' => e = .returned (.tuple #[.int .i64 n0, .int .i64 e0]) ∧ Ext W w') := fun W => by
    have := cells_calls g f t W
    rw [hce.out] at this
    exact this
  refine (callsIn_wide (n := 5)).1 ?_
  refine callsIn_of_wp_marks Try.func25 rfl trivial ?_ rfl
  simp only [Try.ntmps25, List.size_toArray, List.length_cons, List.length_nil, Nat.reduceAdd, Nat.reduceSub, Array.replicate_succ, Array.replicate_zero, List.push_toArray, List.append_toArray, List.nil_append, List.cons_append]
  gi_wp2_with fail
  refine ⟨trivial, (callsIn_wide.2 (hval.out _ (by repeat' (first | (with_reducible exact Ext.refl _) | (with_reducible assumption) | (with_reducible refine Ext.drewN ?_ _) | (with_reducible refine Ext.drew ?_) | (with_reducible refine Ext.alloc ?_ _) | (with_reducible refine Ext.trans ?_ (by with_reducible assumption)))))).mono ?_⟩
  rintro e w1 ⟨rfl, hx1⟩
  have hB1 : Hid (Blk w1 w.heap.size 28 #[.int .i64 f, .int .i64 t]) := Lib.hid ((Keep.of_ext (X := fun _ => False) hx1).blk (blk_new' rfl rfl) id)
  have hE1 := Lib.hid (((Ext.refl w).alloc (.cells #[.int .i64 f, .int .i64 t] 28)).trans hx1)
  clear hx1 hval
  cases q with
  | false =>
    have R : Hid (viewG l g f t = ([], 1)) := by show _ = _; unfold viewG; rw [hq.out]; rfl
    clear hq hce hcel
    gi_wp2
    refine postM_ret (results_tmp2 rfl _ _ _) ?_
    rw [R.out]
    exact ⟨_, rfl, (IntsO.nil w1 0).read, hE1.out⟩
  | true =>
    have c0 : w1.cell? ⟨w.heap.size, 0, none⟩ = some (.int .i64 f) := hB1.out.cell 0
    have c1 : w1.cell? ⟨w.heap.size, 1, none⟩ = some (.int .i64 t) := hB1.out.cell 1
    gi_wp2_with fail
    refine ⟨trivial, (callsIn_wide.2 (hcel.out _)).mono ?_⟩
    rintro e w2 ⟨rfl, hx2⟩
    have hB2 : Hid (Blk w2 w.heap.size 28 #[.int .i64 f, .int .i64 t]) := Lib.hid ((Keep.of_ext (X := fun _ => False) hx2).blk hB1.out id)
    have hE2 := Lib.hid (hE1.out.trans hx2)
    clear hx2 hB1 hE1 c0 c1 hcel
    by_cases h0 : e0 = 0
    · have hz0 : (e0 != 0) = false := by simp [h0]
      have hce0 : (cellsG g f t).2 = 0 := by rw [hce.out]; exact h0
      obtain ⟨hg4, hwin, _⟩ := cells_ok hce0
      obtain ⟨n, hn1, hn2, hn3⟩ := cells_num hce0
      have hn0 : n0 = (n : Int) := by rw [hce.out] at hn1; exact hn1
      have R : Hid (viewG l g f t = (viewN g l f n, 0)) := by
        show _ = _
        unfold viewG
        rw [hq.out, if_pos rfl, if_pos hce0, hn1]
        rfl
      have hgq := hg4
      subst hn0
      have hmk := run_make_ints n (by omega)
      have hn3' := Lib.hid hn3
      have hwin' := Lib.hid hwin
      clear hce hce0 h0 hn1 hn3 hwin
      gi_wp2_with fail
      have lt1 : w.heap.size < w2.heap.size := hB2.out.lt
      have hsz : Hid (∀ W, Calls Try.prog 38 #[.int .i64 g] W fun e w' => e = .returned (.int .i64 (sizeG g)) ∧ Ext W w') := fun W => size_calls g hgq W
      have hI0 : Hid (ViewI w w.heap.size (w2.heap.size + 1) w2.heap.size n g l f t 0 ((w2.alloc (.cells (zerosV n) 3)).alloc (.cells #[.slice (some ⟨w2.heap.size, 0, none⟩) n n] 22)) []) := by
        refine Lib.hid ⟨(hE2.out.alloc _).alloc _, Blk.alloc (Blk.alloc hB2.out _) _, blk_new' (by rw [World.size_alloc]) rfl, ?_, MarksD.nil _ _ _⟩
        rw [List.take_zero, viewN_nil, numV_zeros]
        exact Blk.alloc (blk_new' rfl rfl) _
      obtain ⟨w3, hw3⟩ : ∃ w3, Hid ((w2.alloc (.cells (zerosV n) 3)).alloc (.cells #[.slice (some ⟨w2.heap.size, 0, none⟩) n n] 22) = w3) := ⟨_, rfl⟩
      rw [hw3.out] at hI0 ⊢
      have ltK : w2.heap.size ≠ w2.heap.size + 1 := by omega
      obtain ⟨K, hK⟩ : ∃ K, w2.heap.size = K := ⟨_, rfl⟩
      obtain ⟨O, hO⟩ : ∃ O, w2.heap.size + 1 = O := ⟨_, rfl⟩
      obtain ⟨bw, hbw⟩ : ∃ bw, w.heap.size = bw := ⟨_, rfl⟩
      have lwK : w.heap.size ≤ K := by omega
      rw [hO, hK] at ltK
      rw [hO, hK, hbw] at hI0
      rw [hK, hbw] at lt1
      rw [hO, hbw]
      clear hB2 hE2 hmk hw3 hK hO hbw
      have hmkB := Lib.hid hq.out
      clear hq
      refine wpIn_loop (fun a W => ∃ (i : Nat) (ds : List Deferred) (u0 u2 u3 u4 u6 u7 u8 u9 u11 u12 u13 u14 u15 u16 u17 u18 u19 u20 u21 u22 u23 u24 u25 u26 u27 u28 u32 u33 u34 u35 u36 u37 u38 u39 u40 u41 u42 u43 u44 u45 u46 u47 u48 u49 u50 u51 u52 u53 u54 u55 u56 : Value), a = { tmps := #[u0, .int .i64 g, u2, u3, u4, .pointer (some ⟨bw, 0, none⟩), u6, u7, u8, u9, .pointer (some ⟨O, 0, none⟩), u11, u12, u13, u14, u15, u16, u17, u18, u19, u20, u21, u22, u23, u24, u25, u26, u27, u28, .slice la l.length lc, .int .i64 l.length, .int .i64 i, u32, u33, u34, u35, u36, u37, u38, u39, u40, u41, u42, u43, u44, u45, u46, u47, u48, u49, u50, u51, u52, u53, u54, u55, u56], defers := ds } ∧ i ≤ l.length ∧ Hid (ViewI w bw O K n g l f t i W ds)) (fun a _ => l.length - (intOf (a.tmps.getD 31 undef)).toNat) ?_ ?_
      · exact ⟨0, [], _, _, _, _, _, _, _, _, _, _, _, _, _, _, _, _, _, _, _, _, _, _, _, _, _, _, _, _, _, _, _, _, _, _, _, _, _, _, _, _, _, _, _, _, _, _, _, _, _, _, _, rfl, Nat.zero_le _, hI0⟩
      · intro _ wr hinv
        obtain ⟨i, ds, u0, u2, u3, u4, u6, u7, u8, u9, u11, u12, u13, u14, u15, u16, u17, u18, u19, u20, u21, u22, u23, u24, u25, u26, u27, u28, u32, u33, u34, u35, u36, u37, u38, u39, u40, u41, u42, u43, u44, u45, u46, u47, u48, u49, u50, u51, u52, u53, u54, u55, u56, rfl, hi, hI⟩ := hinv
        dsimp only
        by_cases h1 : i < l.length
        · obtain ⟨b, off, mf, mt, mk, rfl, hb, hdrop, hget, g0, g1, g2⟩ := lat'.out i h1 wr hI.out.ext
          have hmm : Hid (markB ⟨mf, mt, mk⟩ = true) := List.all_eq_true.1 hmkB.out _ (List.mem_of_getElem? hget.out)
          obtain ⟨hk1, hk8, hwm, hne⟩ := mark_iff.1 hmm.out
          obtain ⟨kk, rfl⟩ : ∃ kk : Nat, mk = (kk : Int) + 1 := ⟨(mk - 1).toNat, by dsimp only at hk1 hk8; omega⟩
          have hkk : kk ≤ 7 := by dsimp only at hk8; omega
          have hp : 2 ^ kk ≤ 128 := Nat.pow_le_pow_right (by decide) hkk
          clear hk1 hk8 hwm hne hdrop
          by_cases h3 : 3 ≤ g
          · have d3 : decide (3 ≤ g) = true := decide_eq_true h3
            obtain ⟨bit, hbit, hbit2⟩ : ∃ bit : Nat, Hid (bitG g ((kk : Int) + 1) = bit ∧ bit < 2 ^ 8) ∧ wrap64 (2 ^ kk) = (bit : Int) := by
              have e1 : bitG g ((kk : Int) + 1) = 2 ^ kk := by rw [shl_bit h3]; congr 1; omega
              refine ⟨2 ^ kk, Lib.hid ⟨e1, by omega⟩, ?_⟩
              have e2 : (2 : Int) ^ kk = ((2 ^ kk : Nat) : Int) := by simp
              rw [e2]
              unfold wrap64; omega
            gi_wp2_with fail
            rw [hbit2]
            clear hbit2
            obtain ⟨W4, hW4⟩ : ∃ W4, Hid ((wr.alloc (.cells #[.int .i64 mf, .int .i64 mt, .int .i64 ((kk : Int) + 1)] 47)).alloc (.cells #[.int .i64 (bit : Int)] 3) = W4) := ⟨_, rfl⟩
            rw [hW4.out]
            have hx4 : Ext wr W4 := by rw [← hW4.out]; exact ((Ext.refl wr).alloc _).alloc _
            have hV4 := Lib.hid (hI.out.far hx4)
            have hb4 : Hid (Blk W4 (wr.heap.size + 1) 3 #[.int .i64 (bit : Int)]) := by rw [← hW4.out]; exact Lib.hid (blk_new' (by rw [World.size_alloc]) rfl)
            have hm4 : Hid (Blk W4 wr.heap.size 47 #[.int .i64 mf, .int .i64 mt, .int .i64 ((kk : Int) + 1)]) := by rw [← hW4.out]; exact Lib.hid (Blk.alloc (blk_new' rfl rfl) _)
            have qKr := hI.out.row.lt
            clear hW4 hx4 g0 g1 g2 hI
            have y0 := After.cell (hm4.out.cell 0)
            have y1 := After.cell (hm4.out.cell 1)
            have y2 := After.cell (hV4.out.box.cell 0)
            have y3 := After.cell (hV4.out.box.cell 1)
            refine wpIn_wide.2 (wp_region_tail 5 (by kernel_rfl) (by kernel_rfl) ?_)
            simp only [List.take_succ_cons, List.take_zero, List.drop_succ_cons, List.drop_zero]
            repeat (go_big_quiet_step (exact After.call _ (hsz.out _)))
            refine wpQuiet_nil ?_
            rintro _ ⟨u, rfl⟩
            have hu := u.ext
            generalize u.world = W5 at hu ⊢
            clear y0 y1 y2 y3
            have hV5 := Lib.hid (hV4.out.far hu)
            have hb5 : Hid (Blk W5 (wr.heap.size + 1) 3 #[.int .i64 (bit : Int)]) := Lib.hid ((Keep.of_ext (X := fun _ => False) hu).blk hb4.out id)
            clear hu hV4 hb4 hm4
            go_wp2_with fail
            refine (touched_calls _ _ _ _ _ _).mono ?_
            rintro e W6 ⟨rfl, hx6, hC6⟩
            have hV6 := Lib.hid (hV5.out.far hx6)
            have hb6 : Hid (Blk W6 (wr.heap.size + 1) 3 #[.int .i64 (bit : Int)]) := Lib.hid ((Keep.of_ext (X := fun _ => False) hx6).blk hb5.out id)
            have hlt6 := World.block_lt_of_cell? _ _ hC6.2.2.2.2
            obtain ⟨bb, hbb⟩ : ∃ bb, wr.heap.size + 1 = bb := ⟨_, rfl⟩
            obtain ⟨BC, hBC⟩ : ∃ BC, W5.heap.size = BC := ⟨_, rfl⟩
            rw [hbb] at hb6 ⊢
            rw [hBC] at hC6 hlt6 ⊢
            have qKC : K < BC := by have := hV5.out.row.lt; omega
            have qKb : K < bb := by omega
            clear hx6 hV5 hb5
            gi_wp2_with fail
            clear u hbb hBC
            go_wp2_with fail
            gi_wp2_with fail
            have hmm2 := mark_iff.1 hmm.out
            have hwin2 := window_iff.1 hwin'.out
            obtain ⟨N, hit, hN1, hN2⟩ := touched_iter BC n ⟨mf, mt, (kk : Int) + 1⟩ f t (sizeG g) (size_pos g).1 (size_pos g).2 hmm2.2.2.1 hwin2.1 hwin2.2.2 hn3'.out
            have hl0 := lo_nonneg (m := ⟨mf, mt, (kk : Int) + 1⟩) (f := f) (size_pos g).1
            obtain ⟨lo, hlo⟩ : ∃ lo : Nat, loG ⟨mf, mt, (kk : Int) + 1⟩ f (sizeG g) = (lo : Int) := ⟨_, (Int.toNat_of_nonneg hl0).symm⟩
            rw [hlo] at hit hN1 hN2
            have hmlt : mf < mt := by
              have := window_iff.1 hmm2.2.2.1
              have := hmm2.2.2.2
              dsimp only at *
              omega
            have hlo' := Lib.hid hlo
            have hN1' := Lib.hid hN1
            have hN2' := Lib.hid hN2
            clear hl0 hlo hN1 hN2 hmm2 hwin2
            have hF0 : FillI w bw O K bb n f t (viewN g (l.take i) f n) bit lo W6.heap.size ds 0 W6 := by
              refine ⟨hV6.out.ext, hV6.out.box, hV6.out.out, ?_, hb6.out, hV6.out.marks⟩
              rw [Int.natCast_zero, Int.add_zero, fillN_zero]
              exact hV6.out.row
            have q0 := hV6.out.ext.size
            have q1 := hV6.out.box.lt
            have q2 := hV6.out.out.lt
            have q3 := hV6.out.row.lt
            have q4 := hb6.out.lt
            refine wpIn_range_iter (n := 5) (F := 62) (N := N) (val := fun j => .int .i64 ((lo : Int) + j)) (C := TouchC BC mf mt f t (sizeG g)) (by omega) ?hg (fun _ _ => by kernel_rfl) hit (touchC_stands hlt6) hC6
              (FillI w bw O K bb n f t (viewN g (l.take i) f n) bit lo W6.heap.size ds) (fun _ _ => False) (fun j => FillI.stands q0 q1 q2 q3 q4 j) (fun _ _ _ x _ => x) hF0 14 ?assign ?body ?done ?stop
            case hg => rfl
            case assign =>
              intro l j W K hK
              simp only [List.setIfInBounds_toArray, List.set_cons_succ, List.set_cons_zero] at hK
              gi_wp2
              exact hK
            case body =>
              intro l' j W hj hF hC hsz2
              simp only [List.setIfInBounds_toArray, List.set_cons_succ, List.set_cons_zero]
              have hlt : (lo : Int) + j < n := hit_lt (m := ⟨mf, mt, (kk : Int) + 1⟩) (f := f) (size_pos g).1 (by have := hN1'.out j hj; rw [hn3'.out] at this; exact this)
              obtain ⟨q, hq⟩ : ∃ q : Nat, (lo : Int) + j = (q : Int) := ⟨lo + j, by omega⟩
              have hq' : Hid ((lo : Int) + (j + 1 : Nat) = (q : Int) + 1) := by show _ = _; omega
              have hqlo : Hid ((lo : Int) ≤ q) := by show _ ≤ _; omega
              have hol : (viewN g (l.take i) f n).length = n := viewN_len _ _ _ _
              have hF' := hF.row
              rw [hq] at hF' hlt ⊢
              clear hq
              have hqn : q < n := by omega
              obtain ⟨x, hx⟩ : ∃ x : Nat, Hid ((fillN (viewN g (l.take i) f n) bit lo q)[q]?.getD 0 = x) := ⟨_, rfl⟩
              have hx8 : x < 2 ^ 8 := by
                rw [← hx.out, fillN_at (by rw [hol]; exact hqn), if_neg (by omega), viewN_at hqn]
                exact cell_lt (List.all_eq_true.2 fun y hy => List.all_eq_true.1 hmkB.out y (List.mem_of_mem_take hy)) q
              have hor := Lib.hid (or_nat x bit hx8 hbit.out.2)
              have k0 : W.cell? ⟨O, 0, none⟩ = some (.slice (some ⟨K, 0, none⟩) n n) := hF.out.cell 0
              have k1 : W.cell? ⟨bb, 0, none⟩ = some (.int .i64 (bit : Int)) := hF.bit.cell 0
              have k2 : W.cell? ⟨K, q, none⟩ = some (.int .i64 (x : Int)) := by
                rw [hF'.cell q, numV_at (by rw [fillN_len, hol]; exact hqn), hx.out]
              have hFh := Lib.hid hF
              have hFr := Lib.hid hF'
              have hCh := Lib.hid hC
              have y0 := After.cell k0
              have y1 := After.cell k1
              have y2 := After.cell k2
              clear k0 k1 k2 hF hF' hC hlt hx8
              gi_wp2_with fail
              refine wpIn_region_tail 7 (by kernel_rfl) (by kernel_rfl) (by kernel_rfl) (by rintro ⟨_, _, hq⟩; exact hq) ?_
              simp only [List.take_succ_cons, List.take_zero, List.drop_succ_cons, List.drop_zero]
              repeat (go_big_quiet_step (fail))
              refine wpQuiet_nil ?_
              rintro _ ⟨u, rfl⟩
              have hu := Lib.hid u.ext
              generalize u.world = V at hu ⊢
              clear y0 y1 y2 u
              have hFV := Lib.hid ((Keep.of_ext (X := fun _ => False) hu.out).blk hFr.out id)
              have m1 : V.cell? ⟨K, q, none⟩ = some (.int .i64 (x : Int)) := by
                rw [hFV.out.cell q, numV_at (by rw [fillN_len, hol]; exact hqn), hx.out]
              have m2 := hFV.out.frozen q
              have m3 := hFV.out.lt
              clear hFr
              go_wp2
              rw [hor.out]
              have ks := keep_set V K q (.int .i64 ((x ||| bit : Nat) : Int))
              have hx7 := hFh.out.ext.trans hu.out
              have kV : Keep (fun _ => False) W V := Keep.of_ext hu.out
              have hbx := kV.blk hFh.out.box id
              have hou := kV.blk hFh.out.out id
              have hbb := kV.blk hFh.out.bit id
              have hCV := hCh.out.ext hu.out
              refine ⟨((keepsOthers_ext hu.out).trans (KeepsOthers.setCell _ _ _)).from _, ?_, ⟨hx7.setCell (p := ⟨K, q, none⟩) lwK _, Blk.far hbx (by dsimp only; omega) _, Blk.far hou (by dsimp only; omega) _, ?_, ?_, ?_⟩⟩
              · obtain ⟨e1, e2, e3, e4, e5⟩ := hCV
                exact ⟨ks.cell e1 (by dsimp only; omega), ks.cell e2 (by dsimp only; omega), ks.cell e3 (by dsimp only; omega), ks.cell e4 (by dsimp only; omega), ks.cell e5 (by dsimp only; omega)⟩
              · have h1 := hFV.out.set_ q (.int .i64 ((x ||| bit : Nat) : Int))
                rw [numV_set] at h1
                have h2 := fillN_step (old := viewN g (l.take i) f n) (bit := bit) (lo := (lo : Int)) hqlo.out (by rw [hol]; exact hqn)
                rw [hx.out] at h2
                rw [hq'.out, h2]
                exact h1
              · exact Blk.far hbb (by dsimp only; omega) _
              · exact (hFh.out.marks.ext hu.out).keep fun D hD _ => (KeepsOthers.setCell V _ _).same D _ hD rfl
            case done =>
              intro D W hD hF hDk
              have hfe : Hid (fillN (viewN g (l.take i) f n) bit lo ((lo : Int) + N) = viewN g (l.take (i + 1)) f n) := by
                show _ = _
                rw [takeStep hget.out, ← hbit.out.1, ← hlo'.out]
                refine fill_done (m := ⟨mf, mt, (kk : Int) + 1⟩) hmlt ?_
                refine fill_end (size_pos g).1 (fun j a b => ?_) ?_
                · obtain ⟨j', rfl⟩ : ∃ j' : Nat, j = (lo : Int) + j' := ⟨(j - lo).toNat, by rw [hlo'.out] at a; omega⟩
                  rw [← hn3'.out]
                  exact hN1'.out j' (by rw [hlo'.out] at b; omega)
                · rw [← hn3'.out, hlo'.out]
                  exact hN2'.out
              have hDs := (Array.getElem?_eq_some_iff.1 hDk).1
              have hnew : Hid (ViewI w bw O K n g l f t (i + 1) W ({ target := .collected D, args := #[] } :: ds)) := by
                refine Lib.hid ⟨hF.ext, hF.box, hF.out, ?_, (hF.marks.cons (Nat.le_trans q0 hD) hD hDk).up hDs⟩
                rw [← hfe.out]
                exact hF.row
              clear hF hDk hfe
              gi_wp2
              refine ⟨⟨i + 1, _, ⟨by omega, rfl⟩, h1, hnew⟩, ?_⟩
              simp [intOf]
              omega
            case stop =>
              intro D c W _ hF
              exact hF.elim
          · have d3 : decide (3 ≤ g) = false := decide_eq_false h3
            obtain ⟨bit, hbit, hbit2⟩ : ∃ bit : Nat, Hid (bitG g ((kk : Int) + 1) = bit ∧ bit < 2 ^ 8) ∧ Hid (1 = bit) := ⟨1, Lib.hid ⟨if_neg h3, by omega⟩, Lib.hid rfl⟩
            gi_wp2_with fail
            obtain ⟨W4, hW4⟩ : ∃ W4, Hid ((wr.alloc (.cells #[.int .i64 mf, .int .i64 mt, .int .i64 ((kk : Int) + 1)] 47)).alloc (.cells #[.int .i64 1] 3) = W4) := ⟨_, rfl⟩
            rw [hW4.out]
            replace hW4 : Hid ((wr.alloc (.cells #[.int .i64 mf, .int .i64 mt, .int .i64 ((kk : Int) + 1)] 47)).alloc (.cells #[.int .i64 (bit : Int)] 3) = W4) := by show _ = _; rw [← hbit2.out]; exact hW4.out
            clear hbit2
            have hx4 : Ext wr W4 := by rw [← hW4.out]; exact ((Ext.refl wr).alloc _).alloc _
            have hV4 := Lib.hid (hI.out.far hx4)
            have hb4 : Hid (Blk W4 (wr.heap.size + 1) 3 #[.int .i64 (bit : Int)]) := by rw [← hW4.out]; exact Lib.hid (blk_new' (by rw [World.size_alloc]) rfl)
            have hm4 : Hid (Blk W4 wr.heap.size 47 #[.int .i64 mf, .int .i64 mt, .int .i64 ((kk : Int) + 1)]) := by rw [← hW4.out]; exact Lib.hid (Blk.alloc (blk_new' rfl rfl) _)
            have qKr := hI.out.row.lt
            clear hW4 hx4 g0 g1 g2 hI
            have y0 := After.cell (hm4.out.cell 0)
            have y1 := After.cell (hm4.out.cell 1)
            have y2 := After.cell (hV4.out.box.cell 0)
            have y3 := After.cell (hV4.out.box.cell 1)
            refine wpIn_wide.2 (wp_region_tail 5 (by kernel_rfl) (by kernel_rfl) ?_)
            simp only [List.take_succ_cons, List.take_zero, List.drop_succ_cons, List.drop_zero]
            repeat (go_big_quiet_step (exact After.call _ (hsz.out _)))
            refine wpQuiet_nil ?_
            rintro _ ⟨u, rfl⟩
            have hu := u.ext
            generalize u.world = W5 at hu ⊢
            clear y0 y1 y2 y3
            have hV5 := Lib.hid (hV4.out.far hu)
            have hb5 : Hid (Blk W5 (wr.heap.size + 1) 3 #[.int .i64 (bit : Int)]) := Lib.hid ((Keep.of_ext (X := fun _ => False) hu).blk hb4.out id)
            clear hu hV4 hb4 hm4
            go_wp2_with fail
            refine (touched_calls _ _ _ _ _ _).mono ?_
            rintro e W6 ⟨rfl, hx6, hC6⟩
            have hV6 := Lib.hid (hV5.out.far hx6)
            have hb6 : Hid (Blk W6 (wr.heap.size + 1) 3 #[.int .i64 (bit : Int)]) := Lib.hid ((Keep.of_ext (X := fun _ => False) hx6).blk hb5.out id)
            have hlt6 := World.block_lt_of_cell? _ _ hC6.2.2.2.2
            obtain ⟨bb, hbb⟩ : ∃ bb, wr.heap.size + 1 = bb := ⟨_, rfl⟩
            obtain ⟨BC, hBC⟩ : ∃ BC, W5.heap.size = BC := ⟨_, rfl⟩
            rw [hbb] at hb6 ⊢
            rw [hBC] at hC6 hlt6 ⊢
            have qKC : K < BC := by have := hV5.out.row.lt; omega
            have qKb : K < bb := by omega
            clear hx6 hV5 hb5
            gi_wp2_with fail
            clear u hbb hBC
            go_wp2_with fail
            gi_wp2_with fail
            have hmm2 := mark_iff.1 hmm.out
            have hwin2 := window_iff.1 hwin'.out
            obtain ⟨N, hit, hN1, hN2⟩ := touched_iter BC n ⟨mf, mt, (kk : Int) + 1⟩ f t (sizeG g) (size_pos g).1 (size_pos g).2 hmm2.2.2.1 hwin2.1 hwin2.2.2 hn3'.out
            have hl0 := lo_nonneg (m := ⟨mf, mt, (kk : Int) + 1⟩) (f := f) (size_pos g).1
            obtain ⟨lo, hlo⟩ : ∃ lo : Nat, loG ⟨mf, mt, (kk : Int) + 1⟩ f (sizeG g) = (lo : Int) := ⟨_, (Int.toNat_of_nonneg hl0).symm⟩
            rw [hlo] at hit hN1 hN2
            have hmlt : mf < mt := by
              have := window_iff.1 hmm2.2.2.1
              have := hmm2.2.2.2
              dsimp only at *
              omega
            have hlo' := Lib.hid hlo
            have hN1' := Lib.hid hN1
            have hN2' := Lib.hid hN2
            clear hl0 hlo hN1 hN2 hmm2 hwin2
            have hF0 : FillI w bw O K bb n f t (viewN g (l.take i) f n) bit lo W6.heap.size ds 0 W6 := by
              refine ⟨hV6.out.ext, hV6.out.box, hV6.out.out, ?_, hb6.out, hV6.out.marks⟩
              rw [Int.natCast_zero, Int.add_zero, fillN_zero]
              exact hV6.out.row
            have q0 := hV6.out.ext.size
            have q1 := hV6.out.box.lt
            have q2 := hV6.out.out.lt
            have q3 := hV6.out.row.lt
            have q4 := hb6.out.lt
            refine wpIn_range_iter (n := 5) (F := 62) (N := N) (val := fun j => .int .i64 ((lo : Int) + j)) (C := TouchC BC mf mt f t (sizeG g)) (by omega) ?hg (fun _ _ => by kernel_rfl) hit (touchC_stands hlt6) hC6
              (FillI w bw O K bb n f t (viewN g (l.take i) f n) bit lo W6.heap.size ds) (fun _ _ => False) (fun j => FillI.stands q0 q1 q2 q3 q4 j) (fun _ _ _ x _ => x) hF0 14 ?assign ?body ?done ?stop
            case hg => rfl
            case assign =>
              intro l j W K hK
              simp only [List.setIfInBounds_toArray, List.set_cons_succ, List.set_cons_zero] at hK
              gi_wp2
              exact hK
            case body =>
              intro l' j W hj hF hC hsz2
              simp only [List.setIfInBounds_toArray, List.set_cons_succ, List.set_cons_zero]
              have hlt : (lo : Int) + j < n := hit_lt (m := ⟨mf, mt, (kk : Int) + 1⟩) (f := f) (size_pos g).1 (by have := hN1'.out j hj; rw [hn3'.out] at this; exact this)
              obtain ⟨q, hq⟩ : ∃ q : Nat, (lo : Int) + j = (q : Int) := ⟨lo + j, by omega⟩
              have hq' : Hid ((lo : Int) + (j + 1 : Nat) = (q : Int) + 1) := by show _ = _; omega
              have hqlo : Hid ((lo : Int) ≤ q) := by show _ ≤ _; omega
              have hol : (viewN g (l.take i) f n).length = n := viewN_len _ _ _ _
              have hF' := hF.row
              rw [hq] at hF' hlt ⊢
              clear hq
              have hqn : q < n := by omega
              obtain ⟨x, hx⟩ : ∃ x : Nat, Hid ((fillN (viewN g (l.take i) f n) bit lo q)[q]?.getD 0 = x) := ⟨_, rfl⟩
              have hx8 : x < 2 ^ 8 := by
                rw [← hx.out, fillN_at (by rw [hol]; exact hqn), if_neg (by omega), viewN_at hqn]
                exact cell_lt (List.all_eq_true.2 fun y hy => List.all_eq_true.1 hmkB.out y (List.mem_of_mem_take hy)) q
              have hor := Lib.hid (or_nat x bit hx8 hbit.out.2)
              have k0 : W.cell? ⟨O, 0, none⟩ = some (.slice (some ⟨K, 0, none⟩) n n) := hF.out.cell 0
              have k1 : W.cell? ⟨bb, 0, none⟩ = some (.int .i64 (bit : Int)) := hF.bit.cell 0
              have k2 : W.cell? ⟨K, q, none⟩ = some (.int .i64 (x : Int)) := by
                rw [hF'.cell q, numV_at (by rw [fillN_len, hol]; exact hqn), hx.out]
              have hFh := Lib.hid hF
              have hFr := Lib.hid hF'
              have hCh := Lib.hid hC
              have y0 := After.cell k0
              have y1 := After.cell k1
              have y2 := After.cell k2
              clear k0 k1 k2 hF hF' hC hlt hx8
              gi_wp2_with fail
              refine wpIn_region_tail 7 (by kernel_rfl) (by kernel_rfl) (by kernel_rfl) (by rintro ⟨_, _, hq⟩; exact hq) ?_
              simp only [List.take_succ_cons, List.take_zero, List.drop_succ_cons, List.drop_zero]
              repeat (go_big_quiet_step (fail))
              refine wpQuiet_nil ?_
              rintro _ ⟨u, rfl⟩
              have hu := Lib.hid u.ext
              generalize u.world = V at hu ⊢
              clear y0 y1 y2 u
              have hFV := Lib.hid ((Keep.of_ext (X := fun _ => False) hu.out).blk hFr.out id)
              have m1 : V.cell? ⟨K, q, none⟩ = some (.int .i64 (x : Int)) := by
                rw [hFV.out.cell q, numV_at (by rw [fillN_len, hol]; exact hqn), hx.out]
              have m2 := hFV.out.frozen q
              have m3 := hFV.out.lt
              clear hFr
              go_wp2
              rw [hor.out]
              have ks := keep_set V K q (.int .i64 ((x ||| bit : Nat) : Int))
              have hx7 := hFh.out.ext.trans hu.out
              have kV : Keep (fun _ => False) W V := Keep.of_ext hu.out
              have hbx := kV.blk hFh.out.box id
              have hou := kV.blk hFh.out.out id
              have hbb := kV.blk hFh.out.bit id
              have hCV := hCh.out.ext hu.out
              refine ⟨((keepsOthers_ext hu.out).trans (KeepsOthers.setCell _ _ _)).from _, ?_, ⟨hx7.setCell (p := ⟨K, q, none⟩) lwK _, Blk.far hbx (by dsimp only; omega) _, Blk.far hou (by dsimp only; omega) _, ?_, ?_, ?_⟩⟩
              · obtain ⟨e1, e2, e3, e4, e5⟩ := hCV
                exact ⟨ks.cell e1 (by dsimp only; omega), ks.cell e2 (by dsimp only; omega), ks.cell e3 (by dsimp only; omega), ks.cell e4 (by dsimp only; omega), ks.cell e5 (by dsimp only; omega)⟩
              · have h1 := hFV.out.set_ q (.int .i64 ((x ||| bit : Nat) : Int))
                rw [numV_set] at h1
                have h2 := fillN_step (old := viewN g (l.take i) f n) (bit := bit) (lo := (lo : Int)) hqlo.out (by rw [hol]; exact hqn)
                rw [hx.out] at h2
                rw [hq'.out, h2]
                exact h1
              · exact Blk.far hbb (by dsimp only; omega) _
              · exact (hFh.out.marks.ext hu.out).keep fun D hD _ => (KeepsOthers.setCell V _ _).same D _ hD rfl
            case done =>
              intro D W hD hF hDk
              have hfe : Hid (fillN (viewN g (l.take i) f n) bit lo ((lo : Int) + N) = viewN g (l.take (i + 1)) f n) := by
                show _ = _
                rw [takeStep hget.out, ← hbit.out.1, ← hlo'.out]
                refine fill_done (m := ⟨mf, mt, (kk : Int) + 1⟩) hmlt ?_
                refine fill_end (size_pos g).1 (fun j a b => ?_) ?_
                · obtain ⟨j', rfl⟩ : ∃ j' : Nat, j = (lo : Int) + j' := ⟨(j - lo).toNat, by rw [hlo'.out] at a; omega⟩
                  rw [← hn3'.out]
                  exact hN1'.out j' (by rw [hlo'.out] at b; omega)
                · rw [← hn3'.out, hlo'.out]
                  exact hN2'.out
              have hDs := (Array.getElem?_eq_some_iff.1 hDk).1
              have hnew : Hid (ViewI w bw O K n g l f t (i + 1) W ({ target := .collected D, args := #[] } :: ds)) := by
                refine Lib.hid ⟨hF.ext, hF.box, hF.out, ?_, (hF.marks.cons (Nat.le_trans q0 hD) hD hDk).up hDs⟩
                rw [← hfe.out]
                exact hF.row
              clear hF hDk hfe
              gi_wp2
              refine ⟨⟨i + 1, _, ⟨by omega, rfl⟩, h1, hnew⟩, ?_⟩
              simp [intOf]
              omega
            case stop =>
              intro D c W _ hF
              exact hF.elim
        · have hBo := hI.out.out
          have k0 : wr.cell? ⟨O, 0, none⟩ = some (.slice (some ⟨K, 0, none⟩) n n) := hBo.cell 0
          have hR := Lib.hid hI.out.row
          rw [List.take_of_length_le (by omega)] at hR
          clear hBo
          gi_wp2
          refine postM_marks (fun W => results_tmp2 rfl _ _ _) _ _ hI.out.marks hI.out.ext (fun W' hk hx => ?_)
          rw [R.out]
          have := nums_of_blk (hk _ _ _ hR.out) (by rw [viewN_len]; unfold maxLen; omega)
          rw [viewN_len] at this
          exact ⟨_, rfl, this, hx⟩
    · have hz0 : (e0 != 0) = true := by simp [h0]
      have R : Hid (viewG l g f t = ([], e0)) := by
        show _ = _
        unfold viewG
        rw [hq.out, if_pos rfl, hce.out, if_neg h0]
      clear hq hce h0
      gi_wp2
      refine postM_ret (results_tmp2 rfl _ _ _) ?_
      rw [R.out]
      exact ⟨_, rfl, (IntsO.nil w2 0).read, hE2.out⟩
end Go.Proofs.Ytcmcojmhlgknoaa
