/- Walk of package coarse: Coarser. -/
import Derived.Test.YtcmcojmhlgknoaaGH
namespace Go.Proofs.Ytcmcojmhlgknoaa
open Go.RowKit Go.Shelf

theorem run_store_func {P : Program} {w : World} {a : Addr} {m : Mode} (f : Fn) (b c : Array Value) : (store a (.func f b c) m).run P w = stored P w a (.func f b c) m := run_store P w a _ m rfl
attribute [local go_sem] Oper.semAt_some run_store_func

theorem postM_one {F : Fence} {n : Nat} {P : Program} {fn : Func} {R : Ending → World → Prop} {tmps : Array Value} {w W : World} {v : Value} {D : Nat} (hres : ∀ W, (results fn tmps).run P W = .ok v W) (hx : Ext w W) (hw : w.heap.size ≤ D) (hD : W.heap[D]? = some (.deferred (some [])))
    (hR : ∀ W', Keep (fun k => k = D) W W' → Ext w W' → R (.returned v) W') : bodyPostM F n P fn R .ret { tmps := tmps, defers := [{ target := .collected D, args := #[] }] } W := by
  have hgr := grownBy_putObj' W D (.deferred none)
  exact ⟨by simp, .inl ⟨D, W.putObj D (.deferred none), rfl, run_takeDeferred hD, postM_ret (hres _) (hR _ ((Keep.refl _ W).grown hgr (fun g e => Or.inl (Option.some.inj e).symm)) (hx.grown hgr (fun k e => by cases e; exact hw)))⟩⟩
/-- what the loop over the parts keeps -/
structure CoI (w : World) (bt bf bo B : Nat) (to : Int) (r : Nat) (l : List Nat) (j : Nat) (W : World) : Prop where
  ext : Ext w W
  tb : Blk W bt 3 #[.int .i64 to]
  fb : Blk W bf 30 #[.func (.func 36) #[] #[.pointer (some ⟨bt, 0, none⟩)]]
  own : ∃ A C, Blk W bo 22 #[.slice A j C] ∧ W.ownsRow (B + 2) 3 1 (.slice A j C) j ((coarsL to r l j).map fun n : Nat => Value.int .i64 (n : Int))
theorem CoI.stands {w : World} {bt bf bo B : Nat} {to : Int} {r : Nat} {l : List Nat} (h0 : w.heap.size ≤ B) (h1 : bt < B) (h2 : bf < B) (h3 : bo < B) (j : Nat) : Stands B (CoI w bt bf bo B to r l j) := fun A A' h hx => by
  obtain ⟨a, c, hb, ho⟩ := h.own
  refine ⟨ext_stands h0 A A' h.ext hx, blk_stands h1 A A' h.tb hx, blk_stands h2 A A' h.fb hx, a, c, blk_stands h3 A A' hb hx, ?_⟩
  rcases hx with e | ⟨row, hg, hr⟩
  · exact owns_ext ho e
  · refine ho.kept hg ?_
    cases e : (Value.slice a j c).ownBlock with
    | none => exact Or.inl rfl
    | some g =>
      refine Or.inr (fun e2 => ?_)
      have := (ho.lt g e).1
      rcases hr with r | r <;> rw [r] at e2 <;> have := Option.some.inj e2 <;> omega
theorem chunkC_stands {B0 B : Nat} {v : Value} {r : Nat} (h : B0 + 1 < B) : Stands B (ChunkC B0 v r) := fun A A' hT hx =>
  ⟨cell_stands (by dsimp only; omega) A A' hT.1 hx, cell_stands h A A' hT.2 hx⟩
def JoinCon (x : Int) (k : Nat) (v : Value) (_ : World) : Prop := k = 3 → v = .int .i64 x
theorem nums_of_own {w : World} {B : Nat} {v : Value} {l : List Nat} (h : w.ownsRow B 3 1 v l.length (l.map fun n : Nat => Value.int .i64 (n : Int))) : Nums w v l := by
  refine ints_of_owns (base := B) ?_
  rw [List.length_map, List.map_map]
  exact h
theorem poss_nat {view : List Int} {g n : Int} (h : possB view g n = true) : view = (view.map Int.toNat).map (fun k : Nat => (k : Int)) ∧ ∀ x ∈ view.map Int.toNat, x < 2 ^ 8 := by
  constructor
  · rw [List.map_map]
    refine (List.map_id view).symm.trans (List.map_congr_left fun x hx => ?_)
    obtain ⟨i, hi⟩ := List.getElem?_of_mem hx
    have := poss_at h hi
    show x = ((x.toNat : Nat) : Int)
    omega
  · intro y hy
    obtain ⟨x, hx, rfl⟩ := List.mem_map.1 hy
    obtain ⟨i, hi⟩ := List.getElem?_of_mem hx
    have := poss_at h hi
    omega
theorem Nums.at0 {w : World} {a : Option Addr} {n c : Nat} {l : List Nat} (h : Nums w (.slice a n c) l) (h0 : 0 < l.length) : ∃ b off, a = some ⟨b, off, none⟩ ∧ b < w.heap.size := by
  obtain ⟨a', c', e, h1, h2, h3⟩ := h
  cases e
  obtain ⟨b, off, e1, e2, _⟩ := h3 (by rw [List.length_map]; exact h0)
  exact ⟨b, off, e1, e2⟩
set_option maxHeartbeats 6400000 in
set_option maxRecDepth 100000 in
theorem coarser_calls (va : Value) (view : List Int) (g to f t : Int) (w : World) (h : Ints w va view) :
    Calls Try.prog 15 #[va, .int .i64 g, .int .i64 to, .agg #[.int .i64 f, .int .i64 t]] w fun e w' => ∃ v, e = .returned (.tuple #[v, .int .i64 (coarserG view g to f t).2]) ∧ Nums w' v (coarserG view g to f t).1 ∧ Ext w w' := by
  have hI := Lib.hid h
  obtain ⟨a, c, rfl, hn, hc, hat⟩ := h.open
  clear h hat
  obtain ⟨j0, hj0, jz0, jz1, jz2⟩ := info_parts int_info
  obtain ⟨n0, e0, hce⟩ : ∃ n0 e0, Hid (cellsG g f t = (n0, e0)) := ⟨_, _, rfl⟩
  have hcel : Hid (∀ W, Calls Try.prog 28 #[.int .i64 g, .agg #[.int .i64 f, .int .i64 t]] W fun e w' => e = .returned (.tuple #[.int .i64 n0, .int .i64 e0]) ∧ Ext W w') := fun W => by
    have := cells_calls g f t W
    rw [hce.out] at this
    exact this
  obtain ⟨p, hp⟩ : ∃ p, Hid (possB view g n0 = p) := ⟨_, rfl⟩
  have hpos : Hid (∀ W, Ext w W → Calls Try.prog 35 #[.slice a view.length c, .int .i64 g, .int .i64 n0] W fun e w' => e = .returned (.bool p) ∧ Ext W w') := fun W hW => hp.out ▸ possible_calls _ view g n0 W (hI.out.ext hW)
  refine (callsIn_wide (n := 5)).1 ?_
  refine callsIn_of_wp_marks Try.func15 rfl trivial ?_ rfl
  simp only [Try.ntmps15, List.size_toArray, List.length_cons, List.length_nil, Nat.reduceAdd, Nat.reduceSub, Array.replicate_succ, Array.replicate_zero, List.push_toArray, List.append_toArray, List.nil_append, List.cons_append]
  gi_wp2_with fail
  refine ⟨trivial, (callsIn_wide.2 (hcel.out _)).mono ?_⟩
  rintro e w1 ⟨rfl, hx1⟩
  have hT1 : Hid (Blk w1 w.heap.size 3 #[.int .i64 to]) := Lib.hid ((Keep.of_ext (X := fun _ => False) hx1).blk (Blk.alloc (blk_new' rfl rfl) _) id)
  have hB1 : Hid (Blk w1 (w.heap.size + 1) 28 #[.int .i64 f, .int .i64 t]) := Lib.hid ((Keep.of_ext (X := fun _ => False) hx1).blk (blk_new' (by rw [World.size_alloc]) rfl) id)
  have hE1 := Lib.hid ((((Ext.refl w).alloc (.cells #[.int .i64 to] 3)).alloc (.cells #[.int .i64 f, .int .i64 t] 28)).trans hx1)
  clear hx1 hcel
  by_cases h0 : e0 = 0
  · have hz0 : (e0 != 0) = false := by simp [h0]
    have hce0 : (cellsG g f t).2 = 0 := by rw [hce.out]; exact h0
    cases p with
    | false =>
      have R : Hid (coarserG view g to f t = ([], 1)) := by show _ = _; unfold coarserG; rw [if_pos hce0, hce.out, hp.out, if_neg (by simp )]
      clear hce hp h0 hce0
      gi_wp2_with fail
      refine ⟨trivial, (callsIn_wide.2 (hpos.out _ hE1.out)).mono ?_⟩
      rintro e w2 ⟨rfl, hx2⟩
      have hE2 := Lib.hid (hE1.out.trans hx2)
      have hT2 := Lib.hid ((Keep.of_ext (X := fun _ => False) hx2).blk hT1.out id)
      have d0 : w2.cell? ⟨w.heap.size, 0, none⟩ = some (.int .i64 to) := hT2.out.cell 0
      clear hx2
      gi_wp2
      refine postM_ret (results_tmp2 rfl _ _ _) ?_
      rw [R.out]
      exact ⟨_, rfl, (IntsO.nil w2 0).read, hE2.out⟩
    | true =>
      by_cases h1 : to < 0
      · have d1 : decide (to < 0) = true := decide_eq_true h1
        have R : Hid (coarserG view g to f t = ([], 1)) := by show _ = _; unfold coarserG; rw [if_pos hce0, hce.out, hp.out, if_neg (by simp ; omega)]
        clear hce hp h0 hce0
        gi_wp2_with fail
        refine ⟨trivial, (callsIn_wide.2 (hpos.out _ hE1.out)).mono ?_⟩
        rintro e w2 ⟨rfl, hx2⟩
        have hE2 := Lib.hid (hE1.out.trans hx2)
        have hT2 := Lib.hid ((Keep.of_ext (X := fun _ => False) hx2).blk hT1.out id)
        have d0 : w2.cell? ⟨w.heap.size, 0, none⟩ = some (.int .i64 to) := hT2.out.cell 0
        clear hx2
        gi_wp2
        refine postM_ret (results_tmp2 rfl _ _ _) ?_
        rw [R.out]
        exact ⟨_, rfl, (IntsO.nil w2 0).read, hE2.out⟩
      · have d1 : decide (to < 0) = false := decide_eq_false h1
        by_cases h2 : g < to
        · have d2 : decide (g < to) = true := decide_eq_true h2
          have R : Hid (coarserG view g to f t = ([], 1)) := by show _ = _; unfold coarserG; rw [if_pos hce0, hce.out, hp.out, if_neg (by simp ; omega)]
          clear hce hp h0 hce0
          gi_wp2_with fail
          refine ⟨trivial, (callsIn_wide.2 (hpos.out _ hE1.out)).mono ?_⟩
          rintro e w2 ⟨rfl, hx2⟩
          have hE2 := Lib.hid (hE1.out.trans hx2)
          have hT2 := Lib.hid ((Keep.of_ext (X := fun _ => False) hx2).blk hT1.out id)
          have d0 : w2.cell? ⟨w.heap.size, 0, none⟩ = some (.int .i64 to) := hT2.out.cell 0
          clear hx2
          gi_wp2
          refine postM_ret (results_tmp2 rfl _ _ _) ?_
          rw [R.out]
          exact ⟨_, rfl, (IntsO.nil w2 0).read, hE2.out⟩
        · have d2 : decide (g < to) = false := decide_eq_false h2
          obtain ⟨n1, e1, hce1⟩ : ∃ n1 e1, Hid (cellsG to f t = (n1, e1)) := ⟨_, _, rfl⟩
          have hcel1 : Hid (∀ W, Calls Try.prog 28 #[.int .i64 to, .agg #[.int .i64 f, .int .i64 t]] W fun e w' => e = .returned (.tuple #[.int .i64 n1, .int .i64 e1]) ∧ Ext W w') := fun W => by
            have := cells_calls to f t W
            rw [hce1.out] at this
            exact this
          have R0 : Hid (coarserG view g to f t = if (cellsG to f t).2 = 0 then (coarsL to (ratioG g to) (view.map Int.toNat) (cellsG to f t).1.toNat, 0) else ([], (cellsG to f t).2)) := by
            show _ = _; unfold coarserG; rw [if_pos hce0, hce.out, hp.out, if_pos (by simp; omega)]
          gi_wp2_with fail
          refine ⟨trivial, (callsIn_wide.2 (hpos.out _ hE1.out)).mono ?_⟩
          rintro e w2 ⟨rfl, hx2⟩
          have hE2 := Lib.hid (hE1.out.trans hx2)
          have hT2 := Lib.hid ((Keep.of_ext (X := fun _ => False) hx2).blk hT1.out id)
          have hB2 := Lib.hid ((Keep.of_ext (X := fun _ => False) hx2).blk hB1.out id)
          have d0 : w2.cell? ⟨w.heap.size, 0, none⟩ = some (.int .i64 to) := hT2.out.cell 0
          have c0 : w2.cell? ⟨w.heap.size + 1, 0, none⟩ = some (.int .i64 f) := hB2.out.cell 0
          have c1 : w2.cell? ⟨w.heap.size + 1, 1, none⟩ = some (.int .i64 t) := hB2.out.cell 1
          clear hx2 hE1 hT1 hB1 hpos
          gi_wp2_with fail
          refine ⟨trivial, (callsIn_wide.2 (hcel1.out _)).mono ?_⟩
          rintro e w3 ⟨rfl, hx3⟩
          have hE3 := Lib.hid (hE2.out.trans hx3)
          have hT3 := Lib.hid ((Keep.of_ext (X := fun _ => False) hx3).blk hT2.out id)
          clear hx3 hE2 hT2 hB2 d0 c0 c1 hcel1
          by_cases h3 : e1 = 0
          · have hz1 : (e1 != 0) = false := by simp [h3]
            have hcf0 : (cellsG to f t).2 = 0 := by rw [hce1.out]; exact h3
            have hg4 := (cells_ok hce0).1
            have ht4 := (cells_ok hcf0).1
            obtain ⟨n, hn1, hn2, hn3⟩ := cells_num hce0
            obtain ⟨m, hm1, hm2, hm3⟩ := cells_num hcf0
            have hnm : Hid (n = m * ratioG g to) := cells_ratio hce0 hcf0 h2 hn1 hm1
            obtain ⟨hrs, hr1, hr2⟩ := ratio_is ht4.1 h2 hg4.2
            have hs1 := size_pos g
            have htd : (sizeG to).tdiv (sizeG g) = (ratioG g to : Int) := by
              rw [hrs, Int.tdiv_eq_ediv_of_nonneg (Int.mul_nonneg (by omega) (by omega))]
              exact Int.mul_ediv_cancel _ (by omega)
            have hst := size_pos to
            have hgz : (sizeG g == 0) = false := by rw [beq_eq_false_iff_ne]; omega
            have hlen : Hid (view.length = m * ratioG g to) := by
              show _ = _
              rw [← hnm.out]
              have h5 := hp.out
              simp only [possB, Bool.and_eq_true, decide_eq_true_eq] at h5
              have h6 := h5.1
              rw [hce.out] at hn1
              dsimp only at hn1
              omega
            have hlen2 : view.length ≤ 65536 := by rw [hlen.out, ← hnm.out]; exact hn2
            obtain ⟨hvn, hv8⟩ := poss_nat hp.out
            obtain ⟨vn, hvne⟩ : ∃ vn, Hid (view.map Int.toNat = vn) := ⟨_, rfl⟩
            have hvl : Hid (view.length = vn.length) := by show _ = _; rw [← hvne.out, List.length_map]
            have hNV : Hid (Nums w (.slice a view.length c) vn) := by
              have := hI.out
              rw [hvne.out] at hvn
              show Ints _ _ _
              rw [← hvn]
              exact this
            rw [hvne.out] at hv8
            have hv8' := Lib.hid hv8
            have R : Hid (coarserG view g to f t = (coarsL to (ratioG g to) vn m, 0)) := by show _ = _; rw [R0.out, if_pos hcf0, hm1, hvne.out]; rfl
            have hsz1 : Hid (∀ W, Calls Try.prog 38 #[.int .i64 to] W fun e w' => e = .returned (.int .i64 (sizeG to)) ∧ Ext W w') := fun W => size_calls to ht4 W
            have hsz2 : Hid (∀ W, Calls Try.prog 38 #[.int .i64 g] W fun e w' => e = .returned (.int .i64 (sizeG g)) ∧ Ext W w') := fun W => size_calls g hg4 W
            clear hn3 hm3 hn1 hm1 hvn hv8 hvne hrs R0 hce hce1 h0 hce0 h3 hcf0 hp hnm
            generalize sizeG to = s1 at *
            generalize sizeG g = s2 at *
            obtain ⟨r, hr⟩ : ∃ r, Hid (ratioG g to = r) := ⟨_, rfl⟩
            rw [hr.out] at hr1 hr2 htd hlen R
            clear hr
            have t0 : w3.cell? ⟨w.heap.size, 0, none⟩ = some (.int .i64 to) := hT3.out.cell 0
            have lt0 := hT3.out.lt
            gi_wp2_with fail
            refine ⟨trivial, (callsIn_wide.2 (hsz1.out _)).mono ?_⟩
            rintro e w4 ⟨rfl, hx4⟩
            have hF4 : Hid (Blk w4 w3.heap.size 30 #[.func (.func 36) #[] #[.pointer (some ⟨w.heap.size, 0, none⟩)]]) := Lib.hid ((Keep.of_ext (X := fun _ => False) hx4).blk (Blk.alloc (blk_new' rfl rfl) _) id)
            have hO4 : Hid (Blk w4 (w3.heap.size + 1) 22 #[.slice none 0 0]) := Lib.hid ((Keep.of_ext (X := fun _ => False) hx4).blk (blk_new' (by rw [World.size_alloc]) rfl) id)
            have hx34 : Ext w3 w4 := (((Ext.refl w3).alloc (.cells #[.func (.func 36) #[] #[.pointer (some ⟨w.heap.size, 0, none⟩)]] 30)).alloc (.cells #[.slice none 0 0] 22)).trans hx4
            have hE4 := Lib.hid (hE3.out.trans hx34)
            have hT4 := Lib.hid ((Keep.of_ext (X := fun _ => False) hx34).blk hT3.out id)
            clear hx4 hx34 hsz1 t0
            gi_wp2_with fail
            refine ⟨trivial, (callsIn_wide.2 (hsz2.out _)).mono ?_⟩
            rintro e w5 ⟨rfl, hx5⟩
            clear hsz2
            gi_wp2_with fail
            refine ⟨trivial, (callsIn_wide.2 (chunk_calls _ r hr1 hr2 w5 a view.length c rfl)).mono ?_⟩
            rintro e w6 ⟨rfl, hx6, hC6⟩
            have hE6 := Lib.hid ((hE4.out.trans hx5).trans hx6)
            have k46 : Keep (fun _ => False) w4 w6 := Keep.of_ext (hx5.trans hx6)
            have hT6 := k46.blk hT4.out id
            have hF6 := k46.blk hF4.out id
            have hO6 := k46.blk hO4.out id
            have q0 := hE6.out.size
            have q1 := hT6.lt
            have q2 := hF6.lt
            have q3 := hO6.lt
            have hlt6 := World.block_lt_of_cell? _ _ hC6.2
            have hI0 : CoI w w.heap.size w3.heap.size (w3.heap.size + 1) w6.heap.size to r vn 0 w6 := ⟨hE6.out, hT6, hF6, none, 0, hO6, World.ownsRow_nil _ _ _ _⟩
            obtain ⟨BC, hBC⟩ : ∃ BC, w5.heap.size = BC := ⟨_, rfl⟩
            obtain ⟨bo, hbo⟩ : ∃ bo, w3.heap.size + 1 = bo := ⟨_, rfl⟩
            obtain ⟨bf, hbf⟩ : ∃ bf, w3.heap.size = bf := ⟨_, rfl⟩
            obtain ⟨bt, hbt⟩ : ∃ bt, w.heap.size = bt := ⟨_, rfl⟩
            have n1 : bt ≠ bo := by omega
            have n2 : bf ≠ bo := by omega
            have n4 : w.heap.size ≤ bo := by have := hE3.out.size; omega
            have n3 : bo < BC := by have := (Keep.of_ext (X := fun _ => False) hx5).blk hO4.out id |>.lt; omega
            rw [hBC] at hC6 hlt6 ⊢
            rw [hbo] at hI0 ⊢
            rw [hbf] at hI0 ⊢
            rw [hbt] at hI0 ⊢
            rw [hbo] at q3
            rw [hbf] at q2
            rw [hbt] at q1
            clear hT6 hF6 hO6 k46 hx5 hx6 hE4 hF4 hO4 hT4 hT3 hE3 hBC hbo hbf hbt lt0
            gi_wp2_with fail
            have hiter := chunk_iter BC ((a.getD ⟨0, 0, none⟩).block) ((a.getD ⟨0, 0, none⟩).off) view.length c r m a hlen.out hn hlen2 hr1 hr2 (fun h0 => by
              obtain ⟨b', o', ha, _⟩ := hNV.out.at0 (by rw [← hvl.out, hlen.out]; exact Nat.mul_pos h0 hr1)
              rw [ha]; rfl)
            refine wpIn_range_iter (n := 5) (F := 55) (N := m) (val := fun j => .slice (some ⟨(a.getD ⟨0, 0, none⟩).block, (a.getD ⟨0, 0, none⟩).off + j * r, none⟩) r r) (C := ChunkC BC (.slice a view.length c) r) (by omega) ?hg (fun _ _ => by kernel_rfl) hiter (chunkC_stands hlt6) hC6
              (CoI w bt bf bo w6.heap.size to r vn) (fun _ _ => False) (fun j => CoI.stands q0 q1 q2 q3 j) (fun _ _ _ x _ => x) hI0 14 ?assign ?body ?done ?stop
            case hg => rfl
            case assign =>
              intro l j W K hK
              simp only [List.setIfInBounds_toArray, List.set_cons_succ, List.set_cons_zero] at hK
              gi_wp2
              exact hK
            case body =>
              intro l' j W hj hF hC hsz2
              simp only [List.setIfInBounds_toArray, List.set_cons_succ, List.set_cons_zero]
              obtain ⟨A, C, hOb, hOw⟩ := hF.own
              have hpr : j * r + r ≤ vn.length := by
                rw [← hvl.out, hlen.out]
                have := Nat.mul_le_mul_right r (show j + 1 ≤ m from hj)
                rw [Nat.add_mul, Nat.one_mul] at this
                exact this
              obtain ⟨b', o', rfl, _⟩ := hNV.out.at0 (by omega)
              simp only [Option.getD_some]
              have hN2 := hNV.out
              rw [hvl.out] at hN2
              obtain ⟨part, hpart⟩ : ∃ part, Hid ((vn.drop (j * r)).take r = part) := ⟨_, rfl⟩
              have hP : Hid (∀ W', Ext W W' → Nums W' (.slice (some ⟨b', o' + j * r, none⟩) r r) part) := fun W' hW' => by
                rw [← hpart.out]
                exact (nums_part hN2 rfl hpr (by omega)).ext (hF.ext.trans hW')
              have hp8 : Hid (∀ x ∈ part, x < 2 ^ 8) := by
                rw [← hpart.out]
                exact fun x hx => hv8'.out x (List.mem_of_mem_drop (List.mem_of_mem_take hx))
              obtain ⟨x, hx⟩ : ∃ x, Hid (joinN to part = x) := ⟨_, rfl⟩
              have hnext : Hid ((coarsL to r vn (j + 1)).map (fun n : Nat => Value.int .i64 (n : Int)) = (coarsL to r vn j).map (fun n : Nat => Value.int .i64 (n : Int)) ++ [.int .i64 (x : Int)]) := by
                show _ = _
                rw [coarsL_succ, hpart.out, hx.out, List.map_append]
                rfl
              have z0 := After.cell (hOb.cell 0)
              have z1 := After.cell (hF.fb.cell 0)
              have hOb' := Lib.hid hOb
              have hOw' := Lib.hid hOw
              have hFh := Lib.hid hF
              have hCh := Lib.hid hC
              have hjm : j ≤ 65536 := by omega
              clear hOb hOw hF hC hN2 hpart
              gi_wp2_with fail
              (refine wpIn_region_held [] [0, 1, 2, 3, 4] [5, 6] (JoinCon x) (by kernel_rfl) (by kernel_rfl) (by kernel_rfl) ?_; simp only [pickL]; with_reducible refine wpQuiet_nil ?_)
              (refine held_quiet [0, 1, 2] [3, 4] (by kernel_rfl) (by kernel_rfl) ?_; simp only [pickL, List.drop]; (repeat (go_big_quiet_step (fail))); with_reducible refine wpQuiet_nil ?_)
              (refine held_call 3 [4] rfl (by kernel_rfl) 39 (#[.slice (some ⟨b', o' + j * r, none⟩) r r, .func (.func 36) #[] #[.pointer (some ⟨bt, 0, none⟩)]]) (fun W => by kernel_rfl) rfl ?_ ?_ ?_)
              · exact fun W W' v e hh => hh
              · refine fun W' hW _ => (join_calls _ part bt to W' (hP.out W' hW) hp8.out (hW.cell (hFh.out.tb.cell 0))).mono ?_
                rw [hx.out]
                rintro e W'' ⟨rfl, hxx⟩
                exact ⟨_, rfl, hxx, fun _ => rfl⟩
              rintro v ⟨Y, hY, hCv⟩
              obtain rfl := hCv rfl
              clear hCv hY Y
              simp only [Act.put, List.setIfInBounds_toArray, List.set_cons_succ, List.set_cons_zero]
              (refine held_made 4 [] rfl (by kernel_rfl) (fun g => .slice (some ⟨g, 0, none⟩) 1 1) (.cells #[.int .i64 (x : Int)] 3) (fun W => by kernel_rfl) (fun g g2 e => by cases e; rfl) (fun g => rfl) ?_)
              intro gs
              simp only [Act.put, List.setIfInBounds_toArray, List.set_cons_succ, List.set_cons_zero]
              intro V hxv hf ht Q0 hQ0
              have h7 := (hf 4).2 rfl
              have b7 : Blk V gs 3 #[.int .i64 (x : Int)] := h7.1
              have hgs : W.heap.size ≤ gs := h7.2
              simp only [pickL, List.drop]
              clear hf ht h7 z0 z1
              have hOV := Lib.hid (owns_ext hOw'.out hxv)
              have kV : Keep (fun _ => False) W V := Keep.of_ext hxv
              have hObV := Lib.hid (kV.blk hOb'.out id)
              have hTV := Lib.hid (kV.blk hFh.out.tb id)
              have hFV := Lib.hid (kV.blk hFh.out.fb id)
              have hCV := Lib.hid (hCh.out.ext hxv)
              have hXV := Lib.hid (hFh.out.ext.trans hxv)
              have hKV := Lib.hid (keepsOthers_ext hxv)
              have hsrc : Hid (Reads V V.heap.size 1 (some ⟨gs, 0, none⟩) 1 [.int .i64 (x : Int)]) := by
                have hh := ints_of_blk (w := V) (g := gs) (t := 3) (c := 1) (l := [(x : Int)]) b7 (Nat.le_refl _) (by unfold maxLen; omega)
                exact Lib.hid hh.reads
              have hsV := hXV.out.size
              have hsV2 := hxv.size
              clear hOw' hOb' hFh hCh hxv kV b7 hP hp8 hx
              go_wp2_with (at_builtin; refine wpList_append_any _ rfl (.tmp 56) (.tmp 60) _ rfl (w6.heap.size + 2) 3 j0 _ 1 8 Try.underlying22 hj0 jz0 jz1 jz2 rfl (by decide) (.slice A j C) j _ rfl hOV.out V.heap.size (some ⟨gs, 0, none⟩) 1 1 [.int .i64 (x : Int)] rfl hsrc.out (one_int _) (by unfold maxLen; omega) (by omega) (by omega) ?_; intro v5 w5 hown5 hg5 hat5; obtain ⟨A5, C5, rfl⟩ := owns_form hown5; have hOb5 : Blk w5 bo 22 #[.slice A j C] := hObV.out.grown hg5 (fun e => by have := (hOV.out.lt _ e.symm).1; omega); have m5 : w5.cell? ⟨bo, 0, none⟩ = some (.slice A j C) := hOb5.cell 0; have f5 := hOb5.frozen 0; have lt5 := hOb5.lt)
              have kp : Keep (fun x => (Value.slice A j C).ownBlock = some x) V w5 := (Keep.refl _ _).grown hg5 (fun g e => Or.inl e)
              have ks := keep_set w5 bo 0 (.slice A5 (j + 1) C5)
              have hcells : ∀ (k : Nat) (o : Obj), (Value.slice A j C).ownBlock = some k → V.heap[k]? = some o → o.isCells = true := fun k o e ho => by
                obtain ⟨cs', hb⟩ := owns_block hOV.out e
                have hb' : V.heap[k]? = some (.cells cs' 3) := hb
                rw [hb'] at ho
                cases ho
                rfl
              have hx5 : Ext w w5 := hXV.out.grown hg5 (fun k e => by have := (hOV.out.lt k e).1; omega)
              have hT5 := hTV.out.grown hg5 (fun e => by have := (hOV.out.lt _ e.symm).1; omega)
              have hF5 := hFV.out.grown hg5 (fun e => by have := (hOV.out.lt _ e.symm).1; omega)
              have hC5 : ChunkC BC (.slice (some ⟨b', o', none⟩) view.length c) r w5 := ⟨kp.cell hCV.out.1 (fun e => by have := (hOV.out.lt _ e).1; dsimp only at this; omega), kp.cell hCV.out.2 (fun e => by have := (hOV.out.lt _ e).1; dsimp only at this; omega)⟩
              refine ⟨((hKV.out.trans (KeepsOthers.of_grownBy hg5 hcells)).trans (KeepsOthers.setCell _ _ _)).from _, ⟨ks.cell hC5.1 (by dsimp only; omega), ks.cell hC5.2 (by dsimp only; omega)⟩,
                ⟨hx5.setCell (p := ⟨bo, 0, none⟩) n4 _, Blk.far hT5 (by dsimp only; omega) _, Blk.far hF5 (by dsimp only; omega) _, A5, C5, hOb5.set_ 0 _, ?_⟩⟩
              rw [hnext.out]
              exact ks.owns hown5 (fun g e h => by have := (hown5.lt g e).1; omega)
            case done =>
              intro D W hD hF hDk
              obtain ⟨A, C, hb, ho⟩ := hF.own
              have k0 : W.cell? ⟨bo, 0, none⟩ = some (.slice A m C) := hb.cell 0
              have hFh := Lib.hid hF
              have hoh := Lib.hid ho
              have hDh := Lib.hid hDk
              clear hb ho hF hDk
              gi_wp2
              refine postM_one (w := w) (fun W => results_tmp2 rfl _ _ _) hFh.out.ext (Nat.le_trans q0 hD) hDh.out (fun W' hk hx => ?_)
              rw [R.out]
              refine ⟨_, rfl, ?_, hx⟩
              have h9 := hk.owns hoh.out (fun g e h => ?_)
              · have := nums_of_own (l := coarsL to r vn m) (by rw [coarsL_len]; exact h9)
                exact this
              · subst h
                obtain ⟨cs, hb⟩ := owns_block hoh.out e
                have hb' : W.heap[g]? = some (.cells cs 3) := hb
                rw [hDh.out] at hb'
                cases hb'
            case stop =>
              intro D c W _ hF
              exact hF.elim
          · have hz1 : (e1 != 0) = true := by simp [h3]
            have R : Hid (coarserG view g to f t = ([], e1)) := by show _ = _; rw [R0.out, hce1.out, if_neg h3]
            clear R0 hce hce1 hp h0 hce0 h3
            gi_wp2
            refine postM_ret (results_tmp2 rfl _ _ _) ?_
            rw [R.out]
            exact ⟨_, rfl, (IntsO.nil w3 0).read, hE3.out⟩
  · have hz0 : (e0 != 0) = true := by simp [h0]
    have R : Hid (coarserG view g to f t = ([], e0)) := by show _ = _; unfold coarserG; rw [hce.out, if_neg h0]
    clear hce hp h0
    gi_wp2
    refine postM_ret (results_tmp2 rfl _ _ _) ?_
    rw [R.out]
    exact ⟨_, rfl, (IntsO.nil w1 0).read, hE1.out⟩
end Go.Proofs.Ytcmcojmhlgknoaa
