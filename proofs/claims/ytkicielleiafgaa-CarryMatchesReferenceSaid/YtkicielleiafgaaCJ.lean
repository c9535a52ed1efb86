/- Walks of package carry: walk, Parked. -/
import Derived.Test.YtkicielleiafgaaCI
namespace Go.Proofs.Ytkicielleiafgaa
open Go.RowKit Go.Shelf

attribute [local go_sem] Oper.semAt_some

theorem walk_calls (ta sa : Option Addr) (tn tc sn sc : Nat) (w : World) :
    Calls Try.prog 54 #[.agg #[.slice ta tn tc], .slice sa sn sc] w fun e w' => e = .returned (.func (.func 91) #[] #[.pointer (some ⟨w.heap.size, 0, none⟩), .pointer (some ⟨w.heap.size + 1, 0, none⟩)]) ∧ Ext w w' ∧ w'.cell? ⟨w.heap.size, 0, none⟩ = some (.slice ta tn tc) ∧ w'.cell? ⟨w.heap.size + 1, 0, none⟩ = some (.slice sa sn sc) := by
  go_enter Try.func54, Try.ntmps54
  go_upto_region 1 with (fail)
  refine wp_abs (S := fun W => Hid (Ext w W) ∧ Hid (W.cell? ⟨w.heap.size, 0, none⟩ = some (.slice ta tn tc)) ∧ Hid (W.cell? ⟨w.heap.size + 1, 0, none⟩ = some (.slice sa sn sc))) ?_ ?_
  · exact ⟨Lib.hid (by exact (by repeat' (first | (with_reducible exact Ext.refl _) | (with_reducible assumption) | (with_reducible refine Ext.drewN ?_ _) | (with_reducible refine Ext.drew ?_) | (with_reducible refine Ext.alloc ?_ _) | (with_reducible refine Ext.trans ?_ (by with_reducible assumption))))), Lib.hid (by simp), Lib.hid (by simp)⟩
  rintro W ⟨hx, h1, h2⟩
  go_wp2
  go_ret
  exact ⟨rfl, hx.out, h1.out, h2.out⟩

theorem Stands.and {B : Nat} {I K : World → Prop} (h : Stands B I) (k : Stands B K) : Stands B fun W => I W ∧ K W := fun A A' row x g r => ⟨h A A' row x.1 g r, k A A' row x.2 g r⟩
theorem Stands.ext {B : Nat} {w : World} (h : w.heap.size ≤ B) : Stands B (Ext w) := fun A A' row x g r => x.grown g (fun k e => by rcases r with r | r | r | r <;> rw [r] at e <;> cases e <;> omega)
theorem Stands.blk {B g : Nat} {T : TypeId} {cs : Array Value} (h : g < B) : Stands B fun W => Blk W g T cs := fun A A' row x gr r => x.grown gr (fun e => by rcases r with r | r | r | r <;> rw [r] at e <;> cases e <;> omega)
theorem Stands.cell {B : Nat} {p : Addr} {v : Value} (h : p.block < B) : Stands B fun W => W.cell? p = some v := fun A A' row x gr r => by
  have hlt := World.block_lt_of_cell? _ _ x
  exact (World.cell?_of_block (gr.block _ hlt (fun e => by rcases r with r | r | r | r <;> rw [r] at e <;> simp at e <;> omega))).trans x
theorem Stands.hid {B : Nat} {I : World → Prop} (h : Stands B I) : Stands B fun W => Hid (I W) := fun A A' row x g r => Lib.hid (h A A' row x.out g r)

/-- a return from a function that holds no loop over a function's values, or one that has ended -/
theorem postM_ret {F : Fence} {n : Nat} {P : Program} {fn : Func} {R : Ending → World → Prop} {tmps : Array Value} {w : World} {v : Value} (h : (results fn tmps).run P w = .ok v w) (hR : R (.returned v) w) :
    bodyPostM F n P fn R .ret { tmps := tmps, defers := [] } w := ⟨v, h, hR⟩
theorem postM_ret1 {F : Fence} {n D : Nat} {P : Program} {fn : Func} {R : Ending → World → Prop} {tmps : Array Value} {w : World} {v : Value} (hK : w.heap[D]? = some (.deferred (some [])))
    (h : (results fn tmps).run P (w.putObj D (.deferred none)) = .ok v (w.putObj D (.deferred none))) (hR : R (.returned v) (w.putObj D (.deferred none))) :
    bodyPostM F n P fn R .ret { tmps := tmps, defers := [{ target := .collected D, args := #[] }] } w := ⟨by simp, .inl ⟨_, _, rfl, run_takeDeferred hK, v, h, hR⟩⟩

def parkN (st : List Int) : Nat := st.count (-1)
def mostTo (t : List WishD) (l : List StepD) : Nat → Nat
  | 0 => 0
  | i + 1 => max (mostTo t l i) (parkN (stAt t l i))
def parkedS (t : List WishD) (l : List StepD) : Int × Int := if stepsT t l = 0 then ((mostTo t l (l.length + 1) : Int), 0) else (0, stepsT t l)

set_option maxHeartbeats 3200000 in
set_option maxRecDepth 100000 in
theorem parked_calls (wv sv : Value) (t : List WishD) (l : List (Int × Int)) (w : World) (h : Wishes w wv t) (hs : Spans w sv l) :
    Calls Try.prog 19 #[.agg #[wv], sv] w fun e w' => e = .returned (.tuple #[.int .i64 (parkedS t l).1, .int .i64 (parkedS t l).2]) ∧ Ext w w' := by
  have hT := Lib.hid h
  have hS := Lib.hid hs
  obtain ⟨ta, tc, rfl⟩ := h.form
  obtain ⟨sa, sc, rfl⟩ := hs.form
  clear h hs
  obtain ⟨z, hz⟩ : ∃ z, Hid (stepsT t l = z) := ⟨_, rfl⟩
  have hchk : Hid (∀ W, Ext w W → Calls Try.prog 52 #[.agg #[.slice ta t.length tc], .slice sa l.length sc] W fun e w' => e = .returned (.int .i64 z) ∧ Ext W w') := fun W hW => hz.out ▸ carryCheck_calls _ _ t l W (hT.out.ext hW) (hS.out.ext hW)
  refine (callsIn_wide (n := 5)).1 ?_
  refine callsIn_of_wp_marks Try.func19 rfl trivial ?_ rfl
  simp only [Try.ntmps19, List.size_toArray, List.length_cons, List.length_nil, Nat.reduceAdd, Nat.reduceSub, Array.replicate_succ, Array.replicate_zero, List.push_toArray, List.append_toArray, List.nil_append, List.cons_append]
  gi_wp2_with fail
  refine ⟨trivial, (callsIn_wide.2 (hchk.out _ (by repeat' (first | (with_reducible exact Ext.refl _) | (with_reducible assumption) | (with_reducible refine Ext.drewN ?_ _) | (with_reducible refine Ext.drew ?_) | (with_reducible refine Ext.alloc ?_ _) | (with_reducible refine Ext.trans ?_ (by with_reducible assumption)))))).mono ?_⟩
  rintro e w1 ⟨rfl, hx1⟩
  have c0 : w1.cell? ⟨w.heap.size, 0, none⟩ = some (.slice ta t.length tc) := hx1.cell (by simp)
  have hW := Lib.hid (((Ext.refl w).alloc (.cells #[.slice ta t.length tc] 27)).trans hx1)
  clear hx1 hchk
  by_cases h0 : z = 0
  · have hz0 : (z != 0) = false := by simp [h0]
    obtain ⟨hv, hok, _⟩ := stepsT_ok (hz.out.trans h0)
    have hok' := Lib.hid hok
    obtain ⟨hb1, hb2⟩ := stepsT_bd hv
    have hst : Hid (stepsT t l = 0) := hz.out.trans h0
    clear hz h0 hv hok
    have hlt0 := World.block_lt_of_cell? _ _ c0
    gi_wp2_with fail
    refine ⟨trivial, (callsIn_wide.2 (walk_calls _ _ _ _ _ _ _)).mono ?_⟩
    rintro e w2 ⟨rfl, hx2, k0, k1⟩
    have hM : Hid (Blk w2 w1.heap.size 3 #[.int .i64 0]) := Lib.hid ((Keep.of_ext (X := fun _ => False) hx2).blk (blk_new' rfl rfl) id)
    have hMlt := hM.out.lt
    have hE2 := Lib.hid (hW.out.trans (((Ext.refl w1).alloc (.cells #[.int .i64 0] 3)).trans hx2))
    have hsz := hE2.out.size
    have hs1 := hW.out.size
    clear hx2 c0
    simp only [World.size_alloc] at k0 k1
    gi_wp2_with fail
    refine wpIn_range_walk (n := 5) (by omega) ?hg k0 k1 hE2.out hS.out hok'.out hb2 (fun i W => Ext w W ∧ Blk W w1.heap.size 3 #[.int .i64 (mostTo t l i)]) (fun _ _ => False) (fun i => (Stands.ext hsz).and (Stands.blk hMlt)) (fun c A A' row x _ _ => x) ⟨hE2.out, hM.out⟩ 8 ?assign ?body ?done ?stop
    case hg => rfl
    case assign =>
      intro l W K hK
      simp only [List.setIfInBounds_toArray, List.set_cons_succ, List.set_cons_zero] at hK
      gi_wp2
      exact hK
    case body =>
      rintro l' i W hi ⟨hx, hB⟩ hxw hcb hSt hSlt
      simp only [List.setIfInBounds_toArray, List.set_cons_succ, List.set_cons_zero]
      have hsl := stAt_len t l i
      have mlt := hB.lt
      have hne : w1.heap.size < w2.heap.size + 2 := by omega
      obtain ⟨M, hMo⟩ : ∃ M, Hid (mostTo t l i = M) := ⟨_, rfl⟩
      rw [hMo.out] at hB
      have m0 : W.cell? ⟨w1.heap.size, 0, none⟩ = some (.int .i64 M) := hB.cell 0
      have m1 := hB.frozen 0
      have hB' := Lib.hid hB
      have hx' := Lib.hid hx
      have hcb' := Lib.hid hcb
      have hSt' := Lib.hid hSt
      clear hB hx hxw hcb hSt
      gi_wp2
      gi_loopw [9, 24] (fun v9 v24 wr => ∃ k c : Nat, k ≤ t.length ∧ v9 = .int .i64 c ∧ v24 = .int .i64 k ∧ wr = W ∧ c ≤ k ∧ Hid (((stAt t l i).take k).count (-1) = c)) (fun _ v24 _ => t.length - (intOf v24).toNat)
      case atStart => exact ⟨0, 0, by omega, rfl, rfl, rfl, by omega, Lib.hid (by simp)⟩
      case round =>
        obtain ⟨k, c, hk, rfl, rfl, rfl, hck, hc⟩ := hrel
        by_cases q1 : k < t.length
        · have g0 := hSt'.out.cell (i := k) (by omega)
          have hgk := get_atI (l := stAt t l i) (i := k) (by omega)
          obtain ⟨x, hxk⟩ : ∃ x, Hid (atI (stAt t l i) k = x) := ⟨_, rfl⟩
          rw [hxk.out] at g0 hgk
          have hcn : Hid (((stAt t l i).take (k + 1)).count (-1) = c + if x = -1 then 1 else 0) := by
            show _ = _
            rw [take_step hgk, List.count_append, hc.out, List.count_singleton]
            by_cases q : x = -1 <;> simp [q]
          clear hgk hxk hc
          by_cases q2 : x = -1
          · have hcn' : Hid (((stAt t l i).take (k + 1)).count (-1) = c + 1) := by have := hcn.out; rwa [if_pos q2] at this
            subst q2
            clear hcn
            gi_wp2
            go_roundw
            case rel => exact ⟨k + 1, c + 1, by omega, by go_num, by go_num, trivial, by omega, hcn'⟩
            case measure => simp [intOf]; omega
          · have hcn' : Hid (((stAt t l i).take (k + 1)).count (-1) = c) := by have := hcn.out; rwa [if_neg q2] at this
            have q3 : (x == -1) = false := by simpa using q2
            clear hcn q2
            gi_wp2
            go_roundw
            case rel => exact ⟨k + 1, c, by omega, rfl, by go_num, trivial, by omega, hcn'⟩
            case measure => simp [intOf]; omega
        · have hcf : Hid (parkN (stAt t l i) = c) := by
            have := hc.out
            rwa [List.take_of_length_le (by omega)] at this
          have hmx : Hid (mostTo t l (i + 1) = max M c) := by
            show _ = _
            rw [mostTo, hMo.out, hcf.out]
          clear hc hcf hMo
          have hgo : ∀ v : Int, v = ((max M c : Nat) : Int) → walkPost w2.heap.size w ⟨w1.heap.size + 1 + 1, 0, none⟩ (.slice sa l.length sc) (w2.heap.size + 2) (stAt t l i) (fun W => Ext w W ∧ Blk W w1.heap.size 3 #[.int .i64 (mostTo t l (i + 1))]) (fun _ _ => False) wr .normal { tmps := #[], defers := [] } (wr.setCell ⟨w1.heap.size, 0, none⟩ (.int .i64 v)) := fun v hv => by
            have hx2 := hx'.out.setCell (p := ⟨w1.heap.size, 0, none⟩) hs1 (.int .i64 v)
            refine ⟨(KeepsOthers.setCell _ _ _).from _, hx2, (keep_set wr w1.heap.size 0 _).cell hcb'.out (by dsimp only; omega), Blk.far hSt'.out (by dsimp only; omega) _, hx2, ?_⟩
            rw [hmx.out, ← hv]
            exact hB'.out.set_ 0 _
          have hgo' := Lib.hid hgo
          clear hgo hmx hB' hcb' hSt'
          by_cases q3 : M < c
          · have q4 : max M c = c := by omega
            rw [q4] at hgo'
            gi_wp2
            exact hgo'.out _ rfl
          · have q4 : max M c = M := by omega
            rw [q4] at hgo'
            gi_wp2
            exact hgo'.out _ rfl
    case done =>
      rintro D W hD ⟨hx, hB⟩ hK
      have hBc : W.cell? ⟨w1.heap.size, 0, none⟩ = some (.int .i64 (mostTo t l (l.length + 1))) := hB.cell 0
      have R : Hid (parkedS t l = ((mostTo t l (l.length + 1) : Int), 0)) := by show _ = _; unfold parkedS; rw [if_pos hst.out]
      gi_wp2
      refine postM_ret1 hK (results_tmp2 rfl _ _ _) ?_
      rw [R.out]
      exact ⟨rfl, hx.grown (grownBy_putObj' _ _ _) (fun k e => by cases e; omega)⟩
    case stop =>
      rintro D c W _ h _
      exact h.elim
  · have hz0 : (z != 0) = true := by simp [h0]
    have R : Hid (parkedS t l = (0, z)) := by show _ = _; unfold parkedS; rw [hz.out, if_neg h0]
    clear hz h0
    gi_wp2
    refine postM_ret (results_tmp2 rfl _ _ _) ?_
    rw [R.out]
    exact ⟨rfl, hW.out⟩
end Go.Proofs.Ytkicielleiafgaa
