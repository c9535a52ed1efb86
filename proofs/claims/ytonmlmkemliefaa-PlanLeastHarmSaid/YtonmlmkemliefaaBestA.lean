import Derived.Test.YtonmlmkemliefaaBegin
import Derived.Defers
import Derived.Recover
namespace Go.Proofs.Ytonmlmkemliefaa
open Go.RowKit

theorem no_large (w : World) : (Instr.typeAssert .nilIface 20 86 true).run Try.prog w = .ok (.tuple #[.agg #[], .bool false]) w := by kernel_rfl

set_option maxRecDepth 20000 in
theorem best1_idle (a b c : Value) (w : World) : CallsD Try.prog 35 #[a, b, c] .returning w fun e u' w' => e = .returned (.tuple #[]) ∧ u' = .returning ∧ Ext w w' := by
  refine callsD_of_wpS Try.func35 rfl fun c₀ cs hu => ?_
  have hta := no_large
  apply wpS_seq
  apply wpS_region
  simp [wpOpsS, go_sem, recoverD, hu, Try.ntmps35, Exit.thenS, hta]
  apply wpS_seq
  apply wpS_region
  simp [wpOpsS, go_sem, Exit.thenS]
  refine wpS_cond (t := false) (by simp [Act.eval, Array.replicate]) ?_
  simp only [Bool.false_eq_true, if_false]
  refine wpS_of_wp (wp_skip ?_)
  have hx : Ext w (w.alloc (Obj.cells #[] 86)) := (by repeat' (first | (with_reducible exact Ext.refl _) | (with_reducible assumption) | (with_reducible refine Ext.drewN ?_ _) | (with_reducible refine Ext.drew ?_) | (with_reducible refine Ext.alloc ?_ _) | (with_reducible refine Ext.trans ?_ (by with_reducible assumption))))
  cases c₀
  simp_all [bodyPostS, results, Try.results35]

/-- what the search comes to -/
def BestRes (t : List WishD) : Option (List Int × Int) → Prop
  | some r => ∃ b, foldFound none (growL t b t [] 0 0).opens = some r
  | none => ∃ b, (growL t b t [] 0 0).opens = [] ∧ (growL t b t [] 0 0).ests = []
def BestOut (t : List WishD) (w : World) (e : Ending) (w' : World) : Prop :=
  ∃ pv cv er, e = .returned (.tuple #[.agg #[pv, .int .i64 er.1], cv, .int .i64 er.2]) ∧ Ext w w' ∧
    ((validT t ≠ 0 ∧ pv = .slice none 0 0 ∧ cv = .slice none 0 0 ∧ er = (0, validT t)) ∨
     (validT t = 0 ∧ BestRes t none ∧ pv = .slice none 0 0 ∧ cv = .slice none 0 0 ∧ er = (0, 4)) ∨
     (validT t = 0 ∧ ∃ p h, BestRes t (some (p, h)) ∧ Ints w' pv p ∧ Nodes w' cv (growL t h t [] 0 0).nodes ∧ er = (h, 0)))

/-- the boxes of Best's frame -/
def BX (w W : World) (tv pv hv cv er : Value) : Prop :=
  Ext w W ∧ Blk W w.heap.size 26 #[tv] ∧ Blk W (w.heap.size + 1) 30 #[pv, hv] ∧ Blk W (w.heap.size + 1 + 1) 31 #[cv] ∧ Blk W (w.heap.size + 1 + 1 + 1) 32 #[er]
section
variable {w W W' : World} {tv pv hv cv er : Value}
theorem BX.toExt (h : BX w W tv pv hv cv er) (e : Ext W W') : BX w W' tv pv hv cv er := by
  have k : Keep (fun _ => False) W W' := Keep.of_ext e
  obtain ⟨h1, h2, h3, h4, h5⟩ := h
  exact ⟨h1.trans e, k.blk h2 id, k.blk h3 id, k.blk h4 id, k.blk h5 id⟩
theorem BX.start (w : World) (tv pv hv cv er : Value) : BX w ((((w.alloc (.cells #[tv] 26)).alloc (.cells #[pv, hv] 30)).alloc (.cells #[cv] 31)).alloc (.cells #[er] 32)) tv pv hv cv er := by
  refine ⟨by exact (by repeat' (first | (with_reducible exact Ext.refl _) | (with_reducible assumption) | (with_reducible refine Ext.drewN ?_ _) | (with_reducible refine Ext.drew ?_) | (with_reducible refine Ext.alloc ?_ _) | (with_reducible refine Ext.trans ?_ (by with_reducible assumption)))), ?_, ?_, ?_, ?_⟩
  · exact (((blk_new' rfl rfl).alloc _).alloc _).alloc _
  · exact ((blk_new' (by simp only [World.size_alloc]) rfl).alloc _).alloc _
  · exact (blk_new' (by simp only [World.size_alloc]) rfl).alloc _
  · exact blk_new' (by simp only [World.size_alloc]) rfl
theorem BX.set_ (h : BX w W tv pv hv cv er) (pv' hv' cv' er' : Value) :
    BX w ((((W.setCell ⟨w.heap.size + 1, 0, none⟩ pv').setCell ⟨w.heap.size + 1, 1, none⟩ hv').setCell ⟨w.heap.size + 1 + 1, 0, none⟩ cv').setCell ⟨w.heap.size + 1 + 1 + 1, 0, none⟩ er') tv pv' hv' cv' er' := by
  obtain ⟨h1, h2, h3, h4, h5⟩ := h
  refine ⟨?_, ?_, ?_, ?_, ?_⟩
  · exact (((h1.setCell (by dsimp only; omega) _).setCell (by dsimp only; omega) _).setCell (by dsimp only; omega) _).setCell (by dsimp only; omega) _
  · exact (((h2.far (by dsimp only; omega) _).far (by dsimp only; omega) _).far (by dsimp only; omega) _).far (by dsimp only; omega) _
  · exact (((h3.set_ 0 _).set_ 1 _).far (by dsimp only; omega) _).far (by dsimp only; omega) _
  · exact (((h4.far (by dsimp only; omega) _).far (by dsimp only; omega) _).set_ 0 _).far (by dsimp only; omega) _
  · exact (((h5.far (by dsimp only; omega) _).far (by dsimp only; omega) _).far (by dsimp only; omega) _).set_ 0 _
end
theorem leaves_end {w W : World} {tv pv cv : Value} {hv er : Int} {R : Ending → World → Prop} (hb : BX w W tv pv (.int .i64 hv) cv (.int .i64 er)) (tmps : Array Value)
    (h2 : tmps.getD 2 undef = .pointer (some ⟨w.heap.size + 1, 0, none⟩)) (h3 : tmps.getD 3 undef = .pointer (some ⟨w.heap.size + 1 + 1, 0, none⟩)) (h4 : tmps.getD 4 undef = .pointer (some ⟨w.heap.size + 1 + 1 + 1, 0, none⟩))
    (h : R (.returned (.tuple #[.agg #[pv, .int .i64 hv], cv, .int .i64 er])) W) : Leaves Try.prog Try.f14 tmps R [] .returning W := by
  obtain ⟨_, _, b2, b3, b4⟩ := hb
  have c1 := b2.cell 0
  have c2 := b2.cell 1
  have c3 := b3.cell 0
  have c4 := b4.cell 0
  simp only [List.getElem?_toArray, List.getElem?_cons_zero, List.getElem?_cons_succ] at c1 c2 c3 c4
  refine ⟨_, ?_, h⟩
  simp only [Array.getD_eq_getD_getElem?] at h2 h3 h4
  simp [results, Try.results14, go_sem, h2, h3, h4, c1, c2, c3, c4]

set_option maxHeartbeats 1600000 in
set_option maxRecDepth 100000 in
theorem best_invalid (tv : Value) (t : List WishD) (w : World) (h : Wishes w tv t) (hv : validT t ≠ 0) : Calls Try.prog 14 #[.agg #[tv]] w (BestOut t w) := by
  have hh := Lib.hid h
  have hvv := Lib.hid hv
  obtain ⟨ta, tc, rfl⟩ := h.form
  have hnb : (validT t == 0) = false := by simpa using hv
  obtain ⟨vt, hvt⟩ : ∃ vt, Hid (validT t = vt) := ⟨_, rfl⟩
  rw [hvt.out] at hnb
  clear h hv
  go_enter_defers Try.func14, Try.ntmps14
  go_wp2_with fail
  refine (valid_calls _ t _ (hh.out.ext (by exact (by repeat' (first | (with_reducible exact Ext.refl _) | (with_reducible assumption) | (with_reducible refine Ext.drewN ?_ _) | (with_reducible refine Ext.drew ?_) | (with_reducible refine Ext.alloc ?_ _) | (with_reducible refine Ext.trans ?_ (by with_reducible assumption))))))).mono ?_
  rintro e w1 ⟨rfl, hx1⟩
  have hb := Lib.hid ((BX.start w (.slice ta t.length tc) (.slice none 0 0) (.int .i64 0) (.slice none 0 0) (.int .i64 0)).toExt hx1)
  have b1 := hb.out.2.2.1.cell 0
  have b2 := hb.out.2.2.1.cell 1
  have b3 := hb.out.2.2.2.1.cell 0
  have b4 := hb.out.2.2.2.2.cell 0
  have f1 := hb.out.2.2.1.frozen 0
  have f2 := hb.out.2.2.1.frozen 1
  have f3 := hb.out.2.2.2.1.frozen 0
  have f4 := hb.out.2.2.2.2.frozen 0
  simp only [List.getElem?_toArray, List.getElem?_cons_zero, List.getElem?_cons_succ] at b1 b2 b3 b4
  clear hx1
  rw [hvt.out]
  go_wp2
  have hbs := hb.out.set_ (.slice none 0 0) (.int .i64 0) (.slice none 0 0) (.int .i64 vt)
  refine leaves_end hbs _ rfl rfl rfl ?_
  exact ⟨_, _, (0, vt), rfl, hbs.1, Or.inl ⟨hvv.out, rfl, rfl, by rw [hvt.out]⟩⟩
end Go.Proofs.Ytonmlmkemliefaa
