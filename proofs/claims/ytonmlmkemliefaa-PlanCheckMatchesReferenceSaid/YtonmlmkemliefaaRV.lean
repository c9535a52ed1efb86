/- Walks of the reference of plans: Grow, whole; Standard. -/
import Derived.Test.YtonmlmkemliefaaRU
namespace Go.Proofs.Ytonmlmkemliefaa
open Go.RowKit

theorem rGrow_calls (w0 : World) (S : Nat) (ta : Option Addr) (tc : Nat) (B : Int) (t : List WishD) : ∀ (n : Nat) (Z : Nat → Prop) (w : World) (O : Int) (nv pv : Value) (nodes : List NodeD) (pre : List Int) (harm : Int), t.length - pre.length = n →
    GIn Z w0 w S ta tc B O nv pv t nodes pre harm →
    Calls Try.prog 40 #[.pointer (some ⟨S, 0, none⟩), pv, .int .i64 harm] w (GOut Z w0 w S (.slice ta t.length tc) B nv nodes (growN t B (t.drop pre.length) pre harm nodes.length))
  | 0, Z, w, O, nv, pv, nodes, pre, harm, hn, H => by
    refine rGrow_step Z w0 w S ta tc B O nv pv t nodes pre harm H ?_
    intro x hx
    have := (List.getElem?_eq_some_iff.1 hx).1
    omega
  | n + 1, Z, w, O, nv, pv, nodes, pre, harm, hn, H => by
    refine rGrow_step Z w0 w S ta tc B O nv pv t nodes pre harm H ?_
    intro x hx Z' w' O' nv' pv' nodes' i o ho H'
    have hlt := (List.getElem?_eq_some_iff.1 hx).1
    have := rGrow_calls w0 S ta tc B t n Z' w' O' nv' pv' nodes' (pre ++ [(i : Int)]) (harm + o.harm) (by simp; omega) H'
    rw [List.length_append, List.length_singleton] at this
    exact this
set_option maxHeartbeats 1600000 in
theorem rStandard_calls (wv : Value) (t : List WishD) (B : Int) (w : World) (h : Wishes w wv t) (hv : validT t = 0) (ho : ∀ x ∈ t, 0 < x.opts.length) (h512 : t.length ≤ 512) (hm : treeMax t ≤ 65536) :
    Calls Try.prog 18 #[.agg #[wv], .int .i64 B] w fun e w' => ∃ S nv O, e = .returned (.pointer (some ⟨S, 0, none⟩)) ∧ Ext w w' ∧ Blk w' S 40 #[wv, .int .i64 B, nv, .int .i64 O] ∧ Nodes w' nv (growN t B t [] 0 0) := by
  have hT := Lib.hid h
  obtain ⟨ta, tc, rfl⟩ := h.form
  have hv' := Lib.hid hv
  have ho' := Lib.hid ho
  clear h hv ho
  go_enter Try.func18, Try.ntmps18
  go_wp2_with fail
  have hg : Hid (GIn (fun _ => False) w ((w.alloc (.cells #[.slice ta t.length tc] 26)).alloc (.cells #[.slice ta t.length tc, .int .i64 B, .slice none 0 0, .int .i64 0] 40)) (w.heap.size + 1) ta tc B 0 (.slice none 0 0) (.slice none 0 0) t [] [] 0) := Lib.hid
    ⟨fun _ h => h.elim, ⟨by exact (by repeat' (first | (with_reducible exact Ext.refl _) | (with_reducible assumption) | (with_reducible refine Ext.drewN ?_ _) | (with_reducible refine Ext.drew ?_) | (with_reducible refine Ext.alloc ?_ _) | (with_reducible refine Ext.trans ?_ (by with_reducible assumption)))), by omega, blk_new' (by simp only [World.size_alloc]) rfl, by omega, by simp, ⟨[], World.ownsRow_nil _ _ _ _, rfl⟩⟩, hT.out, IntsO.nil _ _, hv'.out, ho'.out, harms_of hv'.out, by simp, h512, fun j hj => by simp at hj, by omega, by simp, by simpa using hm⟩
  have hc := Lib.hid (rGrow_calls w (w.heap.size + 1) ta tc B t t.length _ _ 0 (.slice none 0 0) (.slice none 0 0) [] [] 0 (by simp) hg.out)
  refine hc.out.mono ?_
  rintro e w2 ⟨nv2, O2, rfl, hT2, _, _⟩
  have hT2' := Lib.hid hT2
  clear hT2 hc hg
  go_wp2
  go_ret
  obtain ⟨xs, o1, o2⟩ := hT2'.out.owns
  exact ⟨_, nv2, O2, rfl, hT2'.out.ext, hT2'.out.blk, nodes_of o1 o2⟩
end Go.Proofs.Ytonmlmkemliefaa
