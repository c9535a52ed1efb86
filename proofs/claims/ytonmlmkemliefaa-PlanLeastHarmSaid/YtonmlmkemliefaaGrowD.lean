/- Walks of the search: grow, where the node decides a wish: what a round of its loop does, in plain terms. -/
import Derived.Test.YtonmlmkemliefaaGrowC
namespace Go.Proofs.Ytonmlmkemliefaa
open Go.RowKit

theorem keep_chain {w w1 w2 : World} {S Pk : Nat} {a b : Value} (h : Keep (SX S Pk a) w w1) (hb : b.ownBlock = a.ownBlock ∨ ∃ g, b.ownBlock = some g ∧ w.heap.size ≤ g) (k : Keep (SX S Pk b) w1 w2) : Keep (SX S Pk a) w w2 := by
  refine h.trans' k fun i hi hx => ?_
  rcases hx with hx | hx | hx
  · exact Or.inl hx
  · exact Or.inr (Or.inl hx)
  · rcases hb with hb | ⟨g, hg, hge⟩
    · exact Or.inr (Or.inr (hb ▸ hx))
    · rw [hg] at hx; cases hx; omega
theorem nvs_chain {w w1 : World} {a b c : Value} (hw : w.heap.size ≤ w1.heap.size) (h : b.ownBlock = a.ownBlock ∨ ∃ g, b.ownBlock = some g ∧ w.heap.size ≤ g) (h' : c.ownBlock = b.ownBlock ∨ ∃ g, c.ownBlock = some g ∧ w1.heap.size ≤ g) :
    c.ownBlock = a.ownBlock ∨ ∃ g, c.ownBlock = some g ∧ w.heap.size ≤ g := by
  rcases h' with h' | ⟨g, hg, hge⟩
  · rw [h']; exact h
  · exact Or.inr ⟨g, hg, by omega⟩
theorem foldFound_append (f : Option (List Int × Int)) (a b : List (List Int × Int)) : foldFound f (a ++ b) = foldFound (foldFound f a) b := by simp [foldFound, List.foldl_append]
theorem foldOver_append (o : Int) (a b : List Int) : foldOver o (a ++ b) = foldOver (foldOver o a) b := by simp [foldOver, List.foldl_append]

def ZK (Z : Nat → Prop) (kv : Value) : Nat → Prop := fun g => Z g ∨ kv.ownBlock = some g
/-- the state of the loop over the options: the children K have been grown -/
structure Round (Z : Nat → Prop) (w0 w1 wr : World) (S Pk Rb : Nat) (tv nv1 nv fv : Value) (t : List WishD) (bound : Int) (rest pick : List Int) (nodes : List NodeD) (found : Option (List Int × Int)) (over : Int) (pre : List Int) (kv : Value) (K : KRes) : Prop where
  srch : Srch (ZK Z kv) w0 wr S Pk Rb tv nv fv t bound rest pick (nodes ++ K.nodes) (foldFound found K.opens) (foldOver over K.ests)
  plen : pick.length = t.length
  preIs : pick.take pre.length = pre
  keep : Keep (SX S Pk nv1) w1 wr
  nvs : nv.ownBlock = nv1.ownBlock ∨ ∃ g, nv.ownBlock = some g ∧ w1.heap.size ≤ g
  row : wr.ownsRow w1.heap.size 3 1 kv K.kids.length (K.kids.map (Value.int .i64))

section
variable {Z : Nat → Prop} {w0 w w1 wr w3 w4 : World} {S Pk Rb : Nat} {tv nv0 nv1 nv fv nv' fv' kv v' : Value} {t : List WishD} {bound over0 over harm idx : Int} {rest pick0 pick pick' : List Int} {nodes0 nodes : List NodeD}
  {found0 found : Option (List Int × Int)} {pre : List Int} {K : KRes} {x : WishD} {o : OptD} {k : Nat} {F0 : Value}

/-- before the call of itself -/
theorem Round.call (R : Round Z w0 w1 wr S Pk Rb tv nv1 nv fv t bound rest pick nodes found over pre kv K)
    (H : GrowIn Z w0 w S Pk Rb tv nv0 F0 t bound rest pick0 nodes0 found0 over0 pre harm) (hx : t[pre.length]? = some x) (ho : x.opts[k]? = some o) (hw : w.heap.size ≤ w1.heap.size)
    (hroom : (nodes ++ K.nodes).length + treeMax (t.drop (pre.length + 1)) ≤ 65536) (O : Obj) :
    GrowIn (ZK Z kv) w0 ((wr.setCell ⟨Pk, pre.length, none⟩ (.int .i64 k)).alloc O) S Pk Rb tv nv fv t bound rest (pick.set pre.length k) (nodes ++ K.nodes) (foldFound found K.opens) (foldOver over K.ests) (pre ++ [(k : Int)]) (harm + o.harm) := by
  have hlt : pre.length < t.length := (List.getElem?_eq_some_iff.1 hx).1
  have hh := H.harms x (List.mem_of_getElem? hx) o (List.mem_of_getElem? ho)
  refine ⟨?_, (R.srch.setPick pre.length k).toExt ((Ext.refl _).alloc _), H.task, H.few, H.harms, H.restAt, H.restL, by rw [List.length_set]; exact R.plen, ?_, by simp; omega, ?_, by have := H.h0; omega, ?_, by simpa using hroom⟩
  · intro g hg
    simp only [World.size_alloc, World.size_setCell]
    rcases hg with hg | hg
    · have := H.zlt g hg; have := R.keep.size; omega
    · have := (R.row.lt g hg).2; omega
  · rw [List.length_append, List.length_singleton, List.take_add_one]
    rw [List.take_set_of_le (Nat.le_refl _), R.preIs]
    simp [R.plen, hlt]
  · intro j hj
    simp only [List.length_append, List.length_singleton] at hj
    by_cases e : j = pre.length
    · subst e
      have hk : k < x.opts.length := (List.getElem?_eq_some_iff.1 ho).1
      simp [optOf, hx, hk]
    · have := H.opts j (by omega)
      have e2 : optOf t (pre ++ [(k : Int)]) j = optOf t pre j := by simp only [optOf]; rw [List.getElem?_append_left (by omega)]
      rw [e2]; exact this
  · have := H.h1
    simp only [List.length_append, List.length_singleton]
    omega

/-- the children's row behind the call of itself -/
theorem Round.row3 (R : Round Z w0 w1 wr S Pk Rb tv nv1 nv fv t bound rest pick nodes found over pre kv K) (hP : Pk < w1.heap.size) (d : Nat) (u : Value) (O : Obj) {X : Nat → Prop}
    (k3 : Keep X ((wr.setCell ⟨Pk, d, none⟩ u).alloc O) w3) (hX : X = SX S Pk nv) : w3.ownsRow w1.heap.size 3 1 kv K.kids.length (K.kids.map (Value.int .i64)) := by
  subst hX
  have k1 : Keep (fun g => g = Pk) wr ((wr.setCell ⟨Pk, d, none⟩ u).alloc O) := (keep_set wr Pk d u).alloc O
  have hne : ∀ g, kv.ownBlock = some g → ¬ g = Pk := fun g hg e => by have := (R.row.lt g hg).1; omega
  refine k3.owns (k1.owns R.row hne) fun g hg hx => ?_
  obtain ⟨cs, hc⟩ := owns_block R.row hg
  rcases SX_int R.srch g hx with h | h
  · rcases hx with hx | hx | hx
    · have := blk_type (hx ▸ hc) R.srch.blk; revert this; decide
    · exact hne g hg hx
    · obtain ⟨xs, o1, _⟩ := R.srch.owns
      obtain ⟨cs', hc'⟩ := owns_block o1 hx
      have := blk_type hc hc'; revert this; decide
  · exact h cs hc

/-- behind the append -/
theorem Round.next (R : Round Z w0 w1 wr S Pk Rb tv nv1 nv fv t bound rest pick nodes found over pre kv K) (hP : Pk < w1.heap.size) (hR : Rb < w1.heap.size) (hw0 : w0.heap.size ≤ w1.heap.size) (d : Nat) (u : Value) (O O' : Obj)
    {R' : Res} {K' : KRes} (hK : K' = ⟨K.nodes ++ R'.nodes, K.kids ++ [idx], K.opens ++ R'.opens, K.ests ++ R'.ests⟩)
    (hs : Srch (ZK Z kv) w0 w3 S Pk Rb tv nv' fv' t bound rest pick' (nodes ++ K.nodes ++ R'.nodes) (foldFound (foldFound found K.opens) R'.opens) (foldOver (foldOver over K.ests) R'.ests))
    (hpl : pick'.length = (pick.set d (k : Int)).length) (hpre : pick'.take (pre ++ [(k : Int)]).length = pre ++ [(k : Int)])
    (k3 : Keep (SX S Pk nv) ((wr.setCell ⟨Pk, d, none⟩ u).alloc O) w3) (hnv : nv'.ownBlock = nv.ownBlock ∨ ∃ g, nv'.ownBlock = some g ∧ ((wr.setCell ⟨Pk, d, none⟩ u).alloc O).heap.size ≤ g)
    (hown : w4.ownsRow w1.heap.size 3 1 v' (K.kids.length + 1) (K.kids.map (Value.int .i64) ++ [.int .i64 idx])) (hg : (w3.alloc O').grownBy w4 kv.ownBlock)
    (hat : v'.ownBlock = kv.ownBlock ∨ v'.ownBlock = some (w3.alloc O').heap.size) :
    Round Z w0 w1 w4 S Pk Rb tv nv1 nv' fv' t bound rest pick' nodes found over pre v' K' := by
  have hr3 := R.row3 hP d u O k3 rfl
  have hs4 : Srch (ZK Z kv) w0 (w3.alloc O') S Pk Rb tv nv' fv' t bound rest pick' (nodes ++ K.nodes ++ R'.nodes) (foldFound (foldFound found K.opens) R'.opens) (foldOver (foldOver over K.ests) R'.ests) := hs.toExt ((Ext.refl _).alloc _)
  have hbase : ∀ g, kv.ownBlock = some g → w1.heap.size ≤ g := fun g hg => (hr3.lt g hg).1
  have kk : Keep (fun g => kv.ownBlock = some g) (w3.alloc O') w4 := Keep.grown (X := fun g => kv.ownBlock = some g) (Keep.refl _ _) hg (fun g h => Or.inl h)
  have hsz1 : w1.heap.size ≤ w3.heap.size := by
    have := R.keep.size; have := k3.size; simp only [World.size_alloc, World.size_setCell] at this; omega
  have hs5 : Srch (fun g => ZK Z kv g ∨ v'.ownBlock = some g) w0 w4 S Pk Rb tv nv' fv' t bound rest pick' (nodes ++ K.nodes ++ R'.nodes) (foldFound (foldFound found K.opens) R'.opens) (foldOver (foldOver over K.ests) R'.ests) := by
    refine Srch.row (X := fun g => kv.ownBlock = some g) (hs4.more (Z' := fun g => ZK Z kv g ∨ v'.ownBlock = some g) ?_ (fun g h => Or.inl h)) kk ?_
    · intro g hgl h
      rcases h with h | h
      · exact h
      · rcases hat with e | e
        · rw [e] at h; exact Or.inr h
        · rw [e] at h; cases h; omega
    · intro g hkg
      refine ⟨Or.inl (Or.inr hkg), ?_, ?_, ?_, ?_⟩
      · rintro rfl; have := hbase _ hkg; omega
      · rintro rfl; have := hbase _ hkg; omega
      · have := hbase _ hkg; omega
      · obtain ⟨cs, hc⟩ := owns_block hr3 hkg
        exact ⟨cs, hc.alloc _⟩
  subst hK
  refine ⟨?_, hpl.trans (by rw [List.length_set]; exact R.plen), ?_, ?_, ?_, ?_⟩
  · simp only [foldFound_append, foldOver_append, ← List.append_assoc]
    refine hs5.less (fun g h => ?_) (Or.inl ?_) (Or.inl ?_)
    · rcases h with h | h
      · exact Or.inl (Or.inl h)
      · exact Or.inr h
    · rcases R.srch.zP with h | h
      · exact h
      · have := hbase _ h; omega
    · rcases R.srch.zR with h | h
      · exact h
      · have := hbase _ h; omega
  · have e := congrArg (List.take pre.length) hpre
    rw [List.take_take, List.length_append, List.length_singleton, Nat.min_eq_left (by omega), List.take_left' rfl] at e
    exact e
  · have k1 : Keep (SX S Pk nv1) w1 ((wr.setCell ⟨Pk, d, none⟩ u).alloc O) := (Keep.setCell (p := ⟨Pk, d, none⟩) R.keep (Or.inl (Or.inr (Or.inl rfl))) u).alloc O
    have k2 := (keep_chain k1 R.nvs k3).alloc O'
    exact k2.grown hg (fun g h => Or.inr (hbase g h))
  · exact nvs_chain (w := w1) (w1 := (wr.setCell ⟨Pk, d, none⟩ u).alloc O) (by have := R.keep.size; simp only [World.size_alloc, World.size_setCell]; omega) R.nvs hnv
  · simpa using hown
end

end Go.Proofs.Ytonmlmkemliefaa
