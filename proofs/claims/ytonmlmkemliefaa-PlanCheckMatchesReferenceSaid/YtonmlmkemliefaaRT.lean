/- The memory of the reference's tree. -/
import Derived.Test.YtonmlmkemliefaaRS
namespace Go.Proofs.Ytonmlmkemliefaa
open Go.RowKit

def TS (S : Nat) (nv : Value) : Nat → Prop := fun k => k = S ∨ nv.ownBlock = some k
structure Tr (Z : Nat → Prop) (w0 w : World) (S : Nat) (tv : Value) (B O : Int) (nv : Value) (nodes : List NodeD) : Prop where
  ext : Ext w0 w
  bS : w0.heap.size ≤ S
  blk : Blk w S 40 #[tv, .int .i64 B, nv, .int .i64 O]
  o0 : 0 ≤ O
  o1 : O ≤ nodes.length
  owns : ∃ xs, w.ownsRow w0.heap.size 49 4 nv nodes.length xs ∧ NodesC w w0.heap.size Z nodes xs
section
variable {w0 w w' : World} {S : Nat} {tv nv kv : Value} {B O : Int} {nodes : List NodeD} {X Z Z' : Nat → Prop} {xs : List Value} {kids : List Int}
theorem Tr.toExt (h : Tr Z w0 w S tv B O nv nodes) (e : Ext w w') : Tr Z w0 w' S tv B O nv nodes := by
  have k : Keep (fun _ => False) w w' := Keep.of_ext e
  obtain ⟨xs, o1, o2⟩ := h.owns
  exact ⟨h.ext.trans e, h.bS, k.blk h.blk id, h.o0, h.o1, ⟨xs, k.owns o1 (fun _ _ => id), o2.keep k no_x⟩⟩
theorem Tr.less (h : Tr Z w0 w S tv B O nv nodes) (hz : ∀ g, Z' g → Z g) : Tr Z' w0 w S tv B O nv nodes := by
  obtain ⟨xs, o1, o2⟩ := h.owns
  exact ⟨h.ext, h.bS, h.blk, h.o0, h.o1, ⟨xs, o1, o2.less hz⟩⟩
theorem Tr.more (h : Tr Z w0 w S tv B O nv nodes) (hz : ∀ g, g < w.heap.size → Z' g → Z g) : Tr Z' w0 w S tv B O nv nodes := by
  obtain ⟨xs, o1, o2⟩ := h.owns
  exact ⟨h.ext, h.bS, h.blk, h.o0, h.o1, ⟨xs, o1, o2.more hz⟩⟩
theorem Tr.far (h : Tr Z w0 w S tv B O nv nodes) (Z' : Nat → Prop) : IntFar w Z' (TS S nv) := by
  intro g hg
  rcases hg with rfl | hg
  · exact Or.inr fun cs hc => by have := blk_type hc h.blk; revert this; decide
  · obtain ⟨xs, o1, _⟩ := h.owns
    obtain ⟨cs', hc'⟩ := owns_block o1 hg
    exact Or.inr fun cs hc => by have := blk_type hc hc'; revert this; decide
theorem Tr.old (h : Tr Z w0 w S tv B O nv nodes) : ∀ i, i < w0.heap.size → ¬ TS S nv i := by
  rintro i hi (rfl | hg)
  · have := h.bS; omega
  · obtain ⟨xs, o1, _⟩ := h.owns
    have := (o1.lt i hg).1; omega
theorem Tr.nv_ne (h : Tr Z w0 w S tv B O nv nodes) : nv.ownBlock ≠ some S := by
  obtain ⟨xs, o1, _⟩ := h.owns
  exact own_blk_ne o1 h.blk (by decide)
/-- rows of integers are left alone -/
theorem Tr.ints (h : Tr Z w0 w S tv B O nv nodes) (k : Keep (TS S nv) w w') {b : Nat} {v : Value} {l : List Int} (hl : IntsO w b v l) : IntsO w' b v l :=
  (KidsOk.keep (Z := fun _ => False) ⟨hl, fun _ _ => id⟩ k (h.far _)).1
theorem Tr.row (h : Tr Z w0 w S tv B O nv nodes) (k : Keep X w w') (hX : ∀ g, X g → Z g ∧ w0.heap.size ≤ g ∧ ∃ cs, Blk w g 3 cs) : Tr Z w0 w' S tv B O nv nodes := by
  obtain ⟨xs, o1, o2⟩ := h.owns
  refine ⟨h.ext.keep k (fun i hi hx => by have := (hX i hx).2.1; omega), h.bS, k.blk h.blk (fun hx => by obtain ⟨cs, hc⟩ := (hX S hx).2.2; have := blk_type hc h.blk; revert this; decide), h.o0, h.o1, ⟨xs, k.owns o1 (fun g hg hx => ?_), o2.keep k (fun g hx => Or.inl (hX g hx).1)⟩⟩
  obtain ⟨cs, hc⟩ := (hX g hx).2.2
  obtain ⟨cs', hc'⟩ := owns_block o1 hg
  have := blk_type hc hc'; revert this; decide
/-- a leaf has been added -/
theorem Tr.added (h : Tr Z w0 w S tv B O nv nodes) {n : NodeD} {nv' : Value} (hn : n.kids = []) (hb : Blk w' S 40 #[tv, .int .i64 B, nv', .int .i64 O])
    (o2 : NodesC w w0.heap.size Z nodes xs) (ho : w'.ownsRow w0.heap.size 49 4 nv' (nodes.length + 1) (xs ++ [.int .i64 n.wish, .slice none 0 0, .int .i64 n.clA, .int .i64 n.clB])) (k : Keep (TS S nv) w w') :
    Tr Z w0 w' S tv B O nv' (nodes ++ [n]) := by
  have hk : KidsOk w' w0.heap.size Z (.slice none 0 0) n.kids := by rw [hn]; exact ⟨World.ownsRow_nil _ _ _ _, by simp [Value.ownBlock]⟩
  refine ⟨h.ext.keep k h.old, h.bS, hb, h.o0, by have := h.o1; simp; omega, ⟨_, ?_, (o2.keep k (h.far _)).snoc hk⟩⟩
  rw [List.length_append]; exact ho
theorem Tr.setO (h : Tr Z w0 w S tv B O nv nodes) {O' : Int} (h0 : 0 ≤ O') (h1 : O' ≤ nodes.length) : Tr Z w0 (w.setCell ⟨S, 3, none⟩ (.int .i64 O')) S tv B O' nv nodes := by
  have k := keep_set w S 3 (.int .i64 O')
  obtain ⟨xs, o1, o2⟩ := h.owns
  have hX : ∀ g, g = S → TS S nv g := fun g e => Or.inl e
  exact ⟨h.ext.keep k (fun i hi e => h.old i hi (Or.inl e)), h.bS, h.blk.set_ 3 _, h0, h1, ⟨xs, k.owns o1 (fun g hg e => h.nv_ne (by rw [hg, e])), o2.keep k (fun g e => h.far _ g (Or.inl e))⟩⟩
theorem NodesC.at4 : ∀ {nodes : List NodeD} {xs : List Value} {i : Nat} {n : NodeD}, NodesC w' S Z nodes xs → nodes[i]? = some n →
    ∃ kv, xs[i * 4]? = some (.int .i64 n.wish) ∧ xs[i * 4 + 1]? = some kv ∧ xs[i * 4 + 2]? = some (.int .i64 n.clA) ∧ xs[i * 4 + 3]? = some (.int .i64 n.clB)
  | [], _, i, n, _, hn => by simp at hn
  | m :: ns, _, 0, n, ⟨kv', r, e, h1, h2⟩, hn => by
    simp at hn; subst hn
    exact ⟨kv', by rw [e]; rfl, by rw [e]; rfl, by rw [e]; rfl, by rw [e]; rfl⟩
  | m :: ns, _, i + 1, n, ⟨kv', r, e, h1, h2⟩, hn => by
    obtain ⟨kv, a, b, c, d⟩ := NodesC.at4 (i := i) h2 (by simpa using hn)
    refine ⟨kv, ?_, ?_, ?_, ?_⟩ <;> rw [e]
    · rw [show (i + 1) * 4 = i * 4 + 1 + 1 + 1 + 1 by omega]; exact a
    · rw [show (i + 1) * 4 + 1 = i * 4 + 1 + 1 + 1 + 1 + 1 by omega]; exact b
    · rw [show (i + 1) * 4 + 2 = i * 4 + 2 + 1 + 1 + 1 + 1 by omega]; exact c
    · rw [show (i + 1) * 4 + 3 = i * 4 + 3 + 1 + 1 + 1 + 1 by omega]; exact d
theorem NodesC.set4 {b : Nat} {m : NodeD} (hk : KidsOk w b Z kv m.kids) : ∀ {nodes : List NodeD} {xs : List Value} (i : Nat), NodesC w b Z nodes xs → i < nodes.length →
    NodesC w b Z (nodes.set i m) ((((xs.set (i * 4) (.int .i64 m.wish)).set (i * 4 + 1) kv).set (i * 4 + 2) (.int .i64 m.clA)).set (i * 4 + 3) (.int .i64 m.clB))
  | [], _, i, _, hn => by simp at hn
  | _ :: ns, _, 0, ⟨kv', r, e, h1, h2⟩, hn => ⟨kv, r, by rw [e]; rfl, hk, h2⟩
  | n :: ns, _, i + 1, ⟨kv', r, e, h1, h2⟩, hn => by
    refine ⟨kv', _, ?_, h1, NodesC.set4 hk i h2 (by simpa using hn)⟩
    rw [e, show (i + 1) * 4 = i * 4 + 1 + 1 + 1 + 1 by omega, show i * 4 + 1 + 1 + 1 + 1 + 1 = (i * 4 + 1) + 1 + 1 + 1 + 1 by omega, show i * 4 + 1 + 1 + 1 + 1 + 2 = (i * 4 + 2) + 1 + 1 + 1 + 1 by omega, show i * 4 + 1 + 1 + 1 + 1 + 3 = (i * 4 + 3) + 1 + 1 + 1 + 1 by omega]
    rfl
/-- node i is written anew -/
theorem Tr.setNode (h : Tr Z w0 w S tv B O nv nodes) {i : Nat} {n m : NodeD} (hn : nodes[i]? = some n) (hk : KidsOk w w0.heap.size Z kv m.kids) :
    ∃ g c k0, nv = .slice (some ⟨g, 0, none⟩) nodes.length c ∧ w0.heap.size ≤ g ∧ (∀ j, w.frozen? ⟨g, j, none⟩ = false) ∧ w.cell? ⟨g, i * 4, none⟩ = some (.int .i64 n.wish) ∧ w.cell? ⟨g, i * 4 + 1, none⟩ = some k0 ∧ w.cell? ⟨g, i * 4 + 2, none⟩ = some (.int .i64 n.clA) ∧ w.cell? ⟨g, i * 4 + 3, none⟩ = some (.int .i64 n.clB) ∧
      Tr Z w0 ((((w.setCell ⟨g, i * 4, none⟩ (.int .i64 m.wish)).setCell ⟨g, i * 4 + 1, none⟩ kv).setCell ⟨g, i * 4 + 2, none⟩ (.int .i64 m.clA)).setCell ⟨g, i * 4 + 3, none⟩ (.int .i64 m.clB)) S tv B O nv (nodes.set i m) ∧
      Keep (TS S nv) w ((((w.setCell ⟨g, i * 4, none⟩ (.int .i64 m.wish)).setCell ⟨g, i * 4 + 1, none⟩ kv).setCell ⟨g, i * 4 + 2, none⟩ (.int .i64 m.clA)).setCell ⟨g, i * 4 + 3, none⟩ (.int .i64 m.clB)) := by
  obtain ⟨xs, o1, o2⟩ := h.owns
  have hi : i < nodes.length := (List.getElem?_eq_some_iff.1 hn).1
  obtain ⟨g, c, rfl⟩ := owns_pos o1 (by omega)
  obtain ⟨k0, a0, a1, a2, a3⟩ := o2.at4 hn
  have hfar := h.far Z
  have k : Keep (fun k => k = g) w ((((w.setCell ⟨g, i * 4, none⟩ (.int .i64 m.wish)).setCell ⟨g, i * 4 + 1, none⟩ kv).setCell ⟨g, i * 4 + 2, none⟩ (.int .i64 m.clA)).setCell ⟨g, i * 4 + 3, none⟩ (.int .i64 m.clB)) :=
    Keep.setCell (X := fun k => k = g) (p := ⟨g, _, none⟩) (Keep.setCell (X := fun k => k = g) (p := ⟨g, _, none⟩) (Keep.setCell (X := fun k => k = g) (p := ⟨g, _, none⟩) (Keep.setCell (X := fun k => k = g) (p := ⟨g, _, none⟩) (Keep.refl _ w) (Or.inl rfl) _) (Or.inl rfl) _) (Or.inl rfl) _) (Or.inl rfl) _
  have hX : ∀ j, j = g → TS S (.slice (some ⟨g, 0, none⟩) nodes.length c) j := fun j e => Or.inr (by simp [Value.ownBlock, e])
  have hg := (o1.lt g rfl).1
  refine ⟨g, c, k0, rfl, hg, fun j => o1.frozenAt j, ?_, ?_, ?_, ?_, ⟨h.ext.keep k (by rintro j hj rfl; omega), h.bS, k.blk h.blk (fun e => h.nv_ne (by simp [Value.ownBlock, e])), h.o0, by rw [List.length_set]; exact h.o1, ⟨_, ?_, NodesC.set4 (hk.keep k (fun j e => hfar j (hX j e))) i (o2.keep k (fun j e => hfar j (hX j e))) hi⟩⟩, k.mono (fun j _ e => hX j e)⟩
  · rw [o1.cellAt _ (by omega)]; exact a0
  · rw [o1.cellAt _ (by omega)]; exact a1
  · rw [o1.cellAt _ (by omega)]; exact a2
  · rw [o1.cellAt _ (by omega)]; exact a3
  · rw [List.length_set]
    exact (((((o1.stored _ _).1).stored _ _).1.stored _ _).1.stored _ _).1
end
end Go.Proofs.Ytonmlmkemliefaa
