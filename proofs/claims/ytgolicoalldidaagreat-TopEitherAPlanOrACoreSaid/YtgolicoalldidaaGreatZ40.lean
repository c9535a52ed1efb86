import Derived.Test.YtgolicoalldidaaGreatZ36
set_option maxHeartbeats 12800000
namespace Go.Proofs.YtgolicoalldidaaGreat
open Go.RowKit
def NodesQ (w : World) (B : Nat) (Z : Nat → Prop) (O : Nat → Prop) : Nat → List NodeD → List Value → Prop
 | _, [], xs => xs = []
 | k, n :: ns, xs => ∃ kv r, xs = .int .i64 n.wish :: kv :: .int .i64 n.clA :: .int .i64 n.clB :: r ∧ (¬ O k → KidsOk w B Z kv n.kids) ∧ NodesQ w B Z O (k + 1) ns r
section
variable {w w' : World} {B : Nat} {Z Z' O O' X : Nat → Prop} {kv : Value} {kids : List Int}
theorem NodesQ.keep (k : Keep X w w') (hX : IntFar w Z X) : ∀ {j : Nat} {nodes : List NodeD} {xs : List Value}, NodesQ w B Z O j nodes xs → NodesQ w' B Z O j nodes xs
 | _, [], _, h => h
 | _, _ :: _, _, ⟨kv, r, e, h1, h2⟩ => ⟨kv, r, e, fun ho => (h1 ho).keep k hX, NodesQ.keep k hX h2⟩
theorem NodesQ.len : ∀ {j : Nat} {nodes : List NodeD} {xs : List Value}, NodesQ w B Z O j nodes xs → xs.length = nodes.length * 4
 | _, [], _, h => by cases h; rfl
 | _, _ :: _, _, ⟨kv', r, e, h1, h2⟩ => by rw [e]; have := NodesQ.len h2; simp; omega
theorem NodesQ.snoc {n : NodeD} : ∀ {j : Nat} {nodes : List NodeD} {xs : List Value}, NodesQ w B Z O j nodes xs → (¬ O (j + nodes.length) → KidsOk w B Z kv n.kids) →
  NodesQ w B Z O j (nodes ++ [n]) (xs ++ [.int .i64 n.wish, kv, .int .i64 n.clA, .int .i64 n.clB])
 | _, [], _, h, hk => by cases h; exact ⟨kv, [], rfl, hk, rfl⟩
 | j, _ :: ns, _, ⟨kv', r, e, h1, h2⟩, hk => ⟨kv', _, by rw [e]; rfl, h1, NodesQ.snoc h2 (by have e2 : j + 1 + ns.length = j + (ns.length + 1) := by omega
                                                                                             rw [e2]; exact hk)⟩
theorem NodesQ.at_ : ∀ {j : Nat} {nodes : List NodeD} {xs : List Value}, NodesQ w B Z O j nodes xs → ∀ i n, nodes[i]? = some n → ∃ kv, xs[i * 4]? = some (.int .i64 n.wish) ∧ xs[i * 4 + 1]? = some kv ∧ xs[i * 4 + 2]? = some (.int .i64 n.clA) ∧ xs[i * 4 + 3]? = some (.int .i64 n.clB) ∧ (¬ O (j + i) → KidsOk w B Z kv n.kids)
 | _, [], _, _, i, n, h => by simp at h
 | j, m :: ns, _, ⟨kv', r, e, h1, h2⟩, 0, n, h => by
  simp at h; subst h
  exact ⟨kv', by rw [e]; rfl, by rw [e]; rfl, by rw [e]; rfl, by rw [e]; rfl, h1⟩
 | j, m :: ns, _, ⟨kv', r, e, h1, h2⟩, i + 1, n, h => by
  obtain ⟨kv, a, b, c, d, k⟩ := NodesQ.at_ h2 i n (by simpa using h)
  have e4 : ∀ q, (i + 1) * 4 + q = (i * 4 + q) + 1 + 1 + 1 + 1 := fun q => by omega
  refine ⟨kv, ?_, ?_, ?_, ?_, ?_⟩
  ·rw [e, show (i + 1) * 4 = i * 4 + 1 + 1 + 1 + 1 by omega]; exact a
  ·rw [e, e4]; exact b
  ·rw [e, e4]; exact c
  ·rw [e, e4]; exact d
  ·rw [show j + (i + 1) = j + 1 + i by omega]; exact k
theorem NodesQ.set_ {n' : NodeD} (i : Nat) : ∀ {j : Nat} {nodes : List NodeD} {xs : List Value}, NodesQ w B Z O j nodes xs → i < nodes.length → (¬ O (j + i) → KidsOk w B Z kv n'.kids) →
  NodesQ w B Z O j (nodes.set i n') ((((xs.set (i * 4) (.int .i64 n'.wish)).set (i * 4 + 1) kv).set (i * 4 + 2) (.int .i64 n'.clA)).set (i * 4 + 3) (.int .i64 n'.clB)) := by
 induction i with
 | zero =>
  intro j nodes xs h hi hk
  cases nodes with
  | nil => simp at hi
  | cons m ns =>
   obtain ⟨kv', r, e, h1, h2⟩ := h
   exact ⟨kv, r, by rw [e]; rfl, hk, h2⟩
 | succ i ih =>
  intro j nodes xs h hi hk
  cases nodes with
  | nil => simp at hi
  | cons m ns =>
   obtain ⟨kv', r, e, h1, h2⟩ := h
   have := ih h2 (by simpa using hi) (by rw [show j + 1 + i = j + (i + 1) by omega]; exact hk)
   refine ⟨kv', _, ?_, h1, this⟩
   rw [e]
   have e4 : ∀ q, (i + 1) * 4 + q = (i * 4 + q) + 1 + 1 + 1 + 1 := fun q => by omega
   rw [e4 1, e4 2, e4 3, show (i + 1) * 4 = i * 4 + 1 + 1 + 1 + 1 by omega]
   rfl
theorem NodesQ.less (hz : ∀ g, Z' g → Z g) : ∀ {j : Nat} {nodes : List NodeD} {xs : List Value}, NodesQ w B Z O j nodes xs → NodesQ w B Z' O j nodes xs
 | _, [], _, h => h
 | _, _ :: _, _, ⟨kv, r, e, h1, h2⟩ => ⟨kv, r, e, fun ho => (h1 ho).less hz, NodesQ.less hz h2⟩
theorem NodesQ.more (hz : ∀ g, g < w.heap.size → Z' g → Z g) : ∀ {j : Nat} {nodes : List NodeD} {xs : List Value}, NodesQ w B Z O j nodes xs → NodesQ w B Z' O j nodes xs
 | _, [], _, h => h
 | _, _ :: _, _, ⟨kv, r, e, h1, h2⟩ => ⟨kv, r, e, fun ho => (h1 ho).more hz, NodesQ.more hz h2⟩
theorem NodesQ.open_ (ho : ∀ i, O i → O' i) : ∀ {j : Nat} {nodes : List NodeD} {xs : List Value}, NodesQ w B Z O j nodes xs → NodesQ w B Z O' j nodes xs
 | _, [], _, h => h
 | _, _ :: _, _, ⟨kv, r, e, h1, h2⟩ => ⟨kv, r, e, fun h => h1 (fun h' => h (ho _ h')), NodesQ.open_ ho h2⟩
end
end Go.Proofs.YtgolicoalldidaaGreat
namespace Go.Proofs.YtgolicoalldidaaGreat
open Go.RowKit
section
variable {w w' : World} {B : Nat} {Z Z' O O' X : Nat → Prop} {kv : Value} {kids : List Int}
theorem NodesQ.setW {x : Int} (i : Nat) : ∀ {j : Nat} {nodes : List NodeD} {xs : List Value} {n : NodeD}, NodesQ w B Z O j nodes xs → nodes[i]? = some n → NodesQ w B Z O j (nodes.set i { n with wish := x }) (xs.set (i * 4) (.int .i64 x)) := by
 induction i with
 | zero =>
  intro j nodes xs n h hn
  cases nodes with
  | nil => simp at hn
  | cons m ns =>
   simp at hn
   subst hn
   obtain ⟨kv', r, e, h1, h2⟩ := h
   exact ⟨kv', r, by rw [e]; rfl, h1, h2⟩
 | succ i ih =>
  intro j nodes xs n h hn
  cases nodes with
  | nil => simp at hn
  | cons m ns =>
   obtain ⟨kv', r, e, h1, h2⟩ := h
   have := ih h2 (by simpa using hn)
   refine ⟨kv', _, ?_, h1, this⟩
   rw [e, show (i + 1) * 4 = (i * 4) + 1 + 1 + 1 + 1 by omega]
   rfl
theorem NodesQ.setA {x : Int} (i : Nat) : ∀ {j : Nat} {nodes : List NodeD} {xs : List Value} {n : NodeD}, NodesQ w B Z O j nodes xs → nodes[i]? = some n → NodesQ w B Z O j (nodes.set i { n with clA := x }) (xs.set (i * 4 + 2) (.int .i64 x)) := by
 induction i with
 | zero =>
  intro j nodes xs n h hn
  cases nodes with
  | nil => simp at hn
  | cons m ns =>
   simp at hn
   subst hn
   obtain ⟨kv', r, e, h1, h2⟩ := h
   exact ⟨kv', r, by rw [e]; rfl, h1, h2⟩
 | succ i ih =>
  intro j nodes xs n h hn
  cases nodes with
  | nil => simp at hn
  | cons m ns =>
   obtain ⟨kv', r, e, h1, h2⟩ := h
   have := ih h2 (by simpa using hn)
   refine ⟨kv', _, ?_, h1, this⟩
   rw [e, show (i + 1) * 4 + 2 = (i * 4 + 2) + 1 + 1 + 1 + 1 by omega]
   rfl
theorem NodesQ.setB {x : Int} (i : Nat) : ∀ {j : Nat} {nodes : List NodeD} {xs : List Value} {n : NodeD}, NodesQ w B Z O j nodes xs → nodes[i]? = some n → NodesQ w B Z O j (nodes.set i { n with clB := x }) (xs.set (i * 4 + 3) (.int .i64 x)) := by
 induction i with
 | zero =>
  intro j nodes xs n h hn
  cases nodes with
  | nil => simp at hn
  | cons m ns =>
   simp at hn
   subst hn
   obtain ⟨kv', r, e, h1, h2⟩ := h
   exact ⟨kv', r, by rw [e]; rfl, h1, h2⟩
 | succ i ih =>
  intro j nodes xs n h hn
  cases nodes with
  | nil => simp at hn
  | cons m ns =>
   obtain ⟨kv', r, e, h1, h2⟩ := h
   have := ih h2 (by simpa using hn)
   refine ⟨kv', _, ?_, h1, this⟩
   rw [e, show (i + 1) * 4 + 3 = (i * 4 + 3) + 1 + 1 + 1 + 1 by omega]
   rfl
theorem NodesQ.setK (i : Nat) : ∀ {j : Nat} {nodes : List NodeD} {xs : List Value}, NodesQ w B Z O j nodes xs → O (j + i) → i < nodes.length → NodesQ w B Z O j nodes (xs.set (i * 4 + 1) kv) := by
 induction i with
 | zero =>
  intro j nodes xs h ho hi
  cases nodes with
  | nil => simp at hi
  | cons m ns =>
   obtain ⟨kv', r, e, h1, h2⟩ := h
   exact ⟨kv, r, by rw [e]; rfl, fun hn => absurd ho hn, h2⟩
 | succ i ih =>
  intro j nodes xs h ho hi
  cases nodes with
  | nil => simp at hi
  | cons m ns =>
   obtain ⟨kv', r, e, h1, h2⟩ := h
   have := ih h2 (by rw [show j + 1 + i = j + (i + 1) by omega]; exact ho) (by simpa using hi)
   refine ⟨kv', _, ?_, h1, this⟩
   rw [e, show (i + 1) * 4 + 1 = (i * 4 + 1) + 1 + 1 + 1 + 1 by omega]
   rfl
theorem NodesQ.above {q : Nat} : ∀ {j : Nat} {nodes : List NodeD} {xs : List Value}, NodesQ w B Z (fun k => O k ∨ k = q) j nodes xs → q < j → NodesQ w B Z O j nodes xs
 | _, [], _, h, _ => h
 | _, _ :: _, _, ⟨kv, r, e, h1, h2⟩, hq => ⟨kv, r, e, fun ho => h1 (fun h => by rcases h with h | h; exact ho h; omega), NodesQ.above h2 (by omega)⟩
theorem NodesQ.close (i : Nat) : ∀ {j : Nat} {nodes : List NodeD} {xs : List Value} {n : NodeD}, NodesQ w B Z (fun k => O k ∨ k = j + i) j nodes xs → nodes[i]? = some n → xs[i * 4 + 1]? = some kv → KidsOk w B Z kv kids → NodesQ w B Z O j (nodes.set i { n with kids := kids }) xs := by
 induction i with
 | zero =>
  intro j nodes xs n h hn hx hk
  cases nodes with
  | nil => simp at hn
  | cons m ns =>
   simp at hn
   subst hn
   obtain ⟨kv', r, e, h1, h2⟩ := h
   rw [e] at hx
   simp at hx
   subst hx
   refine ⟨kv', r, e, fun _ => hk, ?_⟩
   exact NodesQ.above h2 (by omega)
 | succ i ih =>
  intro j nodes xs n h hn hx hk
  cases nodes with
  | nil => simp at hn
  | cons m ns =>
   obtain ⟨kv', r, e, h1, h2⟩ := h
   rw [e, show (i + 1) * 4 + 1 = (i * 4 + 1) + 1 + 1 + 1 + 1 by omega] at hx
   have := ih (j := j + 1) (n := n) (by rw [show j + 1 + i = j + (i + 1) by omega]; exact h2) (by simpa using hn) (by simpa using hx) hk
   exact ⟨kv', r, e, fun ho => h1 (fun h' => by rcases h' with h' | h'; exact ho h'; omega), this⟩
end
structure Shw (w0 w : World) (Z O : Nat → Prop) (Ob Sb Pb Fb Pk : Nat) (nv : Value) (sa : Option Addr) (sc : Nat) (t : List WishD) (pick : List Int) (nodes : List NodeD) (xs : List Value) : Prop where
 ext : Ext w0 w
 obox : Blk w Ob 34 #[nv]
 sbox : Blk w Sb 28 #[.slice sa t.length sc]
 pbox : Blk w Pb 31 #[.slice (some ⟨Pk, 0, none⟩) t.length t.length]
 fbox : Blk w Fb 126 #[.func (.func 46) #[] #[.pointer (some ⟨Ob, 0, none⟩), .pointer (some ⟨Sb, 0, none⟩), .pointer (some ⟨Pb, 0, none⟩), .pointer (some ⟨Fb, 0, none⟩)]]
 row : Blk w Pk 3 (pick.map (Value.int .i64)).toArray
 plen : pick.length = t.length
 o0 : w0.heap.size ≤ Ob
 p0 : w0.heap.size ≤ Pk
 zP : Z Pk
 owns : w.ownsRow w0.heap.size 128 4 nv nodes.length xs
 cells : NodesQ w w0.heap.size Z O 0 nodes xs
section
variable {w0 w w' : World} {Z Z' O O' : Nat → Prop} {Ob Sb Pb Fb Pk g m c : Nat} {nv nv' kv : Value} {sa : Option Addr} {sc : Nat} {t : List WishD} {pick : List Int} {nodes : List NodeD} {xs : List Value}
theorem Shw.far (h : Shw w0 w Z O Ob Sb Pb Fb Pk nv sa sc t pick nodes xs) : IntFar w Z (SX Ob Pk nv) := by
 intro g hg
 rcases hg with rfl | rfl | hg
 ·exact Or.inr fun cs hc => by have := blk_type hc h.obox; revert this; decide
 ·exact Or.inl h.zP
 ·obtain ⟨cs', hc'⟩ := owns_block h.owns hg
  exact Or.inr fun cs hc => by have := blk_type hc hc'; revert this; decide
theorem Shw.old (h : Shw w0 w Z O Ob Sb Pb Fb Pk nv sa sc t pick nodes xs) : ∀ i, i < w0.heap.size → ¬ SX Ob Pk nv i := by
 rintro i hi (rfl | rfl | hg)
 ·have := h.o0; omega
 ·have := h.p0; omega
 ·have := (h.owns.lt i hg).1; omega
theorem Shw.nv_ne (h : Shw w0 w Z O Ob Sb Pb Fb Pk nv sa sc t pick nodes xs) : nv.ownBlock ≠ some Ob ∧ nv.ownBlock ≠ some Pk ∧ nv.ownBlock ≠ some Sb ∧ nv.ownBlock ≠ some Pb ∧ nv.ownBlock ≠ some Fb :=
 ⟨own_blk_ne h.owns h.obox (by decide), own_blk_ne h.owns h.row (by decide), own_blk_ne h.owns h.sbox (by decide), own_blk_ne h.owns h.pbox (by decide), own_blk_ne h.owns h.fbox (by decide)⟩
theorem Shw.toExt (h : Shw w0 w Z O Ob Sb Pb Fb Pk nv sa sc t pick nodes xs) (e : Ext w w') : Shw w0 w' Z O Ob Sb Pb Fb Pk nv sa sc t pick nodes xs := by
 have k : Keep (fun _ => False) w w' := Keep.of_ext e
 exact ⟨h.ext.trans e, k.blk h.obox id, k.blk h.sbox id, k.blk h.pbox id, k.blk h.fbox id, k.blk h.row id, h.plen, h.o0, h.p0, h.zP, k.owns h.owns (fun _ _ => id), h.cells.keep k no_x⟩
theorem Shw.setPick (h : Shw w0 w Z O Ob Sb Pb Fb Pk nv sa sc t pick nodes xs) (d : Nat) (i : Int) : Shw w0 (w.setCell ⟨Pk, d, none⟩ (.int .i64 i)) Z O Ob Sb Pb Fb Pk nv sa sc t (pick.set d i) nodes xs := by
 have k := keep_set w Pk d (.int .i64 i)
 have hi : IntFar w Z (fun k => k = Pk) := fun g hg => Or.inl (by rw [hg]; exact h.zP)
 have hpk := h.row.set_ d (.int .i64 i)
 have e : (pick.map (Value.int .i64)).toArray.setIfInBounds d (.int .i64 i) = ((pick.set d i).map (Value.int .i64)).toArray := by simp [List.map_set]
 rw [e] at hpk
 refine ⟨h.ext.setCell h.p0 _, k.blk h.obox (h.obox.ne_ h.row (by decide)), k.blk h.sbox (h.sbox.ne_ h.row (by decide)), k.blk h.pbox (h.pbox.ne_ h.row (by decide)), k.blk h.fbox (h.fbox.ne_ h.row (by decide)), hpk, by rw [List.length_set]; exact h.plen, h.o0, h.p0, h.zP, k.owns h.owns (fun g hg e => h.nv_ne.2.1 (by rw [hg, e])), h.cells.keep k hi⟩
theorem Shw.pushed (h : Shw w0 w Z O Ob Sb Pb Fb Pk nv sa sc t pick nodes xs) {n : NodeD} (hn : n.kids = []) (hb : Blk w' Ob 34 #[nv'])
  (ho : w'.ownsRow w0.heap.size 128 4 nv' (nodes.length + 1) (xs ++ [.int .i64 n.wish, .slice none 0 0, .int .i64 n.clA, .int .i64 n.clB]))
  (k : Keep (fun k => k = Ob ∨ nv.ownBlock = some k) w w') : Shw w0 w' Z O Ob Sb Pb Fb Pk nv' sa sc t pick (nodes ++ [n]) (xs ++ [.int .i64 n.wish, .slice none 0 0, .int .i64 n.clA, .int .i64 n.clB]) := by
 have hX : ∀ g, (fun k => k = Ob ∨ nv.ownBlock = some k) g → SX Ob Pk nv g := fun g hg => by rcases hg with e | e; exact Or.inl e; exact Or.inr (Or.inr e)
 have hi : IntFar w Z (fun k => k = Ob ∨ nv.ownBlock = some k) := fun g hg => h.far g (hX g hg)
 obtain ⟨n1, n2, n3, n4, n5⟩ := h.nv_ne
 refine ⟨h.ext.keep k (fun i hi hx => h.old i hi (hX i hx)), hb, k.blk h.sbox ?_, k.blk h.pbox ?_, k.blk h.fbox ?_, k.blk h.row ?_, h.plen, h.o0, h.p0, h.zP, by rw [List.length_append]; exact ho, ?_⟩
 ·rintro (e | e)
  ·exact h.sbox.ne_ h.obox (by decide) e
  ·exact n3 e
 ·rintro (e | e)
  ·exact h.pbox.ne_ h.obox (by decide) e
  ·exact n4 e
 ·rintro (e | e)
  ·exact h.fbox.ne_ h.obox (by decide) e
  ·exact n5 e
 ·rintro (e | e)
  ·exact h.row.ne_ h.obox (by decide) e
  ·exact n2 e
 ·exact (h.cells.keep k hi).snoc (fun _ => by rw [hn]; exact ⟨World.ownsRow_nil _ _ _ _, by simp [Value.ownBlock]⟩)
theorem Shw.setCell (h : Shw w0 w Z O Ob Sb Pb Fb Pk (.slice (some ⟨g, 0, none⟩) m c) sa sc t pick nodes xs) {q : Nat} {v : Value} {nodes' : List NodeD} (hl : nodes'.length = nodes.length)
  (hc : NodesQ (w.setCell ⟨g, q, none⟩ v) w0.heap.size Z O 0 nodes xs → NodesQ (w.setCell ⟨g, q, none⟩ v) w0.heap.size Z O 0 nodes' (xs.set q v)) :
  Shw w0 (w.setCell ⟨g, q, none⟩ v) Z O Ob Sb Pb Fb Pk (.slice (some ⟨g, 0, none⟩) m c) sa sc t pick nodes' (xs.set q v) := by
 have k := keep_set w g q v
 have hX : ∀ j, j = g → SX Ob Pk (.slice (some ⟨g, 0, none⟩) m c) j := fun j e => Or.inr (Or.inr (by simp [Value.ownBlock, e]))
 have hi : IntFar w Z (fun k => k = g) := fun j e => h.far j (hX j e)
 obtain ⟨n1, n2, n3, n4, n5⟩ := h.nv_ne
 have e9 : (Value.slice (some ⟨g, 0, none⟩) m c).ownBlock = some g := rfl
 have hm : m = nodes.length := by
  rcases h.owns.2 with ⟨e, _⟩ | ⟨g', cap, cur, e, _⟩ <;> cases e
  rfl
 subst hm
 refine ⟨h.ext.setCell ((h.owns.lt g rfl).1) _, k.blk h.obox (fun e => n1 (by rw [e9, e])), k.blk h.sbox (fun e => n3 (by rw [e9, e])), k.blk h.pbox (fun e => n4 (by rw [e9, e])), k.blk h.fbox (fun e => n5 (by rw [e9, e])), k.blk h.row (fun e => n2 (by rw [e9, e])), h.plen, h.o0, h.p0, h.zP, by rw [hl]; exact (h.owns.stored q v).1, hc (h.cells.keep k hi)⟩
end
end Go.Proofs.YtgolicoalldidaaGreat
namespace Go.Proofs.YtgolicoalldidaaGreat
open Go.RowKit
section
variable {w0 w w' : World} {Z Z' O O' X : Nat → Prop} {Ob Sb Pb Fb Pk : Nat} {nv nv' kv : Value} {sa : Option Addr} {sc : Nat} {t : List WishD} {pick : List Int} {nodes : List NodeD} {xs : List Value}
theorem Shw.less (h : Shw w0 w Z O Ob Sb Pb Fb Pk nv sa sc t pick nodes xs) (hz : ∀ g, Z' g → Z g) (hp : Z' Pk) : Shw w0 w Z' O Ob Sb Pb Fb Pk nv sa sc t pick nodes xs :=
 ⟨h.ext, h.obox, h.sbox, h.pbox, h.fbox, h.row, h.plen, h.o0, h.p0, hp, h.owns, h.cells.less hz⟩
theorem Shw.more (h : Shw w0 w Z O Ob Sb Pb Fb Pk nv sa sc t pick nodes xs) (hz : ∀ g, g < w.heap.size → Z' g → Z g) (hp : Z' Pk) : Shw w0 w Z' O Ob Sb Pb Fb Pk nv sa sc t pick nodes xs :=
 ⟨h.ext, h.obox, h.sbox, h.pbox, h.fbox, h.row, h.plen, h.o0, h.p0, hp, h.owns, h.cells.more hz⟩
theorem Shw.opened (h : Shw w0 w Z O Ob Sb Pb Fb Pk nv sa sc t pick nodes xs) (ho : ∀ i, O i → O' i) : Shw w0 w Z O' Ob Sb Pb Fb Pk nv sa sc t pick nodes xs :=
 ⟨h.ext, h.obox, h.sbox, h.pbox, h.fbox, h.row, h.plen, h.o0, h.p0, h.zP, h.owns, h.cells.open_ ho⟩
theorem Shw.rowed (h : Shw w0 w Z O Ob Sb Pb Fb Pk nv sa sc t pick nodes xs) (k : Keep X w w') (hX : ∀ g, X g → Z g ∧ g ≠ Pk ∧ w0.heap.size ≤ g ∧ ∃ cs, Blk w g 3 cs) :
  Shw w0 w' Z O Ob Sb Pb Fb Pk nv sa sc t pick nodes xs := by
 have hi : IntFar w Z X := fun g hg => Or.inl (hX g hg).1
 have far : ∀ {g : Nat} {e : TypeId} {cs : Array Value}, Blk w g e cs → e ≠ 3 → ¬ X g := fun hb hne hx => by
  obtain ⟨cs', hc'⟩ := (hX _ hx).2.2.2
  exact hne (blk_type hb hc')
 refine ⟨h.ext.keep k (fun i hi hx => by have := (hX i hx).2.2.1; omega), k.blk h.obox (far h.obox (by decide)), k.blk h.sbox (far h.sbox (by decide)), k.blk h.pbox (far h.pbox (by decide)), k.blk h.fbox (far h.fbox (by decide)), k.blk h.row (fun hx => (hX _ hx).2.1 rfl), h.plen, h.o0, h.p0, h.zP, k.owns h.owns (fun g hg hx => ?_), h.cells.keep k hi⟩
 obtain ⟨cs, hc⟩ := owns_block h.owns hg
 exact far hc (by decide) hx
theorem Shw.node (h : Shw w0 w Z O Ob Sb Pb Fb Pk nv sa sc t pick nodes xs) (hn : 0 < nodes.length) :
  ∃ g c, nv = .slice (some ⟨g, 0, none⟩) nodes.length c ∧ g < w.heap.size ∧ (∃ cs, Blk w g 128 cs) ∧ (∀ q u, xs[q]? = some u → w.cell? ⟨g, q, none⟩ = some u) ∧ ∀ q, w.frozen? ⟨g, q, none⟩ = false := by
 rcases h.owns.2 with ⟨_, h0⟩ | ⟨g, cap, cur, rfl, hb, hg, hcap, hm, hcs, htake⟩
 ·omega
 ·have hblk : Blk w g 128 cur := hg
  refine ⟨g, cap, rfl, hblk.lt, ⟨cur, hblk⟩, fun q u hq => ?_, fun q => hblk.frozen q⟩
  rw [hblk.cell]
  have hlt : q < xs.length := (List.getElem?_eq_some_iff.1 hq).1
  rw [← htake, List.getElem?_take] at hq
  split at hq
  ·simpa using hq
  ·cases hq
end
structure RoundK (Z O : Nat → Prop) (w0 w1 wr : World) (Ob Sb Pb Fb Pk : Nat) (nv1 nv : Value) (sa : Option Addr) (sc : Nat) (t : List WishD) (pick pre : List Int) (nodes : List NodeD) (N : Nat) (xs0 xs : List Value) (kv : Value) (kn : List NodeD) (kk : List Int) : Prop where
 shw : Shw w0 wr (ZK Z kv) (fun k => O k ∨ k = N) Ob Sb Pb Fb Pk nv sa sc t pick (nodes ++ kn) xs
 preIs : pick.take pre.length = pre
 keep : Keep (SX Ob Pk nv1) w1 wr
 nvs : nv.ownBlock = nv1.ownBlock ∨ ∃ g, nv.ownBlock = some g ∧ w1.heap.size ≤ g
 row : wr.ownsRow w1.heap.size 3 1 kv kk.length (kk.map (Value.int .i64))
 cell : xs[N * 4 + 1]? = some kv
 old : ∀ i, O i → xs[i * 4 + 1]? = xs0[i * 4 + 1]?
section
variable {Z O : Nat → Prop} {w0 w1 wr w3 w4 V : World} {Ob Sb Pb Fb Pk : Nat} {nv1 nv nv' kv v' : Value} {sa : Option Addr} {sc g m c : Nat} {t : List WishD} {pick pre pick' : List Int} {nodes : List NodeD} {N : Nat} {xs0 xs xs' : List Value} {kn rn : List NodeD} {kk : List Int} {idx : Int}
theorem RoundK.toExt (R : RoundK Z O w0 w1 wr Ob Sb Pb Fb Pk nv1 nv sa sc t pick pre nodes N xs0 xs kv kn kk) (e : Ext wr V) : RoundK Z O w0 w1 V Ob Sb Pb Fb Pk nv1 nv sa sc t pick pre nodes N xs0 xs kv kn kk :=
 ⟨R.shw.toExt e, R.preIs, R.keep.trans (Keep.of_ext e), R.nvs, owns_ext R.row e, R.cell, R.old⟩
theorem RoundK.appended (R : RoundK Z O w0 w1 V Ob Sb Pb Fb Pk nv1 (.slice (some ⟨g, 0, none⟩) m c) sa sc t pick pre nodes N xs0 xs kv kn kk) (hP : Pk < w1.heap.size) (hN : N < (nodes ++ kn).length) (hO : ∀ i, O i → i ≠ N)
  (hw0 : w0.heap.size ≤ w1.heap.size)
  (hown : w4.ownsRow w1.heap.size 3 1 v' (kk.length + 1) (kk.map (Value.int .i64) ++ [.int .i64 idx])) (hg : V.grownBy w4 kv.ownBlock) (hat : v'.ownBlock = kv.ownBlock ∨ v'.ownBlock = some V.heap.size) :
  RoundK Z O w0 w1 (w4.setCell ⟨g, N * 4 + 1, none⟩ v') Ob Sb Pb Fb Pk nv1 (.slice (some ⟨g, 0, none⟩) m c) sa sc t pick pre nodes N xs0 (xs.set (N * 4 + 1) v') v' kn (kk ++ [idx]) := by
 have hbase : ∀ g, kv.ownBlock = some g → w1.heap.size ≤ g := fun g hg => (R.row.lt g hg).1
 have kk1 : Keep (fun g => kv.ownBlock = some g) V w4 := Keep.grown (X := fun g => kv.ownBlock = some g) (Keep.refl _ _) hg (fun g h => Or.inl h)
 have hzP : Z Pk := by
  rcases R.shw.zP with h | h
  ·exact h
  ·have := hbase _ h; omega
 have s1 : Shw w0 V (fun g => ZK Z kv g ∨ v'.ownBlock = some g) (fun k => O k ∨ k = N) Ob Sb Pb Fb Pk (.slice (some ⟨g, 0, none⟩) m c) sa sc t pick (nodes ++ kn) xs := by
  refine R.shw.more (fun i hi h => ?_) (Or.inl R.shw.zP)
  rcases h with h | h
  ·exact h
  ·rcases hat with e | e
   ·rw [e] at h; exact Or.inr h
   ·rw [e] at h; cases h; omega
 have s2 := s1.rowed kk1 (fun i hi => ⟨Or.inl (Or.inr hi), by rintro rfl; have := hbase _ hi; omega, by have := hbase _ hi; omega, owns_block R.row hi⟩)
 have s3 : Shw w0 w4 (ZK Z v') (fun k => O k ∨ k = N) Ob Sb Pb Fb Pk (.slice (some ⟨g, 0, none⟩) m c) sa sc t pick (nodes ++ kn) xs := s2.less (fun i h => by rcases h with h | h; exact Or.inl (Or.inl h); exact Or.inr h) (Or.inl hzP)
 have s4 := s3.setCell (nodes' := nodes ++ kn) (q := N * 4 + 1) (v := v') rfl (fun h => h.setK N (Or.inr (by omega)) hN)
 have hgb : ∃ cs, Blk w4 g 128 cs := owns_block s3.owns rfl
 have hlen := s3.cells.len
 refine ⟨s4, R.preIs, ?_, R.nvs, ?_, ?_, ?_⟩
 ·refine ((R.keep.trans' (Y := fun g => kv.ownBlock = some g) kk1 (fun i hi h => by have := hbase _ h; omega))).setCell ?_ _
  rcases R.nvs with e | ⟨g', e, hge⟩
  ·exact Or.inl (Or.inr (Or.inr (by rw [← e]; rfl)))
  ·simp [Value.ownBlock] at e; subst e; exact Or.inr hge
 ·have := (keep_set w4 g (N * 4 + 1) v').owns hown (fun i hi h => by
   subst h
   obtain ⟨cs, hc⟩ := owns_block hown hi
   obtain ⟨cs', hc'⟩ := hgb
   have := blk_type hc hc'
   revert this; decide)
  simpa using this
 ·rw [List.getElem?_set_self (by rw [hlen]; omega)]
 ·intro i hi
  have := hO i hi
  rw [List.getElem?_set_ne (by omega)]
  exact R.old i hi
theorem RoundK.picked (R : RoundK Z O w0 w1 wr Ob Sb Pb Fb Pk nv1 nv sa sc t pick pre nodes N xs0 xs kv kn kk) (hP : Pk < w1.heap.size) (i : Int) :
  RoundK Z O w0 w1 (wr.setCell ⟨Pk, pre.length, none⟩ (.int .i64 i)) Ob Sb Pb Fb Pk nv1 nv sa sc t (pick.set pre.length i) pre nodes N xs0 xs kv kn kk :=
 ⟨R.shw.setPick _ _, by rw [List.take_set_of_le (Nat.le_refl _)]; exact R.preIs, R.keep.setCell (Or.inl (Or.inr (Or.inl rfl))) _, R.nvs,
  (keep_set wr Pk pre.length (.int .i64 i)).owns R.row (fun j hj h => by have := (R.row.lt j hj).1; omega), R.cell, R.old⟩
theorem RoundK.called (R : RoundK Z O w0 w1 wr Ob Sb Pb Fb Pk nv1 nv sa sc t pick pre nodes N xs0 xs kv kn kk) (hP : Pk < w1.heap.size) (hs : Shw w0 w3 (ZK Z kv) (fun k => O k ∨ k = N) Ob Sb Pb Fb Pk nv' sa sc t pick' (nodes ++ kn ++ rn) xs')
  {i : Int} (htk : pick'.take (pre.length + 1) = pre ++ [i]) (k3 : Keep (SX Ob Pk nv) wr w3) (hnv : nv'.ownBlock = nv.ownBlock ∨ ∃ g, nv'.ownBlock = some g ∧ wr.heap.size ≤ g) (hold : ∀ i, O i ∨ i = N → xs'[i * 4 + 1]? = xs[i * 4 + 1]?) :
  RoundK Z O w0 w1 w3 Ob Sb Pb Fb Pk nv1 nv' sa sc t pick' pre nodes N xs0 xs' kv (kn ++ rn) kk := by
 refine ⟨by rw [← List.append_assoc]; exact hs, take_le htk, keep_chain R.keep R.nvs k3, nvs_chain R.keep.size R.nvs hnv, k3.owns R.row (fun g hg hx => ?_), (hold N (Or.inr rfl)).trans R.cell, fun i hi => (hold i (Or.inl hi)).trans (R.old i hi)⟩
 obtain ⟨cs, hc⟩ := owns_block R.row hg
 rcases hx with h | h | h
 ·have := blk_type (h ▸ hc) R.shw.obox; revert this; decide
 ·have := (R.row.lt g hg).1; omega
 ·obtain ⟨cs', hc'⟩ := owns_block R.shw.owns h
  have := blk_type hc hc'; revert this; decide
theorem RoundK.closed (R : RoundK Z O w0 w1 wr Ob Sb Pb Fb Pk nv1 nv sa sc t pick pre nodes N xs0 xs kv kn kk) (hZ : ∀ g, Z g → g < w1.heap.size) (hw0 : w0.heap.size ≤ w1.heap.size) (hzP : Z Pk) {n : NodeD} (hn : (nodes ++ kn)[N]? = some n) :
  Shw w0 wr Z O Ob Sb Pb Fb Pk nv sa sc t pick ((nodes ++ kn).set N { n with kids := kk }) xs := by
 have s := R.shw.less (Z' := Z) (fun g h => Or.inl h) hzP
 have hkv : KidsOk wr w0.heap.size Z kv kk := ⟨owns_base R.row hw0, fun g hg hz => by have := (R.row.lt g hg).1; have := hZ g hz; omega⟩
 refine ⟨s.ext, s.obox, s.sbox, s.pbox, s.fbox, s.row, s.plen, s.o0, s.p0, s.zP, by rw [List.length_set]; exact s.owns, ?_⟩
 have := s.cells
 exact NodesQ.close (j := 0) N (this.open_ (fun k h => by rw [Nat.zero_add]; exact h)) hn R.cell hkv
end
theorem kidsG_none (f : Int → OptD → Nat → Res) : ∀ (l : List OptD) (i : Int) (N : Nat), (kidsG f l i N).opens = [] → (kidsG f l i N).ests = [] → ∀ (k : Nat) (o : OptD), l[k]? = some o →
  (f (i + k) o (N + (kidsG f (l.take k) i N).nodes.length)).opens = [] ∧ (f (i + k) o (N + (kidsG f (l.take k) i N).nodes.length)).ests = []
 | [], _, _, _, _, _, _, h => by simp at h
 | x :: r, i, N, h1, h2, k, o, hk => by
  simp only [kidsG, List.append_eq_nil_iff] at h1 h2
  cases k with
  | zero =>
   simp at hk
   subst hk
   simpa [kidsG] using And.intro h1.1 h2.1
  | succ k =>
   have := kidsG_none f r (i + 1) _ h1.2 h2.2 k o (by simpa using hk)
   simp only [List.take_succ_cons, kidsG, List.length_append]
   rw [show i + ((k + 1 : Nat) : Int) = i + 1 + (k : Int) by omega, ← Nat.add_assoc]
   exact this
end Go.Proofs.YtgolicoalldidaaGreat
namespace Go.Proofs.YtgolicoalldidaaGreat
open Go.RowKit List
theorem standO_spec {f : Int → Nat → Bool × Nat} {h : Int → OptD → List (List Int × Int)} {P : List Int × Int → Prop} {m : Nat}
  (hf : ∀ i o v, v + m ≤ 65536 → (f i v).2 ≤ v + m ∧ ((f i v).1 = true ↔ ∃ c ∈ h i o, P c)) :
  ∀ (l : List OptD) (i : Int) (v : Nat), v + l.length * (m + 1) ≤ 65536 → (standO f l i v).2 ≤ v + l.length * (m + 1) ∧ ((standO f l i v).1 = true ↔ ∃ c ∈ kidsC h l i, P c)
 | [], i, v, _ => by simp [standO, kidsC]
 | o :: r, i, v, hv => by
  rw [List.length_cons, Nat.add_mul, Nat.one_mul] at hv ⊢
  obtain ⟨h1, h2⟩ := hf i o (v + 1) (by omega)
  obtain ⟨h3, h4⟩ := standO_spec hf r (i + 1) (f i (v + 1)).2 (by omega)
  simp only [standO, kidsC]
  rw [if_neg (by omega)]
  by_cases hc : (f i (v + 1)).1 = true
  ·rw [if_pos hc]
   refine ⟨by show (f i (v + 1)).2 ≤ _; omega, ?_⟩
   obtain ⟨c, hm, hp⟩ := h2.1 hc
   exact ⟨fun _ => ⟨c, List.mem_append_left _ hm, hp⟩, fun _ => rfl⟩
  ·rw [if_neg hc]
   refine ⟨by omega, h4.trans ⟨?_, ?_⟩⟩
   ·rintro ⟨c, hm, hp⟩; exact ⟨c, List.mem_append_right _ hm, hp⟩
   ·rintro ⟨c, hm, hp⟩
    rcases List.mem_append.1 hm with hm | hm
    ·exact absurd (h2.2 ⟨c, hm, hp⟩) hc
    ·exact ⟨c, hm, hp⟩
theorem standF_spec (t : List WishD) : ∀ (r : List WishD) (pre : List Int) (harm : Int) (v : Nat), v + treeMax r ≤ 65537 →
  (standF t r pre v).2 + 1 ≤ v + treeMax r ∧ ((standF t r pre v).1 = true ↔ ∃ c ∈ choicesL r pre harm, okFrom t pre.length c.1 = true)
 | [], pre, harm, v, hv => by
  simp only [standF, treeMax, choicesL]
  refine ⟨by omega, ⟨fun _ => ⟨_, List.mem_singleton.2 rfl, ?_⟩, fun _ => trivial⟩⟩
  simp only [okFrom, List.all_eq_true, Bool.or_eq_true, decide_eq_true_eq]
  intro d hd
  exact Or.inl (List.mem_range.1 hd)
 | x :: r, pre, harm, v, hv => by
  rw [standF_cons]
  simp only [treeMax] at hv ⊢
  have tp := treeMax_pos r
  have key := standO_spec (f := standG t r pre) (h := fun i o => choicesL r (pre ++ [i]) (harm + o.harm)) (P := fun c => okFrom t pre.length c.1 = true) (m := treeMax r - 1) (fun i o v hv => by
   unfold standG
   have hl : (pre ++ [i]).length - 1 = pre.length := by simp
   split
   ·rename_i hc
    refine ⟨by show v ≤ _; omega, ⟨fun h => (by cases h), ?_⟩⟩
    rintro ⟨c, hm, hp⟩
    obtain ⟨s, e, _⟩ := choicesL_pre hm
    have := okFrom_clash (s := s) (b := c.2 + 1) (h := c.2) hc
    rw [hl, ← e] at this
    simp only [goodC, hp, Bool.true_and, decide_eq_false_iff_not] at this
    omega
   ·rename_i hc
    obtain ⟨h1, h2⟩ := standF_spec t r (pre ++ [i]) (harm + o.harm) v (by omega)
    have step : ∀ c, c ∈ choicesL r (pre ++ [i]) (harm + o.harm) → okFrom t pre.length c.1 = okFrom t (pre ++ [i]).length c.1 := fun c hm => by
     obtain ⟨s, e, _⟩ := choicesL_pre hm
     have := okFrom_step (t := t) (p := c.1) ⟨s, e⟩ hc
     rwa [hl] at this
    refine ⟨by omega, h2.trans ⟨?_, ?_⟩⟩
    ·rintro ⟨c, hm, hp⟩; exact ⟨c, hm, by rw [step c hm]; exact hp⟩
    ·rintro ⟨c, hm, hp⟩; exact ⟨c, hm, by rw [← step c hm]; exact hp⟩) x.opts 0 v (by rw [Nat.sub_add_cancel tp]; omega)
  rw [Nat.sub_add_cancel tp] at key
  exact ⟨by have := key.1; omega, key.2⟩
def standB (s : List WishD) : Bool := !(lawfulL s).isEmpty
theorem standB_ne {s : List WishD} : standB s = true ↔ lawfulL s ≠ [] := by unfold standB; cases lawfulL s <;> simp
theorem stands_is {t : List WishD} {l : List Int} (h : treeMax (subT t l) ≤ 65536) : standsT t l = (standB (subT t l), 0) := by
 obtain ⟨h1, h2⟩ := standF_spec (subT t l) (subT t l) [] 0 0 (by omega)
 unfold standsT standsS
 rw [if_neg (by omega)]
 have e : (standF (subT t l) (subT t l) [] 0).1 = standB (subT t l) := by
  rw [Bool.eq_iff_iff, h2, standB_ne]
  constructor
  ·rintro ⟨c, hm, hp⟩ hn
   have : c ∈ lawfulL (subT t l) := List.mem_filter.2 ⟨hm, hp⟩
   rw [hn] at this
   cases this
  ·intro hn
   obtain ⟨c, hc⟩ := List.exists_mem_of_ne_nil _ hn
   obtain ⟨hm, hp⟩ := List.mem_filter.1 hc
   exact ⟨c, hm, hp⟩
 rw [e]
def StandP (s : List WishD) : Prop := ∃ q : List (WishD × OptD), q.map Prod.fst = s ∧ (∀ r ∈ q, r.2 ∈ r.1.opts) ∧ q.Pairwise fun a b => clashB a.1 b.1 a.2 b.2 = false
theorem choice_len : ∀ {s : List WishD} {p : List Int}, choiceB s p = true → p.length = s.length
 | [], [], _ => rfl
 | [], _ :: _, h => by simp [choiceB] at h
 | _ :: _, [], h => by simp [choiceB] at h
 | _ :: s, _ :: p, h => by
  simp only [choiceB, Bool.and_eq_true] at h
  simp [choice_len h.2]
def pairsOf : List WishD → List Int → List (WishD × OptD)
 | x :: s, k :: p => (x, x.opts[k.toNat]?.getD default) :: pairsOf s p
 | _, _ => []
theorem pairs_fst : ∀ {s : List WishD} {p : List Int}, choiceB s p = true → (pairsOf s p).map Prod.fst = s ∧ (∀ r ∈ pairsOf s p, r.2 ∈ r.1.opts) ∧ ∀ j (r : WishD × OptD), (pairsOf s p)[j]? = some r → optOf s p j = some r
 | [], [], _ => ⟨rfl, fun _ h => by (cases h), fun j r h => by simp [pairsOf] at h⟩
 | [], _ :: _, h => by simp [choiceB] at h
 | _ :: _, [], h => by simp [choiceB] at h
 | x :: s, k :: p, h => by
  simp only [choiceB, Bool.and_eq_true] at h
  obtain ⟨h1, h2, h3⟩ := pairs_fst h.2
  obtain ⟨n, rfl, hn⟩ := idxB_nat h.1
  have e : x.opts[(n : Int).toNat]? = some x.opts[n] := by rw [Int.toNat_natCast]; exact List.getElem?_eq_getElem hn
  refine ⟨by simp only [pairsOf, List.map_cons, h1], fun r hr => ?_, fun j r hr => ?_⟩
  ·simp only [pairsOf, List.mem_cons] at hr
   rcases hr with rfl | hr
   ·show (x.opts[(n : Int).toNat]?.getD default) ∈ x.opts
    rw [e]
    exact List.getElem_mem hn
   ·exact h2 r hr
  ·cases j with
   | zero =>
    simp only [pairsOf, List.getElem?_cons_zero, Option.some.injEq, e, Option.getD_some] at hr
    subst hr
    have e' : x.opts[n]? = some x.opts[n] := List.getElem?_eq_getElem hn
    simp [optOf, e']
   | succ j =>
    simp only [pairsOf, List.getElem?_cons_succ] at hr
    have := h3 j r hr
    simpa [optOf] using this
theorem pairs_of : ∀ (q : List (WishD × OptD)), (∀ r ∈ q, r.2 ∈ r.1.opts) → ∃ p, choiceB (q.map Prod.fst) p = true ∧ ∀ j (r : WishD × OptD), q[j]? = some r → optOf (q.map Prod.fst) p j = some r
 | [], _ => ⟨[], rfl, fun j r h => by simp at h⟩
 | (x, o) :: q, h => by
  obtain ⟨p, h1, h2⟩ := pairs_of q fun r hr => h r (List.mem_cons_of_mem _ hr)
  obtain ⟨n, hn, e⟩ := List.mem_iff_getElem.1 (h (x, o) List.mem_cons_self)
  refine ⟨(n : Int) :: p, ?_, fun j r hr => ?_⟩
  ·simp only [List.map_cons, choiceB, Bool.and_eq_true]
   exact ⟨idxB_of_lt hn, h1⟩
  ·cases j with
   | zero =>
    simp only [List.getElem?_cons_zero, Option.some.injEq] at hr
    subst hr
    have e' : x.opts[n]? = some o := by rw [List.getElem?_eq_getElem hn]; exact congrArg some e
    simp [optOf, e']
   | succ j =>
    simp only [List.getElem?_cons_succ] at hr
    simpa [optOf] using h2 j r hr
theorem stand_choice {s : List WishD} : StandP s ↔ ∃ p, choiceB s p = true ∧ freeB s p = true := by
 constructor
 ·rintro ⟨q, rfl, h2, h3⟩
  obtain ⟨p, h4, h5⟩ := pairs_of q h2
  refine ⟨p, h4, ?_⟩
  have hl := choice_len h4
  rw [List.length_map] at hl
  unfold freeB
  rw [List.all_eq_true]
  intro d hd
  have hd := List.mem_range.1 hd
  have hany : (decide (0 ≤ earlierI (q.map Prod.fst) p d)) = false := by
   unfold earlierI
   rw [findI_ge, List.any_eq_false]
   intro i hi
   have hi := List.mem_range.1 hi
   have g1 := h5 i q[i] (List.getElem?_eq_getElem (by omega))
   have g2 := h5 d q[d] (List.getElem?_eq_getElem (by omega))
   have := (List.pairwise_iff_getElem.1 h3) i d (by omega) (by omega) hi
   simp only [clashAt, g1, g2]
   simp [this]
  rw [hany]; rfl
 ·rintro ⟨p, h1, h2⟩
  obtain ⟨h3, h4, h5⟩ := pairs_fst h1
  refine ⟨pairsOf s p, h3, h4, List.pairwise_iff_getElem.2 fun i j hi hj hij => ?_⟩
  have hl := choice_len h1
  have hl2 : (pairsOf s p).length = s.length := by rw [← h3, List.length_map, h3]
  have := freeB_no h2 (i := i) (d := j) (by omega) (by omega) (by omega)
  have g1 := h5 i _ (List.getElem?_eq_getElem hi)
  have g2 := h5 j _ (List.getElem?_eq_getElem hj)
  simpa only [clashAt, g1, g2] using this
theorem standB_iff {s : List WishD} : standB s = true ↔ StandP s := by
 rw [standB_ne, stand_choice]
 constructor
 ·intro hn
  obtain ⟨c, hc⟩ := List.exists_mem_of_ne_nil _ hn
  obtain ⟨hm, hp⟩ := List.mem_filter.1 hc
  obtain ⟨p, h1, h2, _⟩ := mem_choicesL.1 hm
  simp only [List.nil_append] at h1
  rw [h1, okFrom_free] at hp
  exact ⟨p, h2, hp⟩
 ·rintro ⟨p, h1, h2⟩ hn
  have : (p, sumH s p) ∈ lawfulL s := List.mem_filter.2 ⟨mem_choicesL.2 ⟨p, by simp, h1, by simp⟩, by rw [okFrom_free]; exact h2⟩
  rw [hn] at this
  cases this
theorem StandP.sub {s s' : List WishD} (h : StandP s) (hs : s' <+ s) : StandP s' := by
 obtain ⟨q, rfl, h2, h3⟩ := h
 obtain ⟨q', h4, rfl⟩ := List.sublist_map_iff.1 hs
 exact ⟨q', rfl, fun r hr => h2 r (h4.subset hr), h3.sublist h4⟩
theorem standB_sub {s s' : List WishD} (h : standB s = true) (hs : s' <+ s) : standB s' = true := standB_iff.2 ((standB_iff.1 h).sub hs)
theorem standB_nil : standB [] = true := standB_iff.2 ⟨[], rfl, fun _ h => (by cases h), List.Pairwise.nil⟩
theorem standB_one {x : WishD} (h : 0 < x.opts.length) : standB [x] = true :=
 standB_iff.2 ⟨[(x, x.opts[0])], rfl, fun r hr => by (rw [List.mem_singleton.1 hr]; exact List.getElem_mem h), List.pairwise_singleton _ _⟩
def geo (m : Nat) : Nat → Nat
 | 0 => 1
 | n + 1 => 1 + m * geo m n
theorem geo_mono {m : Nat} (hm : 1 ≤ m) : ∀ {a b : Nat}, a ≤ b → geo m a ≤ geo m b
 | 0, 0, _ => Nat.le_refl _
 | 0, b + 1, _ => by
  have h1 : 1 ≤ geo m b := geo_mono hm (a := 0) (Nat.zero_le b)
  simp only [geo]; omega
 | a + 1, 0, h => by omega
 | a + 1, b + 1, h => by
  have := Nat.mul_le_mul_left m (geo_mono hm (a := a) (b := b) (by omega))
  simp only [geo]; omega
theorem treeMax_geo {m : Nat} : ∀ {s : List WishD}, (∀ x ∈ s, x.opts.length ≤ m) → treeMax s ≤ geo m s.length
 | [], _ => Nat.le_refl _
 | x :: r, h => by
  have h1 := treeMax_geo (s := r) fun y hy => h y (List.mem_cons_of_mem _ hy)
  have h2 := h x List.mem_cons_self
  have := Nat.mul_le_mul h2 h1
  simp only [treeMax, List.length_cons, geo]
  omega
structure SmallT (t : List WishD) : Prop where
 len : t.length ≤ 6
 opts : ∀ x ∈ t, 0 < x.opts.length ∧ x.opts.length ≤ 5
theorem subT_mem {t : List WishD} {l : List Int} (hi : ∀ x ∈ l, idxB x t.length = true) {y : WishD} (hy : y ∈ subT t l) : y ∈ t := by
 obtain ⟨x, hx, rfl⟩ := List.mem_map.1 hy
 obtain ⟨n, rfl, hn⟩ := idxB_nat (hi x hx)
 rw [Int.toNat_natCast, List.getElem?_eq_getElem hn, Option.getD_some]
 exact List.getElem_mem hn
theorem SmallT.tree {t : List WishD} (h : SmallT t) {l : List Int} (hi : ∀ x ∈ l, idxB x t.length = true) (hl : l.length ≤ 6) : treeMax (subT t l) ≤ 65536 := by
 have h1 := treeMax_geo (m := 5) (s := subT t l) fun x hx => (h.opts x (subT_mem hi hx)).2
 have h2 := geo_mono (m := 5) (by decide) (a := (subT t l).length) (b := 6) (by rw [sub_len]; exact hl)
 have h3 : geo 5 6 ≤ 65536 := by decide
 omega
theorem subT_sub {t : List WishD} {l l' : List Int} (h : l' <+ l) : subT t l' <+ subT t l := h.map _
theorem subT_up (t : List WishD) : subT t (upI t.length) = t := by
 unfold subT upI
 rw [List.map_map]
 apply List.ext_getElem?
 intro j
 rw [List.getElem?_map]
 by_cases h : j < t.length
 ·simp [List.getElem?_range h, List.getElem?_eq_getElem h]
 ·rw [List.getElem?_eq_none (by simp; omega), List.getElem?_eq_none (by omega)]; rfl
def selSt (t : List WishD) (l : List Int) : Bool := standB (subT t l)
theorem selSt_sub {t : List WishD} {l l' : List Int} (h : selSt t l = true) (hs : l' <+ l) : selSt t l' = true := standB_sub h (subT_sub hs)
theorem up_idx {n : Nat} {l : List Int} (h : l <+ upI n) : ∀ x ∈ l, idxB x n = true := fun x hx => upI_idx x (h.subset hx)
theorem up_len {n : Nat} {l : List Int} (h : l <+ upI n) : l.length ≤ n := by have := h.length_le; rwa [upI_len] at this
theorem SmallT.stands {t : List WishD} (h : SmallT t) {l : List Int} (hs : l <+ upI t.length) : standsT t l = (selSt t l, 0) :=
 stands_is (h.tree (up_idx hs) (Nat.le_trans (up_len hs) h.len))
theorem erase_comm {l : List Int} {i k : Nat} (h : i ≤ k) : (l.eraseIdx (k + 1)).eraseIdx i = (l.eraseIdx i).eraseIdx k := by
 induction l generalizing i k with
 | nil => simp
 | cons x l ih =>
  cases i with
  | zero => simp
  | succ i =>
   cases k with
   | zero => omega
   | succ k => simp [ih (i := i) (k := k) (by omega)]
def CoreP (t : List WishD) (l : List Int) : Prop := selSt t l = false ∧ ∀ k, k < l.length → selSt t (l.eraseIdx k) = true
theorem ofLoop_core {t : List WishD} (h : SmallT t) : ∀ (i : Nat) (l : List Int), l <+ upI t.length → i ≤ l.length → selSt t l = false → (∀ k, i ≤ k → k < l.length → selSt t (l.eraseIdx k) = true) →
  ∃ L, ofLoop t i l = (L, true, 0) ∧ L <+ l ∧ CoreP t L
 | 0, l, hs, _, hn, hk => ⟨l, rfl, List.Sublist.refl _, hn, fun k hk' => hk k (Nat.zero_le _) hk'⟩
 | i + 1, l, hs, hi, hn, hk => by
  have he : l.eraseIdx i <+ l := List.eraseIdx_sublist l i
  simp only [ofLoop]
  rw [h.stands (he.trans hs)]
  simp only [ne_eq, not_true_eq_false, if_false]
  cases hc : selSt t (l.eraseIdx i) with
  | true =>
   rw [if_pos rfl]
   exact ofLoop_core h i l hs (by omega) hn fun k h1 h2 => by
    by_cases e : k = i
    ·rw [e]; exact hc
    ·exact hk k (by omega) h2
  | false =>
   rw [if_neg (by simp)]
   have hl : (l.eraseIdx i).length + 1 = l.length := by rw [List.length_eraseIdx, if_pos (by omega)]; omega
   obtain ⟨L, e1, e2, e3⟩ := ofLoop_core h i (l.eraseIdx i) (he.trans hs) (by omega) hc fun k h1 h2 => by
    rw [← erase_comm h1]
    exact selSt_sub (hk (k + 1) (by omega) (by omega)) (List.eraseIdx_sublist _ _)
   exact ⟨L, e1, e2.trans he, e3⟩
theorem selSt_up (t : List WishD) : selSt t (upI t.length) = standB t := by unfold selSt; rw [subT_up]
theorem of_stands {t : List WishD} (h : SmallT t) (hv : validT t = 0) (hs : standB t = true) : ofT t = ([], false, 0) := by
 unfold ofT
 rw [if_pos hv, h.stands (List.Sublist.refl _), selSt_up, hs]
 rfl
theorem of_core {t : List WishD} (h : SmallT t) (hv : validT t = 0) (hs : standB t = false) : ∃ L, ofT t = (L, true, 0) ∧ L <+ upI t.length ∧ CoreP t L := by
 unfold ofT
 rw [if_pos hv, h.stands (List.Sublist.refl _), selSt_up, hs]
 have := ofLoop_core h t.length (upI t.length) (List.Sublist.refl _) (by rw [upI_len]; exact Nat.le_refl _) (by rw [selSt_up]; exact hs) (fun k h1 h2 => by rw [upI_len] at h2; omega)
 simpa using this
theorem CoreP.two {t : List WishD} (h : SmallT t) {l : List Int} (hs : l <+ upI t.length) (hc : CoreP t l) : 2 ≤ l.length := by
 rcases l with _ | ⟨x, _ | ⟨y, l⟩⟩
 ·have := hc.1
  unfold selSt subT at this
  rw [List.map_nil, standB_nil] at this
  cases this
 ·have := hc.1
  have hm := subT_mem (up_idx hs) (y := t[x.toNat]?.getD default) (by simp [subT])
  unfold selSt subT at this
  rw [List.map_cons, List.map_nil, standB_one (h.opts _ hm).1] at this
  cases this
 ·simp
def combs (n : Nat) : Nat → Nat → List Int → List (List Int)
 | 0, _, l => [l]
 | k + 1, first, l => (List.range' first (n - first)).flatMap fun i => combs n k (i + 1) (l ++ [(i : Int)])
def sels (n : Nat) : List (List Int) := (List.range (n + 1)).flatMap fun size => combs n size 0 []
def upFrom (first n : Nat) : List Int := (List.range' first (n - first)).map fun k : Nat => (k : Int)
theorem upFrom_zero (n : Nat) : upFrom 0 n = upI n := by simp [upFrom, upI, List.range_eq_range']
theorem upFrom_nil {first n : Nat} (h : n ≤ first) : upFrom first n = [] := by simp [upFrom, Nat.sub_eq_zero_of_le h]
theorem upFrom_cons {first n : Nat} (h : first < n) : upFrom first n = (first : Int) :: upFrom (first + 1) n := by
 unfold upFrom
 rw [show n - first = (n - (first + 1)) + 1 by omega, List.range'_succ]
 rfl
theorem cons_up {n : Nat} {x : Int} {s : List Int} : ∀ (d first : Nat), n - first = d → (x :: s <+ upFrom first n ↔ ∃ i : Nat, first ≤ i ∧ i < n ∧ x = i ∧ s <+ upFrom (i + 1) n)
 | 0, first, hd => by
  rw [upFrom_nil (by omega)]
  refine ⟨fun h => (by cases h), ?_⟩
  rintro ⟨i, h1, h2, _⟩
  omega
 | d + 1, first, hd => by
  rw [upFrom_cons (by omega)]
  constructor
  ·intro h
   cases h with
   | cons _ h =>
    obtain ⟨i, h1, h2, h3, h4⟩ := (cons_up d (first + 1) (by omega)).1 h
    exact ⟨i, by omega, h2, h3, h4⟩
   | cons_cons _ h => exact ⟨first, Nat.le_refl _, by omega, rfl, h⟩
  ·rintro ⟨i, h1, h2, rfl, h4⟩
   by_cases e : i = first
   ·subst e; exact h4.cons_cons _
   ·exact ((cons_up d (first + 1) (by omega)).2 ⟨i, by omega, h2, rfl, h4⟩).cons _
theorem mem_combs {n : Nat} : ∀ {k first : Nat} {l c : List Int}, c ∈ combs n k first l ↔ ∃ s, c = l ++ s ∧ s.length = k ∧ s <+ upFrom first n
 | 0, first, l, c => by
  simp only [combs, List.mem_singleton]
  constructor
  ·rintro rfl; exact ⟨[], by simp, rfl, List.nil_sublist _⟩
  ·rintro ⟨s, rfl, h, _⟩
   rw [List.length_eq_zero_iff] at h
   simp [h]
 | k + 1, first, l, c => by
  simp only [combs, List.mem_flatMap, List.mem_range'_1]
  constructor
  ·rintro ⟨i, hi, h⟩
   obtain ⟨s, rfl, h2, h3⟩ := mem_combs.1 h
   exact ⟨(i : Int) :: s, by simp, by simp [h2], (cons_up _ first rfl).2 ⟨i, hi.1, by omega, rfl, h3⟩⟩
  ·rintro ⟨s, rfl, h2, h3⟩
   cases s with
   | nil => simp at h2
   | cons x s =>
    obtain ⟨i, h4, h5, rfl, h6⟩ := (cons_up _ first rfl).1 h3
    exact ⟨i, ⟨h4, by omega⟩, mem_combs.2 ⟨s, by simp, by simpa using h2, h6⟩⟩
theorem mem_sels {n : Nat} {c : List Int} : c ∈ sels n ↔ c <+ upI n := by
 unfold sels
 rw [List.mem_flatMap]
 constructor
 ·rintro ⟨k, _, h⟩
  obtain ⟨s, rfl, _, h3⟩ := mem_combs.1 h
  rw [upFrom_zero] at h3
  simpa using h3
 ·intro h
  exact ⟨c.length, List.mem_range.2 (by have := up_len h; omega), mem_combs.2 ⟨c, by simp, rfl, by rw [upFrom_zero]; exact h⟩⟩
theorem LexB.irrefl : ∀ (a : List Int), ¬ LexB a a
 | [], h => by simp [LexB] at h
 | x :: a, h => by
  simp only [LexB] at h
  rcases h with h | ⟨_, h⟩
  ·omega
  ·exact LexB.irrefl a h
def coreB (t : List WishD) (l : List Int) : Bool := !selSt t l && (List.range l.length).all fun k => selSt t (l.eraseIdx k)
theorem coreB_iff {t : List WishD} {l : List Int} : coreB t l = true ↔ CoreP t l := by
 unfold coreB CoreP
 simp [List.all_eq_true]
theorem upI_sorted (n : Nat) : (upI n).Pairwise (· < ·) := by
 unfold upI
 rw [List.pairwise_map]
 exact (List.pairwise_lt_range (n := n)).imp fun h => by omega
theorem rise_sub : ∀ {l c : List Int}, l.Pairwise (· < ·) → c.Pairwise (· < ·) → (∀ x ∈ c, x ∈ l) → c <+ l
 | _, [], _, _, _ => List.nil_sublist _
 | [], x :: c, _, _, h => by have := h x List.mem_cons_self; cases this
 | y :: l, x :: c, hl, hc, h => by
  rw [List.pairwise_cons] at hl hc
  by_cases e : x = y
  ·subst e
   refine (rise_sub hl.2 hc.2 fun z hz => ?_).cons_cons _
   rcases List.mem_cons.1 (h z (List.mem_cons_of_mem _ hz)) with rfl | hz'
   ·have := hc.1 _ hz; omega
   ·exact hz'
  ·have hx : x ∈ l := by
    rcases List.mem_cons.1 (h x List.mem_cons_self) with h1 | h1
    ·exact absurd h1 e
    ·exact h1
   have hxy := hl.1 x hx
   refine (rise_sub hl.2 (List.pairwise_cons.2 hc) fun z hz => ?_).cons _
   rcases List.mem_cons.1 (h z hz) with rfl | hz'
   ·rcases List.mem_cons.1 hz with rfl | hz2
    ·omega
    ·have := hc.1 _ hz2; omega
   ·exact hz'
theorem kidsG_quiet {f : Int → OptD → Nat → Res} : ∀ (l : List OptD) (i : Int) (N : Nat), (∀ o ∈ l, ∀ i N, (f i o N).ests = []) → (kidsG f l i N).ests = []
 | [], _, _, _ => rfl
 | o :: r, i, N, h => by
  simp only [kidsG, List.append_eq_nil_iff]
  exact ⟨h o List.mem_cons_self _ _, kidsG_quiet r _ _ fun o' ho => h o' (List.mem_cons_of_mem _ ho)⟩
theorem growL_quiet (t : List WishD) (b : Int) : ∀ (l : List WishD) (pre : List Int) (harm : Int) (N : Nat), (∀ x ∈ l, ∀ o ∈ x.opts, 0 ≤ o.harm ∧ o.harm ≤ 1000000) → harm + 1000000 * l.length < b → (growL t b l pre harm N).ests = []
 | [], pre, harm, N, _, hb => by
  simp only [growL]
  split
  ·rfl
  ·rw [if_neg (by simp at hb; omega)]
 | x :: r, pre, harm, N, h, hb => by
  have h1 := leastSum_bd (x :: r) fun y hy o ho => (h y hy o ho).1
  simp only [growL]
  split
  ·rfl
  ·rw [if_neg (by omega)]
   refine kidsG_quiet _ _ _ fun o ho i N => growL_quiet t b r _ _ _ (fun y hy => h y (List.mem_cons_of_mem _ hy)) ?_
   have := h x List.mem_cons_self o ho
   simp only [List.length_cons] at hb
   omega
theorem wishes_sub : ∀ {s t : List WishD} {p : Option Int}, s <+ t → wishesB p t = true → wishesB p s = true := by
 intro s t p hs
 induction hs generalizing p with
 | slnil => exact id
 | cons x hs ih =>
  intro h
  simp only [wishesB, Bool.and_eq_true] at h
  have h2 := ih h.2
  rename_i l1 l2
  cases l1 with
  | nil => rfl
  | cons y l1 =>
   simp only [wishesB, Bool.and_eq_true] at h2 ⊢
   refine ⟨⟨h2.1.1, ?_⟩, h2.2⟩
   cases p with
   | none => rfl
   | some e =>
    have a := h.1.2
    have b := h2.1.2
    simp only [decide_eq_true_eq] at a b ⊢
    omega
 | cons_cons x hs ih =>
  intro h
  simp only [wishesB, Bool.and_eq_true] at h ⊢
  exact ⟨h.1, ih h.2⟩
theorem valid_sub {t s : List WishD} (hv : validT t = 0) (hs : s <+ t) (hn : s ≠ []) : validT s = 0 := by
 obtain ⟨h1, _⟩ := validT_ok hv
 unfold validT at hv ⊢
 rw [h1] at hv
 have hb : tooLargeB s = false := by
  simp only [tooLargeB, Bool.or_eq_false_iff, decide_eq_false_iff_not, List.any_eq_false] at h1 ⊢
  exact ⟨by have := hs.length_le; omega, fun x hx => h1.2 x (hs.subset hx)⟩
 rw [hb]
 simp only [Bool.false_eq_true, if_false] at hv ⊢
 cases hw : wishesB none t with
 | false => rw [hw] at hv; simp at hv
 | true =>
  rw [wishes_sub hs hw]
  have : 0 < s.length := List.length_pos_iff.2 hn
  simp [this]
theorem subT_up_sub {t : List WishD} {l : List Int} (h : l <+ upI t.length) : subT t l <+ t := by
 have := subT_sub (t := t) h
 rwa [subT_up] at this
theorem subT_valid {t : List WishD} {l : List Int} (hv : validT t = 0) (h : l <+ upI t.length) (hn : l ≠ []) : validT (subT t l) = 0 :=
 valid_sub hv (subT_up_sub h) (by
  intro e
  have := congrArg List.length e
  rw [sub_len] at this
  exact hn (List.length_eq_zero_iff.1 this))
theorem selB_of : ∀ {n : Nat} {l : List Int} {last : Int}, l.Pairwise (· < ·) → (∀ x ∈ l, last < x ∧ x < n) → selB n last l = true
 | _, [], _, _, _ => rfl
 | n, x :: l, last, h, hx => by
  rw [List.pairwise_cons] at h
  have := hx x List.mem_cons_self
  simp only [selB, Bool.and_eq_true, decide_eq_true_eq]
  exact ⟨this, selB_of h.2 fun y hy => ⟨h.1 y hy, (hx y (List.mem_cons_of_mem _ hy)).2⟩⟩
theorem selB_up : ∀ {n : Nat} {l : List Int} {last : Int}, -1 ≤ last → selB n last l = true → l.Pairwise (· < ·) ∧ ∀ x ∈ l, last < x
 | _, [], _, _, _ => ⟨List.Pairwise.nil, fun _ h => by cases h⟩
 | n, x :: l, last, h0, h => by
  simp only [selB, Bool.and_eq_true, decide_eq_true_eq] at h
  obtain ⟨h1, h2⟩ := selB_up (l := l) (by omega) h.2
  refine ⟨List.pairwise_cons.2 ⟨h2, h1⟩, fun y hy => ?_⟩
  rcases List.mem_cons.1 hy with rfl | hy
  ·exact h.1.1
  ·have := h2 y hy; omega
theorem up_mem {n : Nat} {x : Int} : x ∈ upI n ↔ 0 ≤ x ∧ x < n := by
 unfold upI
 rw [List.mem_map]
 constructor
 ·rintro ⟨k, hk, rfl⟩
  have := List.mem_range.1 hk
  omega
 ·intro h
  exact ⟨x.toNat, List.mem_range.2 (by omega), by omega⟩
theorem selB_iff {n : Nat} {l : List Int} : selB n (-1) l = true ↔ l <+ upI n := by
 constructor
 ·intro h
  refine rise_sub (upI_sorted n) (selB_up (by omega) h).1 fun x hx => up_mem.2 ?_
  have := selB_idx (by omega) h x hx
  simpa [idxB] using this
 ·intro h
  refine selB_of ((upI_sorted n).sublist h) fun x hx => ?_
  have := up_mem.1 (h.subset hx)
  omega
theorem checkI_sel {t : List WishD} {l : List Int} (hv : validT t = 0) (h : l <+ upI t.length) : checkI t l = 0 := by
 unfold checkI
 rw [if_pos hv, selB_iff.2 h]
 rfl
def showT (t : List WishD) (l : List Int) : List NodeD × Int :=
 if checkI t l = 0 then (if l.length = 0 then ([], 1) else if (standsT t l).2 ≠ 0 then ([], (standsT t l).2) else if (standsT t l).1 then ([], 4) else ((growL (subT t l) 1000000000 (subT t l) [] 0 0).nodes, 0)) else ([], checkI t l)
theorem not_standB {s : List WishD} (h : standB s = false) : lawfulL s = [] := by
 unfold standB at h
 cases hl : lawfulL s with
 | nil => rfl
 | cons a b => rw [hl] at h; simp at h
theorem grow_opens {s : List WishD} (h : standB s = false) (b : Int) : (growL s b s [] 0 0).opens = [] := by
 rw [opens_lawful, not_standB h]
 rfl
theorem few_of {t : List WishD} (hv : validT t = 0) : t.length ≤ 512 := by
 have := tooLarge_len (validT_ok hv).1
 omega
theorem grow_ests {s : List WishD} (hv : validT s = 0) : (growL s 1000000000 s [] 0 0).ests = [] :=
 growL_quiet s _ s [] 0 0 (harms_of hv) (by have := few_of hv; omega)
theorem show_core {t : List WishD} (hs : SmallT t) (hv : validT t = 0) {l : List Int} (h : l <+ upI t.length) (hn : l ≠ []) (hst : selSt t l = false) :
  showT t l = ((growL (subT t l) 1000000000 (subT t l) [] 0 0).nodes, 0) := by
 unfold showT
 rw [if_pos (checkI_sel hv h), if_neg (fun e => hn (List.length_eq_zero_iff.1 e)), hs.stands h, hst]
 rfl
theorem cert_core {t : List WishD} (hs : SmallT t) (hv : validT t = 0) {l : List Int} (h : l <+ upI t.length) (hn : l ≠ []) (hst : selSt t l = false) :
  checkT (subT t l) 1000000000 (growL (subT t l) 1000000000 (subT t l) [] 0 0).nodes = 0 := by
 have hv' := subT_valid hv h hn
 refine check_grow hv' (hs.tree (up_idx h) (Nat.le_trans (up_len h) hs.len)) ?_ ?_
 ·rw [grow_ests hv']; intro e he; cases he
 ·rw [grow_opens hst]; intro e he; cases he
theorem lack_is {t : List WishD} (hs : SmallT t) {l : List Int} (h : l <+ upI t.length) : ∀ (ks : List Nat), lackI t l ks = if (ks.all fun k => selSt t (l.eraseIdx k)) = true then 0 else 11
 | [] => rfl
 | k :: ks => by
  simp only [lackI]
  rw [hs.stands ((List.eraseIdx_sublist l k).trans h)]
  simp only [ne_eq, not_true_eq_false, if_false, List.all_cons, Bool.and_eq_true]
  cases selSt t (l.eraseIdx k) with
  | true => simp [lack_is hs h ks]
  | false => simp
theorem coreCheck_is {t : List WishD} (hs : SmallT t) (hv : validT t = 0) {l : List Int} (h : l <+ upI t.length) (hn : l ≠ []) (c : List NodeD) :
  coreCheckT t l c = if checkT (subT t l) 1000000000 c = 0 then (if ((List.range l.length).all fun k => selSt t (l.eraseIdx k)) = true then 0 else 11) else checkT (subT t l) 1000000000 c := by
 unfold coreCheckT
 rw [if_pos (checkI_sel hv h), if_neg (fun e => hn (List.length_eq_zero_iff.1 e)), lack_is hs h]
def allC (t : List WishD) : List (List Int) := (sels t.length).filter (coreB t)
theorem mem_allC {t : List WishD} {l : List Int} : l ∈ allC t ↔ l <+ upI t.length ∧ CoreP t l := by
 unfold allC
 rw [List.mem_filter, mem_sels, coreB_iff]
theorem of_is {t : List WishD} (h : SmallT t) (hv : validT t = 0) : ∃ L, ofT t = (L, !standB t, 0) ∧ (standB t = true → L = []) ∧ (standB t = false → L ∈ allC t) := by
 cases hs : standB t with
 | true => exact ⟨[], by rw [of_stands h hv hs]; rfl, fun _ => rfl, fun e => by cases e⟩
 | false =>
  obtain ⟨L, h1, h2, h3⟩ := of_core h hv hs
  exact ⟨L, h1, (fun e => by cases e), fun _ => mem_allC.2 ⟨h2, h3⟩⟩
end Go.Proofs.YtgolicoalldidaaGreat
