/- Merged parts: KG, KH, KI. -/
import Derived.Test.YtjglidlmpjmjeaaGreatDoorKF
/- The memory of core.Show's search: nodes of which some are open. -/
namespace Go.Proofs.YtjglidlmpjmjeaaGreatDoor
open Go.RowKit

def NodesQ (w : World) (B : Nat) (Z : Nat → Prop) (O : Nat → Prop) : Nat → List NodeD → List Value → Prop
 | _, [], xs => xs = []
 | k, n :: ns, xs => ∃ kv r, xs = .int .i64 n.wish :: kv :: .int .i64 n.clA :: .int .i64 n.clB :: r ∧ (¬ O k → KidsOk w B Z kv n.kids) ∧ NodesQ w B Z O (k + 1) ns r
section
variable {w w' : World} {B : Nat} {Z Z' O O' X : Nat → Prop} {kv : Value} {kids : List Int}
theorem NodesQ.keep (k : Keep X w w') (hX : IntFar w Z X) : ∀ {j : Nat} {nodes : List NodeD} {xs : List Value}, NodesQ w B Z O j nodes xs → NodesQ w' B Z O j nodes xs
 | _, [], _, h => h
 | _, _ :: _, _, ⟨kv, r, e, h1, h2⟩ => ⟨kv, r, e, fun ho => (h1 ho).keep k hX, NodesQ.keep k hX h2⟩
theorem NodesQ.len : ∀ {j : Nat} {nodes : List NodeD} {xs : List Value}, NodesQ w B Z O j nodes xs → xs.length = nodes.length * 4
 | _, [], _, h => by cases h; rfl
 | _, _ :: _, _, ⟨kv', r, e, h1, h2⟩ => by rw [e]; have := NodesQ.len h2; simp; omega
theorem NodesQ.snoc {n : NodeD} : ∀ {j : Nat} {nodes : List NodeD} {xs : List Value}, NodesQ w B Z O j nodes xs → (¬ O (j + nodes.length) → KidsOk w B Z kv n.kids) →
  NodesQ w B Z O j (nodes ++ [n]) (xs ++ [.int .i64 n.wish, kv, .int .i64 n.clA, .int .i64 n.clB])
 | _, [], _, h, hk => by cases h; exact ⟨kv, [], rfl, hk, rfl⟩
 | j, _ :: ns, _, ⟨kv', r, e, h1, h2⟩, hk => ⟨kv', _, by rw [e]; rfl, h1, NodesQ.snoc h2 (by have e2 : j + 1 + ns.length = j + (ns.length + 1) := by omega
                                                                                             rw [e2]; exact hk)⟩
theorem NodesQ.at_ : ∀ {j : Nat} {nodes : List NodeD} {xs : List Value}, NodesQ w B Z O j nodes xs → ∀ i n, nodes[i]? = some n → ∃ kv, xs[i * 4]? = some (.int .i64 n.wish) ∧ xs[i * 4 + 1]? = some kv ∧ xs[i * 4 + 2]? = some (.int .i64 n.clA) ∧ xs[i * 4 + 3]? = some (.int .i64 n.clB) ∧ (¬ O (j + i) → KidsOk w B Z kv n.kids)
 | _, [], _, _, i, n, h => by simp at h
 | j, m :: ns, _, ⟨kv', r, e, h1, h2⟩, 0, n, h => by
  simp at h; subst h
  exact ⟨kv', by rw [e]; rfl, by rw [e]; rfl, by rw [e]; rfl, by rw [e]; rfl, h1⟩
 | j, m :: ns, _, ⟨kv', r, e, h1, h2⟩, i + 1, n, h => by
  obtain ⟨kv, a, b, c, d, k⟩ := NodesQ.at_ h2 i n (by simpa using h)
  have e4 : ∀ q, (i + 1) * 4 + q = (i * 4 + q) + 1 + 1 + 1 + 1 := fun q => by omega
  refine ⟨kv, ?_, ?_, ?_, ?_, ?_⟩
  ·rw [e, show (i + 1) * 4 = i * 4 + 1 + 1 + 1 + 1 by omega]; exact a
  ·rw [e, e4]; exact b
  ·rw [e, e4]; exact c
  ·rw [e, e4]; exact d
  ·rw [show j + (i + 1) = j + 1 + i by omega]; exact k
theorem NodesQ.set_ {n' : NodeD} (i : Nat) : ∀ {j : Nat} {nodes : List NodeD} {xs : List Value}, NodesQ w B Z O j nodes xs → i < nodes.length → (¬ O (j + i) → KidsOk w B Z kv n'.kids) →
  NodesQ w B Z O j (nodes.set i n') ((((xs.set (i * 4) (.int .i64 n'.wish)).set (i * 4 + 1) kv).set (i * 4 + 2) (.int .i64 n'.clA)).set (i * 4 + 3) (.int .i64 n'.clB)) := by
 induction i with
 | zero =>
  intro j nodes xs h hi hk
  cases nodes with
  | nil => simp at hi
  | cons m ns =>
   obtain ⟨kv', r, e, h1, h2⟩ := h
   exact ⟨kv, r, by rw [e]; rfl, hk, h2⟩
 | succ i ih =>
  intro j nodes xs h hi hk
  cases nodes with
  | nil => simp at hi
  | cons m ns =>
   obtain ⟨kv', r, e, h1, h2⟩ := h
   have := ih h2 (by simpa using hi) (by rw [show j + 1 + i = j + (i + 1) by omega]; exact hk)
   refine ⟨kv', _, ?_, h1, this⟩
   rw [e]
   have e4 : ∀ q, (i + 1) * 4 + q = (i * 4 + q) + 1 + 1 + 1 + 1 := fun q => by omega
   rw [e4 1, e4 2, e4 3, show (i + 1) * 4 = i * 4 + 1 + 1 + 1 + 1 by omega]
   rfl
theorem NodesQ.less (hz : ∀ g, Z' g → Z g) : ∀ {j : Nat} {nodes : List NodeD} {xs : List Value}, NodesQ w B Z O j nodes xs → NodesQ w B Z' O j nodes xs
 | _, [], _, h => h
 | _, _ :: _, _, ⟨kv, r, e, h1, h2⟩ => ⟨kv, r, e, fun ho => (h1 ho).less hz, NodesQ.less hz h2⟩
theorem NodesQ.more (hz : ∀ g, g < w.heap.size → Z' g → Z g) : ∀ {j : Nat} {nodes : List NodeD} {xs : List Value}, NodesQ w B Z O j nodes xs → NodesQ w B Z' O j nodes xs
 | _, [], _, h => h
 | _, _ :: _, _, ⟨kv, r, e, h1, h2⟩ => ⟨kv, r, e, fun ho => (h1 ho).more hz, NodesQ.more hz h2⟩
theorem NodesQ.open_ (ho : ∀ i, O i → O' i) : ∀ {j : Nat} {nodes : List NodeD} {xs : List Value}, NodesQ w B Z O j nodes xs → NodesQ w B Z O' j nodes xs
 | _, [], _, h => h
 | _, _ :: _, _, ⟨kv, r, e, h1, h2⟩ => ⟨kv, r, e, fun h => h1 (fun h' => h (ho _ h')), NodesQ.open_ ho h2⟩
theorem NodesQ.shut {i : Nat} : ∀ {j : Nat} {nodes : List NodeD} {xs : List Value}, NodesQ w B Z (fun k => O k ∨ k = i) j nodes xs → (∀ n kv, nodes[i - j]? = some n → j ≤ i → xs[(i - j) * 4 + 1]? = some kv → KidsOk w B Z kv n.kids) → NodesQ w B Z O j nodes xs
 | _, [], _, h, _ => h
 | j, m :: ns, xs, ⟨kv, r, e, h1, h2⟩, hk => by
  refine ⟨kv, r, e, fun ho => ?_, NodesQ.shut h2 fun n kv' hn hj hx => ?_⟩
  ·by_cases hji : j = i
   ·subst hji
    exact hk m kv (by simp) (Nat.le_refl _) (by rw [e]; simp)
   ·exact h1 (fun h => by rcases h with h | h; exact ho h; exact hji h)
  ·refine hk n kv' ?_ (by omega) ?_
   ·rw [show i - j = (i - (j + 1)) + 1 by omega]; simpa using hn
   ·rw [e, show (i - j) * 4 + 1 = ((i - (j + 1)) * 4 + 1) + 1 + 1 + 1 + 1 by omega]
    exact hx
end
end Go.Proofs.YtjglidlmpjmjeaaGreatDoor

/- The memory of core.Show's search: the struct of what stands; what each write makes of it. -/
namespace Go.Proofs.YtjglidlmpjmjeaaGreatDoor
open Go.RowKit

section
variable {w w' : World} {B : Nat} {Z Z' O O' X : Nat → Prop} {kv : Value} {kids : List Int}
theorem NodesQ.setW {x : Int} (i : Nat) : ∀ {j : Nat} {nodes : List NodeD} {xs : List Value} {n : NodeD}, NodesQ w B Z O j nodes xs → nodes[i]? = some n → NodesQ w B Z O j (nodes.set i { n with wish := x }) (xs.set (i * 4) (.int .i64 x)) := by
 induction i with
 | zero =>
  intro j nodes xs n h hn
  cases nodes with
  | nil => simp at hn
  | cons m ns =>
   simp at hn
   subst hn
   obtain ⟨kv', r, e, h1, h2⟩ := h
   exact ⟨kv', r, by rw [e]; rfl, h1, h2⟩
 | succ i ih =>
  intro j nodes xs n h hn
  cases nodes with
  | nil => simp at hn
  | cons m ns =>
   obtain ⟨kv', r, e, h1, h2⟩ := h
   have := ih h2 (by simpa using hn)
   refine ⟨kv', _, ?_, h1, this⟩
   rw [e, show (i + 1) * 4 = (i * 4) + 1 + 1 + 1 + 1 by omega]
   rfl
theorem NodesQ.setA {x : Int} (i : Nat) : ∀ {j : Nat} {nodes : List NodeD} {xs : List Value} {n : NodeD}, NodesQ w B Z O j nodes xs → nodes[i]? = some n → NodesQ w B Z O j (nodes.set i { n with clA := x }) (xs.set (i * 4 + 2) (.int .i64 x)) := by
 induction i with
 | zero =>
  intro j nodes xs n h hn
  cases nodes with
  | nil => simp at hn
  | cons m ns =>
   simp at hn
   subst hn
   obtain ⟨kv', r, e, h1, h2⟩ := h
   exact ⟨kv', r, by rw [e]; rfl, h1, h2⟩
 | succ i ih =>
  intro j nodes xs n h hn
  cases nodes with
  | nil => simp at hn
  | cons m ns =>
   obtain ⟨kv', r, e, h1, h2⟩ := h
   have := ih h2 (by simpa using hn)
   refine ⟨kv', _, ?_, h1, this⟩
   rw [e, show (i + 1) * 4 + 2 = (i * 4 + 2) + 1 + 1 + 1 + 1 by omega]
   rfl
theorem NodesQ.setB {x : Int} (i : Nat) : ∀ {j : Nat} {nodes : List NodeD} {xs : List Value} {n : NodeD}, NodesQ w B Z O j nodes xs → nodes[i]? = some n → NodesQ w B Z O j (nodes.set i { n with clB := x }) (xs.set (i * 4 + 3) (.int .i64 x)) := by
 induction i with
 | zero =>
  intro j nodes xs n h hn
  cases nodes with
  | nil => simp at hn
  | cons m ns =>
   simp at hn
   subst hn
   obtain ⟨kv', r, e, h1, h2⟩ := h
   exact ⟨kv', r, by rw [e]; rfl, h1, h2⟩
 | succ i ih =>
  intro j nodes xs n h hn
  cases nodes with
  | nil => simp at hn
  | cons m ns =>
   obtain ⟨kv', r, e, h1, h2⟩ := h
   have := ih h2 (by simpa using hn)
   refine ⟨kv', _, ?_, h1, this⟩
   rw [e, show (i + 1) * 4 + 3 = (i * 4 + 3) + 1 + 1 + 1 + 1 by omega]
   rfl
theorem NodesQ.setK (i : Nat) : ∀ {j : Nat} {nodes : List NodeD} {xs : List Value}, NodesQ w B Z O j nodes xs → O (j + i) → i < nodes.length → NodesQ w B Z O j nodes (xs.set (i * 4 + 1) kv) := by
 induction i with
 | zero =>
  intro j nodes xs h ho hi
  cases nodes with
  | nil => simp at hi
  | cons m ns =>
   obtain ⟨kv', r, e, h1, h2⟩ := h
   exact ⟨kv, r, by rw [e]; rfl, fun hn => absurd ho hn, h2⟩
 | succ i ih =>
  intro j nodes xs h ho hi
  cases nodes with
  | nil => simp at hi
  | cons m ns =>
   obtain ⟨kv', r, e, h1, h2⟩ := h
   have := ih h2 (by rw [show j + 1 + i = j + (i + 1) by omega]; exact ho) (by simpa using hi)
   refine ⟨kv', _, ?_, h1, this⟩
   rw [e, show (i + 1) * 4 + 1 = (i * 4 + 1) + 1 + 1 + 1 + 1 by omega]
   rfl
theorem NodesQ.above {q : Nat} : ∀ {j : Nat} {nodes : List NodeD} {xs : List Value}, NodesQ w B Z (fun k => O k ∨ k = q) j nodes xs → q < j → NodesQ w B Z O j nodes xs
 | _, [], _, h, _ => h
 | _, _ :: _, _, ⟨kv, r, e, h1, h2⟩, hq => ⟨kv, r, e, fun ho => h1 (fun h => by rcases h with h | h; exact ho h; omega), NodesQ.above h2 (by omega)⟩
theorem NodesQ.close (i : Nat) : ∀ {j : Nat} {nodes : List NodeD} {xs : List Value} {n : NodeD}, NodesQ w B Z (fun k => O k ∨ k = j + i) j nodes xs → nodes[i]? = some n → xs[i * 4 + 1]? = some kv → KidsOk w B Z kv kids → NodesQ w B Z O j (nodes.set i { n with kids := kids }) xs := by
 induction i with
 | zero =>
  intro j nodes xs n h hn hx hk
  cases nodes with
  | nil => simp at hn
  | cons m ns =>
   simp at hn
   subst hn
   obtain ⟨kv', r, e, h1, h2⟩ := h
   rw [e] at hx
   simp at hx
   subst hx
   refine ⟨kv', r, e, fun _ => hk, ?_⟩
   exact NodesQ.above h2 (by omega)
 | succ i ih =>
  intro j nodes xs n h hn hx hk
  cases nodes with
  | nil => simp at hn
  | cons m ns =>
   obtain ⟨kv', r, e, h1, h2⟩ := h
   rw [e, show (i + 1) * 4 + 1 = (i * 4 + 1) + 1 + 1 + 1 + 1 by omega] at hx
   have := ih (j := j + 1) (n := n) (by rw [show j + 1 + i = j + (i + 1) by omega]; exact h2) (by simpa using hn) (by simpa using hx) hk
   exact ⟨kv', r, e, fun ho => h1 (fun h' => by rcases h' with h' | h'; exact ho h'; omega), this⟩
end

structure Shw (w0 w : World) (Z O : Nat → Prop) (Ob Sb Pb Fb Pk : Nat) (nv : Value) (sa : Option Addr) (sc : Nat) (t : List WishD) (pick : List Int) (nodes : List NodeD) (xs : List Value) : Prop where
 ext : Ext w0 w
 obox : Blk w Ob 42 #[nv]
 sbox : Blk w Sb 27 #[.slice sa t.length sc]
 pbox : Blk w Pb 23 #[.slice (some ⟨Pk, 0, none⟩) t.length t.length]
 fbox : Blk w Fb 76 #[.func (.func 48) #[] #[.pointer (some ⟨Ob, 0, none⟩), .pointer (some ⟨Sb, 0, none⟩), .pointer (some ⟨Pb, 0, none⟩), .pointer (some ⟨Fb, 0, none⟩)]]
 row : Blk w Pk 3 (pick.map (Value.int .i64)).toArray
 plen : pick.length = t.length
 o0 : w0.heap.size ≤ Ob
 p0 : w0.heap.size ≤ Pk
 zP : Z Pk
 owns : w.ownsRow w0.heap.size 48 4 nv nodes.length xs
 cells : NodesQ w w0.heap.size Z O 0 nodes xs
section
variable {w0 w w' : World} {Z Z' O O' : Nat → Prop} {Ob Sb Pb Fb Pk g m c : Nat} {nv nv' kv : Value} {sa : Option Addr} {sc : Nat} {t : List WishD} {pick : List Int} {nodes : List NodeD} {xs : List Value}
theorem Shw.far (h : Shw w0 w Z O Ob Sb Pb Fb Pk nv sa sc t pick nodes xs) : IntFar w Z (SX Ob Pk nv) := by
 intro g hg
 rcases hg with rfl | rfl | hg
 ·exact Or.inr fun cs hc => by have := blk_type hc h.obox; revert this; decide
 ·exact Or.inl h.zP
 ·obtain ⟨cs', hc'⟩ := owns_block h.owns hg
  exact Or.inr fun cs hc => by have := blk_type hc hc'; revert this; decide
theorem Shw.old (h : Shw w0 w Z O Ob Sb Pb Fb Pk nv sa sc t pick nodes xs) : ∀ i, i < w0.heap.size → ¬ SX Ob Pk nv i := by
 rintro i hi (rfl | rfl | hg)
 ·have := h.o0; omega
 ·have := h.p0; omega
 ·have := (h.owns.lt i hg).1; omega
theorem Shw.nv_ne (h : Shw w0 w Z O Ob Sb Pb Fb Pk nv sa sc t pick nodes xs) : nv.ownBlock ≠ some Ob ∧ nv.ownBlock ≠ some Pk ∧ nv.ownBlock ≠ some Sb ∧ nv.ownBlock ≠ some Pb ∧ nv.ownBlock ≠ some Fb :=
 ⟨own_blk_ne h.owns h.obox (by decide), own_blk_ne h.owns h.row (by decide), own_blk_ne h.owns h.sbox (by decide), own_blk_ne h.owns h.pbox (by decide), own_blk_ne h.owns h.fbox (by decide)⟩
theorem Shw.toExt (h : Shw w0 w Z O Ob Sb Pb Fb Pk nv sa sc t pick nodes xs) (e : Ext w w') : Shw w0 w' Z O Ob Sb Pb Fb Pk nv sa sc t pick nodes xs := by
 have k : Keep (fun _ => False) w w' := Keep.of_ext e
 exact ⟨h.ext.trans e, k.blk h.obox id, k.blk h.sbox id, k.blk h.pbox id, k.blk h.fbox id, k.blk h.row id, h.plen, h.o0, h.p0, h.zP, k.owns h.owns (fun _ _ => id), h.cells.keep k no_x⟩
theorem Shw.setPick (h : Shw w0 w Z O Ob Sb Pb Fb Pk nv sa sc t pick nodes xs) (d : Nat) (i : Int) : Shw w0 (w.setCell ⟨Pk, d, none⟩ (.int .i64 i)) Z O Ob Sb Pb Fb Pk nv sa sc t (pick.set d i) nodes xs := by
 have k := keep_set w Pk d (.int .i64 i)
 have hi : IntFar w Z (fun k => k = Pk) := fun g hg => Or.inl (by rw [hg]; exact h.zP)
 have hpk := h.row.set_ d (.int .i64 i)
 have e : (pick.map (Value.int .i64)).toArray.setIfInBounds d (.int .i64 i) = ((pick.set d i).map (Value.int .i64)).toArray := by simp [List.map_set]
 rw [e] at hpk
 refine ⟨h.ext.setCell h.p0 _, k.blk h.obox (h.obox.ne_ h.row (by decide)), k.blk h.sbox (h.sbox.ne_ h.row (by decide)), k.blk h.pbox (h.pbox.ne_ h.row (by decide)), k.blk h.fbox (h.fbox.ne_ h.row (by decide)), hpk, by rw [List.length_set]; exact h.plen, h.o0, h.p0, h.zP, k.owns h.owns (fun g hg e => h.nv_ne.2.1 (by rw [hg, e])), h.cells.keep k hi⟩
theorem Shw.pushed (h : Shw w0 w Z O Ob Sb Pb Fb Pk nv sa sc t pick nodes xs) {n : NodeD} (hn : n.kids = []) (hb : Blk w' Ob 42 #[nv'])
  (ho : w'.ownsRow w0.heap.size 48 4 nv' (nodes.length + 1) (xs ++ [.int .i64 n.wish, .slice none 0 0, .int .i64 n.clA, .int .i64 n.clB]))
  (k : Keep (fun k => k = Ob ∨ nv.ownBlock = some k) w w') : Shw w0 w' Z O Ob Sb Pb Fb Pk nv' sa sc t pick (nodes ++ [n]) (xs ++ [.int .i64 n.wish, .slice none 0 0, .int .i64 n.clA, .int .i64 n.clB]) := by
 have hX : ∀ g, (fun k => k = Ob ∨ nv.ownBlock = some k) g → SX Ob Pk nv g := fun g hg => by rcases hg with e | e; exact Or.inl e; exact Or.inr (Or.inr e)
 have hi : IntFar w Z (fun k => k = Ob ∨ nv.ownBlock = some k) := fun g hg => h.far g (hX g hg)
 obtain ⟨n1, n2, n3, n4, n5⟩ := h.nv_ne
 refine ⟨h.ext.keep k (fun i hi hx => h.old i hi (hX i hx)), hb, k.blk h.sbox ?_, k.blk h.pbox ?_, k.blk h.fbox ?_, k.blk h.row ?_, h.plen, h.o0, h.p0, h.zP, by rw [List.length_append]; exact ho, ?_⟩
 ·rintro (e | e)
  ·exact h.sbox.ne_ h.obox (by decide) e
  ·exact n3 e
 ·rintro (e | e)
  ·exact h.pbox.ne_ h.obox (by decide) e
  ·exact n4 e
 ·rintro (e | e)
  ·exact h.fbox.ne_ h.obox (by decide) e
  ·exact n5 e
 ·rintro (e | e)
  ·exact h.row.ne_ h.obox (by decide) e
  ·exact n2 e
 ·exact (h.cells.keep k hi).snoc (fun _ => by rw [hn]; exact ⟨World.ownsRow_nil _ _ _ _, by simp [Value.ownBlock]⟩)
theorem Shw.setCell (h : Shw w0 w Z O Ob Sb Pb Fb Pk (.slice (some ⟨g, 0, none⟩) m c) sa sc t pick nodes xs) {q : Nat} {v : Value} {nodes' : List NodeD} (hl : nodes'.length = nodes.length)
  (hc : NodesQ (w.setCell ⟨g, q, none⟩ v) w0.heap.size Z O 0 nodes xs → NodesQ (w.setCell ⟨g, q, none⟩ v) w0.heap.size Z O 0 nodes' (xs.set q v)) :
  Shw w0 (w.setCell ⟨g, q, none⟩ v) Z O Ob Sb Pb Fb Pk (.slice (some ⟨g, 0, none⟩) m c) sa sc t pick nodes' (xs.set q v) := by
 have k := keep_set w g q v
 have hX : ∀ j, j = g → SX Ob Pk (.slice (some ⟨g, 0, none⟩) m c) j := fun j e => Or.inr (Or.inr (by simp [Value.ownBlock, e]))
 have hi : IntFar w Z (fun k => k = g) := fun j e => h.far j (hX j e)
 obtain ⟨n1, n2, n3, n4, n5⟩ := h.nv_ne
 have e9 : (Value.slice (some ⟨g, 0, none⟩) m c).ownBlock = some g := rfl
 have hm : m = nodes.length := by
  rcases h.owns.2 with ⟨e, _⟩ | ⟨g', cap, cur, e, _⟩ <;> cases e
  rfl
 subst hm
 refine ⟨h.ext.setCell ((h.owns.lt g rfl).1) _, k.blk h.obox (fun e => n1 (by rw [e9, e])), k.blk h.sbox (fun e => n3 (by rw [e9, e])), k.blk h.pbox (fun e => n4 (by rw [e9, e])), k.blk h.fbox (fun e => n5 (by rw [e9, e])), k.blk h.row (fun e => n2 (by rw [e9, e])), h.plen, h.o0, h.p0, h.zP, by rw [hl]; exact (h.owns.stored q v).1, hc (h.cells.keep k hi)⟩
end
end Go.Proofs.YtjglidlmpjmjeaaGreatDoor

/- core.Show's closure: what a round of its loop does to the memory; plain words on trees without open leaves. -/
namespace Go.Proofs.YtjglidlmpjmjeaaGreatDoor
open Go.RowKit

section
variable {w0 w w' : World} {Z Z' O O' X : Nat → Prop} {Ob Sb Pb Fb Pk : Nat} {nv nv' kv : Value} {sa : Option Addr} {sc : Nat} {t : List WishD} {pick : List Int} {nodes : List NodeD} {xs : List Value}
theorem Shw.less (h : Shw w0 w Z O Ob Sb Pb Fb Pk nv sa sc t pick nodes xs) (hz : ∀ g, Z' g → Z g) (hp : Z' Pk) : Shw w0 w Z' O Ob Sb Pb Fb Pk nv sa sc t pick nodes xs :=
 ⟨h.ext, h.obox, h.sbox, h.pbox, h.fbox, h.row, h.plen, h.o0, h.p0, hp, h.owns, h.cells.less hz⟩
theorem Shw.more (h : Shw w0 w Z O Ob Sb Pb Fb Pk nv sa sc t pick nodes xs) (hz : ∀ g, g < w.heap.size → Z' g → Z g) (hp : Z' Pk) : Shw w0 w Z' O Ob Sb Pb Fb Pk nv sa sc t pick nodes xs :=
 ⟨h.ext, h.obox, h.sbox, h.pbox, h.fbox, h.row, h.plen, h.o0, h.p0, hp, h.owns, h.cells.more hz⟩
theorem Shw.opened (h : Shw w0 w Z O Ob Sb Pb Fb Pk nv sa sc t pick nodes xs) (ho : ∀ i, O i → O' i) : Shw w0 w Z O' Ob Sb Pb Fb Pk nv sa sc t pick nodes xs :=
 ⟨h.ext, h.obox, h.sbox, h.pbox, h.fbox, h.row, h.plen, h.o0, h.p0, h.zP, h.owns, h.cells.open_ ho⟩
theorem Shw.rowed (h : Shw w0 w Z O Ob Sb Pb Fb Pk nv sa sc t pick nodes xs) (k : Keep X w w') (hX : ∀ g, X g → Z g ∧ g ≠ Pk ∧ w0.heap.size ≤ g ∧ ∃ cs, Blk w g 3 cs) :
  Shw w0 w' Z O Ob Sb Pb Fb Pk nv sa sc t pick nodes xs := by
 have hi : IntFar w Z X := fun g hg => Or.inl (hX g hg).1
 have far : ∀ {g : Nat} {e : TypeId} {cs : Array Value}, Blk w g e cs → e ≠ 3 → ¬ X g := fun hb hne hx => by
  obtain ⟨cs', hc'⟩ := (hX _ hx).2.2.2
  exact hne (blk_type hb hc')
 refine ⟨h.ext.keep k (fun i hi hx => by have := (hX i hx).2.2.1; omega), k.blk h.obox (far h.obox (by decide)), k.blk h.sbox (far h.sbox (by decide)), k.blk h.pbox (far h.pbox (by decide)), k.blk h.fbox (far h.fbox (by decide)), k.blk h.row (fun hx => (hX _ hx).2.1 rfl), h.plen, h.o0, h.p0, h.zP, k.owns h.owns (fun g hg hx => ?_), h.cells.keep k hi⟩
 obtain ⟨cs, hc⟩ := owns_block h.owns hg
 exact far hc (by decide) hx
theorem Shw.node (h : Shw w0 w Z O Ob Sb Pb Fb Pk nv sa sc t pick nodes xs) (hn : 0 < nodes.length) :
  ∃ g c, nv = .slice (some ⟨g, 0, none⟩) nodes.length c ∧ g < w.heap.size ∧ (∃ cs, Blk w g 48 cs) ∧ (∀ q u, xs[q]? = some u → w.cell? ⟨g, q, none⟩ = some u) ∧ ∀ q, w.frozen? ⟨g, q, none⟩ = false := by
 rcases h.owns.2 with ⟨_, h0⟩ | ⟨g, cap, cur, rfl, hb, hg, hcap, hm, hcs, htake⟩
 ·omega
 ·have hblk : Blk w g 48 cur := hg
  refine ⟨g, cap, rfl, hblk.lt, ⟨cur, hblk⟩, fun q u hq => ?_, fun q => hblk.frozen q⟩
  rw [hblk.cell]
  have hlt : q < xs.length := (List.getElem?_eq_some_iff.1 hq).1
  rw [← htake, List.getElem?_take] at hq
  split at hq
  ·simpa using hq
  ·cases hq
end

structure RoundK (Z O : Nat → Prop) (w0 w1 wr : World) (Ob Sb Pb Fb Pk : Nat) (nv1 nv : Value) (sa : Option Addr) (sc : Nat) (t : List WishD) (pick pre : List Int) (nodes : List NodeD) (N : Nat) (xs0 xs : List Value) (kv : Value) (kn : List NodeD) (kk : List Int) : Prop where
 shw : Shw w0 wr (ZK Z kv) (fun k => O k ∨ k = N) Ob Sb Pb Fb Pk nv sa sc t pick (nodes ++ kn) xs
 preIs : pick.take pre.length = pre
 keep : Keep (SX Ob Pk nv1) w1 wr
 nvs : nv.ownBlock = nv1.ownBlock ∨ ∃ g, nv.ownBlock = some g ∧ w1.heap.size ≤ g
 row : wr.ownsRow w1.heap.size 3 1 kv kk.length (kk.map (Value.int .i64))
 cell : xs[N * 4 + 1]? = some kv
 old : ∀ i, O i → xs[i * 4 + 1]? = xs0[i * 4 + 1]?
section
variable {Z O : Nat → Prop} {w0 w1 wr w3 w4 V : World} {Ob Sb Pb Fb Pk : Nat} {nv1 nv nv' kv v' : Value} {sa : Option Addr} {sc g m c : Nat} {t : List WishD} {pick pre pick' : List Int} {nodes : List NodeD} {N : Nat} {xs0 xs xs' : List Value} {kn rn : List NodeD} {kk : List Int} {idx : Int}
theorem RoundK.toExt (R : RoundK Z O w0 w1 wr Ob Sb Pb Fb Pk nv1 nv sa sc t pick pre nodes N xs0 xs kv kn kk) (e : Ext wr V) : RoundK Z O w0 w1 V Ob Sb Pb Fb Pk nv1 nv sa sc t pick pre nodes N xs0 xs kv kn kk :=
 ⟨R.shw.toExt e, R.preIs, R.keep.trans (Keep.of_ext e), R.nvs, owns_ext R.row e, R.cell, R.old⟩
theorem RoundK.appended (R : RoundK Z O w0 w1 V Ob Sb Pb Fb Pk nv1 (.slice (some ⟨g, 0, none⟩) m c) sa sc t pick pre nodes N xs0 xs kv kn kk) (hP : Pk < w1.heap.size) (hN : N < (nodes ++ kn).length) (hO : ∀ i, O i → i ≠ N)
  (hw0 : w0.heap.size ≤ w1.heap.size)
  (hown : w4.ownsRow w1.heap.size 3 1 v' (kk.length + 1) (kk.map (Value.int .i64) ++ [.int .i64 idx])) (hg : V.grownBy w4 kv.ownBlock) (hat : v'.ownBlock = kv.ownBlock ∨ v'.ownBlock = some V.heap.size) :
  RoundK Z O w0 w1 (w4.setCell ⟨g, N * 4 + 1, none⟩ v') Ob Sb Pb Fb Pk nv1 (.slice (some ⟨g, 0, none⟩) m c) sa sc t pick pre nodes N xs0 (xs.set (N * 4 + 1) v') v' kn (kk ++ [idx]) := by
 have hbase : ∀ g, kv.ownBlock = some g → w1.heap.size ≤ g := fun g hg => (R.row.lt g hg).1
 have kk1 : Keep (fun g => kv.ownBlock = some g) V w4 := Keep.grown (X := fun g => kv.ownBlock = some g) (Keep.refl _ _) hg (fun g h => Or.inl h)
 have hzP : Z Pk := by
  rcases R.shw.zP with h | h
  ·exact h
  ·have := hbase _ h; omega
 have s1 : Shw w0 V (fun g => ZK Z kv g ∨ v'.ownBlock = some g) (fun k => O k ∨ k = N) Ob Sb Pb Fb Pk (.slice (some ⟨g, 0, none⟩) m c) sa sc t pick (nodes ++ kn) xs := by
  refine R.shw.more (fun i hi h => ?_) (Or.inl R.shw.zP)
  rcases h with h | h
  ·exact h
  ·rcases hat with e | e
   ·rw [e] at h; exact Or.inr h
   ·rw [e] at h; cases h; omega
 have s2 := s1.rowed kk1 (fun i hi => ⟨Or.inl (Or.inr hi), by rintro rfl; have := hbase _ hi; omega, by have := hbase _ hi; omega, owns_block R.row hi⟩)
 have s3 : Shw w0 w4 (ZK Z v') (fun k => O k ∨ k = N) Ob Sb Pb Fb Pk (.slice (some ⟨g, 0, none⟩) m c) sa sc t pick (nodes ++ kn) xs := s2.less (fun i h => by rcases h with h | h; exact Or.inl (Or.inl h); exact Or.inr h) (Or.inl hzP)
 have s4 := s3.setCell (nodes' := nodes ++ kn) (q := N * 4 + 1) (v := v') rfl (fun h => h.setK N (Or.inr (by omega)) hN)
 have hgb : ∃ cs, Blk w4 g 48 cs := owns_block s3.owns rfl
 have hlen := s3.cells.len
 refine ⟨s4, R.preIs, ?_, R.nvs, ?_, ?_, ?_⟩
 ·refine ((R.keep.trans' (Y := fun g => kv.ownBlock = some g) kk1 (fun i hi h => by have := hbase _ h; omega))).setCell ?_ _
  rcases R.nvs with e | ⟨g', e, hge⟩
  ·exact Or.inl (Or.inr (Or.inr (by rw [← e]; rfl)))
  ·simp [Value.ownBlock] at e; subst e; exact Or.inr hge
 ·have := (keep_set w4 g (N * 4 + 1) v').owns hown (fun i hi h => by
   subst h
   obtain ⟨cs, hc⟩ := owns_block hown hi
   obtain ⟨cs', hc'⟩ := hgb
   have := blk_type hc hc'
   revert this; decide)
  simpa using this
 ·rw [List.getElem?_set_self (by rw [hlen]; omega)]
 ·intro i hi
  have := hO i hi
  rw [List.getElem?_set_ne (by omega)]
  exact R.old i hi
theorem RoundK.picked (R : RoundK Z O w0 w1 wr Ob Sb Pb Fb Pk nv1 nv sa sc t pick pre nodes N xs0 xs kv kn kk) (hP : Pk < w1.heap.size) (i : Int) :
  RoundK Z O w0 w1 (wr.setCell ⟨Pk, pre.length, none⟩ (.int .i64 i)) Ob Sb Pb Fb Pk nv1 nv sa sc t (pick.set pre.length i) pre nodes N xs0 xs kv kn kk :=
 ⟨R.shw.setPick _ _, by rw [List.take_set_of_le (Nat.le_refl _)]; exact R.preIs, R.keep.setCell (Or.inl (Or.inr (Or.inl rfl))) _, R.nvs,
  (keep_set wr Pk pre.length (.int .i64 i)).owns R.row (fun j hj h => by have := (R.row.lt j hj).1; omega), R.cell, R.old⟩
theorem RoundK.called (R : RoundK Z O w0 w1 wr Ob Sb Pb Fb Pk nv1 nv sa sc t pick pre nodes N xs0 xs kv kn kk) (hP : Pk < w1.heap.size) (hs : Shw w0 w3 (ZK Z kv) (fun k => O k ∨ k = N) Ob Sb Pb Fb Pk nv' sa sc t pick' (nodes ++ kn ++ rn) xs')
  {i : Int} (htk : pick'.take (pre.length + 1) = pre ++ [i]) (k3 : Keep (SX Ob Pk nv) wr w3) (hnv : nv'.ownBlock = nv.ownBlock ∨ ∃ g, nv'.ownBlock = some g ∧ wr.heap.size ≤ g) (hold : ∀ i, O i ∨ i = N → xs'[i * 4 + 1]? = xs[i * 4 + 1]?) :
  RoundK Z O w0 w1 w3 Ob Sb Pb Fb Pk nv1 nv' sa sc t pick' pre nodes N xs0 xs' kv (kn ++ rn) kk := by
 refine ⟨by rw [← List.append_assoc]; exact hs, take_le htk, keep_chain R.keep R.nvs k3, nvs_chain R.keep.size R.nvs hnv, k3.owns R.row (fun g hg hx => ?_), (hold N (Or.inr rfl)).trans R.cell, fun i hi => (hold i (Or.inl hi)).trans (R.old i hi)⟩
 obtain ⟨cs, hc⟩ := owns_block R.row hg
 rcases hx with h | h | h
 ·have := blk_type (h ▸ hc) R.shw.obox; revert this; decide
 ·have := (R.row.lt g hg).1; omega
 ·obtain ⟨cs', hc'⟩ := owns_block R.shw.owns h
  have := blk_type hc hc'; revert this; decide
theorem RoundK.closed (R : RoundK Z O w0 w1 wr Ob Sb Pb Fb Pk nv1 nv sa sc t pick pre nodes N xs0 xs kv kn kk) (hZ : ∀ g, Z g → g < w1.heap.size) (hw0 : w0.heap.size ≤ w1.heap.size) (hzP : Z Pk) {n : NodeD} (hn : (nodes ++ kn)[N]? = some n) :
  Shw w0 wr Z O Ob Sb Pb Fb Pk nv sa sc t pick ((nodes ++ kn).set N { n with kids := kk }) xs := by
 have s := R.shw.less (Z' := Z) (fun g h => Or.inl h) hzP
 have hkv : KidsOk wr w0.heap.size Z kv kk := ⟨owns_base R.row hw0, fun g hg hz => by have := (R.row.lt g hg).1; have := hZ g hz; omega⟩
 refine ⟨s.ext, s.obox, s.sbox, s.pbox, s.fbox, s.row, s.plen, s.o0, s.p0, s.zP, by rw [List.length_set]; exact s.owns, ?_⟩
 have := s.cells
 exact NodesQ.close (j := 0) N (this.open_ (fun k h => by rw [Nat.zero_add]; exact h)) hn R.cell hkv
end

/-! ### trees without open leaves -/
theorem kidsG_none (f : Int → OptD → Nat → Res) : ∀ (l : List OptD) (i : Int) (N : Nat), (kidsG f l i N).opens = [] → (kidsG f l i N).ests = [] → ∀ (k : Nat) (o : OptD), l[k]? = some o →
  (f (i + k) o (N + (kidsG f (l.take k) i N).nodes.length)).opens = [] ∧ (f (i + k) o (N + (kidsG f (l.take k) i N).nodes.length)).ests = []
 | [], _, _, _, _, _, _, h => by simp at h
 | x :: r, i, N, h1, h2, k, o, hk => by
  simp only [kidsG, List.append_eq_nil_iff] at h1 h2
  cases k with
  | zero =>
   simp at hk
   subst hk
   simpa [kidsG] using And.intro h1.1 h2.1
  | succ k =>
   have := kidsG_none f r (i + 1) _ h1.2 h2.2 k o (by simpa using hk)
   simp only [List.take_succ_cons, kidsG, List.length_append]
   rw [show i + ((k + 1 : Nat) : Int) = i + 1 + (k : Int) by omega, ← Nat.add_assoc]
   exact this
end Go.Proofs.YtjglidlmpjmjeaaGreatDoor
