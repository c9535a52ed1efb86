/- The law's changes of a certificate: the list of nodes that is written, as memory. -/
import Derived.Test.YtjglidlmpjmjeaaGreatDoorPJ
namespace Go.Proofs.YtjglidlmpjmjeaaGreatDoor
open Go.RowKit

def KidsS (w0 W : World) (kv : Value) (kids : List Int) : Prop := Ints w0 kv kids ∨ IntsO W w0.heap.size kv kids
def NodesK (w0 W : World) : List NodeD → List Value → Prop
 | [], xs => xs = []
 | n :: ns, xs => ∃ kv r, xs = .int .i64 n.wish :: kv :: .int .i64 n.clA :: .int .i64 n.clB :: r ∧ KidsS w0 W kv n.kids ∧ NodesK w0 W ns r
structure NodesS (w0 W : World) (v : Value) (c : List NodeD) : Prop where
 ext : Ext w0 W
 row : ∃ xs, W.ownsRow w0.heap.size 48 4 v c.length xs ∧ NodesK w0 W c xs
section
variable {w0 W W' : World} {v kv : Value} {c : List NodeD} {kids : List Int} {X : Nat → Prop}
theorem KidsS.keep (h : KidsS w0 W kv kids) (k : Keep X W W') (hX : TX W X 48) : KidsS w0 W' kv kids := by
 rcases h with h | h
 ·exact Or.inl h
 ·exact Or.inr (h.keepT k hX (by decide))
theorem KidsS.read (h : KidsS w0 W kv kids) (e : Ext w0 W) : Ints W kv kids := by
 rcases h with h | h
 ·exact h.ext e
 ·exact h.read
theorem NodesK.keep (k : Keep X W W') (hX : TX W X 48) : ∀ {c : List NodeD} {xs : List Value}, NodesK w0 W c xs → NodesK w0 W' c xs
 | [], _, h => h
 | _ :: _, _, ⟨kv, r, e, h1, h2⟩ => ⟨kv, r, e, h1.keep k hX, NodesK.keep k hX h2⟩
theorem NodesK.snoc {n : NodeD} (hk : KidsS w0 W kv n.kids) : ∀ {c : List NodeD} {xs : List Value}, NodesK w0 W c xs → NodesK w0 W (c ++ [n]) (xs ++ [.int .i64 n.wish, kv, .int .i64 n.clA, .int .i64 n.clB])
 | [], _, h => by cases h; exact ⟨kv, [], rfl, hk, rfl⟩
 | _ :: _, _, ⟨kv', r, e, h1, h2⟩ => ⟨kv', _, by rw [e]; rfl, h1, NodesK.snoc hk h2⟩
theorem NodesK.len : ∀ {c : List NodeD} {xs : List Value}, NodesK w0 W c xs → xs.length = c.length * 4
 | [], _, h => by cases h; rfl
 | _ :: _, _, ⟨_, _, e, _, h2⟩ => by rw [e]; have := NodesK.len h2; simp; omega
theorem NodesK.take : ∀ {c : List NodeD} {xs : List Value} (m : Nat), NodesK w0 W c xs → NodesK w0 W (c.take m) (xs.take (m * 4))
 | [], _, m, h => by cases h; cases m <;> simp [NodesK]
 | _ :: _, _, 0, _ => by simp [NodesK]
 | _ :: _, _, m + 1, ⟨kv, r, e, h1, h2⟩ => ⟨kv, r.take (m * 4), by rw [e, show (m + 1) * 4 = m * 4 + 1 + 1 + 1 + 1 by omega]; rfl, h1, NodesK.take m h2⟩
theorem NodesK.set_ : ∀ {c : List NodeD} {xs : List Value} (i : Nat) (n : NodeD), NodesK w0 W c xs → c[i]? = some n →
  (∀ x, NodesK w0 W (c.set i { n with wish := x }) (xs.set (i * 4) (.int .i64 x))) ∧ (∀ x, NodesK w0 W (c.set i { n with clA := x }) (xs.set (i * 4 + 2) (.int .i64 x))) ∧ (∀ x, NodesK w0 W (c.set i { n with clB := x }) (xs.set (i * 4 + 3) (.int .i64 x))) ∧
   ∀ kv kids, KidsS w0 W kv kids → NodesK w0 W (c.set i { n with kids := kids }) (xs.set (i * 4 + 1) kv)
 | [], _, i, n, _, hn => by simp at hn
 | m :: ns, _, 0, n, ⟨kv', r, e, h1, h2⟩, hn => by
  simp at hn; subst hn
  rw [e]
  exact ⟨fun x => ⟨kv', r, rfl, h1, h2⟩, fun x => ⟨kv', r, rfl, h1, h2⟩, fun x => ⟨kv', r, rfl, h1, h2⟩, fun kv kids hk => ⟨kv, r, rfl, hk, h2⟩⟩
 | m :: ns, _, i + 1, n, ⟨kv', r, e, h1, h2⟩, hn => by
  obtain ⟨a, b, d, f⟩ := NodesK.set_ i n h2 (by simpa using hn)
  have e4 : ∀ j, (i + 1) * 4 + j = (i * 4 + j) + 1 + 1 + 1 + 1 := fun j => by omega
  rw [e]
  refine ⟨fun x => ⟨kv', r.set (i * 4) (.int .i64 x), ?_, h1, a x⟩, fun x => ⟨kv', r.set (i * 4 + 2) (.int .i64 x), ?_, h1, b x⟩, fun x => ⟨kv', r.set (i * 4 + 3) (.int .i64 x), ?_, h1, d x⟩, fun kv kids hk => ⟨kv', r.set (i * 4 + 1) kv, ?_, h1, f kv kids hk⟩⟩
  ·rw [show (i + 1) * 4 = i * 4 + 1 + 1 + 1 + 1 by omega]; rfl
  ·rw [e4]; rfl
  ·rw [e4]; rfl
  ·rw [e4]; rfl
theorem NodesK.at_ : ∀ {c : List NodeD} {xs : List Value}, NodesK w0 W c xs → ∀ i n, c[i]? = some n → ∃ kv, xs[i * 4]? = some (.int .i64 n.wish) ∧ xs[i * 4 + 1]? = some kv ∧ xs[i * 4 + 2]? = some (.int .i64 n.clA) ∧ xs[i * 4 + 3]? = some (.int .i64 n.clB) ∧ KidsS w0 W kv n.kids
 | [], _, _, i, n, h => by simp at h
 | m :: r, _, ⟨kv, ys, e, h1, h2⟩, 0, n, h => by simp at h; subst h; exact ⟨kv, by rw [e]; rfl, by rw [e]; rfl, by rw [e]; rfl, by rw [e]; rfl, h1⟩
 | m :: r, _, ⟨kv, ys, e, h1, h2⟩, i + 1, n, h => by
  obtain ⟨kv', a, b, c, d, f⟩ := NodesK.at_ h2 i n (by simpa using h)
  have e4 : ∀ j, (i + 1) * 4 + j = (i * 4 + j) + 1 + 1 + 1 + 1 := fun j => by omega
  refine ⟨kv', ?_, ?_, ?_, ?_, f⟩
  ·rw [e, show (i + 1) * 4 = i * 4 + 1 + 1 + 1 + 1 by omega]; exact a
  ·rw [e, e4]; exact b
  ·rw [e, e4]; exact c
  ·rw [e, e4]; exact d
theorem NodesS.read (h : NodesS w0 W v c) : Nodes W v c := by
 obtain ⟨xs, a, b⟩ := h.row
 have hat := b.at_
 refine ⟨fun i => xs[i * 4 + 1]?.getD undef, sl_of_owns a fun i hi j hj => ?_, fun i hi => ?_⟩
 ·obtain ⟨kv, p, q, r, s, _⟩ := hat i c[i] (List.getElem?_eq_getElem hi)
  rcases j with _ | _ | _ | _ | j
  ·rw [Nat.add_zero, p]; simp [hi]
  ·rw [q]; simp [q]
  ·rw [r]; simp [hi]
  ·rw [s]; simp [hi]
  ·omega
 ·obtain ⟨kv, p, q, r, s, hk⟩ := hat i c[i] (List.getElem?_eq_getElem hi)
  simp only [q, List.getElem?_eq_getElem hi, Option.getD_some]
  exact hk.read h.ext
theorem NodesS.toExt (h : NodesS w0 W v c) (e : Ext W W') : NodesS w0 W' v c := by
 obtain ⟨xs, a, b⟩ := h.row
 exact ⟨h.ext.trans e, xs, owns_ext a e, b.keep (Keep.of_ext (X := fun _ => False) e) (TX.no _ _)⟩
theorem NodesS.open_ (h : NodesS w0 W v c) (h0 : 0 < c.length) : ∃ g cap xs, v = .slice (some ⟨g, 0, none⟩) c.length cap ∧ w0.heap.size ≤ g ∧ g < W.heap.size ∧ c.length ≤ cap ∧ cap ≤ 9223372036854775807 ∧
  W.ownsRow w0.heap.size 48 4 (.slice (some ⟨g, 0, none⟩) c.length cap) c.length xs ∧ NodesK w0 W c xs := by
 obtain ⟨xs, a, b⟩ := h.row
 rcases a.2 with ⟨_, hn⟩ | ⟨g, cap, cur, rfl, hb, hg, hn, hcap, hcs, htake⟩
 ·omega
 ·exact ⟨g, cap, xs, rfl, hb, (Array.getElem?_eq_some_iff.1 hg).1, hn, by unfold maxLen at hcap; exact hcap, a, b⟩
theorem NodesS.stored {g cap j : Nat} {xs : List Value} {c' : List NodeD} {u : Value} (e : Ext w0 W) (hr : W.ownsRow w0.heap.size 48 4 (.slice (some ⟨g, 0, none⟩) c.length cap) c.length xs) (hl : c'.length = c.length) (hk : NodesK w0 W c' (xs.set j u)) :
  NodesS w0 (W.setCell ⟨g, j, none⟩ u) (.slice (some ⟨g, 0, none⟩) c'.length cap) c' := by
 have h1 := (hr.stored j u).1
 have k := keep_set W g j u
 have hX : TX W (fun k => k = g) 48 := by
  rintro _ rfl _
  exact owns_block hr rfl
 refine ⟨e.keep k fun i hi h => ?_, _, ?_, hk.keep k hX⟩
 ·have := (hr.lt g rfl).1; omega
 ·rw [hl]; exact h1
theorem NodesS.take {g cap m : Nat} {xs : List Value} (e : Ext w0 W) (hr : W.ownsRow w0.heap.size 48 4 (.slice (some ⟨g, 0, none⟩) c.length cap) c.length xs) (hk : NodesK w0 W c xs) (hm : m ≤ c.length) :
  NodesS w0 W (.slice (some ⟨g, 0, none⟩) m cap) (c.take m) := by
 refine ⟨e, xs.take (m * 4), ?_, hk.take m⟩
 have hl : (c.take m).length = m := by simp; omega
 rw [hl]
 refine ⟨by rw [List.length_take, hr.1]; omega, ?_⟩
 rcases hr.2 with ⟨h, _⟩ | ⟨g', cap', cur, h, hb, hg, hn, hcap, hcs, htake⟩
 ·cases h
 ·cases h
  exact Or.inr ⟨g, cap, cur, rfl, hb, hg, by omega, hcap, hcs, by rw [← htake, List.take_take, Nat.min_eq_left (by omega)]⟩
theorem NodesS.push {W1 : World} {n : NodeD} {v1 : Value} {m : Nat} {xs : List Value} (e : Ext w0 W) (hm : m = c.length) (hr : W.ownsRow w0.heap.size 48 4 v m xs) (hk : NodesK w0 W c xs) (hkv : KidsS w0 W kv n.kids)
  (hown : W1.ownsRow w0.heap.size 48 4 v1 (m + 1) (xs ++ [.int .i64 n.wish, kv, .int .i64 n.clA, .int .i64 n.clB])) (hg : W.grownBy W1 v.ownBlock) : NodesS w0 W1 v1 (c ++ [n]) := by
 have k1 : Keep (fun g => v.ownBlock = some g) W W1 := (Keep.refl _ W).grown hg (fun g e => Or.inl e)
 refine ⟨e.keep k1 fun i hi h => ?_, _, ?_, (hk.snoc hkv).keep k1 (TX.row hr)⟩
 ·have := (hr.lt i h).1; omega
 ·rw [List.length_append, ← hm]; exact hown
end
theorem NodesK.setAll {w0 W : World} {n : NodeD} {kv : Value} (hk : KidsS w0 W kv n.kids) : ∀ {c : List NodeD} {xs : List Value} (i : Nat), NodesK w0 W c xs → i < c.length →
  NodesK w0 W (c.set i n) ((((xs.set (i * 4) (.int .i64 n.wish)).set (i * 4 + 1) kv).set (i * 4 + 2) (.int .i64 n.clA)).set (i * 4 + 3) (.int .i64 n.clB))
 | [], _, i, _, hi => by simp at hi
 | m :: ns, _, 0, ⟨kv', r, e, h1, h2⟩, _ => by rw [e]; exact ⟨kv, r, rfl, hk, h2⟩
 | m :: ns, _, i + 1, ⟨kv', r, e, h1, h2⟩, hi => by
  have ih := NodesK.setAll hk (c := ns) i h2 (by simpa using hi)
  have e4 : ∀ j, (i + 1) * 4 + j = (i * 4 + j) + 1 + 1 + 1 + 1 := fun j => by omega
  refine ⟨kv', _, ?_, h1, ih⟩
  rw [e, e4 1, e4 2, e4 3, show (i + 1) * 4 = i * 4 + 1 + 1 + 1 + 1 by omega]
  rfl
theorem NodesS.stored4 {w0 W : World} {c : List NodeD} {g cap i : Nat} {xs : List Value} {n : NodeD} {kv : Value} (hk : KidsS w0 W kv n.kids) (e : Ext w0 W)
  (hr : W.ownsRow w0.heap.size 48 4 (.slice (some ⟨g, 0, none⟩) c.length cap) c.length xs) (hc : NodesK w0 W c xs) (hi : i < c.length) :
  NodesS w0 ((((W.setCell ⟨g, i * 4, none⟩ (.int .i64 n.wish)).setCell ⟨g, i * 4 + 1, none⟩ kv).setCell ⟨g, i * 4 + 2, none⟩ (.int .i64 n.clA)).setCell ⟨g, i * 4 + 3, none⟩ (.int .i64 n.clB)) (.slice (some ⟨g, 0, none⟩) c.length cap) (c.set i n) := by
 have h1 := (hr.stored (i * 4) (.int .i64 n.wish)).1
 have h2 := (h1.stored (i * 4 + 1) kv).1
 have h3 := (h2.stored (i * 4 + 2) (.int .i64 n.clA)).1
 have h4 := (h3.stored (i * 4 + 3) (.int .i64 n.clB)).1
 have k : Keep (fun k => k = g) W ((((W.setCell ⟨g, i * 4, none⟩ (.int .i64 n.wish)).setCell ⟨g, i * 4 + 1, none⟩ kv).setCell ⟨g, i * 4 + 2, none⟩ (.int .i64 n.clA)).setCell ⟨g, i * 4 + 3, none⟩ (.int .i64 n.clB)) :=
  ((((Keep.refl (fun k => k = g) W).setCell (p := ⟨g, i * 4, none⟩) (Or.inl rfl) _).setCell (p := ⟨g, i * 4 + 1, none⟩) (Or.inl rfl) _).setCell (p := ⟨g, i * 4 + 2, none⟩) (Or.inl rfl) _).setCell (p := ⟨g, i * 4 + 3, none⟩) (Or.inl rfl) _
 have hX : TX W (fun k => k = g) 48 := by
  rintro _ rfl _
  exact owns_block hr rfl
 refine ⟨e.keep k fun j hj h => ?_, _, ?_, (NodesK.setAll hk i hc hi).keep k hX⟩
 ·have := (hr.lt g rfl).1; omega
 ·rw [List.length_set]; exact h4
theorem Ints.take {w : World} {a : Option Addr} {n c m : Nat} {l : List Int} (h : Ints w (.slice a n c) l) (hm : m ≤ n) : Ints w (.slice a m c) (l.take m) := by
 obtain ⟨a', c', e, h1, h2, h3⟩ := h
 have en : n = l.length := by cases e; rfl
 cases e
 have hl : (l.take m).length = m := by simp; omega
 refine ⟨a, c, by rw [hl], by rw [hl]; omega, h2, fun h0 => ?_⟩
 obtain ⟨b, off, e1, e2, e3⟩ := h3 (by omega)
 refine ⟨b, off, e1, e2, fun i hi j hj => ?_⟩
 rw [hl] at hi
 rw [e3 i (by omega) j hj]
 simp only [List.getElem?_take_of_lt hi]

structure ChangeD where
 kind : Int
 at_ : Int
 node : NodeD
instance : Inhabited ChangeD := ⟨⟨0, 0, ⟨0, [], 0, 0⟩⟩⟩
def Changes (w : World) (v : Value) (l : List ChangeD) : Prop :=
 ∃ K : Nat → Value, Sl w 6 v l.length (fun i j => if j = 0 then .int .u8 (l[i]?.getD default).kind else if j = 1 then .int .u8 (l[i]?.getD default).at_ else if j = 2 then .int .i64 (l[i]?.getD default).node.wish else if j = 3 then K i else if j = 4 then .int .i64 (l[i]?.getD default).node.clA else .int .i64 (l[i]?.getD default).node.clB) ∧
  ∀ i, i < l.length → Ints w (K i) (l[i]?.getD default).node.kids ∧ (0 ≤ (l[i]?.getD default).kind ∧ (l[i]?.getD default).kind ≤ 255) ∧ (0 ≤ (l[i]?.getD default).at_ ∧ (l[i]?.getD default).at_ ≤ 255)
theorem Changes.ext {w w' : World} {v : Value} {l : List ChangeD} (h : Changes w v l) (e : Ext w w') : Changes w' v l :=
 let ⟨S, h1, h2⟩ := h
 ⟨S, Sl.ext h1 e, fun i hi => ⟨(h2 i hi).1.ext e, (h2 i hi).2⟩⟩
def ChangesAt (a : Option Addr) (w : World) (l : List ChangeD) : Prop :=
 ∀ i, i < l.length → ∃ (b off : Nat) (x : ChangeD) (ka : Option Addr) (kc : Nat), a = some ⟨b, off, none⟩ ∧ 0 ≤ x.kind ∧ x.kind ≤ 255 ∧ 0 ≤ x.at_ ∧ x.at_ ≤ 255 ∧ x.node.kids.length ≤ 9223372036854775807 ∧ x.node.kids.length ≤ kc ∧ kc ≤ 9223372036854775807 ∧ Ints w (.slice ka x.node.kids.length kc) x.node.kids ∧
  ∀ W, Ext w W → b < W.heap.size ∧ W.cell? ⟨b, off + i * 6, none⟩ = some (.int .u8 x.kind) ∧ W.cell? ⟨b, off + i * 6 + 1, none⟩ = some (.int .u8 x.at_) ∧ W.cell? ⟨b, off + i * 6 + 2, none⟩ = some (.int .i64 x.node.wish) ∧
   W.cell? ⟨b, off + i * 6 + 2 + 1, none⟩ = some (.slice ka x.node.kids.length kc) ∧ W.cell? ⟨b, off + i * 6 + 2 + 2, none⟩ = some (.int .i64 x.node.clA) ∧ W.cell? ⟨b, off + i * 6 + 2 + 3, none⟩ = some (.int .i64 x.node.clB)
theorem Changes.open {w : World} {v : Value} {l : List ChangeD} (h : Changes w v l) :
  ∃ a c, v = .slice a l.length c ∧ l.length ≤ c ∧ c ≤ 9223372036854775807 ∧ ChangesAt a w l := by
 obtain ⟨K, h1, h2⟩ := h
 obtain ⟨a, c, hv, hn, hc, h⟩ := Sl.open h1
 refine ⟨a, c, hv, hn, hc, fun i hi => ?_⟩
 obtain ⟨b, off, ha, hb, h⟩ := h i hi
 have ex : l[i]? = some l[i] := List.getElem?_eq_getElem hi
 obtain ⟨hk, ⟨k0, k1⟩, a0, a1⟩ := h2 i hi
 simp only [ex, Option.getD_some] at hk k0 k1 a0 a1
 obtain ⟨ka, kc, hK, hl1, hl2, _⟩ := Ints.open hk
 refine ⟨b, off, l[i], ka, kc, ha, k0, k1, a0, a1, by omega, hl1, hl2, by rw [← hK]; exact hk, fun W e => ⟨Nat.lt_of_lt_of_le hb e.size, ?_⟩⟩
 have hat := fun j hj => h W e j hj
 refine ⟨?_, ?_, ?_, ?_, ?_, ?_⟩
 ·simpa [ex] using hat 0 (by omega)
 ·simpa [ex] using hat 1 (by omega)
 ·simpa [ex] using hat 2 (by omega)
 ·rw [← hK]; simpa [ex] using hat 3 (by omega)
 ·simpa [ex] using hat 4 (by omega)
 ·simpa [ex] using hat 5 (by omega)
end Go.Proofs.YtjglidlmpjmjeaaGreatDoor
