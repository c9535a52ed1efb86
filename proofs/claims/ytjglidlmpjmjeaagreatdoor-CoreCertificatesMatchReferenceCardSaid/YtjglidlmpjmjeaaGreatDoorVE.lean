/- The reference's tree of a core's certificate: its memory, its walk; the reference's Show. -/
import Derived.Test.YtjglidlmpjmjeaaGreatDoorVR
import Derived.Test.YtjglidlmpjmjeaaGreatDoorKK
namespace Go.Proofs.YtjglidlmpjmjeaaGreatDoor
open Go.RowKit

def OwnW (w0 w : World) (sa : Option Addr) (sc : Nat) (t : List WishD) : Prop := ∃ ws, w.ownsRow w0.heap.size 52 3 (.slice sa t.length sc) t.length ws ∧ WishesC w0 t ws
theorem OwnW.keep {w0 w w' : World} {sa : Option Addr} {sc : Nat} {t : List WishD} {X : Nat → Prop} (h : OwnW w0 w sa sc t) (k : Keep X w w') (hX : ∀ g cs, X g → ¬ Blk w g 52 cs) : OwnW w0 w' sa sc t :=
 let ⟨ws, h1, h2⟩ := h
 ⟨ws, k.owns h1 fun g hg hx => let ⟨cs, hc⟩ := owns_block h1 hg; hX g cs hx hc, h2⟩
theorem OwnW.wish {w0 w : World} {sa : Option Addr} {sc : Nat} {t : List WishD} (h : OwnW w0 w sa sc t) (e : Ext w0 w) : Wishes w (.slice sa t.length sc) t := let ⟨_, h1, h2⟩ := h; wishes_of_rowK h1 (h2.ext e)
structure Trw (w0 w : World) (Z O : Nat → Prop) (Sb Pk : Nat) (nv : Value) (sa : Option Addr) (sc : Nat) (t : List WishD) (pick : List Int) (nodes : List NodeD) (xs : List Value) : Prop where
 ext : Ext w0 w
 own : OwnW w0 w sa sc t
 box : Blk w Sb 81 #[.slice sa t.length sc, .slice (some ⟨Pk, 0, none⟩) t.length t.length, .int .i64 0]
 row : Blk w Pk 3 (pick.map (Value.int .i64)).toArray
 plen : pick.length = t.length
 p0 : w0.heap.size ≤ Pk
 zP : Z Pk
 owns : w.ownsRow w0.heap.size 48 4 nv nodes.length xs
 cells : NodesQ w w0.heap.size Z O 0 nodes xs
section
variable {w0 w w' : World} {Z Z' O O' X : Nat → Prop} {Sb Pk g m c : Nat} {nv nv' kv : Value} {sa : Option Addr} {sc : Nat} {t : List WishD} {pick : List Int} {nodes : List NodeD} {xs : List Value}
theorem Trw.far (h : Trw w0 w Z O Sb Pk nv sa sc t pick nodes xs) : IntFar w Z (SX Pk Pk nv) := by
 intro g hg
 rcases hg with rfl | rfl | hg
 ·exact Or.inl h.zP
 ·exact Or.inl h.zP
 ·obtain ⟨cs', hc'⟩ := owns_block h.owns hg
  exact Or.inr fun cs hc => by have := blk_type hc hc'; revert this; decide
theorem Trw.old (h : Trw w0 w Z O Sb Pk nv sa sc t pick nodes xs) : ∀ i, i < w0.heap.size → ¬ SX Pk Pk nv i := by
 rintro i hi (rfl | rfl | hg)
 ·have := h.p0; omega
 ·have := h.p0; omega
 ·have := (h.owns.lt i hg).1; omega
theorem Trw.nv_ne (h : Trw w0 w Z O Sb Pk nv sa sc t pick nodes xs) : nv.ownBlock ≠ some Pk ∧ nv.ownBlock ≠ some Sb :=
 ⟨own_blk_ne h.owns h.row (by decide), own_blk_ne h.owns h.box (by decide)⟩
theorem Trw.toExt (h : Trw w0 w Z O Sb Pk nv sa sc t pick nodes xs) (e : Ext w w') : Trw w0 w' Z O Sb Pk nv sa sc t pick nodes xs := by
 have k : Keep (fun _ => False) w w' := Keep.of_ext e
 exact ⟨h.ext.trans e, h.own.keep k (fun _ _ x => x.elim), k.blk h.box id, k.blk h.row id, h.plen, h.p0, h.zP, k.owns h.owns (fun _ _ => id), h.cells.keep k no_x⟩
theorem Trw.setPick (h : Trw w0 w Z O Sb Pk nv sa sc t pick nodes xs) (d : Nat) (i : Int) : Trw w0 (w.setCell ⟨Pk, d, none⟩ (.int .i64 i)) Z O Sb Pk nv sa sc t (pick.set d i) nodes xs := by
 have k := keep_set w Pk d (.int .i64 i)
 have hi : IntFar w Z (fun k => k = Pk) := fun g hg => Or.inl (by rw [hg]; exact h.zP)
 have hpk := h.row.set_ d (.int .i64 i)
 have e : (pick.map (Value.int .i64)).toArray.setIfInBounds d (.int .i64 i) = ((pick.set d i).map (Value.int .i64)).toArray := by simp [List.map_set]
 rw [e] at hpk
 refine ⟨h.ext.setCell h.p0 _, h.own.keep k (fun g cs e hc => by subst e; have := blk_type hc h.row; revert this; decide), k.blk h.box (h.box.ne_ h.row (by decide)), hpk, by rw [List.length_set]; exact h.plen, h.p0, h.zP, k.owns h.owns (fun g hg e => h.nv_ne.1 (by rw [hg, e])), h.cells.keep k hi⟩
theorem Trw.pushed (h : Trw w0 w Z O Sb Pk nv sa sc t pick nodes xs) {n : NodeD} (hn : n.kids = [])
  (ho : w'.ownsRow w0.heap.size 48 4 nv' (nodes.length + 1) (xs ++ [.int .i64 n.wish, .slice none 0 0, .int .i64 n.clA, .int .i64 n.clB]))
  (k : Keep (fun k => nv.ownBlock = some k) w w') : Trw w0 w' Z O Sb Pk nv' sa sc t pick (nodes ++ [n]) (xs ++ [.int .i64 n.wish, .slice none 0 0, .int .i64 n.clA, .int .i64 n.clB]) := by
 have hX : ∀ g, nv.ownBlock = some g → SX Pk Pk nv g := fun g hg => Or.inr (Or.inr hg)
 have hi : IntFar w Z (fun k => nv.ownBlock = some k) := fun g hg => h.far g (hX g hg)
 obtain ⟨n1, n2⟩ := h.nv_ne
 refine ⟨h.ext.keep k (fun i hi hx => h.old i hi (hX i hx)), h.own.keep k (fun g cs e hc => by obtain ⟨cs', hc'⟩ := owns_block h.owns e; have := blk_type hc hc'; revert this; decide), k.blk h.box n2, k.blk h.row n1, h.plen, h.p0, h.zP, by rw [List.length_append]; exact ho, ?_⟩
 exact (h.cells.keep k hi).snoc (fun _ => by rw [hn]; exact ⟨World.ownsRow_nil _ _ _ _, by simp [Value.ownBlock]⟩)
theorem Trw.setCell (h : Trw w0 w Z O Sb Pk (.slice (some ⟨g, 0, none⟩) m c) sa sc t pick nodes xs) {q : Nat} {v : Value} {nodes' : List NodeD} (hl : nodes'.length = nodes.length)
  (hc : NodesQ (w.setCell ⟨g, q, none⟩ v) w0.heap.size Z O 0 nodes xs → NodesQ (w.setCell ⟨g, q, none⟩ v) w0.heap.size Z O 0 nodes' (xs.set q v)) :
  Trw w0 (w.setCell ⟨g, q, none⟩ v) Z O Sb Pk (.slice (some ⟨g, 0, none⟩) m c) sa sc t pick nodes' (xs.set q v) := by
 have k := keep_set w g q v
 have hX : ∀ j, j = g → SX Pk Pk (.slice (some ⟨g, 0, none⟩) m c) j := fun j e => Or.inr (Or.inr (by simp [Value.ownBlock, e]))
 have hi : IntFar w Z (fun k => k = g) := fun j e => h.far j (hX j e)
 obtain ⟨n1, n2⟩ := h.nv_ne
 have e9 : (Value.slice (some ⟨g, 0, none⟩) m c).ownBlock = some g := rfl
 have hm : m = nodes.length := by
  rcases h.owns.2 with ⟨e, _⟩ | ⟨g', cap, cur, e, _⟩ <;> cases e
  rfl
 subst hm
 refine ⟨h.ext.setCell ((h.owns.lt g rfl).1) _, h.own.keep k (fun j cs e hq => by rw [e] at hq; obtain ⟨cs', hq'⟩ := owns_block h.owns rfl; have := blk_type hq hq'; revert this; decide), k.blk h.box (fun e => n2 (by rw [e9, e])), k.blk h.row (fun e => n1 (by rw [e9, e])), h.plen, h.p0, h.zP, by rw [hl]; exact (h.owns.stored q v).1, hc (h.cells.keep k hi)⟩
theorem Trw.less (h : Trw w0 w Z O Sb Pk nv sa sc t pick nodes xs) (hz : ∀ g, Z' g → Z g) (hp : Z' Pk) : Trw w0 w Z' O Sb Pk nv sa sc t pick nodes xs :=
 ⟨h.ext, h.own, h.box, h.row, h.plen, h.p0, hp, h.owns, h.cells.less hz⟩
theorem Trw.more (h : Trw w0 w Z O Sb Pk nv sa sc t pick nodes xs) (hz : ∀ g, g < w.heap.size → Z' g → Z g) (hp : Z' Pk) : Trw w0 w Z' O Sb Pk nv sa sc t pick nodes xs :=
 ⟨h.ext, h.own, h.box, h.row, h.plen, h.p0, hp, h.owns, h.cells.more hz⟩
theorem Trw.opened (h : Trw w0 w Z O Sb Pk nv sa sc t pick nodes xs) (ho : ∀ i, O i → O' i) : Trw w0 w Z O' Sb Pk nv sa sc t pick nodes xs :=
 ⟨h.ext, h.own, h.box, h.row, h.plen, h.p0, h.zP, h.owns, h.cells.open_ ho⟩
theorem Trw.rowed (h : Trw w0 w Z O Sb Pk nv sa sc t pick nodes xs) (k : Keep X w w') (hX : ∀ g, X g → Z g ∧ g ≠ Pk ∧ w0.heap.size ≤ g ∧ ∃ cs, Blk w g 3 cs) :
  Trw w0 w' Z O Sb Pk nv sa sc t pick nodes xs := by
 have hi : IntFar w Z X := fun g hg => Or.inl (hX g hg).1
 have far : ∀ {g : Nat} {e : TypeId} {cs : Array Value}, Blk w g e cs → e ≠ 3 → ¬ X g := fun hb hne hx => by
  obtain ⟨cs', hc'⟩ := (hX _ hx).2.2.2
  exact hne (blk_type hb hc')
 refine ⟨h.ext.keep k (fun i hi hx => by have := (hX i hx).2.2.1; omega), h.own.keep k (fun g cs hx hc => far hc (by decide) hx), k.blk h.box (far h.box (by decide)), k.blk h.row (fun hx => (hX _ hx).2.1 rfl), h.plen, h.p0, h.zP, k.owns h.owns (fun g hg hx => ?_), h.cells.keep k hi⟩
 obtain ⟨cs, hc⟩ := owns_block h.owns hg
 exact far hc (by decide) hx
theorem Trw.node (h : Trw w0 w Z O Sb Pk nv sa sc t pick nodes xs) (hn : 0 < nodes.length) :
  ∃ g c, nv = .slice (some ⟨g, 0, none⟩) nodes.length c ∧ g < w.heap.size ∧ (∃ cs, Blk w g 48 cs) ∧ (∀ q u, xs[q]? = some u → w.cell? ⟨g, q, none⟩ = some u) ∧ ∀ q, w.frozen? ⟨g, q, none⟩ = false := by
 rcases h.owns.2 with ⟨_, h0⟩ | ⟨g, cap, cur, rfl, hb, hg, hcap, hm, hcs, htake⟩
 ·omega
 ·have hblk : Blk w g 48 cur := hg
  refine ⟨g, cap, rfl, hblk.lt, ⟨cur, hblk⟩, fun q u hq => ?_, fun q => hblk.frozen q⟩
  rw [hblk.cell]
  have hlt : q < xs.length := (List.getElem?_eq_some_iff.1 hq).1
  rw [← htake, List.getElem?_take] at hq
  split at hq
  ·simpa using hq
  ·cases hq
theorem Trw.wish (h : Trw w0 w Z O Sb Pk nv sa sc t pick nodes xs) : Wishes w (.slice sa t.length sc) t := h.own.wish h.ext
theorem Trw.opts_at {b o : Nat} {x : WishD} {d : Nat} (h : Trw w0 w Z O Sb Pk nv (some ⟨b, o, none⟩) sc t pick nodes xs) (hx : t[d]? = some x) : ∃ oa oc, w.cell? ⟨b, o + d * 3 + 2, none⟩ = some (.slice oa x.opts.length oc) := by
 obtain ⟨a', c', e1, _, _, hat⟩ := h.wish.open
 cases e1
 obtain ⟨b2, o2, y, ya, yc, za, zc, e2, _, _, ey, _, _, g3, _, _⟩ := hat d (List.getElem?_eq_some_iff.1 hx).1 w (Ext.refl _)
 cases e2
 obtain rfl : x = y := Option.some.inj (hx.symm.trans ey.out)
 exact ⟨za, zc, g3⟩
theorem Trw.at_ (h : Trw w0 w Z O Sb Pk nv sa sc t pick nodes xs) {j : Nat} {z : Int} (hz : pick[j]? = some z) : w.cell? ⟨Pk, j, none⟩ = some (.int .i64 z) := by
 rw [h.row.cell]; simp [hz]
end

structure RoundT (Z O : Nat → Prop) (w0 w1 wr : World) (Sb Pk : Nat) (nv1 nv : Value) (sa : Option Addr) (sc : Nat) (t : List WishD) (pick pre : List Int) (nodes : List NodeD) (N : Nat) (xs0 xs : List Value) (kv : Value) (kn : List NodeD) (kk : List Int) : Prop where
 shw : Trw w0 wr (ZK Z kv) (fun k => O k ∨ k = N) Sb Pk nv sa sc t pick (nodes ++ kn) xs
 preIs : pick.take pre.length = pre
 keep : Keep (SX Pk Pk nv1) w1 wr
 nvs : nv.ownBlock = nv1.ownBlock ∨ ∃ g, nv.ownBlock = some g ∧ w1.heap.size ≤ g
 row : wr.ownsRow w1.heap.size 3 1 kv kk.length (kk.map (Value.int .i64))
 cell : xs[N * 4 + 1]? = some kv
 old : ∀ i, O i → xs[i * 4 + 1]? = xs0[i * 4 + 1]?
section
variable {Z O : Nat → Prop} {w0 w1 wr w3 w4 V : World} {Sb Pk : Nat} {nv1 nv nv' kv v' : Value} {sa : Option Addr} {sc g m c : Nat} {t : List WishD} {pick pre pick' : List Int} {nodes : List NodeD} {N : Nat} {xs0 xs xs' : List Value} {kn rn : List NodeD} {kk : List Int} {idx : Int}
theorem RoundT.toExt (R : RoundT Z O w0 w1 wr Sb Pk nv1 nv sa sc t pick pre nodes N xs0 xs kv kn kk) (e : Ext wr V) : RoundT Z O w0 w1 V Sb Pk nv1 nv sa sc t pick pre nodes N xs0 xs kv kn kk :=
 ⟨R.shw.toExt e, R.preIs, R.keep.trans (Keep.of_ext e), R.nvs, owns_ext R.row e, R.cell, R.old⟩
theorem RoundT.appended (R : RoundT Z O w0 w1 V Sb Pk nv1 (.slice (some ⟨g, 0, none⟩) m c) sa sc t pick pre nodes N xs0 xs kv kn kk) (hP : Pk < w1.heap.size) (hN : N < (nodes ++ kn).length) (hO : ∀ i, O i → i ≠ N)
  (hw0 : w0.heap.size ≤ w1.heap.size)
  (hown : w4.ownsRow w1.heap.size 3 1 v' (kk.length + 1) (kk.map (Value.int .i64) ++ [.int .i64 idx])) (hg : V.grownBy w4 kv.ownBlock) (hat : v'.ownBlock = kv.ownBlock ∨ v'.ownBlock = some V.heap.size) :
  RoundT Z O w0 w1 (w4.setCell ⟨g, N * 4 + 1, none⟩ v') Sb Pk nv1 (.slice (some ⟨g, 0, none⟩) m c) sa sc t pick pre nodes N xs0 (xs.set (N * 4 + 1) v') v' kn (kk ++ [idx]) := by
 have hbase : ∀ g, kv.ownBlock = some g → w1.heap.size ≤ g := fun g hg => (R.row.lt g hg).1
 have kk1 : Keep (fun g => kv.ownBlock = some g) V w4 := Keep.grown (X := fun g => kv.ownBlock = some g) (Keep.refl _ _) hg (fun g h => Or.inl h)
 have hzP : Z Pk := by
  rcases R.shw.zP with h | h
  ·exact h
  ·have := hbase _ h; omega
 have s1 : Trw w0 V (fun g => ZK Z kv g ∨ v'.ownBlock = some g) (fun k => O k ∨ k = N) Sb Pk (.slice (some ⟨g, 0, none⟩) m c) sa sc t pick (nodes ++ kn) xs := by
  refine R.shw.more (fun i hi h => ?_) (Or.inl R.shw.zP)
  rcases h with h | h
  ·exact h
  ·rcases hat with e | e
   ·rw [e] at h; exact Or.inr h
   ·rw [e] at h; cases h; omega
 have s2 := s1.rowed kk1 (fun i hi => ⟨Or.inl (Or.inr hi), by rintro rfl; have := hbase _ hi; omega, by have := hbase _ hi; omega, owns_block R.row hi⟩)
 have s3 : Trw w0 w4 (ZK Z v') (fun k => O k ∨ k = N) Sb Pk (.slice (some ⟨g, 0, none⟩) m c) sa sc t pick (nodes ++ kn) xs := s2.less (fun i h => by rcases h with h | h; exact Or.inl (Or.inl h); exact Or.inr h) (Or.inl hzP)
 have s4 := s3.setCell (nodes' := nodes ++ kn) (q := N * 4 + 1) (v := v') rfl (fun h => h.setK N (Or.inr (by omega)) hN)
 have hgb : ∃ cs, Blk w4 g 48 cs := owns_block s3.owns rfl
 have hlen := s3.cells.len
 refine ⟨s4, R.preIs, ?_, R.nvs, ?_, ?_, ?_⟩
 ·refine ((R.keep.trans' (Y := fun g => kv.ownBlock = some g) kk1 (fun i hi h => by have := hbase _ h; omega))).setCell ?_ _
  rcases R.nvs with e | ⟨g', e, hge⟩
  ·exact Or.inl (Or.inr (Or.inr (by rw [← e]; rfl)))
  ·simp [Value.ownBlock] at e; subst e; exact Or.inr hge
 ·have := (keep_set w4 g (N * 4 + 1) v').owns hown (fun i hi h => by
   subst h
   obtain ⟨cs, hc⟩ := owns_block hown hi
   obtain ⟨cs', hc'⟩ := hgb
   have := blk_type hc hc'
   revert this; decide)
  simpa using this
 ·rw [List.getElem?_set_self (by rw [hlen]; omega)]
 ·intro i hi
  have := hO i hi
  rw [List.getElem?_set_ne (by omega)]
  exact R.old i hi
theorem RoundT.picked (R : RoundT Z O w0 w1 wr Sb Pk nv1 nv sa sc t pick pre nodes N xs0 xs kv kn kk) (hP : Pk < w1.heap.size) (i : Int) :
  RoundT Z O w0 w1 (wr.setCell ⟨Pk, pre.length, none⟩ (.int .i64 i)) Sb Pk nv1 nv sa sc t (pick.set pre.length i) pre nodes N xs0 xs kv kn kk :=
 ⟨R.shw.setPick _ _, by rw [List.take_set_of_le (Nat.le_refl _)]; exact R.preIs, R.keep.setCell (Or.inl (Or.inl rfl)) _, R.nvs,
  (keep_set wr Pk pre.length (.int .i64 i)).owns R.row (fun j hj h => by have := (R.row.lt j hj).1; omega), R.cell, R.old⟩
theorem RoundT.called (R : RoundT Z O w0 w1 wr Sb Pk nv1 nv sa sc t pick pre nodes N xs0 xs kv kn kk) (hP : Pk < w1.heap.size) (hs : Trw w0 w3 (ZK Z kv) (fun k => O k ∨ k = N) Sb Pk nv' sa sc t pick' (nodes ++ kn ++ rn) xs')
  {i : Int} (htk : pick'.take (pre.length + 1) = pre ++ [i]) (k3 : Keep (SX Pk Pk nv) wr w3) (hnv : nv'.ownBlock = nv.ownBlock ∨ ∃ g, nv'.ownBlock = some g ∧ wr.heap.size ≤ g) (hold : ∀ i, O i ∨ i = N → xs'[i * 4 + 1]? = xs[i * 4 + 1]?) :
  RoundT Z O w0 w1 w3 Sb Pk nv1 nv' sa sc t pick' pre nodes N xs0 xs' kv (kn ++ rn) kk := by
 refine ⟨by rw [← List.append_assoc]; exact hs, take_le htk, keep_chain R.keep R.nvs k3, nvs_chain R.keep.size R.nvs hnv, k3.owns R.row (fun g hg hx => ?_), (hold N (Or.inr rfl)).trans R.cell, fun i hi => (hold i (Or.inl hi)).trans (R.old i hi)⟩
 obtain ⟨cs, hc⟩ := owns_block R.row hg
 rcases hx with h | h | h
 ·have := (R.row.lt g hg).1; omega
 ·have := (R.row.lt g hg).1; omega
 ·obtain ⟨cs', hc'⟩ := owns_block R.shw.owns h
  have := blk_type hc hc'; revert this; decide
theorem RoundT.closed (R : RoundT Z O w0 w1 wr Sb Pk nv1 nv sa sc t pick pre nodes N xs0 xs kv kn kk) (hZ : ∀ g, Z g → g < w1.heap.size) (hw0 : w0.heap.size ≤ w1.heap.size) (hzP : Z Pk) {n : NodeD} (hn : (nodes ++ kn)[N]? = some n) :
  Trw w0 wr Z O Sb Pk nv sa sc t pick ((nodes ++ kn).set N { n with kids := kk }) xs := by
 have s := R.shw.less (Z' := Z) (fun g h => Or.inl h) hzP
 have hkv : KidsOk wr w0.heap.size Z kv kk := ⟨owns_base R.row hw0, fun g hg hz => by have := (R.row.lt g hg).1; have := hZ g hz; omega⟩
 refine ⟨s.ext, s.own, s.box, s.row, s.plen, s.p0, s.zP, by rw [List.length_set]; exact s.owns, ?_⟩
 have := s.cells
 exact NodesQ.close (j := 0) N (this.open_ (fun k h => by rw [Nat.zero_add]; exact h)) hn R.cell hkv
end
structure TrwIn (Z O : Nat → Prop) (w0 w : World) (Sb Pk : Nat) (nv : Value) (sa : Option Addr) (sc : Nat) (t : List WishD) (b : Int) (r : List WishD) (harm : Int) (pick pre : List Int) (nodes : List NodeD) (xs : List Value) : Prop where
 shw : Trw w0 w Z O Sb Pk nv sa sc t pick nodes xs
 zlt : ∀ g, Z g → g < w.heap.size
 olt : ∀ i, O i → i < nodes.length
 preIs : pick.take pre.length = pre
 drop : t.drop pre.length = r
 len : pre.length ≤ t.length
 opts : ∀ j, j < pre.length → (optOf t pre j).isSome
 room : nodes.length + treeMax r ≤ 65536
 opens : (growL t b r pre harm nodes.length).opens = []
 ests : (growL t b r pre harm nodes.length).ests = []
def TrwOut (Z O : Nat → Prop) (w0 w : World) (Sb Pk : Nat) (nv : Value) (sa : Option Addr) (sc : Nat) (t : List WishD) (pre : List Int) (nodes more : List NodeD) (xs : List Value) (e : Ending) (w' : World) : Prop :=
 ∃ nv' pick' xs', e = .returned nv' ∧ Trw w0 w' Z O Sb Pk nv' sa sc t pick' (nodes ++ more) xs' ∧ pick'.take pre.length = pre ∧ Keep (SX Pk Pk nv) w w' ∧ (nv'.ownBlock = nv.ownBlock ∨ ∃ g, nv'.ownBlock = some g ∧ w.heap.size ≤ g) ∧ (∀ i, O i → xs'[i * 4 + 1]? = xs[i * 4 + 1]?)
theorem keep_st {w w' : World} {Pk : Nat} {nv : Value} (k : Keep (fun k => nv.ownBlock = some k) w w') : Keep (SX Pk Pk nv) w w' := k.mono fun _ _ h => Or.inr (Or.inr h)
theorem last_find {t : List WishD} {pre : List Int} {k : Nat} (hk : k + 1 < pre.length) (h : ∀ j, j < k → clashAt t pre j (pre.length - 1) = false) (hc : clashAt t pre k (pre.length - 1) = true) : lastClash t pre = k := by
 unfold lastClash
 rw [if_neg (by omega)]
 have hr : (List.range (pre.length - 1))[k]? = some k := by rw [List.getElem?_range (by omega)]
 have hF : FindAt (fun i => clashAt t pre i (pre.length - 1)) (List.range (pre.length - 1)) k := by
  intro x hx
  obtain ⟨i, hi, rfl⟩ := List.mem_iff_getElem.1 hx
  simp only [List.length_take, List.length_range] at hi
  simp only [List.getElem_take, List.getElem_range]
  exact h _ (by omega)
 exact hF.hit hr hc
theorem last_none {t : List WishD} {pre : List Int} (h : ∀ j, j + 1 < pre.length → clashAt t pre j (pre.length - 1) = false) : ¬ 0 ≤ lastClash t pre := by
 unfold lastClash
 split
 ·omega
 ·intro hc
  have h2 : decide (0 ≤ earlierI t pre (pre.length - 1)) = true := decide_eq_true hc
  unfold earlierI at h2
  rw [findI_ge, List.any_eq_true] at h2
  obtain ⟨j, hj, hj2⟩ := h2
  rw [h j (by have := List.mem_range.1 hj; omega)] at hj2
  cases hj2
set_option maxHeartbeats 6400000 in
set_option maxRecDepth 100000 in
theorem tree_clash (Z O : Nat → Prop) (w0 w : World) (Sb Pk : Nat) (nv : Value) (sa : Option Addr) (sc : Nat) (t : List WishD) (b : Int) (r : List WishD) (harm : Int) (pick pre : List Int) (nodes : List NodeD) (xs : List Value)
  (hv0 : validT t = 0) (hl : t.length ≤ 512)
  (H : TrwIn Z O w0 w Sb Pk nv sa sc t b r harm pick pre nodes xs) (hcc : 0 ≤ lastClash t pre) :
  Calls Tryz.prog 50 #[.pointer (some ⟨Sb, 0, none⟩), nv, .int .i64 pre.length] w
   (TrwOut Z O w0 w Sb Pk nv sa sc t pre nodes [⟨-1, [], lastClash t pre, (pre.length : Int) - 1⟩] xs) := by
 obtain ⟨i0, hi0, hz0, hz1, hz2⟩ := info_parts node_info
 have hcc' := Lib.hid hcc
 clear hcc
 have hnlt : nodes.length < 65536 := by have := H.room; have := treeMax_pos r; omega
 have d1 : decide (65536 < (nodes.length : Int)) = false := decide_eq_false (by omega)
 obtain ⟨A, C, rfl⟩ := owns_form H.shw.owns
 have hown := Lib.hid H.shw.owns
 have hH := Lib.hid H
 have hpl : pre.length ≤ 512 := by have := H.len; omega
 have h0 : w0.heap.size ≤ w.heap.size := H.shw.ext.size
 have hop : Hid (∀ j, j < pre.length → (optOf t pick j).isSome) := Lib.hid fun j hj => by
  have := H.opts j hj
  rw [← H.preIs] at this
  rwa [optOf_take hj] at this
 have hcp : Hid (∀ k e, k < pre.length → e < pre.length → clashAt t pick k e = clashAt t pre k e) := Lib.hid fun k e hk he => by
  have e1 := optOf_take (t := t) (pick := pick) (d := pre.length) hk
  have e2 := optOf_take (t := t) (pick := pick) (d := pre.length) he
  rw [H.preIs] at e1 e2
  unfold clashAt
  rw [e1, e2]
 have hpk : pre.length ≤ pick.length := by rw [H.shw.plen]; exact H.len
 clear H
 go_enter Tryz.func50, Tryz.ntmps50
 go_wp2_with fail
 go_loopw [7] (fun vk wr => ∃ k : Nat, k ≤ pre.length ∧ vk = .int .i64 k ∧ Hid (Ext w wr) ∧ Hid (∀ j, j < k → clashAt t pre j (pre.length - 1) = false)) (fun vk _ => pre.length - (intOf vk).toNat)
 case atStart => exact ⟨0, Nat.zero_le _, rfl, Lib.hid (Ext.refl _), Lib.hid fun j hj => by omega⟩
 case round =>
  obtain ⟨k, hk, rfl, hx, hF⟩ := hrel
  by_cases k1 : k + 1 < pre.length
  ·skip
   have hcast : Hid (((pre.length - 1 : Nat) : Int) = (pre.length : Int) - 1) := Lib.hid (by omega)
   have hSr := Lib.hid (hH.out.shw.toExt hx.out)
   obtain ⟨a, ha⟩ : ∃ a, Hid (pick[k]? = some a) := ⟨_, Lib.hid (List.getElem?_eq_getElem (by omega))⟩
   obtain ⟨bb, hb⟩ : ∃ bb, Hid (pick[pre.length - 1]? = some bb) := ⟨_, Lib.hid (List.getElem?_eq_getElem (by omega))⟩
   have hpt : pre.length - 1 < t.length := by have := hH.out.len; omega
   obtain ⟨c, hc⟩ : ∃ c, Hid (clashAt t pre k (pre.length - 1) = c) := ⟨_, rfl⟩
   have hcl : Hid (∀ W, Ext wr W → Calls Tryz.prog 69 #[.agg #[.slice sa t.length sc], .agg #[.int .i64 k, .int .i64 a], .agg #[.int .i64 ((pre.length : Int) - 1), .int .i64 bb]] W fun e w' => e = .returned (.bool c) ∧ Ext W w') := Lib.hid fun W hW => by
    have := rMeets_calls (.slice sa t.length sc) t k a ((pre.length - 1 : Nat) : Int) bb W (hSr.out.wish.ext hW) hv0
    rwa [clashT_at hv0 ha.out hb.out (by omega) (hop.out k (by omega)) (hop.out (pre.length - 1) (by omega)), hcp.out k (pre.length - 1) (by omega) (by omega), hc.out, hcast.out] at this
   have z0 := After.cell (show wr.cell? ⟨Sb, 0, none⟩ = some (.slice sa t.length sc) from hSr.out.box.cell 0)
   have z1 := After.cell (show wr.cell? ⟨Sb, 1, none⟩ = some (.slice (some ⟨Pk, 0, none⟩) t.length t.length) from hSr.out.box.cell 1)
   have z2 := After.cell (hSr.out.at_ ha.out)
   have z3 := After.cell (hSr.out.at_ hb.out)
   have hkt : k < t.length := by omega
   clear hSr ha hb
   go_upto_region 6 with (fail)
   refine wp_region_after (by kernel_rfl) (by kernel_rfl) ?_
   repeat (go_big_quiet_step (exact After.call _ (hcl.out _ (After.ext _))))
   refine wpQuiet_nil ?_
   rintro _ ⟨u, rfl⟩
   have hu := Lib.hid (hx.out.trans u.ext)
   generalize u.world = V at hu ⊢
   clear z0 z1 z2 z3 hcl hx
   cases c with
   | true =>
    have hlc : Hid (lastClash t pre = k) := Lib.hid (last_find k1 hF.out hc.out)
    have hown9 := Lib.hid (owns_ext hown.out hu.out)
    have hsz : w.heap.size ≤ V.heap.size := hu.out.size
    clear hcc' hF hc hown
    go_wp2_with (at_builtin; refine wpList_append_any _ rfl (.tmp 45) (.tmp 50) _ rfl w0.heap.size 48 i0 _ 4 48 Tryz.underlying42 hi0 hz0 hz1 hz2 rfl (by decide) (.slice A nodes.length C) nodes.length xs rfl (hown9.out.alloc _) (V.heap.size + 1) (some ⟨V.heap.size, 0, none⟩) 1 1 [.int .i64 (-1), .slice none 0 0, .int .i64 (k : Int), .int .i64 ((pre.length : Int) - 1)] rfl (reads_last _ #[_, _, _, _] _ 4 1 _ _ rfl (by omega) rfl) (by intro u hu; simp at hu; rcases hu with rfl | rfl | rfl | rfl <;> rfl) (by unfold maxLen; omega) (by omega) (by simp; omega) ?_; intro v1 w1 hown1 hg1 hat1)
    go_ret
    have k1' : Keep (fun k => Value.ownBlock (.slice A nodes.length C) = some k) w w1 := (((Keep.of_ext hu.out).alloc _)).grown hg1 (fun g e => Or.inl e)
    refine ⟨v1, pick, xs ++ [Value.int .i64 (-1), .slice none 0 0, .int .i64 (k : Int), .int .i64 ((pre.length : Int) - 1)], rfl, ?_, hH.out.preIs, keep_st k1', ?_, fun i hi => ?_⟩
    ·rw [hlc.out]
     exact hH.out.shw.pushed (n := ⟨-1, [], (k : Int), (pre.length : Int) - 1⟩) rfl hown1 k1'
    ·rcases hat1 with h | h
     ·exact Or.inl h
     ·exact Or.inr ⟨_, h, by rw [World.size_alloc]; omega⟩
    ·have hi2 := hH.out.olt i hi
     have hxl := hH.out.shw.cells.len
     rw [List.getElem?_append_left (by omega)]
   | false =>
    have N : Hid (∀ j, j < k + 1 → clashAt t pre j (pre.length - 1) = false) := Lib.hid fun j hj => by
     by_cases e : j = k
     ·rw [e]; exact hc.out
     ·exact hF.out j (by omega)
    clear hc hF
    go_wp2
    go_roundw
    case rel => first | exact ⟨k + 1, by omega, by go_num, hu, N⟩ | ((repeat apply Exists.intro); exact ⟨⟨k + 1, by omega, by go_num, hu, N⟩, rfl⟩)
    case measure => simp [intOf]; omega
  ·exact absurd hcc'.out (last_none fun j hj => hF.out j (by omega))
set_option maxHeartbeats 12800000 in
set_option maxRecDepth 100000 in
theorem tree_node (w0 : World) (Sb Pk : Nat) (sa : Option Addr) (sc : Nat) (t : List WishD) (b : Int) (hv0 : validT t = 0) (hl : t.length ≤ 512) (x : WishD) (r : List WishD)
  (ih : ∀ (Z O : Nat → Prop) (w : World) (nv : Value) (harm : Int) (pick pre : List Int) (nodes : List NodeD) (xs : List Value), TrwIn Z O w0 w Sb Pk nv sa sc t b r harm pick pre nodes xs →
   Calls Tryz.prog 50 #[.pointer (some ⟨Sb, 0, none⟩), nv, .int .i64 pre.length] w
    (TrwOut Z O w0 w Sb Pk nv sa sc t pre nodes (growL t b r pre harm nodes.length).nodes xs))
  (Z O : Nat → Prop) (w : World) (nv : Value) (harm : Int) (pick pre : List Int) (nodes : List NodeD) (xs : List Value) (H : TrwIn Z O w0 w Sb Pk nv sa sc t b (x :: r) harm pick pre nodes xs) (hcc : ¬ 0 ≤ lastClash t pre) :
  Calls Tryz.prog 50 #[.pointer (some ⟨Sb, 0, none⟩), nv, .int .i64 pre.length] w
   (TrwOut Z O w0 w Sb Pk nv sa sc t pre nodes (growL t b (x :: r) pre harm nodes.length).nodes xs) := by
 have hib : ¬ b ≤ harm + leastSum (x :: r) := fun h => by
  have := H.ests
  unfold growL at this
  rw [if_neg hcc, if_pos h] at this
  cases this
 obtain ⟨K, hK⟩ : ∃ K, Hid (kidsG (growF t b r pre harm) x.opts 0 (nodes.length + 1) = K) := ⟨_, rfl⟩
 have hN : Hid ((growL t b (x :: r) pre harm nodes.length).nodes = ⟨(pre.length : Int), K.kids, 0, 0⟩ :: K.nodes) := by
  show _ = _
  unfold growL
  rw [if_neg hcc, if_neg hib, ← hK.out]
  rfl
 have hKo : Hid (K.opens = [] ∧ K.ests = []) := by
  have h1 := H.opens
  have h2 := H.ests
  unfold growL at h1 h2
  rw [if_neg hcc, if_neg hib] at h1 h2
  exact Lib.hid ⟨hK.out ▸ h1, hK.out ▸ h2⟩
 obtain ⟨i0, hi0, hz0, hz1, hz2⟩ := info_parts node_info
 obtain ⟨j0, hj0, jz0, jz1, jz2⟩ := info_parts int_info
 obtain ⟨hx, hdr2, hlt⟩ := drop_tail H.drop
 have hx' := Lib.hid hx
 have hdr := Lib.hid hdr2
 have ih' := Lib.hid ih
 obtain ⟨sa', sc', e1, hn, hc', hat0⟩ := H.shw.wish.open
 cases e1
 obtain ⟨b1, o1, x', xa, xc, oa, oc, rfl, hb1, _, ex, g1, g2, g3, gp, go⟩ := hat0 pre.length hlt w (Ext.refl _)
 obtain rfl : x = x' := Option.some.inj (hx.symm.trans ex.out)
 have hol := go.len
 clear hx hdr2 ih hat0 hib ex gp go hn hc' g1 g2 hb1
 rw [hN.out]
 have hcc' := Lib.hid hcc
 clear hcc g3
 have hnlt : nodes.length < 65536 := by have := H.room; have := treeMax_pos (x :: r); omega
 have d1 : decide (65536 < (nodes.length : Int)) = false := decide_eq_false (by omega)
 obtain ⟨A, C, rfl⟩ := owns_form H.shw.owns
 have hown := Lib.hid H.shw.owns
 have hH := Lib.hid H
 have hpl : pre.length ≤ 512 := by have := H.len; omega
 have h0 : w0.heap.size ≤ w.heap.size := H.shw.ext.size
 have hop : Hid (∀ j, j < pre.length → (optOf t pick j).isSome) := Lib.hid fun j hj => by
  have := H.opts j hj
  rw [← H.preIs] at this
  rwa [optOf_take hj] at this
 have hcp : Hid (∀ k e, k < pre.length → e < pre.length → clashAt t pick k e = clashAt t pre k e) := Lib.hid fun k e hk he => by
  have e1 := optOf_take (t := t) (pick := pick) (d := pre.length) hk
  have e2 := optOf_take (t := t) (pick := pick) (d := pre.length) he
  rw [H.preIs] at e1 e2
  unfold clashAt
  rw [e1, e2]
 have hpk : pre.length ≤ pick.length := by rw [H.shw.plen]; exact H.len
 clear H
 go_enter Tryz.func50, Tryz.ntmps50
 go_wp2_with fail
 go_loopw [7] (fun vk wr => ∃ k : Nat, k ≤ pre.length ∧ vk = .int .i64 k ∧ Hid (Ext w wr) ∧ Hid (∀ j, j < k → clashAt t pre j (pre.length - 1) = false)) (fun vk _ => pre.length - (intOf vk).toNat)
 case atStart => exact ⟨0, Nat.zero_le _, rfl, Lib.hid (Ext.refl _), Lib.hid fun j hj => by omega⟩
 case round =>
  obtain ⟨k, hk, rfl, hx, hF⟩ := hrel
  by_cases k1 : k + 1 < pre.length
  ·skip
   have hcast : Hid (((pre.length - 1 : Nat) : Int) = (pre.length : Int) - 1) := Lib.hid (by omega)
   have hSr := Lib.hid (hH.out.shw.toExt hx.out)
   obtain ⟨a, ha⟩ : ∃ a, Hid (pick[k]? = some a) := ⟨_, Lib.hid (List.getElem?_eq_getElem (by omega))⟩
   obtain ⟨bb, hb⟩ : ∃ bb, Hid (pick[pre.length - 1]? = some bb) := ⟨_, Lib.hid (List.getElem?_eq_getElem (by omega))⟩
   have hpt : pre.length - 1 < t.length := by have := hH.out.len; omega
   obtain ⟨c, hc⟩ : ∃ c, Hid (clashAt t pre k (pre.length - 1) = c) := ⟨_, rfl⟩
   have hcl : Hid (∀ W, Ext wr W → Calls Tryz.prog 69 #[.agg #[.slice (some ⟨b1, o1, none⟩) t.length sc], .agg #[.int .i64 k, .int .i64 a], .agg #[.int .i64 ((pre.length : Int) - 1), .int .i64 bb]] W fun e w' => e = .returned (.bool c) ∧ Ext W w') := Lib.hid fun W hW => by
    have := rMeets_calls (.slice (some ⟨b1, o1, none⟩) t.length sc) t k a ((pre.length - 1 : Nat) : Int) bb W (hSr.out.wish.ext hW) hv0
    rwa [clashT_at hv0 ha.out hb.out (by omega) (hop.out k (by omega)) (hop.out (pre.length - 1) (by omega)), hcp.out k (pre.length - 1) (by omega) (by omega), hc.out, hcast.out] at this
   have z0 := After.cell (show wr.cell? ⟨Sb, 0, none⟩ = some (.slice (some ⟨b1, o1, none⟩) t.length sc) from hSr.out.box.cell 0)
   have z1 := After.cell (show wr.cell? ⟨Sb, 1, none⟩ = some (.slice (some ⟨Pk, 0, none⟩) t.length t.length) from hSr.out.box.cell 1)
   have z2 := After.cell (hSr.out.at_ ha.out)
   have z3 := After.cell (hSr.out.at_ hb.out)
   have hkt : k < t.length := by omega
   clear hSr ha hb
   go_upto_region 6 with (fail)
   refine wp_region_after (by kernel_rfl) (by kernel_rfl) ?_
   repeat (go_big_quiet_step (exact After.call _ (hcl.out _ (After.ext _))))
   refine wpQuiet_nil ?_
   rintro _ ⟨u, rfl⟩
   have hu := Lib.hid (hx.out.trans u.ext)
   generalize u.world = V at hu ⊢
   clear z0 z1 z2 z3 hcl hx
   cases c with
   | true =>
    exfalso
    have h1 := last_find k1 hF.out hc.out
    have h2 := hcc'.out
    omega
   | false =>
    have N : Hid (∀ j, j < k + 1 → clashAt t pre j (pre.length - 1) = false) := Lib.hid fun j hj => by
     by_cases e : j = k
     ·rw [e]; exact hc.out
     ·exact hF.out j (by omega)
    clear hc hF
    go_wp2
    go_roundw
    case rel => first | exact ⟨k + 1, by omega, by go_num, hu, N⟩ | ((repeat apply Exists.intro); exact ⟨⟨k + 1, by omega, by go_num, hu, N⟩, rfl⟩)
    case measure => simp [intOf]; omega
  ·have d2 : decide ((k : Int) + 1 < (pre.length : Int)) = false := decide_eq_false (by omega)
   have d3 : ((pre.length : Int) == (t.length : Int)) = false := by rw [beq_eq_false_iff_ne]; omega
   have hSr := Lib.hid (hH.out.shw.toExt hx.out)
   have q0 : wr.cell? ⟨Sb, 0, none⟩ = some (.slice (some ⟨b1, o1, none⟩) t.length sc) := hSr.out.box.cell 0
   have ql := hSr.out.box.lt
   have hown9 := Lib.hid hSr.out.owns
   have h09 : w0.heap.size ≤ wr.heap.size := hSr.out.ext.size
   clear k1 hF hown hop hcp hcc'
   go_upto_region 12 with (at_builtin; refine wpList_append_any _ rfl (.tmp 66) (.tmp 69) _ rfl w0.heap.size 48 i0 _ 4 48 Tryz.underlying42 hi0 hz0 hz1 hz2 rfl (by decide) (.slice A nodes.length C) nodes.length xs rfl (hown9.out.alloc _) (wr.heap.size + 1) (some ⟨wr.heap.size, 0, none⟩) 1 1 [.int .i64 (pre.length : Int), .slice none 0 0, .int .i64 0, .int .i64 0] rfl (reads_last _ #[_, _, _, _] _ 4 1 _ _ rfl (by omega) rfl) (by intro u hu; simp at hu; rcases hu with rfl | rfl | rfl | rfl <;> rfl) (by unfold maxLen; omega) (by omega) (by simp; omega) ?_; intro v1 w1 hown1 hg1 hat1; obtain ⟨A1, C1, rfl⟩ := owns_form hown1)
   obtain ⟨xs1, hxs1⟩ : ∃ xs1, Hid (xs ++ [Value.int .i64 (pre.length : Int), .slice none 0 0, .int .i64 0, .int .i64 0] = xs1) := ⟨_, rfl⟩
   refine wp_abs (S := fun W => Hid (RoundT Z O w0 W W Sb Pk (.slice A1 (nodes.length + 1) C1) (.slice A1 (nodes.length + 1) C1) (some ⟨b1, o1, none⟩) sc t pick pre (nodes ++ [⟨(pre.length : Int), [], 0, 0⟩]) nodes.length xs1 xs1 (.slice none 0 0) [] []) ∧ Hid (Keep (SX Pk Pk (.slice A nodes.length C)) w W) ∧ Hid ((Value.slice A1 (nodes.length + 1) C1).ownBlock = (Value.slice A nodes.length C).ownBlock ∨ ∃ g, (Value.slice A1 (nodes.length + 1) C1).ownBlock = some g ∧ w.heap.size ≤ g)) ?_ ?_
   ·have k1 : Keep (fun k => Value.ownBlock (.slice A nodes.length C) = some k) w w1 := (((Keep.of_ext hx.out).alloc _)).grown hg1 (fun g e => Or.inl e)
    have s1 := hH.out.shw.pushed (n := ⟨(pre.length : Int), [], 0, 0⟩) rfl hown1 k1
    rw [hxs1.out] at s1
    have hxl := hH.out.shw.cells.len
    have s2 := (s1.opened (O' := fun k => O k ∨ k = nodes.length) (fun _ h => Or.inl h)).more (Z' := ZK Z (.slice none 0 0)) (fun i _ h => by rcases h with h | h; exact h; simp [Value.ownBlock] at h) (Or.inl s1.zP)
    refine ⟨Lib.hid ⟨by rw [List.append_nil]; exact s2, hH.out.preIs, Keep.refl _ _, Or.inl rfl, World.ownsRow_nil _ _ _ _, ?_, fun _ _ => rfl⟩, Lib.hid (keep_st k1), Lib.hid ?_⟩
    ·rw [← hxs1.out, List.getElem?_append_right (by omega), hxl]
     simp
    ·rcases hat1 with h | h
     ·exact Or.inl h
     ·exact Or.inr ⟨_, h, by have := hx.out.size; rw [World.size_alloc]; omega⟩
   rintro W3 ⟨hR, hk3, hat⟩
   have hold : Hid (∀ i, O i → xs1[i * 4 + 1]? = xs[i * 4 + 1]?) := Lib.hid fun i hi => by
    have hi2 := hH.out.olt i hi
    have hxl := hH.out.shw.cells.len
    rw [← hxs1.out, List.getElem?_append_left (by omega)]
   clear hown1 hg1 hat1 hSr q0 ql hown9 hxs1 hx
   have hPlt : Pk < W3.heap.size := hR.out.shw.row.lt
   have hZ3 : Hid (∀ g, Z g → g < W3.heap.size) := Lib.hid fun g hg => by have := hH.out.zlt g hg; have := hk3.out.size; omega
   have hw03 : w0.heap.size ≤ W3.heap.size := hR.out.shw.ext.size
   clear d2 d3 h09 h0
   go_wp2_with fail
   go_loopw [1, 9] (fun vl vi wr => ∃ (i : Nat) (pick9 : List Int) (xs9 : List Value) (kv9 : Value), i ≤ x.opts.length ∧ vi = .int .i64 i ∧
     Hid (RoundT Z O w0 W3 wr Sb Pk (.slice A1 (nodes.length + 1) C1) vl (some ⟨b1, o1, none⟩) sc t pick9 pre (nodes ++ [⟨(pre.length : Int), [], 0, 0⟩]) nodes.length xs1 xs9 kv9
      (kidsG (growF t b r pre harm) (x.opts.take i) 0 (nodes.length + 1)).nodes (kidsG (growF t b r pre harm) (x.opts.take i) 0 (nodes.length + 1)).kids)) (fun _ vi _ => x.opts.length - (intOf vi).toNat)
   case atStart => exact ⟨0, pick, xs1, _, Nat.zero_le _, rfl, hR⟩
   case round =>
    clear hR
    obtain ⟨i, pick9, xs9, kv9, hi, rfl, hR0⟩ := hrel
    obtain ⟨K2, hK2⟩ : ∃ K2, Hid (kidsG (growF t b r pre harm) (x.opts.take i) 0 (nodes.length + 1) = K2) := ⟨_, rfl⟩
    have hR := hR0.out
    rw [hK2.out] at hR
    replace hR := Lib.hid hR
    clear hR0
    obtain ⟨kA, kC, rfl⟩ := owns_form hR.out.row
    have q0 : wr.cell? ⟨Sb, 0, none⟩ = some (.slice (some ⟨b1, o1, none⟩) t.length sc) := hR.out.shw.box.cell 0
    have ql := hR.out.shw.box.lt
    obtain ⟨oa9, oc9, q3⟩ := hR.out.shw.opts_at hx'.out
    by_cases h1 : i < x.opts.length
    ·obtain ⟨o, ho⟩ : ∃ o, Hid (x.opts[i]? = some o) := ⟨_, List.getElem?_eq_getElem h1⟩
     obtain ⟨LN, hLN⟩ : ∃ LN : Nat, Hid ((nodes ++ [(⟨(pre.length : Int), [], 0, 0⟩ : NodeD)] ++ K2.nodes).length = LN) := ⟨_, rfl⟩
     have hLN2 : Hid (LN = nodes.length + 1 + K2.nodes.length) := by show _ = _; rw [← hLN.out]; simp; omega
     obtain ⟨g9, C9, rfl, hgl, hgb, hcells, hfr⟩ := hR.out.shw.node (by simp; omega)
     rw [hLN.out] at hR
     have hkl : K2.kids.length ≤ 65536 := by
      have h8 := kidsG_kids_len (growF t b r pre harm) (x.opts.take i) 0 (nodes.length + 1)
      rw [hK2.out] at h8
      rw [h8, List.length_take]
      have h9 := hH.out.room
      simp only [treeMax] at h9
      have tp := treeMax_pos r
      have e1 : x.opts.length * 1 ≤ x.opts.length * treeMax r := Nat.mul_le_mul_left _ tp
      omega
     have hroom : Hid (LN + treeMax r ≤ 65536) := by
      show _ ≤ _
      rw [hLN2.out]
      have hn := kidsG_len (f := growF t b r pre harm) (m := treeMax r) (fun i o N => growL_len t b r _ _ _) (x.opts.take i) 0 (nodes.length + 1)
      rw [List.length_take, Nat.min_eq_left hi, hK2.out] at hn
      have h9 := hH.out.room
      simp only [treeMax] at h9
      have e1 : (i + 1) * treeMax r ≤ x.opts.length * treeMax r := Nat.mul_le_mul_right _ (by omega)
      rw [Nat.add_mul] at e1
      omega
     have hLNb : LN ≤ 65536 := by have := hroom.out; omega
     rw [hLN.out]
     have m1 : wr.cell? ⟨g9, nodes.length * 4 + 1, none⟩ = some (.slice kA K2.kids.length kC) := hcells _ _ hR.out.cell
     have f1 := hfr (nodes.length * 4 + 1)
     have hrow := Lib.hid hR.out.row
     obtain ⟨cs9, hb9⟩ := hgb
     have hb9' := Lib.hid hb9
     have hszr : W3.heap.size ≤ wr.heap.size := hR.out.keep.size
     have hnlt2 : nodes.length < LN := by have := hLN2.out; omega
     have hng9 : Hid (Value.ownBlock (.slice kA K2.kids.length kC) ≠ some g9) := Lib.hid (own_blk_ne hrow.out hb9 (by decide))
     have m1' := Lib.hid m1
     clear hcells hfr hb9
     go_upto_region 16 with (at_builtin; refine wpList_append_any _ rfl (.tmp 91) (.tmp 94) _ rfl W3.heap.size 3 j0 _ 1 8 Tryz.underlying23 hj0 jz0 jz1 jz2 rfl (by decide) (.slice kA K2.kids.length kC) K2.kids.length (K2.kids.map (Value.int .i64)) rfl (hrow.out.alloc _) (wr.heap.size + 1) (some ⟨wr.heap.size, 0, none⟩) 1 1 [.int .i64 (LN : Int)] rfl (reads_last _ #[_] _ 1 1 _ _ (by simp) (by omega) rfl) (one_int _) (by unfold maxLen; omega) (by omega) (by rw [World.size_alloc]; omega) ?_; intro v4 w4 hown4 hg4 hat4; obtain ⟨A4, C4, rfl⟩ := owns_form hown4; have hb4 := (Blk.alloc hb9'.out (.cells #[.int .i64 (LN : Int)] 3)).grown hg4 (fun e => hng9.out e.symm); have m4 : w4.cell? ⟨g9, nodes.length * 4 + 1, none⟩ = some (.slice kA K2.kids.length kC) := (hb4.cell _).trans ((hb9'.out.cell _).symm.trans m1'.out); have f4 := hb4.frozen (nodes.length * 4 + 1); have l4 := hb4.lt)
     refine wp_abs (S := fun W => Hid (RoundT Z O w0 W3 W Sb Pk (.slice A1 (nodes.length + 1) C1) (.slice (some ⟨g9, 0, none⟩) LN C9) (some ⟨b1, o1, none⟩) sc t pick9 pre (nodes ++ [⟨(pre.length : Int), [], 0, 0⟩]) nodes.length xs1 (xs9.set (nodes.length * 4 + 1) (.slice A4 (K2.kids.length + 1) C4)) (.slice A4 (K2.kids.length + 1) C4) K2.nodes (K2.kids ++ [(LN : Int)]))) ?_ ?_
     ·refine Lib.hid ((hR.out.toExt ((Ext.refl wr).alloc (.cells #[.int .i64 (LN : Int)] 3))).appended hPlt (by simp) (fun j hj => by have := hH.out.olt j hj; omega) hw03 hown4 hg4 hat4)
     rintro W5 hR5
     clear hown4 hg4 hat4 hb4 m4 f4 l4 m1 f1 m1' hrow hb9' hng9 hR hgl q0 ql q3
     have hpl9 := hR5.out.shw.plen
     have hlt9 : pre.length < pick9.length := by rw [hpl9]; exact hlt
     obtain ⟨z, hz⟩ : ∃ z, pick9[pre.length]? = some z := ⟨_, List.getElem?_eq_getElem hlt9⟩
     have c3 : W5.cell? ⟨Sb, 1, none⟩ = some (.slice (some ⟨Pk, 0, none⟩) t.length t.length) := hR5.out.shw.box.cell 1
     have l3 := hR5.out.shw.box.lt
     have c5 : W5.cell? ⟨Pk, pre.length, none⟩ = some (.int .i64 z) := hR5.out.shw.at_ hz
     have l5 := hR5.out.shw.row.lt
     have f5 := hR5.out.shw.row.frozen pre.length
     have hlt9' := Lib.hid hlt9
     clear hz hpl9 hlt9
     go_upto_region 17 with (fail)
     refine wp_abs (S := fun W => Hid (RoundT Z O w0 W3 W Sb Pk (.slice A1 (nodes.length + 1) C1) (.slice (some ⟨g9, 0, none⟩) LN C9) (some ⟨b1, o1, none⟩) sc t (pick9.set pre.length (i : Int)) pre (nodes ++ [⟨(pre.length : Int), [], 0, 0⟩]) nodes.length xs1 (xs9.set (nodes.length * 4 + 1) (.slice A4 (K2.kids.length + 1) C4)) (.slice A4 (K2.kids.length + 1) C4) K2.nodes (K2.kids ++ [(LN : Int)]))) ?_ ?_
     ·exact Lib.hid (hR5.out.picked hPlt (i : Int))
     rintro W6 hR6
     obtain ⟨pick6, hp6⟩ : ∃ p, Hid (pick9.set pre.length (i : Int) = p) := ⟨_, rfl⟩
     obtain ⟨xs6, hx6⟩ : ∃ p, Hid (xs9.set (nodes.length * 4 + 1) (.slice A4 (K2.kids.length + 1) C4) = p) := ⟨_, rfl⟩
     have htk6 : Hid (pick6.take (pre.length + 1) = pre ++ [(i : Int)]) := by show _ = _; rw [← hp6.out]; exact pre_set hR5.out.preIs hlt9'.out
     rw [hp6.out, hx6.out] at hR6
     have hstep := Lib.hid (kidsG_step (growF t b r pre harm) x.opts i o ho.out 0 (nodes.length + 1))
     have hqt := Lib.hid (kidsG_none (growF t b r pre harm) x.opts 0 (nodes.length + 1) (by rw [hK.out]; exact hKo.out.1) (by rw [hK.out]; exact hKo.out.2) i o ho.out)
     rw [hK2.out] at hstep hqt
     obtain ⟨G9, hG9⟩ : ∃ G9, Hid ((growL t b r (pre ++ [(i : Int)]) (harm + o.harm) LN) = G9) := ⟨_, rfl⟩
     have hstep2 : Hid (kidsG (growF t b r pre harm) (x.opts.take (i + 1)) 0 (nodes.length + 1) = ⟨K2.nodes ++ G9.nodes, K2.kids ++ [(LN : Int)], K2.opens ++ G9.opens, K2.ests ++ G9.ests⟩) := by
      have h := hstep.out
      simp only [growF, Int.zero_add, ← hLN2.out, hG9.out] at h
      exact h
     have hqt2 : Hid (G9.opens = [] ∧ G9.ests = []) := by
      have h := hqt.out
      simp only [growF, Int.zero_add, ← hLN2.out, hG9.out] at h
      exact h
     have hcall := ih'.out (ZK Z (.slice A4 (K2.kids.length + 1) C4)) (fun k => O k ∨ k = nodes.length) W6 _ (harm + o.harm) pick6 (pre ++ [(i : Int)]) (nodes ++ [⟨(pre.length : Int), [], 0, 0⟩] ++ K2.nodes) xs6
      ⟨hR6.out.shw, fun g hg => by rcases hg with hg | hg; exact Nat.lt_of_lt_of_le (hZ3.out g hg) hR6.out.keep.size; exact (hR6.out.row.lt g hg).2,
       fun k hk => by rcases hk with hk | hk; (have := hH.out.olt k hk; rw [hLN.out]; omega); (rw [hLN.out, hk]; exact hnlt2),
       by rw [List.length_append, List.length_singleton]; exact htk6.out, by rw [List.length_append, List.length_singleton]; exact hdr.out, by rw [List.length_append, List.length_singleton]; exact hlt,
       optOf_snoc hx'.out h1 hH.out.opts, by rw [hLN.out]; exact hroom.out, by rw [hLN.out, hG9.out]; exact hqt2.out.1, by rw [hLN.out, hG9.out]; exact hqt2.out.2⟩
     rw [hLN.out, hG9.out, List.length_append, List.length_singleton, show ((pre.length + 1 : Nat) : Int) = (pre.length : Int) + 1 by omega] at hcall
     have hcall' := Lib.hid hcall
     clear hcall hR5 c3 l3 c5 l5 f5 hstep hqt hqt2 hp6 hx6 htk6
     go_wp2_with fail
     refine hcall'.out.mono ?_
     rintro e W7 ⟨nv7, pick7, xs7, rfl, hs7, htk7, hk7, hnv7, hold7⟩
     have hR7 : Hid (RoundT Z O w0 W3 W7 Sb Pk (.slice A1 (nodes.length + 1) C1) nv7 (some ⟨b1, o1, none⟩) sc t pick7 pre (nodes ++ [⟨(pre.length : Int), [], 0, 0⟩]) nodes.length xs1 xs7 (.slice A4 (K2.kids.length + 1) C4)
      (kidsG (growF t b r pre harm) (x.opts.take (i + 1)) 0 (nodes.length + 1)).nodes (kidsG (growF t b r pre harm) (x.opts.take (i + 1)) 0 (nodes.length + 1)).kids) := by
      rw [hstep2.out]
      exact Lib.hid (hR6.out.called hPlt hs7 (by rw [List.length_append, List.length_singleton] at htk7; exact htk7) hk7 hnv7 hold7)
     clear hcall' hR6 hs7 htk7 hk7 hnv7 hold7 hstep2 hG9
     go_wp2
     go_roundw
     case rel => first | exact ⟨i + 1, pick7, xs7, (.slice A4 (K2.kids.length + 1) C4), h1, by go_num, hR7⟩ | ((repeat apply Exists.intro); exact ⟨⟨i + 1, pick7, xs7, (.slice A4 (K2.kids.length + 1) C4), h1, by go_num, hR7⟩, rfl⟩)
     case measure => simp [intOf]; omega
    ·have hKx : Hid (K2 = K) := by show _ = _; rw [← hK2.out, List.take_of_length_le (by omega)]; exact hK.out
     have hfin := hR.out.closed (n := ⟨(pre.length : Int), [], 0, 0⟩) hZ3.out hw03 hH.out.shw.zP (by simp)
     rw [show (nodes ++ [(⟨(pre.length : Int), [], 0, 0⟩ : NodeD)] ++ K2.nodes).set nodes.length ⟨(pre.length : Int), K2.kids, 0, 0⟩ = nodes ++ (⟨(pre.length : Int), K2.kids, 0, 0⟩ :: K2.nodes) by simp, hKx.out] at hfin
     have hfin' := Lib.hid hfin
     have hpr := Lib.hid hR.out.preIs
     have hkf := Lib.hid (keep_chain hk3.out hat.out hR.out.keep)
     have hnf := Lib.hid (nvs_chain hk3.out.size hat.out hR.out.nvs)
     have hof : Hid (∀ j, O j → xs9[j * 4 + 1]? = xs[j * 4 + 1]?) := Lib.hid fun j hj => (hR.out.old j hj).trans (hold.out j hj)
     obtain ⟨A9, C9, rfl⟩ := owns_form hfin.owns
     clear hfin hR hKx hK2
     go_wp2
     go_ret
     exact ⟨_, pick9, xs9, rfl, hfin'.out, hpr.out, hkf.out, hnf.out, hof.out⟩
set_option maxHeartbeats 3200000 in
theorem tree_calls (w0 : World) (Sb Pk : Nat) (sa : Option Addr) (sc : Nat) (t : List WishD) (b : Int) (hv0 : validT t = 0) (hl : t.length ≤ 512) :
  ∀ (r : List WishD) (Z O : Nat → Prop) (w : World) (nv : Value) (harm : Int) (pick pre : List Int) (nodes : List NodeD) (xs : List Value), TrwIn Z O w0 w Sb Pk nv sa sc t b r harm pick pre nodes xs →
   Calls Tryz.prog 50 #[.pointer (some ⟨Sb, 0, none⟩), nv, .int .i64 pre.length] w
    (TrwOut Z O w0 w Sb Pk nv sa sc t pre nodes (growL t b r pre harm nodes.length).nodes xs) := by
 intro r
 induction r with
 | nil =>
  intro Z O w nv harm pick pre nodes xs H
  by_cases hc : 0 ≤ lastClash t pre
  ·have := tree_clash Z O w0 w Sb Pk nv sa sc t b [] harm pick pre nodes xs hv0 hl H hc
   simp only [growL]
   rw [if_pos hc]
   exact this
  ·have h1 := H.opens
   have h2 := H.ests
   simp only [growL] at h1 h2
   rw [if_neg hc] at h1 h2
   by_cases hb : b ≤ harm
   ·rw [if_pos hb] at h2; cases h2
   ·rw [if_neg hb] at h1; cases h1
 | cons x r ih =>
  intro Z O w nv harm pick pre nodes xs H
  by_cases hc : 0 ≤ lastClash t pre
  ·have := tree_clash Z O w0 w Sb Pk nv sa sc t b (x :: r) harm pick pre nodes xs hv0 hl H hc
   simp only [growL]
   rw [if_pos hc]
   exact this
  ·exact tree_node w0 Sb Pk sa sc t b hv0 hl x r ih Z O w nv harm pick pre nodes xs H hc
set_option maxHeartbeats 6400000 in
set_option maxRecDepth 100000 in
theorem rShow_calls (wv lv : Value) (t : List WishD) (l : List Int) (w : World) (h : Wishes w wv t) (hl : Ints w lv l) (hroom : ShowRoom t l) :
  Calls Tryz.prog 20 #[.agg #[wv], lv] w fun e w' => ∃ v, e = .returned (.tuple #[v, .int .i64 (showT t l).2]) ∧ Nodes w' v (showT t l).1 ∧ Ext w w' := by
 have hT := Lib.hid h
 have hL := Lib.hid hl
 obtain ⟨ta, tc, rfl⟩ := h.form
 obtain ⟨la, lc, rfl⟩ := hl.form
 have hll := hl.len
 clear h hl
 obtain ⟨z, hz⟩ : ∃ z, Hid (validT t = z) := ⟨_, rfl⟩
 have hv : Hid (∀ W, Ext w W → Calls Tryz.prog 29 #[.agg #[.slice ta t.length tc]] W fun e w' => e = .returned (.int .i64 z) ∧ Ext W w') := fun W hW => hz.out ▸ rValid_calls _ t W (hT.out.ext hW)
 by_cases h0 : z = 0
 ·have d0 : (z != 0) = false := by simp [h0]
  have hz0 : validT t = 0 := by rw [hz.out, h0]
  have hz9 := Lib.hid hz0
  have h512 := tooLarge_len (validT_ok hz0).1
  obtain ⟨b, hb⟩ : ∃ b, Hid (selB t.length (-1) l = b) := ⟨_, rfl⟩
  have hsel : Hid (∀ W, Ext w W → Calls Tryz.prog 42 #[.agg #[.slice ta t.length tc], .slice la l.length lc] W fun e w' => e = .returned (.bool b) ∧ Ext W w') := fun W hW => hb.out ▸ rSelection_calls _ _ t l W (hT.out.ext hW) (hL.out.ext hW)
  cases b with
  | false =>
   have R : Hid (showT t l = ([], 1)) := by
    show _ = _
    have hck : checkI t l = 1 := by unfold checkI; rw [if_pos hz0, hb.out]; rfl
    unfold showT
    rw [hck]
    rfl
   clear hz hz0 h0 hb h512 hroom
   go_enter Tryz.func20, Tryz.ntmps20
   go_wp2_with fail
   refine (hv.out _ (by with_reducible repeat' (first | exact Ext.refl _ | assumption | refine Ext.drewN ?_ _ | refine Ext.drew ?_ | refine Ext.alloc ?_ _ | refine Ext.trans ?_ (by with_reducible assumption)))).mono ?_
   rintro e w1 ⟨rfl, hx1⟩
   have hB1 : Hid (Blk w1 w.heap.size 27 #[.slice ta t.length tc]) := Lib.hid ((Keep.of_ext (X := fun _ => False) hx1).blk (blk_new' rfl rfl) id)
   have hE1 := Lib.hid (((Ext.refl w).alloc (.cells #[.slice ta t.length tc] 27)).trans hx1)
   clear hx1 hv
   have c0 : w1.cell? ⟨w.heap.size, 0, none⟩ = some (.slice ta t.length tc) := hB1.out.cell 0
   have l0 := hB1.out.lt
   go_wp2_with fail
   refine (hsel.out _ hE1.out).mono ?_
   rintro e w1' ⟨rfl, hx2⟩
   have hBs := Lib.hid ((Keep.of_ext (X := fun _ => False) hx2).blk hB1.out id)
   have hEs := Lib.hid (hE1.out.trans hx2)
   clear hx2 hsel hE1 hB1 c0 l0
   go_wp2
   go_ret2
   rw [R.out]
   exact ⟨_, rfl, nodes_nilK _, hEs.out⟩
  | true =>
   have hsub := Lib.hid (selB_iff.1 hb.out)
   have h5 : l.length ≤ 512 := by have := up_len hsub.out; omega
   have hck : checkI t l = 0 := by unfold checkI; rw [if_pos hz0, hb.out]; rfl
   have hi' := Lib.hid (up_idx hsub.out)
   have hr1 := hroom hck
   have hR0 : Hid (showT t l = if l.length = 0 then ([], 1) else if (standsT t l).2 ≠ 0 then ([], (standsT t l).2) else if (standsT t l).1 then ([], 4) else ((growL (subT t l) 1000000000 (subT t l) [] 0 0).nodes, 0)) := if_pos hck
   clear hz hz0 h0 hb hck hroom
   by_cases hl0 : l.length = 0
   ·have d1 : ((l.length : Int) == 0) = true := by simp [hl0]
    have R : Hid (showT t l = ([], 1)) := by show _ = _; rw [hR0.out, if_pos hl0]
    clear hR0 hl0 hr1
    go_enter Tryz.func20, Tryz.ntmps20
    go_wp2_with fail
    refine (hv.out _ (by with_reducible repeat' (first | exact Ext.refl _ | assumption | refine Ext.drewN ?_ _ | refine Ext.drew ?_ | refine Ext.alloc ?_ _ | refine Ext.trans ?_ (by with_reducible assumption)))).mono ?_
    rintro e w1 ⟨rfl, hx1⟩
    have hB1 : Hid (Blk w1 w.heap.size 27 #[.slice ta t.length tc]) := Lib.hid ((Keep.of_ext (X := fun _ => False) hx1).blk (blk_new' rfl rfl) id)
    have hE1 := Lib.hid (((Ext.refl w).alloc (.cells #[.slice ta t.length tc] 27)).trans hx1)
    clear hx1 hv
    have c0 : w1.cell? ⟨w.heap.size, 0, none⟩ = some (.slice ta t.length tc) := hB1.out.cell 0
    have l0 := hB1.out.lt
    go_wp2_with fail
    refine (hsel.out _ hE1.out).mono ?_
    rintro e w1' ⟨rfl, hx2⟩
    have hBs := Lib.hid ((Keep.of_ext (X := fun _ => False) hx2).blk hB1.out id)
    have hEs := Lib.hid (hE1.out.trans hx2)
    clear hx2 hsel hE1 hB1 c0 l0
    go_wp2
    go_ret2
    rw [R.out]
    exact ⟨_, rfl, nodes_nilK _, hEs.out⟩
   ·have d1 : ((l.length : Int) == 0) = false := by rw [beq_eq_false_iff_ne]; omega
    obtain ⟨q, e0, hq⟩ : ∃ q e0, Hid (standsT t l = (q, e0)) := ⟨_, _, rfl⟩
    have hR1 : Hid (showT t l = if e0 ≠ 0 then ([], e0) else if q then ([], 4) else ((growL (subT t l) 1000000000 (subT t l) [] 0 0).nodes, 0)) := by show _ = _; rw [hR0.out, if_neg hl0, hq.out]
    have hr2 := Lib.hid (hr1 hl0)
    have hst : Hid (∀ W, Ext w W → Calls Tryz.prog 31 #[.agg #[.slice ta t.length tc], .slice la l.length lc] W fun e w' => e = .returned (.tuple #[.bool q, .int .i64 e0]) ∧ Ext W w') := Lib.hid fun W hW => by
     have := rstands_calls (.slice ta t.length tc) (.slice la l.length lc) t l W (hT.out.ext hW) (hL.out.ext hW) hi'.out h5 (fun hn => subT_valid hz9.out hsub.out (sub_ne hn))
     rwa [hq.out] at this
    have hl1 : 0 < l.length := by omega
    clear hR0 hr1 hl0
    go_enter Tryz.func20, Tryz.ntmps20
    go_wp2_with fail
    refine (hv.out _ (by with_reducible repeat' (first | exact Ext.refl _ | assumption | refine Ext.drewN ?_ _ | refine Ext.drew ?_ | refine Ext.alloc ?_ _ | refine Ext.trans ?_ (by with_reducible assumption)))).mono ?_
    rintro e w1 ⟨rfl, hx1⟩
    have hB1 : Hid (Blk w1 w.heap.size 27 #[.slice ta t.length tc]) := Lib.hid ((Keep.of_ext (X := fun _ => False) hx1).blk (blk_new' rfl rfl) id)
    have hE1 := Lib.hid (((Ext.refl w).alloc (.cells #[.slice ta t.length tc] 27)).trans hx1)
    clear hx1 hv
    have c0 : w1.cell? ⟨w.heap.size, 0, none⟩ = some (.slice ta t.length tc) := hB1.out.cell 0
    have l0 := hB1.out.lt
    go_wp2_with fail
    refine (hsel.out _ hE1.out).mono ?_
    rintro e w1' ⟨rfl, hx2⟩
    have hBs := Lib.hid ((Keep.of_ext (X := fun _ => False) hx2).blk hB1.out id)
    have hEs := Lib.hid (hE1.out.trans hx2)
    clear hx2 hsel hE1 hB1 c0 l0
    have c0 : w1'.cell? ⟨w.heap.size, 0, none⟩ = some (.slice ta t.length tc) := hBs.out.cell 0
    have l0 := hBs.out.lt
    go_wp2_with fail
    refine (hst.out w1' hEs.out).mono ?_
    rintro e w2 ⟨rfl, hx2⟩
    have hB2 := Lib.hid ((Keep.of_ext (X := fun _ => False) hx2).blk hBs.out id)
    have hE2 := Lib.hid (hEs.out.trans hx2)
    clear c0 l0 hx2 hBs hEs hst
    by_cases he : e0 = 0
    ·have d2 : (e0 != 0) = false := by simp [he]
     subst he
     cases q with
     | true =>
      have R : Hid (showT t l = ([], 4)) := by show _ = _; rw [hR1.out]; rfl
      clear hR1
      go_wp2
      go_ret2
      rw [R.out]
      exact ⟨_, rfl, nodes_nilK _, hE2.out⟩
     | false =>
      have R : Hid (showT t l = ((growL (subT t l) 1000000000 (subT t l) [] 0 0).nodes, 0)) := by show _ = _; rw [hR1.out]; rfl
      have hr3 := Lib.hid (hr2.out hq.out)
      clear hR1 hr2 hq
      obtain ⟨s, hs⟩ : ∃ s, Hid (subT t l = s) := ⟨_, rfl⟩
      have hsl : Hid (s.length = l.length) := by show _ = _; rw [← hs.out, sub_len]
      have hsv : validT s = 0 := by rw [← hs.out]; exact subT_valid hz9.out hsub.out (by intro e; rw [e] at hl1; simp at hl1)
      have hmk := run_make_ints s.length (by rw [hsl.out]; omega)
      have hs5 : s.length ≤ 512 := by rw [hsl.out]; exact h5
      have hsb := Lib.hid fun (A W : World) (hA : Ext w A) (hW : Ext A W) => rSub_callsV (.slice ta t.length tc) (.slice la l.length lc) t l A W (hT.out.ext hA) hW (hL.out.ext (hA.trans hW)) hi'.out (by omega)
      have c0 : w2.cell? ⟨w.heap.size, 0, none⟩ = some (.slice ta t.length tc) := hB2.out.cell 0
      rw [hs.out] at R hr3 hsb
      rw [← hsl.out] at hsb hl1 hll h5 ⊢
      clear hB2 hi' hsub
      go_upto_region 11 with (fail)
      have z0 := After.cell c0
      clear c0
      (refine wp_region_held [] [0, 1, 2, 3, 4, 5] [6, 7, 8, 9] (RsCon w2 s) (by kernel_rfl) (by kernel_rfl) ?_; simp only [pickL]; with_reducible refine wpQuiet_nil ?_)
      (refine held_quiet [0, 1] [2, 3, 4, 5] (by kernel_rfl) (by kernel_rfl) ?_; simp only [pickL, List.drop]; (repeat (go_big_quiet_step (fail))); with_reducible refine wpQuiet_nil ?_)
      (refine held_call 2 [3, 4, 5] rfl (by kernel_rfl) 51 (#[.agg #[.slice ta t.length tc], .slice la s.length lc]) (fun W => by kernel_rfl) rfl ?_ ?_ ?_)
      ·exact fun W W' v e h hk => let ⟨sv, xs, a, b, c⟩ := h hk; ⟨sv, xs, a, owns_ext b e, c⟩
      ·refine fun W hW _ => (hsb.out w2 W hE2.out hW).mono ?_
       rintro e W' ⟨sv, xs, rfl, hsv, hxs, hx⟩
       exact ⟨_, rfl, hx, fun _ => ⟨sv, xs, rfl, owns_base hsv hW.size, hxs⟩⟩
      rintro u ⟨Y, hY, hCv⟩
      obtain ⟨sv, xs, rfl, hsv9, hxs0⟩ := hCv rfl
      obtain ⟨sa, sc, rfl⟩ := owns_form hsv9
      clear hCv hY Y hsv9 hxs0 xs
      simp only [Act.put, List.setIfInBounds_toArray, List.set_cons_succ, List.set_cons_zero]
      (refine held_quiet [3, 4] [5] (by kernel_rfl) (by kernel_rfl) ?_; simp only [pickL, List.drop]; (repeat (go_big_quiet_step (fail))); with_reducible refine wpQuiet_nil ?_)
      refine held_made 5 [] rfl (by kernel_rfl) (fun g => .slice (some ⟨g, 0, none⟩) s.length s.length) (.cells (zerosV s.length) 3) (fun W => by simp [execOp, go_sem, hmk W]) (fun g g2 e => by cases e; rfl) (fun g => rfl) ?_
      intro gp
      simp only [Act.put, List.setIfInBounds_toArray, List.set_cons_succ, List.set_cons_zero]
      intro V hxV hfc htk Q0 hQ0
      have h5' := (hfc 5).2 rfl
      obtain ⟨_, ws, e9, hOw, hWx⟩ := (hfc 2).1.2 rfl rfl
      cases e9
      have bp : Blk V gp 3 (zerosV s.length) := h5'.1
      have hgp : w2.heap.size ≤ gp := h5'.2
      have hOw' := Lib.hid hOw
      have hWx' := Lib.hid hWx
      have hbp := Lib.hid bp
      have hxV' := Lib.hid hxV
      have hlt := bp.lt
      simp only [pickL, List.drop]
      clear hfc htk h5' bp hOw hWx z0 hxV hmk hsb
      have e9 : (zerosL s.length).length = s.length := zerosL_len _
      have hT0 : Trw w2 (V.alloc (.cells #[.slice sa s.length sc, .slice (some ⟨gp, 0, none⟩) s.length s.length, .int .i64 0] 81)) (fun g => g = gp) (fun _ => False) V.heap.size gp (.slice none 0 0) sa sc s (zerosL s.length) [] [] :=
       ⟨hxV'.out.alloc _, ⟨ws, hOw'.out.alloc _, hWx'.out⟩, blk_new' rfl rfl, Blk.alloc hbp.out _, e9, hgp, rfl, World.ownsRow_nil _ _ _ _, rfl⟩
      have hcall := tree_calls w2 V.heap.size gp sa sc s 1000000000 hsv hs5 s (fun g => g = gp) (fun _ => False) _ (.slice none 0 0) 0 (zerosL s.length) [] [] []
       ⟨hT0, fun g hg => by rw [World.size_alloc]; omega, fun i hi => hi.elim, rfl, rfl, Nat.zero_le _, fun j hj => by simp at hj, by simpa using hr3.out.1, hr3.out.2.1, hr3.out.2.2⟩
      dsimp only [List.length_nil] at hcall
      have hcall' := Lib.hid hcall
      have hbd := growL_len s 1000000000 s [] 0 0
      have hbd2 : (growL s 1000000000 s [] 0 0).nodes.length ≤ 65536 := Nat.le_trans hbd hr3.out.1
      clear hcall hT0 hbd
      go_wp2_with fail
      refine hcall'.out.mono ?_
      rintro e W4 ⟨nv, pk4, xs4, rfl, hS4, _, _, _, _⟩
      rw [List.nil_append] at hS4
      obtain ⟨na, nc, rfl⟩ := owns_form hS4.owns
      obtain ⟨LN, hLN⟩ : ∃ LN, Hid ((growL s 1000000000 s [] 0 0).nodes.length = LN) := ⟨_, rfl⟩
      have hn := nodes_of hS4.owns hS4.cells.shutAll
      rw [hLN.out] at hn hbd2
      have hn' := Lib.hid hn
      have hE4 := Lib.hid (hE2.out.trans hS4.ext)
      have d5 : decide (65536 < (LN : Int)) = false := decide_eq_false (by omega)
      rw [hLN.out]
      clear hcall' hS4 hn
      go_wp2
      go_ret2
      rw [R.out]
      exact ⟨_, rfl, hn'.out, hE4.out⟩
    ·have d2 : (e0 != 0) = true := by simp [he]
     have R : Hid (showT t l = ([], e0)) := by show _ = _; rw [hR1.out, if_pos he]
     clear hR1 he
     go_wp2
     go_ret2
     rw [R.out]
     exact ⟨_, rfl, nodes_nilK _, hE2.out⟩
 ·have d0 : (z != 0) = true := by simp [h0]
  have R : Hid (showT t l = ([], z)) := by
   show _ = _
   have hck : checkI t l = z := by unfold checkI; rw [if_neg (by rw [hz.out]; exact h0), hz.out]
   unfold showT
   rw [hck, if_neg h0]
  clear hz h0 hroom
  go_enter Tryz.func20, Tryz.ntmps20
  go_wp2_with fail
  refine (hv.out _ (by with_reducible repeat' (first | exact Ext.refl _ | assumption | refine Ext.drewN ?_ _ | refine Ext.drew ?_ | refine Ext.alloc ?_ _ | refine Ext.trans ?_ (by with_reducible assumption)))).mono ?_
  rintro e w1 ⟨rfl, hx1⟩
  have hB1 : Hid (Blk w1 w.heap.size 27 #[.slice ta t.length tc]) := Lib.hid ((Keep.of_ext (X := fun _ => False) hx1).blk (blk_new' rfl rfl) id)
  have hE1 := Lib.hid (((Ext.refl w).alloc (.cells #[.slice ta t.length tc] 27)).trans hx1)
  clear hx1 hv
  go_wp2
  go_ret2
  rw [R.out]
  exact ⟨_, rfl, nodes_nilK _, hE1.out⟩
end Go.Proofs.YtjglidlmpjmjeaaGreatDoor
