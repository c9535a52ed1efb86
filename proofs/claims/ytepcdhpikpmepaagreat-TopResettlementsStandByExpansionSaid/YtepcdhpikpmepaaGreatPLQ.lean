/- The reference's makers of tasks: option. -/
import Derived.Test.YtepcdhpikpmepaaGreatPJQ
import Derived.Deep.Cut
import Derived.Deep.RegionHeld3
import Derived.Deep.DrawnRows
import Derived.Test.YtepcdhpikpmepaaGreatPKQ
namespace Go.Proofs.YtepcdhpikpmepaaGreat
open Go.RowKit

structure Oct where
 a : Int
 b : Int
 c : Int
 d : Int
def byteB (x : Int) : Prop := 0 ≤ x ∧ x ≤ 255
structure OctOk (x : Oct) : Prop where
 a : byteB x.a
 b : byteB x.b
 c : byteB x.c
 d : byteB x.d
def octV (x : Oct) : Value := .agg #[.int .u8 x.a, .int .u8 x.b, .int .u8 x.c, .int .u8 x.d]
def fromT (x : Oct) : Int := 15 * (x.c % 12)
def spansT (x : Oct) : List (Int × Int) := (if 0 < x.d % 8 then [(fromT x, fromT x + 15 * (x.d % 8))] else []) ++ (if 128 ≤ x.d then [(400 + fromT x, 430 + fromT x)] else [])
def optT (x : Oct) : OptD := ⟨x.a % 6, x.b % 4 - 1, spansT x⟩

end Go.Proofs.YtepcdhpikpmepaaGreat

/- The reference's makers of tasks: readings of raw wishes; what Made computes. -/
namespace Go.Proofs.YtepcdhpikpmepaaGreat
open Go.RowKit

structure RawD where
 people : Int
 opts : List Oct
instance : Inhabited Oct := ⟨⟨0, 0, 0, 0⟩⟩
instance : Inhabited RawD := ⟨⟨0, []⟩⟩
def octCell (x : Oct) (j : Nat) : Int := if j = 0 then x.a else if j = 1 then x.b else if j = 2 then x.c else x.d
def Octs (w : World) (v : Value) (l : List Oct) : Prop := Sl w 4 v l.length (fun i j => .int .u8 (octCell (l[i]?.getD default) j)) ∧ ∀ x ∈ l, OctOk x
theorem Octs.ext {w w' : World} {v : Value} {l : List Oct} (h : Octs w v l) (e : Ext w w') : Octs w' v l := ⟨Sl.ext h.1 e, h.2⟩
def OctsAt (a : Option Addr) (w : World) (l : List Oct) : Prop :=
 ∀ i, i < l.length → ∀ W, Ext w W → ∃ b off x, a = some ⟨b, off, none⟩ ∧ b < W.heap.size ∧ Hid (l.drop i = x :: l.drop (i + 1)) ∧ Hid (l[i]? = some x) ∧ Hid (OctOk x) ∧
  W.cell? ⟨b, off + i * 4, none⟩ = some (.int .u8 x.a) ∧ W.cell? ⟨b, off + i * 4 + 1, none⟩ = some (.int .u8 x.b) ∧ W.cell? ⟨b, off + i * 4 + 2, none⟩ = some (.int .u8 x.c) ∧ W.cell? ⟨b, off + i * 4 + 3, none⟩ = some (.int .u8 x.d)
theorem Octs.open {w : World} {v : Value} {l : List Oct} (h : Octs w v l) :
  ∃ a c, v = .slice a l.length c ∧ l.length ≤ c ∧ c ≤ 9223372036854775807 ∧ OctsAt a w l := by
 obtain ⟨h, hok⟩ := h
 obtain ⟨a, c, hv, hn, hc, h⟩ := Sl.open h
 refine ⟨a, c, hv, hn, hc, fun i hi W e => ?_⟩
 obtain ⟨b, off, ha, hb, h⟩ := h i hi
 obtain ⟨x, d, ex⟩ := drop_cons l i hi
 refine ⟨b, off, x, ha, Nat.lt_of_lt_of_le hb e.size, d, ex, hok x (List.mem_of_getElem? ex), ?_, ?_, ?_, ?_⟩
 ·have := h W e 0 (by omega)
  simpa [ex, octCell] using this
 ·have := h W e 1 (by omega)
  simpa [ex, octCell] using this
 ·have := h W e 2 (by omega)
  simpa [ex, octCell] using this
 ·have := h W e 3 (by omega)
  simpa [ex, octCell] using this
def Raws (w : World) (v : Value) (l : List RawD) : Prop :=
 ∃ S : Nat → Value, Sl w 2 v l.length (fun i j => if j = 0 then .int .u8 (l[i]?.getD default).people else S i) ∧ ∀ i, i < l.length → Octs w (S i) (l[i]?.getD default).opts ∧ byteB (l[i]?.getD default).people
theorem Raws.ext {w w' : World} {v : Value} {l : List RawD} (h : Raws w v l) (e : Ext w w') : Raws w' v l :=
 let ⟨S, h1, h2⟩ := h
 ⟨S, Sl.ext h1 e, fun i hi => ⟨(h2 i hi).1.ext e, (h2 i hi).2⟩⟩
def RawsAt (a : Option Addr) (w : World) (l : List RawD) : Prop :=
 ∀ i, i < l.length → ∀ W, Ext w W → ∃ b off x sa sc, a = some ⟨b, off, none⟩ ∧ b < W.heap.size ∧ Hid (l.drop i = x :: l.drop (i + 1)) ∧ Hid (l[i]? = some x) ∧ Hid (byteB x.people) ∧
  W.cell? ⟨b, off + i * 2, none⟩ = some (.int .u8 x.people) ∧ W.cell? ⟨b, off + i * 2 + 1, none⟩ = some (.slice sa x.opts.length sc) ∧ Octs W (.slice sa x.opts.length sc) x.opts
theorem Raws.open {w : World} {v : Value} {l : List RawD} (h : Raws w v l) :
  ∃ a c, v = .slice a l.length c ∧ l.length ≤ c ∧ c ≤ 9223372036854775807 ∧ RawsAt a w l := by
 obtain ⟨S, h1, h2⟩ := h
 obtain ⟨a, c, hv, hn, hc, h⟩ := Sl.open h1
 refine ⟨a, c, hv, hn, hc, fun i hi W e => ?_⟩
 obtain ⟨b, off, ha, hb, h⟩ := h i hi
 obtain ⟨x, d, ex⟩ := drop_cons l i hi
 obtain ⟨hs, hp⟩ := h2 i hi
 have hs := hs.ext e
 simp only [ex, Option.getD_some] at hs hp
 obtain ⟨sa, sc, hS, _⟩ := Octs.open hs
 refine ⟨b, off, x, sa, sc, ha, Nat.lt_of_lt_of_le hb e.size, d, ex, hp, ?_, ?_, by rw [← hS]; exact hs⟩
 ·have := h W e 0 (by omega)
  simpa [ex] using this
 ·have := h W e 1 (by omega)
  rw [← hS]
  simpa [ex] using this

def bitB (n : Int) (p : Nat) : Bool := decide (n / 2 ^ p % 2 = 1)
def peopleTo (n : Int) (p : Nat) : List Int := ((List.range p).filter (bitB n)).map fun (k : Nat) => (k : Int)
def wishT (i : Nat) (x : RawD) : WishD := ⟨10 + i, peopleTo x.people 5, if x.opts.length = 0 then [optT ⟨0, 1, i, 3⟩] else (x.opts.take 4).map optT⟩
def madeFrom : Nat → List RawD → List WishD
 | _, [] => []
 | i, x :: r => if i < 4 then wishT i x :: madeFrom (i + 1) r else []
def madeT (l : List RawD) : List WishD := if l.length = 0 then [⟨1, [], [⟨0, 0, []⟩]⟩] else madeFrom 0 l
theorem peopleTo_step (n : Int) (p : Nat) : peopleTo n (p + 1) = if bitB n p then peopleTo n p ++ [(p : Int)] else peopleTo n p := by
 unfold peopleTo
 rw [List.range_succ, List.filter_append, List.map_append]
 cases h : bitB n p <;> simp [h]
theorem bit_walk {n : Int} (h : 0 ≤ n) (p : Nat) : ((n / 2 ^ p).tmod 2 == 1) = bitB n p := by
 have h1 : 0 ≤ n / 2 ^ p := Int.ediv_nonneg h (by exact Int.le_of_lt (Int.pow_pos (by omega)))
 rw [Int.tmod_eq_emod_of_nonneg h1, bitB]
 rw [Bool.eq_iff_iff]; simp
theorem peopleTo_len (n : Int) (p : Nat) : (peopleTo n p).length ≤ p := by
 unfold peopleTo
 rw [List.length_map]
 have := List.length_filter_le (bitB n) (List.range p)
 simpa using this

structure MadeAt (w W : World) (l : List RawD) (i : Nat) (v : Value) (acc : List WishD) : Prop where
 ext : Ext w W
 res : Blk W w.heap.size 28 #[.slice none 0 0]
 task : Blk W (w.heap.size + 1) 28 #[v]
 own : WishesO W w.heap.size v acc
 len : acc.length = i
 go : acc ++ madeFrom i (l.drop i) = madeFrom 0 l
structure WishAt (w0 W : World) (i : Nat) (x : RawD) (pv ov : Value) (p k : Nat) : Prop where
 ext : Ext w0 W
 var : Blk W w0.heap.size 67 #[.int .i64 (10 + (i : Int)), pv, ov]
 people : IntsO W w0.heap.size pv (peopleTo x.people p)
 opts : OptsO W w0.heap.size ov ((x.opts.take k).map optT)
section
variable {w0 W W1 w1 : World} {i p k : Nat} {x : RawD} {pv ov : Value}
theorem WishAt.toExt (h : WishAt w0 W i x pv ov p k) (e : Ext W W1) : WishAt w0 W1 i x pv ov p k :=
 ⟨h.ext.trans e, (Keep.of_ext (X := fun _ => False) e).blk h.var id, h.people.ext e, h.opts.ext e⟩
theorem WishAt.noPerson (h : WishAt w0 W i x pv ov p k) (hb : bitB x.people p = false) : WishAt w0 W i x pv ov (p + 1) k := by
 refine ⟨h.ext, h.var, ?_, h.opts⟩
 rw [peopleTo_step, hb]
 exact h.people
theorem WishAt.varPeople (h : WishAt w0 W i x pv ov p k) (e : Ext W W1) (hg : W1.grownBy w1 pv.ownBlock) : Blk w1 w0.heap.size 67 #[.int .i64 (10 + (i : Int)), pv, ov] :=
 (h.toExt e).var.grown hg (Ne.symm (own_blk_ne h.people h.var (by decide)))
theorem WishAt.varOpts (h : WishAt w0 W i x pv ov p k) (e : Ext W W1) (hg : W1.grownBy w1 ov.ownBlock) : Blk w1 w0.heap.size 67 #[.int .i64 (10 + (i : Int)), pv, ov] := by
 obtain ⟨xs, a, b⟩ := h.opts
 exact (h.toExt e).var.grown hg (Ne.symm (own_blk_ne a h.var (by decide)))
theorem WishAt.person (h : WishAt w0 W i x pv ov p k) (hb : bitB x.people p = true) (e : Ext W W1) {v1 : Value} {n : Nat} (hn : n = (peopleTo x.people p).length)
  (hown : w1.ownsRow w0.heap.size 3 1 v1 (n + 1) ((peopleTo x.people p).map (Value.int .i64) ++ [.int .i64 p])) (hg : W1.grownBy w1 pv.ownBlock) :
  WishAt w0 (w1.setCell ⟨w0.heap.size, 1, none⟩ v1) i x v1 ov (p + 1) k := by
 have h1 := h.toExt e
 have hv := h.varPeople e hg
 have k1 : Keep (fun g => pv.ownBlock = some g) W1 w1 := (Keep.refl _ W1).grown hg (fun g e => Or.inl e)
 have k2 : Keep (fun g => g = w0.heap.size) w1 (w1.setCell ⟨w0.heap.size, 1, none⟩ v1) := keep_set _ _ _ _
 refine ⟨?_, hv.set_ 1 v1, ?_, ?_⟩
 ·refine (h1.ext.keep k1 fun j hj hx => ?_).keep k2 fun j hj hx => ?_
  ·have := (World.ownsRow.lt h1.people j hx).1; omega
  ·omega
 ·have := owns_keepT hown k2 (TX.one hv) (by decide)
  unfold IntsO
  rw [peopleTo_step, hb]
  simp only [if_true, List.length_append, List.length_cons, List.length_nil, List.map_append, List.map_cons, List.map_nil, Nat.zero_add]
  rw [← hn]
  exact this
 ·exact (h1.opts.keepT k1 (TX.row h1.people) (by decide) (by decide)).keepT k2 (TX.one hv) (by decide) (by decide)
theorem WishAt.option (h : WishAt w0 W i x pv ov p k) {y : Oct} (hy : x.opts[k]? = some y) (e : Ext W W1) {v1 sv : Value} {n : Nat} {xs : List Value} (hn : n = ((x.opts.take k).map optT).length)
  (hxs : OptsCO W w0.heap.size ((x.opts.take k).map optT) xs) (hsv : SpansO W1 w0.heap.size sv (optT y).spans) (hrow : W.ownsRow w0.heap.size 64 3 ov n xs)
  (hown : w1.ownsRow w0.heap.size 64 3 v1 (n + 1) (xs ++ [.int .i64 (optT y).harm, .int .i64 (optT y).room, sv])) (hg : W1.grownBy w1 ov.ownBlock) :
  WishAt w0 (w1.setCell ⟨w0.heap.size, 2, none⟩ v1) i x pv v1 p (k + 1) := by
 have h1 := h.toExt e
 have hv := h.varOpts e hg
 have k1 : Keep (fun g => ov.ownBlock = some g) W1 w1 := (Keep.refl _ W1).grown hg (fun g e => Or.inl e)
 have hrow1 := owns_ext hrow e
 have t1 := TX.row hrow1
 have k2 : Keep (fun g => g = w0.heap.size) w1 (w1.setCell ⟨w0.heap.size, 2, none⟩ v1) := keep_set _ _ _ _
 have t2 := TX.one hv
 refine ⟨?_, hv.set_ 2 v1, ?_, ?_⟩
 ·refine (h1.ext.keep k1 fun j hj hx => ?_).keep k2 fun j hj hx => ?_
  ·have := (World.ownsRow.lt hrow1 j hx).1; omega
  ·omega
 ·exact (h1.people.keepT k1 t1 (by decide)).keepT k2 t2 (by decide)
 ·have e1 : (x.opts.take (k + 1)).map optT = (x.opts.take k).map optT ++ [optT y] := by rw [List.take_add_one, hy]; simp
  rw [e1]
  have c1 := OptsCO.snoc ((hsv.keepT k1 t1 (by decide)).keepT k2 t2 (by decide)) (((hxs.ext e).keepT k1 t1 (by decide)).keepT k2 t2 (by decide))
  refine ⟨_, ?_, c1⟩
  have := owns_keepT hown k2 t2 (by decide)
  rw [List.length_append, ← hn]
  exact this
theorem madeFrom_step {i : Nat} {x : RawD} {r : List RawD} (h : i < 4) : madeFrom i (x :: r) = wishT i x :: madeFrom (i + 1) r := by simp [madeFrom, h]
theorem madeFrom_stop {i : Nat} (h : ¬ i < 4) : ∀ (l : List RawD), madeFrom i l = []
 | [] => rfl
 | x :: r => by simp [madeFrom, h]
end
theorem MadeAt.wish {w w0 W w1 : World} {l : List RawD} {i : Nat} {v : Value} {acc : List WishD} {x : RawD} {pv ov v1 : Value} {n : Nat} {xs : List Value}
  (hM : MadeAt w w0 l i v acc) (hx : l.drop i = x :: l.drop (i + 1)) (hi : i < 4) (e : Ext w0 W) (hp : IntsO W w.heap.size pv (wishT i x).people) (ho : OptsO W w.heap.size ov (wishT i x).opts)
  (hn : n = acc.length) (hxs : WishesCO w0 w.heap.size acc xs) (hrow : w0.ownsRow w.heap.size 67 3 v n xs)
  (hown : w1.ownsRow w.heap.size 67 3 v1 (n + 1) (xs ++ [.int .i64 (10 + (i : Int)), pv, ov])) (hg : W.grownBy w1 v.ownBlock) :
  MadeAt w (w1.setCell ⟨w.heap.size + 1, 0, none⟩ v1) l (i + 1) v1 (acc ++ [wishT i x]) := by
 have k0 : Keep (fun _ => False) w0 W := Keep.of_ext e
 have hrow1 := owns_ext hrow e
 have t1 := TX.row hrow1
 have k1 : Keep (fun g => v.ownBlock = some g) W w1 := (Keep.refl _ W).grown hg (fun g e => Or.inl e)
 have b0 := (k0.blk hM.res id).grown hg (Ne.symm (own_blk_ne hrow hM.res (by decide)))
 have b1 := (k0.blk hM.task id).grown hg (Ne.symm (own_blk_ne hrow hM.task (by decide)))
 have k2 : Keep (fun g => g = w.heap.size + 1) w1 (w1.setCell ⟨w.heap.size + 1, 0, none⟩ v1) := keep_set _ _ _ _
 have t2 := TX.one b1
 refine ⟨?_, b0.far (by dsimp only; omega) _, b1.set_ 0 v1, ?_, by rw [List.length_append, hM.len]; rfl, ?_⟩
 ·refine ((hM.ext.trans e).keep k1 fun j hj hx => ?_).keep k2 fun j hj hx => ?_
  ·have := (World.ownsRow.lt hrow1 j hx).1; omega
  ·omega
 ·have c1 := WishesCO.snoc (x := wishT i x) ⟨(hp.keepT k1 t1 (by decide)).keepT k2 t2 (by decide), (ho.keepT k1 t1 (by decide) (by decide)).keepT k2 t2 (by decide) (by decide)⟩
   (WishesCO.keepT k2 t2 (by decide) (by decide) (by decide) (WishesCO.keepT k1 t1 (by decide) (by decide) (by decide) (WishesCO.ext e hxs)))
  refine ⟨_, ?_, c1⟩
  have := owns_keepT hown k2 t2 (by decide)
  rw [List.length_append, ← hn]
  exact this
 ·have := hM.go
  rw [hx, madeFrom_step hi] at this
  rw [← this]
  simp
end Go.Proofs.YtepcdhpikpmepaaGreat

/- The reference's makers of tasks: Made. -/
namespace Go.Proofs.YtepcdhpikpmepaaGreat
open Go.RowKit

theorem opt_one {w : World} {B : Nat} {sv : Value} {l : List (Int × Int)} {a b : Int} (h : SpansO w B sv l) : ∀ u ∈ [Value.int .i64 a, .int .i64 b, sv], u.oneCell' = true := by
 obtain ⟨A, c, rfl⟩ := owns_form h
 simp [Value.oneCell']
end Go.Proofs.YtepcdhpikpmepaaGreat
/- What the reference's makers make: valid tasks, small trees. -/
namespace Go.Proofs.YtepcdhpikpmepaaGreat
open Go.RowKit

def RawsOk (l : List RawD) : Prop := ∀ x ∈ l, byteB x.people ∧ ∀ y ∈ x.opts, OctOk y
theorem Raws.ok {w : World} {v : Value} {l : List RawD} (h : Raws w v l) : RawsOk l := by
 obtain ⟨S, _, h2⟩ := h
 intro x hx
 obtain ⟨i, hi⟩ := List.mem_iff_getElem?.1 hx
 have hlt := (List.getElem?_eq_some_iff.1 hi).1
 have := h2 i hlt
 rw [hi] at this
 exact ⟨this.2, this.1.2⟩

theorem spansT_ok {x : Oct} (h : OctOk x) : normalB (spansT x) = true ∧ (spansT x).length ≤ 2 := by
 obtain ⟨a, b, c, d⟩ := x
 obtain ⟨_, _, ⟨hc0, hc1⟩, ⟨hd0, hd1⟩⟩ := h
 dsimp only at hc0 hc1 hd0 hd1
 have f0 : 0 ≤ fromT ⟨a, b, c, d⟩ ∧ fromT ⟨a, b, c, d⟩ ≤ 165 := by simp only [fromT]; omega
 simp only [spansT]
 generalize fromT ⟨a, b, c, d⟩ = f at f0 ⊢
 have m0 : 0 ≤ d % 8 := by omega
 have m1 : d % 8 ≤ 7 := by omega
 generalize d % 8 = m at m0 m1 ⊢
 by_cases h1 : 0 < m <;> by_cases h2 : 128 ≤ d <;> simp [h1, h2, normalB, chainB, rangedB, farB] <;> omega
theorem optT_ok {x : Oct} (h : OctOk x) : optOkB (optT x) = true := by
 have hs := (spansT_ok h).1
 obtain ⟨a, b, c, d⟩ := x
 obtain ⟨⟨ha0, ha1⟩, ⟨hb0, hb1⟩, _, _⟩ := h
 dsimp only at ha0 ha1 hb0 hb1
 have h1 : 0 ≤ a % 6 ∧ a % 6 ≤ 1000000 ∧ -1 ≤ b % 4 - 1 ∧ b % 4 - 1 < 256 := by omega
 simp only [optOkB, optT] at hs ⊢
 simp [hs, h1]
theorem peopleB_of : ∀ (l : List Int) (p : Option Int), (∀ x ∈ l, 0 ≤ x ∧ x < 512) → (match p with | none => True | some e => ∀ x ∈ l, e < x) → l.Pairwise (· < ·) → peopleB p l = true
 | [], _, _, _, _ => rfl
 | x :: r, p, h, hp, hs => by
  have hx := h x List.mem_cons_self
  rw [List.pairwise_cons] at hs
  have ih := peopleB_of r (some x) (fun y hy => h y (List.mem_cons_of_mem _ hy)) hs.1 hs.2
  simp only [peopleB, ih, Bool.and_true, Bool.and_eq_true, decide_eq_true_eq]
  refine ⟨hx, ?_⟩
  cases p with
  | none => rfl
  | some e => simpa using hp x List.mem_cons_self
theorem peopleTo_ok (n : Int) : peopleB none (peopleTo n 5) = true ∧ (peopleTo n 5).length ≤ 5 := by
 refine ⟨peopleB_of _ none ?_ trivial ?_, peopleTo_len n 5⟩
 ·intro x hx
  simp only [peopleTo, List.mem_map, List.mem_filter, List.mem_range] at hx
  obtain ⟨k, ⟨hk, _⟩, rfl⟩ := hx
  omega
 ·unfold peopleTo
  rw [List.pairwise_map]
  exact (List.Pairwise.filter _ List.pairwise_lt_range).imp fun h => by omega
theorem wishT_opts {i : Nat} {x : RawD} (hi : i < 4) (h : ∀ y ∈ x.opts, OctOk y) : (∀ o ∈ (wishT i x).opts, ∃ y, OctOk y ∧ o = optT y) ∧ 0 < (wishT i x).opts.length ∧ (wishT i x).opts.length ≤ 4 := by
 simp only [wishT]
 split
 ·rename_i h0
  refine ⟨?_, by simp, by simp⟩
  intro o ho
  simp at ho
  subst ho
  exact ⟨⟨0, 1, i, 3⟩, by constructor <;> constructor <;> dsimp only <;> omega, rfl⟩
 ·rename_i h0
  refine ⟨?_, by simp; omega, by simp; omega⟩
  intro o ho
  rw [List.mem_map] at ho
  obtain ⟨y, hy, rfl⟩ := ho
  exact ⟨y, h y (List.mem_of_mem_take hy), rfl⟩
theorem wishT_ok {i : Nat} {x : RawD} (hi : i < 4) (h : ∀ y ∈ x.opts, OctOk y) : wishOkB (wishT i x) = true := by
 obtain ⟨h1, h2, _⟩ := wishT_opts hi h
 have hp := (peopleTo_ok x.people).1
 have ho : (wishT i x).opts.all optOkB = true := by
  rw [List.all_eq_true]
  intro o ho
  obtain ⟨y, hy, rfl⟩ := h1 o ho
  exact optT_ok hy
 have e1 : (wishT i x).people = peopleTo x.people 5 := rfl
 have e2 : (wishT i x).meeting = 10 + (i : Int) := rfl
 simp only [wishOkB, e1, e2, hp, ho, Bool.and_true, Bool.true_and, Bool.and_eq_true, decide_eq_true_eq]
 omega
theorem madeFrom_ok : ∀ (l : List RawD) (i : Nat) (p : Option Int), RawsOk l → (match p with | none => True | some e => e < 10 + (i : Int)) → wishesB p (madeFrom i l) = true
 | [], _, _, _, _ => rfl
 | x :: r, i, p, h, hp => by
  by_cases hi : i < 4
  ·rw [madeFrom_step hi]
   have h1 := wishT_ok hi (h x List.mem_cons_self).2
   have ih := madeFrom_ok r (i + 1) (some (10 + (i : Int))) (fun y hy => h y (List.mem_cons_of_mem _ hy)) (by dsimp only; omega)
   have e2 : (wishT i x).meeting = 10 + (i : Int) := rfl
   simp only [wishesB, h1, e2, ih, Bool.and_true, Bool.true_and]
   cases p with
   | none => rfl
   | some e => simpa using hp
  ·rw [madeFrom_stop hi]; rfl
theorem madeFrom_len : ∀ (l : List RawD) (i : Nat), (madeFrom i l).length ≤ 4 - i
 | [], _ => by simp [madeFrom]
 | x :: r, i => by
  by_cases hi : i < 4
  ·rw [madeFrom_step hi]
   have := madeFrom_len r (i + 1)
   simp only [List.length_cons]
   omega
  ·rw [madeFrom_stop hi]; simp
theorem madeFrom_mem : ∀ {l : List RawD} {i : Nat} {x : WishD}, x ∈ madeFrom i l → ∃ j y, j < 4 ∧ y ∈ l ∧ x = wishT j y
 | [], _, x, h => by cases h
 | y :: r, i, x, h => by
  by_cases hi : i < 4
  ·rw [madeFrom_step hi] at h
   rcases List.mem_cons.1 h with rfl | h
   ·exact ⟨i, y, hi, List.mem_cons_self, rfl⟩
   ·obtain ⟨j, z, h1, h2, h3⟩ := madeFrom_mem h
    exact ⟨j, z, h1, List.mem_cons_of_mem _ h2, h3⟩
  ·rw [madeFrom_stop hi] at h; cases h
theorem made_opts {l : List RawD} (h : RawsOk l) {x : WishD} (hx : x ∈ madeT l) : 0 < x.opts.length ∧ x.opts.length ≤ 4 ∧ x.people.length ≤ 5 ∧ ∀ o ∈ x.opts, o.spans.length ≤ 2 ∧ o.harm ≤ 5 := by
 unfold madeT at hx
 split at hx
 ·simp at hx
  subst hx
  simp
 ·obtain ⟨j, y, h1, h2, rfl⟩ := madeFrom_mem hx
  obtain ⟨a, b, c⟩ := wishT_opts h1 (h y h2).2
  refine ⟨b, c, (peopleTo_ok y.people).2, fun o ho => ?_⟩
  obtain ⟨z, hz, rfl⟩ := a o ho
  refine ⟨(spansT_ok hz).2, ?_⟩
  simp only [optT]
  omega
theorem made_len {l : List RawD} : 0 < (madeT l).length ∧ (madeT l).length ≤ 4 := by
 unfold madeT
 split
 ·simp
 ·have := madeFrom_len l 0
  refine ⟨?_, by omega⟩
  cases l with
  | nil => simp at *
  | cons x r => simp [madeFrom]
theorem made_valid {l : List RawD} (h : RawsOk l) : validT (madeT l) = 0 := by
 have hlen := made_len (l := l)
 have hbig : tooLargeB (madeT l) = false := by
  simp only [tooLargeB, Bool.or_eq_false_iff, decide_eq_false_iff_not, List.any_eq_false]
  refine ⟨by omega, fun x hx => ?_⟩
  obtain ⟨h1, h2, h3, h4⟩ := made_opts h hx
  simp only [Bool.or_eq_true, decide_eq_true_eq, List.any_eq_true, not_or, not_exists, not_and]
  refine ⟨⟨by omega, by omega⟩, fun o ho => ?_⟩
  have := (h4 o ho).1
  omega
 have hok : wishesB none (madeT l) = true := by
  unfold madeT
  split
  ·decide
  ·exact madeFrom_ok l 0 none h trivial
 unfold validT
 rw [hbig, hok]
 simp
 intro he
 rw [he] at hlen
 simp at hlen
def fourTree : Nat → Nat
 | 0 => 1
 | n + 1 => 1 + 4 * fourTree n
theorem treeMax_le : ∀ (l : List WishD), (∀ x ∈ l, x.opts.length ≤ 4) → treeMax l ≤ fourTree l.length
 | [], _ => by simp [treeMax, fourTree]
 | x :: r, h => by
  have h1 := treeMax_le r fun y hy => h y (List.mem_cons_of_mem _ hy)
  have h2 := h x List.mem_cons_self
  have h3 : x.opts.length * treeMax r ≤ 4 * treeMax r := Nat.mul_le_mul_right _ h2
  simp only [treeMax, List.length_cons, fourTree]
  omega
theorem tree_four {l : List WishD} (h : ∀ x ∈ l, x.opts.length ≤ 4) (hl : l.length ≤ 4) : treeMax l ≤ 341 := by
 have h1 := treeMax_le l h
 have : ∀ n, n ≤ 4 → fourTree n ≤ 341 := by decide
 have := this _ hl
 omega
theorem made_tree {l : List RawD} (h : RawsOk l) : treeMax (madeT l) ≤ 341 := tree_four (fun _ hx => (made_opts h hx).2.1) made_len.2
end Go.Proofs.YtepcdhpikpmepaaGreat

/- The reference's makers: Choice. -/
namespace Go.Proofs.YtepcdhpikpmepaaGreat
open Go.RowKit

def Bytes (w : World) (v : Value) (l : List Int) : Prop := Sl w 1 v l.length (fun i _ => .int .u8 (l[i]?.getD 0)) ∧ ∀ x ∈ l, byteB x
theorem Bytes.ext {w w' : World} {v : Value} {l : List Int} (h : Bytes w v l) (e : Ext w w') : Bytes w' v l := ⟨Sl.ext h.1 e, h.2⟩
def BytesAt (a : Option Addr) (w : World) (l : List Int) : Prop :=
 ∀ i, i < l.length → ∀ W, Ext w W → ∃ b off x, a = some ⟨b, off, none⟩ ∧ b < W.heap.size ∧ Hid (l[i]? = some x) ∧ 0 ≤ x ∧ x ≤ 255 ∧ W.cell? ⟨b, off + i, none⟩ = some (.int .u8 x)
theorem Bytes.open {w : World} {v : Value} {l : List Int} (h : Bytes w v l) :
  ∃ a c, v = .slice a l.length c ∧ l.length ≤ c ∧ c ≤ 9223372036854775807 ∧ BytesAt a w l := by
 obtain ⟨h, hb⟩ := h
 obtain ⟨a, c, hv, hn, hc, h⟩ := Sl.open h
 refine ⟨a, c, hv, hn, hc, fun i hi W e => ?_⟩
 obtain ⟨b, off, ha, hbl, h⟩ := h i hi
 have ex : l[i]? = some l[i] := List.getElem?_eq_getElem hi
 have hx := hb l[i] (List.getElem_mem hi)
 refine ⟨b, off, l[i], ha, Nat.lt_of_lt_of_le hbl e.size, ex, hx.1, hx.2, ?_⟩
 have := h W e 0 (by omega)
 simpa [ex] using this

def choiceAt (t : List WishD) (x : List Int) (i : Nat) : Int := if i < x.length then x[i]?.getD 0 % ((t[i]?.getD default).opts.length : Int) else 0
def choiceTo (t : List WishD) (x : List Int) (i : Nat) : List Int := (List.range i).map (choiceAt t x)
def choiceT (t : List WishD) (x : List Int) : List Int := choiceTo t x t.length
theorem choiceTo_step (t : List WishD) (x : List Int) (i : Nat) : choiceTo t x (i + 1) = choiceTo t x i ++ [choiceAt t x i] := by simp [choiceTo, List.range_succ]
theorem choiceTo_len (t : List WishD) (x : List Int) (i : Nat) : (choiceTo t x i).length = i := by simp [choiceTo]

theorem IntsO.push {w w1 : World} {v v1 : Value} {l : List Int} {x : Int} {n B : Nat} (_ : IntsO w B v l) (hn : n = l.length) (hown : w1.ownsRow B 3 1 v1 (n + 1) (l.map (Value.int .i64) ++ [.int .i64 x])) : IntsO w1 B v1 (l ++ [x]) := by
 unfold IntsO
 rw [List.length_append, ← hn, List.map_append]
 exact hown
theorem Ext.push {w W w1 : World} {e : TypeId} {size n : Nat} {v : Value} {xs : List Value} (h : Ext w W) (ho : W.ownsRow w.heap.size e size v n xs) (o : Obj) (hg : (W.alloc o).grownBy w1 v.ownBlock) : Ext w w1 :=
 (h.alloc o).grown hg fun g e => (ho.lt g e).1

theorem best_out {t : List WishD} {w w' : World} {e : Ending} (hv : validT t = 0) (h : BestOut t w e w') :
  (lawfulL t = [] ∧ e = .returned (.tuple #[.agg #[.slice none 0 0, .int .i64 0], .slice none 0 0, .int .i64 4]) ∧ Ext w w') ∨
  ∃ pv cv p h, bestOf t = some (p, h) ∧ e = .returned (.tuple #[.agg #[pv, .int .i64 h], cv, .int .i64 0]) ∧ Ext w w' ∧ Ints w' pv p ∧ Nodes w' cv (growL t h t [] 0 0).nodes := by
 obtain ⟨pv, cv, er, rfl, hx, h⟩ := h
 rcases h with ⟨h, _⟩ | ⟨_, ⟨b, h1, h2⟩, rfl, rfl, rfl⟩ | ⟨_, p, q, ⟨b, hb⟩, hp, hc, rfl⟩
 ·exact absurd hv h
 ·exact Or.inl ⟨bestRes_none h1 h2, rfl, hx⟩
 ·exact Or.inr ⟨pv, cv, p, q, (bestRes_some hb).1, rfl, hx, hp, hc⟩

theorem sumH_bd : ∀ {t : List WishD} {p : List Int}, (∀ x ∈ t, ∀ o ∈ x.opts, 0 ≤ o.harm ∧ o.harm ≤ 1000000) → choiceB t p = true → 0 ≤ sumH t p ∧ sumH t p ≤ 1000000 * t.length
 | [], [], _, _ => by simp [sumH]
 | [], _ :: _, _, h => by simp [choiceB] at h
 | _ :: _, [], _, h => by simp [choiceB] at h
 | x :: t, k :: p, hh, h => by
  simp only [choiceB, Bool.and_eq_true] at h
  obtain ⟨j, rfl, hj⟩ := idxB_nat h.1
  have h1 := hh x List.mem_cons_self x.opts[j] (List.getElem_mem hj)
  have h2 := sumH_bd (fun y hy => hh y (List.mem_cons_of_mem _ hy)) h.2
  simp only [sumH, Int.toNat_natCast, List.getElem?_eq_getElem hj, Option.getD_some, List.length_cons]
  omega
theorem bestOf_bd {t : List WishD} (hv : validT t = 0) {p : List Int} {h : Int} (hb : bestOf t = some (p, h)) : 0 ≤ h ∧ h ≤ 512000000 := by
 obtain ⟨h1, h2, _⟩ := bestOf_spec hv hb
 simp only [lawfulB, Bool.and_eq_true] at h1
 have h3 := sumH_bd (harms_of hv) h1.1.2
 have h4 := tooLarge_len (validT_ok hv).1
 omega

theorem choiceB_of : ∀ (t : List WishD) (f : Nat → Int) (k : Nat), (∀ i y, t[i]? = some y → idxB (f (k + i)) y.opts.length = true) → choiceB t ((List.range' k t.length).map f) = true
 | [], _, _, _ => rfl
 | y :: t, f, k, h => by
  simp only [List.length_cons, List.range'_succ, List.map_cons, choiceB, Bool.and_eq_true]
  refine ⟨h 0 y rfl, choiceB_of t f (k + 1) fun i z hz => ?_⟩
  have := h (i + 1) z (by simpa using hz)
  rwa [show k + (i + 1) = k + 1 + i by omega] at this
theorem choiceT_ok {t : List WishD} {x : List Int} (hne : ∀ y ∈ t, 0 < y.opts.length) : choiceB t (choiceT t x) = true := by
 unfold choiceT choiceTo
 rw [List.range_eq_range']
 refine choiceB_of t _ 0 fun i y hy => ?_
 have hpos := hne y (List.mem_of_getElem? hy)
 simp only [Nat.zero_add, choiceAt, hy, Option.getD_some]
 split
 ·simp only [idxB, Bool.and_eq_true, decide_eq_true_eq]
  exact ⟨Int.emod_nonneg _ (by omega), Int.emod_lt_of_pos _ (by omega)⟩
 ·exact idxB_of_lt hpos

end Go.Proofs.YtepcdhpikpmepaaGreat
