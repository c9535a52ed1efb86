/- The reference's makers of tasks: readings of raw wishes; what Made computes. -/
import Derived.Test.YtonmlmkemliefaaMadeA
namespace Go.Proofs.Ytonmlmkemliefaa
open Go.RowKit

structure RawD where
  people : Int
  opts : List Oct
instance : Inhabited Oct := ⟨⟨0, 0, 0, 0⟩⟩
instance : Inhabited RawD := ⟨⟨0, []⟩⟩
def octCell (x : Oct) (j : Nat) : Int := if j = 0 then x.a else if j = 1 then x.b else if j = 2 then x.c else x.d
def Octs (w : World) (v : Value) (l : List Oct) : Prop := Sl w 4 v l.length (fun i j => .int .u8 (octCell (l[i]?.getD default) j)) ∧ ∀ x ∈ l, OctOk x
theorem Octs.ext {w w' : World} {v : Value} {l : List Oct} (h : Octs w v l) (e : Ext w w') : Octs w' v l := ⟨Sl.ext h.1 e, h.2⟩
def OctsAt (a : Option Addr) (w : World) (l : List Oct) : Prop :=
  ∀ i, i < l.length → ∀ W, Ext w W → ∃ b off x, a = some ⟨b, off, none⟩ ∧ b < W.heap.size ∧ Hid (l.drop i = x :: l.drop (i + 1)) ∧ Hid (l[i]? = some x) ∧ Hid (OctOk x) ∧
    W.cell? ⟨b, off + i * 4, none⟩ = some (.int .u8 x.a) ∧ W.cell? ⟨b, off + i * 4 + 1, none⟩ = some (.int .u8 x.b) ∧ W.cell? ⟨b, off + i * 4 + 2, none⟩ = some (.int .u8 x.c) ∧ W.cell? ⟨b, off + i * 4 + 3, none⟩ = some (.int .u8 x.d)
theorem Octs.open {w : World} {v : Value} {l : List Oct} (h : Octs w v l) :
    ∃ a c, v = .slice a l.length c ∧ l.length ≤ c ∧ c ≤ 9223372036854775807 ∧ OctsAt a w l := by
  obtain ⟨h, hok⟩ := h
  obtain ⟨a, c, hv, hn, hc, h⟩ := Sl.open h
  refine ⟨a, c, hv, hn, hc, fun i hi W e => ?_⟩
  obtain ⟨b, off, ha, hb, h⟩ := h i hi
  obtain ⟨x, d, ex⟩ := drop_cons l i hi
  refine ⟨b, off, x, ha, Nat.lt_of_lt_of_le hb e.size, d, ex, hok x (List.mem_of_getElem? ex), ?_, ?_, ?_, ?_⟩
  · have := h W e 0 (by omega)
    simpa [ex, octCell] using this
  · have := h W e 1 (by omega)
    simpa [ex, octCell] using this
  · have := h W e 2 (by omega)
    simpa [ex, octCell] using this
  · have := h W e 3 (by omega)
    simpa [ex, octCell] using this
def Raws (w : World) (v : Value) (l : List RawD) : Prop :=
  ∃ S : Nat → Value, Sl w 2 v l.length (fun i j => if j = 0 then .int .u8 (l[i]?.getD default).people else S i) ∧ ∀ i, i < l.length → Octs w (S i) (l[i]?.getD default).opts ∧ byteB (l[i]?.getD default).people
theorem Raws.ext {w w' : World} {v : Value} {l : List RawD} (h : Raws w v l) (e : Ext w w') : Raws w' v l :=
  let ⟨S, h1, h2⟩ := h
  ⟨S, Sl.ext h1 e, fun i hi => ⟨(h2 i hi).1.ext e, (h2 i hi).2⟩⟩
def RawsAt (a : Option Addr) (w : World) (l : List RawD) : Prop :=
  ∀ i, i < l.length → ∀ W, Ext w W → ∃ b off x sa sc, a = some ⟨b, off, none⟩ ∧ b < W.heap.size ∧ Hid (l.drop i = x :: l.drop (i + 1)) ∧ Hid (l[i]? = some x) ∧ Hid (byteB x.people) ∧
    W.cell? ⟨b, off + i * 2, none⟩ = some (.int .u8 x.people) ∧ W.cell? ⟨b, off + i * 2 + 1, none⟩ = some (.slice sa x.opts.length sc) ∧ Octs W (.slice sa x.opts.length sc) x.opts
theorem Raws.open {w : World} {v : Value} {l : List RawD} (h : Raws w v l) :
    ∃ a c, v = .slice a l.length c ∧ l.length ≤ c ∧ c ≤ 9223372036854775807 ∧ RawsAt a w l := by
  obtain ⟨S, h1, h2⟩ := h
  obtain ⟨a, c, hv, hn, hc, h⟩ := Sl.open h1
  refine ⟨a, c, hv, hn, hc, fun i hi W e => ?_⟩
  obtain ⟨b, off, ha, hb, h⟩ := h i hi
  obtain ⟨x, d, ex⟩ := drop_cons l i hi
  obtain ⟨hs, hp⟩ := h2 i hi
  have hs := hs.ext e
  simp only [ex, Option.getD_some] at hs hp
  obtain ⟨sa, sc, hS, _⟩ := Octs.open hs
  refine ⟨b, off, x, sa, sc, ha, Nat.lt_of_lt_of_le hb e.size, d, ex, hp, ?_, ?_, by rw [← hS]; exact hs⟩
  · have := h W e 0 (by omega)
    simpa [ex] using this
  · have := h W e 1 (by omega)
    rw [← hS]
    simpa [ex] using this

def bitB (n : Int) (p : Nat) : Bool := decide (n / 2 ^ p % 2 = 1)
def peopleTo (n : Int) (p : Nat) : List Int := ((List.range p).filter (bitB n)).map fun (k : Nat) => (k : Int)
def wishT (i : Nat) (x : RawD) : WishD := ⟨10 + i, peopleTo x.people 5, if x.opts.length = 0 then [optT ⟨0, 1, i, 3⟩] else (x.opts.take 4).map optT⟩
def madeFrom : Nat → List RawD → List WishD
  | _, [] => []
  | i, x :: r => if i < 4 then wishT i x :: madeFrom (i + 1) r else []
def madeT (l : List RawD) : List WishD := if l.length = 0 then [⟨1, [], [⟨0, 0, []⟩]⟩] else madeFrom 0 l
theorem peopleTo_step (n : Int) (p : Nat) : peopleTo n (p + 1) = if bitB n p then peopleTo n p ++ [(p : Int)] else peopleTo n p := by
  unfold peopleTo
  rw [List.range_succ, List.filter_append, List.map_append]
  cases h : bitB n p <;> simp [h]
theorem bit_walk {n : Int} (h : 0 ≤ n) (p : Nat) : ((n / 2 ^ p).tmod 2 == 1) = bitB n p := by
  have h1 : 0 ≤ n / 2 ^ p := Int.ediv_nonneg h (by exact Int.le_of_lt (Int.pow_pos (by omega)))
  rw [Int.tmod_eq_emod_of_nonneg h1, bitB]
  rw [Bool.eq_iff_iff]; simp
theorem peopleTo_len (n : Int) (p : Nat) : (peopleTo n p).length ≤ p := by
  unfold peopleTo
  rw [List.length_map]
  have := List.length_filter_le (bitB n) (List.range p)
  simpa using this

/-- the state of Made between two wishes -/
structure MadeAt (w W : World) (l : List RawD) (i : Nat) (v : Value) (acc : List WishD) : Prop where
  ext : Ext w W
  res : Blk W w.heap.size 26 #[.slice none 0 0]
  task : Blk W (w.heap.size + 1) 26 #[v]
  own : WishesO W w.heap.size v acc
  len : acc.length = i
  go : acc ++ madeFrom i (l.drop i) = madeFrom 0 l
/-- the state of Made within a wish -/
structure WishAt (w0 W : World) (i : Nat) (x : RawD) (pv ov : Value) (p k : Nat) : Prop where
  ext : Ext w0 W
  var : Blk W w0.heap.size 56 #[.int .i64 (10 + (i : Int)), pv, ov]
  people : IntsO W w0.heap.size pv (peopleTo x.people p)
  opts : OptsO W w0.heap.size ov ((x.opts.take k).map optT)
section
variable {w0 W W1 w1 : World} {i p k : Nat} {x : RawD} {pv ov : Value}
theorem WishAt.toExt (h : WishAt w0 W i x pv ov p k) (e : Ext W W1) : WishAt w0 W1 i x pv ov p k :=
  ⟨h.ext.trans e, (Keep.of_ext (X := fun _ => False) e).blk h.var id, h.people.ext e, h.opts.ext e⟩
theorem WishAt.noPerson (h : WishAt w0 W i x pv ov p k) (hb : bitB x.people p = false) : WishAt w0 W i x pv ov (p + 1) k := by
  refine ⟨h.ext, h.var, ?_, h.opts⟩
  rw [peopleTo_step, hb]
  exact h.people
theorem WishAt.varPeople (h : WishAt w0 W i x pv ov p k) (e : Ext W W1) (hg : W1.grownBy w1 pv.ownBlock) : Blk w1 w0.heap.size 56 #[.int .i64 (10 + (i : Int)), pv, ov] :=
  (h.toExt e).var.grown hg (Ne.symm (own_blk_ne h.people h.var (by decide)))
theorem WishAt.varOpts (h : WishAt w0 W i x pv ov p k) (e : Ext W W1) (hg : W1.grownBy w1 ov.ownBlock) : Blk w1 w0.heap.size 56 #[.int .i64 (10 + (i : Int)), pv, ov] := by
  obtain ⟨xs, a, b⟩ := h.opts
  exact (h.toExt e).var.grown hg (Ne.symm (own_blk_ne a h.var (by decide)))
theorem WishAt.person (h : WishAt w0 W i x pv ov p k) (hb : bitB x.people p = true) (e : Ext W W1) {v1 : Value} {n : Nat} (hn : n = (peopleTo x.people p).length)
    (hown : w1.ownsRow w0.heap.size 3 1 v1 (n + 1) ((peopleTo x.people p).map (Value.int .i64) ++ [.int .i64 p])) (hg : W1.grownBy w1 pv.ownBlock) :
    WishAt w0 (w1.setCell ⟨w0.heap.size, 1, none⟩ v1) i x v1 ov (p + 1) k := by
  have h1 := h.toExt e
  have hv := h.varPeople e hg
  have k1 : Keep (fun g => pv.ownBlock = some g) W1 w1 := (Keep.refl _ W1).grown hg (fun g e => Or.inl e)
  have k2 : Keep (fun g => g = w0.heap.size) w1 (w1.setCell ⟨w0.heap.size, 1, none⟩ v1) := keep_set _ _ _ _
  refine ⟨?_, hv.set_ 1 v1, ?_, ?_⟩
  · refine (h1.ext.keep k1 fun j hj hx => ?_).keep k2 fun j hj hx => ?_
    · have := (World.ownsRow.lt h1.people j hx).1; omega
    · omega
  · have := owns_keepT hown k2 (TX.one hv) (by decide)
    unfold IntsO
    rw [peopleTo_step, hb]
    simp only [if_true, List.length_append, List.length_cons, List.length_nil, List.map_append, List.map_cons, List.map_nil, Nat.zero_add]
    rw [← hn]
    exact this
  · exact (h1.opts.keepT k1 (TX.row h1.people) (by decide) (by decide)).keepT k2 (TX.one hv) (by decide) (by decide)
theorem WishAt.option (h : WishAt w0 W i x pv ov p k) {y : Oct} (hy : x.opts[k]? = some y) (e : Ext W W1) {v1 sv : Value} {n : Nat} {xs : List Value} (hn : n = ((x.opts.take k).map optT).length)
    (hxs : OptsCO W w0.heap.size ((x.opts.take k).map optT) xs) (hsv : SpansO W1 w0.heap.size sv (optT y).spans) (hrow : W.ownsRow w0.heap.size 59 3 ov n xs)
    (hown : w1.ownsRow w0.heap.size 59 3 v1 (n + 1) (xs ++ [.int .i64 (optT y).harm, .int .i64 (optT y).room, sv])) (hg : W1.grownBy w1 ov.ownBlock) :
    WishAt w0 (w1.setCell ⟨w0.heap.size, 2, none⟩ v1) i x pv v1 p (k + 1) := by
  have h1 := h.toExt e
  have hv := h.varOpts e hg
  have k1 : Keep (fun g => ov.ownBlock = some g) W1 w1 := (Keep.refl _ W1).grown hg (fun g e => Or.inl e)
  have hrow1 := owns_ext hrow e
  have t1 := TX.row hrow1
  have k2 : Keep (fun g => g = w0.heap.size) w1 (w1.setCell ⟨w0.heap.size, 2, none⟩ v1) := keep_set _ _ _ _
  have t2 := TX.one hv
  refine ⟨?_, hv.set_ 2 v1, ?_, ?_⟩
  · refine (h1.ext.keep k1 fun j hj hx => ?_).keep k2 fun j hj hx => ?_
    · have := (World.ownsRow.lt hrow1 j hx).1; omega
    · omega
  · exact (h1.people.keepT k1 t1 (by decide)).keepT k2 t2 (by decide)
  · have e1 : (x.opts.take (k + 1)).map optT = (x.opts.take k).map optT ++ [optT y] := by rw [List.take_add_one, hy]; simp
    rw [e1]
    have c1 := OptsCO.snoc ((hsv.keepT k1 t1 (by decide)).keepT k2 t2 (by decide)) (((hxs.ext e).keepT k1 t1 (by decide)).keepT k2 t2 (by decide))
    refine ⟨_, ?_, c1⟩
    have := owns_keepT hown k2 t2 (by decide)
    rw [List.length_append, ← hn]
    exact this
theorem madeFrom_step {i : Nat} {x : RawD} {r : List RawD} (h : i < 4) : madeFrom i (x :: r) = wishT i x :: madeFrom (i + 1) r := by simp [madeFrom, h]
theorem madeFrom_stop {i : Nat} (h : ¬ i < 4) : ∀ (l : List RawD), madeFrom i l = []
  | [] => rfl
  | x :: r => by simp [madeFrom, h]
end
/-- the wish is done: appended -/
theorem MadeAt.wish {w w0 W w1 : World} {l : List RawD} {i : Nat} {v : Value} {acc : List WishD} {x : RawD} {pv ov v1 : Value} {n : Nat} {xs : List Value}
    (hM : MadeAt w w0 l i v acc) (hx : l.drop i = x :: l.drop (i + 1)) (hi : i < 4) (e : Ext w0 W) (hp : IntsO W w.heap.size pv (wishT i x).people) (ho : OptsO W w.heap.size ov (wishT i x).opts)
    (hn : n = acc.length) (hxs : WishesCO w0 w.heap.size acc xs) (hrow : w0.ownsRow w.heap.size 56 3 v n xs)
    (hown : w1.ownsRow w.heap.size 56 3 v1 (n + 1) (xs ++ [.int .i64 (10 + (i : Int)), pv, ov])) (hg : W.grownBy w1 v.ownBlock) :
    MadeAt w (w1.setCell ⟨w.heap.size + 1, 0, none⟩ v1) l (i + 1) v1 (acc ++ [wishT i x]) := by
  have k0 : Keep (fun _ => False) w0 W := Keep.of_ext e
  have hrow1 := owns_ext hrow e
  have t1 := TX.row hrow1
  have k1 : Keep (fun g => v.ownBlock = some g) W w1 := (Keep.refl _ W).grown hg (fun g e => Or.inl e)
  have b0 := (k0.blk hM.res id).grown hg (Ne.symm (own_blk_ne hrow hM.res (by decide)))
  have b1 := (k0.blk hM.task id).grown hg (Ne.symm (own_blk_ne hrow hM.task (by decide)))
  have k2 : Keep (fun g => g = w.heap.size + 1) w1 (w1.setCell ⟨w.heap.size + 1, 0, none⟩ v1) := keep_set _ _ _ _
  have t2 := TX.one b1
  refine ⟨?_, b0.far (by dsimp only; omega) _, b1.set_ 0 v1, ?_, by rw [List.length_append, hM.len]; rfl, ?_⟩
  · refine ((hM.ext.trans e).keep k1 fun j hj hx => ?_).keep k2 fun j hj hx => ?_
    · have := (World.ownsRow.lt hrow1 j hx).1; omega
    · omega
  · have c1 := WishesCO.snoc (x := wishT i x) ⟨(hp.keepT k1 t1 (by decide)).keepT k2 t2 (by decide), (ho.keepT k1 t1 (by decide) (by decide)).keepT k2 t2 (by decide) (by decide)⟩
      (WishesCO.keepT k2 t2 (by decide) (by decide) (by decide) (WishesCO.keepT k1 t1 (by decide) (by decide) (by decide) (WishesCO.ext e hxs)))
    refine ⟨_, ?_, c1⟩
    have := owns_keepT hown k2 t2 (by decide)
    rw [List.length_append, ← hn]
    exact this
  · have := hM.go
    rw [hx, madeFrom_step hi] at this
    rw [← this]
    simp
end Go.Proofs.Ytonmlmkemliefaa
