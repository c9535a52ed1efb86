import Derived.Test.YtgolicoalldidaaGreatChecked
import Derived.WalkKit
import Derived.Handy
import Derived.Deep.QuietTactic
import Derived.BigQuiet
import Derived.WalkSpells
import Derived.WalkLawsBesides
import Derived.Deep.LoopGhost
import Derived.Lib.Hide
set_option maxHeartbeats 12800000
namespace Go.Proofs.YtgolicoalldidaaGreat
open Go.RowKit
theorem putA (l : List Value) (i : Nat) (a : Value) : l.toArray.setIfInBounds i a = (l.set i a).toArray := List.setIfInBounds_toArray ..
theorem putB (x : Value) (l : List Value) (n : Nat) (a : Value) : (x :: l).set (n + 1) a = x :: l.set n a := rfl
theorem putC (x : Value) (l : List Value) (a : Value) : (x :: l).set 0 a = a :: l := rfl
def Ext (w w' : World) : Prop := Below w.heap.size w w'
theorem Ext.refl (w : World) : Ext w w := Below.refl _ _
theorem Ext.trans {a b c : World} (h : Ext a b) (k : Ext b c) : Ext a c := Below.trans h (Below.mono k (Below.size h))
theorem Ext.alloc {a w : World} (h : Ext a w) (o : Obj) : Ext a (w.alloc o) := Below.alloc h (Below.size h) o
theorem Ext.drew {a w : World} (h : Ext a w) : Ext a w.drew := Below.drew h
theorem Ext.drewN {a w : World} (h : Ext a w) (n : Nat) : Ext a (w.drewN n) := by
 have h' : Below a.heap.size a w := h
 exact ⟨h'.os, h'.tape, h'.output, h'.size, h'.block⟩
theorem Ext.setCell {a w : World} (h : Ext a w) {p : Addr} (hp : a.heap.size ≤ p.block) (u : Value) : Ext a (w.setCell p u) := Below.setCell h hp u
theorem Ext.size {a w : World} (h : Ext a w) : a.heap.size ≤ w.heap.size := Below.size h
theorem Ext.heap {a w : World} (h : Ext a w) {k : Nat} (hk : k < a.heap.size) : w.heap[k]? = a.heap[k]? := Below.block h k hk
theorem Ext.cell {a w : World} (h : Ext a w) {p : Addr} {v : Value} (hp : a.cell? p = some v) : w.cell? p = some v :=
 (Below.cell h (World.block_lt_of_cell? _ _ hp)).trans hp
theorem Ext.grown {a w w' : World} {row : Option Nat} (h : Ext a w) (hg : w.grownBy w' row) (hr : ∀ k, row = some k → a.heap.size ≤ k) : Ext a w' :=
 Below.grown h hg (Below.size h) hr
structure After (w : World) where
 world : World
 ext : Ext w world
instance After.inst (w : World) : Nonempty (After w) := ⟨⟨w, Ext.refl w⟩⟩
theorem After.cell {w : World} {p : Addr} {v : Value} (h : w.cell? p = some v) (y : After w) : y.world.cell? p = some v := y.ext.cell h
theorem After.call {w : World} {P : Program} {f : FuncId} {args : Array Value} {v : Value} (x : After w)
  (h : Calls P f args x.world fun e w' => e = .returned v ∧ Ext x.world w') : Calls P f args x.world fun e w'' => e = .returned v ∧ ∃ y : After w, w'' = y.world :=
 h.mono fun _ w'' ⟨he, hx⟩ => ⟨he, ⟨w'', x.ext.trans hx⟩, rfl⟩
theorem wp_region_after {P : Program} {id : Nat} {Q : Exit → Act → World → Prop} {a : Act} {w : World} {l : List Oper} (hm : P.follows .mixedOrders = true) (hB : Region.lexB .any l.toArray = true)
  (h : wpQuiet P l.toArray (fun W => ∃ x : After w, W = x.world) (fun a' => ∀ W, (∃ x : After w, W = x.world) → Q .normal a' W) l a) : (Code.region id l.toArray true).wp P Q a w :=
 wp_region_quiet (C := fun W => ∃ x : After w, W = x.world) hm hB ⟨⟨w.drew, (Ext.refl w).drew⟩, rfl⟩ (by simpa using h)
theorem wpList_of_quiet {P : Program} {ops : Array Oper} {C : World → Prop} {Q : Exit → Act → World → Prop} : ∀ {l : List Oper} {a : Act} {w : World}, C w →
  wpQuiet P ops C (fun a' => ∀ W, C W → Q .normal a' W) l a → wpList P ops Q l a w
 | [], _, _, hw, h => h _ hw
 | o :: l, a, w, hw, h => by
  unfold wpQuiet at h
  unfold wpList
  split
  ·rename_i hwd
   rw [if_pos hwd] at h
   exact .inl (Oper.wp_of_quiet hw (fun a' W hW hq => wpList_of_quiet hW hq) h)
  ·rename_i hwd
   rw [if_neg hwd] at h
   exact wpList_of_quiet hw h
theorem wp_region_after0 {P : Program} {id : Nat} {Q : Exit → Act → World → Prop} {a : Act} {w : World} {l : List Oper}
  (h : wpQuiet P l.toArray (fun W => ∃ x : After w, W = x.world) (fun a' => ∀ W, (∃ x : After w, W = x.world) → Q .normal a' W) l a) : (Code.region id l.toArray false).wp P Q a w :=
 wp_region_lit (wpList_of_quiet (C := fun W => ∃ x : After w, W = x.world) ⟨⟨w, Ext.refl w⟩, rfl⟩ h)
theorem wp_abs {P : Program} {c : Code} {Q : Exit → Act → World → Prop} {a : Act} {w : World} (S : World → Prop) (hS : S w) (h : ∀ W, S W → c.wp P Q a W) : c.wp P Q a w := h w hS
def Sl (w : World) (k : Nat) (v : Value) (n : Nat) (F : Nat → Nat → Value) : Prop :=
 ∃ a c, v = .slice a n c ∧ n ≤ c ∧ c ≤ maxLen ∧ (0 < n → ∃ b off, a = some ⟨b, off, none⟩ ∧ b < w.heap.size ∧ ∀ i, i < n → ∀ j, j < k → w.cell? ⟨b, off + i * k + j, none⟩ = some (F i j))
theorem Sl.ext {w w' : World} {k : Nat} {v : Value} {n : Nat} {F : Nat → Nat → Value} (h : Sl w k v n F) (e : Ext w w') : Sl w' k v n F := by
 obtain ⟨a, c, hv, hn, hc, h⟩ := h
 refine ⟨a, c, hv, hn, hc, fun h0 => ?_⟩
 obtain ⟨b, off, ha, hb, h⟩ := h h0
 exact ⟨b, off, ha, Nat.lt_of_lt_of_le hb e.size, fun i hi j hj => e.cell (h i hi j hj)⟩
def SlAt (a : Option Addr) (w : World) (k n : Nat) (F : Nat → Nat → Value) : Prop :=
 ∀ i, i < n → ∃ b off, a = some ⟨b, off, none⟩ ∧ b < w.heap.size ∧ ∀ W, Ext w W → ∀ j, j < k → W.cell? ⟨b, off + i * k + j, none⟩ = some (F i j)
theorem Sl.open {w : World} {k : Nat} {v : Value} {n : Nat} {F : Nat → Nat → Value} (h : Sl w k v n F) :
  ∃ a c, v = .slice a n c ∧ n ≤ c ∧ c ≤ 9223372036854775807 ∧ SlAt a w k n F := by
 obtain ⟨a, c, hv, hn, hc, h⟩ := h
 refine ⟨a, c, hv, hn, by unfold maxLen at hc; exact hc, fun i hi => ?_⟩
 obtain ⟨b, off, ha, hb, h⟩ := h (by omega)
 exact ⟨b, off, ha, hb, fun W e j hj => e.cell (h i hi j hj)⟩
theorem drop_cons {α : Type} (l : List α) (i : Nat) (h : i < l.length) : ∃ x, l.drop i = x :: l.drop (i + 1) ∧ l[i]? = some x :=
 ⟨l[i], List.drop_eq_getElem_cons h, by simp [h]⟩
def Ints (w : World) (v : Value) (l : List Int) : Prop := Sl w 1 v l.length fun i _ => .int .i64 (l[i]?.getD 0)
theorem Ints.ext {w w' : World} {v : Value} {l : List Int} (h : Ints w v l) (e : Ext w w') : Ints w' v l := Sl.ext h e
def IntsAt (a : Option Addr) (w : World) (l : List Int) : Prop :=
 ∀ i, i < l.length → ∀ W, Ext w W → ∃ b off x, a = some ⟨b, off, none⟩ ∧ b < W.heap.size ∧ Hid (l.drop i = x :: l.drop (i + 1)) ∧ Hid (l[i]? = some x) ∧ W.cell? ⟨b, off + i, none⟩ = some (.int .i64 x)
theorem Ints.open {w : World} {v : Value} {l : List Int} (h : Ints w v l) :
  ∃ a c, v = .slice a l.length c ∧ l.length ≤ c ∧ c ≤ 9223372036854775807 ∧ IntsAt a w l := by
 obtain ⟨a, c, hv, hn, hc, h⟩ := Sl.open h
 refine ⟨a, c, hv, hn, hc, fun i hi W e => ?_⟩
 obtain ⟨b, off, ha, hb, h⟩ := h i hi
 obtain ⟨x, d, ex⟩ := drop_cons l i hi
 refine ⟨b, off, x, ha, Nat.lt_of_lt_of_le hb e.size, d, ex, ?_⟩
 have := h W e 0 (by omega)
 simpa [ex] using this
structure OptD where
 harm : Int
 room : Int
 spans : List (Int × Int)
 deriving DecidableEq, Inhabited
structure WishD where
 meeting : Int
 people : List Int
 opts : List OptD
 deriving DecidableEq, Inhabited
structure NodeD where
 wish : Int
 kids : List Int
 clA : Int
 clB : Int
 deriving DecidableEq, Inhabited
def Spans (w : World) (v : Value) (l : List (Int × Int)) : Prop := Sl w 2 v l.length fun i j => .int .i64 (if j = 0 then (l[i]?.getD default).1 else (l[i]?.getD default).2)
theorem Spans.ext {w w' : World} {v : Value} {l : List (Int × Int)} (h : Spans w v l) (e : Ext w w') : Spans w' v l := Sl.ext h e
def SpansAt (a : Option Addr) (w : World) (l : List (Int × Int)) : Prop :=
 ∀ i, i < l.length → ∀ W, Ext w W → ∃ b off x y, a = some ⟨b, off, none⟩ ∧ b < W.heap.size ∧ Hid (l.drop i = (x, y) :: l.drop (i + 1)) ∧ Hid (l[i]? = some (x, y)) ∧
  W.cell? ⟨b, off + i * 2, none⟩ = some (.int .i64 x) ∧ W.cell? ⟨b, off + i * 2 + 1, none⟩ = some (.int .i64 y)
theorem Spans.open {w : World} {v : Value} {l : List (Int × Int)} (h : Spans w v l) :
  ∃ a c, v = .slice a l.length c ∧ l.length ≤ c ∧ c ≤ 9223372036854775807 ∧ SpansAt a w l := by
 obtain ⟨a, c, hv, hn, hc, h⟩ := Sl.open h
 refine ⟨a, c, hv, hn, hc, fun i hi W e => ?_⟩
 obtain ⟨b, off, ha, hb, h⟩ := h i hi
 obtain ⟨⟨x, y⟩, d, ex⟩ := drop_cons l i hi
 refine ⟨b, off, x, y, ha, Nat.lt_of_lt_of_le hb e.size, d, ex, ?_, ?_⟩
 ·have := h W e 0 (by omega)
  simpa [ex] using this
 ·have := h W e 1 (by omega)
  simpa [ex] using this
def Opts (w : World) (v : Value) (l : List OptD) : Prop :=
 ∃ S : Nat → Value, Sl w 3 v l.length (fun i j => if j = 0 then .int .i64 (l[i]?.getD default).harm else if j = 1 then .int .i64 (l[i]?.getD default).room else S i) ∧
  ∀ i, i < l.length → Spans w (S i) (l[i]?.getD default).spans
theorem Opts.ext {w w' : World} {v : Value} {l : List OptD} (h : Opts w v l) (e : Ext w w') : Opts w' v l :=
 let ⟨S, h1, h2⟩ := h
 ⟨S, Sl.ext h1 e, fun i hi => (h2 i hi).ext e⟩
def OptV (w : World) (v : Value) (o : OptD) : Prop := ∃ sv, v = .agg #[.int .i64 o.harm, .int .i64 o.room, sv] ∧ Spans w sv o.spans
def OptsAt (a : Option Addr) (w : World) (l : List OptD) : Prop :=
 ∀ i, i < l.length → ∀ W, Ext w W → ∃ b off o sa sc, a = some ⟨b, off, none⟩ ∧ b < W.heap.size ∧ Hid (l.drop i = o :: l.drop (i + 1)) ∧ Hid (l[i]? = some o) ∧
  W.cell? ⟨b, off + i * 3, none⟩ = some (.int .i64 o.harm) ∧ W.cell? ⟨b, off + i * 3 + 1, none⟩ = some (.int .i64 o.room) ∧ W.cell? ⟨b, off + i * 3 + 2, none⟩ = some (.slice sa o.spans.length sc) ∧
  Spans W (.slice sa o.spans.length sc) o.spans
theorem Opts.open {w : World} {v : Value} {l : List OptD} (h : Opts w v l) :
  ∃ a c, v = .slice a l.length c ∧ l.length ≤ c ∧ c ≤ 9223372036854775807 ∧ OptsAt a w l := by
 obtain ⟨S, h1, h2⟩ := h
 obtain ⟨a, c, hv, hn, hc, h⟩ := Sl.open h1
 refine ⟨a, c, hv, hn, hc, fun i hi W e => ?_⟩
 obtain ⟨b, off, ha, hb, h⟩ := h i hi
 obtain ⟨o, d, ex⟩ := drop_cons l i hi
 have hs := (h2 i hi).ext e
 simp only [ex, Option.getD_some] at hs
 obtain ⟨sa, sc, hS, _⟩ := Spans.open hs
 refine ⟨b, off, o, sa, sc, ha, Nat.lt_of_lt_of_le hb e.size, d, ex, ?_, ?_, ?_, by rw [← hS]; exact hs⟩
 ·have := h W e 0 (by omega)
  simpa [ex] using this
 ·have := h W e 1 (by omega)
  simpa [ex] using this
 ·have := h W e 2 (by omega)
  rw [← hS]
  simpa [ex] using this
def Wishes (w : World) (v : Value) (l : List WishD) : Prop :=
 ∃ Pp O : Nat → Value, Sl w 3 v l.length (fun i j => if j = 0 then .int .i64 (l[i]?.getD default).meeting else if j = 1 then Pp i else O i) ∧
  ∀ i, i < l.length → Ints w (Pp i) (l[i]?.getD default).people ∧ Opts w (O i) (l[i]?.getD default).opts
theorem Wishes.ext {w w' : World} {v : Value} {l : List WishD} (h : Wishes w v l) (e : Ext w w') : Wishes w' v l :=
 let ⟨S, T, h1, h2⟩ := h
 ⟨S, T, Sl.ext h1 e, fun i hi => ⟨(h2 i hi).1.ext e, (h2 i hi).2.ext e⟩⟩
def WishV (w : World) (v : Value) (x : WishD) : Prop := ∃ pv ov, v = .agg #[.int .i64 x.meeting, pv, ov] ∧ Ints w pv x.people ∧ Opts w ov x.opts
def WishesAt (a : Option Addr) (w : World) (l : List WishD) : Prop :=
 ∀ i, i < l.length → ∀ W, Ext w W → ∃ b off x pa pc oa oc, a = some ⟨b, off, none⟩ ∧ b < W.heap.size ∧ Hid (l.drop i = x :: l.drop (i + 1)) ∧ Hid (l[i]? = some x) ∧
  W.cell? ⟨b, off + i * 3, none⟩ = some (.int .i64 x.meeting) ∧ W.cell? ⟨b, off + i * 3 + 1, none⟩ = some (.slice pa x.people.length pc) ∧ W.cell? ⟨b, off + i * 3 + 2, none⟩ = some (.slice oa x.opts.length oc) ∧
  Ints W (.slice pa x.people.length pc) x.people ∧ Opts W (.slice oa x.opts.length oc) x.opts
theorem Wishes.open {w : World} {v : Value} {l : List WishD} (h : Wishes w v l) :
  ∃ a c, v = .slice a l.length c ∧ l.length ≤ c ∧ c ≤ 9223372036854775807 ∧ WishesAt a w l := by
 obtain ⟨Pp, O, h1, h2⟩ := h
 obtain ⟨a, c, hv, hn, hc, h⟩ := Sl.open h1
 refine ⟨a, c, hv, hn, hc, fun i hi W e => ?_⟩
 obtain ⟨b, off, ha, hb, h⟩ := h i hi
 obtain ⟨x, d, ex⟩ := drop_cons l i hi
 have hp := (h2 i hi).1.ext e
 have ho := (h2 i hi).2.ext e
 simp only [ex, Option.getD_some] at hp ho
 obtain ⟨pa, pc, hP, _⟩ := Ints.open hp
 obtain ⟨oa, oc, hO, _⟩ := Opts.open ho
 refine ⟨b, off, x, pa, pc, oa, oc, ha, Nat.lt_of_lt_of_le hb e.size, d, ex, ?_, ?_, ?_, by rw [← hP]; exact hp, by rw [← hO]; exact ho⟩
 ·have := h W e 0 (by omega)
  simpa [ex] using this
 ·have := h W e 1 (by omega)
  rw [← hP]
  simpa [ex] using this
 ·have := h W e 2 (by omega)
  rw [← hO]
  simpa [ex] using this
def Nodes (w : World) (v : Value) (l : List NodeD) : Prop :=
 ∃ K : Nat → Value, Sl w 4 v l.length (fun i j => if j = 0 then .int .i64 (l[i]?.getD default).wish else if j = 1 then K i else if j = 2 then .int .i64 (l[i]?.getD default).clA else .int .i64 (l[i]?.getD default).clB) ∧
  ∀ i, i < l.length → Ints w (K i) (l[i]?.getD default).kids
theorem Nodes.ext {w w' : World} {v : Value} {l : List NodeD} (h : Nodes w v l) (e : Ext w w') : Nodes w' v l :=
 let ⟨S, h1, h2⟩ := h
 ⟨S, Sl.ext h1 e, fun i hi => (h2 i hi).ext e⟩
def NodesAt (a : Option Addr) (w : World) (l : List NodeD) : Prop :=
 ∀ i, i < l.length → ∀ W, Ext w W → ∃ b off x ka kc, a = some ⟨b, off, none⟩ ∧ b < W.heap.size ∧ Hid (l.drop i = x :: l.drop (i + 1)) ∧ Hid (l[i]? = some x) ∧
  W.cell? ⟨b, off + i * 4, none⟩ = some (.int .i64 x.wish) ∧ W.cell? ⟨b, off + i * 4 + 1, none⟩ = some (.slice ka x.kids.length kc) ∧
  W.cell? ⟨b, off + i * 4 + 2, none⟩ = some (.int .i64 x.clA) ∧ W.cell? ⟨b, off + i * 4 + 3, none⟩ = some (.int .i64 x.clB) ∧ Ints W (.slice ka x.kids.length kc) x.kids
theorem Nodes.open {w : World} {v : Value} {l : List NodeD} (h : Nodes w v l) :
  ∃ a c, v = .slice a l.length c ∧ l.length ≤ c ∧ c ≤ 9223372036854775807 ∧ NodesAt a w l := by
 obtain ⟨K, h1, h2⟩ := h
 obtain ⟨a, c, hv, hn, hc, h⟩ := Sl.open h1
 refine ⟨a, c, hv, hn, hc, fun i hi W e => ?_⟩
 obtain ⟨b, off, ha, hb, h⟩ := h i hi
 obtain ⟨x, d, ex⟩ := drop_cons l i hi
 have hk := (h2 i hi).ext e
 simp only [ex, Option.getD_some] at hk
 obtain ⟨ka, kc, hK, _⟩ := Ints.open hk
 refine ⟨b, off, x, ka, kc, ha, Nat.lt_of_lt_of_le hb e.size, d, ex, ?_, ?_, ?_, ?_, by rw [← hK]; exact hk⟩
 ·have := h W e 0 (by omega)
  simpa [ex] using this
 ·have := h W e 1 (by omega)
  rw [← hK]
  simpa [ex] using this
 ·have := h W e 2 (by omega)
  simpa [ex] using this
 ·have := h W e 3 (by omega)
  simpa [ex] using this
theorem Ints.form {w : World} {v : Value} {l : List Int} (h : Ints w v l) : ∃ a c, v = .slice a l.length c := let ⟨a, c, hv, _⟩ := h; ⟨a, c, hv⟩
theorem Spans.form {w : World} {v : Value} {l : List (Int × Int)} (h : Spans w v l) : ∃ a c, v = .slice a l.length c := let ⟨a, c, hv, _⟩ := h; ⟨a, c, hv⟩
theorem Opts.form {w : World} {v : Value} {l : List OptD} (h : Opts w v l) : ∃ a c, v = .slice a l.length c := let ⟨_, ⟨a, c, hv, _⟩, _⟩ := h; ⟨a, c, hv⟩
theorem Wishes.form {w : World} {v : Value} {l : List WishD} (h : Wishes w v l) : ∃ a c, v = .slice a l.length c := let ⟨_, _, ⟨a, c, hv, _⟩, _⟩ := h; ⟨a, c, hv⟩
theorem Nodes.form {w : World} {v : Value} {l : List NodeD} (h : Nodes w v l) : ∃ a c, v = .slice a l.length c := let ⟨_, ⟨a, c, hv, _⟩, _⟩ := h; ⟨a, c, hv⟩
theorem Ints.len {w : World} {v : Value} {l : List Int} (h : Ints w v l) : l.length ≤ 9223372036854775807 := let ⟨_, _, _, h1, h2, _⟩ := Ints.open h; Nat.le_trans h1 h2
theorem Spans.len {w : World} {v : Value} {l : List (Int × Int)} (h : Spans w v l) : l.length ≤ 9223372036854775807 := let ⟨_, _, _, h1, h2, _⟩ := Spans.open h; Nat.le_trans h1 h2
theorem Opts.len {w : World} {v : Value} {l : List OptD} (h : Opts w v l) : l.length ≤ 9223372036854775807 := let ⟨_, _, _, h1, h2, _⟩ := Opts.open h; Nat.le_trans h1 h2
theorem Wishes.len {w : World} {v : Value} {l : List WishD} (h : Wishes w v l) : l.length ≤ 9223372036854775807 := let ⟨_, _, _, h1, h2, _⟩ := Wishes.open h; Nat.le_trans h1 h2
end Go.Proofs.YtgolicoalldidaaGreat
namespace Go.Proofs.YtgolicoalldidaaGreat
open Go.RowKit
def farB (t : Int) : Bool := decide (t < -2251799813685248) || decide (2251799813685248 < t)
def rangedB (l : List (Int × Int)) : Bool := l.all fun s => !(farB s.1 || farB s.2)
def chainB : Option Int → List (Int × Int) → Bool
 | _, [] => true
 | p, s :: r => decide (s.1 < s.2) && (match p with | none => true | some e => decide (e < s.1)) && chainB (some s.2) r
def normalB (l : List (Int × Int)) : Bool := chainB none l && rangedB l
def findI {α : Type} (p : α → Bool) (l : List α) : Int := match l.findIdx? p with | some i => (i : Int) | none => -1
theorem findI_ge {α : Type} (p : α → Bool) (l : List α) : decide (0 ≤ findI p l) = l.any p := by
 unfold findI
 cases h : l.findIdx? p with
 | none => simp only [List.findIdx?_eq_none_iff] at h; simp; exact h
 | some i =>
  have := List.findIdx?_isSome (xs := l) (p := p)
  rw [h] at this
  simp at this
  simp; exact this
def FindAt {α : Type} (p : α → Bool) (l : List α) (i : Nat) : Prop := ∀ x ∈ l.take i, p x = false
theorem FindAt.zero {α : Type} (p : α → Bool) (l : List α) : FindAt p l 0 := by simp [FindAt]
theorem FindAt.hit {α : Type} {p : α → Bool} {l : List α} {i : Nat} {x : α} (h : FindAt p l i) (hx : l[i]? = some x) (hp : p x = true) : findI p l = i := by
 unfold findI
 have hi : i < l.length := (List.getElem?_eq_some_iff.1 hx).1
 have : l.findIdx? p = some i := by
  rw [List.findIdx?_eq_some_iff_getElem]
  refine ⟨hi, by rw [(List.getElem?_eq_some_iff.1 hx).2]; exact hp, fun j hj => ?_⟩
  have := h (l[j]'(by omega)) (by rw [List.mem_take_iff_getElem]; exact ⟨j, by omega, rfl⟩)
  simp [this]
 rw [this]
theorem FindAt.miss {α : Type} {p : α → Bool} {l : List α} {i : Nat} {x : α} (h : FindAt p l i) (hx : l[i]? = some x) (hp : p x = false) : FindAt p l (i + 1) := by
 intro y hy
 rw [List.take_add_one, hx] at hy
 rcases List.mem_append.1 hy with hy | hy
 ·exact h y hy
 ·simp at hy; subst hy; exact hp
theorem FindAt.none {α : Type} {p : α → Bool} {l : List α} {i : Nat} (h : FindAt p l i) (hi : l.length ≤ i) : findI p l = -1 := by
 unfold findI
 have : l.findIdx? p = Option.none := by
  rw [List.findIdx?_eq_none_iff]
  intro x hx
  exact h x (by rw [List.take_of_length_le hi]; exact hx)
 rw [this]
def idxB (i n : Int) : Bool := decide (0 ≤ i) && decide (i < n)
def optOkB (o : OptD) : Bool := decide (0 ≤ o.harm) && decide (o.harm ≤ 1000000) && decide (-1 ≤ o.room) && decide (o.room < 256) && normalB o.spans
def peopleB : Option Int → List Int → Bool
 | _, [] => true
 | p, x :: r => decide (0 ≤ x) && decide (x < 512) && (match p with | none => true | some e => decide (e < x)) && peopleB (some x) r
def wishOkB (x : WishD) : Bool := peopleB none x.people && decide (1 ≤ x.meeting) && decide (0 < x.opts.length) && x.opts.all optOkB
def tooLargeB (t : List WishD) : Bool :=
 decide (512 < t.length) || t.any fun x => decide (16 < x.opts.length) || decide (64 < x.people.length) || x.opts.any fun o => decide (64 < o.spans.length)
def wishesB : Option Int → List WishD → Bool
 | _, [] => true
 | p, x :: r => wishOkB x && (match p with | none => true | some e => decide (e < x.meeting)) && wishesB (some x.meeting) r
def validT (t : List WishD) : Int := if tooLargeB t then 2 else if wishesB none t && decide (0 < t.length) then 0 else 1
def shareB (a b : List Int) : Bool := a.any fun x => b.contains x
def meetB (a b : List (Int × Int)) : Bool := a.any fun x => b.any fun y => decide (x.1 < y.2) && decide (y.1 < x.2)
def clashB (a b : WishD) (x y : OptD) : Bool := (decide (x.room = y.room) && decide (0 ≤ x.room) || shareB a.people b.people) && meetB x.spans y.spans
def leastN (l : List OptD) (n : Int) : Int := l.foldl (fun n o => min n o.harm) n
def leastB (x : WishD) : Int := leastN x.opts 1000000
end Go.Proofs.YtgolicoalldidaaGreat
namespace Go.Proofs.YtgolicoalldidaaGreat
open Go.RowKit
theorem far_calls (t : Int) (w : World) : Calls Tryz.prog 127 #[.int .i64 t] w fun e w' => e = .returned (.bool (farB t)) ∧ Ext w w' := by
 by_cases h1 : t < -2251799813685248
 ·have R : Hid (farB t = true) := by show _ = _; simp [farB, h1]
  go_enter Tryz.func127, Tryz.ntmps127
  go_wp2
  go_ret
  rw [R.out]
  exact ⟨rfl, Ext.refl _⟩
 ·by_cases h2 : 2251799813685248 < t
  ·have R : Hid (farB t = true) := by show _ = _; simp [farB, h2]
   go_enter Tryz.func127, Tryz.ntmps127
   go_wp2
   go_ret
   rw [R.out]
   exact ⟨rfl, Ext.refl _⟩
  ·have R : Hid (farB t = false) := by show _ = _; simp [farB, h1, h2]
   go_enter Tryz.func127, Tryz.ntmps127
   go_wp2
   go_ret
   rw [R.out]
   exact ⟨rfl, Ext.refl _⟩
theorem ranged1_calls (s : Int × Int) (w : World) : Calls Tryz.prog 126 #[.agg #[.int .i64 s.1, .int .i64 s.2]] w fun e w' => e = .returned (.bool (farB s.1 || farB s.2)) ∧ Ext w w' := by
 obtain ⟨x, y⟩ := s
 dsimp only
 cases h1 : farB x with
 | true =>
  go_enter Tryz.func126, Tryz.ntmps126
  go_wp2_with fail
  refine (far_calls _ _).mono ?_
  rintro e w1 ⟨rfl, hx⟩
  go_wp2
  go_ret
  exact ⟨rfl, ((Ext.refl _).alloc _).trans hx⟩
 | false =>
  go_enter Tryz.func126, Tryz.ntmps126
  go_wp2_with fail
  refine (far_calls _ _).mono ?_
  rintro e w1 ⟨rfl, hx⟩
  have c1 : w1.cell? ⟨w.heap.size, 1, none⟩ = some (.int .i64 y) := hx.cell (by simp)
  go_wp2_with fail
  refine (far_calls _ _).mono ?_
  rintro e w2 ⟨rfl, hx2⟩
  go_wp2
  go_ret
  exact ⟨rfl, (((Ext.refl _).alloc _).trans hx).trans hx2⟩
theorem indexFunc_span_calls (va : Value) (l : List (Int × Int)) (g : Nat) (hg : ∀ (x : Array Value) (W : World), (callFunc g x).run Tryz.prog W = .ok (.enter g x) W) (p : Int × Int → Bool) (w : World) (h : Spans w va l)
  (hf : ∀ s ∈ l, ∀ W, Ext w W → Calls Tryz.prog g #[.agg #[.int .i64 s.1, .int .i64 s.2]] W fun e w' => e = .returned (.bool (p s)) ∧ Ext W w') :
  Calls Tryz.prog 140 #[va, .func (.func g) #[] #[]] w fun e w' => e = .returned (.int .i64 (findI p l)) ∧ Ext w w' := by
 obtain ⟨a, c, rfl, hn, hc, hat⟩ := h.open
 clear h
 have hf' := Lib.hid hf
 clear hf
 go_enter Tryz.func140, Tryz.ntmps140
 go_wp2_with fail
 go_loopw [8] (fun vi wr => ∃ i : Nat, i ≤ l.length ∧ vi = .int .i64 i ∧ Ext w wr ∧ Hid (FindAt p l i)) (fun vi _ => l.length - (intOf vi).toNat)
 case atStart => exact ⟨0, by omega, rfl, Ext.refl _, FindAt.zero _ _⟩
 case round =>
  obtain ⟨i, hi, rfl, hx, hF⟩ := hrel
  by_cases h1 : i < l.length
  ·obtain ⟨b1, o1, x, y, rfl, hb1, dx, ex, g1, g2⟩ := hat i h1 wr hx
   have hm : (x, y) ∈ l := List.mem_of_getElem? ex.out
   have hcall := Lib.hid (hf'.out (x, y) hm wr hx)
   cases hp : p (x, y) with
   | true =>
    have R := Lib.hid (hF.out.hit ex.out hp)
    have hp' := Lib.hid hp
    clear hp
    go_wp2_with fail
    refine hcall.out.mono ?_
    rintro e w1 ⟨rfl, hx1⟩
    rw [hp'.out]
    go_wp2
    go_ret
    rw [R.out]
    exact ⟨rfl, hx.trans hx1⟩
   | false =>
    have R := Lib.hid (hF.out.miss ex.out hp)
    have hp' := Lib.hid hp
    clear hp
    go_wp2_with fail
    refine hcall.out.mono ?_
    rintro e w1 ⟨rfl, hx1⟩
    rw [hp'.out]
    go_wp2
    go_roundw
    case rel => exact ⟨i + 1, by omega, by go_num, hx.trans hx1, R⟩
    case measure => simp [intOf]; omega
  ·have R := Lib.hid (hF.out.none (by omega))
   go_wp2
   go_ret
   rw [R.out]
   exact ⟨rfl, hx⟩
theorem containsFunc_span_calls (va : Value) (l : List (Int × Int)) (g : Nat) (hg : ∀ (x : Array Value) (W : World), (callFunc g x).run Tryz.prog W = .ok (.enter g x) W) (p : Int × Int → Bool) (w : World) (h : Spans w va l)
  (hf : ∀ s ∈ l, ∀ W, Ext w W → Calls Tryz.prog g #[.agg #[.int .i64 s.1, .int .i64 s.2]] W fun e w' => e = .returned (.bool (p s)) ∧ Ext W w') :
  Calls Tryz.prog 125 #[va, .func (.func g) #[] #[]] w fun e w' => e = .returned (.bool (l.any p)) ∧ Ext w w' := by
 have hc := Lib.hid (indexFunc_span_calls va l g hg p w h hf)
 have R := Lib.hid (findI_ge p l)
 clear hf h
 go_enter Tryz.func125, Tryz.ntmps125
 go_wp2_with fail
 refine hc.out.mono ?_
 rintro e w1 ⟨rfl, hx1⟩
 go_wp2
 go_ret
 rw [R.out]
 exact ⟨rfl, hx1⟩
theorem ranged_calls (va : Value) (l : List (Int × Int)) (w : World) (h : Spans w va l) :
  Calls Tryz.prog 102 #[va] w fun e w' => e = .returned (.bool (rangedB l)) ∧ Ext w w' := by
 have hc := Lib.hid (containsFunc_span_calls va l 126 (fun _ _ => by kernel_rfl) (fun s => farB s.1 || farB s.2) w h (fun s _ W _ => ranged1_calls s W))
 have R : Hid ((!l.any fun s => farB s.1 || farB s.2) = rangedB l) := by show _ = _; rw [rangedB, List.not_any_eq_all_not]
 clear h
 go_enter Tryz.func102, Tryz.ntmps102
 go_wp2_with fail
 refine hc.out.mono ?_
 rintro e w1 ⟨rfl, hx1⟩
 go_wp2
 go_ret
 rw [R.out]
 exact ⟨rfl, hx1⟩
def prevTo (l : List (Int × Int)) (i : Nat) : Option Int := if i = 0 then none else l[i - 1]?.map (·.2)
theorem prevTo_zero (l : List (Int × Int)) : prevTo l 0 = none := rfl
theorem prevTo_succ {l : List (Int × Int)} {i : Nat} {x y : Int} (h : l[i]? = some (x, y)) : prevTo l (i + 1) = some y := by simp [prevTo, h]
theorem prevTo_pos {l : List (Int × Int)} {i : Nat} {x y : Int} (h : 0 < i) (hl : l[i - 1]? = some (x, y)) : prevTo l i = some y := by
 simp only [prevTo]; rw [if_neg (by omega), hl]; rfl
theorem chainB_first {l : List (Int × Int)} {i : Nat} {x y : Int} (d : l.drop i = (x, y) :: l.drop (i + 1)) (h : y ≤ x) (p : Option Int) : chainB p (l.drop i) = false := by
 rw [d]; cases p <;> (simp [chainB]; intro h'; omega)
theorem chainB_step0 {l : List (Int × Int)} {i : Nat} {x y : Int} (d : l.drop i = (x, y) :: l.drop (i + 1)) (h : x < y) : chainB none (l.drop i) = chainB (some y) (l.drop (i + 1)) := by
 rw [d, chainB]; simp [h]
theorem chainB_step {l : List (Int × Int)} {i : Nat} {x y e : Int} (d : l.drop i = (x, y) :: l.drop (i + 1)) (h : x < y) (he : e < x) : chainB (some e) (l.drop i) = chainB (some y) (l.drop (i + 1)) := by
 rw [d, chainB]; simp [h, he]
theorem chainB_near {l : List (Int × Int)} {i : Nat} {x y e : Int} (d : l.drop i = (x, y) :: l.drop (i + 1)) (he : x ≤ e) : chainB (some e) (l.drop i) = false := by
 rw [d, chainB]; simp; intro _ h'; omega
theorem spanValid_calls (va : Value) (l : List (Int × Int)) (w : World) (h : Spans w va l) :
  Calls Tryz.prog 106 #[va] w fun e w' => e = .returned (.bool (normalB l)) ∧ Ext w w' := by
 have h' := Lib.hid h
 obtain ⟨a, c, rfl, hn, hc, hat⟩ := h.open
 clear h
 go_enter Tryz.func106, Tryz.ntmps106
 go_wp2_with fail
 go_loopw [7] (fun vi wr => ∃ i : Nat, i ≤ l.length ∧ vi = .int .i64 i ∧ Ext w wr ∧ Hid (chainB none l = chainB (prevTo l i) (l.drop i))) (fun vi _ => l.length - (intOf vi).toNat)
 case atStart => exact ⟨0, by omega, rfl, Ext.refl _, rfl⟩
 case round =>
  obtain ⟨i, hi, rfl, hx, hF⟩ := hrel
  by_cases h1 : i < l.length
  ·obtain ⟨b1, o1, x, y, rfl, hb1, dx, ex, g1, g2⟩ := hat i h1 wr hx
   by_cases h2 : y ≤ x
   ·have R : Hid (normalB l = false) := by show _ = _; rw [normalB, hF.out, chainB_first dx.out h2]; rfl
    clear hF
    go_wp2_with fail
    go_quiet (fail)
    go_wp2
    go_ret
    rw [R.out]
    exact ⟨rfl, (hx.alloc _).drewN _⟩
   ·have hd2 : decide (y ≤ x) = false := by simpa using h2
    by_cases h3 : i = 0
    ·have R : Hid (chainB none l = chainB (prevTo l (i + 1)) (l.drop (i + 1))) := by
      show _ = _
      rw [hF.out, prevTo_succ ex.out, h3, prevTo_zero, chainB_step0 (by have := dx.out; rwa [h3] at this) (by omega)]
     have hd3 : decide (0 < i) = false := by simp; omega
     clear hF h3
     go_wp2_with fail
     go_quiet (fail)
     go_wp2
     go_roundw
     case rel => exact ⟨i + 1, by omega, by go_num, (hx.alloc _).drewN _, R⟩
     case measure => simp [intOf]; omega
    ·obtain ⟨b2, o2, x0, y0, e2, hb2, dx0, ex0, g3, g4⟩ := hat (i - 1) (by omega) wr hx
     cases e2
     have hp := prevTo_pos (by omega) ex0.out
     have hp' := Lib.hid hp
     clear hp g3 hb2 dx0 ex0
     have hd3 : decide (0 < i) = true := by simp; omega
     have hi1 : 1 ≤ i := by omega
     have hi2 : (1 : Int) ≤ (i : Int) := by omega
     have hi3 : (i : Int) - 1 < (l.length : Int) := by omega
     by_cases h4 : x ≤ y0
     ·have R : Hid (normalB l = false) := by show _ = _; rw [normalB, hF.out, hp'.out, chainB_near dx.out h4]; rfl
      have hd4 : decide (x ≤ y0) = true := by simpa using h4
      clear hF h3
      go_wp2_with fail
      go_quiet (fail)
      go_wp2
      go_ret
      rw [R.out]
      exact ⟨rfl, (hx.alloc _).drewN _⟩
     ·have hd4 : decide (x ≤ y0) = false := by simpa using h4
      have R : Hid (chainB none l = chainB (prevTo l (i + 1)) (l.drop (i + 1))) := by
       show _ = _
       rw [hF.out, prevTo_succ ex.out, hp'.out, chainB_step dx.out (by omega) (by omega)]
      clear hF h3
      go_wp2_with fail
      go_quiet (fail)
      go_wp2
      go_roundw
      case rel => exact ⟨i + 1, by omega, by go_num, (hx.alloc _).drewN _, R⟩
      case measure => simp [intOf]; omega
  ·have hcall := Lib.hid (ranged_calls _ l wr (h'.out.ext hx))
   have R : Hid (rangedB l = normalB l) := by
    show _ = _
    rw [normalB, hF.out, List.drop_of_length_le (by omega), chainB]; rfl
   clear hF
   go_wp2_with fail
   refine hcall.out.mono ?_
   rintro e w1 ⟨rfl, hx1⟩
   go_wp2
   go_ret
   rw [R.out]
   exact ⟨rfl, hx.trans hx1⟩
end Go.Proofs.YtgolicoalldidaaGreat
namespace Go.Proofs.YtgolicoalldidaaGreat
open Go.RowKit
theorem index_calls (i n : Int) (w : World) : Calls Tryz.prog 59 #[.int .i64 i, .int .i64 n] w fun e w' => e = .returned (.bool (idxB i n)) ∧ Ext w w' := by
 by_cases h : 0 ≤ i ∧ i < n
 ·have R : Hid (idxB i n = true) := by show _ = _; simpa [idxB] using h
  obtain ⟨h1, h2⟩ := h
  go_enter Tryz.func59, Tryz.ntmps59
  go_wp2
  go_ret
  rw [R.out]
  exact ⟨rfl, Ext.refl _⟩
 ·have R : Hid (idxB i n = false) := by show _ = _; simpa [idxB] using h
  by_cases h1 : 0 ≤ i
  ·have h2 : decide (i < n) = false := by simp; omega
   clear h
   go_enter Tryz.func59, Tryz.ntmps59
   go_wp2
   go_ret
   rw [R.out]
   exact ⟨rfl, Ext.refl _⟩
  ·clear h
   go_enter Tryz.func59, Tryz.ntmps59
   go_wp2
   go_ret
   rw [R.out]
   exact ⟨rfl, Ext.refl _⟩
theorem any_ext {α : Type} {l : List α} {f g : α → Bool} (h : ∀ x ∈ l, f x = g x) : l.any f = l.any g := by
 induction l with
 | nil => rfl
 | cons a l ih => simp only [List.any_cons]; rw [h a List.mem_cons_self, ih fun x hx => h x (List.mem_cons_of_mem _ hx)]
def Inc (l : List Int) : Prop := l.Pairwise (· < ·)
theorem Inc.drop {l : List Int} (h : Inc l) (i : Nat) : Inc (l.drop i) := List.Pairwise.sublist (List.drop_sublist i l) h
theorem share_eq {a b a' b' : List Int} {x : Int} (ha : a = x :: a') (hb : b = x :: b') : shareB a b = true := by
 subst ha hb; simp [shareB]
theorem share_lt {a b a' b' : List Int} {x y : Int} (ha : a = x :: a') (hb : b = y :: b') (hs : Inc b) (h : x < y) : shareB a b = shareB a' b := by
 subst ha hb
 have : x ∉ (y :: b') := by
  intro hm
  rcases List.mem_cons.1 hm with rfl | hm
  ·omega
  ·have := (List.pairwise_cons.1 hs).1 x hm; omega
 simp only [shareB, List.any_cons]
 rw [show (y :: b').contains x = false by simpa using this]; rfl
theorem share_gt {a b a' b' : List Int} {x y : Int} (ha : a = x :: a') (hb : b = y :: b') (hs : Inc a) (h : y < x) : shareB a b = shareB a b' := by
 subst ha hb
 have : ∀ z ∈ x :: a', z ≠ y := by
  intro z hz e
  rcases List.mem_cons.1 hz with rfl | hm
  ·omega
  ·have := (List.pairwise_cons.1 hs).1 z hm; omega
 unfold shareB
 generalize x :: a' = l at this
 induction l with
 | nil => rfl
 | cons z l ih =>
  simp only [List.any_cons]
  rw [ih (fun u hu => this u (List.mem_cons_of_mem _ hu))]
  have hz := this z List.mem_cons_self
  rw [show (y :: b').contains z = b'.contains z by simp [hz]]
theorem share_nil_left (b : List Int) : shareB [] b = false := rfl
theorem share_nil_right (a : List Int) : shareB a [] = false := by simp [shareB]
theorem common_calls (va vb : Value) (a b : List Int) (w : World) (ha : Ints w va a) (hb : Ints w vb b) (sa : Inc a) (sb : Inc b) :
  Calls Tryz.prog 99 #[va, vb] w fun e w' => e = .returned (.bool (shareB a b)) ∧ Ext w w' := by
 obtain ⟨aa, ca, rfl, hna, hca, hca'⟩ := ha.open
 obtain ⟨ab, cb, rfl, hnb, hcb, hcb'⟩ := hb.open
 clear ha hb
 have sa' := Lib.hid sa
 have sb' := Lib.hid sb
 clear sa sb
 go_enter Tryz.func99, Tryz.ntmps99
 go_wp2_with fail
 go_loopw [5, 6] (fun vi vk wr => ∃ i k : Nat, i ≤ a.length ∧ k ≤ b.length ∧ vi = .int .i64 i ∧ vk = .int .i64 k ∧ Ext w wr ∧
   Hid (shareB a b = shareB (a.drop i) (b.drop k))) (fun vi vk _ => a.length + b.length - (intOf vi).toNat - (intOf vk).toNat)
 case atStart => exact ⟨0, 0, by omega, by omega, rfl, rfl, Ext.refl _, rfl⟩
 case round =>
  obtain ⟨i, k, hi, hk, rfl, rfl, hx, hF⟩ := hrel
  by_cases h1 : i < a.length
  ·by_cases h2 : k < b.length
   ·obtain ⟨b1, o1, x, rfl, hb1, dx, ex, g1⟩ := hca' i h1 wr hx
    obtain ⟨b2, o2, y, rfl, hb2, dy, ey, g2⟩ := hcb' k h2 wr hx
    clear hca' hcb'
    by_cases h3 : (x == y) = true
    ·have R : Hid (shareB a b = true) := hF.out.trans (share_eq dx.out (by rw [eq_of_beq h3]; exact dy.out))
     go_wp2_with fail
     go_quiet (fail)
     go_wp2
     go_ret
     rw [R.out]
     exact ⟨rfl, (by with_reducible repeat' (first | exact Ext.refl _ | assumption | refine Ext.drewN ?_ _ | refine Ext.drew ?_ | refine Ext.alloc ?_ _ | refine Ext.trans ?_ (by with_reducible assumption)))⟩
    ·have h3 : (x == y) = false := by simpa using h3
     by_cases h4 : x < y
     ·have R : Hid (shareB a b = shareB (a.drop (i + 1)) (b.drop k)) := hF.out.trans (share_lt dx.out dy.out (sb'.out.drop k) h4)
      go_wp2_with fail
      go_quiet (fail)
      go_wp2_with fail
      go_quiet (fail)
      go_wp2
      go_roundw
      case rel => exact ⟨i + 1, k, by omega, by omega, by go_num, rfl, (by with_reducible repeat' (first | exact Ext.refl _ | assumption | refine Ext.drewN ?_ _ | refine Ext.drew ?_ | refine Ext.alloc ?_ _ | refine Ext.trans ?_ (by with_reducible assumption))), R⟩
      case measure => simp [intOf]; omega
     ·have h5 : y < x := by have : ¬ x = y := by simpa using h3
                            omega
      have R : Hid (shareB a b = shareB (a.drop i) (b.drop (k + 1))) := hF.out.trans (share_gt dx.out dy.out (sa'.out.drop i) h5)
      go_wp2_with fail
      go_quiet (fail)
      go_wp2_with fail
      go_quiet (fail)
      go_wp2
      go_roundw
      case rel => exact ⟨i, k + 1, by omega, by omega, rfl, by go_num, (by with_reducible repeat' (first | exact Ext.refl _ | assumption | refine Ext.drewN ?_ _ | refine Ext.drew ?_ | refine Ext.alloc ?_ _ | refine Ext.trans ?_ (by with_reducible assumption))), R⟩
      case measure => simp [intOf]; omega
   ·have R : Hid (shareB a b = false) := by
     refine hF.out.trans ?_
     rw [List.drop_of_length_le (l := b) (by omega)]; exact share_nil_right _
    clear hF hca' hcb'
    go_wp2
    go_ret
    rw [R.out]
    exact ⟨rfl, hx⟩
  ·have R : Hid (shareB a b = false) := by
    refine hF.out.trans ?_
    rw [List.drop_of_length_le (l := a) (by omega)]; exact share_nil_left _
   clear hF hca' hcb'
   go_wp2
   go_ret
   rw [R.out]
   exact ⟨rfl, hx⟩
def Chain (l : List (Int × Int)) : Prop := l.Pairwise (fun s t => s.2 < t.1) ∧ ∀ s ∈ l, s.1 < s.2
theorem Chain.drop {l : List (Int × Int)} (h : Chain l) (i : Nat) : Chain (l.drop i) :=
 ⟨List.Pairwise.sublist (List.drop_sublist i l) h.1, fun s hs => h.2 s (List.mem_of_mem_drop hs)⟩
theorem meet_nil_left (b : List (Int × Int)) : meetB [] b = false := rfl
theorem meet_nil_right (a : List (Int × Int)) : meetB a [] = false := by simp [meetB]
theorem meet_yes {a b a' b' : List (Int × Int)} {x y p q : Int} (ha : a = (x, y) :: a') (hb : b = (p, q) :: b') (h1 : p < y) (h2 : x < q) : meetB a b = true := by
 subst ha hb; simp [meetB]; left; left; omega
theorem meet_left {a b a' b' : List (Int × Int)} {x y p q : Int} (ha : a = (x, y) :: a') (hb : b = (p, q) :: b') (hs : Chain b) (h1 : y ≤ p) : meetB a b = meetB a' b := by
 subst ha
 simp only [meetB, List.any_cons]
 rw [show (b.any fun t => decide ((x, y).1 < t.2) && decide (t.1 < (x, y).2)) = false from ?_]
 ·rfl
 rw [List.any_eq_false]
 intro t ht
 have : p ≤ t.1 := by
  subst hb
  rcases List.mem_cons.1 ht with rfl | hm
  ·simp
  ·have h2 := (List.pairwise_cons.1 hs.1).1 t hm
   have h3 := hs.2 (p, q) List.mem_cons_self
   simp at h2 h3; omega
 simp; intro _; omega
theorem meet_right {a b a' b' : List (Int × Int)} {x y p q : Int} (ha : a = (x, y) :: a') (hb : b = (p, q) :: b') (hs : Chain a) (h1 : q ≤ x) : meetB a b = meetB a b' := by
 subst hb
 have key : ∀ t ∈ a, x ≤ t.1 := by
  intro t ht
  subst ha
  rcases List.mem_cons.1 ht with rfl | hm
  ·simp
  ·have h2 := (List.pairwise_cons.1 hs.1).1 t hm
   have h3 := hs.2 (x, y) List.mem_cons_self
   simp at h2 h3; omega
 unfold meetB
 refine any_ext fun z hz => ?_
 have hz := key z hz
 simp only [List.any_cons]
 rw [show (decide (z.1 < (p, q).2) && decide ((p, q).1 < z.2)) = false by simp; intro h; omega]
 rfl
theorem meet_calls (va vb : Value) (a b : List (Int × Int)) (w : World) (ha : Spans w va a) (hb : Spans w vb b) (sa : Chain a) (sb : Chain b) :
  Calls Tryz.prog 100 #[va, vb] w fun e w' => e = .returned (.bool (meetB a b)) ∧ Ext w w' := by
 obtain ⟨aa, ca, rfl, hna, hca, hca'⟩ := ha.open
 obtain ⟨ab, cb, rfl, hnb, hcb, hcb'⟩ := hb.open
 clear ha hb
 have sa' := Lib.hid sa
 have sb' := Lib.hid sb
 clear sa sb
 go_enter Tryz.func100, Tryz.ntmps100
 go_wp2_with fail
 go_loopw [5, 6] (fun vi vk wr => ∃ i k : Nat, i ≤ a.length ∧ k ≤ b.length ∧ vi = .int .i64 i ∧ vk = .int .i64 k ∧ Ext w wr ∧
   Hid (meetB a b = meetB (a.drop i) (b.drop k))) (fun vi vk _ => a.length + b.length - (intOf vi).toNat - (intOf vk).toNat)
 case atStart => exact ⟨0, 0, by omega, by omega, rfl, rfl, Ext.refl _, rfl⟩
 case round =>
  obtain ⟨i, k, hi, hk, rfl, rfl, hx, hF⟩ := hrel
  by_cases h1 : i < a.length
  ·by_cases h2 : k < b.length
   ·obtain ⟨b1, o1, x, y, rfl, hb1, dx, ex, g1, g1'⟩ := hca' i h1 wr hx
    obtain ⟨b2, o2, p, q, rfl, hb2, dy, ey, g2, g2'⟩ := hcb' k h2 wr hx
    clear hca' hcb'
    by_cases h3 : y ≤ p
    ·have R : Hid (meetB a b = meetB (a.drop (i + 1)) (b.drop k)) := hF.out.trans (meet_left dx.out dy.out (sb'.out.drop k) h3)
     go_wp2_with fail
     go_quiet (fail)
     go_wp2
     go_roundw
     case rel => exact ⟨i + 1, k, by omega, by omega, by go_num, rfl, (by with_reducible repeat' (first | exact Ext.refl _ | assumption | refine Ext.drewN ?_ _ | refine Ext.drew ?_ | refine Ext.alloc ?_ _ | refine Ext.trans ?_ (by with_reducible assumption))), R⟩
     case measure => simp [intOf]; omega
    ·by_cases h4 : q ≤ x
     ·have R : Hid (meetB a b = meetB (a.drop i) (b.drop (k + 1))) := hF.out.trans (meet_right dx.out dy.out (sa'.out.drop i) h4)
      go_wp2_with fail
      go_quiet (fail)
      go_wp2_with fail
      go_quiet (fail)
      go_wp2
      go_roundw
      case rel => exact ⟨i, k + 1, by omega, by omega, rfl, by go_num, (by with_reducible repeat' (first | exact Ext.refl _ | assumption | refine Ext.drewN ?_ _ | refine Ext.drew ?_ | refine Ext.alloc ?_ _ | refine Ext.trans ?_ (by with_reducible assumption))), R⟩
      case measure => simp [intOf]; omega
     ·have R : Hid (meetB a b = true) := hF.out.trans (meet_yes dx.out dy.out (by omega) (by omega))
      go_wp2_with fail
      go_quiet (fail)
      go_wp2_with fail
      go_quiet (fail)
      go_wp2
      go_ret
      rw [R.out]
      exact ⟨rfl, (by with_reducible repeat' (first | exact Ext.refl _ | assumption | refine Ext.drewN ?_ _ | refine Ext.drew ?_ | refine Ext.alloc ?_ _ | refine Ext.trans ?_ (by with_reducible assumption)))⟩
   ·have R : Hid (meetB a b = false) := by
     refine hF.out.trans ?_
     rw [List.drop_of_length_le (l := b) (by omega)]; exact meet_nil_right _
    clear hF hca' hcb'
    go_wp2
    go_ret
    rw [R.out]
    exact ⟨rfl, hx⟩
  ·have R : Hid (meetB a b = false) := by
    refine hF.out.trans ?_
    rw [List.drop_of_length_le (l := a) (by omega)]; exact meet_nil_left _
   clear hF hca' hcb'
   go_wp2
   go_ret
   rw [R.out]
   exact ⟨rfl, hx⟩
theorem validOption_calls (v : Value) (o : OptD) (w : World) (h : OptV w v o) :
  Calls Tryz.prog 84 #[v] w fun e w' => e = .returned (.bool (optOkB o)) ∧ Ext w w' := by
 obtain ⟨sv, rfl, hs⟩ := h
 obtain ⟨a, c, rfl⟩ := hs.form
 obtain ⟨hm, r, sp⟩ := o
 dsimp only at *
 by_cases hc : 0 ≤ hm ∧ hm ≤ 1000000 ∧ -1 ≤ r ∧ r < 256
 ·obtain ⟨h1, h2, h3, h4⟩ := hc
  have R : Hid (normalB sp = optOkB ⟨hm, r, sp⟩) := by show _ = _; simp [optOkB, h1, h2, h3, h4]
  have hcall : Hid (∀ W, Ext w W → Calls Tryz.prog 106 #[.slice a sp.length c] W fun e w' => e = .returned (.bool (normalB sp)) ∧ Ext W w') := fun W hW => spanValid_calls _ _ _ (hs.ext hW)
  clear hs
  go_enter Tryz.func84, Tryz.ntmps84
  go_wp2_with fail
  refine (hcall.out _ ((Ext.refl _).alloc _)).mono ?_
  rintro e w1 ⟨rfl, hx⟩
  go_wp2
  go_ret
  rw [R.out]
  exact ⟨rfl, ((Ext.refl _).alloc _).trans hx⟩
 ·have R : Hid (optOkB ⟨hm, r, sp⟩ = false) := by
   show _ = _
   simp only [optOkB]
   rw [show (decide (0 ≤ hm) && decide (hm ≤ 1000000) && decide (-1 ≤ r) && decide (r < 256)) = false by simp; omega]
   rfl
  clear hs
  go_enter Tryz.func84, Tryz.ntmps84
  go_wp2
  all_goals
   go_ret
   rw [R.out]
   exact ⟨rfl, (Ext.refl _).alloc _⟩
theorem validWish1_calls (v : Value) (o : OptD) (w : World) (h : OptV w v o) :
  Calls Tryz.prog 83 #[v] w fun e w' => e = .returned (.bool (!optOkB o)) ∧ Ext w w' := by
 obtain ⟨sv, rfl, hs⟩ := h
 obtain ⟨a, c, rfl⟩ := hs.form
 have hcall : Hid (∀ W, Ext w W → Calls Tryz.prog 84 #[.agg #[.int .i64 o.harm, .int .i64 o.room, .slice a o.spans.length c]] W fun e w' => e = .returned (.bool (optOkB o)) ∧ Ext W w') := fun W hW => validOption_calls _ _ _ ⟨_, rfl, hs.ext hW⟩
 clear hs
 go_enter Tryz.func83, Tryz.ntmps83
 go_wp2_with fail
 refine (hcall.out _ ((Ext.refl _).alloc _)).mono ?_
 rintro e w1 ⟨rfl, hx⟩
 go_wp2
 go_ret
 exact ⟨rfl, ((Ext.refl _).alloc _).trans hx⟩
theorem tooLarge11_calls (v : Value) (o : OptD) (w : World) (h : OptV w v o) :
  Calls Tryz.prog 82 #[v] w fun e w' => e = .returned (.bool (decide (64 < o.spans.length))) ∧ Ext w w' := by
 obtain ⟨sv, rfl, hs⟩ := h
 obtain ⟨a, c, rfl⟩ := hs.form
 have hl := hs.len
 clear hs
 go_enter Tryz.func82, Tryz.ntmps82
 go_wp2
 go_ret
 exact ⟨by simp; omega, (Ext.refl _).alloc _⟩
end Go.Proofs.YtgolicoalldidaaGreat
namespace Go.Proofs.YtgolicoalldidaaGreat
open Go.RowKit
theorem indexFunc_opt_calls (va : Value) (l : List OptD) (g : Nat) (hg : ∀ (x : Array Value) (W : World), (callFunc g x).run Tryz.prog W = .ok (.enter g x) W) (p : OptD → Bool) (w : World) (h : Opts w va l)
  (hf : ∀ s ∈ l, ∀ W, Ext w W → ∀ v, OptV W v s → Calls Tryz.prog g #[v] W fun e w' => e = .returned (.bool (p s)) ∧ Ext W w') :
  Calls Tryz.prog 105 #[va, .func (.func g) #[] #[]] w fun e w' => e = .returned (.int .i64 (findI p l)) ∧ Ext w w' := by
 obtain ⟨a, c, rfl, hn, hc, hat⟩ := h.open
 clear h
 have hf' := Lib.hid hf
 clear hf
 go_enter Tryz.func105, Tryz.ntmps105
 go_wp2_with fail
 go_loopw [8] (fun vi wr => ∃ i : Nat, i ≤ l.length ∧ vi = .int .i64 i ∧ Ext w wr ∧ Hid (FindAt p l i)) (fun vi _ => l.length - (intOf vi).toNat)
 case atStart => exact ⟨0, by omega, rfl, Ext.refl _, FindAt.zero _ _⟩
 case round =>
  obtain ⟨i, hi, rfl, hx, hF⟩ := hrel
  by_cases h1 : i < l.length
  ·obtain ⟨b1, o1, o, sa, sc, rfl, hb1, dx, ex, g1, g2, g3, gs⟩ := hat i h1 wr hx
   have hm : o ∈ l := List.mem_of_getElem? ex.out
   have hcall := Lib.hid (hf'.out o hm wr hx _ ⟨_, rfl, gs⟩)
   clear gs
   cases hp : p o with
   | true =>
    have R := Lib.hid (hF.out.hit ex.out hp)
    have hp' := Lib.hid hp
    clear hp
    go_wp2_with fail
    refine hcall.out.mono ?_
    rintro e w1 ⟨rfl, hx1⟩
    rw [hp'.out]
    go_wp2
    go_ret
    rw [R.out]
    exact ⟨rfl, hx.trans hx1⟩
   | false =>
    have R := Lib.hid (hF.out.miss ex.out hp)
    have hp' := Lib.hid hp
    clear hp
    go_wp2_with fail
    refine hcall.out.mono ?_
    rintro e w1 ⟨rfl, hx1⟩
    rw [hp'.out]
    go_wp2
    go_roundw
    case rel => exact ⟨i + 1, by omega, by go_num, hx.trans hx1, R⟩
    case measure => simp [intOf]; omega
  ·have R := Lib.hid (hF.out.none (by omega))
   go_wp2
   go_ret
   rw [R.out]
   exact ⟨rfl, hx⟩
theorem containsFunc_opt_calls (va : Value) (l : List OptD) (g : Nat) (hg : ∀ (x : Array Value) (W : World), (callFunc g x).run Tryz.prog W = .ok (.enter g x) W) (p : OptD → Bool) (w : World) (h : Opts w va l)
  (hf : ∀ s ∈ l, ∀ W, Ext w W → ∀ v, OptV W v s → Calls Tryz.prog g #[v] W fun e w' => e = .returned (.bool (p s)) ∧ Ext W w') :
  Calls Tryz.prog 81 #[va, .func (.func g) #[] #[]] w fun e w' => e = .returned (.bool (l.any p)) ∧ Ext w w' := by
 have hc := Lib.hid (indexFunc_opt_calls va l g hg p w h hf)
 have R := Lib.hid (findI_ge p l)
 clear hf h
 go_enter Tryz.func81, Tryz.ntmps81
 go_wp2_with fail
 refine hc.out.mono ?_
 rintro e w1 ⟨rfl, hx1⟩
 go_wp2
 go_ret
 rw [R.out]
 exact ⟨rfl, hx1⟩
theorem indexFunc_wish_calls (va : Value) (l : List WishD) (g : Nat) (hg : ∀ (x : Array Value) (W : World), (callFunc g x).run Tryz.prog W = .ok (.enter g x) W) (p : WishD → Bool) (w : World) (h : Wishes w va l)
  (hf : ∀ s ∈ l, ∀ W, Ext w W → ∀ v, WishV W v s → Calls Tryz.prog g #[v] W fun e w' => e = .returned (.bool (p s)) ∧ Ext W w') :
  Calls Tryz.prog 104 #[va, .func (.func g) #[] #[]] w fun e w' => e = .returned (.int .i64 (findI p l)) ∧ Ext w w' := by
 obtain ⟨a, c, rfl, hn, hc, hat⟩ := h.open
 clear h
 have hf' := Lib.hid hf
 clear hf
 go_enter Tryz.func104, Tryz.ntmps104
 go_wp2_with fail
 go_loopw [8] (fun vi wr => ∃ i : Nat, i ≤ l.length ∧ vi = .int .i64 i ∧ Ext w wr ∧ Hid (FindAt p l i)) (fun vi _ => l.length - (intOf vi).toNat)
 case atStart => exact ⟨0, by omega, rfl, Ext.refl _, FindAt.zero _ _⟩
 case round =>
  obtain ⟨i, hi, rfl, hx, hF⟩ := hrel
  by_cases h1 : i < l.length
  ·obtain ⟨b1, o1, o, pa, pc, oa, oc, rfl, hb1, dx, ex, g1, g2, g3, gp, gs⟩ := hat i h1 wr hx
   have hm : o ∈ l := List.mem_of_getElem? ex.out
   have hcall := Lib.hid (hf'.out o hm wr hx _ ⟨_, _, rfl, gp, gs⟩)
   clear gs gp
   cases hp : p o with
   | true =>
    have R := Lib.hid (hF.out.hit ex.out hp)
    have hp' := Lib.hid hp
    clear hp
    go_wp2_with fail
    refine hcall.out.mono ?_
    rintro e w1 ⟨rfl, hx1⟩
    rw [hp'.out]
    go_wp2
    go_ret
    rw [R.out]
    exact ⟨rfl, hx.trans hx1⟩
   | false =>
    have R := Lib.hid (hF.out.miss ex.out hp)
    have hp' := Lib.hid hp
    clear hp
    go_wp2_with fail
    refine hcall.out.mono ?_
    rintro e w1 ⟨rfl, hx1⟩
    rw [hp'.out]
    go_wp2
    go_roundw
    case rel => exact ⟨i + 1, by omega, by go_num, hx.trans hx1, R⟩
    case measure => simp [intOf]; omega
  ·have R := Lib.hid (hF.out.none (by omega))
   go_wp2
   go_ret
   rw [R.out]
   exact ⟨rfl, hx⟩
theorem containsFunc_wish_calls (va : Value) (l : List WishD) (g : Nat) (hg : ∀ (x : Array Value) (W : World), (callFunc g x).run Tryz.prog W = .ok (.enter g x) W) (p : WishD → Bool) (w : World) (h : Wishes w va l)
  (hf : ∀ s ∈ l, ∀ W, Ext w W → ∀ v, WishV W v s → Calls Tryz.prog g #[v] W fun e w' => e = .returned (.bool (p s)) ∧ Ext W w') :
  Calls Tryz.prog 79 #[va, .func (.func g) #[] #[]] w fun e w' => e = .returned (.bool (l.any p)) ∧ Ext w w' := by
 have hc := Lib.hid (indexFunc_wish_calls va l g hg p w h hf)
 have R := Lib.hid (findI_ge p l)
 clear hf h
 go_enter Tryz.func79, Tryz.ntmps79
 go_wp2_with fail
 refine hc.out.mono ?_
 rintro e w1 ⟨rfl, hx1⟩
 go_wp2
 go_ret
 rw [R.out]
 exact ⟨rfl, hx1⟩
def bigWishB (x : WishD) : Bool := decide (16 < x.opts.length) || decide (64 < x.people.length) || x.opts.any fun o => decide (64 < o.spans.length)
theorem tooLarge1_calls (v : Value) (x : WishD) (w : World) (h : WishV w v x) :
  Calls Tryz.prog 80 #[v] w fun e w' => e = .returned (.bool (bigWishB x)) ∧ Ext w w' := by
 obtain ⟨pv, ov, rfl, hp, ho⟩ := h
 obtain ⟨pa, pc, rfl⟩ := hp.form
 obtain ⟨oa, oc, rfl⟩ := ho.form
 have lp := hp.len
 have lo := ho.len
 have hcall : Hid (∀ W, Ext w W → Calls Tryz.prog 81 #[.slice oa x.opts.length oc, .func (.func 82) #[] #[]] W fun e w' => e = .returned (.bool (x.opts.any fun o => decide (64 < o.spans.length))) ∧ Ext W w') :=
  fun W hW => containsFunc_opt_calls _ _ _ (fun _ _ => by kernel_rfl) _ _ (ho.ext hW) (fun s _ W _ v hv => tooLarge11_calls v s W hv)
 clear hp ho
 by_cases h1 : 16 < x.opts.length
 ·have R : Hid (bigWishB x = true) := by show _ = _; simp [bigWishB, h1]
  go_enter Tryz.func80, Tryz.ntmps80
  go_wp2
  go_ret
  rw [R.out]
  exact ⟨rfl, (by with_reducible repeat' (first | exact Ext.refl _ | assumption | refine Ext.drewN ?_ _ | refine Ext.drew ?_ | refine Ext.alloc ?_ _ | refine Ext.trans ?_ (by with_reducible assumption)))⟩
 ·by_cases h2 : 64 < x.people.length
  ·have R : Hid (bigWishB x = true) := by show _ = _; simp [bigWishB, h2]
   go_enter Tryz.func80, Tryz.ntmps80
   go_wp2
   go_ret
   rw [R.out]
   exact ⟨rfl, (by with_reducible repeat' (first | exact Ext.refl _ | assumption | refine Ext.drewN ?_ _ | refine Ext.drew ?_ | refine Ext.alloc ?_ _ | refine Ext.trans ?_ (by with_reducible assumption)))⟩
  ·have R : Hid ((x.opts.any fun o => decide (64 < o.spans.length)) = bigWishB x) := by show _ = _; simp [bigWishB, h1, h2]
   have d1 : decide ((16 : Int) < (x.opts.length : Int)) = false := by simp; omega
   have d2 : decide ((64 : Int) < (x.people.length : Int)) = false := by simp; omega
   go_enter Tryz.func80, Tryz.ntmps80
   go_wp2_with fail
   refine (hcall.out _ (by with_reducible repeat' (first | exact Ext.refl _ | assumption | refine Ext.drewN ?_ _ | refine Ext.drew ?_ | refine Ext.alloc ?_ _ | refine Ext.trans ?_ (by with_reducible assumption)))).mono ?_
   rintro e w1 ⟨rfl, hx⟩
   rw [R.out]
   go_wp2
   go_ret
   exact ⟨rfl, ((Ext.refl _).alloc _).trans hx⟩
theorem tooLarge_calls (wv : Value) (t : List WishD) (w : World) (h : Wishes w wv t) :
  Calls Tryz.prog 53 #[.agg #[wv]] w fun e w' => e = .returned (.bool (tooLargeB t)) ∧ Ext w w' := by
 obtain ⟨a, c, rfl⟩ := h.form
 have lt := h.len
 have hcall : Hid (∀ W, Ext w W → Calls Tryz.prog 79 #[.slice a t.length c, .func (.func 80) #[] #[]] W fun e w' => e = .returned (.bool (t.any bigWishB)) ∧ Ext W w') :=
  fun W hW => containsFunc_wish_calls _ _ _ (fun _ _ => by kernel_rfl) _ _ (h.ext hW) (fun s _ W _ v hv => tooLarge1_calls v s W hv)
 clear h
 by_cases h1 : 512 < t.length
 ·have R : Hid (tooLargeB t = true) := by show _ = _; simp [tooLargeB, h1]
  go_enter Tryz.func53, Tryz.ntmps53
  go_wp2
  go_ret
  rw [R.out]
  exact ⟨rfl, (by with_reducible repeat' (first | exact Ext.refl _ | assumption | refine Ext.drewN ?_ _ | refine Ext.drew ?_ | refine Ext.alloc ?_ _ | refine Ext.trans ?_ (by with_reducible assumption)))⟩
 ·have R : Hid (t.any bigWishB = tooLargeB t) := by show _ = _; simp only [tooLargeB, h1]; rfl
  have d1 : decide ((512 : Int) < (t.length : Int)) = false := by simp; omega
  go_enter Tryz.func53, Tryz.ntmps53
  go_wp2_with fail
  refine (hcall.out _ (by with_reducible repeat' (first | exact Ext.refl _ | assumption | refine Ext.drewN ?_ _ | refine Ext.drew ?_ | refine Ext.alloc ?_ _ | refine Ext.trans ?_ (by with_reducible assumption)))).mono ?_
  rintro e w1 ⟨rfl, hx⟩
  rw [R.out]
  go_wp2
  go_ret
  exact ⟨rfl, ((Ext.refl _).alloc _).trans hx⟩
theorem min_ite (n h : Int) : (if h < n then h else n) = min n h := by rw [Int.min_def]; split <;> split <;> omega
theorem leastN_drop {l : List OptD} {i : Nat} {o : OptD} (d : l.drop i = o :: l.drop (i + 1)) (n : Int) : leastN (l.drop i) n = leastN (l.drop (i + 1)) (min n o.harm) := by
 rw [d]; rfl
theorem least_calls (v : Value) (x : WishD) (w : World) (h : WishV w v x) :
  Calls Tryz.prog 29 #[v] w fun e w' => e = .returned (.int .i64 (leastB x)) ∧ Ext w w' := by
 obtain ⟨pv, ov, rfl, hp, ho⟩ := h
 obtain ⟨pa, pc, rfl⟩ := hp.form
 obtain ⟨oa, oc, rfl, hn, hc, hat⟩ := ho.open
 clear hp ho
 go_enter Tryz.func29, Tryz.ntmps29
 go_wp2_with fail
 go_loopw [3, 9] (fun vn vi wr => ∃ (i : Nat) (n : Int), i ≤ x.opts.length ∧ vi = .int .i64 i ∧ vn = .int .i64 n ∧ Ext w wr ∧ Hid (leastB x = leastN (x.opts.drop i) n)) (fun _ vi _ => x.opts.length - (intOf vi).toNat)
 case atStart => exact ⟨0, 1000000, by omega, rfl, rfl, (by with_reducible repeat' (first | exact Ext.refl _ | assumption | refine Ext.drewN ?_ _ | refine Ext.drew ?_ | refine Ext.alloc ?_ _ | refine Ext.trans ?_ (by with_reducible assumption))), rfl⟩
 case round =>
  obtain ⟨i, n, hi, rfl, rfl, hx, hF⟩ := hrel
  by_cases h1 : i < x.opts.length
  ·obtain ⟨b1, o1, o, sa, sc, rfl, hb1, dx, ex, g1, g2, g3, gs⟩ := hat i h1 wr hx
   clear gs
   have R : Hid (leastB x = leastN (x.opts.drop (i + 1)) (min n o.harm)) := by show _ = _; rw [hF.out, leastN_drop dx.out]
   clear hF
   go_wp2
   go_roundw
   case rel => exact ⟨i + 1, min n o.harm, by omega, by go_num, by rw [min_ite], (by with_reducible repeat' (first | exact Ext.refl _ | assumption | refine Ext.drewN ?_ _ | refine Ext.drew ?_ | refine Ext.alloc ?_ _ | refine Ext.trans ?_ (by with_reducible assumption))), R⟩
   case measure => simp [intOf]; omega
  ·have R : Hid (leastB x = n) := by show _ = _; rw [hF.out, List.drop_of_length_le (by omega)]; rfl
   clear hF
   go_wp2
   go_ret
   rw [R.out]
   exact ⟨rfl, hx⟩
end Go.Proofs.YtgolicoalldidaaGreat
namespace Go.Proofs.YtgolicoalldidaaGreat
open Go.RowKit
def prevP (l : List Int) (i : Nat) : Option Int := if i = 0 then none else l[i - 1]?
theorem prevP_zero (l : List Int) : prevP l 0 = none := rfl
theorem prevP_succ {l : List Int} {i : Nat} {x : Int} (h : l[i]? = some x) : prevP l (i + 1) = some x := by simp [prevP, h]
theorem prevP_pos {l : List Int} {i : Nat} {x : Int} (h : 0 < i) (hl : l[i - 1]? = some x) : prevP l i = some x := by
 simp only [prevP]; rw [if_neg (by omega), hl]
theorem peopleB_bad {l : List Int} {i : Nat} {x : Int} (d : l.drop i = x :: l.drop (i + 1)) (h : x < 0 ∨ 512 ≤ x) (p : Option Int) : peopleB p (l.drop i) = false := by
 rw [d]
 have : (decide (0 ≤ x) && decide (x < 512)) = false := by simp; omega
 cases p <;> simp only [peopleB, this] <;> rfl
theorem peopleB_step0 {l : List Int} {i : Nat} {x : Int} (d : l.drop i = x :: l.drop (i + 1)) (h : 0 ≤ x) (h' : x < 512) : peopleB none (l.drop i) = peopleB (some x) (l.drop (i + 1)) := by
 rw [d]; simp [peopleB, h, h']
theorem peopleB_step {l : List Int} {i : Nat} {x e : Int} (d : l.drop i = x :: l.drop (i + 1)) (h : 0 ≤ x) (h' : x < 512) (he : e < x) : peopleB (some e) (l.drop i) = peopleB (some x) (l.drop (i + 1)) := by
 rw [d]; simp [peopleB, h, h', he]
theorem peopleB_near {l : List Int} {i : Nat} {x e : Int} (d : l.drop i = x :: l.drop (i + 1)) (he : x ≤ e) : peopleB (some e) (l.drop i) = false := by
 rw [d]; simp [peopleB]; intro _ _ h'; omega
theorem validWish_calls (v : Value) (x : WishD) (w : World) (h : WishV w v x) :
  Calls Tryz.prog 54 #[v] w fun e w' => e = .returned (.bool (wishOkB x)) ∧ Ext w w' := by
 obtain ⟨pv, ov, rfl, hp, ho⟩ := h
 obtain ⟨pa, pc, rfl, hn, hc, hat⟩ := hp.open
 obtain ⟨oa, oc, rfl⟩ := ho.form
 have lo := ho.len
 have hcall : Hid (∀ W, Ext w W → Calls Tryz.prog 81 #[.slice oa x.opts.length oc, .func (.func 83) #[] #[]] W fun e w' => e = .returned (.bool (x.opts.any fun o => !optOkB o)) ∧ Ext W w') :=
  fun W hW => containsFunc_opt_calls _ _ _ (fun _ _ => by kernel_rfl) _ _ (ho.ext hW) (fun s _ W _ v hv => validWish1_calls v s W hv)
 clear hp ho
 go_enter Tryz.func54, Tryz.ntmps54
 go_wp2_with fail
 refine wp_abs (S := fun W => Ext w W ∧ W.cell? ⟨w.heap.size, 0, none⟩ = some (.int .i64 x.meeting) ∧ W.cell? ⟨w.heap.size, 1, none⟩ = some (.slice pa x.people.length pc) ∧ W.cell? ⟨w.heap.size, 2, none⟩ = some (.slice oa x.opts.length oc))
  ⟨(by with_reducible repeat' (first | exact Ext.refl _ | assumption | refine Ext.drewN ?_ _ | refine Ext.drew ?_ | refine Ext.alloc ?_ _ | refine Ext.trans ?_ (by with_reducible assumption))), by simp, by simp, by simp⟩ ?_
 rintro W1 ⟨hx1, c0, c1, c2⟩
 go_loopw [8] (fun vi wr => ∃ i : Nat, i ≤ x.people.length ∧ vi = .int .i64 i ∧ Ext W1 wr ∧ Hid (peopleB none x.people = peopleB (prevP x.people i) (x.people.drop i))) (fun vi _ => x.people.length - (intOf vi).toNat)
 case atStart => exact ⟨0, by omega, rfl, Ext.refl _, rfl⟩
 case round =>
  obtain ⟨i, hi, rfl, hx, hF⟩ := hrel
  have d0 := hx.cell c0
  have d1 := hx.cell c1
  have d2 := hx.cell c2
  have hxw := hx1.trans hx
  clear c0 c1 c2
  by_cases h1 : i < x.people.length
  ·obtain ⟨b1, o1, p, rfl, hb1, dx, ex, g1⟩ := hat i h1 wr hxw
   by_cases h2 : p < 0
   ·have R : Hid (wishOkB x = false) := by show _ = _; rw [wishOkB, hF.out, peopleB_bad dx.out (Or.inl h2)]; rfl
    clear hF hat
    go_wp2
    go_ret
    rw [R.out]
    exact ⟨rfl, hxw⟩
   ·by_cases h3 : 512 ≤ p
    ·have R : Hid (wishOkB x = false) := by show _ = _; rw [wishOkB, hF.out, peopleB_bad dx.out (Or.inr h3)]; rfl
     clear hF hat
     go_wp2
     go_ret
     rw [R.out]
     exact ⟨rfl, hxw⟩
    ·by_cases h4 : i = 0
     ·have R : Hid (peopleB none x.people = peopleB (prevP x.people (i + 1)) (x.people.drop (i + 1))) := by
       show _ = _
       rw [hF.out, prevP_succ ex.out, h4, prevP_zero, peopleB_step0 (by have := dx.out; rwa [h4] at this) (by omega) (by omega)]
      have hd3 : decide (0 < i) = false := by simp; omega
      clear hF h4 hat
      go_wp2
      go_roundw
      case rel => exact ⟨i + 1, by omega, by go_num, hx, R⟩
      case measure => simp [intOf]; omega
     ·obtain ⟨b2, o2, p0, e2, hb2, dx0, ex0, g3⟩ := hat (i - 1) (by omega) wr hxw
      cases e2
      have hp' := Lib.hid (prevP_pos (by omega) ex0.out)
      clear hb2 dx0 ex0 hat
      have hd3 : decide (0 < i) = true := by simp; omega
      have hi1 : 1 ≤ i := by omega
      have hi2 : (1 : Int) ≤ (i : Int) := by omega
      have hi3 : (i : Int) - 1 < (x.people.length : Int) := by omega
      by_cases h5 : p ≤ p0
      ·have R : Hid (wishOkB x = false) := by show _ = _; rw [wishOkB, hF.out, hp'.out, peopleB_near dx.out h5]; rfl
       clear hF h4
       go_wp2
       go_ret
       rw [R.out]
       exact ⟨rfl, hxw⟩
      ·have R : Hid (peopleB none x.people = peopleB (prevP x.people (i + 1)) (x.people.drop (i + 1))) := by
        show _ = _
        rw [hF.out, prevP_succ ex.out, hp'.out, peopleB_step dx.out (by omega) (by omega) (by omega)]
       have hd5 : decide (p ≤ p0) = false := by simpa using h5
       clear hF h4
       go_wp2
       go_roundw
       case rel => exact ⟨i + 1, by omega, by go_num, hx, R⟩
       case measure => simp [intOf]; omega
  ·have hP : peopleB none x.people = true := by rw [hF.out, List.drop_of_length_le (by omega)]; cases prevP x.people i <;> rfl
   by_cases h2 : 1 ≤ x.meeting
   ·by_cases h3 : 0 < x.opts.length
    ·have R : Hid ((!x.opts.any fun o => !optOkB o) = wishOkB x) := by show _ = _; rw [wishOkB, hP, List.not_any_eq_all_not]; simp [h2, h3]
     clear hF hP hat
     have d3 : decide (0 < x.opts.length) = true := by simpa using h3
     go_wp2_with fail
     refine (hcall.out _ hxw).mono ?_
     rintro e w1 ⟨rfl, hx2⟩
     go_wp2
     go_ret
     rw [R.out]
     exact ⟨rfl, hxw.trans hx2⟩
    ·have R : Hid (wishOkB x = false) := by show _ = _; simp [wishOkB, h3]
     clear hF hP hat
     have d3 : decide (0 < x.opts.length) = false := by simpa using h3
     go_wp2
     go_ret
     rw [R.out]
     exact ⟨rfl, hxw⟩
   ·have R : Hid (wishOkB x = false) := by show _ = _; simp [wishOkB, h2]
    clear hF hP hat
    go_wp2
    go_ret
    rw [R.out]
    exact ⟨rfl, hxw⟩
end Go.Proofs.YtgolicoalldidaaGreat
namespace Go.Proofs.YtgolicoalldidaaGreat
open Go.RowKit
def prevM (l : List WishD) (i : Nat) : Option Int := if i = 0 then none else l[i - 1]?.map (·.meeting)
theorem prevM_zero (l : List WishD) : prevM l 0 = none := rfl
theorem prevM_succ {l : List WishD} {i : Nat} {x : WishD} (h : l[i]? = some x) : prevM l (i + 1) = some x.meeting := by simp [prevM, h]
theorem prevM_pos {l : List WishD} {i : Nat} {x : WishD} (h : 0 < i) (hl : l[i - 1]? = some x) : prevM l i = some x.meeting := by
 simp only [prevM]; rw [if_neg (by omega), hl]; rfl
theorem wishesB_bad {l : List WishD} {i : Nat} {x : WishD} (d : l.drop i = x :: l.drop (i + 1)) (h : wishOkB x = false) (p : Option Int) : wishesB p (l.drop i) = false := by
 rw [d]; cases p <;> simp only [wishesB, h] <;> rfl
theorem wishesB_step0 {l : List WishD} {i : Nat} {x : WishD} (d : l.drop i = x :: l.drop (i + 1)) (h : wishOkB x = true) : wishesB none (l.drop i) = wishesB (some x.meeting) (l.drop (i + 1)) := by
 rw [d]; simp [wishesB, h]
theorem wishesB_step {l : List WishD} {i : Nat} {x : WishD} {e : Int} (d : l.drop i = x :: l.drop (i + 1)) (h : wishOkB x = true) (he : e < x.meeting) : wishesB (some e) (l.drop i) = wishesB (some x.meeting) (l.drop (i + 1)) := by
 rw [d]; simp [wishesB, h, he]
theorem wishesB_near {l : List WishD} {i : Nat} {x : WishD} {e : Int} (d : l.drop i = x :: l.drop (i + 1)) (he : x.meeting ≤ e) : wishesB (some e) (l.drop i) = false := by
 rw [d]; simp [wishesB]; intro _ h'; omega
theorem valid_calls (wv : Value) (t : List WishD) (w : World) (h : Wishes w wv t) :
  Calls Tryz.prog 24 #[.agg #[wv]] w fun e w' => e = .returned (.int .i64 (validT t)) ∧ Ext w w' := by
 have hT := Lib.hid h
 obtain ⟨a, c, rfl, hn, hc, hat⟩ := h.open
 clear h
 cases hb : tooLargeB t with
 | true =>
  have R : Hid (validT t = 2) := by show _ = _; simp [validT, hb]
  have hb' := Lib.hid hb
  clear hb
  go_enter Tryz.func24, Tryz.ntmps24
  go_wp2_with fail
  refine (tooLarge_calls _ t _ (hT.out.ext (by with_reducible repeat' (first | exact Ext.refl _ | assumption | refine Ext.drewN ?_ _ | refine Ext.drew ?_ | refine Ext.alloc ?_ _ | refine Ext.trans ?_ (by with_reducible assumption))))).mono ?_
  rintro e w1 ⟨rfl, hx1⟩
  rw [hb'.out]
  go_wp2
  go_ret
  rw [R.out]
  exact ⟨rfl, ((Ext.refl _).alloc _).trans hx1⟩
 | false =>
  have R0 : Hid (validT t = if wishesB none t && decide (0 < t.length) then 0 else 1) := by show _ = _; simp [validT, hb]
  have hb' := Lib.hid hb
  clear hb
  go_enter Tryz.func24, Tryz.ntmps24
  go_wp2_with fail
  refine (tooLarge_calls _ t _ (hT.out.ext (by with_reducible repeat' (first | exact Ext.refl _ | assumption | refine Ext.drewN ?_ _ | refine Ext.drew ?_ | refine Ext.alloc ?_ _ | refine Ext.trans ?_ (by with_reducible assumption))))).mono ?_
  rintro e w1 ⟨rfl, hx1⟩
  rw [hb'.out]
  have c0 : w1.cell? ⟨w.heap.size, 0, none⟩ = some (.slice a t.length c) := hx1.cell (by simp)
  have hxw := ((Ext.refl w).alloc (.cells #[.slice a t.length c] 28)).trans hx1
  clear hx1
  go_wp2_with fail
  go_loopw [10] (fun vi wr => ∃ i : Nat, i ≤ t.length ∧ vi = .int .i64 i ∧ Ext w1 wr ∧ Hid (wishesB none t = wishesB (prevM t i) (t.drop i))) (fun vi _ => t.length - (intOf vi).toNat)
  case atStart => exact ⟨0, by omega, rfl, Ext.refl _, rfl⟩
  case round =>
   obtain ⟨i, hi, rfl, hx, hF⟩ := hrel
   have d0 := hx.cell c0
   have hxr := hxw.trans hx
   by_cases h1 : i < t.length
   ·obtain ⟨b1, o1, x, pa, pc, oa, oc, rfl, hb1, dx, ex, g1, g2, g3, gp, go⟩ := hat i h1 wr hxr
    have hB : w.heap.size < wr.heap.size := World.block_lt_of_cell? _ _ d0
    have prev : i = 0 ∨ ∃ (o0 : Nat) (x0 : WishD), 0 < i ∧ o0 = o1 + (i - 1) * 3 ∧ Hid (prevM t i = some x0.meeting) ∧ wr.cell? ⟨b1, o0, none⟩ = some (.int .i64 x0.meeting) := by
     by_cases h4 : i = 0
     ·exact Or.inl h4
     ·obtain ⟨b2, o2, x0, _, _, _, _, e2, _, _, ex0, g4, _⟩ := hat (i - 1) (by omega) wr hxr
      cases e2
      exact Or.inr ⟨_, x0, by omega, rfl, prevM_pos (by omega) ex0.out, g4⟩
    clear hat
    have hv : Hid (∀ W, Ext wr W → Calls Tryz.prog 54 #[.agg #[.int .i64 x.meeting, .slice pa x.people.length pc, .slice oa x.opts.length oc]] W fun e w' => e = .returned (.bool (wishOkB x)) ∧ Ext W w') :=
     fun W hW => validWish_calls _ x W ⟨_, _, rfl, gp.ext hW, go.ext hW⟩
    clear gp go
    go_wp2_with fail
    refine wp_abs (S := fun W => Ext wr W ∧ W.cell? ⟨wr.heap.size, 0, none⟩ = some (.int .i64 x.meeting) ∧ W.cell? ⟨wr.heap.size, 1, none⟩ = some (.slice pa x.people.length pc) ∧ W.cell? ⟨wr.heap.size, 2, none⟩ = some (.slice oa x.opts.length oc))
     ⟨(by with_reducible repeat' (first | exact Ext.refl _ | assumption | refine Ext.drewN ?_ _ | refine Ext.drew ?_ | refine Ext.alloc ?_ _ | refine Ext.trans ?_ (by with_reducible assumption))), by simp, by simp, by simp⟩ ?_
    rintro W2 ⟨hx2, k0, k1, k2⟩
    have a0 := After.cell k0
    have a1 := After.cell k1
    have a2 := After.cell k2
    have b0 := After.cell (hx2.cell d0)
    clear k0 k1 k2 d0
    cases hok : wishOkB x with
    | false =>
     have R : Hid (validT t = 1) := by show _ = _; rw [R0.out, hF.out, wishesB_bad dx.out hok]; rfl
     rw [hok] at hv
     have hok' := Lib.hid hok
     clear hok hF prev
     refine wp_region_after (by kernel_rfl) (by kernel_rfl) ?_
     repeat (go_big_quiet_step (exact After.call _ (hv.out _ (hx2.trans (After.ext _)))))
     refine wpQuiet_nil ?_
     rintro _ ⟨y, rfl⟩
     go_wp2
     go_ret
     rw [R.out]
     exact ⟨rfl, (hxr.trans hx2).trans y.ext⟩
    | true =>
     rw [hok] at hv
     rcases prev with h4 | ⟨o0, x0, hpos, ho0, hpm, g4⟩
     ·have R : Hid (wishesB none t = wishesB (prevM t (i + 1)) (t.drop (i + 1))) := by
       show _ = _
       rw [hF.out, prevM_succ ex.out, h4, prevM_zero, wishesB_step0 (by have := dx.out; rwa [h4] at this) hok]
      have hok' := Lib.hid hok
      have hd3 : decide (0 < i) = false := by simp; omega
      clear hok hF h4
      refine wp_region_after (by kernel_rfl) (by kernel_rfl) ?_
      repeat (go_big_quiet_step (exact After.call _ (hv.out _ (hx2.trans (After.ext _)))))
      refine wpQuiet_nil ?_
      rintro _ ⟨y, rfl⟩
      go_wp2
      go_roundw
      case rel => exact ⟨i + 1, by omega, by go_num, (hx.trans hx2).trans y.ext, R⟩
      case measure => simp [intOf]; omega
     ·have b1' := After.cell (hx2.cell g4)
      subst ho0
      have hd3 : decide (0 < i) = true := by simp; omega
      have hi1 : 1 ≤ i := by omega
      have hi2 : (1 : Int) ≤ (i : Int) := by omega
      have hi3 : (i : Int) - 1 < (t.length : Int) := by omega
      clear g4
      by_cases h5 : x.meeting ≤ x0.meeting
      ·have R : Hid (validT t = 1) := by show _ = _; rw [R0.out, hF.out, hpm.out, wishesB_near dx.out h5]; rfl
       have hd5 : decide (x.meeting ≤ x0.meeting) = true := by simpa using h5
       have hok' := Lib.hid hok
       clear hok hF hpm
       refine wp_region_after (by kernel_rfl) (by kernel_rfl) ?_
       repeat (go_big_quiet_step (exact After.call _ (hv.out _ (hx2.trans (After.ext _)))))
       refine wpQuiet_nil ?_
       rintro _ ⟨y, rfl⟩
       go_wp2
       go_ret
       rw [R.out]
       exact ⟨rfl, (hxr.trans hx2).trans y.ext⟩
      ·have R : Hid (wishesB none t = wishesB (prevM t (i + 1)) (t.drop (i + 1))) := by
        show _ = _
        rw [hF.out, prevM_succ ex.out, hpm.out, wishesB_step dx.out hok (by omega)]
       have hd5 : decide (x.meeting ≤ x0.meeting) = false := by simpa using h5
       have hok' := Lib.hid hok
       clear hok hF hpm
       refine wp_region_after (by kernel_rfl) (by kernel_rfl) ?_
       repeat (go_big_quiet_step (exact After.call _ (hv.out _ (hx2.trans (After.ext _)))))
       refine wpQuiet_nil ?_
       rintro _ ⟨y, rfl⟩
       go_wp2
       go_roundw
       case rel => exact ⟨i + 1, by omega, by go_num, (hx.trans hx2).trans y.ext, R⟩
       case measure => simp [intOf]; omega
   ·have hW : wishesB none t = true := by rw [hF.out, List.drop_of_length_le (by omega)]; cases prevM t i <;> rfl
    by_cases h0 : t.length = 0
    ·have R : Hid (validT t = 1) := by show _ = _; rw [R0.out, hW, h0]; rfl
     have hd : ((t.length : Int) == 0) = true := by rw [beq_iff_eq]; omega
     clear hF hW hat h0
     go_wp2
     go_ret
     rw [R.out]
     exact ⟨rfl, hxr⟩
    ·have R : Hid (validT t = 0) := by show _ = _; rw [R0.out, hW, decide_eq_true (show 0 < t.length by omega)]; rfl
     have hd : ((t.length : Int) == 0) = false := by rw [beq_eq_false_iff_ne]; omega
     clear hF hW hat h0
     go_wp2
     go_ret
     rw [R.out]
     exact ⟨rfl, hxr⟩
end Go.Proofs.YtgolicoalldidaaGreat
