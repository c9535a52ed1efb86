/- Merged parts: Base, PlanPure, SpanWalks. -/
import Derived.Test.YtepcdhpikpmepaaGreatChecked
import Derived.WalkKit
import Derived.Handy
import Derived.Deep.QuietTactic
import Derived.BigQuiet
import Derived.WalkSpells
import Derived.WalkLawsBesides
import Derived.Deep.LoopGhost
import Derived.Lib.Hide
/- The base of these proofs: what a call may do to memory ('Ext'), a world behind such a call ('After'), slices that read as rows of cells ('Sl'). -/
namespace Go.Proofs.YtepcdhpikpmepaaGreat
open Go.RowKit

def Ext (w w' : World) : Prop := Below w.heap.size w w'

theorem Ext.refl (w : World) : Ext w w := Below.refl _ _
theorem Ext.trans {a b c : World} (h : Ext a b) (k : Ext b c) : Ext a c := Below.trans h (Below.mono k (Below.size h))
theorem Ext.alloc {a w : World} (h : Ext a w) (o : Obj) : Ext a (w.alloc o) := Below.alloc h (Below.size h) o
theorem Ext.drew {a w : World} (h : Ext a w) : Ext a w.drew := Below.drew h
theorem Ext.drewN {a w : World} (h : Ext a w) (n : Nat) : Ext a (w.drewN n) := by
 have h' : Below a.heap.size a w := h
 exact ⟨h'.os, h'.tape, h'.output, h'.size, h'.block⟩
theorem Ext.setCell {a w : World} (h : Ext a w) {p : Addr} (hp : a.heap.size ≤ p.block) (u : Value) : Ext a (w.setCell p u) := Below.setCell h hp u
theorem Ext.size {a w : World} (h : Ext a w) : a.heap.size ≤ w.heap.size := Below.size h
theorem Ext.heap {a w : World} (h : Ext a w) {k : Nat} (hk : k < a.heap.size) : w.heap[k]? = a.heap[k]? := Below.block h k hk
theorem Ext.cell {a w : World} (h : Ext a w) {p : Addr} {v : Value} (hp : a.cell? p = some v) : w.cell? p = some v :=
 (Below.cell h (World.block_lt_of_cell? _ _ hp)).trans hp
theorem Ext.grown {a w w' : World} {row : Option Nat} (h : Ext a w) (hg : w.grownBy w' row) (hr : ∀ k, row = some k → a.heap.size ≤ k) : Ext a w' :=
 Below.grown h hg (Below.size h) hr

structure After (w : World) where
 world : World
 ext : Ext w world

instance After.inst (w : World) : Nonempty (After w) := ⟨⟨w, Ext.refl w⟩⟩
theorem After.cell {w : World} {p : Addr} {v : Value} (h : w.cell? p = some v) (y : After w) : y.world.cell? p = some v := y.ext.cell h

theorem After.call {w : World} {P : Program} {f : FuncId} {args : Array Value} {v : Value} (x : After w)
  (h : Calls P f args x.world fun e w' => e = .returned v ∧ Ext x.world w') : Calls P f args x.world fun e w'' => e = .returned v ∧ ∃ y : After w, w'' = y.world :=
 h.mono fun _ w'' ⟨he, hx⟩ => ⟨he, ⟨w'', x.ext.trans hx⟩, rfl⟩

theorem wp_region_after {P : Program} {id : Nat} {Q : Exit → Act → World → Prop} {a : Act} {w : World} {l : List Oper} (hm : P.follows .mixedOrders = true) (hB : Region.lexB .any l.toArray = true)
  (h : wpQuiet P l.toArray (fun W => ∃ x : After w, W = x.world) (fun a' => ∀ W, (∃ x : After w, W = x.world) → Q .normal a' W) l a) : (Code.region id l.toArray true).wp P Q a w :=
 wp_region_quiet (C := fun W => ∃ x : After w, W = x.world) hm hB ⟨⟨w.drew, (Ext.refl w).drew⟩, rfl⟩ (by simpa using h)

theorem wpList_of_quiet {P : Program} {ops : Array Oper} {C : World → Prop} {Q : Exit → Act → World → Prop} : ∀ {l : List Oper} {a : Act} {w : World}, C w →
  wpQuiet P ops C (fun a' => ∀ W, C W → Q .normal a' W) l a → wpList P ops Q l a w
 | [], _, _, hw, h => h _ hw
 | o :: l, a, w, hw, h => by
  unfold wpQuiet at h
  unfold wpList
  split
  ·rename_i hwd
   rw [if_pos hwd] at h
   exact .inl (Oper.wp_of_quiet hw (fun a' W hW hq => wpList_of_quiet hW hq) h)
  ·rename_i hwd
   rw [if_neg hwd] at h
   exact wpList_of_quiet hw h
theorem wp_region_after0 {P : Program} {id : Nat} {Q : Exit → Act → World → Prop} {a : Act} {w : World} {l : List Oper}
  (h : wpQuiet P l.toArray (fun W => ∃ x : After w, W = x.world) (fun a' => ∀ W, (∃ x : After w, W = x.world) → Q .normal a' W) l a) : (Code.region id l.toArray false).wp P Q a w :=
 wp_region_lit (wpList_of_quiet (C := fun W => ∃ x : After w, W = x.world) ⟨⟨w, Ext.refl w⟩, rfl⟩ h)

theorem wp_abs {P : Program} {c : Code} {Q : Exit → Act → World → Prop} {a : Act} {w : World} (S : World → Prop) (hS : S w) (h : ∀ W, S W → c.wp P Q a W) : c.wp P Q a w := h w hS
theorem wpList_abs {P : Program} {ops : Array Oper} {l : List Oper} {Q : Exit → Act → World → Prop} {a : Act} {w : World} (S : World → Prop) (hS : S w) (h : ∀ W, S W → wpList P ops Q l a W) : wpList P ops Q l a w := h w hS
theorem calls_abs {P : Program} {f : FuncId} {args : Array Value} {R : Ending → World → Prop} {w : World} (S : World → Prop) (hS : S w) (h : ∀ W, S W → Calls P f args W R) : Calls P f args w R := h w hS

def Sl (w : World) (k : Nat) (v : Value) (n : Nat) (F : Nat → Nat → Value) : Prop :=
 ∃ a c, v = .slice a n c ∧ n ≤ c ∧ c ≤ maxLen ∧ (0 < n → ∃ b off, a = some ⟨b, off, none⟩ ∧ b < w.heap.size ∧ ∀ i, i < n → ∀ j, j < k → w.cell? ⟨b, off + i * k + j, none⟩ = some (F i j))

theorem Sl.ext {w w' : World} {k : Nat} {v : Value} {n : Nat} {F : Nat → Nat → Value} (h : Sl w k v n F) (e : Ext w w') : Sl w' k v n F := by
 obtain ⟨a, c, hv, hn, hc, h⟩ := h
 refine ⟨a, c, hv, hn, hc, fun h0 => ?_⟩
 obtain ⟨b, off, ha, hb, h⟩ := h h0
 exact ⟨b, off, ha, Nat.lt_of_lt_of_le hb e.size, fun i hi j hj => e.cell (h i hi j hj)⟩

def SlAt (a : Option Addr) (w : World) (k n : Nat) (F : Nat → Nat → Value) : Prop :=
 ∀ i, i < n → ∃ b off, a = some ⟨b, off, none⟩ ∧ b < w.heap.size ∧ ∀ W, Ext w W → ∀ j, j < k → W.cell? ⟨b, off + i * k + j, none⟩ = some (F i j)

theorem Sl.open {w : World} {k : Nat} {v : Value} {n : Nat} {F : Nat → Nat → Value} (h : Sl w k v n F) :
  ∃ a c, v = .slice a n c ∧ n ≤ c ∧ c ≤ 9223372036854775807 ∧ SlAt a w k n F := by
 obtain ⟨a, c, hv, hn, hc, h⟩ := h
 refine ⟨a, c, hv, hn, by unfold maxLen at hc; exact hc, fun i hi => ?_⟩
 obtain ⟨b, off, ha, hb, h⟩ := h (by omega)
 exact ⟨b, off, ha, hb, fun W e j hj => e.cell (h i hi j hj)⟩

theorem drop_cons {α : Type} (l : List α) (i : Nat) (h : i < l.length) : ∃ x, l.drop i = x :: l.drop (i + 1) ∧ l[i]? = some x :=
 ⟨l[i], List.drop_eq_getElem_cons h, by simp [h]⟩

/-! ### integers -/
def Ints (w : World) (v : Value) (l : List Int) : Prop := Sl w 1 v l.length fun i _ => .int .i64 (l[i]?.getD 0)
theorem Ints.ext {w w' : World} {v : Value} {l : List Int} (h : Ints w v l) (e : Ext w w') : Ints w' v l := Sl.ext h e
def IntsAt (a : Option Addr) (w : World) (l : List Int) : Prop :=
 ∀ i, i < l.length → ∀ W, Ext w W → ∃ b off x, a = some ⟨b, off, none⟩ ∧ b < W.heap.size ∧ Hid (l.drop i = x :: l.drop (i + 1)) ∧ Hid (l[i]? = some x) ∧ W.cell? ⟨b, off + i, none⟩ = some (.int .i64 x)
theorem Ints.open {w : World} {v : Value} {l : List Int} (h : Ints w v l) :
  ∃ a c, v = .slice a l.length c ∧ l.length ≤ c ∧ c ≤ 9223372036854775807 ∧ IntsAt a w l := by
 obtain ⟨a, c, hv, hn, hc, h⟩ := Sl.open h
 refine ⟨a, c, hv, hn, hc, fun i hi W e => ?_⟩
 obtain ⟨b, off, ha, hb, h⟩ := h i hi
 obtain ⟨x, d, ex⟩ := drop_cons l i hi
 refine ⟨b, off, x, ha, Nat.lt_of_lt_of_le hb e.size, d, ex, ?_⟩
 have := h W e 0 (by omega)
 simpa [ex] using this

/-! ### the data -/
structure OptD where
 harm : Int
 room : Int
 spans : List (Int × Int)
 deriving DecidableEq, Inhabited
structure WishD where
 meeting : Int
 people : List Int
 opts : List OptD
 deriving DecidableEq, Inhabited
structure NodeD where
 wish : Int
 kids : List Int
 clA : Int
 clB : Int
 deriving DecidableEq, Inhabited

def Spans (w : World) (v : Value) (l : List (Int × Int)) : Prop := Sl w 2 v l.length fun i j => .int .i64 (if j = 0 then (l[i]?.getD default).1 else (l[i]?.getD default).2)
theorem Spans.ext {w w' : World} {v : Value} {l : List (Int × Int)} (h : Spans w v l) (e : Ext w w') : Spans w' v l := Sl.ext h e
def SpansAt (a : Option Addr) (w : World) (l : List (Int × Int)) : Prop :=
 ∀ i, i < l.length → ∀ W, Ext w W → ∃ b off x y, a = some ⟨b, off, none⟩ ∧ b < W.heap.size ∧ Hid (l.drop i = (x, y) :: l.drop (i + 1)) ∧ Hid (l[i]? = some (x, y)) ∧
  W.cell? ⟨b, off + i * 2, none⟩ = some (.int .i64 x) ∧ W.cell? ⟨b, off + i * 2 + 1, none⟩ = some (.int .i64 y)
theorem Spans.open {w : World} {v : Value} {l : List (Int × Int)} (h : Spans w v l) :
  ∃ a c, v = .slice a l.length c ∧ l.length ≤ c ∧ c ≤ 9223372036854775807 ∧ SpansAt a w l := by
 obtain ⟨a, c, hv, hn, hc, h⟩ := Sl.open h
 refine ⟨a, c, hv, hn, hc, fun i hi W e => ?_⟩
 obtain ⟨b, off, ha, hb, h⟩ := h i hi
 obtain ⟨⟨x, y⟩, d, ex⟩ := drop_cons l i hi
 refine ⟨b, off, x, y, ha, Nat.lt_of_lt_of_le hb e.size, d, ex, ?_, ?_⟩
 ·have := h W e 0 (by omega)
  simpa [ex] using this
 ·have := h W e 1 (by omega)
  simpa [ex] using this

def Opts (w : World) (v : Value) (l : List OptD) : Prop :=
 ∃ S : Nat → Value, Sl w 3 v l.length (fun i j => if j = 0 then .int .i64 (l[i]?.getD default).harm else if j = 1 then .int .i64 (l[i]?.getD default).room else S i) ∧
  ∀ i, i < l.length → Spans w (S i) (l[i]?.getD default).spans
theorem Opts.ext {w w' : World} {v : Value} {l : List OptD} (h : Opts w v l) (e : Ext w w') : Opts w' v l :=
 let ⟨S, h1, h2⟩ := h
 ⟨S, Sl.ext h1 e, fun i hi => (h2 i hi).ext e⟩
def OptV (w : World) (v : Value) (o : OptD) : Prop := ∃ sv, v = .agg #[.int .i64 o.harm, .int .i64 o.room, sv] ∧ Spans w sv o.spans
theorem OptV.ext {w w' : World} {v : Value} {o : OptD} (h : OptV w v o) (e : Ext w w') : OptV w' v o :=
 let ⟨s, h1, h2⟩ := h
 ⟨s, h1, h2.ext e⟩
def OptsAt (a : Option Addr) (w : World) (l : List OptD) : Prop :=
 ∀ i, i < l.length → ∀ W, Ext w W → ∃ b off o sa sc, a = some ⟨b, off, none⟩ ∧ b < W.heap.size ∧ Hid (l.drop i = o :: l.drop (i + 1)) ∧ Hid (l[i]? = some o) ∧
  W.cell? ⟨b, off + i * 3, none⟩ = some (.int .i64 o.harm) ∧ W.cell? ⟨b, off + i * 3 + 1, none⟩ = some (.int .i64 o.room) ∧ W.cell? ⟨b, off + i * 3 + 2, none⟩ = some (.slice sa o.spans.length sc) ∧
  Spans W (.slice sa o.spans.length sc) o.spans
theorem Opts.open {w : World} {v : Value} {l : List OptD} (h : Opts w v l) :
  ∃ a c, v = .slice a l.length c ∧ l.length ≤ c ∧ c ≤ 9223372036854775807 ∧ OptsAt a w l := by
 obtain ⟨S, h1, h2⟩ := h
 obtain ⟨a, c, hv, hn, hc, h⟩ := Sl.open h1
 refine ⟨a, c, hv, hn, hc, fun i hi W e => ?_⟩
 obtain ⟨b, off, ha, hb, h⟩ := h i hi
 obtain ⟨o, d, ex⟩ := drop_cons l i hi
 have hs := (h2 i hi).ext e
 simp only [ex, Option.getD_some] at hs
 obtain ⟨sa, sc, hS, _⟩ := Spans.open hs
 refine ⟨b, off, o, sa, sc, ha, Nat.lt_of_lt_of_le hb e.size, d, ex, ?_, ?_, ?_, by rw [← hS]; exact hs⟩
 ·have := h W e 0 (by omega)
  simpa [ex] using this
 ·have := h W e 1 (by omega)
  simpa [ex] using this
 ·have := h W e 2 (by omega)
  rw [← hS]
  simpa [ex] using this

def Wishes (w : World) (v : Value) (l : List WishD) : Prop :=
 ∃ Pp O : Nat → Value, Sl w 3 v l.length (fun i j => if j = 0 then .int .i64 (l[i]?.getD default).meeting else if j = 1 then Pp i else O i) ∧
  ∀ i, i < l.length → Ints w (Pp i) (l[i]?.getD default).people ∧ Opts w (O i) (l[i]?.getD default).opts
theorem Wishes.ext {w w' : World} {v : Value} {l : List WishD} (h : Wishes w v l) (e : Ext w w') : Wishes w' v l :=
 let ⟨S, T, h1, h2⟩ := h
 ⟨S, T, Sl.ext h1 e, fun i hi => ⟨(h2 i hi).1.ext e, (h2 i hi).2.ext e⟩⟩
def WishV (w : World) (v : Value) (x : WishD) : Prop := ∃ pv ov, v = .agg #[.int .i64 x.meeting, pv, ov] ∧ Ints w pv x.people ∧ Opts w ov x.opts
theorem WishV.ext {w w' : World} {v : Value} {x : WishD} (h : WishV w v x) (e : Ext w w') : WishV w' v x :=
 let ⟨s, t, h1, h2, h3⟩ := h
 ⟨s, t, h1, h2.ext e, h3.ext e⟩
def WishesAt (a : Option Addr) (w : World) (l : List WishD) : Prop :=
 ∀ i, i < l.length → ∀ W, Ext w W → ∃ b off x pa pc oa oc, a = some ⟨b, off, none⟩ ∧ b < W.heap.size ∧ Hid (l.drop i = x :: l.drop (i + 1)) ∧ Hid (l[i]? = some x) ∧
  W.cell? ⟨b, off + i * 3, none⟩ = some (.int .i64 x.meeting) ∧ W.cell? ⟨b, off + i * 3 + 1, none⟩ = some (.slice pa x.people.length pc) ∧ W.cell? ⟨b, off + i * 3 + 2, none⟩ = some (.slice oa x.opts.length oc) ∧
  Ints W (.slice pa x.people.length pc) x.people ∧ Opts W (.slice oa x.opts.length oc) x.opts
theorem Wishes.open {w : World} {v : Value} {l : List WishD} (h : Wishes w v l) :
  ∃ a c, v = .slice a l.length c ∧ l.length ≤ c ∧ c ≤ 9223372036854775807 ∧ WishesAt a w l := by
 obtain ⟨Pp, O, h1, h2⟩ := h
 obtain ⟨a, c, hv, hn, hc, h⟩ := Sl.open h1
 refine ⟨a, c, hv, hn, hc, fun i hi W e => ?_⟩
 obtain ⟨b, off, ha, hb, h⟩ := h i hi
 obtain ⟨x, d, ex⟩ := drop_cons l i hi
 have hp := (h2 i hi).1.ext e
 have ho := (h2 i hi).2.ext e
 simp only [ex, Option.getD_some] at hp ho
 obtain ⟨pa, pc, hP, _⟩ := Ints.open hp
 obtain ⟨oa, oc, hO, _⟩ := Opts.open ho
 refine ⟨b, off, x, pa, pc, oa, oc, ha, Nat.lt_of_lt_of_le hb e.size, d, ex, ?_, ?_, ?_, by rw [← hP]; exact hp, by rw [← hO]; exact ho⟩
 ·have := h W e 0 (by omega)
  simpa [ex] using this
 ·have := h W e 1 (by omega)
  rw [← hP]
  simpa [ex] using this
 ·have := h W e 2 (by omega)
  rw [← hO]
  simpa [ex] using this

def Nodes (w : World) (v : Value) (l : List NodeD) : Prop :=
 ∃ K : Nat → Value, Sl w 4 v l.length (fun i j => if j = 0 then .int .i64 (l[i]?.getD default).wish else if j = 1 then K i else if j = 2 then .int .i64 (l[i]?.getD default).clA else .int .i64 (l[i]?.getD default).clB) ∧
  ∀ i, i < l.length → Ints w (K i) (l[i]?.getD default).kids
theorem Nodes.ext {w w' : World} {v : Value} {l : List NodeD} (h : Nodes w v l) (e : Ext w w') : Nodes w' v l :=
 let ⟨S, h1, h2⟩ := h
 ⟨S, Sl.ext h1 e, fun i hi => (h2 i hi).ext e⟩
def NodesAt (a : Option Addr) (w : World) (l : List NodeD) : Prop :=
 ∀ i, i < l.length → ∀ W, Ext w W → ∃ b off x ka kc, a = some ⟨b, off, none⟩ ∧ b < W.heap.size ∧ Hid (l.drop i = x :: l.drop (i + 1)) ∧ Hid (l[i]? = some x) ∧
  W.cell? ⟨b, off + i * 4, none⟩ = some (.int .i64 x.wish) ∧ W.cell? ⟨b, off + i * 4 + 1, none⟩ = some (.slice ka x.kids.length kc) ∧
  W.cell? ⟨b, off + i * 4 + 2, none⟩ = some (.int .i64 x.clA) ∧ W.cell? ⟨b, off + i * 4 + 3, none⟩ = some (.int .i64 x.clB) ∧ Ints W (.slice ka x.kids.length kc) x.kids
theorem Nodes.open {w : World} {v : Value} {l : List NodeD} (h : Nodes w v l) :
  ∃ a c, v = .slice a l.length c ∧ l.length ≤ c ∧ c ≤ 9223372036854775807 ∧ NodesAt a w l := by
 obtain ⟨K, h1, h2⟩ := h
 obtain ⟨a, c, hv, hn, hc, h⟩ := Sl.open h1
 refine ⟨a, c, hv, hn, hc, fun i hi W e => ?_⟩
 obtain ⟨b, off, ha, hb, h⟩ := h i hi
 obtain ⟨x, d, ex⟩ := drop_cons l i hi
 have hk := (h2 i hi).ext e
 simp only [ex, Option.getD_some] at hk
 obtain ⟨ka, kc, hK, _⟩ := Ints.open hk
 refine ⟨b, off, x, ka, kc, ha, Nat.lt_of_lt_of_le hb e.size, d, ex, ?_, ?_, ?_, ?_, by rw [← hK]; exact hk⟩
 ·have := h W e 0 (by omega)
  simpa [ex] using this
 ·have := h W e 1 (by omega)
  rw [← hK]
  simpa [ex] using this
 ·have := h W e 2 (by omega)
  simpa [ex] using this
 ·have := h W e 3 (by omega)
  simpa [ex] using this


theorem Ints.form {w : World} {v : Value} {l : List Int} (h : Ints w v l) : ∃ a c, v = .slice a l.length c := let ⟨a, c, hv, _⟩ := h; ⟨a, c, hv⟩
theorem Spans.form {w : World} {v : Value} {l : List (Int × Int)} (h : Spans w v l) : ∃ a c, v = .slice a l.length c := let ⟨a, c, hv, _⟩ := h; ⟨a, c, hv⟩
theorem Opts.form {w : World} {v : Value} {l : List OptD} (h : Opts w v l) : ∃ a c, v = .slice a l.length c := let ⟨_, ⟨a, c, hv, _⟩, _⟩ := h; ⟨a, c, hv⟩
theorem Wishes.form {w : World} {v : Value} {l : List WishD} (h : Wishes w v l) : ∃ a c, v = .slice a l.length c := let ⟨_, _, ⟨a, c, hv, _⟩, _⟩ := h; ⟨a, c, hv⟩
theorem Nodes.form {w : World} {v : Value} {l : List NodeD} (h : Nodes w v l) : ∃ a c, v = .slice a l.length c := let ⟨_, ⟨a, c, hv, _⟩, _⟩ := h; ⟨a, c, hv⟩
theorem Ints.len {w : World} {v : Value} {l : List Int} (h : Ints w v l) : l.length ≤ 9223372036854775807 := let ⟨_, _, _, h1, h2, _⟩ := Ints.open h; Nat.le_trans h1 h2
theorem Spans.len {w : World} {v : Value} {l : List (Int × Int)} (h : Spans w v l) : l.length ≤ 9223372036854775807 := let ⟨_, _, _, h1, h2, _⟩ := Spans.open h; Nat.le_trans h1 h2
theorem Opts.len {w : World} {v : Value} {l : List OptD} (h : Opts w v l) : l.length ≤ 9223372036854775807 := let ⟨_, _, _, h1, h2, _⟩ := Opts.open h; Nat.le_trans h1 h2
theorem Wishes.len {w : World} {v : Value} {l : List WishD} (h : Wishes w v l) : l.length ≤ 9223372036854775807 := let ⟨_, _, _, h1, h2, _⟩ := Wishes.open h; Nat.le_trans h1 h2
theorem Nodes.len {w : World} {v : Value} {l : List NodeD} (h : Nodes w v l) : l.length ≤ 9223372036854775807 := let ⟨_, _, _, h1, h2, _⟩ := Nodes.open h; Nat.le_trans h1 h2

end Go.Proofs.YtepcdhpikpmepaaGreat

/- What the functions of package plan and of the references compute, as plain functions on plain data; no program in sight. -/
namespace Go.Proofs.YtepcdhpikpmepaaGreat
open Go.RowKit

/-! ### spans -/
def farB (t : Int) : Bool := decide (t < -2251799813685248) || decide (2251799813685248 < t)
def rangedB (l : List (Int × Int)) : Bool := l.all fun s => !(farB s.1 || farB s.2)
def chainB : Option Int → List (Int × Int) → Bool
 | _, [] => true
 | p, s :: r => decide (s.1 < s.2) && (match p with | none => true | some e => decide (e < s.1)) && chainB (some s.2) r
def normalB (l : List (Int × Int)) : Bool := chainB none l && rangedB l

def findI {α : Type} (p : α → Bool) (l : List α) : Int := match l.findIdx? p with | some i => (i : Int) | none => -1
theorem findI_ge {α : Type} (p : α → Bool) (l : List α) : decide (0 ≤ findI p l) = l.any p := by
 unfold findI
 cases h : l.findIdx? p with
 | none => simp only [List.findIdx?_eq_none_iff] at h; simp; exact h
 | some i =>
  have := List.findIdx?_isSome (xs := l) (p := p)
  rw [h] at this
  simp at this
  simp; exact this
def FindAt {α : Type} (p : α → Bool) (l : List α) (i : Nat) : Prop := ∀ x ∈ l.take i, p x = false
theorem FindAt.zero {α : Type} (p : α → Bool) (l : List α) : FindAt p l 0 := by simp [FindAt]
theorem FindAt.hit {α : Type} {p : α → Bool} {l : List α} {i : Nat} {x : α} (h : FindAt p l i) (hx : l[i]? = some x) (hp : p x = true) : findI p l = i := by
 unfold findI
 have hi : i < l.length := (List.getElem?_eq_some_iff.1 hx).1
 have : l.findIdx? p = some i := by
  rw [List.findIdx?_eq_some_iff_getElem]
  refine ⟨hi, by rw [(List.getElem?_eq_some_iff.1 hx).2]; exact hp, fun j hj => ?_⟩
  have := h (l[j]'(by omega)) (by rw [List.mem_take_iff_getElem]; exact ⟨j, by omega, rfl⟩)
  simp [this]
 rw [this]
theorem FindAt.miss {α : Type} {p : α → Bool} {l : List α} {i : Nat} {x : α} (h : FindAt p l i) (hx : l[i]? = some x) (hp : p x = false) : FindAt p l (i + 1) := by
 intro y hy
 rw [List.take_add_one, hx] at hy
 rcases List.mem_append.1 hy with hy | hy
 ·exact h y hy
 ·simp at hy; subst hy; exact hp
theorem FindAt.none {α : Type} {p : α → Bool} {l : List α} {i : Nat} (h : FindAt p l i) (hi : l.length ≤ i) : findI p l = -1 := by
 unfold findI
 have : l.findIdx? p = Option.none := by
  rw [List.findIdx?_eq_none_iff]
  intro x hx
  exact h x (by rw [List.take_of_length_le hi]; exact hx)
 rw [this]


def idxB (i n : Int) : Bool := decide (0 ≤ i) && decide (i < n)

/-! ### validity of tasks -/
def optOkB (o : OptD) : Bool := decide (0 ≤ o.harm) && decide (o.harm ≤ 1000000) && decide (-1 ≤ o.room) && decide (o.room < 256) && normalB o.spans
def peopleB : Option Int → List Int → Bool
 | _, [] => true
 | p, x :: r => decide (0 ≤ x) && decide (x < 512) && (match p with | none => true | some e => decide (e < x)) && peopleB (some x) r
def wishOkB (x : WishD) : Bool := peopleB none x.people && decide (1 ≤ x.meeting) && decide (0 < x.opts.length) && x.opts.all optOkB
def tooLargeB (t : List WishD) : Bool :=
 decide (512 < t.length) || t.any fun x => decide (16 < x.opts.length) || decide (64 < x.people.length) || x.opts.any fun o => decide (64 < o.spans.length)
def wishesB : Option Int → List WishD → Bool
 | _, [] => true
 | p, x :: r => wishOkB x && (match p with | none => true | some e => decide (e < x.meeting)) && wishesB (some x.meeting) r
def validT (t : List WishD) : Int := if tooLargeB t then 2 else if wishesB none t && decide (0 < t.length) then 0 else 1

/-! ### clashes -/
def shareB (a b : List Int) : Bool := a.any fun x => b.contains x
def meetB (a b : List (Int × Int)) : Bool := a.any fun x => b.any fun y => decide (x.1 < y.2) && decide (y.1 < x.2)
def clashB (a b : WishD) (x y : OptD) : Bool := (decide (x.room = y.room) && decide (0 ≤ x.room) || shareB a.people b.people) && meetB x.spans y.spans
def leastN (l : List OptD) (n : Int) : Int := l.foldl (fun n o => min n o.harm) n
def leastB (x : WishD) : Int := leastN x.opts 1000000

end Go.Proofs.YtepcdhpikpmepaaGreat

/- Walks of package span's small functions: far, ranged, Valid; and of slices.IndexFunc, ContainsFunc at spans. -/
namespace Go.Proofs.YtepcdhpikpmepaaGreat
open Go.RowKit

theorem far_calls (t : Int) (w : World) : Calls Tryz.prog 108 #[.int .i64 t] w fun e w' => e = .returned (.bool (farB t)) ∧ Ext w w' := by
 by_cases h1 : t < -2251799813685248
 ·have R : Hid (farB t = true) := by show _ = _; simp [farB, h1]
  go_enter Tryz.func108, Tryz.ntmps108
  go_wp2
  go_ret
  rw [R.out]
  exact ⟨rfl, Ext.refl _⟩
 ·by_cases h2 : 2251799813685248 < t
  ·have R : Hid (farB t = true) := by show _ = _; simp [farB, h2]
   go_enter Tryz.func108, Tryz.ntmps108
   go_wp2
   go_ret
   rw [R.out]
   exact ⟨rfl, Ext.refl _⟩
  ·have R : Hid (farB t = false) := by show _ = _; simp [farB, h1, h2]
   go_enter Tryz.func108, Tryz.ntmps108
   go_wp2
   go_ret
   rw [R.out]
   exact ⟨rfl, Ext.refl _⟩

theorem ranged1_calls (s : Int × Int) (w : World) : Calls Tryz.prog 107 #[.agg #[.int .i64 s.1, .int .i64 s.2]] w fun e w' => e = .returned (.bool (farB s.1 || farB s.2)) ∧ Ext w w' := by
 obtain ⟨x, y⟩ := s
 dsimp only
 cases h1 : farB x with
 | true =>
  go_enter Tryz.func107, Tryz.ntmps107
  go_wp2_with fail
  refine (far_calls _ _).mono ?_
  rintro e w1 ⟨rfl, hx⟩
  go_wp2
  go_ret
  exact ⟨rfl, ((Ext.refl _).alloc _).trans hx⟩
 | false =>
  go_enter Tryz.func107, Tryz.ntmps107
  go_wp2_with fail
  refine (far_calls _ _).mono ?_
  rintro e w1 ⟨rfl, hx⟩
  have c1 : w1.cell? ⟨w.heap.size, 1, none⟩ = some (.int .i64 y) := hx.cell (by simp)
  go_wp2_with fail
  refine (far_calls _ _).mono ?_
  rintro e w2 ⟨rfl, hx2⟩
  go_wp2
  go_ret
  exact ⟨rfl, (((Ext.refl _).alloc _).trans hx).trans hx2⟩

set_option maxHeartbeats 400000 in
theorem indexFunc_span_calls (va : Value) (l : List (Int × Int)) (g : Nat) (hg : ∀ (x : Array Value) (W : World), (callFunc g x).run Tryz.prog W = .ok (.enter g x) W) (p : Int × Int → Bool) (w : World) (h : Spans w va l)
  (hf : ∀ s ∈ l, ∀ W, Ext w W → Calls Tryz.prog g #[.agg #[.int .i64 s.1, .int .i64 s.2]] W fun e w' => e = .returned (.bool (p s)) ∧ Ext W w') :
  Calls Tryz.prog 121 #[va, .func (.func g) #[] #[]] w fun e w' => e = .returned (.int .i64 (findI p l)) ∧ Ext w w' := by
 obtain ⟨a, c, rfl, hn, hc, hat⟩ := h.open
 clear h
 have hf' := Lib.hid hf
 clear hf
 go_enter Tryz.func121, Tryz.ntmps121
 go_wp2_with fail
 go_loopw [8] (fun vi wr => ∃ i : Nat, i ≤ l.length ∧ vi = .int .i64 i ∧ Ext w wr ∧ Hid (FindAt p l i)) (fun vi _ => l.length - (intOf vi).toNat)
 case atStart => exact ⟨0, by omega, rfl, Ext.refl _, FindAt.zero _ _⟩
 case round =>
  obtain ⟨i, hi, rfl, hx, hF⟩ := hrel
  by_cases h1 : i < l.length
  ·obtain ⟨b1, o1, x, y, rfl, hb1, dx, ex, g1, g2⟩ := hat i h1 wr hx
   have hm : (x, y) ∈ l := List.mem_of_getElem? ex.out
   have hcall := Lib.hid (hf'.out (x, y) hm wr hx)
   cases hp : p (x, y) with
   | true =>
    have R := Lib.hid (hF.out.hit ex.out hp)
    have hp' := Lib.hid hp
    clear hp
    go_wp2_with fail
    refine hcall.out.mono ?_
    rintro e w1 ⟨rfl, hx1⟩
    rw [hp'.out]
    go_wp2
    go_ret
    rw [R.out]
    exact ⟨rfl, hx.trans hx1⟩
   | false =>
    have R := Lib.hid (hF.out.miss ex.out hp)
    have hp' := Lib.hid hp
    clear hp
    go_wp2_with fail
    refine hcall.out.mono ?_
    rintro e w1 ⟨rfl, hx1⟩
    rw [hp'.out]
    go_wp2
    go_roundw
    case rel => exact ⟨i + 1, by omega, by go_num, hx.trans hx1, R⟩
    case measure => simp [intOf]; omega
  ·have R := Lib.hid (hF.out.none (by omega))
   go_wp2
   go_ret
   rw [R.out]
   exact ⟨rfl, hx⟩

theorem containsFunc_span_calls (va : Value) (l : List (Int × Int)) (g : Nat) (hg : ∀ (x : Array Value) (W : World), (callFunc g x).run Tryz.prog W = .ok (.enter g x) W) (p : Int × Int → Bool) (w : World) (h : Spans w va l)
  (hf : ∀ s ∈ l, ∀ W, Ext w W → Calls Tryz.prog g #[.agg #[.int .i64 s.1, .int .i64 s.2]] W fun e w' => e = .returned (.bool (p s)) ∧ Ext W w') :
  Calls Tryz.prog 106 #[va, .func (.func g) #[] #[]] w fun e w' => e = .returned (.bool (l.any p)) ∧ Ext w w' := by
 have hc := Lib.hid (indexFunc_span_calls va l g hg p w h hf)
 have R := Lib.hid (findI_ge p l)
 clear hf h
 go_enter Tryz.func106, Tryz.ntmps106
 go_wp2_with fail
 refine hc.out.mono ?_
 rintro e w1 ⟨rfl, hx1⟩
 go_wp2
 go_ret
 rw [R.out]
 exact ⟨rfl, hx1⟩

theorem ranged_calls (va : Value) (l : List (Int × Int)) (w : World) (h : Spans w va l) :
  Calls Tryz.prog 82 #[va] w fun e w' => e = .returned (.bool (rangedB l)) ∧ Ext w w' := by
 have hc := Lib.hid (containsFunc_span_calls va l 107 (fun _ _ => by kernel_rfl) (fun s => farB s.1 || farB s.2) w h (fun s _ W _ => ranged1_calls s W))
 have R : Hid ((!l.any fun s => farB s.1 || farB s.2) = rangedB l) := by show _ = _; rw [rangedB, List.not_any_eq_all_not]
 clear h
 go_enter Tryz.func82, Tryz.ntmps82
 go_wp2_with fail
 refine hc.out.mono ?_
 rintro e w1 ⟨rfl, hx1⟩
 go_wp2
 go_ret
 rw [R.out]
 exact ⟨rfl, hx1⟩


def prevTo (l : List (Int × Int)) (i : Nat) : Option Int := if i = 0 then none else l[i - 1]?.map (·.2)
theorem prevTo_zero (l : List (Int × Int)) : prevTo l 0 = none := rfl
theorem prevTo_succ {l : List (Int × Int)} {i : Nat} {x y : Int} (h : l[i]? = some (x, y)) : prevTo l (i + 1) = some y := by simp [prevTo, h]
theorem prevTo_pos {l : List (Int × Int)} {i : Nat} {x y : Int} (h : 0 < i) (hl : l[i - 1]? = some (x, y)) : prevTo l i = some y := by
 simp only [prevTo]; rw [if_neg (by omega), hl]; rfl
theorem chainB_first {l : List (Int × Int)} {i : Nat} {x y : Int} (d : l.drop i = (x, y) :: l.drop (i + 1)) (h : y ≤ x) (p : Option Int) : chainB p (l.drop i) = false := by
 rw [d]; cases p <;> (simp [chainB]; intro h'; omega)
theorem chainB_step0 {l : List (Int × Int)} {i : Nat} {x y : Int} (d : l.drop i = (x, y) :: l.drop (i + 1)) (h : x < y) : chainB none (l.drop i) = chainB (some y) (l.drop (i + 1)) := by
 rw [d, chainB]; simp [h]
theorem chainB_step {l : List (Int × Int)} {i : Nat} {x y e : Int} (d : l.drop i = (x, y) :: l.drop (i + 1)) (h : x < y) (he : e < x) : chainB (some e) (l.drop i) = chainB (some y) (l.drop (i + 1)) := by
 rw [d, chainB]; simp [h, he]
theorem chainB_near {l : List (Int × Int)} {i : Nat} {x y e : Int} (d : l.drop i = (x, y) :: l.drop (i + 1)) (he : x ≤ e) : chainB (some e) (l.drop i) = false := by
 rw [d, chainB]; simp; intro _ h'; omega

set_option maxHeartbeats 800000 in
theorem spanValid_calls (va : Value) (l : List (Int × Int)) (w : World) (h : Spans w va l) :
  Calls Tryz.prog 86 #[va] w fun e w' => e = .returned (.bool (normalB l)) ∧ Ext w w' := by
 have h' := Lib.hid h
 obtain ⟨a, c, rfl, hn, hc, hat⟩ := h.open
 clear h
 go_enter Tryz.func86, Tryz.ntmps86
 go_wp2_with fail
 go_loopw [7] (fun vi wr => ∃ i : Nat, i ≤ l.length ∧ vi = .int .i64 i ∧ Ext w wr ∧ Hid (chainB none l = chainB (prevTo l i) (l.drop i))) (fun vi _ => l.length - (intOf vi).toNat)
 case atStart => exact ⟨0, by omega, rfl, Ext.refl _, rfl⟩
 case round =>
  obtain ⟨i, hi, rfl, hx, hF⟩ := hrel
  by_cases h1 : i < l.length
  ·obtain ⟨b1, o1, x, y, rfl, hb1, dx, ex, g1, g2⟩ := hat i h1 wr hx
   by_cases h2 : y ≤ x
   ·have R : Hid (normalB l = false) := by show _ = _; rw [normalB, hF.out, chainB_first dx.out h2]; rfl
    clear hF
    go_wp2_with fail
    go_quiet (fail)
    go_wp2
    go_ret
    rw [R.out]
    exact ⟨rfl, (hx.alloc _).drewN _⟩
   ·have hd2 : decide (y ≤ x) = false := by simpa using h2
    by_cases h3 : i = 0
    ·have R : Hid (chainB none l = chainB (prevTo l (i + 1)) (l.drop (i + 1))) := by
      show _ = _
      rw [hF.out, prevTo_succ ex.out, h3, prevTo_zero, chainB_step0 (by have := dx.out; rwa [h3] at this) (by omega)]
     have hd3 : decide (0 < i) = false := by simp; omega
     clear hF h3
     go_wp2_with fail
     go_quiet (fail)
     go_wp2
     go_roundw
     case rel => exact ⟨i + 1, by omega, by go_num, (hx.alloc _).drewN _, R⟩
     case measure => simp [intOf]; omega
    ·obtain ⟨b2, o2, x0, y0, e2, hb2, dx0, ex0, g3, g4⟩ := hat (i - 1) (by omega) wr hx
     cases e2
     have hp := prevTo_pos (by omega) ex0.out
     have hp' := Lib.hid hp
     clear hp g3 hb2 dx0 ex0
     have hd3 : decide (0 < i) = true := by simp; omega
     have hi1 : 1 ≤ i := by omega
     have hi2 : (1 : Int) ≤ (i : Int) := by omega
     have hi3 : (i : Int) - 1 < (l.length : Int) := by omega
     by_cases h4 : x ≤ y0
     ·have R : Hid (normalB l = false) := by show _ = _; rw [normalB, hF.out, hp'.out, chainB_near dx.out h4]; rfl
      have hd4 : decide (x ≤ y0) = true := by simpa using h4
      clear hF h3
      go_wp2_with fail
      go_quiet (fail)
      go_wp2
      go_ret
      rw [R.out]
      exact ⟨rfl, (hx.alloc _).drewN _⟩
     ·have hd4 : decide (x ≤ y0) = false := by simpa using h4
      have R : Hid (chainB none l = chainB (prevTo l (i + 1)) (l.drop (i + 1))) := by
       show _ = _
       rw [hF.out, prevTo_succ ex.out, hp'.out, chainB_step dx.out (by omega) (by omega)]
      clear hF h3
      go_wp2_with fail
      go_quiet (fail)
      go_wp2
      go_roundw
      case rel => exact ⟨i + 1, by omega, by go_num, (hx.alloc _).drewN _, R⟩
      case measure => simp [intOf]; omega
  ·have hcall := Lib.hid (ranged_calls _ l wr (h'.out.ext hx))
   have R : Hid (rangedB l = normalB l) := by
    show _ = _
    rw [normalB, hF.out, List.drop_of_length_le (by omega), chainB]; rfl
   clear hF
   go_wp2_with fail
   refine hcall.out.mono ?_
   rintro e w1 ⟨rfl, hx1⟩
   go_wp2
   go_ret
   rw [R.out]
   exact ⟨rfl, hx.trans hx1⟩

end Go.Proofs.YtepcdhpikpmepaaGreat
