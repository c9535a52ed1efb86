/- The base of these proofs: what a call may do to memory ('Ext'), a world behind such a call ('After'), slices that read as rows of cells ('Sl'). -/
import Derived.Test.YtonmlmkemliefaaChecked
import Derived.WalkKit
import Derived.Handy
import Derived.Deep.QuietTactic
import Derived.BigQuiet
import Derived.WalkSpells
import Derived.WalkLawsBesides
import Derived.Deep.LoopGhost
import Derived.Lib.Hide
namespace Go.Proofs.Ytonmlmkemliefaa
open Go.RowKit

/-- Nothing that was there has turned; there may be more. -/
def Ext (w w' : World) : Prop := Below w.heap.size w w'

theorem Ext.refl (w : World) : Ext w w := Below.refl _ _
theorem Ext.trans {a b c : World} (h : Ext a b) (k : Ext b c) : Ext a c := Below.trans h (Below.mono k (Below.size h))
theorem Ext.alloc {a w : World} (h : Ext a w) (o : Obj) : Ext a (w.alloc o) := Below.alloc h (Below.size h) o
theorem Ext.drew {a w : World} (h : Ext a w) : Ext a w.drew := Below.drew h
theorem Ext.drewN {a w : World} (h : Ext a w) (n : Nat) : Ext a (w.drewN n) := by
  have h' : Below a.heap.size a w := h
  exact ⟨h'.os, h'.tape, h'.output, h'.size, h'.block⟩
theorem Ext.setCell {a w : World} (h : Ext a w) {p : Addr} (hp : a.heap.size ≤ p.block) (u : Value) : Ext a (w.setCell p u) := Below.setCell h hp u
theorem Ext.size {a w : World} (h : Ext a w) : a.heap.size ≤ w.heap.size := Below.size h
theorem Ext.heap {a w : World} (h : Ext a w) {k : Nat} (hk : k < a.heap.size) : w.heap[k]? = a.heap[k]? := Below.block h k hk
theorem Ext.cell {a w : World} (h : Ext a w) {p : Addr} {v : Value} (hp : a.cell? p = some v) : w.cell? p = some v :=
  (Below.cell h (World.block_lt_of_cell? _ _ hp)).trans hp
theorem Ext.grown {a w w' : World} {row : Option Nat} (h : Ext a w) (hg : w.grownBy w' row) (hr : ∀ k, row = some k → a.heap.size ≤ k) : Ext a w' :=
  Below.grown h hg (Below.size h) hr

/-- A world behind w. -/
structure After (w : World) where
  world : World
  ext : Ext w world

instance After.inst (w : World) : Nonempty (After w) := ⟨⟨w, Ext.refl w⟩⟩
/-- A cell in every world behind w. -/
theorem After.cell {w : World} {p : Addr} {v : Value} (h : w.cell? p = some v) (y : After w) : y.world.cell? p = some v := y.ext.cell h

/-- A callee that hands back one value whatever the world behind w. -/
theorem After.call {w : World} {P : Program} {f : FuncId} {args : Array Value} {v : Value} (x : After w)
    (h : Calls P f args x.world fun e w' => e = .returned v ∧ Ext x.world w') : Calls P f args x.world fun e w'' => e = .returned v ∧ ∃ y : After w, w'' = y.world :=
  h.mono fun _ w'' ⟨he, hx⟩ => ⟨he, ⟨w'', x.ext.trans hx⟩, rfl⟩

/-- A region that draws its order, whose operations read or call: walked once, in the order of the text, in any world behind w. -/
theorem wp_region_after {P : Program} {id : Nat} {Q : Exit → Act → World → Prop} {a : Act} {w : World} {l : List Oper} (hm : P.follows .mixedOrders = true) (hB : Region.lexB .any l.toArray = true)
    (h : wpQuiet P l.toArray (fun W => ∃ x : After w, W = x.world) (fun a' => ∀ W, (∃ x : After w, W = x.world) → Q .normal a' W) l a) : (Code.region id l.toArray true).wp P Q a w :=
  wp_region_quiet (C := fun W => ∃ x : After w, W = x.world) hm hB ⟨⟨w.drew, (Ext.refl w).drew⟩, rfl⟩ (by simpa using h)

/-- The same for a region that draws nothing. -/
theorem wpList_of_quiet {P : Program} {ops : Array Oper} {C : World → Prop} {Q : Exit → Act → World → Prop} : ∀ {l : List Oper} {a : Act} {w : World}, C w →
    wpQuiet P ops C (fun a' => ∀ W, C W → Q .normal a' W) l a → wpList P ops Q l a w
  | [], _, _, hw, h => h _ hw
  | o :: l, a, w, hw, h => by
    unfold wpQuiet at h
    unfold wpList
    split
    · rename_i hwd
      rw [if_pos hwd] at h
      exact .inl (Oper.wp_of_quiet hw (fun a' W hW hq => wpList_of_quiet hW hq) h)
    · rename_i hwd
      rw [if_neg hwd] at h
      exact wpList_of_quiet hw h
theorem wp_region_after0 {P : Program} {id : Nat} {Q : Exit → Act → World → Prop} {a : Act} {w : World} {l : List Oper}
    (h : wpQuiet P l.toArray (fun W => ∃ x : After w, W = x.world) (fun a' => ∀ W, (∃ x : After w, W = x.world) → Q .normal a' W) l a) : (Code.region id l.toArray false).wp P Q a w :=
  wp_region_lit (wpList_of_quiet (C := fun W => ∃ x : After w, W = x.world) ⟨⟨w, Ext.refl w⟩, rfl⟩ h)

/-- The world behind a name. -/
theorem wp_abs {P : Program} {c : Code} {Q : Exit → Act → World → Prop} {a : Act} {w : World} (S : World → Prop) (hS : S w) (h : ∀ W, S W → c.wp P Q a W) : c.wp P Q a w := h w hS
theorem wpList_abs {P : Program} {ops : Array Oper} {l : List Oper} {Q : Exit → Act → World → Prop} {a : Act} {w : World} (S : World → Prop) (hS : S w) (h : ∀ W, S W → wpList P ops Q l a W) : wpList P ops Q l a w := h w hS
theorem calls_abs {P : Program} {f : FuncId} {args : Array Value} {R : Ending → World → Prop} {w : World} (S : World → Prop) (hS : S w) (h : ∀ W, S W → Calls P f args W R) : Calls P f args w R := h w hS

/-- n elements of k cells each, that hold F i j. -/
def Sl (w : World) (k : Nat) (v : Value) (n : Nat) (F : Nat → Nat → Value) : Prop :=
  ∃ a c, v = .slice a n c ∧ n ≤ c ∧ c ≤ maxLen ∧ (0 < n → ∃ b off, a = some ⟨b, off, none⟩ ∧ b < w.heap.size ∧ ∀ i, i < n → ∀ j, j < k → w.cell? ⟨b, off + i * k + j, none⟩ = some (F i j))

theorem Sl.ext {w w' : World} {k : Nat} {v : Value} {n : Nat} {F : Nat → Nat → Value} (h : Sl w k v n F) (e : Ext w w') : Sl w' k v n F := by
  obtain ⟨a, c, hv, hn, hc, h⟩ := h
  refine ⟨a, c, hv, hn, hc, fun h0 => ?_⟩
  obtain ⟨b, off, ha, hb, h⟩ := h h0
  exact ⟨b, off, ha, Nat.lt_of_lt_of_le hb e.size, fun i hi j hj => e.cell (h i hi j hj)⟩

/-- What a loop needs of such a slice: element i, in any later world. -/
def SlAt (a : Option Addr) (w : World) (k n : Nat) (F : Nat → Nat → Value) : Prop :=
  ∀ i, i < n → ∃ b off, a = some ⟨b, off, none⟩ ∧ b < w.heap.size ∧ ∀ W, Ext w W → ∀ j, j < k → W.cell? ⟨b, off + i * k + j, none⟩ = some (F i j)

theorem Sl.open {w : World} {k : Nat} {v : Value} {n : Nat} {F : Nat → Nat → Value} (h : Sl w k v n F) :
    ∃ a c, v = .slice a n c ∧ n ≤ c ∧ c ≤ 9223372036854775807 ∧ SlAt a w k n F := by
  obtain ⟨a, c, hv, hn, hc, h⟩ := h
  refine ⟨a, c, hv, hn, by unfold maxLen at hc; exact hc, fun i hi => ?_⟩
  obtain ⟨b, off, ha, hb, h⟩ := h (by omega)
  exact ⟨b, off, ha, hb, fun W e j hj => e.cell (h i hi j hj)⟩

theorem drop_cons {α : Type} (l : List α) (i : Nat) (h : i < l.length) : ∃ x, l.drop i = x :: l.drop (i + 1) ∧ l[i]? = some x :=
  ⟨l[i], List.drop_eq_getElem_cons h, by simp [h]⟩

/-! ### integers -/
/-- A slice of integers that reads as l. -/
def Ints (w : World) (v : Value) (l : List Int) : Prop := Sl w 1 v l.length fun i _ => .int .i64 (l[i]?.getD 0)
theorem Ints.ext {w w' : World} {v : Value} {l : List Int} (h : Ints w v l) (e : Ext w w') : Ints w' v l := Sl.ext h e
/-- Element i. -/
def IntsAt (a : Option Addr) (w : World) (l : List Int) : Prop :=
  ∀ i, i < l.length → ∀ W, Ext w W → ∃ b off x, a = some ⟨b, off, none⟩ ∧ b < W.heap.size ∧ Hid (l.drop i = x :: l.drop (i + 1)) ∧ Hid (l[i]? = some x) ∧ W.cell? ⟨b, off + i, none⟩ = some (.int .i64 x)
theorem Ints.open {w : World} {v : Value} {l : List Int} (h : Ints w v l) :
    ∃ a c, v = .slice a l.length c ∧ l.length ≤ c ∧ c ≤ 9223372036854775807 ∧ IntsAt a w l := by
  obtain ⟨a, c, hv, hn, hc, h⟩ := Sl.open h
  refine ⟨a, c, hv, hn, hc, fun i hi W e => ?_⟩
  obtain ⟨b, off, ha, hb, h⟩ := h i hi
  obtain ⟨x, d, ex⟩ := drop_cons l i hi
  refine ⟨b, off, x, ha, Nat.lt_of_lt_of_le hb e.size, d, ex, ?_⟩
  have := h W e 0 (by omega)
  simpa [ex] using this

/-! ### the data -/
structure OptD where
  harm : Int
  room : Int
  spans : List (Int × Int)
  deriving DecidableEq, Inhabited
structure WishD where
  meeting : Int
  people : List Int
  opts : List OptD
  deriving DecidableEq, Inhabited
structure NodeD where
  wish : Int
  kids : List Int
  clA : Int
  clB : Int
  deriving DecidableEq, Inhabited

def Spans (w : World) (v : Value) (l : List (Int × Int)) : Prop := Sl w 2 v l.length fun i j => .int .i64 (if j = 0 then (l[i]?.getD default).1 else (l[i]?.getD default).2)
theorem Spans.ext {w w' : World} {v : Value} {l : List (Int × Int)} (h : Spans w v l) (e : Ext w w') : Spans w' v l := Sl.ext h e
def SpansAt (a : Option Addr) (w : World) (l : List (Int × Int)) : Prop :=
  ∀ i, i < l.length → ∀ W, Ext w W → ∃ b off x y, a = some ⟨b, off, none⟩ ∧ b < W.heap.size ∧ Hid (l.drop i = (x, y) :: l.drop (i + 1)) ∧ Hid (l[i]? = some (x, y)) ∧
    W.cell? ⟨b, off + i * 2, none⟩ = some (.int .i64 x) ∧ W.cell? ⟨b, off + i * 2 + 1, none⟩ = some (.int .i64 y)
theorem Spans.open {w : World} {v : Value} {l : List (Int × Int)} (h : Spans w v l) :
    ∃ a c, v = .slice a l.length c ∧ l.length ≤ c ∧ c ≤ 9223372036854775807 ∧ SpansAt a w l := by
  obtain ⟨a, c, hv, hn, hc, h⟩ := Sl.open h
  refine ⟨a, c, hv, hn, hc, fun i hi W e => ?_⟩
  obtain ⟨b, off, ha, hb, h⟩ := h i hi
  obtain ⟨⟨x, y⟩, d, ex⟩ := drop_cons l i hi
  refine ⟨b, off, x, y, ha, Nat.lt_of_lt_of_le hb e.size, d, ex, ?_, ?_⟩
  · have := h W e 0 (by omega)
    simpa [ex] using this
  · have := h W e 1 (by omega)
    simpa [ex] using this

def Opts (w : World) (v : Value) (l : List OptD) : Prop :=
  ∃ S : Nat → Value, Sl w 3 v l.length (fun i j => if j = 0 then .int .i64 (l[i]?.getD default).harm else if j = 1 then .int .i64 (l[i]?.getD default).room else S i) ∧
    ∀ i, i < l.length → Spans w (S i) (l[i]?.getD default).spans
theorem Opts.ext {w w' : World} {v : Value} {l : List OptD} (h : Opts w v l) (e : Ext w w') : Opts w' v l :=
  let ⟨S, h1, h2⟩ := h
  ⟨S, Sl.ext h1 e, fun i hi => (h2 i hi).ext e⟩
/-- An option by value. -/
def OptV (w : World) (v : Value) (o : OptD) : Prop := ∃ sv, v = .agg #[.int .i64 o.harm, .int .i64 o.room, sv] ∧ Spans w sv o.spans
theorem OptV.ext {w w' : World} {v : Value} {o : OptD} (h : OptV w v o) (e : Ext w w') : OptV w' v o :=
  let ⟨s, h1, h2⟩ := h
  ⟨s, h1, h2.ext e⟩
def OptsAt (a : Option Addr) (w : World) (l : List OptD) : Prop :=
  ∀ i, i < l.length → ∀ W, Ext w W → ∃ b off o sa sc, a = some ⟨b, off, none⟩ ∧ b < W.heap.size ∧ Hid (l.drop i = o :: l.drop (i + 1)) ∧ Hid (l[i]? = some o) ∧
    W.cell? ⟨b, off + i * 3, none⟩ = some (.int .i64 o.harm) ∧ W.cell? ⟨b, off + i * 3 + 1, none⟩ = some (.int .i64 o.room) ∧ W.cell? ⟨b, off + i * 3 + 2, none⟩ = some (.slice sa o.spans.length sc) ∧
    Spans W (.slice sa o.spans.length sc) o.spans
theorem Opts.open {w : World} {v : Value} {l : List OptD} (h : Opts w v l) :
    ∃ a c, v = .slice a l.length c ∧ l.length ≤ c ∧ c ≤ 9223372036854775807 ∧ OptsAt a w l := by
  obtain ⟨S, h1, h2⟩ := h
  obtain ⟨a, c, hv, hn, hc, h⟩ := Sl.open h1
  refine ⟨a, c, hv, hn, hc, fun i hi W e => ?_⟩
  obtain ⟨b, off, ha, hb, h⟩ := h i hi
  obtain ⟨o, d, ex⟩ := drop_cons l i hi
  have hs := (h2 i hi).ext e
  simp only [ex, Option.getD_some] at hs
  obtain ⟨sa, sc, hS, _⟩ := Spans.open hs
  refine ⟨b, off, o, sa, sc, ha, Nat.lt_of_lt_of_le hb e.size, d, ex, ?_, ?_, ?_, by rw [← hS]; exact hs⟩
  · have := h W e 0 (by omega)
    simpa [ex] using this
  · have := h W e 1 (by omega)
    simpa [ex] using this
  · have := h W e 2 (by omega)
    rw [← hS]
    simpa [ex] using this

def Wishes (w : World) (v : Value) (l : List WishD) : Prop :=
  ∃ Pp O : Nat → Value, Sl w 3 v l.length (fun i j => if j = 0 then .int .i64 (l[i]?.getD default).meeting else if j = 1 then Pp i else O i) ∧
    ∀ i, i < l.length → Ints w (Pp i) (l[i]?.getD default).people ∧ Opts w (O i) (l[i]?.getD default).opts
theorem Wishes.ext {w w' : World} {v : Value} {l : List WishD} (h : Wishes w v l) (e : Ext w w') : Wishes w' v l :=
  let ⟨S, T, h1, h2⟩ := h
  ⟨S, T, Sl.ext h1 e, fun i hi => ⟨(h2 i hi).1.ext e, (h2 i hi).2.ext e⟩⟩
/-- A wish by value. -/
def WishV (w : World) (v : Value) (x : WishD) : Prop := ∃ pv ov, v = .agg #[.int .i64 x.meeting, pv, ov] ∧ Ints w pv x.people ∧ Opts w ov x.opts
theorem WishV.ext {w w' : World} {v : Value} {x : WishD} (h : WishV w v x) (e : Ext w w') : WishV w' v x :=
  let ⟨s, t, h1, h2, h3⟩ := h
  ⟨s, t, h1, h2.ext e, h3.ext e⟩
def WishesAt (a : Option Addr) (w : World) (l : List WishD) : Prop :=
  ∀ i, i < l.length → ∀ W, Ext w W → ∃ b off x pa pc oa oc, a = some ⟨b, off, none⟩ ∧ b < W.heap.size ∧ Hid (l.drop i = x :: l.drop (i + 1)) ∧ Hid (l[i]? = some x) ∧
    W.cell? ⟨b, off + i * 3, none⟩ = some (.int .i64 x.meeting) ∧ W.cell? ⟨b, off + i * 3 + 1, none⟩ = some (.slice pa x.people.length pc) ∧ W.cell? ⟨b, off + i * 3 + 2, none⟩ = some (.slice oa x.opts.length oc) ∧
    Ints W (.slice pa x.people.length pc) x.people ∧ Opts W (.slice oa x.opts.length oc) x.opts
theorem Wishes.open {w : World} {v : Value} {l : List WishD} (h : Wishes w v l) :
    ∃ a c, v = .slice a l.length c ∧ l.length ≤ c ∧ c ≤ 9223372036854775807 ∧ WishesAt a w l := by
  obtain ⟨Pp, O, h1, h2⟩ := h
  obtain ⟨a, c, hv, hn, hc, h⟩ := Sl.open h1
  refine ⟨a, c, hv, hn, hc, fun i hi W e => ?_⟩
  obtain ⟨b, off, ha, hb, h⟩ := h i hi
  obtain ⟨x, d, ex⟩ := drop_cons l i hi
  have hp := (h2 i hi).1.ext e
  have ho := (h2 i hi).2.ext e
  simp only [ex, Option.getD_some] at hp ho
  obtain ⟨pa, pc, hP, _⟩ := Ints.open hp
  obtain ⟨oa, oc, hO, _⟩ := Opts.open ho
  refine ⟨b, off, x, pa, pc, oa, oc, ha, Nat.lt_of_lt_of_le hb e.size, d, ex, ?_, ?_, ?_, by rw [← hP]; exact hp, by rw [← hO]; exact ho⟩
  · have := h W e 0 (by omega)
    simpa [ex] using this
  · have := h W e 1 (by omega)
    rw [← hP]
    simpa [ex] using this
  · have := h W e 2 (by omega)
    rw [← hO]
    simpa [ex] using this

def Nodes (w : World) (v : Value) (l : List NodeD) : Prop :=
  ∃ K : Nat → Value, Sl w 4 v l.length (fun i j => if j = 0 then .int .i64 (l[i]?.getD default).wish else if j = 1 then K i else if j = 2 then .int .i64 (l[i]?.getD default).clA else .int .i64 (l[i]?.getD default).clB) ∧
    ∀ i, i < l.length → Ints w (K i) (l[i]?.getD default).kids
theorem Nodes.ext {w w' : World} {v : Value} {l : List NodeD} (h : Nodes w v l) (e : Ext w w') : Nodes w' v l :=
  let ⟨S, h1, h2⟩ := h
  ⟨S, Sl.ext h1 e, fun i hi => (h2 i hi).ext e⟩
def NodesAt (a : Option Addr) (w : World) (l : List NodeD) : Prop :=
  ∀ i, i < l.length → ∀ W, Ext w W → ∃ b off x ka kc, a = some ⟨b, off, none⟩ ∧ b < W.heap.size ∧ Hid (l.drop i = x :: l.drop (i + 1)) ∧ Hid (l[i]? = some x) ∧
    W.cell? ⟨b, off + i * 4, none⟩ = some (.int .i64 x.wish) ∧ W.cell? ⟨b, off + i * 4 + 1, none⟩ = some (.slice ka x.kids.length kc) ∧
    W.cell? ⟨b, off + i * 4 + 2, none⟩ = some (.int .i64 x.clA) ∧ W.cell? ⟨b, off + i * 4 + 3, none⟩ = some (.int .i64 x.clB) ∧ Ints W (.slice ka x.kids.length kc) x.kids
theorem Nodes.open {w : World} {v : Value} {l : List NodeD} (h : Nodes w v l) :
    ∃ a c, v = .slice a l.length c ∧ l.length ≤ c ∧ c ≤ 9223372036854775807 ∧ NodesAt a w l := by
  obtain ⟨K, h1, h2⟩ := h
  obtain ⟨a, c, hv, hn, hc, h⟩ := Sl.open h1
  refine ⟨a, c, hv, hn, hc, fun i hi W e => ?_⟩
  obtain ⟨b, off, ha, hb, h⟩ := h i hi
  obtain ⟨x, d, ex⟩ := drop_cons l i hi
  have hk := (h2 i hi).ext e
  simp only [ex, Option.getD_some] at hk
  obtain ⟨ka, kc, hK, _⟩ := Ints.open hk
  refine ⟨b, off, x, ka, kc, ha, Nat.lt_of_lt_of_le hb e.size, d, ex, ?_, ?_, ?_, ?_, by rw [← hK]; exact hk⟩
  · have := h W e 0 (by omega)
    simpa [ex] using this
  · have := h W e 1 (by omega)
    rw [← hK]
    simpa [ex] using this
  · have := h W e 2 (by omega)
    simpa [ex] using this
  · have := h W e 3 (by omega)
    simpa [ex] using this


theorem Ints.form {w : World} {v : Value} {l : List Int} (h : Ints w v l) : ∃ a c, v = .slice a l.length c := let ⟨a, c, hv, _⟩ := h; ⟨a, c, hv⟩
theorem Spans.form {w : World} {v : Value} {l : List (Int × Int)} (h : Spans w v l) : ∃ a c, v = .slice a l.length c := let ⟨a, c, hv, _⟩ := h; ⟨a, c, hv⟩
theorem Opts.form {w : World} {v : Value} {l : List OptD} (h : Opts w v l) : ∃ a c, v = .slice a l.length c := let ⟨_, ⟨a, c, hv, _⟩, _⟩ := h; ⟨a, c, hv⟩
theorem Wishes.form {w : World} {v : Value} {l : List WishD} (h : Wishes w v l) : ∃ a c, v = .slice a l.length c := let ⟨_, _, ⟨a, c, hv, _⟩, _⟩ := h; ⟨a, c, hv⟩
theorem Nodes.form {w : World} {v : Value} {l : List NodeD} (h : Nodes w v l) : ∃ a c, v = .slice a l.length c := let ⟨_, ⟨a, c, hv, _⟩, _⟩ := h; ⟨a, c, hv⟩
theorem Ints.len {w : World} {v : Value} {l : List Int} (h : Ints w v l) : l.length ≤ 9223372036854775807 := let ⟨_, _, _, h1, h2, _⟩ := Ints.open h; Nat.le_trans h1 h2
theorem Spans.len {w : World} {v : Value} {l : List (Int × Int)} (h : Spans w v l) : l.length ≤ 9223372036854775807 := let ⟨_, _, _, h1, h2, _⟩ := Spans.open h; Nat.le_trans h1 h2
theorem Opts.len {w : World} {v : Value} {l : List OptD} (h : Opts w v l) : l.length ≤ 9223372036854775807 := let ⟨_, _, _, h1, h2, _⟩ := Opts.open h; Nat.le_trans h1 h2
theorem Wishes.len {w : World} {v : Value} {l : List WishD} (h : Wishes w v l) : l.length ≤ 9223372036854775807 := let ⟨_, _, _, h1, h2, _⟩ := Wishes.open h; Nat.le_trans h1 h2
theorem Nodes.len {w : World} {v : Value} {l : List NodeD} (h : Nodes w v l) : l.length ≤ 9223372036854775807 := let ⟨_, _, _, h1, h2, _⟩ := Nodes.open h; Nat.le_trans h1 h2

end Go.Proofs.Ytonmlmkemliefaa
