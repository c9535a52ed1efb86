/- The base for a seat without package plan: what a call may do to memory, readings of integers and spans, the words for memory that is written. -/
import Derived.Test.YtcmcojmhlgknoaaChecked
import Derived.WalkKit
import Derived.Handy
import Derived.Deep.QuietTactic
import Derived.BigQuiet
import Derived.WalkSpells
import Derived.WalkLawsBesides
import Derived.Deep.LoopGhost
import Derived.Lib.Hide
import Derived.Below
import Derived.Laws.OwnMore
import Derived.Deep.AppendLies
import Derived.Deep.Draws
import Derived.Laws.Rows
import Derived.Maps.AppendAt
import Derived.RegionTactic
import Derived.OwnWalk
import Derived.Deep.RegionLaw
import Derived.StillTail
import Derived.Laws.MakeOwn
import Derived.Defers
import Derived.Recover
namespace Go.Proofs.Ytcmcojmhlgknoaa
open Go.RowKit

/-- Nothing that was there has turned; there may be more. -/
def Ext (w w' : World) : Prop := Below w.heap.size w w'

theorem Ext.refl (w : World) : Ext w w := Below.refl _ _
theorem Ext.trans {a b c : World} (h : Ext a b) (k : Ext b c) : Ext a c := Below.trans h (Below.mono k (Below.size h))
theorem Ext.alloc {a w : World} (h : Ext a w) (o : Obj) : Ext a (w.alloc o) := Below.alloc h (Below.size h) o
theorem Ext.drew {a w : World} (h : Ext a w) : Ext a w.drew := Below.drew h
theorem Ext.drewN {a w : World} (h : Ext a w) (n : Nat) : Ext a (w.drewN n) := by
  have h' : Below a.heap.size a w := h
  exact ⟨h'.os, h'.tape, h'.output, h'.size, h'.block⟩
theorem Ext.setCell {a w : World} (h : Ext a w) {p : Addr} (hp : a.heap.size ≤ p.block) (u : Value) : Ext a (w.setCell p u) := Below.setCell h hp u
theorem Ext.size {a w : World} (h : Ext a w) : a.heap.size ≤ w.heap.size := Below.size h
theorem Ext.heap {a w : World} (h : Ext a w) {k : Nat} (hk : k < a.heap.size) : w.heap[k]? = a.heap[k]? := Below.block h k hk
theorem Ext.cell {a w : World} (h : Ext a w) {p : Addr} {v : Value} (hp : a.cell? p = some v) : w.cell? p = some v :=
  (Below.cell h (World.block_lt_of_cell? _ _ hp)).trans hp
theorem Ext.grown {a w w' : World} {row : Option Nat} (h : Ext a w) (hg : w.grownBy w' row) (hr : ∀ k, row = some k → a.heap.size ≤ k) : Ext a w' :=
  Below.grown h hg (Below.size h) hr

/-- A world behind w. -/
structure After (w : World) where
  world : World
  ext : Ext w world

instance After.inst (w : World) : Nonempty (After w) := ⟨⟨w, Ext.refl w⟩⟩
/-- A cell in every world behind w. -/
theorem After.cell {w : World} {p : Addr} {v : Value} (h : w.cell? p = some v) (y : After w) : y.world.cell? p = some v := y.ext.cell h

/-- A callee that hands back one value whatever the world behind w. -/
theorem After.call {w : World} {P : Program} {f : FuncId} {args : Array Value} {v : Value} (x : After w)
    (h : Calls P f args x.world fun e w' => e = .returned v ∧ Ext x.world w') : Calls P f args x.world fun e w'' => e = .returned v ∧ ∃ y : After w, w'' = y.world :=
  h.mono fun _ w'' ⟨he, hx⟩ => ⟨he, ⟨w'', x.ext.trans hx⟩, rfl⟩

/-- A region that draws its order, whose operations read or call: walked once, in the order of the text, in any world behind w. -/
theorem wp_region_after {P : Program} {id : Nat} {Q : Exit → Act → World → Prop} {a : Act} {w : World} {l : List Oper} (hm : P.follows .mixedOrders = true) (hB : Region.lexB .any l.toArray = true)
    (h : wpQuiet P l.toArray (fun W => ∃ x : After w, W = x.world) (fun a' => ∀ W, (∃ x : After w, W = x.world) → Q .normal a' W) l a) : (Code.region id l.toArray true).wp P Q a w :=
  wp_region_quiet (C := fun W => ∃ x : After w, W = x.world) hm hB ⟨⟨w.drew, (Ext.refl w).drew⟩, rfl⟩ (by simpa using h)

/-- The same for a region that draws nothing. -/
theorem wpList_of_quiet {P : Program} {ops : Array Oper} {C : World → Prop} {Q : Exit → Act → World → Prop} : ∀ {l : List Oper} {a : Act} {w : World}, C w →
    wpQuiet P ops C (fun a' => ∀ W, C W → Q .normal a' W) l a → wpList P ops Q l a w
  | [], _, _, hw, h => h _ hw
  | o :: l, a, w, hw, h => by
    unfold wpQuiet at h
    unfold wpList
    split
    · rename_i hwd
      rw [if_pos hwd] at h
      exact .inl (Oper.wp_of_quiet hw (fun a' W hW hq => wpList_of_quiet hW hq) h)
    · rename_i hwd
      rw [if_neg hwd] at h
      exact wpList_of_quiet hw h
theorem wp_region_after0 {P : Program} {id : Nat} {Q : Exit → Act → World → Prop} {a : Act} {w : World} {l : List Oper}
    (h : wpQuiet P l.toArray (fun W => ∃ x : After w, W = x.world) (fun a' => ∀ W, (∃ x : After w, W = x.world) → Q .normal a' W) l a) : (Code.region id l.toArray false).wp P Q a w :=
  wp_region_lit (wpList_of_quiet (C := fun W => ∃ x : After w, W = x.world) ⟨⟨w, Ext.refl w⟩, rfl⟩ h)

/-- The world behind a name. -/
theorem wp_abs {P : Program} {c : Code} {Q : Exit → Act → World → Prop} {a : Act} {w : World} (S : World → Prop) (hS : S w) (h : ∀ W, S W → c.wp P Q a W) : c.wp P Q a w := h w hS
theorem wpList_abs {P : Program} {ops : Array Oper} {l : List Oper} {Q : Exit → Act → World → Prop} {a : Act} {w : World} (S : World → Prop) (hS : S w) (h : ∀ W, S W → wpList P ops Q l a W) : wpList P ops Q l a w := h w hS
theorem calls_abs {P : Program} {f : FuncId} {args : Array Value} {R : Ending → World → Prop} {w : World} (S : World → Prop) (hS : S w) (h : ∀ W, S W → Calls P f args W R) : Calls P f args w R := h w hS

/-- n elements of k cells each, that hold F i j. -/
def Sl (w : World) (k : Nat) (v : Value) (n : Nat) (F : Nat → Nat → Value) : Prop :=
  ∃ a c, v = .slice a n c ∧ n ≤ c ∧ c ≤ maxLen ∧ (0 < n → ∃ b off, a = some ⟨b, off, none⟩ ∧ b < w.heap.size ∧ ∀ i, i < n → ∀ j, j < k → w.cell? ⟨b, off + i * k + j, none⟩ = some (F i j))

theorem Sl.ext {w w' : World} {k : Nat} {v : Value} {n : Nat} {F : Nat → Nat → Value} (h : Sl w k v n F) (e : Ext w w') : Sl w' k v n F := by
  obtain ⟨a, c, hv, hn, hc, h⟩ := h
  refine ⟨a, c, hv, hn, hc, fun h0 => ?_⟩
  obtain ⟨b, off, ha, hb, h⟩ := h h0
  exact ⟨b, off, ha, Nat.lt_of_lt_of_le hb e.size, fun i hi j hj => e.cell (h i hi j hj)⟩

/-- What a loop needs of such a slice: element i, in any later world. -/
def SlAt (a : Option Addr) (w : World) (k n : Nat) (F : Nat → Nat → Value) : Prop :=
  ∀ i, i < n → ∃ b off, a = some ⟨b, off, none⟩ ∧ b < w.heap.size ∧ ∀ W, Ext w W → ∀ j, j < k → W.cell? ⟨b, off + i * k + j, none⟩ = some (F i j)

theorem Sl.open {w : World} {k : Nat} {v : Value} {n : Nat} {F : Nat → Nat → Value} (h : Sl w k v n F) :
    ∃ a c, v = .slice a n c ∧ n ≤ c ∧ c ≤ 9223372036854775807 ∧ SlAt a w k n F := by
  obtain ⟨a, c, hv, hn, hc, h⟩ := h
  refine ⟨a, c, hv, hn, by unfold maxLen at hc; exact hc, fun i hi => ?_⟩
  obtain ⟨b, off, ha, hb, h⟩ := h (by omega)
  exact ⟨b, off, ha, hb, fun W e j hj => e.cell (h i hi j hj)⟩

theorem drop_cons {α : Type} (l : List α) (i : Nat) (h : i < l.length) : ∃ x, l.drop i = x :: l.drop (i + 1) ∧ l[i]? = some x :=
  ⟨l[i], List.drop_eq_getElem_cons h, by simp [h]⟩

/-- A slice of integers that reads as l. -/
def Ints (w : World) (v : Value) (l : List Int) : Prop := Sl w 1 v l.length fun i _ => .int .i64 (l[i]?.getD 0)
theorem Ints.ext {w w' : World} {v : Value} {l : List Int} (h : Ints w v l) (e : Ext w w') : Ints w' v l := Sl.ext h e
/-- Element i. -/
def IntsAt (a : Option Addr) (w : World) (l : List Int) : Prop :=
  ∀ i, i < l.length → ∀ W, Ext w W → ∃ b off x, a = some ⟨b, off, none⟩ ∧ b < W.heap.size ∧ Hid (l.drop i = x :: l.drop (i + 1)) ∧ Hid (l[i]? = some x) ∧ W.cell? ⟨b, off + i, none⟩ = some (.int .i64 x)
theorem Ints.open {w : World} {v : Value} {l : List Int} (h : Ints w v l) :
    ∃ a c, v = .slice a l.length c ∧ l.length ≤ c ∧ c ≤ 9223372036854775807 ∧ IntsAt a w l := by
  obtain ⟨a, c, hv, hn, hc, h⟩ := Sl.open h
  refine ⟨a, c, hv, hn, hc, fun i hi W e => ?_⟩
  obtain ⟨b, off, ha, hb, h⟩ := h i hi
  obtain ⟨x, d, ex⟩ := drop_cons l i hi
  refine ⟨b, off, x, ha, Nat.lt_of_lt_of_le hb e.size, d, ex, ?_⟩
  have := h W e 0 (by omega)
  simpa [ex] using this

def Spans (w : World) (v : Value) (l : List (Int × Int)) : Prop := Sl w 2 v l.length fun i j => .int .i64 (if j = 0 then (l[i]?.getD default).1 else (l[i]?.getD default).2)
theorem Spans.ext {w w' : World} {v : Value} {l : List (Int × Int)} (h : Spans w v l) (e : Ext w w') : Spans w' v l := Sl.ext h e
def SpansAt (a : Option Addr) (w : World) (l : List (Int × Int)) : Prop :=
  ∀ i, i < l.length → ∀ W, Ext w W → ∃ b off x y, a = some ⟨b, off, none⟩ ∧ b < W.heap.size ∧ Hid (l.drop i = (x, y) :: l.drop (i + 1)) ∧ Hid (l[i]? = some (x, y)) ∧
    W.cell? ⟨b, off + i * 2, none⟩ = some (.int .i64 x) ∧ W.cell? ⟨b, off + i * 2 + 1, none⟩ = some (.int .i64 y)
theorem Spans.open {w : World} {v : Value} {l : List (Int × Int)} (h : Spans w v l) :
    ∃ a c, v = .slice a l.length c ∧ l.length ≤ c ∧ c ≤ 9223372036854775807 ∧ SpansAt a w l := by
  obtain ⟨a, c, hv, hn, hc, h⟩ := Sl.open h
  refine ⟨a, c, hv, hn, hc, fun i hi W e => ?_⟩
  obtain ⟨b, off, ha, hb, h⟩ := h i hi
  obtain ⟨⟨x, y⟩, d, ex⟩ := drop_cons l i hi
  refine ⟨b, off, x, y, ha, Nat.lt_of_lt_of_le hb e.size, d, ex, ?_, ?_⟩
  · have := h W e 0 (by omega)
    simpa [ex] using this
  · have := h W e 1 (by omega)
    simpa [ex] using this

theorem Ints.form {w : World} {v : Value} {l : List Int} (h : Ints w v l) : ∃ a c, v = .slice a l.length c := let ⟨a, c, hv, _⟩ := h; ⟨a, c, hv⟩
theorem Spans.form {w : World} {v : Value} {l : List (Int × Int)} (h : Spans w v l) : ∃ a c, v = .slice a l.length c := let ⟨a, c, hv, _⟩ := h; ⟨a, c, hv⟩
theorem Ints.len {w : World} {v : Value} {l : List Int} (h : Ints w v l) : l.length ≤ 9223372036854775807 := let ⟨_, _, _, h1, h2, _⟩ := Ints.open h; Nat.le_trans h1 h2
theorem Spans.len {w : World} {v : Value} {l : List (Int × Int)} (h : Spans w v l) : l.length ≤ 9223372036854775807 := let ⟨_, _, _, h1, h2, _⟩ := Spans.open h; Nat.le_trans h1 h2
def farB (t : Int) : Bool := decide (t < -2251799813685248) || decide (2251799813685248 < t)
def rangedB (l : List (Int × Int)) : Bool := l.all fun s => !(farB s.1 || farB s.2)
/-- from < to, and behind the element before -/
def chainB : Option Int → List (Int × Int) → Bool
  | _, [] => true
  | p, s :: r => decide (s.1 < s.2) && (match p with | none => true | some e => decide (e < s.1)) && chainB (some s.2) r
def normalB (l : List (Int × Int)) : Bool := chainB none l && rangedB l

/-- the first element that has the property, or -1 -/
def findI {α : Type} (p : α → Bool) (l : List α) : Int := match l.findIdx? p with | some i => (i : Int) | none => -1
theorem findI_ge {α : Type} (p : α → Bool) (l : List α) : decide (0 ≤ findI p l) = l.any p := by
  unfold findI
  cases h : l.findIdx? p with
  | none => simp only [List.findIdx?_eq_none_iff] at h; simp; exact h
  | some i =>
    have := List.findIdx?_isSome (xs := l) (p := p)
    rw [h] at this
    simp at this
    simp; exact this
/-- a search that has come to place i -/
def FindAt {α : Type} (p : α → Bool) (l : List α) (i : Nat) : Prop := ∀ x ∈ l.take i, p x = false
theorem FindAt.zero {α : Type} (p : α → Bool) (l : List α) : FindAt p l 0 := by simp [FindAt]
theorem FindAt.hit {α : Type} {p : α → Bool} {l : List α} {i : Nat} {x : α} (h : FindAt p l i) (hx : l[i]? = some x) (hp : p x = true) : findI p l = i := by
  unfold findI
  have hi : i < l.length := (List.getElem?_eq_some_iff.1 hx).1
  have : l.findIdx? p = some i := by
    rw [List.findIdx?_eq_some_iff_getElem]
    refine ⟨hi, by rw [(List.getElem?_eq_some_iff.1 hx).2]; exact hp, fun j hj => ?_⟩
    have := h (l[j]'(by omega)) (by rw [List.mem_take_iff_getElem]; exact ⟨j, by omega, rfl⟩)
    simp [this]
  rw [this]
theorem FindAt.miss {α : Type} {p : α → Bool} {l : List α} {i : Nat} {x : α} (h : FindAt p l i) (hx : l[i]? = some x) (hp : p x = false) : FindAt p l (i + 1) := by
  intro y hy
  rw [List.take_add_one, hx] at hy
  rcases List.mem_append.1 hy with hy | hy
  · exact h y hy
  · simp at hy; subst hy; exact hp
theorem FindAt.none {α : Type} {p : α → Bool} {l : List α} {i : Nat} (h : FindAt p l i) (hi : l.length ≤ i) : findI p l = -1 := by
  unfold findI
  have : l.findIdx? p = Option.none := by
    rw [List.findIdx?_eq_none_iff]
    intro x hx
    exact h x (by rw [List.take_of_length_le hi]; exact hx)
  rw [this]


def idxB (i n : Int) : Bool := decide (0 ≤ i) && decide (i < n)

def meetB (a b : List (Int × Int)) : Bool := a.any fun x => b.any fun y => decide (x.1 < y.2) && decide (y.1 < x.2)
end Go.Proofs.Ytcmcojmhlgknoaa

namespace Go.Proofs.Ytcmcojmhlgknoaa
open Go.RowKit

theorem block_of_add (a : Addr) (n : Nat) : (a.add n).block = a.block := by unfold Addr.add; split <;> rfl
theorem add_of_add (a : Addr) (i j : Nat) : (a.add i).add j = a.add (i + j) := by
  unfold Addr.add
  by_cases hi : i = 0 <;> by_cases hj : j = 0 <;> simp [hi, hj, Nat.add_assoc]

def Reads (w : World) (B size : Nat) (A : Option Addr) (n : Nat) (xs : List Value) : Prop :=
  xs.length = n * size ∧ (0 < n → ∃ ad, A = some ad ∧ ad.block < B ∧ ∀ j u, xs[j]? = some u → w.cell? (ad.add j) = some u)

section
variable {w w' : World} {B B' size n : Nat} {A : Option Addr} {xs : List Value}
theorem Reads.none_ : Reads w B size A 0 [] := ⟨by simp, fun h => absurd h (by omega)⟩
theorem Reads.at_ {k : Nat} (h : Reads w B 1 A n xs) (hk : k < n) : ∃ ad u, A = some ad ∧ ad.block < B ∧ xs[k]? = some u ∧ w.cell? (ad.add k) = some u := by
  obtain ⟨ad, e, hb, hc⟩ := h.2 (by omega)
  have hl : k < xs.length := by have := h.1; omega
  exact ⟨ad, xs[k], e, hb, List.getElem?_eq_getElem hl, hc k _ (List.getElem?_eq_getElem hl)⟩
theorem Reads.keep (h : Reads w B size A n xs) (hk : ∀ p : Addr, p.block < B → w'.cell? p = w.cell? p) : Reads w' B size A n xs :=
  ⟨h.1, fun hn => by
    obtain ⟨ad, e, hb, hc⟩ := h.2 hn
    exact ⟨ad, e, hb, fun j u hu => (hk _ (by rw [block_of_add]; exact hb)).trans (hc j u hu)⟩⟩
theorem Reads.more (h : Reads w B size A n xs) (hB : B ≤ B') : Reads w B' size A n xs :=
  ⟨h.1, fun hn => by
    obtain ⟨ad, e, hb, hc⟩ := h.2 hn
    exact ⟨ad, e, by omega, hc⟩⟩
theorem Reads.below (h : Reads w B size A n xs) (hb : Below B w w') : Reads w' B size A n xs := h.keep fun _ hp => hb.cell hp
theorem Reads.drew (h : Reads w B size A n xs) : Reads w.drew B size A n xs := h
theorem Reads.drewN (h : Reads w B size A n xs) (k : Nat) : Reads (w.drewN k) B size A n xs := h
theorem Reads.alloc (h : Reads w B size A n xs) (hB : B ≤ w.heap.size) (o : Obj) : Reads (w.alloc o) B size A n xs := h.keep fun p hp => World.cell?_alloc_lt w o p (by omega)
theorem Reads.setCell (h : Reads w B size A n xs) {p : Addr} (hB : B ≤ p.block) (u : Value) : Reads (w.setCell p u) B size A n xs :=
  h.keep fun q hq => World.cell?_setCell_other w p q u (fun e => by subst e; omega)
theorem Reads.grown (h : Reads w B size A n xs) {row : Option Nat} (hg : w.grownBy w' row) (hB : B ≤ w.heap.size) (hr : ∀ g, row = some g → B ≤ g) : Reads w' B size A n xs :=
  h.keep fun p hp => World.cell?_of_block (hg.block p.block (by omega) (fun e => by have := hr _ e.symm; omega))
theorem Reads.cut (h : Reads w B size A n xs) {k cap : Nat} (hk : k ≤ n) (hc : n ≤ cap) :
    Reads w B size (if cap = k then A else A.map (·.add (k * size))) (n - k) (xs.drop (k * size)) := by
  refine ⟨by rw [List.length_drop, h.1, Nat.sub_mul], fun hn => ?_⟩
  obtain ⟨ad, rfl, hb, hcell⟩ := h.2 (by omega)
  rw [if_neg (by omega)]
  refine ⟨ad.add (k * size), rfl, by rw [block_of_add]; exact hb, fun j u hu => ?_⟩
  rw [add_of_add]
  exact hcell _ u (by rw [← hu, List.getElem?_drop])
theorem Reads.of_own {base : Nat} {e : TypeId} {c : Nat} (h : w.ownsRow base e size (.slice A n c) n xs) : Reads w w.heap.size size A n xs := by
  refine ⟨h.1, fun hn => ?_⟩
  obtain ⟨g, cap, hv, _, hlt⟩ := h.form hn
  have hA : A = some ⟨g, 0, none⟩ := by injection hv
  subst hA
  exact ⟨_, rfl, hlt, h.cells (g := g) rfl⟩
end
def Blk (w : World) (g : Nat) (t : TypeId) (cs : Array Value) : Prop := w.heap[g]? = some (.cells cs t (0, 0))

section
variable {w w' : World} {g : Nat} {t : TypeId} {cs : Array Value}
theorem Blk.lt (h : Blk w g t cs) : g < w.heap.size := by
  rcases Nat.lt_or_ge g w.heap.size with hlt | hge
  · exact hlt
  · unfold Blk at h; rw [Array.getElem?_eq_none hge] at h; cases h
theorem Blk.cell (h : Blk w g t cs) (i : Nat) : w.cell? ⟨g, i, none⟩ = cs[i]? := cell_of_row w g i cs t (0, 0) h
theorem Blk.frozen (h : Blk w g t cs) (i : Nat) : w.frozen? ⟨g, i, none⟩ = false := by
  unfold Blk at h
  simp [World.frozen?, h]
theorem Blk.new (w : World) (t : TypeId) (cs : Array Value) : Blk (w.alloc (.cells cs t)) w.heap.size t cs := heap_alloc_new w _
theorem Blk.drew (h : Blk w g t cs) : Blk w.drew g t cs := h
theorem Blk.drewN (h : Blk w g t cs) (n : Nat) : Blk (w.drewN n) g t cs := h
theorem Blk.alloc (h : Blk w g t cs) (o : Obj) : Blk (w.alloc o) g t cs := (Below.heap_alloc w o g h.lt).trans h
theorem Blk.set_ (h : Blk w g t cs) (i : Nat) (u : Value) : Blk (w.setCell ⟨g, i, none⟩ u) g t (cs.setIfInBounds i u) := by
  unfold Blk at h ⊢
  simp [World.setCell, Array.getElem?_modify, h]
theorem Blk.far (h : Blk w g t cs) {p : Addr} (hp : g ≠ p.block) (u : Value) : Blk (w.setCell p u) g t cs := (Below.heap_setCell w p u g hp).trans h
theorem Blk.below {B : Nat} (h : Blk w g t cs) (hb : Below B w w') (hg : g < B) : Blk w' g t cs := (hb.block g hg).trans h
theorem Blk.grown {row : Option Nat} (h : Blk w g t cs) (hb : w.grownBy w' row) (hg : some g ≠ row) : Blk w' g t cs := (hb.block g h.lt hg).trans h
theorem Blk.ne_ {g' : Nat} {t' : TypeId} {cs' : Array Value} (h : Blk w g t cs) (h' : Blk w g' t' cs') (hne : t ≠ t') : g ≠ g' := by
  rintro rfl
  unfold Blk at h h'
  rw [h] at h'
  injection h' with h'
  injection h' with _ ht
  exact hne ht
theorem own_blk_ne {base : Nat} {e : TypeId} {size n : Nat} {v : Value} {xs : List Value} (h : w.ownsRow base e size v n xs) (hg : Blk w g t cs) (hne : e ≠ t) : v.ownBlock ≠ some g := by
  rcases h.2 with ⟨rfl, _⟩ | ⟨g', cap, cur, rfl, _, hh, _⟩
  · simp [Value.ownBlock]
  · intro he
    have : g' = g := by simpa [Value.ownBlock] using he
    subst this
    exact Blk.ne_ (t := e) hh hg hne rfl
end
section
variable {P : Program} (w : World)
theorem run_append_of_nil (base : Nat) (t ty e : TypeId) (i : TypeInfo) (size : Nat) (ht : P.underlying t = some (.slice e)) (hi : P.info? e = some i)
    (v : Value) (n : Nat) (xs : List Value) (hown : w.ownsRow base e size v n xs) (c : Nat) : (Builtin.append_ #[t, t] ty #[v, .slice none 0 c]).run P w = .ok v w := by
  rcases hown.2 with ⟨rfl, rfl⟩ | ⟨g, cap, cur, rfl, _, _, hnc, _⟩
  · simp [Builtin.append_, run_underlying ht, sizeOf, typeInfo, hi, Builtin.lenOf, Builtin.firstCells]
  · simp [Builtin.append_, run_underlying ht, sizeOf, typeInfo, hi, Builtin.lenOf, Builtin.firstCells, hnc, storeCells]

theorem run_append_any (base : Nat) (t ty e : TypeId) (i : TypeInfo) (z : Value) (size bytes : Nat) (ht : P.underlying t = some (.slice e)) (hi : P.info? e = some i) (hz : i.zero = some z)
    (hsize : i.size = size) (hby : i.bytes = bytes) (hzs : z.cells.size = size) (hsz : 0 < size)
    (v : Value) (n : Nat) (xs : List Value) (hown : w.ownsRow base e size v n xs)
    (B : Nat) (A : Option Addr) (m c : Nat) (news : List Value) (hr : Reads w B size A m news) (h1 : ∀ u ∈ news, u.oneCell' = true)
    (h63 : n + m ≤ maxLen) (hbytes : (n + m) * bytes ≤ 140737488355328) (hbase : base ≤ w.heap.size) :
    ∃ v' w', (Builtin.append_ #[t, t] ty #[v, .slice A m c]).run P w = .ok v' w' ∧ w'.ownsRow base e size v' (n + m) (xs ++ news) ∧ w.grownBy w' v.ownBlock ∧
      (v'.ownBlock = v.ownBlock ∨ v'.ownBlock = some w.heap.size) := by
  rcases A with _ | ad
  · have hm : m = 0 := by
      rcases Nat.eq_zero_or_pos m with h0 | h0
      · exact h0
      · obtain ⟨ad, h, _⟩ := hr.2 h0
        cases h
    subst hm
    have hn : news = [] := List.eq_nil_of_length_eq_zero (by simpa using hr.1)
    subst hn
    exact ⟨v, w, run_append_of_nil w base t ty e i size ht hi v n xs hown c, by simpa using hown, World.grownBy.refl w _, .inl rfl⟩
  · have hcells : ∀ j u, news[j]? = some u → w.cell? (ad.add j) = some u := by
      intro j u hu
      rcases Nat.eq_zero_or_pos m with h0 | h0
      · subst h0
        have hn : news = [] := List.eq_nil_of_length_eq_zero (by simpa using hr.1)
        subst hn
        simp at hu
      · obtain ⟨ad', h, _, hc⟩ := hr.2 h0
        injection h with h
        subst h
        exact hc j u hu
    obtain ⟨v', w', hrun, h2, h3, _, h5⟩ := run_append_own_at (P := P) w base t ty e i z size bytes ht hi hz hsize hby hzs hsz v n xs hown ad m c news hr.1 hcells h1 h63 hbytes hbase
    exact ⟨v', w', hrun, h2, h3, h5⟩

theorem wp_append_any {o : Oper} {a : Act} {K : Act → World → Prop} {Q : Exit → Act → World → Prop} (s x : Operand) (t : TypeId)
    (ho : o.op = .call { callee := .builtin .append, args := #[s, x], argTypes := #[t, t] })
    (base : Nat) (e : TypeId) (i : TypeInfo) (z : Value) (size bytes : Nat) (ht : P.underlying t = some (.slice e)) (hi : P.info? e = some i) (hz : i.zero = some z)
    (hsize : i.size = size) (hby : i.bytes = bytes) (hzs : z.cells.size = size) (hsz : 0 < size)
    (v : Value) (n : Nat) (xs : List Value) (hs : a.eval s = v) (hown : w.ownsRow base e size v n xs)
    (B : Nat) (A : Option Addr) (m c : Nat) (news : List Value) (hx : a.eval x = .slice A m c) (hr : Reads w B size A m news) (h1 : ∀ u ∈ news, u.oneCell' = true)
    (h63 : n + m ≤ maxLen) (hbytes : (n + m) * bytes ≤ 140737488355328) (hbase : base ≤ w.heap.size)
    (h : ∀ v' w', w'.ownsRow base e size v' (n + m) (xs ++ news) → w.grownBy w' v.ownBlock → (v'.ownBlock = v.ownBlock ∨ v'.ownBlock = some w.heap.size) → K (a.put o.dst v') w') : o.wp P a w K Q := by
  obtain ⟨v', w', hrun, h2, h3, h4⟩ := run_append_any (P := P) w base t o.type e i z size bytes ht hi hz hsize hby hzs hsz v n xs hown B A m c news hr h1 h63 hbytes hbase
  unfold Oper.wp execOp
  simp only [ho, resolve, invoke, builtin, Sem.run_bind, Sem.run_pure, Result.andThen_ok, List.map_toArray, List.map_cons, List.map_nil, hs, hx, hrun]
  exact h v' w' h2 h3 h4

theorem wpList_append_any {ops : Array Oper} {rest : List Oper} {o : Oper} {a : Act} {Q : Exit → Act → World → Prop} (hgd : o.guard = none) (s x : Operand) (t : TypeId)
    (ho : o.op = .call { callee := .builtin .append, args := #[s, x], argTypes := #[t, t] })
    (base : Nat) (e : TypeId) (i : TypeInfo) (z : Value) (size bytes : Nat) (ht : P.underlying t = some (.slice e)) (hi : P.info? e = some i) (hz : i.zero = some z)
    (hsize : i.size = size) (hby : i.bytes = bytes) (hzs : z.cells.size = size) (hsz : 0 < size)
    (v : Value) (n : Nat) (xs : List Value) (hs : a.eval s = v) (hown : w.ownsRow base e size v n xs)
    (B : Nat) (A : Option Addr) (m c : Nat) (news : List Value) (hx : a.eval x = .slice A m c) (hr : Reads w B size A m news) (h1 : ∀ u ∈ news, u.oneCell' = true)
    (h63 : n + m ≤ maxLen) (hbytes : (n + m) * bytes ≤ 140737488355328) (hbase : base ≤ w.heap.size)
    (h : ∀ v' w', w'.ownsRow base e size v' (n + m) (xs ++ news) → w.grownBy w' v.ownBlock → (v'.ownBlock = v.ownBlock ∨ v'.ownBlock = some w.heap.size) → wpList P ops Q rest (a.put o.dst v') w') : wpList P ops Q (o :: rest) a w :=
  wpList_plain hgd fun _ hK => wp_append_any w s x t ho base e i z size bytes ht hi hz hsize hby hzs hsz v n xs hs hown B A m c news hx hr h1 h63 hbytes hbase fun v' w' h2 h3 h4 => hK _ _ (h v' w' h2 h3 h4)

theorem step_append_any {ops : Array Oper} {o : Oper} {a : Act} {K : Act → World → Prop} {Q : Exit → Act → World → Prop} {E : Prop} (hgd : o.guard = none) (s x : Operand) (t : TypeId)
    (ho : o.op = .call { callee := .builtin .append, args := #[s, x], argTypes := #[t, t] })
    (base : Nat) (e : TypeId) (i : TypeInfo) (z : Value) (size bytes : Nat) (ht : P.underlying t = some (.slice e)) (hi : P.info? e = some i) (hz : i.zero = some z)
    (hsize : i.size = size) (hby : i.bytes = bytes) (hzs : z.cells.size = size) (hsz : 0 < size)
    (v : Value) (n : Nat) (xs : List Value) (hs : a.eval s = v) (hown : w.ownsRow base e size v n xs)
    (B : Nat) (A : Option Addr) (m c : Nat) (news : List Value) (hx : a.eval x = .slice A m c) (hr : Reads w B size A m news) (h1 : ∀ u ∈ news, u.oneCell' = true)
    (h63 : n + m ≤ maxLen) (hbytes : (n + m) * bytes ≤ 140737488355328) (hbase : base ≤ w.heap.size)
    (h : ∀ v' w', w'.ownsRow base e size v' (n + m) (xs ++ news) → w.grownBy w' v.ownBlock → (v'.ownBlock = v.ownBlock ∨ v'.ownBlock = some w.heap.size) → K (a.put o.dst v') w') :
    if Region.wanted o (yielded ops a.tmps) = true then Oper.wp P o a w K Q else E := by
  have hw : Region.wanted o (yielded ops a.tmps) = true := by simp [Region.wanted, hgd]
  rw [if_pos hw]
  exact wp_append_any w s x t ho base e i z size bytes ht hi hz hsize hby hzs hsz v n xs hs hown B A m c news hx hr h1 h63 hbytes hbase h
end
/-- All blocks outside X are as they were. -/
structure Keep (X : Nat → Prop) (w w' : World) : Prop where
  os : w'.os = w.os
  tape : w'.tape = w.tape
  output : w'.output = w.output
  size : w.heap.size ≤ w'.heap.size
  block : ∀ k, k < w.heap.size → ¬ X k → w'.heap[k]? = w.heap[k]?
section
variable {X Y : Nat → Prop} {a b c w w' : World}
theorem Keep.refl (X : Nat → Prop) (w : World) : Keep X w w := ⟨rfl, rfl, rfl, Nat.le_refl _, fun _ _ _ => rfl⟩
theorem Keep.trans (h : Keep X a b) (k : Keep X b c) : Keep X a c :=
  ⟨k.os.trans h.os, k.tape.trans h.tape, k.output.trans h.output, Nat.le_trans h.size k.size, fun i hi hx => (k.block i (Nat.lt_of_lt_of_le hi h.size) hx).trans (h.block i hi hx)⟩
/-- The second step may turn blocks that are new behind the first. -/
theorem Keep.trans' (h : Keep X a b) (k : Keep Y b c) (hY : ∀ i, i < a.heap.size → Y i → X i) : Keep X a c :=
  ⟨k.os.trans h.os, k.tape.trans h.tape, k.output.trans h.output, Nat.le_trans h.size k.size, fun i hi hx => (k.block i (Nat.lt_of_lt_of_le hi h.size) (fun hy => hx (hY i hi hy))).trans (h.block i hi hx)⟩
theorem Keep.mono (h : Keep X a b) (hXY : ∀ i, i < a.heap.size → X i → Y i) : Keep Y a b := ⟨h.os, h.tape, h.output, h.size, fun i hi hy => h.block i hi (fun hx => hy (hXY i hi hx))⟩
theorem Keep.of_ext (h : Ext a b) : Keep X a b := by
  have h' : Below a.heap.size a b := h
  exact ⟨h'.os, h'.tape, h'.output, h'.size, fun i hi _ => h'.block i hi⟩
theorem Keep.ext (h : Keep X a b) (hX : ∀ i, i < a.heap.size → ¬ X i) : Ext a b := show Below a.heap.size a b from ⟨h.os, h.tape, h.output, h.size, fun i hi => h.block i hi (hX i hi)⟩
theorem Keep.alloc (h : Keep X a w) (o : Obj) : Keep X a (w.alloc o) := h.trans (Keep.of_ext ((Ext.refl w).alloc o))
theorem Keep.drew (h : Keep X a w) : Keep X a w.drew := ⟨h.os, h.tape, h.output, h.size, h.block⟩
theorem Keep.drewN (h : Keep X a w) (n : Nat) : Keep X a (w.drewN n) := ⟨h.os, h.tape, h.output, h.size, h.block⟩
theorem Keep.setCell (h : Keep X a w) {p : Addr} (hp : X p.block ∨ a.heap.size ≤ p.block) (u : Value) : Keep X a (w.setCell p u) :=
  ⟨h.os, h.tape, h.output, by simpa [World.setCell] using h.size, fun i hi hx => (Below.heap_setCell w p u i (by
    rintro rfl
    rcases hp with hp | hp
    · exact hx hp
    · omega)).trans (h.block i hi hx)⟩
theorem Keep.grown {row : Option Nat} (h : Keep X a w) (hg : w.grownBy w' row) (hr : ∀ g, row = some g → X g ∨ a.heap.size ≤ g) : Keep X a w' :=
  ⟨hg.os.trans h.os, hg.tape.trans h.tape, hg.output.trans h.output, Nat.le_trans h.size hg.size, fun i hi hx => (hg.block i (Nat.lt_of_lt_of_le hi h.size) (fun e => by
    rcases hr i e.symm with h1 | h1
    · exact hx h1
    · omega)).trans (h.block i hi hx)⟩
theorem Keep.blk {g : Nat} {t : TypeId} {cs : Array Value} (h : Keep X a b) (hb : Blk a g t cs) (hX : ¬ X g) : Blk b g t cs := (h.block g hb.lt hX).trans hb
theorem Keep.owns {base : Nat} {e : TypeId} {size n : Nat} {v : Value} {xs : List Value} (h : Keep X a b) (ho : a.ownsRow base e size v n xs) (hX : ∀ g, v.ownBlock = some g → ¬ X g) : b.ownsRow base e size v n xs := by
  refine ⟨ho.1, ?_⟩
  rcases ho.2 with h1 | ⟨g, cap, cur, rfl, hb, hg, rest⟩
  · exact Or.inl h1
  · exact Or.inr ⟨g, cap, cur, rfl, hb, (h.block g (Array.getElem?_eq_some_iff.1 hg).1 (hX g rfl)).trans hg, rest⟩
theorem Keep.cell (h : Keep X a b) {p : Addr} {v : Value} (hp : a.cell? p = some v) (hX : ¬ X p.block) : b.cell? p = some v :=
  (World.cell?_of_block (w := a) (h.block p.block (World.block_lt_of_cell? _ _ hp) hX)).trans hp
end
theorem owns_form {w : World} {base : Nat} {e : TypeId} {size n : Nat} {v : Value} {xs : List Value} (h : w.ownsRow base e size v n xs) : ∃ A c, v = .slice A n c := by
  rcases h.2 with ⟨rfl, rfl⟩ | ⟨g, cap, cur, rfl, _⟩
  · exact ⟨_, _, rfl⟩
  · exact ⟨_, _, rfl⟩
theorem reads_last (w : World) (cs : Array Value) (t : TypeId) (size m g B : Nat) (hg : g = w.heap.size) (hB : g < B) (hs : cs.size = m * size) : Reads (w.alloc (.cells cs t)) B size (some ⟨g, 0, none⟩) m cs.toList := by
  subst hg
  refine ⟨by simpa using hs, fun _ => ⟨_, rfl, hB, fun j u hu => ?_⟩⟩
  have : (⟨w.heap.size, 0, none⟩ : Addr).add j = ⟨w.heap.size, j, none⟩ := by unfold Addr.add; split <;> simp_all
  rw [this, World.cell?_alloc_new]
  simpa using hu

theorem int_info : (Try.prog.info? 3).map (fun i => (i.zero, i.size, i.bytes)) = some (some (.int .i64 0), 1, 8) := by kernel_rfl
theorem Ints.reads {w : World} {a : Option Addr} {c : Nat} {l : List Int} (h : Ints w (.slice a l.length c) l) : Reads w w.heap.size 1 a l.length (l.map (Value.int .i64)) := by
  refine ⟨by simp, fun h0 => ?_⟩
  obtain ⟨_, _, e, _, _, h⟩ := h
  cases e
  obtain ⟨b, off, rfl, hb, hc⟩ := h h0
  refine ⟨_, rfl, hb, fun j u hu => ?_⟩
  have hj : j < l.length := by simpa using (List.getElem?_eq_some_iff.1 hu).1
  have := hc j hj 0 (by omega)
  have e : (⟨b, off, none⟩ : Addr).add j = ⟨b, off + j * 1 + 0, none⟩ := by unfold Addr.add; split <;> simp_all
  rw [e, this]
  simp [hj] at hu ⊢
  exact hu
theorem ints_of_owns {w : World} {base : Nat} {v : Value} {l : List Int} (h : w.ownsRow base 3 1 v l.length (l.map (Value.int .i64))) : Ints w v l := by
  rcases h.2 with ⟨rfl, h0⟩ | ⟨g, cap, cur, rfl, hb, hg, hn, hcap, hcs, htake⟩
  · exact ⟨none, 0, by rw [h0], by omega, by unfold maxLen; omega, fun hp => by omega⟩
  · refine ⟨_, _, rfl, hn, hcap, fun hp => ⟨g, 0, rfl, (Array.getElem?_eq_some_iff.1 hg).1, fun i hi j hj => ?_⟩⟩
    obtain rfl : j = 0 := by omega
    have := h.cells (g := g) rfl i (.int .i64 (l[i]?.getD 0)) (by simp [hi])
    have e : (⟨g, 0, none⟩ : Addr).add i = ⟨g, 0 + i * 1 + 0, none⟩ := by unfold Addr.add; split <;> simp_all
    rw [← e]; exact this
section
variable {w : World} {B : Nat} {xs : List Value}
theorem owns_block {e : TypeId} {size n : Nat} {v : Value} (h : w.ownsRow B e size v n xs) {g : Nat} (hg : v.ownBlock = some g) : ∃ cs, Blk w g e cs := by
  rcases h.2 with ⟨rfl, _⟩ | ⟨g', cap, cur, rfl, _, hh, _⟩
  · simp [Value.ownBlock] at hg
  · simp [Value.ownBlock] at hg; subst hg; exact ⟨cur, hh⟩
theorem blk_type {g : Nat} {e e' : TypeId} {cs cs' : Array Value} (h : Blk w g e cs) (h' : Blk w g e' cs') : e = e' := by
  unfold Blk at h h'; rw [h] at h'; injection h' with h'; injection h'
end
theorem keep_set (w : World) (g i : Nat) (u : Value) : Keep (fun k => k = g) w (w.setCell ⟨g, i, none⟩ u) := Keep.setCell (X := fun k => k = g) (Keep.refl _ _) (Or.inl rfl) _

end Go.Proofs.Ytcmcojmhlgknoaa

/- A region that draws its order: all operations but the last few read or call, one value whatever the world behind w; the last ones come in one forced order. After the library's own two theorems on such regions (one world; no tail), for a class of worlds. -/
namespace Go.Proofs.Ytcmcojmhlgknoaa
open Go.RowKit

section
variable {P : Program} {ops : Array Oper} {md : Region.Mode} {C : World → Prop}

/-- the head's operations in whatever order, then L -/
def headAny (P : Program) (md : Region.Mode) (ops : Array Oper) (C : World → Prop) (n : Nat) (L : Array Bool → Act → Prop) : Nat → Array Bool → Act → Prop
  | 0, listed, a => L listed a
  | f + 1, listed, a => Region.ready md ops listed ≠ [] ∧ ∀ i ∈ Region.ready md ops listed, i < n ∧ qOp P ops C i (headAny P md ops C n L f (listed.setIfInBounds i true)) a

theorem any_of_head {n g : Nat} {L : Array Bool → Act → Prop} {Q' : Exit → Act → World → Prop} (hL : ∀ listed a, L listed a → ∀ W, C W → wpAny P md ops Q' g listed a W) :
    ∀ (f : Nat) (listed : Array Bool) (a : Act), headAny P md ops C n L f listed a → ∀ W, C W → wpAny P md ops Q' (f + g) listed a W
  | 0, listed, a, h, W, hW => by rw [Nat.zero_add]; exact hL _ _ h W hW
  | f + 1, listed, a, h, W, hW => by
    rw [show f + 1 + g = (f + g) + 1 by omega]
    exact ⟨fun h0 => absurd h0 h.1, fun i hi => wpOp_of_qOp hW (fun a' W' hW' h' => any_of_head hL f _ a' h' W' hW') (h.2 i hi).2⟩

theorem head_take {n i : Nat} {oi : Oper} {v : Value} {L : Array Bool → Act → Prop} (hi : ops[i]? = some oi) (hsel : ∀ (j : Nat) (o : Oper) cs b, ops[j]? = some o → o.op ≠ .select cs b)
    (hs : Region.sinkB md ops n = true) (hc : Region.chainB md ops n = true) (hn : n < ops.size) (hin : i < n) (hdone : ∀ listed a, L listed a → ∀ j ∈ Region.ready md ops listed, n ≤ j) :
    ∀ (f : Nat) (listed : Array Bool) (a : Act), HeadInv md ops n listed →
      (∀ j oj, ops[j]? = some oj → j ≠ i → listed.getD j true = false → (∀ e ∈ oj.after, Region.binds md e = true → e.on ≠ i) → oi.apart ops oj = true) →
      i ∈ Region.ready md ops listed → YieldsIn P ops C oi v a → headAny P md ops C n L f (listed.setIfInBounds i true) (a.put oi.dst v) → headAny P md ops C n L (f + 1) listed a := by
  intro f
  induction f with
  | zero =>
    intro listed a inv _ hr hy H
    have hun := (mem_ready.1 hr).1
    refine ⟨fun h => (by rw [h] at hr; cases hr), fun j hj => ?_⟩
    have hjn : j < n := Nat.lt_of_not_le fun h => tail_waits hs hc hn inv _ i rfl hin hun j h hj
    refine ⟨hjn, ?_⟩
    by_cases hji : j = i
    · subst hji; exact hy.qOp hi H
    · have := hdone _ _ H j (ready_mono hj hji)
      omega
  | succ f ih =>
    intro listed a inv hfree hr hy H
    have hun := (mem_ready.1 hr).1
    refine ⟨fun h => (by rw [h] at hr; cases hr), fun j hj => ?_⟩
    have hjn : j < n := Nat.lt_of_not_le fun h => tail_waits hs hc hn inv _ i rfl hin hun j h hj
    refine ⟨hjn, ?_⟩
    by_cases hji : j = i
    · subst hji; exact hy.qOp hi H
    · have h1 := (H.2 j (ready_mono hj hji)).2
      obtain ⟨hjun, oj, hoj, hall⟩ := mem_ready.1 hj
      have hnot : ∀ e ∈ oj.after, Region.binds md e = true → e.on ≠ i := fun e he hb heq => by
        have h1 := hall e he hb
        rw [heq, getD_both hun] at h1
        cases h1
      have h2 := qOp_put hoj (hfree j oj hoj hji hjun hnot) (fun cs b => hsel i oi cs b hi) (fun cs b => hsel j oj cs b hoj) hy h1
      refine qOp_mono (fun a' h3 => ih (listed.setIfInBounds j true) a' (inv.set hj hjn) (fun k ok hk hki hun' hno => hfree k ok hk hki ?_ hno) (ready_mono hr (Ne.symm hji)) h3.1 ?_) h2
      · by_cases hjk : j = k
        · subst hjk; exact hjun
        · rw [getD_set_ne true hjk] at hun'; exact hun'
      · rw [Array.setIfInBounds_comm _ _ hji]; exact h3.2

theorem head_lex {n g : Nat} {Lq : Act → Prop} (hsel : Region.noSelect ops = true) (hs : Region.sinkB md ops n = true) (hc : Region.chainB md ops n = true) (hn : n < ops.size) :
    ∀ (l : List Oper) (k : Nat) (listed : Array Bool) (a : Act), (∀ j, j < l.length → l[j]? = ops[k + j]?) → k + l.length = n → HeadInv md ops n listed →
    Region.lexHead md ops g l.length k listed = true → wpQuiet P ops C Lq l a →
    headAny P md ops C n (fun listed' a' => Region.seqB md ops g n listed' = true ∧ Lq a') l.length listed a
  | [], k, listed, a, _, hk, _, hB, h => by
    have : k = n := by simpa using hk
    subst this
    exact ⟨by simpa [Region.lexHead] using hB, h⟩
  | o :: l, k, listed, a, hl, hk, inv, hB, h => by
    have h0 : ops[k]? = some o := by simpa using (hl 0 (by simp)).symm
    simp only [List.length_cons, Region.lexHead, Bool.and_eq_true] at hB
    obtain ⟨⟨hr, hf⟩, hB'⟩ := hB
    have hkn : k < n := by simp only [List.length_cons] at hk; omega
    have hr' : k ∈ Region.ready md ops listed := by simpa using hr
    have hst : qOp P ops C k (wpQuiet P ops C Lq l) a := by unfold qOp; simp only [h0]; exact h
    obtain ⟨v, hy, hK⟩ := yieldsIn_of_qOp h0 hst
    exact head_take h0 (Region.noSelect_spec hsel) hs hc hn hkn (fun listed' a' hL => seqB_ready hL.1) l.length listed a inv (Region.free_spec h0 hf) hr' hy
      (head_lex hsel hs hc hn l (k + 1) _ _ (fun j hj => by have := hl (j + 1) (by simp; omega); simpa [Nat.add_assoc, Nat.add_comm 1 j] using this) (by simp only [List.length_cons] at hk; omega) (inv.set hr' hkn) hB' hK)
end

/-- THE RULE: the first n operations read or call; the others follow in the order of the text. -/
theorem wp_region_tail {P : Program} {id : Nat} {Q : Exit → Act → World → Prop} {a : Act} {w : World} {l : List Oper} (n : Nat) (hm : P.follows .mixedOrders = true) (hB : Region.lexTailB .any l.toArray n = true)
    (h : wpQuiet P l.toArray (fun W => ∃ x : After w, W = x.world) (fun a' => ∀ W, (∃ x : After w, W = x.world) → wpList P l.toArray Q (l.drop n) a' W) (l.take n) a) : (Code.region id l.toArray true).wp P Q a w := by
  simp only [Region.lexTailB, Bool.and_eq_true, decide_eq_true_eq] at hB
  obtain ⟨⟨⟨⟨hsel, hn⟩, hs⟩, hc⟩, hlex⟩ := hB
  have hn' : n < l.length := by simpa using hn
  have htl : (l.take n).length = n := by simp; omega
  have hdl : (l.drop n).length = l.toArray.size - n := by simp
  have inv0 : HeadInv .any l.toArray n (Array.replicate l.toArray.size false) :=
    ⟨by simp, fun j oj _ hl => (by rw [getD_replicate_false] at hl; cases hl), fun t _ ht => getD_in (by simpa using ht) (getD_replicate_false _ _)⟩
  have H := head_lex (md := .any) (g := l.toArray.size - n) hsel hs hc hn (l.take n) 0 _ a (fun j hj => by
    have hj' : j < n := by rw [htl] at hj; exact hj
    simp [hj']) (by simpa using htl) inv0 (by rw [htl]; exact hlex) h
  refine wp_region_any hm ?_
  have := any_of_head (Q' := Q) (g := l.toArray.size - n) (fun listed a' hL W hW => by
    have := wpAny_of_seq (md := .any) (Q' := Q) (l.drop n) n listed a' W (fun j => by simp [List.getElem?_drop]) (by rw [hdl]; exact hL.1) (hL.2 W hW)
    rwa [hdl] at this) _ _ _ H { w with drawn := w.drawn + 1 } ⟨⟨w.drew, (Ext.refl w).drew⟩, rfl⟩
  rw [htl, show n + (l.toArray.size - n) = l.toArray.size by omega] at this
  exact this

end Go.Proofs.Ytcmcojmhlgknoaa

/- make of integers, at a size that is a variable. -/
namespace Go.Proofs.Ytcmcojmhlgknoaa
open Go.RowKit

/-- n zeros -/
def zerosL (n : Nat) : List Int := List.replicate n 0
theorem zerosL_len (n : Nat) : (zerosL n).length = n := by simp [zerosL]
def zerosV (n : Nat) : Array Value := ((zerosL n).map (Value.int .i64)).toArray

theorem made_zeros (n : Nat) : madeCells (Value.int .i64 0).cells n = zerosV n := by
  apply Array.ext_getElem?
  intro k
  by_cases h : k < n
  · simp [madeCells, zerosV, zerosL, h, Value.cells, Nat.mod_one]
  · simp [madeCells, zerosV, zerosL, h]
theorem run_make_any {P : Program} (t e : TypeId) (i : TypeInfo) (z : Value) (ht : P.underlying t = some (.slice e)) (hi : P.info? e = some i) (hz : i.zero = some z)
    (kl kc : IntKind) (n c : Nat) (hnc : n ≤ c) (hbytes : i.bytes * c ≤ 281474976710656) (h63 : c ≤ 9223372036854775807) (w : World) :
    (Instr.makeSlice t (.int kl (n : Int)) (.int kc (c : Int))).run P w = .ok (.slice (some ⟨w.heap.size, 0, none⟩) n c) (w.alloc (.cells (madeCells z.cells (c * i.size)) e)) := by
  have hb : (i.bytes : Int) * (c : Int) ≤ 281474976710656 := by
    have h : ((i.bytes * c : Nat) : Int) ≤ 281474976710656 := by omega
    rwa [Int.natCast_mul] at h
  have hr := run_make (P := P) w t e i z ht hi hz kl kc n c (by omega) (by omega) hb (by omega)
  simp only [Int.toNat_natCast] at hr
  exact hr
theorem run_make_ints (n : Nat) (hn : n ≤ 35184372088832) (w : World) :
    (Instr.makeSlice 22 (.int .i64 (n : Int)) (.int .i64 (n : Int))).run Try.prog w = .ok (.slice (some ⟨w.heap.size, 0, none⟩) n n) (w.alloc (.cells (zerosV n) 3)) := by
  obtain ⟨i0, hi, hz, hs, hb⟩ := info_parts int_info
  have := run_make_any (P := Try.prog) 22 3 i0 _ Try.underlying22 hi hz .i64 .i64 n n (Nat.le_refl _) (by rw [hb]; omega) (by omega) w
  rw [this, hs, Nat.mul_one, made_zeros]

end Go.Proofs.Ytcmcojmhlgknoaa

namespace Go.Proofs.Ytcmcojmhlgknoaa
open Go.RowKit

theorem blk_new' {w : World} {g : Nat} {t : TypeId} {cs : Array Value} {o : Obj} (h : g = w.heap.size) (ho : o = .cells cs t) : Blk (w.alloc o) g t cs := by
  subst h ho; exact Blk.new w t cs
theorem Ints.at_ {w : World} {a : Option Addr} {n c : Nat} {l : List Int} (h : Ints w (.slice a n c) l) : IntsAt a w l ∧ n = l.length := by
  obtain ⟨_, _, e, _, _, hh⟩ := h.open; cases e; exact ⟨hh, rfl⟩
theorem Spans.at_ {w : World} {a : Option Addr} {n c : Nat} {l : List (Int × Int)} (h : Spans w (.slice a n c) l) : SpansAt a w l ∧ n = l.length := by
  obtain ⟨_, _, e, _, _, hh⟩ := h.open; cases e; exact ⟨hh, rfl⟩
theorem sl_of_blk {w : World} {g : Nat} {t : TypeId} {cs : Array Value} {k n c : Nat} {F : Nat → Nat → Value} (hb : Blk w g t cs) (hn : n ≤ c) (hc : c ≤ maxLen) (h : ∀ i, i < n → ∀ j, j < k → cs[i * k + j]? = some (F i j)) :
    Sl w k (.slice (some ⟨g, 0, none⟩) n c) n F :=
  ⟨_, _, rfl, hn, hc, fun _ => ⟨g, 0, rfl, hb.lt, fun i hi j hj => by rw [hb.cell, Nat.zero_add]; exact h i hi j hj⟩⟩
theorem ints_of_blk {w : World} {g : Nat} {t : TypeId} {c : Nat} {l : List Int} (hb : Blk w g t (l.map (Value.int .i64)).toArray) (hn : l.length ≤ c) (hc : c ≤ maxLen) : Ints w (.slice (some ⟨g, 0, none⟩) l.length c) l :=
  sl_of_blk hb hn hc fun i hi j hj => by
    obtain rfl : j = 0 := by omega
    simp [hi]
def spanCells (l : List (Int × Int)) : List Value := l.flatMap fun s => [.int .i64 s.1, .int .i64 s.2]
theorem spanCells_at : ∀ {l : List (Int × Int)} (i : Nat) (s : Int × Int), l[i]? = some s → (spanCells l)[i * 2]? = some (.int .i64 s.1) ∧ (spanCells l)[i * 2 + 1]? = some (.int .i64 s.2)
  | [], i, s, h => by simp at h
  | x :: r, 0, s, h => by simp at h; subst h; exact ⟨rfl, rfl⟩
  | x :: r, i + 1, s, h => by
    have := spanCells_at (l := r) i s (by simpa using h)
    rw [show (i + 1) * 2 = i * 2 + 1 + 1 by omega, show i * 2 + 1 + 1 + 1 = i * 2 + 1 + 1 + 1 by rfl]
    exact this
theorem spans_of_blk {w : World} {g : Nat} {t : TypeId} {c : Nat} {l : List (Int × Int)} (hb : Blk w g t (spanCells l).toArray) (hn : l.length ≤ c) (hc : c ≤ maxLen) : Spans w (.slice (some ⟨g, 0, none⟩) l.length c) l :=
  sl_of_blk hb hn hc fun i hi j hj => by
    have h := spanCells_at i l[i] (List.getElem?_eq_getElem hi)
    rcases j with _ | _ | j
    · simp only [List.getElem?_toArray, Nat.add_zero, h.1]; simp [hi]
    · simp only [List.getElem?_toArray, h.2]; simp [hi]
    · omega
def RowCells (w : World) (g : Nat) (xs : List Value) : Prop := g < w.heap.size ∧ ∀ j u, xs[j]? = some u → w.cell? ⟨g, j, none⟩ = some u
theorem Blk.row {w : World} {g : Nat} {t : TypeId} {cs : Array Value} (h : Blk w g t cs) : RowCells w g cs.toList :=
  ⟨h.lt, fun j u hu => by rw [h.cell]; simpa using hu⟩
def SpansO (w : World) (B : Nat) (v : Value) (l : List (Int × Int)) : Prop := w.ownsRow B 28 2 v l.length (spanCells l)
def IntsO (w : World) (B : Nat) (v : Value) (l : List Int) : Prop := w.ownsRow B 3 1 v l.length (l.map (Value.int .i64))
/-- X holds blocks of type T alone (or blocks that are not yet there) -/
def TX (w : World) (X : Nat → Prop) (T : TypeId) : Prop := ∀ g, X g → g < w.heap.size → ∃ cs, Blk w g T cs
theorem TX.no (w : World) (T : TypeId) : TX w (fun _ => False) T := fun _ h => h.elim
theorem TX.one {w : World} {g : Nat} {T : TypeId} {cs : Array Value} (h : Blk w g T cs) : TX w (fun k => k = g) T := by rintro _ rfl _; exact ⟨cs, h⟩
theorem TX.row {w : World} {B size n : Nat} {v : Value} {T : TypeId} {xs : List Value} (h : w.ownsRow B T size v n xs) : TX w (fun k => v.ownBlock = some k) T := fun _ hg _ => owns_block h hg

section
variable {w w' : World} {B B' : Nat} {v : Value} {X : Nat → Prop} {T : TypeId}
theorem owns_keepT {e : TypeId} {size n : Nat} {xs : List Value} (h : w.ownsRow B e size v n xs) (k : Keep X w w') (hX : TX w X T) (hne : e ≠ T) : w'.ownsRow B e size v n xs := by
  refine k.owns h fun g hg hx => ?_
  obtain ⟨cs, hc⟩ := owns_block h hg
  obtain ⟨cs', hc'⟩ := hX g hx hc.lt
  exact hne (blk_type hc hc')
theorem owns_ext {e : TypeId} {size n : Nat} {xs : List Value} (h : w.ownsRow B e size v n xs) (k : Ext w w') : w'.ownsRow B e size v n xs := (Keep.of_ext (X := fun _ => False) k).owns h fun _ _ => id
theorem owns_base {e : TypeId} {size n : Nat} {xs : List Value} (h : w.ownsRow B e size v n xs) (hB : B' ≤ B) : w.ownsRow B' e size v n xs := by
  refine ⟨h.1, ?_⟩
  rcases h.2 with h1 | ⟨g, cap, cur, rfl, hb, rest⟩
  · exact Or.inl h1
  · exact Or.inr ⟨g, cap, cur, rfl, by omega, rest⟩
theorem SpansO.keepT {l : List (Int × Int)} (h : SpansO w B v l) (k : Keep X w w') (hX : TX w X T) (h1 : 28 ≠ T) : SpansO w' B v l := owns_keepT h k hX h1
theorem IntsO.keepT {l : List Int} (h : IntsO w B v l) (k : Keep X w w') (hX : TX w X T) (h1 : 3 ≠ T) : IntsO w' B v l := owns_keepT h k hX h1
theorem SpansO.ext {l : List (Int × Int)} (h : SpansO w B v l) (k : Ext w w') : SpansO w' B v l := owns_ext h k
theorem IntsO.ext {l : List Int} (h : IntsO w B v l) (k : Ext w w') : IntsO w' B v l := owns_ext h k
theorem SpansO.base {l : List (Int × Int)} (h : SpansO w B v l) (hB : B' ≤ B) : SpansO w B' v l := owns_base h hB
theorem IntsO.base {l : List Int} (h : IntsO w B v l) (hB : B' ≤ B) : IntsO w B' v l := owns_base h hB
theorem sl_of_owns {e : TypeId} {k n : Nat} {xs : List Value} {F : Nat → Nat → Value} (h : w.ownsRow B e k v n xs) (hF : ∀ i, i < n → ∀ j, j < k → xs[i * k + j]? = some (F i j)) : Sl w k v n F := by
  rcases h.2 with ⟨rfl, rfl⟩ | ⟨g, cap, cur, rfl, hb, hg, hn, hcap, hcs, htake⟩
  · exact ⟨none, 0, rfl, Nat.le_refl _, by unfold maxLen; omega, fun hp => absurd hp (Nat.lt_irrefl _)⟩
  · refine ⟨_, _, rfl, hn, hcap, fun hp => ⟨g, 0, rfl, (Array.getElem?_eq_some_iff.1 hg).1, fun i hi j hj => ?_⟩⟩
    have := h.cells (g := g) rfl (i * k + j) _ (hF i hi j hj)
    have e : (⟨g, 0, none⟩ : Addr).add (i * k + j) = ⟨g, 0 + i * k + j, none⟩ := by unfold Addr.add; split <;> simp_all <;> omega
    rw [← e]; exact this
theorem SpansO.read {l : List (Int × Int)} (h : SpansO w B v l) : Spans w v l :=
  sl_of_owns h fun i hi j hj => by
    have h := spanCells_at i l[i] (List.getElem?_eq_getElem hi)
    rcases j with _ | _ | j
    · rw [Nat.add_zero, h.1]; simp [hi]
    · rw [h.2]; simp [hi]
    · omega
theorem IntsO.read {l : List Int} (h : IntsO w B v l) : Ints w v l := ints_of_owns h
theorem SpansO.nil (w : World) (B : Nat) : SpansO w B (.slice none 0 0) [] := World.ownsRow_nil _ _ _ _
theorem IntsO.nil (w : World) (B : Nat) : IntsO w B (.slice none 0 0) [] := World.ownsRow_nil _ _ _ _
end
theorem span_info : (Try.prog.info? 28).map (fun i => (i.zero, i.size, i.bytes)) = some (some (.agg #[.int .i64 0, .int .i64 0]), 2, 16) := by kernel_rfl
theorem one_int (x : Int) : ∀ u ∈ [Value.int .i64 x], u.oneCell' = true := by simp [Value.oneCell']
theorem two_ints (x y : Int) : ∀ u ∈ [Value.int .i64 x, .int .i64 y], u.oneCell' = true := by simp [Value.oneCell']
theorem Spans.take {w : World} {a : Option Addr} {n c m : Nat} {l : List (Int × Int)} (h : Spans w (.slice a n c) l) (hm : m ≤ n) : Spans w (.slice a m c) (l.take m) := by
  obtain ⟨a', c', e, h1, h2, h3⟩ := h
  have en : n = l.length := by cases e; rfl
  cases e
  have hl : (l.take m).length = m := by simp; omega
  refine ⟨a, c, by rw [hl], by rw [hl]; omega, h2, fun h0 => ?_⟩
  obtain ⟨b, off, e1, e2, e3⟩ := h3 (by omega)
  refine ⟨b, off, e1, e2, fun i hi j hj => ?_⟩
  rw [hl] at hi
  rw [e3 i (by omega) j hj]
  simp only [List.getElem?_take_of_lt hi]
theorem Ints.take {w : World} {a : Option Addr} {n c m : Nat} {l : List Int} (h : Ints w (.slice a n c) l) (hm : m ≤ n) : Ints w (.slice a m c) (l.take m) := by
  obtain ⟨a', c', e, h1, h2, h3⟩ := h
  have en : n = l.length := by cases e; rfl
  cases e
  have hl : (l.take m).length = m := by simp; omega
  refine ⟨a, c, by rw [hl], by rw [hl]; omega, h2, fun h0 => ?_⟩
  obtain ⟨b, off, e1, e2, e3⟩ := h3 (by omega)
  refine ⟨b, off, e1, e2, fun i hi j hj => ?_⟩
  rw [hl] at hi
  rw [e3 i (by omega) j hj]
  simp only [List.getElem?_take_of_lt hi]

theorem Ext.keep {a b c : World} {X : Nat → Prop} (h : Ext a b) (k : Keep X b c) (hX : ∀ i, i < a.heap.size → ¬ X i) : Ext a c :=
  Keep.ext (X := X) ((Keep.of_ext h).trans k) hX
end Go.Proofs.Ytcmcojmhlgknoaa

namespace Go.Proofs.Ytcmcojmhlgknoaa
open Go.RowKit

theorem far_calls (t : Int) (w : World) : Calls Try.prog 65 #[.int .i64 t] w fun e w' => e = .returned (.bool (farB t)) ∧ Ext w w' := by
  by_cases h1 : t < -2251799813685248
  · have R : Hid (farB t = true) := by show _ = _; simp [farB, h1]
    go_enter Try.func65, Try.ntmps65
    go_wp2
    go_ret
    rw [R.out]
    exact ⟨rfl, Ext.refl _⟩
  · by_cases h2 : 2251799813685248 < t
    · have R : Hid (farB t = true) := by show _ = _; simp [farB, h2]
      go_enter Try.func65, Try.ntmps65
      go_wp2
      go_ret
      rw [R.out]
      exact ⟨rfl, Ext.refl _⟩
    · have R : Hid (farB t = false) := by show _ = _; simp [farB, h1, h2]
      go_enter Try.func65, Try.ntmps65
      go_wp2
      go_ret
      rw [R.out]
      exact ⟨rfl, Ext.refl _⟩

theorem ranged1_calls (s : Int × Int) (w : World) : Calls Try.prog 64 #[.agg #[.int .i64 s.1, .int .i64 s.2]] w fun e w' => e = .returned (.bool (farB s.1 || farB s.2)) ∧ Ext w w' := by
  obtain ⟨x, y⟩ := s
  dsimp only
  cases h1 : farB x with
  | true =>
    go_enter Try.func64, Try.ntmps64
    go_wp2_with fail
    refine (far_calls _ _).mono ?_
    rintro e w1 ⟨rfl, hx⟩
    go_wp2
    go_ret
    exact ⟨rfl, ((Ext.refl _).alloc _).trans hx⟩
  | false =>
    go_enter Try.func64, Try.ntmps64
    go_wp2_with fail
    refine (far_calls _ _).mono ?_
    rintro e w1 ⟨rfl, hx⟩
    have c1 : w1.cell? ⟨w.heap.size, 1, none⟩ = some (.int .i64 y) := hx.cell (by simp)
    go_wp2_with fail
    refine (far_calls _ _).mono ?_
    rintro e w2 ⟨rfl, hx2⟩
    go_wp2
    go_ret
    exact ⟨rfl, (((Ext.refl _).alloc _).trans hx).trans hx2⟩

set_option maxHeartbeats 400000 in
theorem indexFunc_span_calls (va : Value) (l : List (Int × Int)) (g : Nat) (hg : ∀ (x : Array Value) (W : World), (callFunc g x).run Try.prog W = .ok (.enter g x) W) (p : Int × Int → Bool) (w : World) (h : Spans w va l)
    (hf : ∀ s ∈ l, ∀ W, Ext w W → Calls Try.prog g #[.agg #[.int .i64 s.1, .int .i64 s.2]] W fun e w' => e = .returned (.bool (p s)) ∧ Ext W w') :
    Calls Try.prog 61 #[va, .func (.func g) #[] #[]] w fun e w' => e = .returned (.int .i64 (findI p l)) ∧ Ext w w' := by
  obtain ⟨a, c, rfl, hn, hc, hat⟩ := h.open
  clear h
  have hf' := Lib.hid hf
  clear hf
  go_enter Try.func61, Try.ntmps61
  go_wp2_with fail
  go_loopw [8] (fun vi wr => ∃ i : Nat, i ≤ l.length ∧ vi = .int .i64 i ∧ Ext w wr ∧ Hid (FindAt p l i)) (fun vi _ => l.length - (intOf vi).toNat)
  case atStart => exact ⟨0, by omega, rfl, Ext.refl _, FindAt.zero _ _⟩
  case round =>
    obtain ⟨i, hi, rfl, hx, hF⟩ := hrel
    by_cases h1 : i < l.length
    · obtain ⟨b1, o1, x, y, rfl, hb1, dx, ex, g1, g2⟩ := hat i h1 wr hx
      have hm : (x, y) ∈ l := List.mem_of_getElem? ex.out
      have hcall := Lib.hid (hf'.out (x, y) hm wr hx)
      cases hp : p (x, y) with
      | true =>
        have R := Lib.hid (hF.out.hit ex.out hp)
        have hp' := Lib.hid hp
        clear hp
        go_wp2_with fail
        refine hcall.out.mono ?_
        rintro e w1 ⟨rfl, hx1⟩
        rw [hp'.out]
        go_wp2
        go_ret
        rw [R.out]
        exact ⟨rfl, hx.trans hx1⟩
      | false =>
        have R := Lib.hid (hF.out.miss ex.out hp)
        have hp' := Lib.hid hp
        clear hp
        go_wp2_with fail
        refine hcall.out.mono ?_
        rintro e w1 ⟨rfl, hx1⟩
        rw [hp'.out]
        go_wp2
        go_roundw
        case rel => exact ⟨i + 1, by omega, by go_num, hx.trans hx1, R⟩
        case measure => simp [intOf]; omega
    · have R := Lib.hid (hF.out.none (by omega))
      go_wp2
      go_ret
      rw [R.out]
      exact ⟨rfl, hx⟩

theorem containsFunc_span_calls (va : Value) (l : List (Int × Int)) (g : Nat) (hg : ∀ (x : Array Value) (W : World), (callFunc g x).run Try.prog W = .ok (.enter g x) W) (p : Int × Int → Bool) (w : World) (h : Spans w va l)
    (hf : ∀ s ∈ l, ∀ W, Ext w W → Calls Try.prog g #[.agg #[.int .i64 s.1, .int .i64 s.2]] W fun e w' => e = .returned (.bool (p s)) ∧ Ext W w') :
    Calls Try.prog 47 #[va, .func (.func g) #[] #[]] w fun e w' => e = .returned (.bool (l.any p)) ∧ Ext w w' := by
  have hc := Lib.hid (indexFunc_span_calls va l g hg p w h hf)
  have R := Lib.hid (findI_ge p l)
  clear hf h
  go_enter Try.func47, Try.ntmps47
  go_wp2_with fail
  refine hc.out.mono ?_
  rintro e w1 ⟨rfl, hx1⟩
  go_wp2
  go_ret
  rw [R.out]
  exact ⟨rfl, hx1⟩

theorem ranged_calls (va : Value) (l : List (Int × Int)) (w : World) (h : Spans w va l) :
    Calls Try.prog 57 #[va] w fun e w' => e = .returned (.bool (rangedB l)) ∧ Ext w w' := by
  have hc := Lib.hid (containsFunc_span_calls va l 64 (fun _ _ => by kernel_rfl) (fun s => farB s.1 || farB s.2) w h (fun s _ W _ => ranged1_calls s W))
  have R : Hid ((!l.any fun s => farB s.1 || farB s.2) = rangedB l) := by show _ = _; rw [rangedB, List.not_any_eq_all_not]
  clear h
  go_enter Try.func57, Try.ntmps57
  go_wp2_with fail
  refine hc.out.mono ?_
  rintro e w1 ⟨rfl, hx1⟩
  go_wp2
  go_ret
  rw [R.out]
  exact ⟨rfl, hx1⟩


/-- the bound of the element before place i -/
def prevTo (l : List (Int × Int)) (i : Nat) : Option Int := if i = 0 then none else l[i - 1]?.map (·.2)
theorem prevTo_zero (l : List (Int × Int)) : prevTo l 0 = none := rfl
theorem prevTo_succ {l : List (Int × Int)} {i : Nat} {x y : Int} (h : l[i]? = some (x, y)) : prevTo l (i + 1) = some y := by simp [prevTo, h]
theorem prevTo_pos {l : List (Int × Int)} {i : Nat} {x y : Int} (h : 0 < i) (hl : l[i - 1]? = some (x, y)) : prevTo l i = some y := by
  simp only [prevTo]; rw [if_neg (by omega), hl]; rfl
theorem chainB_first {l : List (Int × Int)} {i : Nat} {x y : Int} (d : l.drop i = (x, y) :: l.drop (i + 1)) (h : y ≤ x) (p : Option Int) : chainB p (l.drop i) = false := by
  rw [d]; cases p <;> (simp [chainB]; intro h'; omega)
theorem chainB_step0 {l : List (Int × Int)} {i : Nat} {x y : Int} (d : l.drop i = (x, y) :: l.drop (i + 1)) (h : x < y) : chainB none (l.drop i) = chainB (some y) (l.drop (i + 1)) := by
  rw [d, chainB]; simp [h]
theorem chainB_step {l : List (Int × Int)} {i : Nat} {x y e : Int} (d : l.drop i = (x, y) :: l.drop (i + 1)) (h : x < y) (he : e < x) : chainB (some e) (l.drop i) = chainB (some y) (l.drop (i + 1)) := by
  rw [d, chainB]; simp [h, he]
theorem chainB_near {l : List (Int × Int)} {i : Nat} {x y e : Int} (d : l.drop i = (x, y) :: l.drop (i + 1)) (he : x ≤ e) : chainB (some e) (l.drop i) = false := by
  rw [d, chainB]; simp; intro _ h'; omega

end Go.Proofs.Ytcmcojmhlgknoaa
