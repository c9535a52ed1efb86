/- Memory of SpanTranslation: pairs of numbers of 32 bits, and four rows that grow one by one. -/
import Derived.Test.YtfajejelelbmmaaZA
import Derived.Test.YtfajejelelbmmaaZD
namespace Go.Proofs.Ytfajejelelbmmaa
open Go.RowKit

def pair32 (s : Int × Int) : Prop := (-2147483648 ≤ s.1 ∧ s.1 ≤ 2147483647) ∧ -2147483648 ≤ s.2 ∧ s.2 ≤ 2147483647
/-- a slice of pairs of numbers of 32 bits that reads as l -/
def Pairs (w : World) (v : Value) (l : List (Int × Int)) : Prop :=
  Sl w 2 v l.length (fun i j => .int .i32 (if j = 0 then (l[i]?.getD default).1 else (l[i]?.getD default).2)) ∧ ∀ s ∈ l, pair32 s
def PairsAt (a : Option Addr) (w : World) (l : List (Int × Int)) : Prop :=
  ∀ i, i < l.length → ∀ W, Ext w W → ∃ b off x y, a = some ⟨b, off, none⟩ ∧ Hid (l[i]? = some (x, y)) ∧ pair32 (x, y) ∧
    W.cell? ⟨b, off + i * 2, none⟩ = some (.int .i32 x) ∧ W.cell? ⟨b, off + i * 2 + 1, none⟩ = some (.int .i32 y)
theorem Pairs.ext {w w' : World} {v : Value} {l : List (Int × Int)} (h : Pairs w v l) (e : Ext w w') : Pairs w' v l := ⟨Sl.ext h.1 e, h.2⟩
theorem Pairs.open {w : World} {v : Value} {l : List (Int × Int)} (h : Pairs w v l) :
    ∃ a c, v = .slice a l.length c ∧ l.length ≤ c ∧ c ≤ 9223372036854775807 ∧ PairsAt a w l := by
  obtain ⟨a, c, hv, hn, hc, h1⟩ := Sl.open h.1
  refine ⟨a, c, hv, hn, hc, fun i hi W e => ?_⟩
  obtain ⟨b, off, ha, _, h2⟩ := h1 i hi
  obtain ⟨⟨x, y⟩, _, ex⟩ := drop_cons l i hi
  refine ⟨b, off, x, y, ha, ex, h.2 _ (List.mem_of_getElem? ex), ?_, ?_⟩
  · have := h2 W e 0 (by omega)
    simpa [ex] using this
  · have := h2 W e 1 (by omega)
    simpa [ex] using this
/-- a row of spans of the call's own -/
def Row (B : Nat) (w : World) (g n c : Nat) (l : List (Int × Int)) : Prop := w.ownsRow B 25 2 (.slice (some ⟨g, 0, none⟩) n c) n (spanCells l) ∧ n = l.length
structure Four (B : Nat) (w : World) (g1 n1 c1 : Nat) (l1 : List (Int × Int)) (g2 n2 c2 : Nat) (l2 : List (Int × Int)) (g3 n3 c3 : Nat) (l3 : List (Int × Int)) (g4 n4 c4 : Nat) (l4 : List (Int × Int)) : Prop where
  o1 : Row B w g1 n1 c1 l1
  o2 : Row B w g2 n2 c2 l2
  o3 : Row B w g3 n3 c3 l3
  o4 : Row B w g4 n4 c4 l4
  d12 : g1 ≠ g2
  d13 : g1 ≠ g3
  d14 : g1 ≠ g4
  d23 : g2 ≠ g3
  d24 : g2 ≠ g4
  d34 : g3 ≠ g4
section
variable {B : Nat} {w w' : World} {g1 n1 c1 g2 n2 c2 g3 n3 c3 g4 n4 c4 : Nat} {l1 l2 l3 l4 : List (Int × Int)}
theorem Row.ext {g n c : Nat} {l : List (Int × Int)} (h : Row B w g n c l) (k : Ext w w') : Row B w' g n c l := ⟨owns_ext h.1 k, h.2⟩
theorem Row.lt {g n c : Nat} {l : List (Int × Int)} (h : Row B w g n c l) : B ≤ g ∧ g < w.heap.size := h.1.lt g rfl
theorem Row.read {g n c : Nat} {l : List (Int × Int)} (h : Row B w g n c l) : Spans w (.slice (some ⟨g, 0, none⟩) n c) l := by
  obtain ⟨h1, h2⟩ := h
  subst h2
  exact SpansO.read h1
theorem Row.empty {g : Nat} (h : Blk w g 25 #[]) (hB : B ≤ g) : Row B w g 0 0 [] :=
  ⟨⟨rfl, .inr ⟨g, 0, #[], rfl, hB, h, Nat.le_refl _, by unfold maxLen; omega, rfl, rfl⟩⟩, rfl⟩
theorem Row.far {g n c g' : Nat} {l : List (Int × Int)} (h : Row B w g n c l) (hg : w.grownBy w' (some g')) (hne : g ≠ g') : Row B w' g n c l :=
  ⟨((Keep.refl (fun k => k = g') w).grown hg (fun k e => Or.inl (by cases e; rfl))).owns h.1 (fun k e => by cases e; exact hne), h.2⟩
theorem Four.ext (h : Four B w g1 n1 c1 l1 g2 n2 c2 l2 g3 n3 c3 l3 g4 n4 c4 l4) (k : Ext w w') : Four B w' g1 n1 c1 l1 g2 n2 c2 l2 g3 n3 c3 l3 g4 n4 c4 l4 :=
  ⟨h.o1.ext k, h.o2.ext k, h.o3.ext k, h.o4.ext k, h.d12, h.d13, h.d14, h.d23, h.d24, h.d34⟩
theorem Four.swap (h : Four B w g1 n1 c1 l1 g2 n2 c2 l2 g3 n3 c3 l3 g4 n4 c4 l4) : Four B w g2 n2 c2 l2 g1 n1 c1 l1 g3 n3 c3 l3 g4 n4 c4 l4 :=
  ⟨h.o2, h.o1, h.o3, h.o4, h.d12.symm, h.d23, h.d24, h.d13, h.d14, h.d34⟩
theorem Four.turn (h : Four B w g1 n1 c1 l1 g2 n2 c2 l2 g3 n3 c3 l3 g4 n4 c4 l4) : Four B w g3 n3 c3 l3 g4 n4 c4 l4 g1 n1 c1 l1 g2 n2 c2 l2 :=
  ⟨h.o3, h.o4, h.o1, h.o2, h.d34, h.d13.symm, h.d23.symm, h.d14.symm, h.d24.symm, h.d12⟩
theorem Four.push {v : Value} {x y : Int} (h : Four B w g1 n1 c1 l1 g2 n2 c2 l2 g3 n3 c3 l3 g4 n4 c4 l4) (hown : w'.ownsRow B 25 2 v (n1 + 1) (spanCells l1 ++ [.int .i64 x, .int .i64 y])) (hg : w.grownBy w' (some g1)) (hat : v.ownBlock = some g1 ∨ v.ownBlock = some w.heap.size) :
    ∃ g c, v = .slice (some ⟨g, 0, none⟩) (n1 + 1) c ∧ Four B w' g (n1 + 1) c (l1 ++ [(x, y)]) g2 n2 c2 l2 g3 n3 c3 l3 g4 n4 c4 l4 := by
  obtain ⟨g, c, rfl⟩ := owns_pos hown (by omega)
  have h2 := h.o2.lt
  have h3 := h.o3.lt
  have h4 := h.o4.lt
  have hg' : g = g1 ∨ g = w.heap.size := by
    rcases hat with e | e
    · cases e; exact Or.inl rfl
    · cases e; exact Or.inr rfl
  refine ⟨g, c, rfl, ⟨⟨by rw [spanCells_app]; exact hown, by rw [List.length_append, ← h.o1.2]; rfl⟩, h.o2.far hg h.d12.symm, h.o3.far hg h.d13.symm, h.o4.far hg h.d14.symm, ?_, ?_, ?_, h.d23, h.d24, h.d34⟩⟩
  · rcases hg' with rfl | rfl
    · exact h.d12
    · omega
  · rcases hg' with rfl | rfl
    · exact h.d13
    · omega
  · rcases hg' with rfl | rfl
    · exact h.d14
    · omega
end
theorem far32 {z : Int} (h1 : -20000000000 ≤ z) (h2 : z ≤ 20000000000) : farB z = false := by
  unfold farB
  rw [decide_eq_false (by omega), decide_eq_false (by omega)]; rfl
theorem ranged32 {l : List (Int × Int)} (h : ∀ s ∈ l, pair32 s) : rangedB l = true := by
  unfold rangedB
  rw [List.all_eq_true]
  intro s hs
  obtain ⟨⟨a, b⟩, c, d⟩ := h s hs
  rw [far32 (by omega) (by omega), far32 (by omega) (by omega)]
  rfl
theorem ranged32m {l : List (Int × Int)} {k : Int} (k0 : -2147483648 ≤ k) (k1 : k ≤ 2147483647) (h : ∀ s ∈ l, pair32 s) : rangedB (moveL l k) = true := by
  unfold rangedB moveL
  rw [List.all_eq_true]
  intro s hs
  obtain ⟨q, hq, rfl⟩ := List.mem_map.1 hs
  obtain ⟨⟨a, b⟩, c, d⟩ := h q hq
  dsimp only
  rw [far32 (by omega) (by omega), far32 (by omega) (by omega)]
  rfl
theorem comb32 {j : Int} {a b : List (Int × Int)} (ha : ∀ s ∈ a, pair32 s) (hb : ∀ s ∈ b, pair32 s) : ∀ s ∈ combL j a b, pair32 s := by
  intro s hs
  obtain ⟨h1, h2⟩ := (comb_is j a b).2.2 s hs
  have h : ∀ z ∈ insAll (a ++ b), -2147483648 ≤ z ∧ z ≤ 2147483647 := fun z hz => by
    obtain ⟨q, hq, e⟩ := insAll_only hz
    have hp : pair32 q := by
      rcases List.mem_append.1 hq with hq | hq
      · exact ha q hq
      · exact hb q hq
    rcases e with rfl | rfl
    · exact hp.1
    · exact hp.2
  exact ⟨h _ h1, h _ h2⟩
theorem gap_good {l : List (Int × Int)} {n wf wt x y : Int} {ok : Bool} (h : GapOut l n wf wt ok x y) (hb : gapBad l n wf wt = false) : GapIs (combL 0 l []) n wf wt ok x y := by
  rcases h with ⟨h1, _⟩ | ⟨_, h2⟩
  · rw [hb] at h1; cases h1
  · exact h2
theorem gap_first {D : List (Int × Int)} {x y : Int} {ok : Bool} (hD : ∀ s ∈ D, pair32 s) (hc : chainB none D = true) (h : GapOut D 5 (-2147483648) 8589934592 ok x y) : GapIs D 5 (-2147483648) 8589934592 ok x y := by
  have := gap_good h (by unfold gapBad; rw [ranged32 hD]; decide)
  rwa [comb_norm hc] at this
theorem gap_second {D : List (Int × Int)} {x y x2 y2 k : Int} {ok2 : Bool} (k0 : -2147483648 ≤ k) (k1 : k ≤ 2147483647) (hD : ∀ s ∈ D, pair32 s) (hc : chainB none D = true) (h : GapIs D 5 (-2147483648) 8589934592 true x y)
    (h2 : GapOut (moveL D k) 5 (-2147483648 + k) (8589934592 + k) ok2 x2 y2) : ok2 = true ∧ x2 = x + k ∧ y2 = y + k ∧ -2147483648 ≤ x ∧ x ≤ 8589934592 := by
  have h3 := gap_good h2 (by unfold gapBad; rw [ranged32m k0 k1 hD, far32 (z := -2147483648 + k) (by omega) (by omega), far32 (z := 8589934592 + k) (by omega) (by omega)]; rfl)
  rw [comb_norm (moveL_chain k (p := none) hc)] at h3
  obtain ⟨e1, e2, e3⟩ := gap_unique (moveL_gap (k := k) h) h3
  obtain ⟨a1, a2, a3, _⟩ := h.yes rfl
  exact ⟨e1.symm, e2.symm, e3.symm, a1, by omega⟩
theorem take_snoc {l : List (Int × Int)} {i : Nat} {s : Int × Int} (h : l[i]? = some s) : l.take (i + 1) = l.take i ++ [s] := by rw [List.take_add_one, h]; rfl
theorem moveL_snoc (l : List (Int × Int)) (k x y : Int) : moveL (l ++ [(x, y)]) k = moveL l k ++ [(x + k, y + k)] := by unfold moveL; rw [List.map_append]; rfl
end Go.Proofs.Ytfajejelelbmmaa
