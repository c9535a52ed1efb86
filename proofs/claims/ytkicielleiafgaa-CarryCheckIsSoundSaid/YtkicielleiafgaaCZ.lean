/- Memory and plain words for CarryCheckIsSound: changes of three bytes; steps of the call's own that are written and made anew. -/
import Derived.Test.YtkicielleiafgaaCX
namespace Go.Proofs.Ytkicielleiafgaa
open Go.RowKit

abbrev TriD := Int × Int × Int
def triOk (s : TriD) : Prop := byteB s.1 ∧ byteB s.2.1 ∧ byteB s.2.2
/-- a slice of arrays of three bytes that reads as l -/
def Tris (w : World) (v : Value) (l : List TriD) : Prop :=
  Sl w 3 v l.length (fun i j => .int .u8 (if j = 0 then (l[i]?.getD default).1 else if j = 1 then (l[i]?.getD default).2.1 else (l[i]?.getD default).2.2)) ∧ ∀ s ∈ l, triOk s
theorem Tris.ext {w w' : World} {v : Value} {l : List TriD} (h : Tris w v l) (e : Ext w w') : Tris w' v l := ⟨Sl.ext h.1 e, h.2⟩
def TrisAt (a : Option Addr) (w : World) (l : List TriD) : Prop :=
  ∀ i, i < l.length → ∀ W, Ext w W → ∃ b off x y z, a = some ⟨b, off, none⟩ ∧ byteB x ∧ byteB y ∧ byteB z ∧ b < W.heap.size ∧
    W.cell? ⟨b, off + i * 3, none⟩ = some (.int .u8 x) ∧ W.cell? ⟨b, off + i * 3 + 1, none⟩ = some (.int .u8 y) ∧ W.cell? ⟨b, off + i * 3 + 2, none⟩ = some (.int .u8 z)
theorem Tris.open {w : World} {v : Value} {l : List TriD} (h : Tris w v l) :
    ∃ a c, v = .slice a l.length c ∧ l.length ≤ c ∧ c ≤ 9223372036854775807 ∧ TrisAt a w l := by
  obtain ⟨a, c, hv, hn, hc, h1⟩ := Sl.open h.1
  refine ⟨a, c, hv, hn, hc, fun i hi W e => ?_⟩
  obtain ⟨b, off, ha, hb, h2⟩ := h1 i hi
  have ex : l[i]? = some l[i] := by simp [hi]
  have hk := h.2 _ (List.mem_of_getElem? ex)
  generalize l[i] = s at ex hk
  obtain ⟨x, y, z⟩ := s
  refine ⟨b, off, x, y, z, ha, hk.1, hk.2.1, hk.2.2, Nat.lt_of_lt_of_le hb e.size, ?_, ?_, ?_⟩
  · have := h2 W e 0 (by omega)
    simpa [ex] using this
  · have := h2 W e 1 (by omega)
    simpa [ex] using this
  · have := h2 W e 2 (by omega)
    simpa [ex] using this

theorem stepCells_apps (a b : List (Int × Int)) : spanCells (a ++ b) = spanCells a ++ spanCells b := by simp [spanCells]
theorem stepCells_len : ∀ (l : List (Int × Int)), (spanCells l).length = l.length * 2
  | [] => rfl
  | x :: r => by
    have := stepCells_len r
    simp only [spanCells, List.flatMap_cons, List.length_append, List.length_cons, List.length_nil] at this ⊢
    omega
theorem stepCells_one {l : List (Int × Int)} : ∀ u ∈ spanCells l, u.oneCell' = true := by
  intro u hu
  simp only [spanCells, List.mem_flatMap] at hu
  obtain ⟨s, _, hs⟩ := hu
  simp at hs
  rcases hs with rfl | rfl <;> rfl
theorem stepCells_set : ∀ {l : List (Int × Int)} {i : Nat} (x y : Int), i < l.length → spanCells (l.set i (x, y)) = ((spanCells l).set (i * 2) (.int .i64 x)).set (i * 2 + 1) (.int .i64 y)
  | [], _, _, _, h => by simp at h
  | s :: r, 0, x, y, _ => by simp [spanCells]
  | s :: r, i + 1, x, y, h => by
    have ih := stepCells_set (l := r) (i := i) x y (by simpa using h)
    have e1 : spanCells (s :: r) = .int .i64 s.1 :: .int .i64 s.2 :: spanCells r := rfl
    have e2 : spanCells (s :: r.set i (x, y)) = .int .i64 s.1 :: .int .i64 s.2 :: spanCells (r.set i (x, y)) := rfl
    rw [List.set_cons_succ, e2, ih, e1, show (i + 1) * 2 + 1 = i * 2 + 1 + 1 + 1 by omega, show (i + 1) * 2 = i * 2 + 1 + 1 by omega]
    rfl
theorem Spans.reads2 {w : World} {a : Option Addr} {n c : Nat} {l : List (Int × Int)} (h : Spans w (.slice a n c) l) : Reads w w.heap.size 2 a n (spanCells l) := by
  obtain ⟨_, _, e, _, _, h⟩ := h
  cases e
  refine ⟨stepCells_len l, fun h0 => ?_⟩
  obtain ⟨b, off, rfl, hb, hc⟩ := h h0
  refine ⟨_, rfl, hb, fun j u hu => ?_⟩
  have hj : j < l.length * 2 := by rw [← stepCells_len]; exact (List.getElem?_eq_some_iff.1 hu).1
  have hi : j / 2 < l.length := by omega
  have := hc (j / 2) hi (j % 2) (by omega)
  have e : (⟨b, off, none⟩ : Addr).add j = ⟨b, off + j / 2 * 2 + j % 2, none⟩ := by
    unfold Addr.add
    split <;> simp_all <;> omega
  rw [e, this]
  have hs := spanCells_at (j / 2) l[j / 2] (List.getElem?_eq_getElem hi)
  rcases Nat.mod_two_eq_zero_or_one j with h2 | h2
  · rw [show j / 2 * 2 = j by omega] at hs
    rw [hs.1] at hu
    cases hu
    simp [h2, hi]
  · rw [show j / 2 * 2 + 1 = j by omega] at hs
    rw [hs.2] at hu
    cases hu
    simp [h2, hi]
theorem Spans.take' {w : World} {a : Option Addr} {n c m : Nat} {l : List (Int × Int)} (h : Spans w (.slice a n c) l) (hm : m ≤ n) : Spans w (.slice a m c) (l.take m) := by
  obtain ⟨a', c', e, h1, h2, h3⟩ := h
  have en : n = l.length := by cases e; rfl
  cases e
  have hl : (l.take m).length = m := by simp; omega
  refine ⟨a, c, by rw [hl], by rw [hl]; omega, h2, fun h0 => ?_⟩
  obtain ⟨b, off, e1, e2, e3⟩ := h3 (by omega)
  refine ⟨b, off, e1, e2, fun i hi j hj => ?_⟩
  rw [hl] at hi
  rw [e3 i (by omega) j hj]
  simp only [List.getElem?_take_of_lt hi]
theorem Spans.tail {w : World} {a : Option Addr} {n c k : Nat} {l : List (Int × Int)} (h : Spans w (.slice a n c) l) (hk : k ≤ n) (hc : n ≤ c) :
    Reads w w.heap.size 2 (if c = k then a else a.map (·.add (k * 2))) (n - k) (spanCells (l.drop k)) := by
  have := h.reads2.cut hk hc
  have e : (spanCells l).drop (k * 2) = spanCells (l.drop k) := by
    have e1 : spanCells l = spanCells (l.take k) ++ spanCells (l.drop k) := by rw [← stepCells_apps, List.take_append_drop]
    have hkl : k ≤ l.length := by
      obtain ⟨_, _, e, _⟩ := h
      cases e
      exact hk
    have e2 : (spanCells (l.take k)).length = k * 2 := by rw [stepCells_len, List.length_take, Nat.min_eq_left hkl]
    rw [e1, ← e2, List.drop_left]
  rwa [e] at this
theorem StepsO.app {W : World} {B n m : Nat} {v : Value} {a b : List (Int × Int)} (h : W.ownsRow B 42 2 v (n + m) (spanCells a ++ spanCells b)) (ha : a.length = n) (hb : b.length = m) : StepsO W B v (a ++ b) := by
  unfold StepsO
  rw [List.length_append, ha, hb, stepCells_apps]
  exact h
/-- a step is written in place -/
theorem StepsO.set_ {W : World} {B g n c i : Nat} {l : List (Int × Int)} (h : StepsO W B (.slice (some ⟨g, 0, none⟩) n c) l) (hn : n = l.length) (hi : i < n) (x y : Int) :
    StepsO ((W.setCell ⟨g, i * 2, none⟩ (.int .i64 x)).setCell ⟨g, i * 2 + 1, none⟩ (.int .i64 y)) B (.slice (some ⟨g, 0, none⟩) n c) (l.set i (x, y)) := by
  subst hn
  have h1 := (World.ownsRow.stored h (i * 2) (.int .i64 x)).1
  have h2 := (h1.stored (i * 2 + 1) (.int .i64 y)).1
  unfold StepsO
  rw [List.length_set, stepCells_set x y hi]
  exact h2
end Go.Proofs.Ytkicielleiafgaa
