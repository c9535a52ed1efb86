/- Readings from blocks; the law's example, walked and read. -/
import Derived.Test.YtonmlmkemliefaaCheck
import Derived.Test.YtonmlmkemliefaaBestC
namespace Go.Proofs.Ytonmlmkemliefaa
open Go.RowKit

theorem sl_of_blk {w : World} {g : Nat} {t : TypeId} {cs : Array Value} {k n c : Nat} {F : Nat → Nat → Value} (hb : Blk w g t cs) (hn : n ≤ c) (hc : c ≤ maxLen) (h : ∀ i, i < n → ∀ j, j < k → cs[i * k + j]? = some (F i j)) :
    Sl w k (.slice (some ⟨g, 0, none⟩) n c) n F :=
  ⟨_, _, rfl, hn, hc, fun _ => ⟨g, 0, rfl, hb.lt, fun i hi j hj => by rw [hb.cell, Nat.zero_add]; exact h i hi j hj⟩⟩
theorem ints_of_blk {w : World} {g : Nat} {t : TypeId} {c : Nat} {l : List Int} (hb : Blk w g t (l.map (Value.int .i64)).toArray) (hn : l.length ≤ c) (hc : c ≤ maxLen) : Ints w (.slice (some ⟨g, 0, none⟩) l.length c) l :=
  sl_of_blk hb hn hc fun i hi j hj => by
    obtain rfl : j = 0 := by omega
    simp [hi]
def spanCells (l : List (Int × Int)) : List Value := l.flatMap fun s => [.int .i64 s.1, .int .i64 s.2]
theorem spanCells_at : ∀ {l : List (Int × Int)} (i : Nat) (s : Int × Int), l[i]? = some s → (spanCells l)[i * 2]? = some (.int .i64 s.1) ∧ (spanCells l)[i * 2 + 1]? = some (.int .i64 s.2)
  | [], i, s, h => by simp at h
  | x :: r, 0, s, h => by simp at h; subst h; exact ⟨rfl, rfl⟩
  | x :: r, i + 1, s, h => by
    have := spanCells_at (l := r) i s (by simpa using h)
    rw [show (i + 1) * 2 = i * 2 + 1 + 1 by omega, show i * 2 + 1 + 1 + 1 = i * 2 + 1 + 1 + 1 by rfl]
    exact this
theorem spans_of_blk {w : World} {g : Nat} {t : TypeId} {c : Nat} {l : List (Int × Int)} (hb : Blk w g t (spanCells l).toArray) (hn : l.length ≤ c) (hc : c ≤ maxLen) : Spans w (.slice (some ⟨g, 0, none⟩) l.length c) l :=
  sl_of_blk hb hn hc fun i hi j hj => by
    have h := spanCells_at i l[i] (List.getElem?_eq_getElem hi)
    rcases j with _ | _ | j
    · simp only [List.getElem?_toArray, Nat.add_zero, h.1]; simp [hi]
    · simp only [List.getElem?_toArray, h.2]; simp [hi]
    · omega
def RowCells (w : World) (g : Nat) (xs : List Value) : Prop := g < w.heap.size ∧ ∀ j u, xs[j]? = some u → w.cell? ⟨g, j, none⟩ = some u
theorem Blk.row {w : World} {g : Nat} {t : TypeId} {cs : Array Value} (h : Blk w g t cs) : RowCells w g cs.toList :=
  ⟨h.lt, fun j u hu => by rw [h.cell]; simpa using hu⟩
def OptsC (w : World) : List OptD → List Value → Prop
  | [], xs => xs = []
  | o :: r, xs => ∃ sv ys, xs = .int .i64 o.harm :: .int .i64 o.room :: sv :: ys ∧ Spans w sv o.spans ∧ OptsC w r ys
theorem OptsC.ext {w w' : World} (e : Ext w w') : ∀ {l : List OptD} {xs : List Value}, OptsC w l xs → OptsC w' l xs
  | [], _, h => h
  | _ :: _, _, ⟨sv, ys, h, h1, h2⟩ => ⟨sv, ys, h, h1.ext e, OptsC.ext e h2⟩
theorem OptsC.at_ {w : World} : ∀ {l : List OptD} {xs : List Value}, OptsC w l xs → ∀ i o, l[i]? = some o → ∃ sv, xs[i * 3]? = some (.int .i64 o.harm) ∧ xs[i * 3 + 1]? = some (.int .i64 o.room) ∧ xs[i * 3 + 2]? = some sv ∧ Spans w sv o.spans
  | [], _, _, i, o, h => by simp at h
  | x :: r, _, ⟨sv, ys, e, h1, h2⟩, 0, o, h => by simp at h; subst h; exact ⟨sv, by rw [e]; rfl, by rw [e]; rfl, by rw [e]; rfl, h1⟩
  | x :: r, _, ⟨sv, ys, e, h1, h2⟩, i + 1, o, h => by
    obtain ⟨sv', a, b, c, d⟩ := OptsC.at_ h2 i o (by simpa using h)
    have e3 : ∀ j, (i + 1) * 3 + j = (i * 3 + j) + 1 + 1 + 1 := fun j => by omega
    refine ⟨sv', ?_, ?_, ?_, d⟩
    · rw [e, show (i + 1) * 3 = i * 3 + 1 + 1 + 1 by omega]; exact a
    · rw [e, e3]; exact b
    · rw [e, e3]; exact c
theorem OptsC.snoc {w : World} {o : OptD} {sv : Value} (hs : Spans w sv o.spans) : ∀ {l : List OptD} {xs : List Value}, OptsC w l xs → OptsC w (l ++ [o]) (xs ++ [.int .i64 o.harm, .int .i64 o.room, sv])
  | [], _, h => by cases h; exact ⟨sv, [], rfl, hs, rfl⟩
  | _ :: _, _, ⟨sv', ys, e, h1, h2⟩ => ⟨sv', _, by rw [e]; rfl, h1, OptsC.snoc hs h2⟩
theorem opts_of_c {w : World} {g c : Nat} {l : List OptD} {xs : List Value} (hr : RowCells w g xs) (hx : OptsC w l xs) (hn : l.length ≤ c) (hc : c ≤ maxLen) : Opts w (.slice (some ⟨g, 0, none⟩) l.length c) l := by
  have hat := hx.at_
  refine ⟨fun i => xs[i * 3 + 2]?.getD undef, ⟨_, _, rfl, hn, hc, fun _ => ⟨g, 0, rfl, hr.1, fun i hi j hj => ?_⟩⟩, fun i hi => ?_⟩
  · obtain ⟨sv, a, b, c, d⟩ := hat i l[i] (List.getElem?_eq_getElem hi)
    rw [Nat.zero_add]
    rcases j with _ | _ | _ | j
    · rw [Nat.add_zero, hr.2 _ _ a]; simp [hi]
    · rw [hr.2 _ _ b]; simp [hi]
    · rw [hr.2 _ _ c]; simp [c]
    · omega
  · obtain ⟨sv, a, b, c, d⟩ := hat i l[i] (List.getElem?_eq_getElem hi)
    simp only [c, List.getElem?_eq_getElem hi, Option.getD_some]
    exact d
def WishesC (w : World) : List WishD → List Value → Prop
  | [], xs => xs = []
  | x :: r, xs => ∃ pv ov ys, xs = .int .i64 x.meeting :: pv :: ov :: ys ∧ (Ints w pv x.people ∧ Opts w ov x.opts) ∧ WishesC w r ys
theorem WishesC.ext {w w' : World} (e : Ext w w') : ∀ {l : List WishD} {xs : List Value}, WishesC w l xs → WishesC w' l xs
  | [], _, h => h
  | _ :: _, _, ⟨pv, ov, ys, h, h1, h2⟩ => ⟨pv, ov, ys, h, ⟨h1.1.ext e, h1.2.ext e⟩, WishesC.ext e h2⟩
theorem WishesC.at_ {w : World} : ∀ {l : List WishD} {xs : List Value}, WishesC w l xs → ∀ i x, l[i]? = some x → ∃ pv ov, xs[i * 3]? = some (.int .i64 x.meeting) ∧ xs[i * 3 + 1]? = some pv ∧ xs[i * 3 + 2]? = some ov ∧ Ints w pv x.people ∧ Opts w ov x.opts
  | [], _, _, i, o, h => by simp at h
  | x :: r, _, ⟨pv, ov, ys, e, h1, h2⟩, 0, o, h => by simp at h; subst h; exact ⟨pv, ov, by rw [e]; rfl, by rw [e]; rfl, by rw [e]; rfl, h1⟩
  | x :: r, _, ⟨pv, ov, ys, e, h1, h2⟩, i + 1, o, h => by
    obtain ⟨pv', ov', a, b, c, d⟩ := WishesC.at_ h2 i o (by simpa using h)
    have e3 : ∀ j, (i + 1) * 3 + j = (i * 3 + j) + 1 + 1 + 1 := fun j => by omega
    refine ⟨pv', ov', ?_, ?_, ?_, d⟩
    · rw [e, show (i + 1) * 3 = i * 3 + 1 + 1 + 1 by omega]; exact a
    · rw [e, e3]; exact b
    · rw [e, e3]; exact c
theorem WishesC.snoc {w : World} {x : WishD} {pv ov : Value} (hs : Ints w pv x.people ∧ Opts w ov x.opts) : ∀ {l : List WishD} {xs : List Value}, WishesC w l xs → WishesC w (l ++ [x]) (xs ++ [.int .i64 x.meeting, pv, ov])
  | [], _, h => by cases h; exact ⟨pv, ov, [], rfl, hs, rfl⟩
  | _ :: _, _, ⟨pv', ov', ys, e, h1, h2⟩ => ⟨pv', ov', _, by rw [e]; rfl, h1, WishesC.snoc hs h2⟩
theorem wishes_of_c {w : World} {g c : Nat} {l : List WishD} {xs : List Value} (hr : RowCells w g xs) (hx : WishesC w l xs) (hn : l.length ≤ c) (hc : c ≤ maxLen) : Wishes w (.slice (some ⟨g, 0, none⟩) l.length c) l := by
  have hat := hx.at_
  refine ⟨fun i => xs[i * 3 + 1]?.getD undef, fun i => xs[i * 3 + 2]?.getD undef, ⟨_, _, rfl, hn, hc, fun _ => ⟨g, 0, rfl, hr.1, fun i hi j hj => ?_⟩⟩, fun i hi => ?_⟩
  · obtain ⟨pv, ov, a, b, c, d⟩ := hat i l[i] (List.getElem?_eq_getElem hi)
    rw [Nat.zero_add]
    rcases j with _ | _ | _ | j
    · rw [Nat.add_zero, hr.2 _ _ a]; simp [hi]
    · rw [hr.2 _ _ b]; simp [b]
    · rw [hr.2 _ _ c]; simp [c]
    · omega
  · obtain ⟨pv, ov, a, b, c, d⟩ := hat i l[i] (List.getElem?_eq_getElem hi)
    simp only [b, c, List.getElem?_eq_getElem hi, Option.getD_some]
    exact d
end Go.Proofs.Ytonmlmkemliefaa
