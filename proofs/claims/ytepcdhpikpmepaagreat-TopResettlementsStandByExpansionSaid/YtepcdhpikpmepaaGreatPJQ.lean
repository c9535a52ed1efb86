/- Merged parts: Read, Own. -/
import Derived.Test.YtepcdhpikpmepaaGreatPIQ
import Derived.Test.YtepcdhpikpmepaaGreatPGQ
/- Readings from blocks; the law's example, walked and read. -/
namespace Go.Proofs.YtepcdhpikpmepaaGreat
open Go.RowKit

theorem sl_of_blk {w : World} {g : Nat} {t : TypeId} {cs : Array Value} {k n c : Nat} {F : Nat → Nat → Value} (hb : Blk w g t cs) (hn : n ≤ c) (hc : c ≤ maxLen) (h : ∀ i, i < n → ∀ j, j < k → cs[i * k + j]? = some (F i j)) :
  Sl w k (.slice (some ⟨g, 0, none⟩) n c) n F :=
 ⟨_, _, rfl, hn, hc, fun _ => ⟨g, 0, rfl, hb.lt, fun i hi j hj => by rw [hb.cell, Nat.zero_add]; exact h i hi j hj⟩⟩
theorem ints_of_blk {w : World} {g : Nat} {t : TypeId} {c : Nat} {l : List Int} (hb : Blk w g t (l.map (Value.int .i64)).toArray) (hn : l.length ≤ c) (hc : c ≤ maxLen) : Ints w (.slice (some ⟨g, 0, none⟩) l.length c) l :=
 sl_of_blk hb hn hc fun i hi j hj => by
  obtain rfl : j = 0 := by omega
  simp [hi]
def spanCells (l : List (Int × Int)) : List Value := l.flatMap fun s => [.int .i64 s.1, .int .i64 s.2]
theorem spanCells_at : ∀ {l : List (Int × Int)} (i : Nat) (s : Int × Int), l[i]? = some s → (spanCells l)[i * 2]? = some (.int .i64 s.1) ∧ (spanCells l)[i * 2 + 1]? = some (.int .i64 s.2)
 | [], i, s, h => by simp at h
 | x :: r, 0, s, h => by simp at h; subst h; exact ⟨rfl, rfl⟩
 | x :: r, i + 1, s, h => by
  have := spanCells_at (l := r) i s (by simpa using h)
  rw [show (i + 1) * 2 = i * 2 + 1 + 1 by omega, show i * 2 + 1 + 1 + 1 = i * 2 + 1 + 1 + 1 by rfl]
  exact this
theorem spans_of_blk {w : World} {g : Nat} {t : TypeId} {c : Nat} {l : List (Int × Int)} (hb : Blk w g t (spanCells l).toArray) (hn : l.length ≤ c) (hc : c ≤ maxLen) : Spans w (.slice (some ⟨g, 0, none⟩) l.length c) l :=
 sl_of_blk hb hn hc fun i hi j hj => by
  have h := spanCells_at i l[i] (List.getElem?_eq_getElem hi)
  rcases j with _ | _ | j
  ·simp only [List.getElem?_toArray, Nat.add_zero, h.1]; simp [hi]
  ·simp only [List.getElem?_toArray, h.2]; simp [hi]
  ·omega
def RowCells (w : World) (g : Nat) (xs : List Value) : Prop := g < w.heap.size ∧ ∀ j u, xs[j]? = some u → w.cell? ⟨g, j, none⟩ = some u
theorem Blk.row {w : World} {g : Nat} {t : TypeId} {cs : Array Value} (h : Blk w g t cs) : RowCells w g cs.toList :=
 ⟨h.lt, fun j u hu => by rw [h.cell]; simpa using hu⟩
def OptsC (w : World) : List OptD → List Value → Prop
 | [], xs => xs = []
 | o :: r, xs => ∃ sv ys, xs = .int .i64 o.harm :: .int .i64 o.room :: sv :: ys ∧ Spans w sv o.spans ∧ OptsC w r ys
theorem OptsC.ext {w w' : World} (e : Ext w w') : ∀ {l : List OptD} {xs : List Value}, OptsC w l xs → OptsC w' l xs
 | [], _, h => h
 | _ :: _, _, ⟨sv, ys, h, h1, h2⟩ => ⟨sv, ys, h, h1.ext e, OptsC.ext e h2⟩
theorem OptsC.at_ {w : World} : ∀ {l : List OptD} {xs : List Value}, OptsC w l xs → ∀ i o, l[i]? = some o → ∃ sv, xs[i * 3]? = some (.int .i64 o.harm) ∧ xs[i * 3 + 1]? = some (.int .i64 o.room) ∧ xs[i * 3 + 2]? = some sv ∧ Spans w sv o.spans
 | [], _, _, i, o, h => by simp at h
 | x :: r, _, ⟨sv, ys, e, h1, h2⟩, 0, o, h => by simp at h; subst h; exact ⟨sv, by rw [e]; rfl, by rw [e]; rfl, by rw [e]; rfl, h1⟩
 | x :: r, _, ⟨sv, ys, e, h1, h2⟩, i + 1, o, h => by
  obtain ⟨sv', a, b, c, d⟩ := OptsC.at_ h2 i o (by simpa using h)
  have e3 : ∀ j, (i + 1) * 3 + j = (i * 3 + j) + 1 + 1 + 1 := fun j => by omega
  refine ⟨sv', ?_, ?_, ?_, d⟩
  ·rw [e, show (i + 1) * 3 = i * 3 + 1 + 1 + 1 by omega]; exact a
  ·rw [e, e3]; exact b
  ·rw [e, e3]; exact c
theorem OptsC.snoc {w : World} {o : OptD} {sv : Value} (hs : Spans w sv o.spans) : ∀ {l : List OptD} {xs : List Value}, OptsC w l xs → OptsC w (l ++ [o]) (xs ++ [.int .i64 o.harm, .int .i64 o.room, sv])
 | [], _, h => by cases h; exact ⟨sv, [], rfl, hs, rfl⟩
 | _ :: _, _, ⟨sv', ys, e, h1, h2⟩ => ⟨sv', _, by rw [e]; rfl, h1, OptsC.snoc hs h2⟩
theorem opts_of_c {w : World} {g c : Nat} {l : List OptD} {xs : List Value} (hr : RowCells w g xs) (hx : OptsC w l xs) (hn : l.length ≤ c) (hc : c ≤ maxLen) : Opts w (.slice (some ⟨g, 0, none⟩) l.length c) l := by
 have hat := hx.at_
 refine ⟨fun i => xs[i * 3 + 2]?.getD undef, ⟨_, _, rfl, hn, hc, fun _ => ⟨g, 0, rfl, hr.1, fun i hi j hj => ?_⟩⟩, fun i hi => ?_⟩
 ·obtain ⟨sv, a, b, c, d⟩ := hat i l[i] (List.getElem?_eq_getElem hi)
  rw [Nat.zero_add]
  rcases j with _ | _ | _ | j
  ·rw [Nat.add_zero, hr.2 _ _ a]; simp [hi]
  ·rw [hr.2 _ _ b]; simp [hi]
  ·rw [hr.2 _ _ c]; simp [c]
  ·omega
 ·obtain ⟨sv, a, b, c, d⟩ := hat i l[i] (List.getElem?_eq_getElem hi)
  simp only [c, List.getElem?_eq_getElem hi, Option.getD_some]
  exact d
def WishesC (w : World) : List WishD → List Value → Prop
 | [], xs => xs = []
 | x :: r, xs => ∃ pv ov ys, xs = .int .i64 x.meeting :: pv :: ov :: ys ∧ (Ints w pv x.people ∧ Opts w ov x.opts) ∧ WishesC w r ys
theorem WishesC.ext {w w' : World} (e : Ext w w') : ∀ {l : List WishD} {xs : List Value}, WishesC w l xs → WishesC w' l xs
 | [], _, h => h
 | _ :: _, _, ⟨pv, ov, ys, h, h1, h2⟩ => ⟨pv, ov, ys, h, ⟨h1.1.ext e, h1.2.ext e⟩, WishesC.ext e h2⟩
theorem WishesC.at_ {w : World} : ∀ {l : List WishD} {xs : List Value}, WishesC w l xs → ∀ i x, l[i]? = some x → ∃ pv ov, xs[i * 3]? = some (.int .i64 x.meeting) ∧ xs[i * 3 + 1]? = some pv ∧ xs[i * 3 + 2]? = some ov ∧ Ints w pv x.people ∧ Opts w ov x.opts
 | [], _, _, i, o, h => by simp at h
 | x :: r, _, ⟨pv, ov, ys, e, h1, h2⟩, 0, o, h => by simp at h; subst h; exact ⟨pv, ov, by rw [e]; rfl, by rw [e]; rfl, by rw [e]; rfl, h1⟩
 | x :: r, _, ⟨pv, ov, ys, e, h1, h2⟩, i + 1, o, h => by
  obtain ⟨pv', ov', a, b, c, d⟩ := WishesC.at_ h2 i o (by simpa using h)
  have e3 : ∀ j, (i + 1) * 3 + j = (i * 3 + j) + 1 + 1 + 1 := fun j => by omega
  refine ⟨pv', ov', ?_, ?_, ?_, d⟩
  ·rw [e, show (i + 1) * 3 = i * 3 + 1 + 1 + 1 by omega]; exact a
  ·rw [e, e3]; exact b
  ·rw [e, e3]; exact c
theorem WishesC.snoc {w : World} {x : WishD} {pv ov : Value} (hs : Ints w pv x.people ∧ Opts w ov x.opts) : ∀ {l : List WishD} {xs : List Value}, WishesC w l xs → WishesC w (l ++ [x]) (xs ++ [.int .i64 x.meeting, pv, ov])
 | [], _, h => by cases h; exact ⟨pv, ov, [], rfl, hs, rfl⟩
 | _ :: _, _, ⟨pv', ov', ys, e, h1, h2⟩ => ⟨pv', ov', _, by rw [e]; rfl, h1, WishesC.snoc hs h2⟩
theorem wishes_of_c {w : World} {g c : Nat} {l : List WishD} {xs : List Value} (hr : RowCells w g xs) (hx : WishesC w l xs) (hn : l.length ≤ c) (hc : c ≤ maxLen) : Wishes w (.slice (some ⟨g, 0, none⟩) l.length c) l := by
 have hat := hx.at_
 refine ⟨fun i => xs[i * 3 + 1]?.getD undef, fun i => xs[i * 3 + 2]?.getD undef, ⟨_, _, rfl, hn, hc, fun _ => ⟨g, 0, rfl, hr.1, fun i hi j hj => ?_⟩⟩, fun i hi => ?_⟩
 ·obtain ⟨pv, ov, a, b, c, d⟩ := hat i l[i] (List.getElem?_eq_getElem hi)
  rw [Nat.zero_add]
  rcases j with _ | _ | _ | j
  ·rw [Nat.add_zero, hr.2 _ _ a]; simp [hi]
  ·rw [hr.2 _ _ b]; simp [b]
  ·rw [hr.2 _ _ c]; simp [c]
  ·omega
 ·obtain ⟨pv, ov, a, b, c, d⟩ := hat i l[i] (List.getElem?_eq_getElem hi)
  simp only [b, c, List.getElem?_eq_getElem hi, Option.getD_some]
  exact d
end Go.Proofs.YtepcdhpikpmepaaGreat

/- Rows that the call itself has made, with the types of their blocks: what stands when blocks of another type are written. -/
namespace Go.Proofs.YtepcdhpikpmepaaGreat
open Go.RowKit

def SpansO (w : World) (B : Nat) (v : Value) (l : List (Int × Int)) : Prop := w.ownsRow B 102 2 v l.length (spanCells l)
def IntsO (w : World) (B : Nat) (v : Value) (l : List Int) : Prop := w.ownsRow B 3 1 v l.length (l.map (Value.int .i64))
def OptsCO (w : World) (B : Nat) : List OptD → List Value → Prop
 | [], xs => xs = []
 | o :: r, xs => ∃ sv ys, xs = .int .i64 o.harm :: .int .i64 o.room :: sv :: ys ∧ SpansO w B sv o.spans ∧ OptsCO w B r ys
def OptsO (w : World) (B : Nat) (v : Value) (l : List OptD) : Prop := ∃ xs, w.ownsRow B 64 3 v l.length xs ∧ OptsCO w B l xs
def WishesCO (w : World) (B : Nat) : List WishD → List Value → Prop
 | [], xs => xs = []
 | x :: r, xs => ∃ pv ov ys, xs = .int .i64 x.meeting :: pv :: ov :: ys ∧ (IntsO w B pv x.people ∧ OptsO w B ov x.opts) ∧ WishesCO w B r ys
def WishesO (w : World) (B : Nat) (v : Value) (l : List WishD) : Prop := ∃ xs, w.ownsRow B 67 3 v l.length xs ∧ WishesCO w B l xs

def TX (w : World) (X : Nat → Prop) (T : TypeId) : Prop := ∀ g, X g → g < w.heap.size → ∃ cs, Blk w g T cs
theorem TX.no (w : World) (T : TypeId) : TX w (fun _ => False) T := fun _ h => h.elim
theorem TX.one {w : World} {g : Nat} {T : TypeId} {cs : Array Value} (h : Blk w g T cs) : TX w (fun k => k = g) T := by rintro _ rfl _; exact ⟨cs, h⟩
theorem TX.row {w : World} {B size n : Nat} {v : Value} {T : TypeId} {xs : List Value} (h : w.ownsRow B T size v n xs) : TX w (fun k => v.ownBlock = some k) T := fun _ hg _ => owns_block h hg

section
variable {w w' : World} {B B' : Nat} {v : Value} {X : Nat → Prop} {T : TypeId}
theorem owns_keepT {e : TypeId} {size n : Nat} {xs : List Value} (h : w.ownsRow B e size v n xs) (k : Keep X w w') (hX : TX w X T) (hne : e ≠ T) : w'.ownsRow B e size v n xs := by
 refine k.owns h fun g hg hx => ?_
 obtain ⟨cs, hc⟩ := owns_block h hg
 obtain ⟨cs', hc'⟩ := hX g hx hc.lt
 exact hne (blk_type hc hc')
theorem owns_ext {e : TypeId} {size n : Nat} {xs : List Value} (h : w.ownsRow B e size v n xs) (k : Ext w w') : w'.ownsRow B e size v n xs := (Keep.of_ext (X := fun _ => False) k).owns h fun _ _ => id
theorem owns_base {e : TypeId} {size n : Nat} {xs : List Value} (h : w.ownsRow B e size v n xs) (hB : B' ≤ B) : w.ownsRow B' e size v n xs := by
 refine ⟨h.1, ?_⟩
 rcases h.2 with h1 | ⟨g, cap, cur, rfl, hb, rest⟩
 ·exact Or.inl h1
 ·exact Or.inr ⟨g, cap, cur, rfl, by omega, rest⟩
theorem SpansO.keepT {l : List (Int × Int)} (h : SpansO w B v l) (k : Keep X w w') (hX : TX w X T) (h1 : 102 ≠ T) : SpansO w' B v l := owns_keepT h k hX h1
theorem IntsO.keepT {l : List Int} (h : IntsO w B v l) (k : Keep X w w') (hX : TX w X T) (h1 : 3 ≠ T) : IntsO w' B v l := owns_keepT h k hX h1
theorem OptsCO.keepT (k : Keep X w w') (hX : TX w X T) (h1 : 102 ≠ T) : ∀ {l : List OptD} {xs : List Value}, OptsCO w B l xs → OptsCO w' B l xs
 | [], _, h => h
 | _ :: _, _, ⟨sv, ys, e, h2, h3⟩ => ⟨sv, ys, e, h2.keepT k hX h1, OptsCO.keepT k hX h1 h3⟩
theorem OptsO.keepT {l : List OptD} (h : OptsO w B v l) (k : Keep X w w') (hX : TX w X T) (h1 : 102 ≠ T) (h2 : 64 ≠ T) : OptsO w' B v l :=
 let ⟨xs, a, b⟩ := h
 ⟨xs, owns_keepT a k hX h2, b.keepT k hX h1⟩
theorem WishesCO.keepT (k : Keep X w w') (hX : TX w X T) (h1 : 102 ≠ T) (h2 : 64 ≠ T) (h3 : 3 ≠ T) : ∀ {l : List WishD} {xs : List Value}, WishesCO w B l xs → WishesCO w' B l xs
 | [], _, h => h
 | _ :: _, _, ⟨pv, ov, ys, e, h4, h5⟩ => ⟨pv, ov, ys, e, ⟨h4.1.keepT k hX h3, h4.2.keepT k hX h1 h2⟩, WishesCO.keepT k hX h1 h2 h3 h5⟩
theorem WishesO.keepT {l : List WishD} (h : WishesO w B v l) (k : Keep X w w') (hX : TX w X T) (h1 : 102 ≠ T) (h2 : 64 ≠ T) (h3 : 3 ≠ T) (h4 : 67 ≠ T) : WishesO w' B v l :=
 let ⟨xs, a, b⟩ := h
 ⟨xs, owns_keepT a k hX h4, b.keepT k hX h1 h2 h3⟩
theorem SpansO.ext {l : List (Int × Int)} (h : SpansO w B v l) (k : Ext w w') : SpansO w' B v l := owns_ext h k
theorem IntsO.ext {l : List Int} (h : IntsO w B v l) (k : Ext w w') : IntsO w' B v l := owns_ext h k
theorem OptsCO.ext {l : List OptD} {xs : List Value} (h : OptsCO w B l xs) (k : Ext w w') : OptsCO w' B l xs := OptsCO.keepT (T := 102 + 1) (Keep.of_ext k) (TX.no _ _) (by decide) h
theorem OptsO.ext {l : List OptD} (h : OptsO w B v l) (k : Ext w w') : OptsO w' B v l := let ⟨xs, a, b⟩ := h; ⟨xs, owns_ext a k, b.ext k⟩
theorem WishesCO.ext (k : Ext w w') : ∀ {l : List WishD} {xs : List Value}, WishesCO w B l xs → WishesCO w' B l xs
 | [], _, h => h
 | _ :: _, _, ⟨pv, ov, ys, e, h4, h5⟩ => ⟨pv, ov, ys, e, ⟨h4.1.ext k, h4.2.ext k⟩, WishesCO.ext k h5⟩
theorem WishesO.ext {l : List WishD} (h : WishesO w B v l) (k : Ext w w') : WishesO w' B v l := let ⟨xs, a, b⟩ := h; ⟨xs, owns_ext a k, WishesCO.ext k b⟩
theorem SpansO.base {l : List (Int × Int)} (h : SpansO w B v l) (hB : B' ≤ B) : SpansO w B' v l := owns_base h hB
theorem IntsO.base {l : List Int} (h : IntsO w B v l) (hB : B' ≤ B) : IntsO w B' v l := owns_base h hB
theorem OptsCO.base (hB : B' ≤ B) : ∀ {l : List OptD} {xs : List Value}, OptsCO w B l xs → OptsCO w B' l xs
 | [], _, h => h
 | _ :: _, _, ⟨sv, ys, e, h2, h3⟩ => ⟨sv, ys, e, h2.base hB, OptsCO.base hB h3⟩
theorem OptsO.base {l : List OptD} (h : OptsO w B v l) (hB : B' ≤ B) : OptsO w B' v l := let ⟨xs, a, b⟩ := h; ⟨xs, owns_base a hB, b.base hB⟩
theorem WishesCO.base (hB : B' ≤ B) : ∀ {l : List WishD} {xs : List Value}, WishesCO w B l xs → WishesCO w B' l xs
 | [], _, h => h
 | _ :: _, _, ⟨pv, ov, ys, e, h4, h5⟩ => ⟨pv, ov, ys, e, ⟨h4.1.base hB, h4.2.base hB⟩, WishesCO.base hB h5⟩
theorem WishesO.base {l : List WishD} (h : WishesO w B v l) (hB : B' ≤ B) : WishesO w B' v l := let ⟨xs, a, b⟩ := h; ⟨xs, owns_base a hB, b.base hB⟩
theorem OptsCO.snoc {o : OptD} {sv : Value} (hs : SpansO w B sv o.spans) : ∀ {l : List OptD} {xs : List Value}, OptsCO w B l xs → OptsCO w B (l ++ [o]) (xs ++ [.int .i64 o.harm, .int .i64 o.room, sv])
 | [], _, h => by cases h; exact ⟨sv, [], rfl, hs, rfl⟩
 | _ :: _, _, ⟨sv', ys, e, h1, h2⟩ => ⟨sv', _, by rw [e]; rfl, h1, OptsCO.snoc hs h2⟩
theorem WishesCO.snoc {x : WishD} {pv ov : Value} (hs : IntsO w B pv x.people ∧ OptsO w B ov x.opts) : ∀ {l : List WishD} {xs : List Value}, WishesCO w B l xs → WishesCO w B (l ++ [x]) (xs ++ [.int .i64 x.meeting, pv, ov])
 | [], _, h => by cases h; exact ⟨pv, ov, [], rfl, hs, rfl⟩
 | _ :: _, _, ⟨pv', ov', ys, e, h1, h2⟩ => ⟨pv', ov', _, by rw [e]; rfl, h1, WishesCO.snoc hs h2⟩

/-! ### as readings -/
theorem sl_of_owns {e : TypeId} {k n : Nat} {xs : List Value} {F : Nat → Nat → Value} (h : w.ownsRow B e k v n xs) (hF : ∀ i, i < n → ∀ j, j < k → xs[i * k + j]? = some (F i j)) : Sl w k v n F := by
 rcases h.2 with ⟨rfl, rfl⟩ | ⟨g, cap, cur, rfl, hb, hg, hn, hcap, hcs, htake⟩
 ·exact ⟨none, 0, rfl, Nat.le_refl _, by unfold maxLen; omega, fun hp => absurd hp (Nat.lt_irrefl _)⟩
 ·refine ⟨_, _, rfl, hn, hcap, fun hp => ⟨g, 0, rfl, (Array.getElem?_eq_some_iff.1 hg).1, fun i hi j hj => ?_⟩⟩
  have := h.cells (g := g) rfl (i * k + j) _ (hF i hi j hj)
  have e : (⟨g, 0, none⟩ : Addr).add (i * k + j) = ⟨g, 0 + i * k + j, none⟩ := by unfold Addr.add; split <;> simp_all <;> omega
  rw [← e]; exact this
theorem SpansO.read {l : List (Int × Int)} (h : SpansO w B v l) : Spans w v l :=
 sl_of_owns h fun i hi j hj => by
  have h := spanCells_at i l[i] (List.getElem?_eq_getElem hi)
  rcases j with _ | _ | j
  ·rw [Nat.add_zero, h.1]; simp [hi]
  ·rw [h.2]; simp [hi]
  ·omega
theorem IntsO.read {l : List Int} (h : IntsO w B v l) : Ints w v l := ints_of_owns h
theorem OptsCO.read : ∀ {l : List OptD} {xs : List Value}, OptsCO w B l xs → OptsC w l xs
 | [], _, h => h
 | _ :: _, _, ⟨sv, ys, e, h2, h3⟩ => ⟨sv, ys, e, h2.read, OptsCO.read h3⟩
theorem OptsO.read {l : List OptD} (h : OptsO w B v l) : Opts w v l := by
 obtain ⟨xs, a, b⟩ := h
 have hat := b.read.at_
 refine ⟨fun i => xs[i * 3 + 2]?.getD undef, sl_of_owns a fun i hi j hj => ?_, fun i hi => ?_⟩
 ·obtain ⟨sv, a, b, c, d⟩ := hat i l[i] (List.getElem?_eq_getElem hi)
  rcases j with _ | _ | _ | j
  ·rw [Nat.add_zero, a]; simp [hi]
  ·rw [b]; simp [hi]
  ·rw [c]; simp [c]
  ·omega
 ·obtain ⟨sv, a, b, c, d⟩ := hat i l[i] (List.getElem?_eq_getElem hi)
  simp only [c, List.getElem?_eq_getElem hi, Option.getD_some]
  exact d
theorem WishesCO.read : ∀ {l : List WishD} {xs : List Value}, WishesCO w B l xs → WishesC w l xs
 | [], _, h => h
 | _ :: _, _, ⟨pv, ov, ys, e, h4, h5⟩ => ⟨pv, ov, ys, e, ⟨h4.1.read, h4.2.read⟩, WishesCO.read h5⟩
theorem WishesO.read {l : List WishD} (h : WishesO w B v l) : Wishes w v l := by
 obtain ⟨xs, a, b⟩ := h
 have hat := b.read.at_
 refine ⟨fun i => xs[i * 3 + 1]?.getD undef, fun i => xs[i * 3 + 2]?.getD undef, sl_of_owns a fun i hi j hj => ?_, fun i hi => ?_⟩
 ·obtain ⟨pv, ov, a, b, c, d⟩ := hat i l[i] (List.getElem?_eq_getElem hi)
  rcases j with _ | _ | _ | j
  ·rw [Nat.add_zero, a]; simp [hi]
  ·rw [b]; simp [b]
  ·rw [c]; simp [c]
  ·omega
 ·obtain ⟨pv, ov, a, b, c, d⟩ := hat i l[i] (List.getElem?_eq_getElem hi)
  simp only [b, c, List.getElem?_eq_getElem hi, Option.getD_some]
  exact d
theorem SpansO.nil (w : World) (B : Nat) : SpansO w B (.slice none 0 0) [] := World.ownsRow_nil _ _ _ _
theorem IntsO.nil (w : World) (B : Nat) : IntsO w B (.slice none 0 0) [] := World.ownsRow_nil _ _ _ _
theorem OptsO.nil (w : World) (B : Nat) : OptsO w B (.slice none 0 0) [] := ⟨[], World.ownsRow_nil _ _ _ _, rfl⟩
theorem WishesO.nil (w : World) (B : Nat) : WishesO w B (.slice none 0 0) [] := ⟨[], World.ownsRow_nil _ _ _ _, rfl⟩
end

theorem span_info : (Tryz.prog.info? 102).map (fun i => (i.zero, i.size, i.bytes)) = some (some (.agg #[.int .i64 0, .int .i64 0]), 2, 16) := by kernel_rfl
theorem option_info : (Tryz.prog.info? 64).map (fun i => (i.zero, i.size, i.bytes)) = some (some (.agg #[.int .i64 0, .int .i64 0, .slice none 0 0]), 3, 40) := by kernel_rfl
theorem wish_info : (Tryz.prog.info? 67).map (fun i => (i.zero, i.size, i.bytes)) = some (some (.agg #[.int .i64 0, .slice none 0 0, .slice none 0 0]), 3, 56) := by kernel_rfl

theorem one_int (x : Int) : ∀ u ∈ [Value.int .i64 x], u.oneCell' = true := by simp [Value.oneCell']
theorem two_ints (x y : Int) : ∀ u ∈ [Value.int .i64 x, .int .i64 y], u.oneCell' = true := by simp [Value.oneCell']
end Go.Proofs.YtepcdhpikpmepaaGreat
