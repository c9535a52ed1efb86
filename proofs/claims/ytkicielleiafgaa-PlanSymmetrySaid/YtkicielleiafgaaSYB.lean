/- Memory of PlanSymmetry: the moved task, as it is made; the best plan by value. -/
import Derived.Test.YtkicielleiafgaaSYA
import Derived.Test.YtkicielleiafgaaPJ
namespace Go.Proofs.Ytkicielleiafgaa
open Go.RowKit

def OctV (_ : World) (v : Value) (x : Oct) : Prop := v = .agg #[.int .u8 x.a, .int .u8 x.b, .int .u8 x.c, .int .u8 x.d] ∧ OctOk x
/-- a row of n options of the call's own -/
def OptsN (w : World) (B : Nat) (v : Value) (n : Nat) (l : List OptD) : Prop := ∃ xs, w.ownsRow B 89 3 v n xs ∧ OptsCO w B l xs
def WishesCM (w0 W : World) (B : Nat) : List WishD → List Value → Prop
  | [], xs => xs = []
  | x :: r, xs => ∃ pv ov ys, xs = .int .i64 x.meeting :: pv :: ov :: ys ∧ (Ints w0 pv x.people ∧ OptsO W B ov x.opts) ∧ WishesCM w0 W B r ys
/-- a row of n wishes of the call's own: their people lie in the memory that came in -/
def WishesM (w0 W : World) (B : Nat) (v : Value) (n : Nat) (l : List WishD) : Prop := ∃ xs, W.ownsRow B 87 3 v n xs ∧ WishesCM w0 W B l xs
section
variable {w0 w W W' : World} {B B' n : Nat} {v : Value} {X : Nat → Prop} {T : TypeId}
theorem OptsCO.len : ∀ {l : List OptD} {xs : List Value}, OptsCO w B l xs → xs.length = 3 * l.length
  | [], _, h => by rw [h]; rfl
  | _ :: _, _, ⟨sv, ys, e, h2, h3⟩ => by
    have := OptsCO.len h3
    rw [e]
    simp only [List.length_cons]
    omega
theorem WishesCM.len : ∀ {l : List WishD} {xs : List Value}, WishesCM w0 W B l xs → xs.length = 3 * l.length
  | [], _, h => by rw [h]; rfl
  | _ :: _, _, ⟨pv, ov, ys, e, h2, h3⟩ => by
    have := WishesCM.len h3
    rw [e]
    simp only [List.length_cons]
    omega
theorem OptsN.toO {l : List OptD} (h : OptsN W B v n l) : OptsO W B v l := by
  obtain ⟨xs, a, b⟩ := h
  have h1 := a.1
  have h2 := b.len
  have e : n = l.length := by omega
  exact ⟨xs, by rw [← e]; exact a, b⟩
theorem OptsN.ext {l : List OptD} (h : OptsN W B v n l) (k : Ext W W') : OptsN W' B v n l := let ⟨xs, a, b⟩ := h; ⟨xs, owns_ext a k, b.ext k⟩
theorem OptsN.keepT {l : List OptD} (h : OptsN W B v n l) (k : Keep X W W') (hX : TX W X T) (h1 : 78 ≠ T) (h2 : 89 ≠ T) : OptsN W' B v n l :=
  let ⟨xs, a, b⟩ := h
  ⟨xs, owns_keepT a k hX h2, b.keepT k hX h1⟩
theorem WishesCM.keepT (k : Keep X W W') (hX : TX W X T) (h1 : 78 ≠ T) (h2 : 89 ≠ T) : ∀ {l : List WishD} {xs : List Value}, WishesCM w0 W B l xs → WishesCM w0 W' B l xs
  | [], _, h => h
  | _ :: _, _, ⟨pv, ov, ys, e, h4, h5⟩ => ⟨pv, ov, ys, e, ⟨h4.1, h4.2.keepT k hX h1 h2⟩, WishesCM.keepT k hX h1 h2 h5⟩
theorem WishesCM.ext (k : Ext W W') : ∀ {l : List WishD} {xs : List Value}, WishesCM w0 W B l xs → WishesCM w0 W' B l xs
  | [], _, h => h
  | _ :: _, _, ⟨pv, ov, ys, e, h4, h5⟩ => ⟨pv, ov, ys, e, ⟨h4.1, h4.2.ext k⟩, WishesCM.ext k h5⟩
theorem WishesCM.snoc {x : WishD} {pv ov : Value} (hs : Ints w0 pv x.people ∧ OptsO W B ov x.opts) : ∀ {l : List WishD} {xs : List Value}, WishesCM w0 W B l xs → WishesCM w0 W B (l ++ [x]) (xs ++ [.int .i64 x.meeting, pv, ov])
  | [], _, h => by cases h; exact ⟨pv, ov, [], rfl, hs, rfl⟩
  | _ :: _, _, ⟨pv', ov', ys, e, h1, h2⟩ => ⟨pv', ov', _, by rw [e]; rfl, h1, WishesCM.snoc hs h2⟩
theorem WishesM.ext {l : List WishD} (h : WishesM w0 W B v n l) (k : Ext W W') : WishesM w0 W' B v n l := let ⟨xs, a, b⟩ := h; ⟨xs, owns_ext a k, b.ext k⟩
theorem WishesM.keepT {l : List WishD} (h : WishesM w0 W B v n l) (k : Keep X W W') (hX : TX W X T) (h1 : 78 ≠ T) (h2 : 89 ≠ T) (h4 : 87 ≠ T) : WishesM w0 W' B v n l :=
  let ⟨xs, a, b⟩ := h
  ⟨xs, owns_keepT a k hX h4, b.keepT k hX h1 h2⟩
theorem WishesCM.read (e : Ext w0 W) : ∀ {l : List WishD} {xs : List Value}, WishesCM w0 W B l xs → WishesC W l xs
  | [], _, h => h
  | _ :: _, _, ⟨pv, ov, ys, h, h1, h2⟩ => ⟨pv, ov, ys, h, ⟨h1.1.ext e, h1.2.read⟩, WishesCM.read e h2⟩
theorem WishesM.read {l : List WishD} (h : WishesM w0 W B v n l) (e : Ext w0 W) : Wishes W v l := by
  obtain ⟨xs, a, b⟩ := h
  have h1 := a.1
  have h2 := b.len
  have en : n = l.length := by omega
  rw [en] at a
  have hat := (b.read e).at_
  refine ⟨fun i => xs[i * 3 + 1]?.getD undef, fun i => xs[i * 3 + 2]?.getD undef, sl_of_owns a fun i hi j hj => ?_, fun i hi => ?_⟩
  · obtain ⟨pv, ov, c0, c1, c2, d⟩ := hat i l[i] (List.getElem?_eq_getElem hi)
    rcases j with _ | _ | _ | j
    · rw [Nat.add_zero, c0]; simp [hi]
    · rw [c1]; simp [c1]
    · rw [c2]; simp [c2]
    · omega
  · obtain ⟨pv, ov, c0, c1, c2, d⟩ := hat i l[i] (List.getElem?_eq_getElem hi)
    simp only [c1, c2, List.getElem?_eq_getElem hi, Option.getD_some]
    exact d
/-- an option more, in the world behind the append -/
theorem OptsN.push {v' sv : Value} {l : List OptD} {o : OptD} {xs : List Value} (h : W.ownsRow B 89 3 v n xs) (hx : OptsCO W B l xs) (hs : SpansO W B sv o.spans)
    (ho : W'.ownsRow B 89 3 v' (n + 1) (xs ++ [.int .i64 o.harm, .int .i64 o.room, sv])) (hg : W.grownBy W' v.ownBlock) : OptsN W' B v' (n + 1) (l ++ [o]) := by
  have k : Keep (fun x => v.ownBlock = some x) W W' := (Keep.refl _ W).grown hg (fun g e => Or.inl e)
  exact ⟨_, ho, OptsCO.snoc (hs.keepT k (TX.row h) (by decide)) (hx.keepT k (TX.row h) (by decide))⟩
theorem WishesM.push {v' pv ov : Value} {l : List WishD} {x : WishD} {xs : List Value} (h : W.ownsRow B 87 3 v n xs) (hx : WishesCM w0 W B l xs) (hp : Ints w0 pv x.people) (hs : OptsO W B ov x.opts)
    (ho : W'.ownsRow B 87 3 v' (n + 1) (xs ++ [.int .i64 x.meeting, pv, ov])) (hg : W.grownBy W' v.ownBlock) : WishesM w0 W' B v' (n + 1) (l ++ [x]) := by
  have k : Keep (fun x => v.ownBlock = some x) W W' := (Keep.refl _ W).grown hg (fun g e => Or.inl e)
  exact ⟨_, ho, WishesCM.snoc ⟨hp, hs.keepT k (TX.row h) (by decide) (by decide)⟩ (hx.keepT k (TX.row h) (by decide) (by decide))⟩
end
theorem mov_treeMax (d : Int) : ∀ t, treeMax (movT d t) = treeMax t
  | [] => rfl
  | x :: r => by
    show 1 + (x.opts.map (movO d)).length * treeMax (movT d r) = _
    rw [List.length_map, mov_treeMax d r]
    rfl
/-- the best plan by value: the choice, its harm, the error -/
def bestR (t : List WishD) : List Int × Int × Int := match bestOf t with | some (p, h) => (p, h, 0) | none => ([], 0, 4)
theorem mov_bestR (d : Int) (t : List WishD) : bestR (movT d t) = bestR t := by
  unfold bestR
  rw [mov_best]
theorem best_val {t : List WishD} {w w' : World} {e : Ending} (hv : validT t = 0) (h : BestOut t w e w') :
    ∃ pv cv, e = .returned (.tuple #[.agg #[pv, .int .i64 (bestR t).2.1], cv, .int .i64 (bestR t).2.2]) ∧ Ext w w' ∧ Ints w' pv (bestR t).1 := by
  rcases best_out hv h with ⟨h1, rfl, h2⟩ | ⟨pv, cv, p, q, h1, rfl, h2, h3, _⟩
  · have e : bestR t = ([], 0, 4) := by
      unfold bestR bestOf
      rw [h1]
      rfl
    rw [e]
    exact ⟨_, _, rfl, h2, (IntsO.nil _ 0).read⟩
  · have e : bestR t = (p, q, 0) := by
      unfold bestR
      rw [h1]
    rw [e]
    exact ⟨_, _, rfl, h2, h3⟩
theorem clash_sym (t : List WishD) (a i b k : Int) : clashT t a i b k = clashT t b k a i := by
  have e : decide (a ≠ b) = decide (b ≠ a) := by
    by_cases h : a = b
    · simp [h]
    · have h' : ¬ b = a := fun e => h e.symm
      simp [h, h']
  unfold clashT
  rw [e]
  congr 1
  cases optAt t a i with
  | none => cases optAt t b k <;> rfl
  | some x =>
    cases optAt t b k with
    | none => rfl
    | some y => exact clashB_comm _ _ _ _
theorem opt_normal {t : List WishD} (hv : validT t = 0) {x : WishD} (hx : x ∈ t) {o : OptD} (ho : o ∈ x.opts) : normalB o.spans = true := by
  have h := (validT_ok hv).2.1 x hx
  simp only [wishOkB, Bool.and_eq_true, List.all_eq_true] at h
  have := h.2 o ho
  simp only [optOkB, Bool.and_eq_true] at this
  exact this.2
theorem chain_pos : ∀ {l : List (Int × Int)} {p : Option Int}, chainB p l = true → ∀ s ∈ l, s.1 < s.2
  | [], _, _, s, hs => by cases hs
  | x :: r, p, h, s, hs => by
    simp only [chainB, Bool.and_eq_true, decide_eq_true_eq] at h
    rcases List.mem_cons.1 hs with rfl | hs
    · exact h.1.1
    · exact chain_pos h.2 s hs
theorem any_take {l : List Int} {i : Nat} {x : Int} (f : Int → Bool) (h : l[i]? = some x) : (l.take (i + 1)).any f = ((l.take i).any f || f x) := by
  rw [List.take_add_one, h]
  simp
theorem mov_optsStep {d : Int} {l : List OptD} {i : Nat} {o : OptD} (e : l[i]? = some o) : (l.take (i + 1)).map (movO d) = (l.take i).map (movO d) ++ [movO d o] := by
  rw [List.take_add_one, e]; simp
theorem mov_wishStep {d : Int} {l : List WishD} {i : Nat} {x : WishD} (e : l[i]? = some x) : (l.take (i + 1)).map (movW d) = (l.take i).map (movW d) ++ [movW d x] := by
  rw [List.take_add_one, e]; simp
theorem mov_spanStep {d : Int} {l : List (Int × Int)} {i : Nat} {x y : Int} (e : l[i]? = some (x, y)) : spanCells ((l.take (i + 1)).map (movS d)) = spanCells ((l.take i).map (movS d)) ++ [.int .i64 (x + d), .int .i64 (y + d)] := by
  rw [List.take_add_one, e]
  simp [spanCells, movS]
end Go.Proofs.Ytkicielleiafgaa
