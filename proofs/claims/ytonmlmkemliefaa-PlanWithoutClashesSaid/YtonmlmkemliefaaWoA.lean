/- The law PlanWithoutClashes: the task that is written in place, as memory. -/
import Derived.Test.YtonmlmkemliefaaPLS
import Derived.Test.YtonmlmkemliefaaWoP
namespace Go.Proofs.Ytonmlmkemliefaa
open Go.RowKit

/-- wish i, its people set, its first k options without a room -/
def inW (i : Nat) (x : WishD) (k : Nat) : WishD := ⟨x.meeting, [100 + (i : Int)], (x.opts.take k).map calmO ++ x.opts.drop k⟩
def stateT (t : List WishD) (i : Nat) : List WishD := calmFrom 0 (t.take i) ++ t.drop i
theorem stateT_len {t : List WishD} {i : Nat} (hi : i ≤ t.length) : (stateT t i).length = t.length := by
  simp only [stateT, List.length_append, calmFrom_len, List.length_take, List.length_drop]; omega
theorem stateT_get {t : List WishD} {i : Nat} (hi : i ≤ t.length) (j : Nat) : (stateT t i)[j]? = if j < i then (t[j]?).map (calmW j) else t[j]? := by
  unfold stateT
  have hl : (calmFrom 0 (t.take i)).length = i := by rw [calmFrom_len]; simp; omega
  split
  · rename_i h
    rw [List.getElem?_append_left (by omega), calmFrom_get, List.getElem?_take_of_lt h, Nat.zero_add]
  · rename_i h
    rw [List.getElem?_append_right (by omega), hl, List.getElem?_drop, show i + (j - i) = j by omega]
theorem stateT_zero (t : List WishD) : stateT t 0 = t := by simp [stateT, calmFrom]
theorem stateT_end (t : List WishD) : stateT t t.length = calmFrom 0 t := by simp [stateT]
theorem inW_all (i : Nat) (x : WishD) : inW i x x.opts.length = calmW i x := by simp [inW, calmW]
theorem inW_len (i : Nat) (x : WishD) (k : Nat) : (inW i x k).opts.length = x.opts.length := by simp [inW]; omega
theorem inW_get {i : Nat} {x : WishD} {k : Nat} (hk : k ≤ x.opts.length) (j : Nat) : (inW i x k).opts[j]? = if j < k then (x.opts[j]?).map calmO else x.opts[j]? := by
  have hl : ((x.opts.take k).map calmO).length = k := by simp; omega
  simp only [inW]
  split
  · rename_i h
    rw [List.getElem?_append_left (by omega), List.getElem?_map, List.getElem?_take_of_lt h]
  · rename_i h
    rw [List.getElem?_append_right (by omega), hl, List.getElem?_drop, show k + (j - k) = j by omega]
theorem inW_harm {i : Nat} {x : WishD} {k : Nat} (hk : k ≤ x.opts.length) (j : Nat) : (((inW i x k).opts[j]?).getD default).harm = ((x.opts[j]?).getD default).harm := by
  rw [inW_get hk]
  split
  · cases x.opts[j]? <;> rfl
  · rfl
theorem inW_step {i : Nat} {x : WishD} {k : Nat} {o : OptD} (ho : x.opts[k]? = some o) : (inW i x (k + 1)).opts = (inW i x k).opts.set k { o with room := -1 } := by
  have hk : k < x.opts.length := (List.getElem?_eq_some_iff.1 ho).1
  refine List.ext_getElem? fun j => ?_
  rw [inW_get (by omega), List.getElem?_set, inW_len, inW_get (by omega)]
  by_cases h1 : k = j
  · subst h1
    rw [if_pos (by omega), if_pos rfl, if_pos hk, ho]; rfl
  · rw [if_neg h1]
    by_cases h2 : j < k
    · rw [if_pos (by omega), if_pos h2]
    · rw [if_neg (by omega), if_neg h2]
theorem stateT_step {t : List WishD} {i : Nat} {x : WishD} (hx : t[i]? = some x) : (stateT t i).set i (calmW i x) = stateT t (i + 1) := by
  have hi : i < t.length := (List.getElem?_eq_some_iff.1 hx).1
  refine List.ext_getElem? fun j => ?_
  rw [List.getElem?_set, stateT_len (by omega), stateT_get (by omega), stateT_get (by omega)]
  by_cases h1 : i = j
  · subst h1
    rw [if_pos rfl, if_pos hi, if_pos (by omega), hx]; rfl
  · rw [if_neg h1]
    by_cases h2 : j < i
    · rw [if_pos h2, if_pos (by omega)]
    · rw [if_neg h2, if_neg (by omega)]

theorem owns_posS {W : World} {B : Nat} {e : TypeId} {size n : Nat} {v : Value} {xs : List Value} (h : W.ownsRow B e size v n xs) (hn : 0 < n) : ∃ g c, v = .slice (some ⟨g, 0, none⟩) n c := by
  rcases h.2 with ⟨_, h0⟩ | ⟨g1, c1, cur, e, _⟩
  · omega
  · exact ⟨g1, c1, e⟩
section
variable {W W' : World} {B go : Nat}
theorem OptsO.keepSep {v : Value} {l : List OptD} (k : Keep (fun g => g = go) W W') (hX : TX W (fun g => g = go) 59) (h : OptsO W B v l) (hs : v.ownBlock ≠ some go) : OptsO W' B v l := by
  obtain ⟨ys, a, b⟩ := h
  exact ⟨ys, k.owns a (fun g hg e => hs (by rw [hg, e])), b.keepT k hX (by decide)⟩
theorem optBlock_cons {a b c : Value} {ys : List Value} (j : Nat) : optBlock (a :: b :: c :: ys) (j + 1) = optBlock ys j := by
  unfold optBlock
  rw [show (j + 1) * 3 + 2 = (j * 3 + 2) + 1 + 1 + 1 by omega]
  rfl
theorem WishesCO.keepSep (k : Keep (fun g => g = go) W W') (hX : TX W (fun g => g = go) 59) : ∀ {l : List WishD} {xs : List Value}, WishesCO W B l xs → (∀ j, optBlock xs j ≠ some go) → WishesCO W' B l xs
  | [], _, h, _ => h
  | _ :: _, _, ⟨pv, ov, ys, e, h1, h2⟩, hs => by
    subst e
    exact ⟨pv, ov, ys, rfl, ⟨h1.1.keepT k hX (by decide), h1.2.keepSep k hX (hs 0)⟩, WishesCO.keepSep k hX h2 fun j => by rw [← optBlock_cons (a := .int .i64 _) (b := pv) (c := ov)]; exact hs (j + 1)⟩
theorem WishesCO.upOpts {ov : Value} {y : WishD} (k : Keep (fun g => g = go) W W') (hX : TX W (fun g => g = go) 59) (hy : OptsO W' B ov y.opts) : ∀ {l : List WishD} {xs : List Value} {i : Nat} {x : WishD}, WishesCO W B l xs → (∀ j, j ≠ i → optBlock xs j ≠ some go) →
    l[i]? = some x → xs[i * 3 + 2]? = some ov → y.meeting = x.meeting → y.people = x.people → WishesCO W' B (l.set i y) xs
  | [], _, _, _, _, _, h, _, _, _ => by simp at h
  | x :: r, _, 0, x', ⟨pv, ov', ys, e, h1, h2⟩, hs, hx, ho, hm, hp => by
    subst e
    simp at hx ho
    subst hx; subst ho
    refine ⟨pv, ov', ys, by rw [hm], ⟨by rw [hp]; exact h1.1.keepT k hX (by decide), hy⟩, WishesCO.keepSep k hX h2 fun j => ?_⟩
    rw [← optBlock_cons (a := .int .i64 x.meeting) (b := pv) (c := ov')]; exact hs (j + 1) (by omega)
  | x :: r, _, i + 1, x', ⟨pv, ov', ys, e, h1, h2⟩, hs, hx, ho, hm, hp => by
    subst e
    have ih := WishesCO.upOpts k hX hy (l := r) (xs := ys) (i := i) (x := x') h2 (fun j hj => by
      rw [← optBlock_cons (a := .int .i64 x.meeting) (b := pv) (c := ov')]; exact hs (j + 1) (by omega)) (by simpa using hx) (by
        rw [show (i + 1) * 3 + 2 = (i * 3 + 2) + 1 + 1 + 1 by omega] at ho; simpa using ho) hm hp
    exact ⟨pv, ov', ys, rfl, ⟨h1.1.keepT k hX (by decide), h1.2.keepSep k hX (hs 0 (by omega))⟩, ih⟩
theorem WishesCO.upPeople {pv : Value} {y : WishD} (hp : IntsO W B pv y.people) : ∀ {l : List WishD} {xs : List Value} {i : Nat} {x : WishD}, WishesCO W B l xs → l[i]? = some x → y.meeting = x.meeting → y.opts = x.opts → WishesCO W B (l.set i y) (xs.set (i * 3 + 1) pv)
  | [], _, _, _, _, h, _, _ => by simp at h
  | x :: r, _, 0, x', ⟨pv', ov, ys, e, h1, h2⟩, hx, hm, ho => by
    subst e
    simp at hx
    subst hx
    exact ⟨pv, ov, ys, by rw [hm]; rfl, ⟨hp, by rw [ho]; exact h1.2⟩, h2⟩
  | x :: r, _, i + 1, x', ⟨pv', ov, ys, e, h1, h2⟩, hx, hm, ho => by
    subst e
    have ih := WishesCO.upPeople hp (l := r) (xs := ys) (i := i) (x := x') h2 (by simpa using hx) hm ho
    exact ⟨pv', ov, _, by rw [show (i + 1) * 3 + 1 = (i * 3 + 1) + 1 + 1 + 1 by omega]; rfl, h1, ih⟩
theorem OptSep.setPeople {xs : List Value} (h : OptSep xs) (i : Nat) (v : Value) : OptSep (xs.set (i * 3 + 1) v) := by
  have e : ∀ j, optBlock (xs.set (i * 3 + 1) v) j = optBlock xs j := fun j => by unfold optBlock; rw [List.getElem?_set_ne (by omega)]
  intro a b g hab ha
  rw [e] at ha ⊢
  exact h a b g hab ha
theorem OptsCO.setRoom : ∀ {l : List OptD} {ys : List Value} {k : Nat} {o : OptD}, OptsCO W B l ys → l[k]? = some o → OptsCO W B (l.set k { o with room := -1 }) (ys.set (k * 3 + 1) (.int .i64 (-1)))
  | [], _, _, _, _, h => by simp at h
  | x :: r, _, 0, o, ⟨sv, zs, e, h1, h2⟩, hx => by
    subst e
    simp at hx
    subst hx
    exact ⟨sv, zs, rfl, h1, h2⟩
  | x :: r, _, k + 1, o, ⟨sv, zs, e, h1, h2⟩, hx => by
    subst e
    have ih := OptsCO.setRoom (k := k) h2 (by simpa using hx)
    exact ⟨sv, _, by rw [show (k + 1) * 3 + 1 = (k * 3 + 1) + 1 + 1 + 1 by omega]; rfl, h1, ih⟩
end

def pplBlock (xs : List Value) (i : Nat) : Option Nat := (xs[i * 3 + 1]?).bind Value.ownBlock
/-- block g holds the people of no wish -/
def Apart (xs : List Value) (g : Nat) : Prop := ∀ j, pplBlock xs j ≠ some g
section
variable {W W' : World} {B go : Nat}
theorem WishesCO.pplLt {l : List WishD} {xs : List Value} (h : WishesCO W B l xs) {i g : Nat} (hg : pplBlock xs i = some g) : g < W.heap.size := by
  unfold pplBlock at hg
  have hl := h.len
  by_cases hi : i < l.length
  · obtain ⟨pv, _, _, e, _, ho, _⟩ := h.atO i _ (List.getElem?_eq_getElem hi)
    rw [e] at hg
    exact (World.ownsRow.lt ho g (by simpa using hg)).2
  · rw [List.getElem?_eq_none (by omega)] at hg
    cases hg
theorem pplBlock_cons {a b c : Value} {ys : List Value} (j : Nat) : pplBlock (a :: b :: c :: ys) (j + 1) = pplBlock ys j := by
  unfold pplBlock
  rw [show (j + 1) * 3 + 1 = (j * 3 + 1) + 1 + 1 + 1 by omega]
  rfl
theorem WishesCO.keepInts (k : Keep (fun g => g = go) W W') (hX : TX W (fun g => g = go) 3) : ∀ {l : List WishD} {xs : List Value}, WishesCO W B l xs → Apart xs go → WishesCO W' B l xs
  | [], _, h, _ => h
  | _ :: _, _, ⟨pv, ov, ys, e, h1, h2⟩, hs => by
    subst e
    exact ⟨pv, ov, ys, rfl, ⟨k.owns h1.1 (fun g hg e => hs 0 (by unfold pplBlock; simp; rw [hg, e])), h1.2.keepT k hX (by decide) (by decide)⟩,
      WishesCO.keepInts k hX h2 fun j => by rw [← pplBlock_cons (a := .int .i64 _) (b := pv) (c := ov)]; exact hs (j + 1)⟩
theorem Apart.setPeople {xs : List Value} {g : Nat} (h : Apart xs g) (i : Nat) {v : Value} (hv : v.ownBlock ≠ some g) : Apart (xs.set (i * 3 + 1) v) g := fun j => by
  unfold pplBlock
  rw [List.getElem?_set]
  split
  · split
    · simpa using hv
    · simp
  · exact h j
end
/-- the task that is written: its box, its row of wishes, its parts -/
structure CalmAt (w W : World) (gt g0 c0 : Nat) (l : List WishD) (xs : List Value) : Prop where
  ext : Ext w W
  ge : w.heap.size ≤ gt
  task : Blk W gt 26 #[.slice (some ⟨g0, 0, none⟩) l.length c0]
  row : W.ownsRow w.heap.size 56 3 (.slice (some ⟨g0, 0, none⟩) l.length c0) l.length xs
  parts : WishesCO W w.heap.size l xs
  sep : OptSep xs
section
variable {w W W' : World} {gt g0 c0 : Nat} {l : List WishD} {xs : List Value}
theorem CalmAt.toExt (h : CalmAt w W gt g0 c0 l xs) (e : Ext W W') : CalmAt w W' gt g0 c0 l xs :=
  ⟨h.ext.trans e, h.ge, (Keep.of_ext (X := fun _ => False) e).blk h.task id, owns_ext h.row e, WishesCO.ext e h.parts, h.sep⟩
theorem CalmAt.people {i : Nat} {x : WishD} {pv : Value} {p : List Int} (h : CalmAt w W gt g0 c0 l xs) (hx : l[i]? = some x) (hp : IntsO W w.heap.size pv p) :
    CalmAt w (W.setCell ⟨g0, i * 3 + 1, none⟩ pv) gt g0 c0 (l.set i { x with people := p }) (xs.set (i * 3 + 1) pv) := by
  have k := keep_set W g0 (i * 3 + 1) pv
  have hX : TX W (fun k => k = g0) 56 := by rintro _ rfl _; exact owns_block h.row rfl
  have hg : gt ≠ g0 := fun e => own_blk_ne h.row h.task (by decide) (by rw [e]; rfl)
  refine ⟨h.ext.keep k fun j hj e => ?_, h.ge, ?_, ?_, WishesCO.upPeople (hp.keepT k hX (by decide)) (h.parts.keepT k hX (by decide) (by decide) (by decide)) hx rfl rfl, h.sep.setPeople i pv⟩
  · have := (h.row.lt g0 rfl).1; omega
  · rw [List.length_set]; exact h.task.far hg _
  · rw [List.length_set]; exact (h.row.stored (i * 3 + 1) pv).1
theorem CalmAt.room {i k go oc : Nat} {x : WishD} {o : OptD} (h : CalmAt w W gt g0 c0 l xs) (hx : l[i]? = some x) (ho : x.opts[k]? = some o) (hov : xs[i * 3 + 2]? = some (.slice (some ⟨go, 0, none⟩) x.opts.length oc)) :
    CalmAt w (W.setCell ⟨go, k * 3 + 1, none⟩ (.int .i64 (-1))) gt g0 c0 (l.set i { x with opts := x.opts.set k { o with room := -1 } }) xs := by
  have kk := keep_set W go (k * 3 + 1) (.int .i64 (-1))
  obtain ⟨_, ov, _, _, e2, _, ho2⟩ := h.parts.atO i x hx
  obtain rfl : ov = .slice (some ⟨go, 0, none⟩) x.opts.length oc := Option.some.inj (e2.symm.trans hov)
  obtain ⟨ys, hrow, hys⟩ := ho2
  have hX : TX W (fun k => k = go) 59 := by rintro _ rfl _; exact owns_block hrow rfl
  have hg : gt ≠ go := fun e => own_blk_ne hrow h.task (by decide) (by rw [e]; rfl)
  have hb : optBlock xs i = some go := by unfold optBlock; rw [hov]; rfl
  refine ⟨h.ext.keep kk fun j hj e => ?_, h.ge, ?_, ?_, WishesCO.upOpts kk hX ?_ h.parts (fun j hj e => ?_) hx hov rfl rfl, h.sep⟩
  · have := (hrow.lt go rfl).1; omega
  · rw [List.length_set]; exact h.task.far hg _
  · rw [List.length_set]; exact owns_keepT h.row kk hX (by decide)
  · refine ⟨_, ?_, (hys.keepT kk hX (by decide)).setRoom ho⟩
    rw [List.length_set]
    exact (hrow.stored (k * 3 + 1) (.int .i64 (-1))).1
  · rcases Nat.lt_or_ge i j with h1 | h1
    · exact h.sep i j go h1 hb e
    · exact h.sep j i go (by omega) e hb
theorem CalmAt.grow {vw : Value} {ws : List Value} {n : Nat} (h : CalmAt w W gt g0 c0 l xs) (hw : W.ownsRow w.heap.size 3 1 vw n ws) (hg : W.grownBy W' vw.ownBlock) (ha : ∀ g, vw.ownBlock = some g → Apart xs g) : CalmAt w W' gt g0 c0 l xs := by
  cases hv : vw.ownBlock with
  | none =>
    have k : Keep (fun _ => False) W W' := (Keep.refl _ W).grown hg (fun g e => by rw [hv] at e; cases e)
    exact h.toExt (k.ext fun _ _ => id)
  | some go =>
    have k : Keep (fun g => g = go) W W' := (Keep.refl _ W).grown hg (fun g e => by rw [hv] at e; exact Or.inl (Option.some.inj e).symm)
    have hX : TX W (fun g => g = go) 3 := by rintro _ rfl _; exact owns_block hw hv
    have hlo := (hw.lt go hv).1
    refine ⟨h.ext.keep k fun j hj e => by omega, h.ge, k.blk h.task ?_, owns_keepT h.row k hX (by decide), WishesCO.keepInts k hX h.parts (ha go hv), h.sep⟩
    intro e
    exact own_blk_ne hw h.task (by decide) (by rw [hv, e])
end
end Go.Proofs.Ytonmlmkemliefaa
