/- The moves of each wish, as package carry's Check lays them in memory. -/
import Derived.Test.YtkicielleiafgaaCL
import Derived.Test.YtkicielleiafgaaHI
namespace Go.Proofs.Ytkicielleiafgaa
open Go.RowKit Go.Shelf

structure MovesM (u W : World) (Mv : Nat) (vs : List Value) (ms : List (List Int)) : Prop where
  ext : Ext u W
  bM : u.heap.size ≤ Mv
  blk : Blk W Mv 29 vs.toArray
  len : vs.length = ms.length
  rows : ∀ (j : Nat) (v : Value) (m : List Int), vs[j]? = some v → ms[j]? = some m → IntsO W u.heap.size v m
  apart : ∀ (j k : Nat) (v x : Value) (g : Nat), vs[j]? = some v → vs[k]? = some x → j ≠ k → v.ownBlock = some g → x.ownBlock ≠ some g
theorem MovesM.toExt {u W W' : World} {Mv : Nat} {vs : List Value} {ms : List (List Int)} (h : MovesM u W Mv vs ms) (e : Ext W W') : MovesM u W' Mv vs ms :=
  ⟨h.ext.trans e, h.bM, (Keep.of_ext (X := fun _ => False) e).blk h.blk id, h.len, fun j v m a b => (h.rows j v m a b).ext e, h.apart⟩
theorem MovesM.new {u W : World} (e : Ext u W) (n : Nat) : MovesM u (W.alloc (.cells (Array.replicate n (.slice none 0 0)) 29)) W.heap.size (List.replicate n (.slice none 0 0)) (List.replicate n []) := by
  refine ⟨e.alloc _, e.size, blk_new' rfl (by simp), by simp, fun j v m a b => ?_, fun j k v x g a b _ hg => ?_⟩
  · rw [List.getElem?_replicate] at a b
    split at a <;> cases a
    split at b <;> cases b
    all_goals exact IntsO.nil _ _
  · rw [List.getElem?_replicate] at a
    split at a <;> cases a
    cases hg
/-- behind the append, ahead of the store -/
structure MidM (u W : World) (Mv : Nat) (vs : List Value) (ms : List (List Int)) (i : Nat) (m : List Int) (v' : Value) : Prop where
  ext : Ext u W
  bM : u.heap.size ≤ Mv
  blk : Blk W Mv 29 vs.toArray
  len : vs.length = ms.length
  own : IntsO W u.heap.size v' m
  rows : ∀ (j : Nat) (v : Value) (m : List Int), j ≠ i → vs[j]? = some v → ms[j]? = some m → IntsO W u.heap.size v m
  apart : ∀ (j k : Nat) (v x : Value) (g : Nat), vs[j]? = some v → vs[k]? = some x → j ≠ k → v.ownBlock = some g → x.ownBlock ≠ some g
  fresh : ∀ (j : Nat) (v : Value) (g : Nat), j ≠ i → vs[j]? = some v → v.ownBlock = some g → v'.ownBlock ≠ some g
theorem MidM.toExt {u W W' : World} {Mv : Nat} {vs : List Value} {ms : List (List Int)} {i : Nat} {m : List Int} {v' : Value} (h : MidM u W Mv vs ms i m v') (e : Ext W W') : MidM u W' Mv vs ms i m v' :=
  ⟨h.ext.trans e, h.bM, (Keep.of_ext (X := fun _ => False) e).blk h.blk id, h.len, h.own.ext e, fun j v m n a b => (h.rows j v m n a b).ext e, h.apart, h.fresh⟩
theorem MovesM.push {u W w1 : World} {Mv : Nat} {vs : List Value} {ms : List (List Int)} {i : Nat} {v v' : Value} {m m' : List Int} (h : MovesM u W Mv vs ms) (hv : vs[i]? = some v) (hm : ms[i]? = some m)
    (hown : IntsO w1 u.heap.size v' m') (hg : W.grownBy w1 v.ownBlock) (hat : v'.ownBlock = v.ownBlock ∨ v'.ownBlock = some W.heap.size) : MidM u w1 Mv vs ms i m' v' := by
  have hrow := h.rows i v m hv hm
  have k : Keep (fun x => v.ownBlock = some x) W w1 := (Keep.refl _ W).grown hg (fun g e => Or.inl e)
  refine ⟨h.ext.grown hg (fun g e => (hrow.lt g e).1), h.bM, k.blk h.blk (fun e => ?_), h.len, hown, fun j x mj hj a b => k.owns (h.rows j x mj a b) (fun g hx e => h.apart i j v x g hv a (Ne.symm hj) e hx), h.apart, fun j x g hj a hx e => ?_⟩
  · obtain ⟨cs, hb⟩ := owns_block hrow e
    exact absurd (blk_type h.blk hb) (by decide)
  · rcases hat with e2 | e2
    · rw [e2] at e
      exact h.apart i j v x g hv a (Ne.symm hj) e hx
    · rw [e2] at e
      cases e
      have hjm : j < ms.length := by rw [← h.len]; exact (List.getElem?_eq_some_iff.1 a).1
      have := (h.rows j x ms[j] a (by simp [hjm])).lt _ hx
      omega
theorem MidM.store {u W : World} {Mv : Nat} {vs : List Value} {ms : List (List Int)} {i : Nat} {m : List Int} {v' : Value} (h : MidM u W Mv vs ms i m v') : MovesM u (W.setCell ⟨Mv, i, none⟩ v') Mv (vs.set i v') (ms.set i m) := by
  have k := keep_set W Mv i v'
  have hfar : ∀ {v : Value} {m : List Int}, IntsO W u.heap.size v m → IntsO (W.setCell ⟨Mv, i, none⟩ v') u.heap.size v m := fun ho => k.owns ho (fun g hg e => by
    obtain ⟨cs, hb⟩ := owns_block ho hg
    rw [e] at hb
    exact absurd (blk_type h.blk hb) (by decide))
  refine ⟨h.ext.setCell h.bM _, h.bM, ?_, by simp [h.len], fun j v mj a b => ?_, fun j k' v x g a b hne hg => ?_⟩
  · have := h.blk.set_ i v'
    have e : vs.toArray.setIfInBounds i v' = (vs.set i v').toArray := by simp
    rwa [e] at this
  · by_cases hj : j = i
    · subst hj
      have h1 := (List.getElem?_eq_some_iff.1 a).1
      have h2 := (List.getElem?_eq_some_iff.1 b).1
      rw [List.length_set] at h1 h2
      rw [List.getElem?_set_self h1] at a
      rw [List.getElem?_set_self h2] at b
      cases a
      cases b
      exact hfar h.own
    · rw [List.getElem?_set_ne (Ne.symm hj)] at a b
      exact hfar (h.rows j v mj hj a b)
  · by_cases hj : j = i
    · subst hj
      have h1 := (List.getElem?_eq_some_iff.1 a).1
      rw [List.length_set] at h1
      rw [List.getElem?_set_self h1] at a
      rw [List.getElem?_set_ne hne] at b
      cases a
      exact fun e => h.fresh k' x g (Ne.symm hne) b e hg
    · rw [List.getElem?_set_ne (Ne.symm hj)] at a
      by_cases hk : k' = i
      · subst hk
        have h1 := (List.getElem?_eq_some_iff.1 b).1
        rw [List.length_set] at h1
        rw [List.getElem?_set_self h1] at b
        cases b
        exact h.fresh j v g hj a hg
      · rw [List.getElem?_set_ne (Ne.symm hk)] at b
        exact h.apart j k' v x g a b hne hg

/-! ### the moves after some steps -/
def movesL (n : Nat) (l : List StepD) : List (List Int) := (List.range n).map (movesOf l)
theorem movesOf_snoc (l : List StepD) (s : StepD) (j : Nat) : movesOf (l ++ [s]) j = if s.1 = (j : Int) then movesOf l j ++ [s.2] else movesOf l j := by
  unfold movesOf
  by_cases h : s.1 = (j : Int) <;> simp [List.filter_append, h]
theorem movesL_at {n : Nat} {l : List StepD} {j : Nat} (h : j < n) : (movesL n l)[j]? = some (movesOf l j) := by simp [movesL, h]
theorem movesL_snoc {n i : Nat} {l : List StepD} {y : Int} (hi : i < n) : movesL n (l ++ [((i : Int), y)]) = (movesL n l).set i (movesOf l i ++ [y]) := by
  apply List.ext_getElem?
  intro j
  by_cases hj : j < n
  · rw [movesL_at hj, movesOf_snoc]
    by_cases e : i = j
    · subst e
      rw [if_pos rfl, List.getElem?_set_self (by simp [movesL, hi])]
    · rw [if_neg (by dsimp only; omega), List.getElem?_set_ne e, movesL_at hj]
  · rw [List.getElem?_eq_none (by simp [movesL]; omega), List.getElem?_eq_none (by simp [movesL]; omega)]
theorem movesL_nil (n : Nat) : movesL n [] = List.replicate n [] := by
  apply List.ext_getElem?
  intro j
  by_cases hj : j < n
  · rw [movesL_at hj, List.getElem?_replicate, if_pos hj]; rfl
  · rw [List.getElem?_eq_none (by simp [movesL]; omega), List.getElem?_eq_none (by simp; omega)]
theorem made_nils (n : Nat) : madeCells (Value.slice none 0 0).cells n = Array.replicate n (Value.slice none 0 0) := by
  apply Array.ext_getElem?
  intro i
  by_cases h : i < n
  · simp [madeCells, h, Value.cells, Nat.mod_one]
  · simp [madeCells, h]
theorem run_make_rows (n : Nat) (hn : n ≤ 1000000) (w : World) :
    (Instr.makeSlice 49 (.int .i64 (n : Int)) (.int .i64 (n : Int))).run Try.prog w = .ok (.slice (some ⟨w.heap.size, 0, none⟩) n n) (w.alloc (.cells (Array.replicate n (.slice none 0 0)) 29)) := by
  obtain ⟨i0, hi, hz, hs, hb⟩ := info_parts ints_info
  have := run_make_any (P := Try.prog) 49 29 i0 _ Try.underlying49 hi hz .i64 .i64 n n (Nat.le_refl _) (by rw [hb]; omega) (by omega) w
  rw [this, hs, Nat.mul_one, made_nils]
theorem stAt_range {t : List WishD} {l : List StepD} (hv : validT t = 0) (hok : l.all (stepOkB t) = true) (i : Nat) : InRange (stAt t l i) := by
  unfold stAt
  have hz : InRange (zeros t.length) := inRange_of fun i _ => by rw [atI_zeros]; omega
  have key : ∀ (l : List StepD) (st : List Int), l.all (stepOkB t) = true → InRange st → InRange (afterS st l) := by
    intro l
    induction l with
    | nil => exact fun st _ h => h
    | cons s l ih =>
      intro st ho h
      rw [List.all_cons, Bool.and_eq_true] at ho
      rw [afterS_cons]
      refine ih _ ho.2 (h.set_ _ ?_)
      obtain ⟨j, hj, hjt⟩ := stepOk_idx ho.1
      have hx : t[j]? = some t[j] := by simp [hjt]
      have h16 := valid_opts hv (List.getElem_mem hjt)
      have h1 := ho.1
      simp only [stepOkB, hj, Int.toNat_natCast, hx, Option.getD_some, Bool.and_eq_true, decide_eq_true_eq] at h1
      omega
  exact key _ _ (List.all_eq_true.2 fun x hx => List.all_eq_true.1 hok x (List.mem_of_mem_take hx)) hz
/-- calm in the wishes that moved, up to state i -/
def CalmTo (t : List WishD) (l : List StepD) (i : Nat) : Prop := ∀ k s, k + 1 < i → l[k]? = some s → quietB t (stAt t l (k + 1)) s.1.toNat = true
theorem calmTo_iff {t : List WishD} {l : List StepD} : calmWay t (zeros t.length) l = true ↔ CalmTo t l (l.length + 1) := by
  have key : ∀ (l : List StepD) (st : List Int), calmWay t st l = true ↔ ∀ k s, l[k]? = some s → quietB t (afterS st (l.take (k + 1))) s.1.toNat = true := by
    intro l
    induction l with
    | nil => exact fun st => ⟨fun _ k s h => by simp at h, fun _ => rfl⟩
    | cons x l ih =>
      intro st
      simp only [calmWay, Bool.and_eq_true]
      rw [ih]
      constructor
      · rintro ⟨a, b⟩ k s h
        cases k with
        | zero => simp at h; subst h; simpa [afterS] using a
        | succ k => rw [List.take_succ_cons, afterS_cons]; exact b k s (by simpa using h)
      · intro h
        refine ⟨by have := h 0 x rfl; simpa [afterS] using this, fun k s hk => ?_⟩
        have := h (k + 1) s (by simpa using hk)
        rwa [List.take_succ_cons, afterS_cons] at this
  rw [key]
  constructor
  · intro h k s _ hk
    exact h k s hk
  · intro h k s hk
    have hlt := (List.getElem?_eq_some_iff.1 hk).1
    exact h k s (by omega) hk
end Go.Proofs.Ytkicielleiafgaa
