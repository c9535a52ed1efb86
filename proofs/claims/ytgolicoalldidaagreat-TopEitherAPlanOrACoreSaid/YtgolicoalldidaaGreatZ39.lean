import Derived.Test.YtgolicoalldidaaGreatZ25
set_option maxHeartbeats 12800000
namespace Go.Proofs.YtgolicoalldidaaGreat
open Go.RowKit Go.Shelf
attribute [local go_sem] Oper.semAt_some
theorem ints_info : (Tryz.prog.info? 31).map (fun i => (i.zero, i.size, i.bytes)) = some (some (.slice none 0 0), 1, 24) := by kernel_rfl
end Go.Proofs.YtgolicoalldidaaGreat
namespace Go.Proofs.YtgolicoalldidaaGreat
open Go.RowKit Go.Shelf
theorem beq_drop {a b : List Int} {i : Nat} {x y : Int} (hx : a[i]? = some x) (hy : b[i]? = some y) (h : a.take i = b.take i) : (a.take (i + 1) = b.take (i + 1)) ↔ x = y := by
 rw [take_step hx, take_step hy, h]
 simp
theorem equal_calls (va vb : Value) (a b : List Int) (w : World) (ha : Ints w va a) (hb : Ints w vb b) :
  Calls Tryz.prog 43 #[va, vb] w fun e w' => e = .returned (.bool (decide (a = b))) ∧ Ext w w' := by
 obtain ⟨aa, ac, rfl, han, hac, aat⟩ := ha.open
 obtain ⟨ba, bc, rfl, hbn, hbc, bat⟩ := hb.open
 have aat' := Lib.hid aat
 have bat' := Lib.hid bat
 clear ha hb aat bat
 by_cases hl : a.length = b.length
 ·have d0 : ((a.length : Int) != b.length) = false := by simp [hl]
  have hl' := Lib.hid hl
  have l1 : a.length ≤ b.length := Nat.le_of_eq hl
  have l2 : b.length ≤ a.length := Nat.le_of_eq hl.symm
  clear hl
  go_enter Tryz.func43, Tryz.ntmps43
  go_wp2_with fail
  go_loopw [13] (fun vi wr => ∃ i : Nat, i ≤ a.length ∧ vi = .int .i64 i ∧ Hid (Ext w wr) ∧ Hid (a.take i = b.take i)) (fun vi _ => a.length - (intOf vi).toNat)
  case atStart => exact ⟨0, by omega, rfl, Lib.hid (Ext.refl _), Lib.hid (by simp)⟩
  case round =>
   obtain ⟨i, hi, rfl, hx, hF⟩ := hrel
   by_cases h1 : i < a.length
   ·obtain ⟨b1, o1, x, rfl, hb1, _, ex, g0⟩ := aat'.out i h1 wr hx.out
    obtain ⟨b2, o2, y, rfl, hb2, _, ey, g1⟩ := bat'.out i (by omega) wr hx.out
    have hstep := Lib.hid (beq_drop ex.out ey.out hF.out)
    clear ex ey
    by_cases hxy : x = y
    ·have d1 : (x != y) = false := by simp [hxy]
     have R : Hid (a.take (i + 1) = b.take (i + 1)) := hstep.out.2 hxy
     clear hxy hstep
     go_upto_region 6 with (fail)
     have z1 := After.cell g0
     have z2 := After.cell g1
     clear g0 g1
     refine wp_region_after (by kernel_rfl) (by kernel_rfl) ?_
     repeat (go_big_quiet_step (fail))
     refine wpQuiet_nil ?_
     rintro _ ⟨u, rfl⟩
     have hu := Lib.hid (hx.out.trans u.ext)
     generalize u.world = W at hu ⊢
     clear z1 z2
     go_wp2
     go_roundw
     case rel => exact ⟨i + 1, by omega, by go_num, hu, R⟩
     case measure => simp [intOf]; omega
    ·have d1 : (x != y) = true := by simp [hxy]
     have R : Hid (decide (a = b) = false) := decide_eq_false (fun e => hxy (hstep.out.1 (by rw [e])))
     clear hxy hstep
     go_upto_region 6 with (fail)
     have z1 := After.cell g0
     have z2 := After.cell g1
     clear g0 g1
     refine wp_region_after (by kernel_rfl) (by kernel_rfl) ?_
     repeat (go_big_quiet_step (fail))
     refine wpQuiet_nil ?_
     rintro _ ⟨u, rfl⟩
     have hu := Lib.hid (hx.out.trans u.ext)
     generalize u.world = W at hu ⊢
     clear z1 z2
     go_wp2
     go_ret
     rw [R.out]
     exact ⟨rfl, hu.out⟩
   ·have R : Hid (decide (a = b) = true) := decide_eq_true (by
     have := hF.out
     rwa [List.take_of_length_le (by omega), List.take_of_length_le (by omega)] at this)
    go_wp2
    go_ret
    rw [R.out]
    exact ⟨rfl, hx.out⟩
 ·have d0 : ((a.length : Int) != b.length) = true := by simp; omega
  have R : Hid (decide (a = b) = false) := decide_eq_false (fun e => hl (by rw [e]))
  clear hl
  go_enter Tryz.func43, Tryz.ntmps43
  go_wp2
  go_ret
  rw [R.out]
  exact ⟨rfl, Ext.refl _⟩
theorem opIn_round {l n : Nat} {P : Program} {o : Oper} {a : Act} {w : World} {K : Act → World → Prop} {Q : Exit → Act → World → Prop} (hnd : ∀ c, o.op ≠ .defer c) (h : o.wp P a w K Q) : o.wpIn (Fence.wide.inRound l) n P a w K Q := by
 refine ⟨fun _ _ => trivial, ?_⟩
 have e : o.semAt (Fence.wide.inRound l).round a.eval = execOp a.eval o := Oper.semAt_some l a.eval o hnd
 rw [e]
 unfold Oper.wp at h
 generalize (execOp a.eval o).run P w = r at *
 cases r with
 | halt x w' =>
  cases x <;> first | exact h | exact h.elim
 | ok nx w' =>
  cases nx with
  | value v => exact h
  | skip => exact h
  | defer d => exact h
  | enter f args => exact ⟨fun x => (by cases x), CallsIn.inRound l (callsIn_wide.2 h)⟩
  | row r args => 
   refine ⟨fun x => (by cases x), fun c cs _ => ?_⟩
   obtain ⟨v, w2, x, y⟩ := h c cs
   exact ⟨v, w2, x, stepsIn_wide.2 y⟩
  | round => exact h.elim
  | _ => exact h.elim
def noDeferB (l : List Oper) : Bool := l.all fun o => match o.op with | .defer _ => false | _ => true
theorem wpAnyIn_round {l n : Nat} {P : Program} {ops : List Oper} {md : Region.Mode} {Q : Exit → Act → World → Prop} (hQ : ¬ LetsOut Q) (hnd : noDeferB ops = true) :
  ∀ (fuel : Nat) (listed : Array Bool) (a : Act) (w : World), wpAny P md ops.toArray Q fuel listed a w → wpAnyIn (Fence.wide.inRound l) n P md ops.toArray Q fuel listed a w
 | 0, _, _, _, h => h
 | fuel + 1, listed, a, w, h => by
  refine ⟨h.1, fun i hi => ?_⟩
  have h2 := h.2 i hi
  unfold wpOp at h2
  unfold wpOpIn
  cases ho : ops.toArray[i]? with
  | none => rw [ho] at h2; exact wpAnyIn_round hQ hnd fuel _ _ _ h2
  | some o =>
   rw [ho] at h2
   dsimp only at h2 ⊢
   have hdf : ∀ c, o.op ≠ .defer c := fun c e => by
    simp only [noDeferB, List.all_eq_true] at hnd
    have hm : o ∈ ops := by
     have : ops[i]? = some o := by simpa using ho
     exact List.mem_of_getElem? this
    have := hnd o hm
    rw [e] at this
    cases this
   split
   ·rename_i hw
    rw [if_pos hw] at h2
    rcases h2 with h2 | h2
    ·exact opIn_round hdf (Oper.wp_mono (fun a w x => wpAnyIn_round hQ hnd fuel _ a w x) h2)
    ·exact absurd h2.2 hQ
   ·rename_i hw
    rw [if_neg hw] at h2
    exact ⟨fun _ _ => trivial, wpAnyIn_round hQ hnd fuel _ _ _ h2⟩
theorem wpIn_region_after {l' n id : Nat} {P : Program} {Q : Exit → Act → World → Prop} {a : Act} {w : World} {l : List Oper} (hm : P.follows .mixedOrders = true) (hB : Region.lexB .any l.toArray = true) (hnd : noDeferB l = true) (hQ : ¬ LetsOut Q)
  (h : wpQuiet P l.toArray (fun W => ∃ x : After w, W = x.world) (fun a' => ∀ W, (∃ x : After w, W = x.world) → Q .normal a' W) l a) : (Code.region id l.toArray true).wpIn (Fence.wide.inRound l') n P Q a w := by
 simp only [Region.lexB, Bool.and_eq_true] at hB
 refine wpIn_region_any hm (wpAnyIn_round hQ hnd _ _ _ _ (wpAny_of_quiet (C := fun W => ∃ x : After w, W = x.world) (Q := fun a' => ∀ w', (∃ x : After w, w' = x.world) → Q .normal a' w') (fun _ w' hw' h => h w' hw') _ _ _ _ ⟨⟨w.drew, (Ext.refl w).drew⟩, rfl⟩ ?_))
 have := wpAnyQ_lex (C := fun W => ∃ x : After w, W = x.world) (md := .any) hB.1 l 0 (Array.replicate l.toArray.size false) a (by simp) (by simpa using hB.2) h
 simpa using this
structure MovesM (u W : World) (Mv : Nat) (vs : List Value) (ms : List (List Int)) : Prop where
 ext : Ext u W
 bM : u.heap.size ≤ Mv
 blk : Blk W Mv 31 vs.toArray
 len : vs.length = ms.length
 rows : ∀ (j : Nat) (v : Value) (m : List Int), vs[j]? = some v → ms[j]? = some m → IntsO W u.heap.size v m
 apart : ∀ (j k : Nat) (v x : Value) (g : Nat), vs[j]? = some v → vs[k]? = some x → j ≠ k → v.ownBlock = some g → x.ownBlock ≠ some g
theorem MovesM.toExt {u W W' : World} {Mv : Nat} {vs : List Value} {ms : List (List Int)} (h : MovesM u W Mv vs ms) (e : Ext W W') : MovesM u W' Mv vs ms :=
 ⟨h.ext.trans e, h.bM, (Keep.of_ext (X := fun _ => False) e).blk h.blk id, h.len, fun j v m a b => (h.rows j v m a b).ext e, h.apart⟩
theorem MovesM.new {u W : World} (e : Ext u W) (n : Nat) : MovesM u (W.alloc (.cells (Array.replicate n (.slice none 0 0)) 31)) W.heap.size (List.replicate n (.slice none 0 0)) (List.replicate n []) := by
 refine ⟨e.alloc _, e.size, blk_new' rfl (by simp), by simp, fun j v m a b => ?_, fun j k v x g a b _ hg => ?_⟩
 ·rw [List.getElem?_replicate] at a b
  split at a <;> cases a
  split at b <;> cases b
  all_goals exact IntsO.nil _ _
 ·rw [List.getElem?_replicate] at a
  split at a <;> cases a
  cases hg
structure MidM (u W : World) (Mv : Nat) (vs : List Value) (ms : List (List Int)) (i : Nat) (m : List Int) (v' : Value) : Prop where
 ext : Ext u W
 bM : u.heap.size ≤ Mv
 blk : Blk W Mv 31 vs.toArray
 len : vs.length = ms.length
 own : IntsO W u.heap.size v' m
 rows : ∀ (j : Nat) (v : Value) (m : List Int), j ≠ i → vs[j]? = some v → ms[j]? = some m → IntsO W u.heap.size v m
 apart : ∀ (j k : Nat) (v x : Value) (g : Nat), vs[j]? = some v → vs[k]? = some x → j ≠ k → v.ownBlock = some g → x.ownBlock ≠ some g
 fresh : ∀ (j : Nat) (v : Value) (g : Nat), j ≠ i → vs[j]? = some v → v.ownBlock = some g → v'.ownBlock ≠ some g
theorem MidM.toExt {u W W' : World} {Mv : Nat} {vs : List Value} {ms : List (List Int)} {i : Nat} {m : List Int} {v' : Value} (h : MidM u W Mv vs ms i m v') (e : Ext W W') : MidM u W' Mv vs ms i m v' :=
 ⟨h.ext.trans e, h.bM, (Keep.of_ext (X := fun _ => False) e).blk h.blk id, h.len, h.own.ext e, fun j v m n a b => (h.rows j v m n a b).ext e, h.apart, h.fresh⟩
theorem MovesM.push {u W w1 : World} {Mv : Nat} {vs : List Value} {ms : List (List Int)} {i : Nat} {v v' : Value} {m m' : List Int} (h : MovesM u W Mv vs ms) (hv : vs[i]? = some v) (hm : ms[i]? = some m)
  (hown : IntsO w1 u.heap.size v' m') (hg : W.grownBy w1 v.ownBlock) (hat : v'.ownBlock = v.ownBlock ∨ v'.ownBlock = some W.heap.size) : MidM u w1 Mv vs ms i m' v' := by
 have hrow := h.rows i v m hv hm
 have k : Keep (fun x => v.ownBlock = some x) W w1 := (Keep.refl _ W).grown hg (fun g e => Or.inl e)
 refine ⟨h.ext.grown hg (fun g e => (hrow.lt g e).1), h.bM, k.blk h.blk (fun e => ?_), h.len, hown, fun j x mj hj a b => k.owns (h.rows j x mj a b) (fun g hx e => h.apart i j v x g hv a (Ne.symm hj) e hx), h.apart, fun j x g hj a hx e => ?_⟩
 ·obtain ⟨cs, hb⟩ := owns_block hrow e
  exact absurd (blk_type h.blk hb) (by decide)
 ·rcases hat with e2 | e2
  ·rw [e2] at e
   exact h.apart i j v x g hv a (Ne.symm hj) e hx
  ·rw [e2] at e
   cases e
   have hjm : j < ms.length := by rw [← h.len]; exact (List.getElem?_eq_some_iff.1 a).1
   have := (h.rows j x ms[j] a (by simp [hjm])).lt _ hx
   omega
theorem MidM.store {u W : World} {Mv : Nat} {vs : List Value} {ms : List (List Int)} {i : Nat} {m : List Int} {v' : Value} (h : MidM u W Mv vs ms i m v') : MovesM u (W.setCell ⟨Mv, i, none⟩ v') Mv (vs.set i v') (ms.set i m) := by
 have k := keep_set W Mv i v'
 have hfar : ∀ {v : Value} {m : List Int}, IntsO W u.heap.size v m → IntsO (W.setCell ⟨Mv, i, none⟩ v') u.heap.size v m := fun ho => k.owns ho (fun g hg e => by
  obtain ⟨cs, hb⟩ := owns_block ho hg
  rw [e] at hb
  exact absurd (blk_type h.blk hb) (by decide))
 refine ⟨h.ext.setCell h.bM _, h.bM, ?_, by simp [h.len], fun j v mj a b => ?_, fun j k' v x g a b hne hg => ?_⟩
 ·have := h.blk.set_ i v'
  have e : vs.toArray.setIfInBounds i v' = (vs.set i v').toArray := by simp
  rwa [e] at this
 ·by_cases hj : j = i
  ·subst hj
   have h1 := (List.getElem?_eq_some_iff.1 a).1
   have h2 := (List.getElem?_eq_some_iff.1 b).1
   rw [List.length_set] at h1 h2
   rw [List.getElem?_set_self h1] at a
   rw [List.getElem?_set_self h2] at b
   cases a
   cases b
   exact hfar h.own
  ·rw [List.getElem?_set_ne (Ne.symm hj)] at a b
   exact hfar (h.rows j v mj hj a b)
 ·by_cases hj : j = i
  ·subst hj
   have h1 := (List.getElem?_eq_some_iff.1 a).1
   rw [List.length_set] at h1
   rw [List.getElem?_set_self h1] at a
   rw [List.getElem?_set_ne hne] at b
   cases a
   exact fun e => h.fresh k' x g (Ne.symm hne) b e hg
  ·rw [List.getElem?_set_ne (Ne.symm hj)] at a
   by_cases hk : k' = i
   ·subst hk
    have h1 := (List.getElem?_eq_some_iff.1 b).1
    rw [List.length_set] at h1
    rw [List.getElem?_set_self h1] at b
    cases b
    exact h.fresh j v g hj a hg
   ·rw [List.getElem?_set_ne (Ne.symm hk)] at b
    exact h.apart j k' v x g a b hne hg
def movesL (n : Nat) (l : List StepD) : List (List Int) := (List.range n).map (movesOf l)
theorem movesOf_snoc (l : List StepD) (s : StepD) (j : Nat) : movesOf (l ++ [s]) j = if s.1 = (j : Int) then movesOf l j ++ [s.2] else movesOf l j := by
 unfold movesOf
 by_cases h : s.1 = (j : Int) <;> simp [List.filter_append, h]
theorem movesL_at {n : Nat} {l : List StepD} {j : Nat} (h : j < n) : (movesL n l)[j]? = some (movesOf l j) := by simp [movesL, h]
theorem movesL_snoc {n i : Nat} {l : List StepD} {y : Int} (hi : i < n) : movesL n (l ++ [((i : Int), y)]) = (movesL n l).set i (movesOf l i ++ [y]) := by
 apply List.ext_getElem?
 intro j
 by_cases hj : j < n
 ·rw [movesL_at hj, movesOf_snoc]
  by_cases e : i = j
  ·subst e
   rw [if_pos rfl, List.getElem?_set_self (by simp [movesL, hi])]
  ·rw [if_neg (by dsimp only; omega), List.getElem?_set_ne e, movesL_at hj]
 ·rw [List.getElem?_eq_none (by simp [movesL]; omega), List.getElem?_eq_none (by simp [movesL]; omega)]
theorem movesL_nil (n : Nat) : movesL n [] = List.replicate n [] := by
 apply List.ext_getElem?
 intro j
 by_cases hj : j < n
 ·rw [movesL_at hj, List.getElem?_replicate, if_pos hj]; rfl
 ·rw [List.getElem?_eq_none (by simp [movesL]; omega), List.getElem?_eq_none (by simp; omega)]
theorem made_nils (n : Nat) : madeCells (Value.slice none 0 0).cells n = Array.replicate n (Value.slice none 0 0) := by
 apply Array.ext_getElem?
 intro i
 by_cases h : i < n
 ·simp [madeCells, h, Value.cells, Nat.mod_one]
 ·simp [madeCells, h]
theorem run_make_rows (n : Nat) (hn : n ≤ 1000000) (w : World) :
  (Instr.makeSlice 42 (.int .i64 (n : Int)) (.int .i64 (n : Int))).run Tryz.prog w = .ok (.slice (some ⟨w.heap.size, 0, none⟩) n n) (w.alloc (.cells (Array.replicate n (.slice none 0 0)) 31)) := by
 obtain ⟨i0, hi, hz, hs, hb⟩ := info_parts ints_info
 have := run_make_any (P := Tryz.prog) 42 31 i0 _ Tryz.underlying42 hi hz .i64 .i64 n n (Nat.le_refl _) (by rw [hb]; omega) (by omega) w
 rw [this, hs, Nat.mul_one, made_nils]
theorem stAt_range {t : List WishD} {l : List StepD} (hv : validT t = 0) (hok : l.all (stepOkB t) = true) (i : Nat) : InRange (stAt t l i) := by
 unfold stAt
 have hz : InRange (zeros t.length) := inRange_of fun i _ => by rw [atI_zeros]; omega
 have key : ∀ (l : List StepD) (st : List Int), l.all (stepOkB t) = true → InRange st → InRange (afterS st l) := by
  intro l
  induction l with
  | nil => exact fun st _ h => h
  | cons s l ih =>
   intro st ho h
   rw [List.all_cons, Bool.and_eq_true] at ho
   rw [afterS_cons]
   refine ih _ ho.2 (h.set_ _ ?_)
   obtain ⟨j, hj, hjt⟩ := stepOk_idx ho.1
   have hx : t[j]? = some t[j] := by simp [hjt]
   have h16 := valid_opts hv (List.getElem_mem hjt)
   have h1 := ho.1
   simp only [stepOkB, hj, Int.toNat_natCast, hx, Option.getD_some, Bool.and_eq_true, decide_eq_true_eq] at h1
   omega
 exact key _ _ (List.all_eq_true.2 fun x hx => List.all_eq_true.1 hok x (List.mem_of_mem_take hx)) hz
def CalmTo (t : List WishD) (l : List StepD) (i : Nat) : Prop := ∀ k s, k + 1 < i → l[k]? = some s → quietB t (stAt t l (k + 1)) s.1.toNat = true
theorem calmTo_iff {t : List WishD} {l : List StepD} : calmWay t (zeros t.length) l = true ↔ CalmTo t l (l.length + 1) := by
 have key : ∀ (l : List StepD) (st : List Int), calmWay t st l = true ↔ ∀ k s, l[k]? = some s → quietB t (afterS st (l.take (k + 1))) s.1.toNat = true := by
  intro l
  induction l with
  | nil => exact fun st => ⟨fun _ k s h => by simp at h, fun _ => rfl⟩
  | cons x l ih =>
   intro st
   simp only [calmWay, Bool.and_eq_true]
   rw [ih]
   constructor
   ·rintro ⟨a, b⟩ k s h
    cases k with
    | zero => simp at h; subst h; simpa [afterS] using a
    | succ k => rw [List.take_succ_cons, afterS_cons]; exact b k s (by simpa using h)
   ·intro h
    refine ⟨by have := h 0 x rfl; simpa [afterS] using this, fun k s hk => ?_⟩
    have := h (k + 1) s (by simpa using hk)
    rwa [List.take_succ_cons, afterS_cons] at this
 rw [key]
 constructor
 ·intro h k s _ hk
  exact h k s hk
 ·intro h k s hk
  have hlt := (List.getElem?_eq_some_iff.1 hk).1
  exact h k s (by omega) hk
attribute [local go_sem] Oper.semAt_some
theorem check_results {tmps : Array Value} {w : World} {g : Nat} {x : Int} (hp : tmps.getD 6 undef = .pointer (some ⟨g, 0, none⟩)) (hb : Blk w g 35 #[.int .i64 x]) :
  (results Tryz.f16 tmps).run Tryz.prog w = .ok (.int .i64 x) w := by
 have hp' : tmps[6]?.getD undef = .pointer (some ⟨g, 0, none⟩) := by simpa using hp
 have hc : w.cell? ⟨g, 0, none⟩ = some (.int .i64 x) := hb.cell 0
 simp [results, Tryz.results16, hp', asAddr, go_sem, hc]
structure MvI (u : World) (Mv sb : Nat) (vs : List Value) (ms : List (List Int)) (i : Nat) (y : Int) (v : Value) (m : List Int) (L : Nat → Bool) (v48 v49 v50 v51 v52 v53 v54 v55 v56 : Value) (W : World) : Prop where
 ext : Ext u W
 sB : Blk W sb 101 #[.int .i64 i, .int .i64 y]
 f0 : L 0 = true → v48 = .slice (some ⟨Mv, 0, none⟩) vs.length vs.length
 f1 : L 1 = true → v49 = .pointer (some ⟨sb, 0, none⟩)
 f2 : L 2 = true → v50 = .int .i64 i
 f3 : L 3 = true → v51 = v
 f4 : L 4 = true → v52 = .pointer (some ⟨sb, 1, none⟩)
 f5 : L 5 = true → v53 = .int .i64 y
 f6 : L 6 = true → ∃ g, v54 = .slice (some ⟨g, 0, none⟩) 1 1 ∧ (L 7 = false → Blk W g 3 #[.int .i64 y])
 f7 : L 7 = false → L 9 = false ∧ MovesM u W Mv vs ms
 g7 : L 7 = true → L 9 = false → MidM u W Mv vs ms i (m ++ [y]) v55
 f8 : L 8 = true → v56 = .pointer (some ⟨Mv, i, none⟩)
 f9 : L 9 = true → ∃ v', MovesM u W Mv (vs.set i v') (ms.set i (m ++ [y]))
theorem MvI.toExt {u W W' : World} {Mv sb : Nat} {vs : List Value} {ms : List (List Int)} {i : Nat} {y : Int} {v : Value} {m : List Int} {L : Nat → Bool} {v48 v49 v50 v51 v52 v53 v54 v55 v56 : Value} (h : MvI u Mv sb vs ms i y v m L v48 v49 v50 v51 v52 v53 v54 v55 v56 W) (e : Ext W W') :
  MvI u Mv sb vs ms i y v m L v48 v49 v50 v51 v52 v53 v54 v55 v56 W' := by
 have k : Keep (fun _ => False) W W' := Keep.of_ext e
 exact ⟨h.ext.trans e, k.blk h.sB id, h.f0, h.f1, h.f2, h.f3, h.f4, h.f5, fun q => let ⟨g, a, b⟩ := h.f6 q; ⟨g, a, fun r => k.blk (b r) id⟩, fun q => ⟨(h.f7 q).1, (h.f7 q).2.toExt e⟩, fun q r => (h.g7 q r).toExt e, h.f8, fun q => let ⟨v', a⟩ := h.f9 q; ⟨v', a.toExt e⟩⟩
theorem reads_blk1 {w : World} {g size m : Nat} {t : TypeId} {cs : Array Value} (h : Blk w g t cs) (hs : cs.size = m * size) : Reads w (g + 1) size (some ⟨g, 0, none⟩) m cs.toList := by
 refine ⟨by simpa using hs, fun _ => ⟨_, rfl, Nat.lt_succ_self g, fun j u hu => ?_⟩⟩
 have e : (⟨g, 0, none⟩ : Addr).add j = ⟨g, j, none⟩ := by unfold Addr.add; split <;> simp_all
 rw [e, h.cell]
 simpa using hu
structure CkB (w W : World) (tv sv : Value) : Prop where
 ext : Ext w W
 bt : Blk W w.heap.size 28 #[tv]
 bs : Blk W (w.heap.size + 1) 39 #[sv]
 br : Blk W (w.heap.size + 2) 35 #[.int .i64 0]
theorem CkB.toExt {w W W' : World} {tv sv : Value} (h : CkB w W tv sv) (e : Ext W W') : CkB w W' tv sv := by
 have k : Keep (fun _ => False) W W' := Keep.of_ext e
 exact ⟨h.ext.trans e, k.blk h.bt id, k.blk h.bs id, k.blk h.br id⟩
structure CkI (w : World) (tv sv : Value) (Cb Nb b : Nat) (t : List WishD) (l : List StepD) (i : Nat) (W : World) : Prop where
 bx : CkB w W tv sv
 cb : Blk W Cb 95 #[.map (some b)]
 nb : Blk W Nb 3 #[.int .i64 i]
 tb : Tab W b t
 calm : CalmTo t l i
def CkX (w : World) (chk : Int) (c : Code) (W : World) : Prop := c = .ret ∧ Ext w W ∧ Blk W (w.heap.size + 2) 35 #[.int .i64 11] ∧ chk = 11
theorem CkI.stands {w : World} {tv sv : Value} {B Cb Nb b : Nat} {t : List WishD} {l : List StepD} {i : Nat} (h1 : w.heap.size + 2 < B) (h2 : Cb < B) (h3 : Nb < B) (h4 : b < B) : Stands B (CkI w tv sv Cb Nb b t l i) := fun A A' row h g r => by
 have k : Keep (fun x => row = some x) A A' := (Keep.refl _ A).grown g (fun g' e => Or.inl e)
 exact ⟨⟨Stands.ext (by omega) A A' row h.bx.ext g r, Stands.blk (by omega) A A' row h.bx.bt g r, Stands.blk (by omega) A A' row h.bx.bs g r, Stands.blk (by omega) A A' row h.bx.br g r⟩, Stands.blk h2 A A' row h.cb g r, Stands.blk h3 A A' row h.nb g r,
  h.tb.keep k (fun e => by rcases r with r | r | r | r <;> rw [r] at e <;> simp at e <;> omega), h.calm⟩
theorem CkX.stands {w : World} {B : Nat} {chk : Int} (c : Code) (h1 : w.heap.size + 2 < B) : Stands B (CkX w chk c) := fun A A' row h g r =>
 ⟨h.1, Stands.ext (by omega) A A' row h.2.1 g r, Stands.blk (by omega) A A' row h.2.2.1 g r, h.2.2.2⟩
theorem keepsOthers_ext {W W' : World} (e : Ext W W') : KeepsOthers W W' := ⟨e.size, fun _ _ hk _ => (e.heap (Array.getElem?_eq_some_iff.1 hk).1).trans hk⟩
theorem CkB.setN {w W : World} {tv sv : Value} {Nb : Nat} (h : CkB w W tv sv) (hn : w.heap.size + 2 < Nb) (v : Value) : CkB w (W.setCell ⟨Nb, 0, none⟩ v) tv sv :=
 ⟨h.ext.setCell (by dsimp only; omega) _, h.bt.far (by dsimp only; omega) _, h.bs.far (by dsimp only; omega) _, h.br.far (by dsimp only; omega) _⟩
set_option maxRecDepth 100000 in
theorem carryCheckFull_calls (wv pv sv : Value) (t : List WishD) (pick : List Int) (l : List (Int × Int)) (w : World) (h : Wishes w wv t) (hp : Ints w pv pick) (hs : Spans w sv l) :
  Calls Tryz.prog 16 #[.agg #[wv], pv, sv] w fun e w' => e = .returned (.int .i64 (checkS t pick l)) ∧ Ext w w' := by
 have hT := Lib.hid h
 have hP := Lib.hid hp
 have hS := Lib.hid hs
 obtain ⟨ta, tc, rfl⟩ := h.form
 obtain ⟨pa, pc, rfl⟩ := hp.form
 obtain ⟨sa, sc, rfl, hsn, hsc, sat⟩ := hs.open
 have sat' := Lib.hid sat
 obtain ⟨k0, hk0, kz0, kz1, kz2⟩ := info_parts int_info
 clear h hp hs sat
 obtain ⟨z, hz⟩ : ∃ z, Hid (validT t = z) := ⟨_, rfl⟩
 obtain ⟨lw, hlw⟩ : ∃ z, Hid (lawfulB t pick = z) := ⟨_, rfl⟩
 obtain ⟨sz, hsz⟩ : ∃ z, Hid (stepsT t l = z) := ⟨_, rfl⟩
 have hval : Hid (∀ W, Ext w W → Calls Tryz.prog 24 #[.agg #[.slice ta t.length tc]] W fun e w' => e = .returned (.int .i64 z) ∧ Ext W w') := fun W hW => hz.out ▸ valid_calls _ t W (hT.out.ext hW)
 have hlaw : Hid (∀ W, Ext w W → Calls Tryz.prog 19 #[.agg #[.slice ta t.length tc], .slice pa pick.length pc] W fun e w' => e = .returned (.bool lw) ∧ Ext W w') := fun W hW => hlw.out ▸ lawful_calls _ _ t pick W (hT.out.ext hW) (hP.out.ext hW)
 have hchk : Hid (∀ W, Ext w W → Calls Tryz.prog 36 #[.agg #[.slice ta t.length tc], .slice sa l.length sc] W fun e w' => e = .returned (.int .i64 sz) ∧ Ext W w') := fun W hW => hsz.out ▸ carryCheck_calls _ _ t l W (hT.out.ext hW) (hS.out.ext hW)
 refine (callsIn_wide (n := 5)).1 ?_
 refine callsIn_of_wp_marks Tryz.func16 rfl trivial ?_ rfl
 simp only [Tryz.ntmps16, List.size_toArray, List.length_cons, List.length_nil, Nat.reduceAdd, Nat.reduceSub, Array.replicate_succ, Array.replicate_zero, List.push_toArray, List.append_toArray, List.nil_append, List.cons_append]
 refine wpIn_wide.2 ?_
 go_upto_region 1 with (fail)
 refine wp_abs (S := fun W => Hid (CkB w W (.slice ta t.length tc) (.slice sa l.length sc))) ?_ ?_
 ·exact Lib.hid ⟨by exact (by with_reducible repeat' (first | exact Ext.refl _ | assumption | refine Ext.drewN ?_ _ | refine Ext.drew ?_ | refine Ext.alloc ?_ _ | refine Ext.trans ?_ (by with_reducible assumption))), Blk.alloc (Blk.alloc (blk_new' rfl rfl) _) _, Blk.alloc (blk_new' (by simp only [World.size_alloc]) rfl) _, blk_new' (by simp only [World.size_alloc]) rfl⟩
 rintro W0 hC0
 have c0 : W0.cell? ⟨w.heap.size, 0, none⟩ = some (.slice ta t.length tc) := hC0.out.bt.cell 0
 have c1 : W0.cell? ⟨w.heap.size + 1, 0, none⟩ = some (.slice sa l.length sc) := hC0.out.bs.cell 0
 have cR : W0.cell? ⟨w.heap.size + 2, 0, none⟩ = some (.int .i64 0) := hC0.out.br.cell 0
 have fR := hC0.out.br.frozen 0
 have lR := hC0.out.br.lt
 have l0 := hC0.out.bt.lt
 have l1 := hC0.out.bs.lt
 (try go_step3)
 go_wp2_with fail
 refine (hval.out _ hC0.out.ext).mono ?_
 rintro e w1 ⟨rfl, hx1⟩
 have hC1 := Lib.hid (hC0.out.toExt hx1)
 clear hx1 hC0 c0 c1 cR fR lR l0 l1 hval
 have c0 : w1.cell? ⟨w.heap.size, 0, none⟩ = some (.slice ta t.length tc) := hC1.out.bt.cell 0
 have c1 : w1.cell? ⟨w.heap.size + 1, 0, none⟩ = some (.slice sa l.length sc) := hC1.out.bs.cell 0
 have cR : w1.cell? ⟨w.heap.size + 2, 0, none⟩ = some (.int .i64 0) := hC1.out.br.cell 0
 have fR := hC1.out.br.frozen 0
 have lR := hC1.out.br.lt
 have l0 := hC1.out.bt.lt
 have l1 := hC1.out.bs.lt
 by_cases h0 : z = 0
 rotate_left
 ·have hz0 : (z != 0) = true := by simp [h0]
  have R : Hid (checkS t pick l = z) := by show _ = _; unfold checkS; rw [hz.out, if_neg h0]
  clear hz h0
  go_wp2
  refine postM_ret (check_results rfl (hC1.out.br.set_ 0 (.int .i64 z))) ?_
  rw [R.out]
  exact ⟨rfl, hC1.out.ext.setCell (p := ⟨w.heap.size + 2, 0, none⟩) (by dsimp only; omega) _⟩
 have hz0 : (z != 0) = false := by simp [h0]
 have hv : Hid (validT t = 0) := hz.out.trans h0
 clear hz h0
 go_wp2_with fail
 refine (hlaw.out _ hC1.out.ext).mono ?_
 rintro e w2 ⟨rfl, hx2⟩
 have hC2 := Lib.hid (hC1.out.toExt hx2)
 clear hx2 hC1 c0 c1 cR fR lR l0 l1 hlaw
 have c0 : w2.cell? ⟨w.heap.size, 0, none⟩ = some (.slice ta t.length tc) := hC2.out.bt.cell 0
 have c1 : w2.cell? ⟨w.heap.size + 1, 0, none⟩ = some (.slice sa l.length sc) := hC2.out.bs.cell 0
 have cR : w2.cell? ⟨w.heap.size + 2, 0, none⟩ = some (.int .i64 0) := hC2.out.br.cell 0
 have fR := hC2.out.br.frozen 0
 have lR := hC2.out.br.lt
 have l0 := hC2.out.bt.lt
 have l1 := hC2.out.bs.lt
 cases lw with
 | false =>
  have R : Hid (checkS t pick l = 1) := by show _ = _; unfold checkS; rw [if_pos hv.out, hlw.out]; rfl
  clear hlw
  go_wp2
  refine postM_ret (check_results rfl (hC2.out.br.set_ 0 (.int .i64 1))) ?_
  rw [R.out]
  exact ⟨rfl, hC2.out.ext.setCell (p := ⟨w.heap.size + 2, 0, none⟩) (by dsimp only; omega) _⟩
 | true =>
  have hpl := Lib.hid (lawful_len hlw.out)
  obtain ⟨hb1, hb2⟩ := stepsT_bd hv.out
  have hlp : pick.length ≤ 512 := by rw [hpl.out]; exact hb2
  go_wp2_with fail
  refine (hchk.out _ hC2.out.ext).mono ?_
  rintro e w3 ⟨rfl, hx3⟩
  have hC3 := Lib.hid (hC2.out.toExt hx3)
  clear hx3 hC2 c0 c1 cR fR lR l0 l1 hchk
  have c0 : w3.cell? ⟨w.heap.size, 0, none⟩ = some (.slice ta t.length tc) := hC3.out.bt.cell 0
  have c1 : w3.cell? ⟨w.heap.size + 1, 0, none⟩ = some (.slice sa l.length sc) := hC3.out.bs.cell 0
  have cR : w3.cell? ⟨w.heap.size + 2, 0, none⟩ = some (.int .i64 0) := hC3.out.br.cell 0
  have fR := hC3.out.br.frozen 0
  have lR := hC3.out.br.lt
  have l0 := hC3.out.bt.lt
  have l1 := hC3.out.bs.lt
  by_cases h0 : sz = 0
  rotate_left
  ·have hs0 : (sz != 0) = true := by simp [h0]
   have R : Hid (checkS t pick l = sz) := by show _ = _; unfold checkS; rw [if_pos hv.out, if_pos hlw.out, hsz.out, if_neg h0]
   clear hsz h0
   go_wp2
   refine postM_ret (check_results rfl (hC3.out.br.set_ 0 (.int .i64 sz))) ?_
   rw [R.out]
   exact ⟨rfl, hC3.out.ext.setCell (p := ⟨w.heap.size + 2, 0, none⟩) (by dsimp only; omega) _⟩
  have hs0 : (sz != 0) = false := by simp [h0]
  obtain ⟨_, hok, hll⟩ := stepsT_ok (hsz.out.trans h0)
  have hok' := Lib.hid hok
  have R0 : Hid (checkS t pick l = if movesOkB pick l && calmWay t (zeros pick.length) l then 0 else 11) := by show _ = _; unfold checkS; rw [if_pos hv.out, if_pos hlw.out, if_pos (hsz.out.trans h0)]
  have hmk := run_make_rows pick.length (by omega)
  have h3 := hC3.out.ext.size
  clear hsz h0 hok
  have hM0 := Lib.hid (MovesM.new (Ext.refl w3) pick.length)
  go_wp2_with fail
  go_loopw [39] (fun vi wr => ∃ (i : Nat) (vs : List Value), i ≤ l.length ∧ vi = .int .i64 i ∧ Hid (MovesM w3 wr w3.heap.size vs (movesL pick.length (l.take i)))) (fun vi _ => l.length - (intOf vi).toNat)
  case atStart => exact ⟨0, _, by omega, rfl, by rw [List.take_zero, movesL_nil]; exact hM0⟩
  case round =>
   clear hM0 hmk
   obtain ⟨i, vs, hi, rfl, hM⟩ := hrel
   by_cases h1 : i < l.length
   ·obtain ⟨b1, o1, x, y, rfl, hb3, dx, ex, g1, g2⟩ := sat'.out i h1 wr (hC3.out.ext.trans hM.out.ext)
    obtain ⟨n, hn, hnt⟩ := stepOk_idx (all_at hok'.out ex.out)
    dsimp only at hn
    subst hn
    have hnp : n < pick.length := by rw [hpl.out]; exact hnt
    have hnext : Hid ((movesL pick.length (l.take i)).set n (movesOf (l.take i) n ++ [y]) = movesL pick.length (l.take (i + 1))) := by
     show _ = _
     rw [take_step ex.out, movesL_snoc hnp]
    have hmat : Hid ((movesL pick.length (l.take i))[n]? = some (movesOf (l.take i) n)) := movesL_at hnp
    obtain ⟨ms, hms⟩ : ∃ ms, Hid (movesL pick.length (l.take i) = ms) := ⟨_, rfl⟩
    obtain ⟨m, hm⟩ : ∃ m, Hid (movesOf (l.take i) n = m) := ⟨_, rfl⟩
    have hml : m.length ≤ 1024 := by
     rw [← hm.out]
     unfold movesOf
     rw [List.length_map]
     exact Nat.le_trans (List.length_filter_le _ _) (by rw [List.length_take]; omega)
    rw [hms.out, hm.out] at hnext
    rw [hms.out] at hM hmat
    rw [hm.out] at hmat
    have hvl : vs.length = pick.length := by rw [hM.out.len, ← hms.out]; simp [movesL]
    obtain ⟨v, hv1⟩ : ∃ v, Hid (vs[n]? = some v) := ⟨vs[n], by show _ = _; simp [hvl, hnp]⟩
    have hrow := hM.out.rows n v m hv1.out hmat.out
    obtain ⟨A, C, rfl⟩ := owns_form hrow
    have hvl' := Lib.hid hvl
    have cm : wr.cell? ⟨w3.heap.size, n, none⟩ = some (.slice A m.length C) := by rw [hM.out.blk.cell]; simpa using hv1.out
    have hMlt := hM.out.blk.lt
    clear hrow hms hm hvl dx ex
    go_upto_region 14 with (fail)
    refine wp_abs (S := fun W => Hid (MovesM w3 W w3.heap.size vs ms) ∧ Hid (Blk W wr.heap.size 101 #[.int .i64 n, .int .i64 y])) ?_ ?_
    ·exact ⟨Lib.hid (hM.out.toExt (by with_reducible repeat' (first | exact Ext.refl _ | assumption | refine Ext.drewN ?_ _ | refine Ext.drew ?_ | refine Ext.alloc ?_ _ | refine Ext.trans ?_ (by with_reducible assumption)))), Lib.hid (blk_new' rfl rfl)⟩
    rintro W2 ⟨hM2, hB2⟩
    have hsb := hM.out.ext.size
    clear hM g1 g2 cm
    refine wp_region_inv (fun Z L a W => ∃ v48 v49 v50 v51 v52 v53 v54 v55 v56, a = ((((((((Z.put (some 48) v48).put (some 49) v49).put (some 50) v50).put (some 51) v51).put (some 52) v52).put (some 53) v53).put (some 54) v54).put (some 55) v55).put (some 56) v56 ∧ MvI w3 w3.heap.size wr.heap.size vs ms n y (.slice A m.length C) m L v48 v49 v50 v51 v52 v53 v54 v55 v56 W) (by kernel_rfl) (by kernel_rfl) ?_ ?_ ?_
    ·exact ⟨u48, u49, u50, u51, u52, u53, u54, u55, u56, (by simp only [Act.put, putA, putB, putC]), ⟨hM2.out.ext.drew, hB2.out.drew, (fun q => by cases q), (fun q => by cases q), (fun q => by cases q), (fun q => by cases q), (fun q => by cases q), (fun q => by cases q), (fun q => by cases q), fun _ => ⟨rfl, hM2.out.toExt (Ext.refl _).drew⟩, (fun q => by cases q), (fun q => by cases q), (fun q => by cases q)⟩⟩
    ·refine ⟨⟨rfl, ?_⟩, ⟨rfl, ?_⟩, ⟨rfl, ?_⟩, ⟨rfl, ?_⟩, ⟨rfl, ?_⟩, ⟨rfl, ?_⟩, ⟨rfl, ?_⟩, ⟨rfl, ?_⟩, ⟨rfl, ?_⟩, ⟨rfl, ?_⟩, trivial⟩
     ·rintro L _ W ⟨v48, v49, v50, v51, v52, v53, v54, v55, v56, rfl, hI⟩ hL _ K hK
      simp only [Act.put, putA, putB, putC]
      go_simp
      refine hK _ _ ⟨.slice (some ⟨w3.heap.size, 0, none⟩) pick.length pick.length, v49, v50, v51, v52, v53, v54, v55, v56, (by simp only [Act.put, putA, putB, putC]), ⟨hI.ext, hI.sB, fun _ => by rw [hvl'.out], hI.f1, hI.f2, hI.f3, hI.f4, hI.f5, hI.f6, hI.f7, hI.g7, hI.f8, hI.f9⟩⟩
     ·rintro L _ W ⟨v48, v49, v50, v51, v52, v53, v54, v55, v56, rfl, hI⟩ hL _ K hK
      simp only [Act.put, putA, putB, putC]
      go_simp
      refine hK _ _ ⟨v48, _, v50, v51, v52, v53, v54, v55, v56, (by simp only [Act.put, putA, putB, putC]), ⟨hI.ext, hI.sB, hI.f0, fun _ => rfl, hI.f2, hI.f3, hI.f4, hI.f5, hI.f6, hI.f7, hI.g7, hI.f8, hI.f9⟩⟩
     ·rintro L _ W ⟨v48, v49, v50, v51, v52, v53, v54, v55, v56, rfl, hI⟩ hL hd K hK
      simp only [Act.put, putA, putB, putC]
      simp [Region.binds] at hd
      obtain rfl := hI.f1 (by simp [hd])
      have k0 : W.cell? ⟨wr.heap.size, 0, none⟩ = some (.int .i64 n) := hI.sB.cell 0
      go_simp
      refine hK _ _ ⟨v48, _, _, v51, v52, v53, v54, v55, v56, (by simp only [Act.put, putA, putB, putC]), ⟨hI.ext, hI.sB, hI.f0, fun _ => rfl, fun _ => rfl, hI.f3, hI.f4, hI.f5, hI.f6, hI.f7, hI.g7, hI.f8, hI.f9⟩⟩
     ·rintro L _ W ⟨v48, v49, v50, v51, v52, v53, v54, v55, v56, rfl, hI⟩ hL _ K hK
      simp only [Act.put, putA, putB, putC]
      go_simp
      refine hK _ _ ⟨v48, v49, v50, _, v52, v53, v54, v55, v56, (by simp only [Act.put, putA, putB, putC]), ⟨hI.ext, hI.sB, hI.f0, hI.f1, hI.f2, fun _ => rfl, hI.f4, hI.f5, hI.f6, hI.f7, hI.g7, hI.f8, hI.f9⟩⟩
     ·rintro L _ W ⟨v48, v49, v50, v51, v52, v53, v54, v55, v56, rfl, hI⟩ hL _ K hK
      simp only [Act.put, putA, putB, putC]
      go_simp
      refine hK _ _ ⟨v48, v49, v50, v51, _, v53, v54, v55, v56, (by simp only [Act.put, putA, putB, putC]), ⟨hI.ext, hI.sB, hI.f0, hI.f1, hI.f2, hI.f3, fun _ => rfl, hI.f5, hI.f6, hI.f7, hI.g7, hI.f8, hI.f9⟩⟩
     ·rintro L _ W ⟨v48, v49, v50, v51, v52, v53, v54, v55, v56, rfl, hI⟩ hL hd K hK
      simp only [Act.put, putA, putB, putC]
      simp [Region.binds] at hd
      obtain rfl := hI.f4 (by simp [hd])
      have k1 : W.cell? ⟨wr.heap.size, 1, none⟩ = some (.int .i64 y) := hI.sB.cell 1
      go_simp
      refine hK _ _ ⟨v48, v49, v50, v51, _, _, v54, v55, v56, (by simp only [Act.put, putA, putB, putC]), ⟨hI.ext, hI.sB, hI.f0, hI.f1, hI.f2, hI.f3, fun _ => rfl, fun _ => rfl, hI.f6, hI.f7, hI.g7, hI.f8, hI.f9⟩⟩
     ·rintro L _ W ⟨v48, v49, v50, v51, v52, v53, v54, v55, v56, rfl, hI⟩ hL hd K hK
      simp only [Act.put, putA, putB, putC]
      simp [Region.binds] at hd
      obtain rfl := hI.f5 (by simp [hd])
      go_simp
      have h2 := hI.toExt ((Ext.refl W).alloc (.cells #[.int .i64 y] 3))
      refine hK _ _ ⟨v48, v49, v50, v51, v52, _, _, v55, v56, (by simp only [Act.put, putA, putB, putC]), ⟨h2.ext, h2.sB, h2.f0, h2.f1, h2.f2, h2.f3, h2.f4, fun _ => rfl, fun _ => ⟨_, rfl, fun _ => blk_new' rfl rfl⟩, h2.f7, h2.g7, h2.f8, h2.f9⟩⟩
     ·rintro L _ W ⟨v48, v49, v50, v51, v52, v53, v54, v55, v56, rfl, hI⟩ hL hd K hK
      simp only [Act.put, putA, putB, putC]
      simp [Region.binds] at hd
      obtain rfl := hI.f3 (by simp [hd])
      obtain ⟨g, rfl, hgB⟩ := hI.f6 (by simp [hd])
      obtain ⟨q9, hMW⟩ := hI.f7 hL
      have hrow := hMW.rows n _ m hv1.out hmat.out
      have hsz := hMW.ext.size
      refine wp_append_any W (.tmp 51) (.tmp 54) _ rfl w3.heap.size 3 k0 _ 1 8 Tryz.underlying31 hk0 kz0 kz1 kz2 rfl (by decide) (.slice A m.length C) m.length (m.map (Value.int .i64)) rfl hrow (g + 1) (some ⟨g, 0, none⟩) 1 1 [.int .i64 y] rfl (reads_blk1 (hgB hL) rfl) (one_int _) (by unfold maxLen; omega) (by omega) hsz (fun v' w' ho hg hat => hK _ _ ?_)
      have kp : Keep (fun x => (Value.slice A m.length C).ownBlock = some x) W w' := (Keep.refl _ W).grown hg (fun g e => Or.inl e)
      refine ⟨v48, v49, v50, _, v52, v53, _, _, v56, (by simp only [Act.put, putA, putB, putC]), ⟨hI.ext.grown hg (fun g e => (hrow.lt g e).1), kp.blk hI.sB (fun e => ?_), hI.f0, hI.f1, hI.f2, fun _ => rfl, hI.f4, hI.f5, fun _ => ⟨g, rfl, fun q => by simp [upL] at q⟩, fun q => by simp [upL] at q, fun _ _ => hMW.push hv1.out hmat.out (m' := m ++ [y]) ?_ hg hat, hI.f8, fun q => by have q' : L 9 = true := q; rw [q9] at q'; cases q'⟩⟩
      ·obtain ⟨cs, hb⟩ := owns_block hrow e
       exact absurd (blk_type hI.sB hb) (by decide)
      ·unfold IntsO
       simpa using ho
     ·rintro L _ W ⟨v48, v49, v50, v51, v52, v53, v54, v55, v56, rfl, hI⟩ hL hd K hK
      simp only [Act.put, putA, putB, putC]
      simp [Region.binds] at hd
      obtain rfl := hI.f0 (by simp [hd])
      obtain rfl := hI.f2 (by simp [hd])
      rw [hvl'.out]
      go_simp
      refine hK _ _ ⟨.slice (some ⟨w3.heap.size, 0, none⟩) pick.length pick.length, v49, _, v51, v52, v53, v54, v55, _, (by simp only [Act.put, putA, putB, putC]), ⟨hI.ext, hI.sB, fun _ => by rw [hvl'.out], hI.f1, fun _ => rfl, hI.f3, hI.f4, hI.f5, hI.f6, hI.f7, hI.g7, fun _ => rfl, hI.f9⟩⟩
     ·rintro L _ W ⟨v48, v49, v50, v51, v52, v53, v54, v55, v56, rfl, hI⟩ hL hd K hK
      simp only [Act.put, putA, putB, putC]
      simp [Region.binds] at hd
      obtain rfl := hI.f8 (by simp [hd])
      have hmid := hI.g7 (by simp [hd]) hL
      obtain ⟨A2, q2, C2, rfl⟩ : ∃ A q C, v55 = .slice A q C := let ⟨A, C, e⟩ := owns_form hmid.own; ⟨A, _, C, e⟩
      have hlt := hmid.blk.lt
      have k0 : W.cell? ⟨w3.heap.size, n, none⟩ = some (.slice A m.length C) := by rw [hmid.blk.cell]; simpa using hv1.out
      have k1 := hmid.blk.frozen n
      go_simp
      have hst := hmid.store
      refine hK _ _ ⟨v48, v49, v50, v51, v52, v53, v54, .slice A2 q2 C2, _, (by simp only [Act.put, putA, putB, putC]), ⟨hst.ext, Blk.far hI.sB (fun e => absurd (blk_type (e ▸ hI.sB) hmid.blk) (by decide)) _, hI.f0, hI.f1, hI.f2, hI.f3, hI.f4, hI.f5, fun q => let ⟨g, a, b⟩ := hI.f6 q; ⟨g, a, fun r => by have r' : L 7 = false := r; simp [hd] at r'⟩, fun q => by have q' : L 7 = false := q; simp [hd] at q', fun _ q => by simp [upL] at q, fun _ => rfl, fun _ => ⟨_, hst⟩⟩⟩
    ·rintro L _ W ⟨v48, v49, v50, v51, v52, v53, v54, v55, v56, rfl, hI⟩ hL
     simp only [Act.put, putA, putB, putC]
     obtain ⟨v', hMn⟩ := hI.f9 (hL 9 (by decide))
     have hMn' := Lib.hid hMn
     rw [hnext.out] at hMn'
     clear hMn hI hM2 hB2 hnext hmat hv1 hvl'
     go_wp2
     go_roundw
     case rel => exact ⟨i + 1, _, by omega, by go_num, hMn'⟩
     case measure => simp [intOf]; omega
   ·have hMA : Hid (MovesM w3 wr w3.heap.size vs (movesL pick.length l)) := by
     have := hM.out
     rwa [List.take_of_length_le (by omega)] at this
    obtain ⟨wA, hwA⟩ : ∃ wA : World, Hid (wr = wA) := ⟨_, rfl⟩
    have hCA := Lib.hid (hC3.out.toExt hM.out.ext)
    have hvl : Hid (vs.length = pick.length) := by show _ = _; rw [hMA.out.len]; simp [movesL]
    clear hM c0 c1 cR fR lR l0 l1
    go_wp2_with fail
    rw [hwA.out] at hMA hCA
    rw [hwA.out]
    clear hwA
    go_loopw [60] (fun vk wr => ∃ k : Nat, k ≤ pick.length ∧ vk = .int .i64 k ∧ Hid (Ext wA wr) ∧ Hid (∀ j, j < k → okMove (atI pick j) (movesOf l j) = true)) (fun vk _ => pick.length - (intOf vk).toNat)
    case atStart => exact ⟨0, by omega, rfl, Lib.hid (Ext.refl _), Lib.hid (fun j h => by omega)⟩
    case round =>
     obtain ⟨k, hk, rfl, hx, hF⟩ := hrel
     by_cases q1 : k < pick.length
     ·obtain ⟨v, hv1⟩ : ∃ v, Hid (vs[k]? = some v) := ⟨vs[k]'(by rw [hvl.out]; exact q1), by show _ = _; simp [hvl.out, q1]⟩
      have hrow := hMA.out.rows k v _ hv1.out (movesL_at q1)
      obtain ⟨m, hm⟩ : ∃ m, Hid (movesOf l k = m) := ⟨_, rfl⟩
      rw [hm.out] at hrow
      obtain ⟨A, C, rfl⟩ := owns_form hrow
      have cm : wr.cell? ⟨w3.heap.size, k, none⟩ = some (.slice A m.length C) := hx.out.cell (by rw [hMA.out.blk.cell]; simpa using hv1.out)
      have hCr := Lib.hid (hCA.out.toExt hx.out)
      obtain ⟨b2, o2, p, rfl, hb2, _, ep, g1⟩ := (hP.out.at_.1) k q1 wr hCr.out.ext
      have hpk : Hid (atI pick k = p) := atI_some ep.out
      have hrd := Lib.hid (hrow.read.ext hx.out)
      have heq : Hid (∀ W (u : Value) (n : List Int), Ext wr W → Ints W u n → Calls Tryz.prog 43 #[.slice A m.length C, u] W fun e w' => e = .returned (.bool (decide (m = n))) ∧ Ext W w') := fun W u n hW hu => equal_calls _ _ m n W (hrd.out.ext hW) hu
      have cR : wr.cell? ⟨w.heap.size + 2, 0, none⟩ = some (.int .i64 0) := hCr.out.br.cell 0
      have fR := hCr.out.br.frozen 0
      have lR := hCr.out.br.lt
      have hok2 : Hid (okMove (atI pick k) (movesOf l k) = if p = 0 then m == [] else m == [p] || m == [-1, p]) := by show _ = _; rw [hpk.out, hm.out]; rfl
      have hone : Hid (Ints (wr.alloc (.cells #[.int .i64 p] 3)) (.slice (some ⟨wr.heap.size, 0, none⟩) 1 1) [p]) := Lib.hid (ints_of_blk (l := [p]) (blk_new' rfl rfl) (Nat.le_refl _) (by decide))
      have hE1 := Lib.hid ((Ext.refl wr).alloc (.cells #[.int .i64 p] 3))
      have lw := hCr.out.ext.size
      clear hrow hm ep hpk hrd hv1
      by_cases q2 : p = 0
      ·subst q2
       cases hm0 : decide (m = []) with
       | true =>
        have e1 := Lib.hid (of_decide_eq_true hm0)
        go_wp2_with fail
        refine (heq.out _ (.slice none 0 0) [] hE1.out (IntsO.nil _ 0).read).mono ?_
        rintro e w4 ⟨rfl, hx4⟩
        have hx4' := Lib.hid (hE1.out.trans hx4)
        rw [hm0]
        clear hx4 hm0
        have hF2 : Hid (∀ j, j < k + 1 → okMove (atI pick j) (movesOf l j) = true) := fun j hj => by
         rcases Nat.lt_succ_iff_lt_or_eq.1 hj with h | rfl
         ·exact hF.out j h
         ·rw [hok2.out]; simp [e1.out]
        clear hF hok2
        go_wp2
        go_roundw
        case rel => exact ⟨k + 1, by omega, by go_num, Lib.hid (hx.out.trans hx4'.out), hF2⟩
        case measure => simp [intOf]; omega
       | false =>
        have e1 := Lib.hid (of_decide_eq_false hm0)
        go_wp2_with fail
        refine (heq.out _ (.slice none 0 0) [] hE1.out (IntsO.nil _ 0).read).mono ?_
        rintro e w4 ⟨rfl, hx4⟩
        have hx4' := Lib.hid (hE1.out.trans hx4)
        have g2 := hx4'.out.cell g1
        rw [hm0]
        clear hx4 hm0
        have R : Hid (checkS t pick l = 11) := by
         show _ = _
         have hno : movesOkB pick l = false := by
          unfold movesOkB
          rw [List.all_eq_false]
          exact ⟨k, by simpa using q1, by rw [hok2.out]; simp [e1.out]⟩
         rw [R0.out, hno]
         rfl
        have hCz := Lib.hid (hCr.out.toExt hx4'.out)
        have cR2 : w4.cell? ⟨w.heap.size + 2, 0, none⟩ = some (.int .i64 0) := hCz.out.br.cell 0
        have fR2 := hCz.out.br.frozen 0
        have lR2 := hCz.out.br.lt
        clear hF hok2
        go_wp2
        refine postM_ret (check_results rfl (hCz.out.br.set_ 0 (.int .i64 11))) ?_
        rw [R.out]
        exact ⟨rfl, hCz.out.ext.setCell (p := ⟨w.heap.size + 2, 0, none⟩) (by dsimp only; omega) _⟩
      ·have q3 : (p == 0) = false := by simp [q2]
       have q2' := Lib.hid q2
       clear q2
       cases hm0 : decide (m = [p]) with
       | true =>
        have e1 := Lib.hid (of_decide_eq_true hm0)
        go_wp2_with fail
        refine (heq.out _ _ [p] hE1.out hone.out).mono ?_
        rintro e w4 ⟨rfl, hx4⟩
        have hx4' := Lib.hid (hE1.out.trans hx4)
        rw [hm0]
        clear hx4 hm0 hone
        have hF2 : Hid (∀ j, j < k + 1 → okMove (atI pick j) (movesOf l j) = true) := fun j hj => by
         rcases Nat.lt_succ_iff_lt_or_eq.1 hj with h | rfl
         ·exact hF.out j h
         ·rw [hok2.out]; simp [e1.out, q2'.out]
        clear hF hok2
        go_wp2
        go_roundw
        case rel => exact ⟨k + 1, by omega, by go_num, Lib.hid (hx.out.trans hx4'.out), hF2⟩
        case measure => simp [intOf]; omega
       | false =>
        have e1 := Lib.hid (of_decide_eq_false hm0)
        go_wp2_with fail
        refine (heq.out _ _ [p] hE1.out hone.out).mono ?_
        rintro e w4 ⟨rfl, hx4⟩
        have hx4' := Lib.hid (hE1.out.trans hx4)
        have g2 := hx4'.out.cell g1
        have htwo : Hid (Ints (w4.alloc (.cells #[.int .i64 (-1), .int .i64 p] 3)) (.slice (some ⟨w4.heap.size, 0, none⟩) 2 2) [-1, p]) := Lib.hid (ints_of_blk (l := [-1, p]) (blk_new' rfl rfl) (Nat.le_refl _) (by decide))
        have hE4 := Lib.hid (hx4'.out.alloc (.cells #[.int .i64 (-1), .int .i64 p] 3))
        rw [hm0]
        clear hx4 hm0 hone
        cases hm1 : decide (m = [-1, p]) with
        | true =>
         have e2 := Lib.hid (of_decide_eq_true hm1)
         go_wp2_with fail
         refine (heq.out _ _ [-1, p] hE4.out htwo.out).mono ?_
         rintro e w5 ⟨rfl, hx5⟩
         have hx5' := Lib.hid (hE4.out.trans hx5)
         rw [hm1]
         clear hx5 hm1 htwo
         have hF2 : Hid (∀ j, j < k + 1 → okMove (atI pick j) (movesOf l j) = true) := fun j hj => by
          rcases Nat.lt_succ_iff_lt_or_eq.1 hj with h | rfl
          ·exact hF.out j h
          ·rw [hok2.out]; simp [e2.out, q2'.out]
         clear hF hok2
         go_wp2
         go_roundw
         case rel => exact ⟨k + 1, by omega, by go_num, Lib.hid (hx.out.trans hx5'.out), hF2⟩
         case measure => simp [intOf]; omega
        | false =>
         have e2 := Lib.hid (of_decide_eq_false hm1)
         go_wp2_with fail
         refine (heq.out _ _ [-1, p] hE4.out htwo.out).mono ?_
         rintro e w5 ⟨rfl, hx5⟩
         have hx5' := Lib.hid (hE4.out.trans hx5)
         rw [hm1]
         clear hx5 hm1 htwo
         have R : Hid (checkS t pick l = 11) := by
          show _ = _
          have hno : movesOkB pick l = false := by
           unfold movesOkB
           rw [List.all_eq_false]
           exact ⟨k, by simpa using q1, by rw [hok2.out]; simp [e1.out, e2.out, q2'.out]⟩
          rw [R0.out, hno]
          rfl
         have hCz := Lib.hid (hCr.out.toExt hx5'.out)
         have cR2 : w5.cell? ⟨w.heap.size + 2, 0, none⟩ = some (.int .i64 0) := hCz.out.br.cell 0
         have fR2 := hCz.out.br.frozen 0
         have lR2 := hCz.out.br.lt
         clear hF hok2
         go_wp2
         refine postM_ret (check_results rfl (hCz.out.br.set_ 0 (.int .i64 11))) ?_
         rw [R.out]
         exact ⟨rfl, hCz.out.ext.setCell (p := ⟨w.heap.size + 2, 0, none⟩) (by dsimp only; omega) _⟩
     ·have R1 : Hid (checkS t pick l = if calmWay t (zeros t.length) l then 0 else 11) := by
       show _ = _
       have hyes : movesOkB pick l = true := by
        simp only [movesOkB, List.all_eq_true, List.mem_range]
        exact fun j hj => hF.out j (by omega)
       rw [R0.out, hyes, hpl.out]
       rfl
      have hCr := Lib.hid (hCA.out.toExt hx.out)
      obtain ⟨wB, hwB⟩ : ∃ wB : World, Hid (wr = wB) := ⟨_, rfl⟩
      have c0 : wr.cell? ⟨w.heap.size, 0, none⟩ = some (.slice ta t.length tc) := hCr.out.bt.cell 0
      have l0 := hCr.out.bt.lt
      clear hF hx hMA hCA R0 hvl
      go_wp2_with fail
      refine (clashes_calls _ t wr (hT.out.ext hCr.out.ext) hv.out).mono ?_
      rintro e w5 ⟨b, rfl, ht5, hb5, hx5⟩
      have hC5 := Lib.hid (hCr.out.toExt hx5)
      have ht5' := Lib.hid ht5
      have hbl := ht5.lt
      have lr5 := hC5.out.br.lt
      clear hx5 hCr c0 l0 ht5 hwB hb5
      go_upto_region 26 with (fail)
      refine wp_abs (S := fun W => Hid (CkB w W (.slice ta t.length tc) (.slice sa l.length sc)) ∧ Hid (Blk W w5.heap.size 95 #[.map (some b)]) ∧ Hid (Blk W (w5.heap.size + 1) 3 #[.int .i64 0]) ∧ Hid (Tab W b t)) ?_ ?_
      ·exact ⟨Lib.hid (hC5.out.toExt (by exact (by with_reducible repeat' (first | exact Ext.refl _ | assumption | refine Ext.drewN ?_ _ | refine Ext.drew ?_ | refine Ext.alloc ?_ _ | refine Ext.trans ?_ (by with_reducible assumption))))), Lib.hid (Blk.alloc (blk_new' rfl rfl) _), Lib.hid (blk_new' (by simp only [World.size_alloc]) rfl), Lib.hid (ht5'.out.ext (by exact (by with_reducible repeat' (first | exact Ext.refl _ | assumption | refine Ext.drewN ?_ _ | refine Ext.drew ?_ | refine Ext.alloc ?_ _ | refine Ext.trans ?_ (by with_reducible assumption)))))⟩
      rintro W6 ⟨hC6, hT6, hN6, hb6⟩
      have c0 : W6.cell? ⟨w.heap.size, 0, none⟩ = some (.slice ta t.length tc) := hC6.out.bt.cell 0
      have c1 : W6.cell? ⟨w.heap.size + 1, 0, none⟩ = some (.slice sa l.length sc) := hC6.out.bs.cell 0
      clear hC5 ht5'
      go_wp2_with fail
      refine (walk_calls _ _ _ _ _ _ W6).mono ?_
      rintro e w7 ⟨rfl, hx7, k0, k1⟩
      have hC7 := Lib.hid (hC6.out.toExt hx7)
      have hT7 : Hid (Blk w7 w5.heap.size 95 #[.map (some b)]) := Lib.hid ((Keep.of_ext (X := fun _ => False) hx7).blk hT6.out id)
      have hN7 : Hid (Blk w7 (w5.heap.size + 1) 3 #[.int .i64 0]) := Lib.hid ((Keep.of_ext (X := fun _ => False) hx7).blk hN6.out id)
      have hb7 := Lib.hid (hb6.out.ext hx7)
      have ln := hN7.out.lt
      have lc := hT7.out.lt
      have lb := hb7.out.lt
      have lw7 := hC7.out.br.lt
      have lw0 := hC7.out.ext.size
      have lN : w.heap.size + 2 < w5.heap.size + 1 := by omega
      have ln6 := hN6.out.lt
      clear hx7 hC6 hT6 hN6 hb6 c0 c1
      go_wp2_with fail
      refine (wpIn_wide (n := 5)).1 ?_
      have hI0 : Hid (CkI w (.slice ta t.length tc) (.slice sa l.length sc) w5.heap.size (w5.heap.size + 1) b t l 0 w7) := Lib.hid ⟨hC7.out, hT7.out, hN7.out, hb7.out, fun k s h => by omega⟩
      have hE7 := Lib.hid hC7.out.ext
      clear hC7 hT7 hN7 hb7
      refine wpIn_range_walk (n := 5) (by omega) ?hg k0 k1 hE7.out hS.out hok'.out hb2 (CkI w (.slice ta t.length tc) (.slice sa l.length sc) w5.heap.size (w5.heap.size + 1) b t l) (CkX w (checkS t pick l)) (fun i => CkI.stands lw7 lc ln lb) (fun c => CkX.stands c lw7) hI0.out 18 ?assign ?body ?done ?stop
      case hg => rfl
      case assign =>
       intro l W K hK
       simp only [List.setIfInBounds_toArray, List.set_cons_succ, List.set_cons_zero] at hK
       gi_wp2
       exact hK
      case body =>
       rintro l' i W hi hI hxw hcb hSt hSlt
       simp only [List.setIfInBounds_toArray, List.set_cons_succ, List.set_cons_zero]
       have hsl := stAt_len t l i
       have hI' := Lib.hid hI
       have hcb' := Lib.hid hcb
       have hSt' := Lib.hid hSt
       have cN : W.cell? ⟨w5.heap.size + 1, 0, none⟩ = some (.int .i64 i) := hI.nb.cell 0
       have cC : W.cell? ⟨w5.heap.size, 0, none⟩ = some (.map (some b)) := hI.cb.cell 0
       have cS : W.cell? ⟨w.heap.size + 1, 0, none⟩ = some (.slice sa l.length sc) := hI.bx.bs.cell 0
       clear hI hcb hSt hxw
       by_cases hi0 : i = 0
       ·subst hi0
        have zN := After.cell cN
        clear cN cC cS
        gi_wp2_with fail
        refine wpIn_region_after (by kernel_rfl) (by kernel_rfl) (by kernel_rfl) (by rintro ⟨_, _, hq⟩; exact hq) ?_
        (repeat (go_big_quiet_step (fail)))
        refine wpQuiet_nil ?_
        rintro _ ⟨u, rfl⟩
        have hV := Lib.hid u.ext
        generalize u.world = V at hV ⊢
        clear zN
        have hCV := Lib.hid (hI'.out.bx.toExt hV.out)
        have kV : Keep (fun _ => False) W V := Keep.of_ext hV.out
        have hNV := Lib.hid (kV.blk hI'.out.nb id)
        have hcV := Lib.hid (kV.blk hI'.out.cb id)
        have htV := Lib.hid (hI'.out.tb.ext hV.out)
        have hSV := Lib.hid (hSt'.out.ext hV.out)
        have hbV := Lib.hid (hV.out.cell hcb'.out)
        have cNV : V.cell? ⟨w5.heap.size + 1, 0, none⟩ = some (.int .i64 0) := hNV.out.cell 0
        have fNV := hNV.out.frozen 0
        have lNV := hNV.out.lt
        clear hI' hSt' hcb' kV
        gi_wp2
        have ks := keep_set V (w5.heap.size + 1) 0 (.int .i64 1)
        refine ⟨((keepsOthers_ext hV.out).trans (KeepsOthers.setCell _ _ _)).from _, (hCV.out.setN lN _).ext, ks.cell hbV.out (by dsimp only; omega), Blk.far hSV.out (by dsimp only; omega) _, hCV.out.setN lN _, Blk.far hcV.out (by dsimp only; omega) _, ?_, htV.out.keep ks (htV.out.ne hNV.out), ?_⟩
        ·exact hNV.out.set_ 0 _
        ·exact fun k s h => by omega
       ·obtain ⟨j, rfl⟩ : ∃ j, i = j + 1 := ⟨i - 1, by omega⟩
        have hjl : j < l.length := by omega
        obtain ⟨b1, o1, x, y, rfl, hb3, _, ex, g1, g2⟩ := sat'.out j hjl W hI'.out.bx.ext
        obtain ⟨m, hm, hmt⟩ := stepOk_idx (all_at hok'.out ex.out)
        dsimp only at hm
        subst hm
        obtain ⟨zq, hzq⟩ : ∃ z, Hid (quietB t (stAt t l (j + 1)) m = z) := ⟨_, rfl⟩
        have hq : Hid (∀ X, Ext W X → Calls Tryz.prog 34 #[.map (some b), .slice (some ⟨w7.heap.size + 2, 0, none⟩) t.length t.length, .int .i64 m] X fun e w' => e = .returned (.bool zq) ∧ Ext X w') := fun X hX => by
         have hrd := (hSt'.out.ext hX).read (by rw [hsl]; unfold maxLen; omega)
         rw [hsl] at hrd
         rw [← hzq.out]
         exact quiet_calls b _ t _ m X (hI'.out.tb.ext hX) hrd (stAt_range hv.out hok'.out _) (by rw [hsl]; exact hmt)
        have hcj : ((j + 1 : Nat) : Int) = (j : Int) + 1 := by omega
        rw [hcj] at cN
        have hcalm := Lib.hid hI'.out.calm
        have zN := After.cell cN
        have zC := After.cell cC
        have zS := After.cell cS
        have z1 := After.cell g1
        clear cN cC cS g1 g2 hcj
        cases zq with
        | true =>
         have hcn : Hid (CalmTo t l (j + 1 + 1)) := fun k s hk hs => by
          by_cases e : k = j
          ·subst e
           obtain rfl := Option.some.inj (hs.symm.trans ex.out)
           simpa using hzq.out
          ·exact hcalm.out k s (by omega) hs
         clear hzq hcalm ex
         gi_wp2_with fail
         refine wpIn_region_after (by kernel_rfl) (by kernel_rfl) (by kernel_rfl) (by rintro ⟨_, _, hq⟩; exact hq) ?_
         (repeat (go_big_quiet_step (exact After.call _ (hq.out _ (After.ext _)))))
         refine wpQuiet_nil ?_
         rintro _ ⟨u, rfl⟩
         have hV := Lib.hid u.ext
         generalize u.world = V at hV ⊢
         clear zN zC zS z1 hq
         have hCV := Lib.hid (hI'.out.bx.toExt hV.out)
         have kV : Keep (fun _ => False) W V := Keep.of_ext hV.out
         have hNV := Lib.hid (kV.blk hI'.out.nb id)
         have hcV := Lib.hid (kV.blk hI'.out.cb id)
         have htV := Lib.hid (hI'.out.tb.ext hV.out)
         have hSV := Lib.hid (hSt'.out.ext hV.out)
         have hbV := Lib.hid (hV.out.cell hcb'.out)
         have cNV : V.cell? ⟨w5.heap.size + 1, 0, none⟩ = some (.int .i64 ((j : Int) + 1)) := hNV.out.cell 0
         have fNV := hNV.out.frozen 0
         have lNV := hNV.out.lt
         clear hI' hSt' hcb' kV
         gi_wp2
         have ks := keep_set V (w5.heap.size + 1) 0 (.int .i64 ((j : Int) + 1 + 1))
         refine ⟨((keepsOthers_ext hV.out).trans (KeepsOthers.setCell _ _ _)).from _, (hCV.out.setN lN _).ext, ks.cell hbV.out (by dsimp only; omega), Blk.far hSV.out (by dsimp only; omega) _, hCV.out.setN lN _, Blk.far hcV.out (by dsimp only; omega) _, ?_, htV.out.keep ks (htV.out.ne hNV.out), ?_⟩
         ·have := hNV.out.set_ 0 (.int .i64 ((j : Int) + 1 + 1))
          exact this
         ·exact hcn.out
        | false =>
         have R : Hid (checkS t pick l = 11) := by
          show _ = _
          have hno : calmWay t (zeros t.length) l = false := by
           cases hcw : calmWay t (zeros t.length) l with
           | false => rfl
           | true =>
            have := calmTo_iff.1 hcw j _ (by omega) ex.out
            simp only [Int.toNat_natCast] at this
            rw [hzq.out] at this
            cases this
          rw [R1.out, hno]
          rfl
         clear hzq hcalm ex
         gi_wp2_with fail
         refine wpIn_region_after (by kernel_rfl) (by kernel_rfl) (by kernel_rfl) (by rintro ⟨_, _, hq⟩; exact hq) ?_
         (repeat (go_big_quiet_step (exact After.call _ (hq.out _ (After.ext _)))))
         refine wpQuiet_nil ?_
         rintro _ ⟨u, rfl⟩
         have hV := Lib.hid u.ext
         generalize u.world = V at hV ⊢
         clear zN zC zS z1 hq
         have hCV := Lib.hid (hI'.out.bx.toExt hV.out)
         have cRV : V.cell? ⟨w.heap.size + 2, 0, none⟩ = some (.int .i64 0) := hCV.out.br.cell 0
         have fRV := hCV.out.br.frozen 0
         have lRV := hCV.out.br.lt
         clear hI' hSt' hcb'
         gi_wp2
         refine ⟨((keepsOthers_ext hV.out).trans (KeepsOthers.setCell _ _ _)).from _, rfl, hCV.out.ext.setCell (p := ⟨w.heap.size + 2, 0, none⟩) (by dsimp only; omega) _, hCV.out.br.set_ 0 _, R.out⟩
      case done =>
       rintro D W hD hI hDk
       have R : Hid (checkS t pick l = 0) := by show _ = _; rw [R1.out, calmTo_iff.2 hI.calm]; rfl
       have cR : W.cell? ⟨w.heap.size + 2, 0, none⟩ = some (.int .i64 0) := hI.bx.br.cell 0
       have fR := hI.bx.br.frozen 0
       have lR := hI.bx.br.lt
       go_wp2
       have hgr := grownBy_putObj' (W.setCell ⟨w.heap.size + 2, 0, none⟩ (.int .i64 0)) D (.deferred none)
       have hDk2 : (W.setCell ⟨w.heap.size + 2, 0, none⟩ (.int .i64 0)).heap[D]? = some (.deferred (some [])) := (Below.heap_setCell _ _ _ D (by dsimp only; omega)).trans hDk
       refine postM_ret1 hDk2 (check_results rfl ((hI.bx.br.set_ 0 (.int .i64 0)).grown hgr (fun e => by simp at e; omega))) ?_
       rw [R.out]
       exact ⟨rfl, (hI.bx.ext.setCell (p := ⟨w.heap.size + 2, 0, none⟩) (by dsimp only; omega) _).grown hgr (fun k e => by cases e; omega)⟩
      case stop =>
       rintro D c W hD ⟨rfl, hx, hB, hR⟩ hDk
       gi_wp2
       have hgr := grownBy_putObj' W D (.deferred none)
       refine postM_ret1 hDk (check_results rfl (hB.grown hgr (fun e => by simp at e; omega))) ?_
       rw [hR]
       exact ⟨rfl, hx.grown hgr (fun k e => by cases e; omega)⟩
end Go.Proofs.YtgolicoalldidaaGreat
