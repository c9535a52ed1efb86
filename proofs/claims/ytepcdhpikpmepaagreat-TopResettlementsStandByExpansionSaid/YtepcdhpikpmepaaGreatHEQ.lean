/- A region that draws its order: each operation of its head leaves a value of which something is known that stays known; one walk in the order of the text serves every order. -/
import Derived.Test.YtepcdhpikpmepaaGreatPAQ
import Derived.StillTail
namespace Go.Proofs.YtepcdhpikpmepaaGreat
open Go.RowKit

inductive Dep (md : Region.Mode) (ops : Array Oper) : Nat → Nat → Prop
 | edge {i : Nat} {o : Oper} {e : Edge} (hi : ops[i]? = some o) (he : e ∈ o.after) (hb : Region.binds md e = true) : Dep md ops i e.on
 | trans {i j k : Nat} (h1 : Dep md ops i j) (h2 : Dep md ops j k) : Dep md ops i k

structure HSt where
 fact : Nat → World → Prop
 tok : Nat → Option Nat
def HSt.none : HSt := ⟨fun _ _ => True, fun _ => Option.none⟩
def HSt.upd (s : HSt) (i : Nat) (F : World → Prop) (t : Option Nat) : HSt :=
 ⟨fun k W => s.fact k W ∧ (k = i → F W), match t with | Option.none => s.tok | some g => fun k => if k = i then some g else s.tok k⟩
def HSt.real (w0 : World) (s : HSt) : Prop := ∃ W, Ext w0 W ∧ ∀ k, s.fact k W
def HSt.mono (s : HSt) : Prop := ∀ k W W', Ext W W' → s.fact k W → s.fact k W'
def HSt.le (s s' : HSt) : Prop := (∀ k W, s.fact k W → s'.fact k W) ∧ s.tok = s'.tok
theorem HSt.le_refl (s : HSt) : s.le s := ⟨fun _ _ h => h, rfl⟩
theorem HSt.real_le {w0 : World} {s s' : HSt} (h : s.le s') (hr : s.real w0) : s'.real w0 := let ⟨W, a, b⟩ := hr; ⟨W, a, fun k => h.1 k W (b k)⟩
theorem HSt.upd_le {s s' : HSt} (h : s.le s') (i : Nat) (F : World → Prop) (t : Option Nat) : (s.upd i F t).le (s'.upd i F t) :=
 ⟨fun k W x => ⟨h.1 k W x.1, x.2⟩, by unfold HSt.upd; cases t <;> simp [h.2]⟩
theorem HSt.upd_mono {s : HSt} (h : s.mono) {F : World → Prop} (hF : ∀ W W', Ext W W' → F W → F W') (i : Nat) (t : Option Nat) : (s.upd i F t).mono :=
 fun k W W' e x => ⟨h k W W' e x.1, fun hk => hF W W' e (x.2 hk)⟩
theorem HSt.upd_tok_comm (s : HSt) {i j : Nat} (hij : i ≠ j) (F G F' G' : World → Prop) (t u : Option Nat) : ((s.upd j G' u).upd i F' t).tok = ((s.upd i F t).upd j G u).tok := by
 unfold HSt.upd
 cases t <;> cases u <;> simp
 funext k
 by_cases h1 : k = i
 ·subst h1; simp [hij]
 ·simp [h1]

def tokOf (o : Oper) (v : Value) : Option Nat :=
 match o.op, v with
 | .alloc _, .pointer (some a) => some a.block
 | .buildSlice .., .slice (some a) _ _ => some a.block
 | .makeSlice .., .slice (some a) _ _ => some a.block
 | _, _ => none
def freshOp (o : Oper) : Bool := match o.op with | .alloc _ => true | .buildSlice .. => true | .makeSlice .. => true | _ => false
theorem tokOf_none {o : Oper} (h : freshOp o = false) (v : Value) : tokOf o v = none := by
 unfold freshOp at h
 unfold tokOf
 split at h <;> simp_all

section
variable {P : Program} {ops : Array Oper} {md : Region.Mode} {w0 : World} {Con : Nat → Value → World → Prop}

def heldUpon (P : Program) (Con : Nat → Value → World → Prop) (i : Nat) (o : Oper) (R : World → Value → Prop) (W : World) : Result Next → Prop
 | .ok (.value v) W' => Ext W W' ∧ R W' v ∧ ∀ g, tokOf o v = some g → W.heap.size ≤ g ∧ g < W'.heap.size
 | .ok .skip W' => Ext W W' ∧ R W' undef ∧ ∀ g, tokOf o undef = some g → W.heap.size ≤ g ∧ g < W'.heap.size
 | .ok (.enter f args) W' => tokOf o = (fun _ => none) ∧ Ext W W' ∧ Calls P f args W' (fun e W'' => ∃ v, e = .returned v ∧ Ext W' W'' ∧ Con i v W'') ∧ ∀ v W'', Ext W W'' → Con i v W'' → R W'' v
 | _ => False

def hOp (P : Program) (ops : Array Oper) (md : Region.Mode) (w0 : World) (Con : Nat → Value → World → Prop) (i : Nat) (K : Act → HSt → Prop) (a : Act) (s : HSt) : Prop :=
 match ops[i]? with
 | none => K a s
 | some o => if Region.wanted o (yielded ops a.tmps) then
   ∃ R : World → Value → Prop, (∀ W W' v, Ext W W' → R W v → R W' v) ∧
    (∀ W, Ext w0 W → (∀ j, Dep md ops i j → s.fact j W) → heldUpon P Con i o R W ((execOp a.eval o).run P W)) ∧
    ∀ v, (s.upd i (fun W => R W v) (tokOf o v)).real w0 → K (a.put o.dst v) (s.upd i (fun W => R W v) (tokOf o v))
  else K (a.put o.dst undef) s

theorem held_out {i : Nat} {o : Oper} {R : World → Value → Prop} {W : World} {r : Result Next} (h : heldUpon P Con i o R W r) : ∃ v W', Ext W W' ∧ R W' v := by
 cases r with
 | ok n W' =>
  cases n <;> simp only [heldUpon] at h
  case value v => exact ⟨v, W', h.1, h.2.1⟩
  case skip => exact ⟨undef, W', h.1, h.2.1⟩
  case enter f args =>
   obtain ⟨e, w', fr, ⟨v, _, hx, hc⟩, _⟩ := h.2.2.1 []
   exact ⟨v, w', h.2.1.trans hx, h.2.2.2 v w' (h.2.1.trans hx) hc⟩
 | halt x w' => simp only [heldUpon] at h

theorem hOp_imp {i : Nat} {K K' : Act → HSt → Prop} {a : Act} {s : HSt} (hm : s.mono) (hr : s.real w0) (h : ∀ a s', s'.mono → s'.real w0 → K a s' → K' a s') (hh : hOp P ops md w0 Con i K a s) : hOp P ops md w0 Con i K' a s := by
 unfold hOp at *
 split
 ·rename_i ho; simp only [ho] at hh; exact h _ _ hm hr hh
 ·rename_i o ho
  simp only [ho] at hh
  split
  ·rename_i hw
   rw [if_pos hw] at hh
   obtain ⟨R, h1, h2, h3⟩ := hh
   exact ⟨R, h1, h2, fun v hv => h _ _ (HSt.upd_mono hm (fun W W' e x => h1 W W' v e x) _ _) hv (h3 v hv)⟩
  ·rename_i hw; rw [if_neg hw] at hh; exact h _ _ hm hr hh

theorem hOp_anti {i : Nat} {K : Act → HSt → Prop} (hK : ∀ a s s', HSt.le s' s → K a s → K a s') {a : Act} {s s' : HSt} (hs : s'.le s) (hh : hOp P ops md w0 Con i K a s) : hOp P ops md w0 Con i K a s' := by
 unfold hOp at *
 split
 ·rename_i ho; simp only [ho] at hh; exact hK _ _ _ hs hh
 ·rename_i o ho
  simp only [ho] at hh
  split
  ·rename_i hw
   rw [if_pos hw] at hh
   obtain ⟨R, h1, h2, h3⟩ := hh
   exact ⟨R, h1, fun W hW hD => h2 W hW fun j hj => hs.1 j W (hD j hj), fun v hv => hK _ _ _ (HSt.upd_le hs _ _ _) (h3 v (HSt.real_le (HSt.upd_le hs _ _ _) hv))⟩
  ·rename_i hw; rw [if_neg hw] at hh; exact hK _ _ _ hs hh

theorem hOp_swap {i j : Nat} {oi oj : Oper} (hi : ops[i]? = some oi) (hj : ops[j]? = some oj) (hij : i ≠ j) (hap : oi.apart ops oj = true)
  (hsi : ∀ cs b, oi.op ≠ .select cs b) (hsj : ∀ cs b, oj.op ≠ .select cs b) (hnj : ¬ Dep md ops j i)
  {K : Act → HSt → Prop} (hK : ∀ a s s', HSt.le s' s → K a s → K a s') {a : Act} {s : HSt} (hm : s.mono) (hr : s.real w0)
  (h : hOp P ops md w0 Con i (hOp P ops md w0 Con j K) a s) : hOp P ops md w0 Con j (hOp P ops md w0 Con i K) a s := by
 obtain ⟨h1, h2, h3⟩ := Oper.apart_spec hap
 unfold hOp at *
 simp only [hi, hj] at *
 simp only [wanted_put oj a oi.dst _ h1, execOp_put oj hsj a oi.dst _ h1] at h
 simp only [wanted_put oi a oj.dst _ h3, execOp_put oi hsi a oj.dst _ h3]
 by_cases wi : Region.wanted oi (yielded ops a.tmps) = true
 ·simp only [wi, if_true] at h ⊢
  obtain ⟨Ri, hRi, hHi, hKi⟩ := h
  by_cases wj : Region.wanted oj (yielded ops a.tmps) = true
  ·simp only [wj, if_true] at hKi ⊢
   have hKi' : ∀ v : Value, ∃ Rj : World → Value → Prop, (s.upd i (fun W => Ri W v) (tokOf oi v)).real w0 → (∀ W W' v, Ext W W' → Rj W v → Rj W' v) ∧
     (∀ W, Ext w0 W → (∀ k, Dep md ops j k → (s.upd i (fun W => Ri W v) (tokOf oi v)).fact k W) → heldUpon P Con j oj Rj W ((execOp a.eval oj).run P W)) ∧
     ∀ u, ((s.upd i (fun W => Ri W v) (tokOf oi v)).upd j (fun W => Rj W u) (tokOf oj u)).real w0 → K ((a.put oi.dst v).put oj.dst u) ((s.upd i (fun W => Ri W v) (tokOf oi v)).upd j (fun W => Rj W u) (tokOf oj u)) := fun v => by
    by_cases hv : (s.upd i (fun W => Ri W v) (tokOf oi v)).real w0
    ·obtain ⟨Rj, a1, a2, a3⟩ := hKi v hv
     exact ⟨Rj, fun _ => ⟨a1, a2, a3⟩⟩
    ·exact ⟨fun _ _ => True, fun h => absurd h hv⟩
   obtain ⟨Rj, hRj⟩ := Classical.axiomOfChoice hKi'
   obtain ⟨Ws, hWs, hfs⟩ := hr
   obtain ⟨v0, W0, hx0, hR0⟩ := held_out (hHi Ws hWs fun k _ => hfs k)
   have hv0 : (s.upd i (fun W => Ri W v0) (tokOf oi v0)).real w0 := ⟨W0, hWs.trans hx0, fun k => ⟨hm k _ _ hx0 (hfs k), fun _ => hR0⟩⟩
   refine ⟨fun W u => ∀ v, (s.upd i (fun W => Ri W v) (tokOf oi v)).real w0 → Rj v W u, fun W W' u e x v hv => (hRj v hv).1 W W' u e (x v hv), fun W hW hD => ?_, fun u hu => ?_⟩
   ·have hall : ∀ v, (s.upd i (fun W => Ri W v) (tokOf oi v)).real w0 → heldUpon P Con j oj (Rj v) W ((execOp a.eval oj).run P W) := fun v hv =>
     (hRj v hv).2.1 W hW fun k hk => ⟨hD k hk, fun e => absurd (e ▸ hk) hnj⟩
    have h0 := hall v0 hv0
    generalize (execOp a.eval oj).run P W = r at *
    cases r with
    | ok n W' =>
     cases n <;> simp only [heldUpon] at h0 hall ⊢
     case value u => exact ⟨h0.1, fun v hv => (hall v hv).2.1, h0.2.2⟩
     case skip => exact ⟨h0.1, fun v hv => (hall v hv).2.1, h0.2.2⟩
     case enter f args => exact ⟨h0.1, h0.2.1, h0.2.2.1, fun u W'' e c v hv => (hall v hv).2.2.2 u W'' e c⟩
    | halt x w' => simp only [heldUpon] at h0
   ·refine ⟨Ri, hRi, fun W hW hD => hHi W hW fun k hk => (hD k hk).1, fun v hv' => ?_⟩
    obtain ⟨W1, hW1, hf1⟩ := hv'
    have hv : (s.upd i (fun W => Ri W v) (tokOf oi v)).real w0 := ⟨W1, hW1, fun k => ⟨(hf1 k).1.1, (hf1 k).2⟩⟩
    have := (hRj v hv).2.2 u ⟨W1, hW1, fun k => ⟨⟨(hf1 k).1.1, (hf1 k).2⟩, fun e => (hf1 k).1.2 e v hv⟩⟩
    rw [Act.put_comm a v u h2] at this
    refine hK _ _ _ ?_ this
    exact ⟨fun k W x => ⟨⟨x.1.1, x.2⟩, fun e => x.1.2 e v hv⟩, HSt.upd_tok_comm s hij _ _ _ _ _ _⟩
  ·simp only [wj] at hKi ⊢
   exact ⟨Ri, hRi, hHi, fun v hv => by have := hKi v hv; rw [if_neg (by decide), Act.put_comm a v undef h2] at this; exact this⟩
 ·simp only [wi] at h ⊢
  by_cases wj : Region.wanted oj (yielded ops a.tmps) = true
  ·simp only [wj, if_true] at h ⊢
   rw [if_neg (by decide)] at h
   obtain ⟨Rj, b1, b2, b3⟩ := h
   exact ⟨Rj, b1, b2, fun u hu => by rw [if_neg (by decide), ← Act.put_comm a undef u h2]; exact b3 u hu⟩
  ·simp only [wj] at h ⊢
   rw [if_neg (by decide), if_neg (by decide), Act.put_comm a undef undef h2] at h
   rw [if_neg (by decide), if_neg (by decide)]
   exact h

/-! ### which operations come up: lists of their numbers -/
def seqL (md : Region.Mode) (ops : Array Oper) : List Nat → Array Bool → Bool
 | [], listed => (Region.ready md ops listed).isEmpty
 | t :: ts, listed => decide (Region.ready md ops listed = [t]) && seqL md ops ts (listed.setIfInBounds t true)
def lexL (md : Region.Mode) (ops : Array Oper) (ts : List Nat) : List Nat → Array Bool → Bool
 | [], listed => seqL md ops ts listed
 | k :: hs, listed => (Region.ready md ops listed).contains k && Region.free md ops listed k && lexL md ops ts hs (listed.setIfInBounds k true)
theorem seqL_ready {ts : List Nat} {listed : Array Bool} (h : seqL md ops ts listed = true) : ∀ j ∈ Region.ready md ops listed, j ∈ ts := by
 cases ts with
 | nil => intro j hj; simp only [seqL, List.isEmpty_iff] at h; rw [h] at hj; cases hj
 | cons t ts =>
  intro j hj
  simp only [seqL, Bool.and_eq_true, decide_eq_true_eq] at h
  rw [h.1] at hj
  have : j = t := by simpa using hj
  rw [this]; exact List.mem_cons_self
theorem wpAny_of_seqL {Q' : Exit → Act → World → Prop} : ∀ (ts : List Nat) (l : List Oper) (listed : Array Bool) (a : Act) (w : World), ts.map (fun t => ops[t]?) = l.map some →
  seqL md ops ts listed = true → wpList P ops Q' l a w → wpAny P md ops Q' ts.length listed a w
 | [], [], _, _, _, _, hB, h => ⟨by simpa [seqL] using hB, h⟩
 | [], _ :: _, _, _, _, hl, _, _ => by simp at hl
 | _ :: _, [], _, _, _, hl, _, _ => by simp at hl
 | t :: ts, o :: l, listed, a, w, hl, hB, h => by
  simp only [List.map_cons, List.cons.injEq] at hl
  simp only [seqL, Bool.and_eq_true, decide_eq_true_eq] at hB
  refine ⟨fun h1 => (by rw [hB.1] at h1; cases h1), fun i hi => ?_⟩
  rw [hB.1] at hi
  have hik : i = t := by simpa using hi
  subst hik
  have hw : wpOp P ops Q' i (wpList P ops Q' l) a w := by unfold wpOp; simp only [hl.1]; exact h
  exact wpOp_mono (fun a' w' h' => wpAny_of_seqL ts l _ a' w' hl.2 hB.2 h') hw
structure LInv (md : Region.Mode) (ops : Array Oper) (ts : List Nat) (listed : Array Bool) : Prop where
 closed : ∀ j oj, ops[j]? = some oj → listed.getD j false = true → ∀ e ∈ oj.after, Region.binds md e = true → listed.getD e.on false = true
 tail : ∀ t ∈ ts, listed.getD t false = false
theorem LInv.set {ts : List Nat} {i : Nat} {listed : Array Bool} (inv : LInv md ops ts listed) (hi : i ∈ Region.ready md ops listed) (hin : i ∉ ts) : LInv md ops ts (listed.setIfInBounds i true) := by
 obtain ⟨_, oi, hoi, hall⟩ := mem_ready.1 hi
 refine ⟨fun j oj hj hl e he hb => ?_, fun t ht => by rw [getD_set_ne false (fun (e : i = t) => hin (by rw [e]; exact ht))]; exact inv.tail t ht⟩
 by_cases hij : i = j
 ·subst hij
  have : oj = oi := Option.some.inj (hj.symm.trans hoi)
  subst this
  exact getD_set_true (hall e he hb)
 ·rw [getD_set_ne false hij] at hl
  exact getD_set_true (inv.closed j oj hj hl e he hb)

def heldAny (P : Program) (md : Region.Mode) (ops : Array Oper) (w0 : World) (Con : Nat → Value → World → Prop) (L : Act → HSt → Prop) : Nat → Array Bool → Act → HSt → Prop
 | 0, _, a, s => L a s
 | f + 1, listed, a, s => ∀ i ∈ Region.ready md ops listed, hOp P ops md w0 Con i (heldAny P md ops w0 Con L f (listed.setIfInBounds i true)) a s
def statAny (md : Region.Mode) (ops : Array Oper) (ts : List Nat) (G : Array Bool → Prop) : Nat → Array Bool → Prop
 | 0, listed => G listed
 | f + 1, listed => Region.ready md ops listed ≠ [] ∧ ∀ i ∈ Region.ready md ops listed, i ∉ ts ∧ statAny md ops ts G f (listed.setIfInBounds i true)

theorem heldAny_anti {L : Act → HSt → Prop} (hL : ∀ a s s', HSt.le s' s → L a s → L a s') : ∀ (f : Nat) (listed : Array Bool) (a : Act) (s s' : HSt), HSt.le s' s → heldAny P md ops w0 Con L f listed a s → heldAny P md ops w0 Con L f listed a s'
 | 0, _, _, _, _, hs, h => hL _ _ _ hs h
 | f + 1, _, _, _, _, hs, h => fun i hi => hOp_anti (fun a s s' e x => heldAny_anti hL f _ a s s' e x) hs (h i hi)

theorem dep_listed {ts : List Nat} {i j : Nat} {listed : Array Bool} (inv : LInv md ops ts listed) (h : Dep md ops i j) : listed.getD i false = true → listed.getD j false = true := by
 induction h with
 | edge hi he hb => exact fun hl => inv.closed _ _ hi hl _ he hb
 | trans _ _ ih1 ih2 => exact fun hl => ih2 (ih1 hl)
theorem dep_ready {ts : List Nat} {i j : Nat} {listed : Array Bool} (inv : LInv md ops ts listed) (h : Dep md ops i j) : i ∈ Region.ready md ops listed → listed.getD j false = true := by
 induction h with
 | edge hi he hb =>
  intro hr
  obtain ⟨_, o, ho, hall⟩ := mem_ready.1 hr
  have : o = _ := Option.some.inj (ho.symm.trans hi)
  subst this
  exact hall _ he hb
 | trans _ h2 ih1 _ => exact fun hl => dep_listed inv h2 (ih1 hl)
theorem no_dep {ts : List Nat} {i j : Nat} {listed : Array Bool} (inv : LInv md ops ts listed) (hi : i ∈ Region.ready md ops listed) (hj : j ∈ Region.ready md ops listed) : ¬ Dep md ops i j := fun h => by
 have h1 := dep_ready inv h hi
 have h2 := getD_both (mem_ready.1 hj).1
 rw [h2] at h1
 cases h1
theorem not_tail {ts : List Nat} {i j : Nat} {listed : Array Bool} (inv : LInv md ops ts listed) (hdep : ∀ t ∈ ts, Dep md ops t i) (hi : i ∈ Region.ready md ops listed) (hj : j ∈ Region.ready md ops listed) : j ∉ ts :=
 fun h => no_dep inv hj hi (hdep j h)

theorem stat_take {ts : List Nat} {i : Nat} {G : Array Bool → Prop} (hdep : ∀ t ∈ ts, Dep md ops t i) (hdone : ∀ listed, G listed → ∀ j ∈ Region.ready md ops listed, j ∈ ts) :
  ∀ (f : Nat) (listed : Array Bool), LInv md ops ts listed → i ∈ Region.ready md ops listed → statAny md ops ts G f (listed.setIfInBounds i true) → statAny md ops ts G (f + 1) listed := by
 intro f
 induction f with
 | zero =>
  intro listed inv hr H
  refine ⟨fun h => (by rw [h] at hr; cases hr), fun j hj => ?_⟩
  have hjn := not_tail inv hdep hr hj
  refine ⟨hjn, ?_⟩
  by_cases hji : j = i
  ·subst hji; exact H
  ·exact absurd (hdone _ H j (ready_mono hj hji)) hjn
 | succ f ih =>
  intro listed inv hr H
  refine ⟨fun h => (by rw [h] at hr; cases hr), fun j hj => ?_⟩
  have hjn := not_tail inv hdep hr hj
  refine ⟨hjn, ?_⟩
  by_cases hji : j = i
  ·subst hji; exact H
  ·have h1 := (H.2 j (ready_mono hj hji)).2
   refine ih (listed.setIfInBounds j true) (inv.set hj hjn) (ready_mono hr (Ne.symm hji)) ?_
   rw [Array.setIfInBounds_comm _ _ hji]; exact h1
theorem stat_lex {ts : List Nat} : ∀ (hs : List Nat) (listed : Array Bool), (∀ i ∈ hs, ∀ t ∈ ts, Dep md ops t i) → LInv md ops ts listed → lexL md ops ts hs listed = true → statAny md ops ts (fun l => seqL md ops ts l = true) hs.length listed
 | [], listed, _, _, hB => by simpa [lexL, statAny] using hB
 | k :: hs, listed, hdep, inv, hB => by
  simp only [lexL, Bool.and_eq_true] at hB
  obtain ⟨⟨hr, hf⟩, hB'⟩ := hB
  have hr' : k ∈ Region.ready md ops listed := by simpa using hr
  have hd := hdep k List.mem_cons_self
  exact stat_take hd (fun listed' h => seqL_ready h) hs.length listed inv hr' (stat_lex hs _ (fun i hi => hdep i (List.mem_cons_of_mem _ hi)) (inv.set hr' (not_tail inv hd hr' hr')) hB')

theorem held_take {ts : List Nat} {i : Nat} {oi : Oper} {L : Act → HSt → Prop} {G : Array Bool → Prop} (hi : ops[i]? = some oi) (hsel : ∀ (j : Nat) (o : Oper) cs b, ops[j]? = some o → o.op ≠ .select cs b)
  (hL : ∀ a s s', HSt.le s' s → L a s → L a s') (hdone : ∀ listed, G listed → ∀ j ∈ Region.ready md ops listed, j ∈ ts) :
  ∀ (f : Nat) (listed : Array Bool) (a : Act) (s : HSt), LInv md ops ts listed → statAny md ops ts G (f + 1) listed → s.mono → s.real w0 →
   (∀ j oj, ops[j]? = some oj → j ≠ i → listed.getD j true = false → (∀ e ∈ oj.after, Region.binds md e = true → e.on ≠ i) → oi.apart ops oj = true) →
   i ∈ Region.ready md ops listed → hOp P ops md w0 Con i (heldAny P md ops w0 Con L f (listed.setIfInBounds i true)) a s → heldAny P md ops w0 Con L (f + 1) listed a s := by
 intro f
 induction f with
 | zero =>
  intro listed a s inv hst hm hr hfree hri H j hj
  by_cases hji : j = i
  ·subst hji; exact H
  ·exact absurd (hdone _ (hst.2 i hri).2 j (ready_mono hj hji)) (hst.2 j hj).1
 | succ f ih =>
  intro listed a s inv hst hm hr hfree hri H j hj
  by_cases hji : j = i
  ·subst hji; exact H
  ·obtain ⟨hjun, oj, hoj, hall⟩ := mem_ready.1 hj
   have hnot : ∀ e ∈ oj.after, Region.binds md e = true → e.on ≠ i := fun e he hb heq => by
    have h1 := hall e he hb
    rw [heq, getD_both (mem_ready.1 hri).1] at h1
    cases h1
   have h1 : hOp P ops md w0 Con i (hOp P ops md w0 Con j (heldAny P md ops w0 Con L f ((listed.setIfInBounds i true).setIfInBounds j true))) a s :=
    hOp_imp hm hr (fun a s' _ _ x => x j (ready_mono hj hji)) H
   have h2 := hOp_swap hi hoj (Ne.symm hji) (hfree j oj hoj hji hjun hnot) (fun cs b => hsel i oi cs b hi) (fun cs b => hsel j oj cs b hoj) (no_dep inv hj hri)
    (fun a s s' e x => heldAny_anti hL f _ a s s' e x) hm hr h1
   refine hOp_imp hm hr (fun a' s' hm' hr' h3 => ih (listed.setIfInBounds j true) a' s' (inv.set hj (hst.2 j hj).1) (hst.2 j hj).2 hm' hr' (fun k ok hk hki hun' hno => hfree k ok hk hki ?_ hno) (ready_mono hri (Ne.symm hji)) ?_) h2
   ·by_cases hjk : j = k
    ·subst hjk; exact hjun
    ·rw [getD_set_ne true hjk] at hun'; exact hun'
   ·rw [Array.setIfInBounds_comm _ _ hji]; exact h3

def heldLex (P : Program) (ops : Array Oper) (md : Region.Mode) (w0 : World) (Con : Nat → Value → World → Prop) (L : Act → HSt → Prop) : List Nat → Act → HSt → Prop
 | [], a, s => L a s
 | k :: hs, a, s => hOp P ops md w0 Con k (heldLex P ops md w0 Con L hs) a s
theorem heldLex_anti {L : Act → HSt → Prop} (hL : ∀ a s s', HSt.le s' s → L a s → L a s') : ∀ (hs : List Nat) (a : Act) (s s' : HSt), HSt.le s' s → heldLex P ops md w0 Con L hs a s → heldLex P ops md w0 Con L hs a s'
 | [], _, _, _, hs, h => hL _ _ _ hs h
 | _ :: hs, _, _, _, hs', h => hOp_anti (fun a s s' e x => heldLex_anti hL hs a s s' e x) hs' h
theorem held_lex {ts : List Nat} {L : Act → HSt → Prop} (hsel : Region.noSelect ops = true) (hL : ∀ a s s', HSt.le s' s → L a s → L a s') :
  ∀ (hs : List Nat) (listed : Array Bool) (a : Act) (s : HSt), (∀ i ∈ hs, ∀ t ∈ ts, Dep md ops t i) → LInv md ops ts listed → s.mono → s.real w0 →
  lexL md ops ts hs listed = true → heldLex P ops md w0 Con L hs a s → heldAny P md ops w0 Con L hs.length listed a s
 | [], _, _, _, _, _, _, _, _, h => h
 | k :: hs, listed, a, s, hdep, inv, hm, hr, hB, h => by
  have hst := stat_lex (k :: hs) listed hdep inv hB
  simp only [lexL, Bool.and_eq_true] at hB
  obtain ⟨⟨hrr, hf⟩, hB'⟩ := hB
  have hr' : k ∈ Region.ready md ops listed := by simpa using hrr
  obtain ⟨_, ok, h0, _⟩ := mem_ready.1 hr'
  refine held_take h0 (Region.noSelect_spec hsel) hL (fun listed' h => seqL_ready h) hs.length listed a s inv hst hm hr (Region.free_spec h0 hf) hr' ?_
  exact hOp_imp hm hr (fun a' s' hm' hr'' x => held_lex hsel hL hs _ a' s' (fun i hi => hdep i (List.mem_cons_of_mem _ hi)) (inv.set hr' (hst.2 k hr').1) hm' hr'' hB' x) h

structure TokIn (s : HSt) (W : World) : Prop where
 lt : ∀ k g, s.tok k = some g → g < W.heap.size
 ne : ∀ k l g, k ≠ l → s.tok k = some g → s.tok l ≠ some g
theorem TokIn.upd {s : HSt} {W W' : World} (h : TokIn s W) (e : Ext W W') (i : Nat) (F : World → Prop) (t : Option Nat) (ht : ∀ g, t = some g → W.heap.size ≤ g ∧ g < W'.heap.size) : TokIn (s.upd i F t) W' := by
 have hsz := e.size
 cases t with
 | none => exact ⟨fun k g hk => Nat.lt_of_lt_of_le (h.lt k g hk) hsz, h.ne⟩
 | some g0 =>
  have h0 := ht g0 rfl
  refine ⟨fun k g hk => ?_, fun k l g hkl hk hl => ?_⟩
  ·simp only [HSt.upd] at hk
   split at hk
   ·cases hk; exact h0.2
   ·exact Nat.lt_of_lt_of_le (h.lt k g hk) hsz
  ·simp only [HSt.upd] at hk hl
   split at hk <;> split at hl
   ·omega
   ·have e1 := Option.some.inj hk; have := h.lt l g hl; omega
   ·have e1 := Option.some.inj hl; have := h.lt k g hk; omega
   ·exact h.ne k l g hkl hk hl

theorem any_of_held {ts : List Nat} {g : Nat} {L : Act → HSt → Prop} {G : Array Bool → Prop} {Q' : Exit → Act → World → Prop}
  (hL : ∀ listed a s, G listed → L a s → ∀ W, Ext w0 W → (∀ k, s.fact k W) → TokIn s W → wpAny P md ops Q' g listed a W) :
  ∀ (f : Nat) (listed : Array Bool) (a : Act) (s : HSt), statAny md ops ts G f listed → s.mono → heldAny P md ops w0 Con L f listed a s → ∀ W, Ext w0 W → (∀ k, s.fact k W) → TokIn s W → wpAny P md ops Q' (f + g) listed a W
 | 0, listed, a, s, hst, _, h, W, hW, hf, ht => by rw [Nat.zero_add]; exact hL listed a s hst h W hW hf ht
 | f + 1, listed, a, s, hst, hm, h, W, hW, hf, ht => by
  rw [show f + 1 + g = (f + g) + 1 by omega]
  refine ⟨fun h0 => absurd h0 hst.1, fun i hi => ?_⟩
  have h1 := h i hi
  have h2 := (hst.2 i hi).2
  unfold hOp at h1
  unfold wpOp
  split
  ·rename_i ho
   simp only [ho] at h1
   exact any_of_held hL f _ a s h2 hm h1 W hW hf ht
  ·rename_i o ho
   simp only [ho] at h1
   split
   ·rename_i hw
    rw [if_pos hw] at h1
    obtain ⟨R, a1, a2, a3⟩ := h1
    refine .inl ?_
    have a4 := a2 W hW fun j _ => hf j
    have go : ∀ v W', Ext W W' → R W' v → (∀ g, tokOf o v = some g → W.heap.size ≤ g ∧ g < W'.heap.size) → wpAny P md ops Q' (f + g) (listed.setIfInBounds i true) (a.put o.dst v) W' := fun v W' hx hR htk =>
     have hfs : ∀ k, (s.upd i (fun W => R W v) (tokOf o v)).fact k W' := fun k => ⟨hm k _ _ hx (hf k), fun _ => hR⟩
     any_of_held hL f _ _ _ h2 (HSt.upd_mono hm (fun W W' e x => a1 W W' v e x) _ _) (a3 v ⟨W', hW.trans hx, hfs⟩) W' (hW.trans hx) hfs (ht.upd hx i _ _ htk)
    unfold Oper.wp
    generalize (execOp a.eval o).run P W = r at *
    cases r with
    | ok nx W' =>
     cases nx <;> simp only [heldUpon] at a4 <;> simp only [Oper.upon]
     case value v => exact go v W' a4.1 a4.2.1 a4.2.2
     case skip => exact go undef W' a4.1 a4.2.1 a4.2.2
     case enter fn args =>
      refine a4.2.2.1.mono ?_
      rintro e W'' ⟨v, rfl, hx, hc⟩
      exact go v W'' (a4.2.1.trans hx) (a4.2.2.2 v W'' (a4.2.1.trans hx) hc) (fun g hg => by rw [a4.1] at hg; cases hg)
    | halt x w' => simp only [heldUpon] at a4
   ·rename_i hw
    rw [if_neg hw] at h1
    exact any_of_held hL f _ _ s h2 hm h1 W hW hf ht
end

def heldEnd (P : Program) (ops : Array Oper) (tl : List Oper) (Q : Exit → Act → World → Prop) (w : World) (a : Act) (s : HSt) : Prop :=
 ∀ W, Ext w W → (∀ k, s.fact k W) → TokIn s W → wpList P ops Q tl a W
theorem heldEnd_anti {P : Program} {ops : Array Oper} {tl : List Oper} {Q : Exit → Act → World → Prop} {w : World} (a : Act) (s s' : HSt) (e : HSt.le s' s) (x : heldEnd P ops tl Q w a s) : heldEnd P ops tl Q w a s' :=
 fun W hW hf ht => x W hW (fun k => e.1 k W (hf k)) ⟨fun k g hk => ht.lt k g (by rw [e.2]; exact hk), fun k m g hkm hk hm => ht.ne k m g hkm (by rw [e.2]; exact hk) (by rw [e.2]; exact hm)⟩

def depB (md : Region.Mode) (ops : Array Oper) : Nat → Nat → Nat → Bool
 | 0, _, _ => false
 | f + 1, i, j => match ops[i]? with
  | none => false
  | some o => o.after.any fun e => Region.binds md e && (e.on == j || depB md ops f e.on j)
theorem dep_of {md : Region.Mode} {ops : Array Oper} : ∀ (f i j : Nat), depB md ops f i j = true → Dep md ops i j
 | 0, _, _, h => by cases h
 | f + 1, i, j, h => by
  unfold depB at h
  split at h
  ·cases h
  ·rename_i o ho
   obtain ⟨e, he, hb⟩ := Array.any_eq_true'.1 h
   simp only [Bool.and_eq_true, Bool.or_eq_true, beq_iff_eq] at hb
   rcases hb.2 with h1 | h1
   ·rw [← h1]; exact .edge ho he hb.1
   ·exact .trans (.edge ho he hb.1) (dep_of f _ _ h1)
def heldB (md : Region.Mode) (ops : Array Oper) (listed : Array Bool) (hs ts : List Nat) : Bool :=
 Region.noSelect ops && (List.range ops.size).all (fun j => !listed.getD j false || match ops[j]? with | none => true | some o => o.after.all fun e => !Region.binds md e || listed.getD e.on false) &&
  ts.all (fun t => !listed.getD t false) && hs.all (fun i => ts.all fun t => depB md ops 12 t i) && lexL md ops ts hs listed
theorem wpAny_held {P : Program} {ops : Array Oper} {Q : Exit → Act → World → Prop} {a : Act} {w : World} {listed : Array Bool} {hs ts : List Nat} {tl : List Oper} {Con : Nat → Value → World → Prop} (hB : heldB .any ops listed hs ts = true) (htl : ts.map (fun t => ops[t]?) = tl.map some)
  (h : heldLex P ops .any w Con (heldEnd P ops tl Q w) hs a HSt.none) : ∀ W, Ext w W → wpAny P .any ops Q (hs.length + ts.length) listed a W := by
 simp only [heldB, Bool.and_eq_true, List.all_eq_true] at hB
 obtain ⟨⟨⟨⟨hsel, hcl⟩, htu⟩, hd⟩, hlex⟩ := hB
 have inv0 : LInv .any ops ts listed := by
  refine ⟨fun j oj hj hl e he hb => ?_, fun t ht => by simpa using htu t ht⟩
  have h1 := hcl j (List.mem_range.2 (Array.getElem?_eq_some_iff.1 hj).1)
  simp only [hl, hj, Bool.not_true, Bool.false_or, Array.all_eq_true_iff_forall_mem] at h1
  have := h1 e he
  simpa [hb] using this
 have hdep : ∀ i ∈ hs, ∀ t ∈ ts, Dep .any ops t i := fun i hi t ht => dep_of 12 t i (hd i hi t ht)
 have hm0 : HSt.none.mono := fun _ _ _ _ _ => trivial
 have H := held_lex (P := P) (md := .any) hsel heldEnd_anti hs listed a HSt.none hdep inv0 hm0 ⟨w, Ext.refl w, fun _ => trivial⟩ hlex h
 have hst := stat_lex (md := .any) hs listed hdep inv0 hlex
 intro W hW
 exact any_of_held (Q' := Q) (g := ts.length) (fun listed a' s hG hLs W hW hf ht => wpAny_of_seqL ts tl listed a' W htl hG (hLs W hW hf ht)) _ _ _ _ hst hm0 H W hW (fun _ => trivial) ⟨fun k g hk => (by cases hk), fun k l g _ hk => (by cases hk)⟩

/-! ### what yields its value in every world is taken first -/
def setL : List Nat → Array Bool → Array Bool
 | [], listed => listed
 | k :: qs, listed => setL qs (listed.setIfInBounds k true)
def takeL (md : Region.Mode) (ops : Array Oper) : List Nat → Array Bool → Bool
 | [], _ => true
 | k :: qs, listed => (Region.ready md ops listed).contains k && Region.free md ops listed k && takeL md ops qs (listed.setIfInBounds k true)

/-! ### steps -/
theorem TokIn.ne' {s : HSt} {W : World} (h : TokIn s W) {k l g g' : Nat} (hk : s.tok k = some g) (hl : s.tok l = some g') (hkl : k ≠ l) : g ≠ g' := fun e => h.ne k l g hkl hk (by rw [e]; exact hl)

/-! ### operations that are no call of a Go function -/
theorem bind_leaf {P : Program} {α : Type} {f : α → Sem Next} (hf : ∀ a w n w', (f a).run P w = .ok n w' → ∃ v, n = .value v) : ∀ (s : Sem α) (w : World) (n : Next) (w' : World), (s.bind f).run P w = .ok n w' → ∃ v, n = .value v := by
 intro s
 induction s with
 | pure a => exact fun w n w' h => hf a w n w' h
 | load m a k ih =>
  intro w n w' h
  simp only [Sem.bind, Sem.run] at h
  split at h
  ·exact ih _ _ _ _ h
  ·split at h
   ·exact ih _ _ _ _ h
   ·cases h
 | store m a v k ih =>
  intro w n w' h
  simp only [Sem.bind] at h
  unfold Sem.run at h
  split at h <;> first | (cases h; done) | skip
  all_goals simp_all
  all_goals (repeat' split at h) <;> first | (cases h; done) | exact ih _ _ _ h
 | new o k ih => exact fun w n w' h => ih _ _ _ _ h
 | shape r k ih => exact fun w n w' h => ih _ _ _ _ h
 | freeze a n k ih => exact fun w n w' h => ih _ _ _ h
 | frozen a k ih => exact fun w n w' h => ih _ _ _ _ h
 | getObj r k ih =>
  intro w n w' h
  simp only [Sem.bind, Sem.run] at h
  split at h <;> first | (cases h; done) | exact ih _ _ _ _ h
 | setObj r o k ih =>
  intro w n w' h
  simp only [Sem.bind, Sem.run] at h
  split at h <;> first | (cases h; done) | exact ih _ _ _ h
 | choose q k ih =>
  intro w n w' h
  simp only [Sem.bind, Sem.run] at h
  split at h <;> exact ih _ _ _ _ h
 | sys c k ih => exact fun w n w' h => ih _ _ _ _ h
 | program k ih => exact fun w n w' h => ih _ _ _ _ h
 | mark m k ih => exact fun w n w' h => ih _ _ _ h
 | halt x => intro w n w' h; cases h
def plainOp (o : Oper) : Bool :=
 match o.op with
 | .move _ | .assign _ | .pick .. | .load .. | .fieldAddr .. | .indexAddr .. | .binOp .. | .unOp .. | .convert .. | .extract .. | .slice .. | .field .. | .index .. | .build .. => true
 | .call ⟨.builtin .len, _, _⟩ | .call ⟨.builtin .cap, _, _⟩ | .call ⟨.builtin .min, _, _⟩ | .call ⟨.builtin .max, _, _⟩ => true
 | _ => false
theorem plain_run {P : Program} {o : Oper} (h : plainOp o = true) (ρ : Operand → Value) (w : World) (n : Next) (w' : World) (hr : (execOp ρ o).run P w = .ok n w') : ∃ v, n = .value v := by
 have leaf : ∀ (v : Value) (w : World) (n : Next) (w' : World), (Sem.pure (Next.value v)).run P w = .ok n w' → ∃ v, n = .value v := fun v w n w' h => by
  simp only [Sem.run] at h; cases h; exact ⟨v, rfl⟩
 obtain ⟨dst, op, type, pos, after, guard⟩ := o
 unfold plainOp at h
 split at h
 case h_19 => cases h
 all_goals rename_i e; simp only at e; subst e
 all_goals first
  | exact leaf _ _ _ _ hr
  | exact bind_leaf (fun a => leaf _) _ _ _ _ hr
theorem plain_fresh {o : Oper} (h : plainOp o = true) : freshOp o = false := by
 unfold plainOp at h
 unfold freshOp
 split at h <;> simp_all

def pickL (l : List Oper) : List Nat → List Oper
 | [] => []
 | k :: qs => match l.drop k with
  | [] => pickL l qs
  | o :: _ => o :: pickL l qs
def inL (l : List Oper) (qs : List Nat) : Bool := qs.all fun k => decide (k < l.length)
theorem drop_at {α : Type} {l : List α} {k : Nat} {o : α} {rest : List α} (h : l.drop k = o :: rest) : l.toArray[k]? = some o := by
 have : (l.drop k)[0]? = some o := by rw [h]; rfl
 simpa using this
theorem pickL_cons {l : List Oper} {k : Nat} {qs : List Nat} (h : inL l (k :: qs) = true) : ∃ o rest, l.drop k = o :: rest ∧ pickL l (k :: qs) = o :: pickL l qs ∧ inL l qs = true := by
 simp only [inL, List.all_cons, Bool.and_eq_true, decide_eq_true_eq] at h
 have e := List.drop_eq_getElem_cons h.1
 exact ⟨_, _, e, by rw [pickL, e], h.2⟩
theorem pickL_map {l : List Oper} : ∀ {qs : List Nat}, inL l qs = true → qs.map (fun t => l.toArray[t]?) = (pickL l qs).map some
 | [], _ => rfl
 | k :: qs, h => by
  obtain ⟨o, rest, h1, h2, h3⟩ := pickL_cons h
  rw [h2, List.map_cons, List.map_cons, drop_at h1, pickL_map h3]

section
variable {P : Program} {l : List Oper} {w0 : World} {Con : Nat → Value → World → Prop} {L : Act → HSt → Prop} {a : Act} {s : HSt} {o : Oper} {rest : List Oper}
theorem held_op (k : Nat) (hs : List Nat) (ho : l.drop k = o :: rest) (hw : Region.wanted o (yielded l.toArray a.tmps) = true) (R : World → Value → Prop) (hR : ∀ W W' v, Ext W W' → R W v → R W' v)
  (hrun : ∀ W, Ext w0 W → (∀ j, Dep .any l.toArray k j → s.fact j W) → heldUpon P Con k o R W ((execOp a.eval o).run P W))
  (h : ∀ v, (s.upd k (fun W => R W v) (tokOf o v)).real w0 → heldLex P l.toArray .any w0 Con L hs (a.put o.dst v) (s.upd k (fun W => R W v) (tokOf o v))) :
  heldLex P l.toArray .any w0 Con L (k :: hs) a s := by
 unfold heldLex hOp
 simp only [drop_at ho]
 rw [if_pos hw]
 exact ⟨R, hR, hrun, h⟩
theorem held_skip (k : Nat) (hs : List Nat) (ho : l.drop k = o :: rest) (hw : Region.wanted o (yielded l.toArray a.tmps) = false)
  (h : heldLex P l.toArray .any w0 Con L hs (a.put o.dst undef) s) : heldLex P l.toArray .any w0 Con L (k :: hs) a s := by
 unfold heldLex hOp
 simp only [drop_at ho]
 rw [if_neg (by rw [hw]; exact Bool.false_ne_true)]
 exact h
theorem held_val (hL : ∀ a s s', HSt.le s' s → L a s → L a s') (k : Nat) (hs : List Nat) (ho : l.drop k = o :: rest) (hw : Region.wanted o (yielded l.toArray a.tmps) = true) (v : Value) (hfr : freshOp o = false)
  (hrun : ∀ W, Ext w0 W → (∀ j, Dep .any l.toArray k j → s.fact j W) → (execOp a.eval o).run P W = .ok (.value v) W)
  (h : heldLex P l.toArray .any w0 Con L hs (a.put o.dst v) s) : heldLex P l.toArray .any w0 Con L (k :: hs) a s := by
 refine held_op k hs ho hw (fun _ u => u = v) (fun _ _ _ _ x => x) (fun W hW hD => ?_) (fun u hu => ?_)
 ·rw [hrun W hW hD]
  exact ⟨Ext.refl _, rfl, fun g hg => by rw [tokOf_none hfr] at hg; cases hg⟩
 ·obtain ⟨W, _, hf⟩ := hu
  have : u = v := (hf k).2 rfl
  subst this
  exact heldLex_anti hL _ _ _ _ ⟨fun k W x => x.1, by rw [tokOf_none hfr]; rfl⟩ h
theorem held_made_ (hL : ∀ a s s', HSt.le s' s → L a s → L a s') (k : Nat) (hs : List Nat) (ho : l.drop k = o :: rest) (hw : Region.wanted o (yielded l.toArray a.tmps) = true) (mk : Nat → Value) (obj : Obj)
  (hrun : ∀ W, (execOp a.eval o).run P W = .ok (.value (mk W.heap.size)) (W.alloc obj)) (hinj : ∀ g g', mk g = mk g' → g = g') (htk : ∀ g, tokOf o (mk g) = some g)
  (h : ∀ g, heldLex P l.toArray .any w0 Con L hs (a.put o.dst (mk g)) (s.upd k (fun W => W.heap[g]? = some obj ∧ w0.heap.size ≤ g) (some g))) :
  heldLex P l.toArray .any w0 Con L (k :: hs) a s := by
 refine held_op k hs ho hw (fun W v => ∃ g, v = mk g ∧ W.heap[g]? = some obj ∧ w0.heap.size ≤ g) (fun W W' v e ⟨g, h1, h2, h3⟩ => ⟨g, h1, ?_, h3⟩) (fun W hW hD => ?_) (fun u hu => ?_)
 ·have := (Array.getElem?_eq_some_iff.1 h2).1
  rw [e.heap this]; exact h2
 ·rw [hrun W]
  refine ⟨(Ext.refl W).alloc _, ⟨_, rfl, heap_alloc_new W _, hW.size⟩, fun g hg => ?_⟩
  rw [htk] at hg
  cases hg
  exact ⟨Nat.le_refl _, by rw [World.size_alloc]; omega⟩
 ·obtain ⟨W, _, hf⟩ := hu
  obtain ⟨g, rfl, _, _⟩ := (hf k).2 rfl
  refine heldLex_anti hL _ _ _ _ ⟨?_, by rw [htk]; rfl⟩ (h g)
  intro j W x
  refine ⟨x.1, fun e => ?_⟩
  obtain ⟨g', e1, e2, e3⟩ := x.2 e
  rw [hinj _ _ e1]; exact ⟨e2, e3⟩
theorem held_call (k : Nat) (hs : List Nat) (ho : l.drop k = o :: rest) (hw : Region.wanted o (yielded l.toArray a.tmps) = true) (f : FuncId) (args : Array Value) (hrun : ∀ W, (execOp a.eval o).run P W = .ok (.enter f args) W) (hfr : freshOp o = false)
  (hcon : ∀ W W' v, Ext W W' → Con k v W → Con k v W') (hc : ∀ W, Ext w0 W → (∀ j, Dep .any l.toArray k j → s.fact j W) → Calls P f args W fun e W' => ∃ v, e = .returned v ∧ Ext W W' ∧ Con k v W')
  (h : ∀ v, (∃ W, Ext w0 W ∧ Con k v W) → heldLex P l.toArray .any w0 Con L hs (a.put o.dst v) (s.upd k (Con k v) none)) :
  heldLex P l.toArray .any w0 Con L (k :: hs) a s := by
 refine held_op k hs ho hw (fun W v => Con k v W) hcon (fun W hW hD => ?_) (fun u hu => ?_)
 ·rw [hrun W]
  exact ⟨funext (tokOf_none hfr), Ext.refl _, hc W hW hD, fun v W'' _ c => c⟩
 ·obtain ⟨W, hW, hf⟩ := hu
  rw [tokOf_none hfr]
  exact h u ⟨W, hW, (hf k).2 rfl⟩
theorem held_quiet_ (hL : ∀ a s s', HSt.le s' s → L a s → L a s') (hs : List Nat) : ∀ (qs : List Nat), (pickL l qs).all plainOp = true → inL l qs = true →
  ∀ a, wpQuiet P l.toArray (fun W => ∃ x : After w0, W = x.world) (fun a' => heldLex P l.toArray .any w0 Con L hs a' s) (pickL l qs) a →
  heldLex P l.toArray .any w0 Con L (qs ++ hs) a s
 | [], _, _, a, h => h
 | k :: qs, hfr, hin, a, h => by
  obtain ⟨o, rest, ed, ep, hin'⟩ := pickL_cons hin
  rw [ep] at h hfr
  simp only [List.all_cons, Bool.and_eq_true] at hfr
  have hf1 := plain_fresh hfr.1
  have ih := fun a h => held_quiet_ hL hs qs hfr.2 hin' a h
  unfold wpQuiet at h
  split at h
  ·rename_i hw
   obtain ⟨v, h1, h2⟩ := h
   refine held_op k _ ed hw (fun _ u => u = v) (fun _ _ _ _ x => x) (fun W hW hD => ?_) (fun u hu => ?_)
   ·have h3 := h1 W ⟨⟨W, hW⟩, rfl⟩
    unfold Oper.quietAt at h3
    have hpl := plain_run (P := P) hfr.1 a.eval W
    generalize (execOp a.eval o).run P W = rr at *
    cases rr with
    | ok nx W' =>
     cases nx <;> simp only [Oper.quietUpon] at h3
     case value u => obtain ⟨rfl, rfl⟩ := h3; exact ⟨Ext.refl _, rfl, fun g hg => by rw [tokOf_none hf1] at hg; cases hg⟩
     case skip => obtain ⟨rfl, rfl⟩ := h3; exact ⟨Ext.refl _, rfl, fun g hg => by rw [tokOf_none hf1] at hg; cases hg⟩
     case enter f args => obtain ⟨v, hv⟩ := hpl _ _ rfl; cases hv
    | halt x w' => simp only [Oper.quietUpon] at h3
   ·obtain ⟨W, _, hf⟩ := hu
    have : u = v := (hf k).2 rfl
    subst this
    exact heldLex_anti hL _ _ _ _ ⟨fun k W x => x.1, by rw [tokOf_none hf1]; rfl⟩ (ih _ h2)
  ·rename_i hw
   exact held_skip k _ ed (by simpa using hw) (ih _ h)
theorem wpAny_takes {Q : Exit → Act → World → Prop} (hsel : Region.noSelect l.toArray = true) (hQ : ∀ c d v a w, Q (.panic c) (a.put d v) w → Q (.panic c) a w) (f : Nat) : ∀ (qs : List Nat) (listed : Array Bool) (a : Act), takeL .any l.toArray qs listed = true → (pickL l qs).all plainOp = true → inL l qs = true →
  wpQuiet P l.toArray (fun _ => True) (fun a' => ∀ W, Ext w0 W → wpAny P .any l.toArray Q f (setL qs listed) a' W) (pickL l qs) a → ∀ W, Ext w0 W → wpAny P .any l.toArray Q (f + qs.length) listed a W
 | [], _, _, _, _, _, h => h
 | k :: qs, listed, a, ht, hpl, hin, h => by
  obtain ⟨o, rest, ed, ep, hin'⟩ := pickL_cons hin
  rw [ep] at h hpl
  simp only [List.all_cons, Bool.and_eq_true] at hpl
  simp only [takeL, Bool.and_eq_true] at ht
  obtain ⟨⟨hr, hf⟩, ht'⟩ := ht
  unfold wpQuiet at h
  intro W hW
  split at h
  ·rename_i hw
   obtain ⟨v, h1, h2⟩ := h
   have hy : Yields P l.toArray o v a := by
    refine Or.inl ⟨hw, fun W => ?_⟩
    have h3 := h1 W trivial
    unfold Oper.quietAt at h3
    have hp := plain_run (P := P) hpl.1 a.eval W
    generalize (execOp a.eval o).run P W = rr at *
    cases rr with
    | ok nx W' =>
     obtain ⟨u, rfl⟩ := hp _ _ rfl
     simp only [Oper.quietUpon] at h3
     rw [h3.1, h3.2]
    | halt x w' => simp only [Oper.quietUpon] at h3
   exact wpAny_take (drop_at ed) hsel hf hr (fun c a w => hQ c _ _ a w) hy (wpAny_takes hsel hQ f qs _ _ ht' hpl.2 hin' h2 W hW)
  ·rename_i hw
   have hy : Yields P l.toArray o undef a := Or.inr ⟨by simpa using hw, rfl⟩
   exact wpAny_take (drop_at ed) hsel hf hr (fun c a w => hQ c _ _ a w) hy (wpAny_takes hsel hQ f qs _ _ ht' hpl.2 hin' h W hW)
end

def OnlyNormal (Q : Exit → Act → World → Prop) : Exit → Act → World → Prop
 | .normal, a, w => Q .normal a w
 | _, _, _ => False
theorem OnlyNormal.imp {Q : Exit → Act → World → Prop} : ∀ (e : Exit) (a : Act) (w : World), OnlyNormal Q e a w → Q e a w := fun e a w h => by
 cases e <;> first | exact h | exact (h : False).elim
def listed0 (l : List Oper) : Array Bool := Array.replicate l.length false
def heldAllB (l : List Oper) (qs hs ts : List Nat) : Bool :=
 takeL .any l.toArray qs (listed0 l) && (pickL l qs).all plainOp && inL l qs && inL l ts && heldB .any l.toArray (setL qs (listed0 l)) hs ts && (hs.length + ts.length + qs.length == l.length)
def heldPost (P : Program) (l : List Oper) (ts : List Nat) (Q : Exit → Act → World → Prop) (w : World) (a : Act) (s : HSt) : Prop :=
 ∀ W, Ext w W → (∀ k, s.fact k W) → TokIn s W → ∀ Q0 : Exit → Act → World → Prop, (∀ a W, Q .normal a W → Q0 .normal a W) → wpList P l.toArray Q0 (pickL l ts) a W
theorem heldPost_anti {P : Program} {l : List Oper} {ts : List Nat} {Q : Exit → Act → World → Prop} {w : World} (a : Act) (s s' : HSt) (e : HSt.le s' s) (x : heldPost P l ts Q w a s) : heldPost P l ts Q w a s' :=
 fun W hW hf ht => x W hW (fun k => e.1 k W (hf k)) ⟨fun k g hk => ht.lt k g (by rw [e.2]; exact hk), fun k m g hkm hk hm => ht.ne k m g hkm (by rw [e.2]; exact hk) (by rw [e.2]; exact hm)⟩
theorem heldLex_imp {P : Program} {ops : Array Oper} {md : Region.Mode} {w0 : World} {Con : Nat → Value → World → Prop} {L L' : Act → HSt → Prop} (h : ∀ a s, L a s → L' a s) : ∀ (hs : List Nat) (a : Act) (s : HSt), heldLex P ops md w0 Con L hs a s → heldLex P ops md w0 Con L' hs a s
 | [], _, _, x => h _ _ x
 | k :: hs, a, s, x => by
  unfold heldLex hOp at *
  split
  ·rename_i ho; simp only [ho] at x; exact heldLex_imp h hs _ _ x
  ·rename_i o ho
   simp only [ho] at x
   split
   ·rename_i hw
    rw [if_pos hw] at x
    obtain ⟨R, h1, h2, h3⟩ := x
    exact ⟨R, h1, h2, fun v hv => heldLex_imp h hs _ _ (h3 v hv)⟩
   ·rename_i hw; rw [if_neg hw] at x; exact heldLex_imp h hs _ _ x
theorem wpQuiet_imp {P : Program} {ops : Array Oper} {C : World → Prop} {Q Q' : Act → Prop} (h : ∀ a, Q a → Q' a) : ∀ (l : List Oper) (a : Act), wpQuiet P ops C Q l a → wpQuiet P ops C Q' l a
 | [], _, x => h _ x
 | o :: l, a, x => by
  unfold wpQuiet at *
  split
  ·rename_i hw; rw [if_pos hw] at x; exact Oper.quiet_mono (fun a y => wpQuiet_imp h l a y) x
  ·rename_i hw; rw [if_neg hw] at x; exact wpQuiet_imp h l _ x
theorem wp_region_held {P : Program} {id : Nat} {Q : Exit → Act → World → Prop} {a : Act} {w : World} {l : List Oper} (qs hs ts : List Nat) (Con : Nat → Value → World → Prop) (hm : P.follows .mixedOrders = true) (hB : heldAllB l qs hs ts = true)
  (h : wpQuiet P l.toArray (fun _ => True) (fun a' => heldLex P l.toArray .any w Con (heldPost P l ts Q w) hs a' HSt.none) (pickL l qs) a) : (Code.region id l.toArray true).wp P Q a w := by
 simp only [heldAllB, Bool.and_eq_true, beq_iff_eq] at hB
 obtain ⟨⟨⟨⟨⟨ht, hp⟩, hin⟩, hint⟩, hb⟩, hlen⟩ := hB
 have hsel : Region.noSelect l.toArray = true := by
  simp only [heldB, Bool.and_eq_true] at hb
  exact hb.1.1.1.1
 refine Code.wp_mono OnlyNormal.imp (wp_region_any hm ?_)
 have := wpAny_takes (P := P) (w0 := w) (Q := OnlyNormal Q) hsel (fun c d v a w h => h) (hs.length + ts.length) qs (listed0 l) a ht hp hin (wpQuiet_imp (fun a' x => wpAny_held (Q := OnlyNormal Q) hb (pickL_map hint)
  (heldLex_imp (fun a s y W hW hf htk => y W hW hf htk (OnlyNormal Q) (fun _ _ z => z)) hs _ _ x)) _ _ h) { w with drawn := w.drawn + 1 } ((Ext.refl w).drew)
 rw [hlen] at this
 simpa [listed0] using this

section
variable {P : Program} {l : List Oper} {w0 : World} {Con : Nat → Value → World → Prop} {Q : Exit → Act → World → Prop} {ts : List Nat} {a : Act} {s : HSt} {o : Oper} {rest : List Oper}
theorem held_made (k : Nat) (hs : List Nat) (ho : l.drop k = o :: rest) (hw : Region.wanted o (yielded l.toArray a.tmps) = true) (mk : Nat → Value) (obj : Obj)
  (hrun : ∀ W, (execOp a.eval o).run P W = .ok (.value (mk W.heap.size)) (W.alloc obj)) (hinj : ∀ g g', mk g = mk g' → g = g') (htk : ∀ g, tokOf o (mk g) = some g)
  (h : ∀ g, heldLex P l.toArray .any w0 Con (heldPost P l ts Q w0) hs (a.put o.dst (mk g)) (s.upd k (fun W => W.heap[g]? = some obj ∧ w0.heap.size ≤ g) (some g))) :
  heldLex P l.toArray .any w0 Con (heldPost P l ts Q w0) (k :: hs) a s := held_made_ heldPost_anti k hs ho hw mk obj hrun hinj htk h
theorem held_quiet (qs hs : List Nat) (hp : (pickL l qs).all plainOp = true) (hin : inL l qs = true)
  (h : wpQuiet P l.toArray (fun W => ∃ x : After w0, W = x.world) (fun a' => heldLex P l.toArray .any w0 Con (heldPost P l ts Q w0) hs a' s) (pickL l qs) a) :
  heldLex P l.toArray .any w0 Con (heldPost P l ts Q w0) (qs ++ hs) a s := held_quiet_ heldPost_anti hs qs hp hin a h
end
end Go.Proofs.YtepcdhpikpmepaaGreat
