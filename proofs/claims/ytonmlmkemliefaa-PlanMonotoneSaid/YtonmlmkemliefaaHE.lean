/- A region that draws its order: each operation of its head leaves a value of which something is known that stays known; one walk in the order of the text serves every order. -/
import Derived.Test.YtonmlmkemliefaaPA
import Derived.StillTail
namespace Go.Proofs.Ytonmlmkemliefaa
open Go.RowKit

/-- operation i comes behind operation j -/
inductive Dep (md : Region.Mode) (ops : Array Oper) : Nat → Nat → Prop
  | edge {i : Nat} {o : Oper} {e : Edge} (hi : ops[i]? = some o) (he : e ∈ o.after) (hb : Region.binds md e = true) : Dep md ops i e.on
  | trans {i j k : Nat} (h1 : Dep md ops i j) (h2 : Dep md ops j k) : Dep md ops i k

/-- what is known of each operation's value, and the blocks that are new -/
structure HSt where
  fact : Nat → World → Prop
  tok : Nat → Option Nat
def HSt.none : HSt := ⟨fun _ _ => True, fun _ => Option.none⟩
def HSt.upd (s : HSt) (i : Nat) (F : World → Prop) (t : Option Nat) : HSt :=
  ⟨fun k W => s.fact k W ∧ (k = i → F W), match t with | Option.none => s.tok | some g => fun k => if k = i then some g else s.tok k⟩
def HSt.real (w0 : World) (s : HSt) : Prop := ∃ W, Ext w0 W ∧ ∀ k, s.fact k W
def HSt.mono (s : HSt) : Prop := ∀ k W W', Ext W W' → s.fact k W → s.fact k W'
def HSt.le (s s' : HSt) : Prop := (∀ k W, s.fact k W → s'.fact k W) ∧ s.tok = s'.tok
theorem HSt.le_refl (s : HSt) : s.le s := ⟨fun _ _ h => h, rfl⟩
theorem HSt.real_le {w0 : World} {s s' : HSt} (h : s.le s') (hr : s.real w0) : s'.real w0 := let ⟨W, a, b⟩ := hr; ⟨W, a, fun k => h.1 k W (b k)⟩
theorem HSt.upd_le {s s' : HSt} (h : s.le s') (i : Nat) (F : World → Prop) (t : Option Nat) : (s.upd i F t).le (s'.upd i F t) :=
  ⟨fun k W x => ⟨h.1 k W x.1, x.2⟩, by unfold HSt.upd; cases t <;> simp [h.2]⟩
theorem HSt.upd_mono {s : HSt} (h : s.mono) {F : World → Prop} (hF : ∀ W W', Ext W W' → F W → F W') (i : Nat) (t : Option Nat) : (s.upd i F t).mono :=
  fun k W W' e x => ⟨h k W W' e x.1, fun hk => hF W W' e (x.2 hk)⟩
theorem HSt.upd_tok_comm (s : HSt) {i j : Nat} (hij : i ≠ j) (F G F' G' : World → Prop) (t u : Option Nat) : ((s.upd j G' u).upd i F' t).tok = ((s.upd i F t).upd j G u).tok := by
  unfold HSt.upd
  cases t <;> cases u <;> simp
  funext k
  by_cases h1 : k = i
  · subst h1; simp [hij]
  · simp [h1]

/-- the block that an operation has made -/
def tokOf (o : Oper) (v : Value) : Option Nat :=
  match o.op, v with
  | .alloc _, .pointer (some a) => some a.block
  | .buildSlice .., .slice (some a) _ _ => some a.block
  | _, _ => none
def freshOp (o : Oper) : Bool := match o.op with | .alloc _ => true | .buildSlice .. => true | _ => false
theorem tokOf_none {o : Oper} (h : freshOp o = false) (v : Value) : tokOf o v = none := by
  unfold freshOp at h
  unfold tokOf
  split at h <;> simp_all

section
variable {P : Program} {ops : Array Oper} {md : Region.Mode} {w0 : World} {Con : Nat → Value → World → Prop}

/-- what is asked of an operation's outcome -/
def heldUpon (P : Program) (Con : Nat → Value → World → Prop) (i : Nat) (o : Oper) (R : World → Value → Prop) (W : World) : Result Next → Prop
  | .ok (.value v) W' => Ext W W' ∧ R W' v ∧ ∀ g, tokOf o v = some g → W.heap.size ≤ g ∧ g < W'.heap.size
  | .ok .skip W' => Ext W W' ∧ R W' undef ∧ ∀ g, tokOf o undef = some g → W.heap.size ≤ g ∧ g < W'.heap.size
  | .ok (.enter f args) W' => tokOf o = (fun _ => none) ∧ Ext W W' ∧ Calls P f args W' (fun e W'' => ∃ v, e = .returned v ∧ Ext W' W'' ∧ Con i v W'') ∧ ∀ v W'', Ext W W'' → Con i v W'' → R W'' v
  | _ => False

def hOp (P : Program) (ops : Array Oper) (md : Region.Mode) (w0 : World) (Con : Nat → Value → World → Prop) (i : Nat) (K : Act → HSt → Prop) (a : Act) (s : HSt) : Prop :=
  match ops[i]? with
  | none => K a s
  | some o => if Region.wanted o (yielded ops a.tmps) then
      ∃ R : World → Value → Prop, (∀ W W' v, Ext W W' → R W v → R W' v) ∧
        (∀ W, Ext w0 W → (∀ j, Dep md ops i j → s.fact j W) → heldUpon P Con i o R W ((execOp a.eval o).run P W)) ∧
        ∀ v, (s.upd i (fun W => R W v) (tokOf o v)).real w0 → K (a.put o.dst v) (s.upd i (fun W => R W v) (tokOf o v))
    else K (a.put o.dst undef) s

theorem held_out {i : Nat} {o : Oper} {R : World → Value → Prop} {W : World} {r : Result Next} (h : heldUpon P Con i o R W r) : ∃ v W', Ext W W' ∧ R W' v := by
  cases r with
  | ok n W' =>
    cases n <;> simp only [heldUpon] at h
    case value v => exact ⟨v, W', h.1, h.2.1⟩
    case skip => exact ⟨undef, W', h.1, h.2.1⟩
    case enter f args =>
      obtain ⟨e, w', fr, ⟨v, _, hx, hc⟩, _⟩ := h.2.2.1 []
      exact ⟨v, w', h.2.1.trans hx, h.2.2.2 v w' (h.2.1.trans hx) hc⟩
  | halt x w' => simp only [heldUpon] at h

theorem hOp_imp {i : Nat} {K K' : Act → HSt → Prop} {a : Act} {s : HSt} (hm : s.mono) (hr : s.real w0) (h : ∀ a s', s'.mono → s'.real w0 → K a s' → K' a s') (hh : hOp P ops md w0 Con i K a s) : hOp P ops md w0 Con i K' a s := by
  unfold hOp at *
  split
  · rename_i ho; simp only [ho] at hh; exact h _ _ hm hr hh
  · rename_i o ho
    simp only [ho] at hh
    split
    · rename_i hw
      rw [if_pos hw] at hh
      obtain ⟨R, h1, h2, h3⟩ := hh
      exact ⟨R, h1, h2, fun v hv => h _ _ (HSt.upd_mono hm (fun W W' e x => h1 W W' v e x) _ _) hv (h3 v hv)⟩
    · rename_i hw; rw [if_neg hw] at hh; exact h _ _ hm hr hh

theorem hOp_anti {i : Nat} {K : Act → HSt → Prop} (hK : ∀ a s s', HSt.le s' s → K a s → K a s') {a : Act} {s s' : HSt} (hs : s'.le s) (hh : hOp P ops md w0 Con i K a s) : hOp P ops md w0 Con i K a s' := by
  unfold hOp at *
  split
  · rename_i ho; simp only [ho] at hh; exact hK _ _ _ hs hh
  · rename_i o ho
    simp only [ho] at hh
    split
    · rename_i hw
      rw [if_pos hw] at hh
      obtain ⟨R, h1, h2, h3⟩ := hh
      exact ⟨R, h1, fun W hW hD => h2 W hW fun j hj => hs.1 j W (hD j hj), fun v hv => hK _ _ _ (HSt.upd_le hs _ _ _) (h3 v (HSt.real_le (HSt.upd_le hs _ _ _) hv))⟩
    · rename_i hw; rw [if_neg hw] at hh; exact hK _ _ _ hs hh

/-- two operations that do not look at one another -/
theorem hOp_swap {i j : Nat} {oi oj : Oper} (hi : ops[i]? = some oi) (hj : ops[j]? = some oj) (hij : i ≠ j) (hap : oi.apart ops oj = true)
    (hsi : ∀ cs b, oi.op ≠ .select cs b) (hsj : ∀ cs b, oj.op ≠ .select cs b) (hnj : ¬ Dep md ops j i)
    {K : Act → HSt → Prop} (hK : ∀ a s s', HSt.le s' s → K a s → K a s') {a : Act} {s : HSt} (hm : s.mono) (hr : s.real w0)
    (h : hOp P ops md w0 Con i (hOp P ops md w0 Con j K) a s) : hOp P ops md w0 Con j (hOp P ops md w0 Con i K) a s := by
  obtain ⟨h1, h2, h3⟩ := Oper.apart_spec hap
  unfold hOp at *
  simp only [hi, hj] at *
  simp only [wanted_put oj a oi.dst _ h1, execOp_put oj hsj a oi.dst _ h1] at h
  simp only [wanted_put oi a oj.dst _ h3, execOp_put oi hsi a oj.dst _ h3]
  by_cases wi : Region.wanted oi (yielded ops a.tmps) = true
  · simp only [wi, if_true] at h ⊢
    obtain ⟨Ri, hRi, hHi, hKi⟩ := h
    by_cases wj : Region.wanted oj (yielded ops a.tmps) = true
    · simp only [wj, if_true] at hKi ⊢
      have hKi' : ∀ v : Value, ∃ Rj : World → Value → Prop, (s.upd i (fun W => Ri W v) (tokOf oi v)).real w0 → (∀ W W' v, Ext W W' → Rj W v → Rj W' v) ∧
          (∀ W, Ext w0 W → (∀ k, Dep md ops j k → (s.upd i (fun W => Ri W v) (tokOf oi v)).fact k W) → heldUpon P Con j oj Rj W ((execOp a.eval oj).run P W)) ∧
          ∀ u, ((s.upd i (fun W => Ri W v) (tokOf oi v)).upd j (fun W => Rj W u) (tokOf oj u)).real w0 → K ((a.put oi.dst v).put oj.dst u) ((s.upd i (fun W => Ri W v) (tokOf oi v)).upd j (fun W => Rj W u) (tokOf oj u)) := fun v => by
        by_cases hv : (s.upd i (fun W => Ri W v) (tokOf oi v)).real w0
        · obtain ⟨Rj, a1, a2, a3⟩ := hKi v hv
          exact ⟨Rj, fun _ => ⟨a1, a2, a3⟩⟩
        · exact ⟨fun _ _ => True, fun h => absurd h hv⟩
      obtain ⟨Rj, hRj⟩ := Classical.axiomOfChoice hKi'
      obtain ⟨Ws, hWs, hfs⟩ := hr
      obtain ⟨v0, W0, hx0, hR0⟩ := held_out (hHi Ws hWs fun k _ => hfs k)
      have hv0 : (s.upd i (fun W => Ri W v0) (tokOf oi v0)).real w0 := ⟨W0, hWs.trans hx0, fun k => ⟨hm k _ _ hx0 (hfs k), fun _ => hR0⟩⟩
      refine ⟨fun W u => ∀ v, (s.upd i (fun W => Ri W v) (tokOf oi v)).real w0 → Rj v W u, fun W W' u e x v hv => (hRj v hv).1 W W' u e (x v hv), fun W hW hD => ?_, fun u hu => ?_⟩
      · have hall : ∀ v, (s.upd i (fun W => Ri W v) (tokOf oi v)).real w0 → heldUpon P Con j oj (Rj v) W ((execOp a.eval oj).run P W) := fun v hv =>
          (hRj v hv).2.1 W hW fun k hk => ⟨hD k hk, fun e => absurd (e ▸ hk) hnj⟩
        have h0 := hall v0 hv0
        generalize (execOp a.eval oj).run P W = r at *
        cases r with
        | ok n W' =>
          cases n <;> simp only [heldUpon] at h0 hall ⊢
          case value u => exact ⟨h0.1, fun v hv => (hall v hv).2.1, h0.2.2⟩
          case skip => exact ⟨h0.1, fun v hv => (hall v hv).2.1, h0.2.2⟩
          case enter f args => exact ⟨h0.1, h0.2.1, h0.2.2.1, fun u W'' e c v hv => (hall v hv).2.2.2 u W'' e c⟩
        | halt x w' => simp only [heldUpon] at h0
      · refine ⟨Ri, hRi, fun W hW hD => hHi W hW fun k hk => (hD k hk).1, fun v hv' => ?_⟩
        obtain ⟨W1, hW1, hf1⟩ := hv'
        have hv : (s.upd i (fun W => Ri W v) (tokOf oi v)).real w0 := ⟨W1, hW1, fun k => ⟨(hf1 k).1.1, (hf1 k).2⟩⟩
        have := (hRj v hv).2.2 u ⟨W1, hW1, fun k => ⟨⟨(hf1 k).1.1, (hf1 k).2⟩, fun e => (hf1 k).1.2 e v hv⟩⟩
        rw [Act.put_comm a v u h2] at this
        refine hK _ _ _ ?_ this
        exact ⟨fun k W x => ⟨⟨x.1.1, x.2⟩, fun e => x.1.2 e v hv⟩, HSt.upd_tok_comm s hij _ _ _ _ _ _⟩
    · simp only [wj] at hKi ⊢
      exact ⟨Ri, hRi, hHi, fun v hv => by have := hKi v hv; rw [if_neg (by decide), Act.put_comm a v undef h2] at this; exact this⟩
  · simp only [wi] at h ⊢
    by_cases wj : Region.wanted oj (yielded ops a.tmps) = true
    · simp only [wj, if_true] at h ⊢
      rw [if_neg (by decide)] at h
      obtain ⟨Rj, b1, b2, b3⟩ := h
      exact ⟨Rj, b1, b2, fun u hu => by rw [if_neg (by decide), ← Act.put_comm a undef u h2]; exact b3 u hu⟩
    · simp only [wj] at h ⊢
      rw [if_neg (by decide), if_neg (by decide), Act.put_comm a undef undef h2] at h
      rw [if_neg (by decide), if_neg (by decide)]
      exact h

/-- the head's operations in whatever order, then L -/
def heldAny (P : Program) (md : Region.Mode) (ops : Array Oper) (w0 : World) (Con : Nat → Value → World → Prop) (L : Act → HSt → Prop) : Nat → Array Bool → Act → HSt → Prop
  | 0, _, a, s => L a s
  | f + 1, listed, a, s => ∀ i ∈ Region.ready md ops listed, hOp P ops md w0 Con i (heldAny P md ops w0 Con L f (listed.setIfInBounds i true)) a s
/-- how the head may go, apart from all values -/
def statAny (md : Region.Mode) (ops : Array Oper) (n : Nat) (G : Array Bool → Prop) : Nat → Array Bool → Prop
  | 0, listed => G listed
  | f + 1, listed => Region.ready md ops listed ≠ [] ∧ ∀ i ∈ Region.ready md ops listed, i < n ∧ statAny md ops n G f (listed.setIfInBounds i true)

theorem heldAny_anti {L : Act → HSt → Prop} (hL : ∀ a s s', HSt.le s' s → L a s → L a s') : ∀ (f : Nat) (listed : Array Bool) (a : Act) (s s' : HSt), HSt.le s' s → heldAny P md ops w0 Con L f listed a s → heldAny P md ops w0 Con L f listed a s'
  | 0, _, _, _, _, hs, h => hL _ _ _ hs h
  | f + 1, _, _, _, _, hs, h => fun i hi => hOp_anti (fun a s s' e x => heldAny_anti hL f _ a s s' e x) hs (h i hi)

theorem dep_listed {n i j : Nat} {listed : Array Bool} (inv : HeadInv md ops n listed) (h : Dep md ops i j) : listed.getD i false = true → listed.getD j false = true := by
  induction h with
  | edge hi he hb => exact fun hl => inv.closed _ _ hi hl _ he hb
  | trans _ _ ih1 ih2 => exact fun hl => ih2 (ih1 hl)
theorem dep_ready {n i j : Nat} {listed : Array Bool} (inv : HeadInv md ops n listed) (h : Dep md ops i j) : i ∈ Region.ready md ops listed → listed.getD j false = true := by
  induction h with
  | edge hi he hb =>
    intro hr
    obtain ⟨_, o, ho, hall⟩ := mem_ready.1 hr
    have : o = _ := Option.some.inj (ho.symm.trans hi)
    subst this
    exact hall _ he hb
  | trans _ h2 ih1 _ => exact fun hl => dep_listed inv h2 (ih1 hl)
theorem no_dep {n i j : Nat} {listed : Array Bool} (inv : HeadInv md ops n listed) (hi : i ∈ Region.ready md ops listed) (hj : j ∈ Region.ready md ops listed) : ¬ Dep md ops i j := fun h => by
  have h1 := dep_ready inv h hi
  have h2 := getD_both (mem_ready.1 hj).1
  rw [h2] at h1
  cases h1

theorem stat_take {n i : Nat} {G : Array Bool → Prop} (hs : Region.sinkB md ops n = true) (hc : Region.chainB md ops n = true) (hn : n < ops.size) (hin : i < n) (hdone : ∀ listed, G listed → ∀ j ∈ Region.ready md ops listed, n ≤ j) :
    ∀ (f : Nat) (listed : Array Bool), HeadInv md ops n listed → i ∈ Region.ready md ops listed → statAny md ops n G f (listed.setIfInBounds i true) → statAny md ops n G (f + 1) listed := by
  intro f
  induction f with
  | zero =>
    intro listed inv hr H
    have hun := (mem_ready.1 hr).1
    refine ⟨fun h => (by rw [h] at hr; cases hr), fun j hj => ?_⟩
    have hjn : j < n := Nat.lt_of_not_le fun h => tail_waits hs hc hn inv _ i rfl hin hun j h hj
    refine ⟨hjn, ?_⟩
    by_cases hji : j = i
    · subst hji; exact H
    · have := hdone _ H j (ready_mono hj hji)
      omega
  | succ f ih =>
    intro listed inv hr H
    have hun := (mem_ready.1 hr).1
    refine ⟨fun h => (by rw [h] at hr; cases hr), fun j hj => ?_⟩
    have hjn : j < n := Nat.lt_of_not_le fun h => tail_waits hs hc hn inv _ i rfl hin hun j h hj
    refine ⟨hjn, ?_⟩
    by_cases hji : j = i
    · subst hji; exact H
    · have h1 := (H.2 j (ready_mono hj hji)).2
      refine ih (listed.setIfInBounds j true) (inv.set hj hjn) (ready_mono hr (Ne.symm hji)) ?_
      rw [Array.setIfInBounds_comm _ _ hji]; exact h1
theorem stat_lex {n g : Nat} (hs : Region.sinkB md ops n = true) (hc : Region.chainB md ops n = true) (hn : n < ops.size) :
    ∀ (m k : Nat) (listed : Array Bool), k + m = n → HeadInv md ops n listed → Region.lexHead md ops g m k listed = true → statAny md ops n (fun l => Region.seqB md ops g n l = true) m listed
  | 0, k, listed, hk, _, hB => by
    have : k = n := by omega
    subst this
    simpa [Region.lexHead, statAny] using hB
  | m + 1, k, listed, hk, inv, hB => by
    simp only [Region.lexHead, Bool.and_eq_true] at hB
    obtain ⟨⟨hr, hf⟩, hB'⟩ := hB
    have hkn : k < n := by omega
    have hr' : k ∈ Region.ready md ops listed := by simpa using hr
    exact stat_take hs hc hn hkn (fun listed' h => seqB_ready h) m listed inv hr' (stat_lex hs hc hn m (k + 1) _ (by omega) (inv.set hr' hkn) hB')

theorem held_take {n i : Nat} {oi : Oper} {L : Act → HSt → Prop} {G : Array Bool → Prop} (hi : ops[i]? = some oi) (hsel : ∀ (j : Nat) (o : Oper) cs b, ops[j]? = some o → o.op ≠ .select cs b)
    (hL : ∀ a s s', HSt.le s' s → L a s → L a s') (hdone : ∀ listed, G listed → ∀ j ∈ Region.ready md ops listed, n ≤ j) :
    ∀ (f : Nat) (listed : Array Bool) (a : Act) (s : HSt), HeadInv md ops n listed → statAny md ops n G (f + 1) listed → s.mono → s.real w0 →
      (∀ j oj, ops[j]? = some oj → j ≠ i → listed.getD j true = false → (∀ e ∈ oj.after, Region.binds md e = true → e.on ≠ i) → oi.apart ops oj = true) →
      i ∈ Region.ready md ops listed → hOp P ops md w0 Con i (heldAny P md ops w0 Con L f (listed.setIfInBounds i true)) a s → heldAny P md ops w0 Con L (f + 1) listed a s := by
  intro f
  induction f with
  | zero =>
    intro listed a s inv hst hm hr hfree hri H j hj
    by_cases hji : j = i
    · subst hji; exact H
    · have h1 := hdone _ (hst.2 i hri).2 j (ready_mono hj hji)
      have h2 := (hst.2 j hj).1
      omega
  | succ f ih =>
    intro listed a s inv hst hm hr hfree hri H j hj
    by_cases hji : j = i
    · subst hji; exact H
    · obtain ⟨hjun, oj, hoj, hall⟩ := mem_ready.1 hj
      have hnot : ∀ e ∈ oj.after, Region.binds md e = true → e.on ≠ i := fun e he hb heq => by
        have h1 := hall e he hb
        rw [heq, getD_both (mem_ready.1 hri).1] at h1
        cases h1
      have h1 : hOp P ops md w0 Con i (hOp P ops md w0 Con j (heldAny P md ops w0 Con L f ((listed.setIfInBounds i true).setIfInBounds j true))) a s :=
        hOp_imp hm hr (fun a s' _ _ x => x j (ready_mono hj hji)) H
      have h2 := hOp_swap hi hoj (Ne.symm hji) (hfree j oj hoj hji hjun hnot) (fun cs b => hsel i oi cs b hi) (fun cs b => hsel j oj cs b hoj) (no_dep inv hj hri)
        (fun a s s' e x => heldAny_anti hL f _ a s s' e x) hm hr h1
      refine hOp_imp hm hr (fun a' s' hm' hr' h3 => ih (listed.setIfInBounds j true) a' s' (inv.set hj (hst.2 j hj).1) (hst.2 j hj).2 hm' hr' (fun k ok hk hki hun' hno => hfree k ok hk hki ?_ hno) (ready_mono hri (Ne.symm hji)) ?_) h2
      · by_cases hjk : j = k
        · subst hjk; exact hjun
        · rw [getD_set_ne true hjk] at hun'; exact hun'
      · rw [Array.setIfInBounds_comm _ _ hji]; exact h3

/-- the walk in the order of the text: from operation k on, m operations, then L -/
def heldLex (P : Program) (ops : Array Oper) (md : Region.Mode) (w0 : World) (Con : Nat → Value → World → Prop) (L : Act → HSt → Prop) : Nat → Nat → Act → HSt → Prop
  | _, 0, a, s => L a s
  | k, m + 1, a, s => hOp P ops md w0 Con k (heldLex P ops md w0 Con L (k + 1) m) a s
theorem heldLex_anti {L : Act → HSt → Prop} (hL : ∀ a s s', HSt.le s' s → L a s → L a s') : ∀ (m k : Nat) (a : Act) (s s' : HSt), HSt.le s' s → heldLex P ops md w0 Con L k m a s → heldLex P ops md w0 Con L k m a s'
  | 0, _, _, _, _, hs, h => hL _ _ _ hs h
  | m + 1, _, _, _, _, hs, h => hOp_anti (fun a s s' e x => heldLex_anti hL m _ a s s' e x) hs h
theorem held_lex {n g : Nat} {L : Act → HSt → Prop} (hsel : Region.noSelect ops = true) (hs : Region.sinkB md ops n = true) (hc : Region.chainB md ops n = true) (hn : n < ops.size) (hL : ∀ a s s', HSt.le s' s → L a s → L a s') :
    ∀ (m k : Nat) (listed : Array Bool) (a : Act) (s : HSt), k + m = n → HeadInv md ops n listed → s.mono → s.real w0 →
    Region.lexHead md ops g m k listed = true → heldLex P ops md w0 Con L k m a s → heldAny P md ops w0 Con L m listed a s
  | 0, _, _, _, _, _, _, _, _, _, h => h
  | m + 1, k, listed, a, s, hk, inv, hm, hr, hB, h => by
    have h0 : ops[k]? = some (ops[k]'(by omega)) := Array.getElem?_eq_getElem (by omega)
    have hst := stat_lex hs hc hn (m + 1) k listed hk inv hB
    simp only [Region.lexHead, Bool.and_eq_true] at hB
    obtain ⟨⟨hrr, hf⟩, hB'⟩ := hB
    have hkn : k < n := by omega
    have hr' : k ∈ Region.ready md ops listed := by simpa using hrr
    refine held_take h0 (Region.noSelect_spec hsel) hL (fun listed' h => seqB_ready h) m listed a s inv hst hm hr (Region.free_spec h0 hf) hr' ?_
    exact hOp_imp hm hr (fun a' s' hm' hr'' x => held_lex hsel hs hc hn hL m (k + 1) _ a' s' (by omega) (inv.set hr' hkn) hm' hr'' hB' x) h

/-- the blocks that are new are there, and no two are one -/
structure TokIn (s : HSt) (W : World) : Prop where
  lt : ∀ k g, s.tok k = some g → g < W.heap.size
  ne : ∀ k l g, k ≠ l → s.tok k = some g → s.tok l ≠ some g
theorem TokIn.upd {s : HSt} {W W' : World} (h : TokIn s W) (e : Ext W W') (i : Nat) (F : World → Prop) (t : Option Nat) (ht : ∀ g, t = some g → W.heap.size ≤ g ∧ g < W'.heap.size) : TokIn (s.upd i F t) W' := by
  have hsz := e.size
  cases t with
  | none => exact ⟨fun k g hk => Nat.lt_of_lt_of_le (h.lt k g hk) hsz, h.ne⟩
  | some g0 =>
    have h0 := ht g0 rfl
    refine ⟨fun k g hk => ?_, fun k l g hkl hk hl => ?_⟩
    · simp only [HSt.upd] at hk
      split at hk
      · cases hk; exact h0.2
      · exact Nat.lt_of_lt_of_le (h.lt k g hk) hsz
    · simp only [HSt.upd] at hk hl
      split at hk <;> split at hl
      · omega
      · have e1 := Option.some.inj hk; have := h.lt l g hl; omega
      · have e1 := Option.some.inj hl; have := h.lt k g hk; omega
      · exact h.ne k l g hkl hk hl

theorem any_of_held {n g : Nat} {L : Act → HSt → Prop} {G : Array Bool → Prop} {Q' : Exit → Act → World → Prop}
    (hL : ∀ listed a s, G listed → L a s → ∀ W, Ext w0 W → (∀ k, s.fact k W) → TokIn s W → wpAny P md ops Q' g listed a W) :
    ∀ (f : Nat) (listed : Array Bool) (a : Act) (s : HSt), statAny md ops n G f listed → s.mono → heldAny P md ops w0 Con L f listed a s → ∀ W, Ext w0 W → (∀ k, s.fact k W) → TokIn s W → wpAny P md ops Q' (f + g) listed a W
  | 0, listed, a, s, hst, _, h, W, hW, hf, ht => by rw [Nat.zero_add]; exact hL listed a s hst h W hW hf ht
  | f + 1, listed, a, s, hst, hm, h, W, hW, hf, ht => by
    rw [show f + 1 + g = (f + g) + 1 by omega]
    refine ⟨fun h0 => absurd h0 hst.1, fun i hi => ?_⟩
    have h1 := h i hi
    have h2 := (hst.2 i hi).2
    unfold hOp at h1
    unfold wpOp
    split
    · rename_i ho
      simp only [ho] at h1
      exact any_of_held hL f _ a s h2 hm h1 W hW hf ht
    · rename_i o ho
      simp only [ho] at h1
      split
      · rename_i hw
        rw [if_pos hw] at h1
        obtain ⟨R, a1, a2, a3⟩ := h1
        refine .inl ?_
        have a4 := a2 W hW fun j _ => hf j
        have go : ∀ v W', Ext W W' → R W' v → (∀ g, tokOf o v = some g → W.heap.size ≤ g ∧ g < W'.heap.size) → wpAny P md ops Q' (f + g) (listed.setIfInBounds i true) (a.put o.dst v) W' := fun v W' hx hR htk =>
          have hfs : ∀ k, (s.upd i (fun W => R W v) (tokOf o v)).fact k W' := fun k => ⟨hm k _ _ hx (hf k), fun _ => hR⟩
          any_of_held hL f _ _ _ h2 (HSt.upd_mono hm (fun W W' e x => a1 W W' v e x) _ _) (a3 v ⟨W', hW.trans hx, hfs⟩) W' (hW.trans hx) hfs (ht.upd hx i _ _ htk)
        unfold Oper.wp
        generalize (execOp a.eval o).run P W = r at *
        cases r with
        | ok nx W' =>
          cases nx <;> simp only [heldUpon] at a4 <;> simp only [Oper.upon]
          case value v => exact go v W' a4.1 a4.2.1 a4.2.2
          case skip => exact go undef W' a4.1 a4.2.1 a4.2.2
          case enter fn args =>
            refine a4.2.2.1.mono ?_
            rintro e W'' ⟨v, rfl, hx, hc⟩
            exact go v W'' (a4.2.1.trans hx) (a4.2.2.2 v W'' (a4.2.1.trans hx) hc) (fun g hg => by rw [a4.1] at hg; cases hg)
        | halt x w' => simp only [heldUpon] at a4
      · rename_i hw
        rw [if_neg hw] at h1
        exact any_of_held hL f _ _ s h2 hm h1 W hW hf ht
end

/-- what stands behind the head -/
def heldEnd (P : Program) (l : List Oper) (Q : Exit → Act → World → Prop) (w : World) (n : Nat) (a : Act) (s : HSt) : Prop :=
  ∀ W, Ext w W → (∀ k, s.fact k W) → TokIn s W → wpList P l.toArray Q (l.drop n) a W
theorem heldEnd_anti {P : Program} {l : List Oper} {Q : Exit → Act → World → Prop} {w : World} {n : Nat} (a : Act) (s s' : HSt) (e : HSt.le s' s) (x : heldEnd P l Q w n a s) : heldEnd P l Q w n a s' :=
  fun W hW hf ht => x W hW (fun k => e.1 k W (hf k)) ⟨fun k g hk => ht.lt k g (by rw [e.2]; exact hk), fun k m g hkm hk hm => ht.ne k m g hkm (by rw [e.2]; exact hk) (by rw [e.2]; exact hm)⟩
/-- THE RULE. -/
theorem wp_region_held {P : Program} {id : Nat} {Q : Exit → Act → World → Prop} {a : Act} {w : World} {l : List Oper} (n : Nat) (Con : Nat → Value → World → Prop) (hm : P.follows .mixedOrders = true) (hB : Region.lexTailB .any l.toArray n = true)
    (h : heldLex P l.toArray .any w Con (heldEnd P l Q w n) 0 n a HSt.none) : (Code.region id l.toArray true).wp P Q a w := by
  simp only [Region.lexTailB, Bool.and_eq_true, decide_eq_true_eq] at hB
  obtain ⟨⟨⟨⟨hsel, hn⟩, hs⟩, hc⟩, hlex⟩ := hB
  have hdl : (l.drop n).length = l.toArray.size - n := by simp
  have inv0 : HeadInv .any l.toArray n (Array.replicate l.toArray.size false) :=
    ⟨by simp, fun j oj _ hl => (by rw [getD_replicate_false] at hl; cases hl), fun t _ ht => getD_in (by simpa using ht) (getD_replicate_false _ _)⟩
  have hm0 : HSt.none.mono := fun _ _ _ _ _ => trivial
  have H := held_lex (P := P) (md := .any) (g := l.toArray.size - n) hsel hs hc hn heldEnd_anti n 0 _ a HSt.none (by omega) inv0 hm0 ⟨w, Ext.refl w, fun _ => trivial⟩ hlex h
  have hst := stat_lex (md := .any) (g := l.toArray.size - n) hs hc hn n 0 _ (by omega) inv0 hlex
  refine wp_region_any hm ?_
  have := any_of_held (Q' := Q) (g := l.toArray.size - n) (fun listed a' s hG hLs W hW hf ht => by
    have := wpAny_of_seq (md := .any) (Q' := Q) (l.drop n) n listed a' W (fun j => by simp [List.getElem?_drop]) (by rw [hdl]; exact hG) (hLs W hW hf ht)
    rwa [hdl] at this) _ _ _ _ hst hm0 H { w with drawn := w.drawn + 1 } ((Ext.refl w).drew) (fun _ => trivial) ⟨fun k g hk => (by cases hk), fun k l g _ hk => (by cases hk)⟩
  have hn2 : n < l.toArray.size := hn
  rw [show n + (l.toArray.size - n) = l.toArray.size by omega] at this
  exact this

/-! ### steps -/
def depB (md : Region.Mode) (ops : Array Oper) : Nat → Nat → Nat → Bool
  | 0, _, _ => false
  | f + 1, i, j => match ops[i]? with
    | none => false
    | some o => o.after.any fun e => Region.binds md e && (e.on == j || depB md ops f e.on j)
theorem dep_of {md : Region.Mode} {ops : Array Oper} : ∀ (f i j : Nat), depB md ops f i j = true → Dep md ops i j
  | 0, _, _, h => by cases h
  | f + 1, i, j, h => by
    unfold depB at h
    split at h
    · cases h
    · rename_i o ho
      obtain ⟨e, he, hb⟩ := Array.any_eq_true'.1 h
      simp only [Bool.and_eq_true, Bool.or_eq_true, beq_iff_eq] at hb
      rcases hb.2 with h1 | h1
      · rw [← h1]; exact .edge ho he hb.1
      · exact .trans (.edge ho he hb.1) (dep_of f _ _ h1)
theorem TokIn.ne' {s : HSt} {W : World} (h : TokIn s W) {k l g g' : Nat} (hk : s.tok k = some g) (hl : s.tok l = some g') (hkl : k ≠ l) : g ≠ g' := fun e => h.ne k l g hkl hk (by rw [e]; exact hl)

/-! ### operations that are no call of a Go function -/
theorem bind_leaf {P : Program} {α : Type} {f : α → Sem Next} (hf : ∀ a w n w', (f a).run P w = .ok n w' → ∃ v, n = .value v) : ∀ (s : Sem α) (w : World) (n : Next) (w' : World), (s.bind f).run P w = .ok n w' → ∃ v, n = .value v := by
  intro s
  induction s with
  | pure a => exact fun w n w' h => hf a w n w' h
  | load m a k ih =>
    intro w n w' h
    simp only [Sem.bind, Sem.run] at h
    split at h
    · exact ih _ _ _ _ h
    · split at h
      · exact ih _ _ _ _ h
      · cases h
  | store m a v k ih =>
    intro w n w' h
    simp only [Sem.bind] at h
    unfold Sem.run at h
    split at h <;> first | (cases h; done) | skip
    all_goals simp_all
    all_goals (repeat' split at h) <;> first | (cases h; done) | exact ih _ _ _ h
  | new o k ih => exact fun w n w' h => ih _ _ _ _ h
  | shape r k ih => exact fun w n w' h => ih _ _ _ _ h
  | freeze a n k ih => exact fun w n w' h => ih _ _ _ h
  | frozen a k ih => exact fun w n w' h => ih _ _ _ _ h
  | getObj r k ih =>
    intro w n w' h
    simp only [Sem.bind, Sem.run] at h
    split at h <;> first | (cases h; done) | exact ih _ _ _ _ h
  | setObj r o k ih =>
    intro w n w' h
    simp only [Sem.bind, Sem.run] at h
    split at h <;> first | (cases h; done) | exact ih _ _ _ h
  | choose q k ih =>
    intro w n w' h
    simp only [Sem.bind, Sem.run] at h
    split at h <;> exact ih _ _ _ _ h
  | sys c k ih => exact fun w n w' h => ih _ _ _ _ h
  | program k ih => exact fun w n w' h => ih _ _ _ _ h
  | mark m k ih => exact fun w n w' h => ih _ _ _ h
  | halt x => intro w n w' h; cases h
def plainOp (o : Oper) : Bool :=
  match o.op with
  | .move _ | .assign _ | .pick .. | .load .. | .fieldAddr .. | .indexAddr .. | .binOp .. | .unOp .. | .convert .. | .extract .. | .slice .. | .field .. | .index .. | .build .. => true
  | .call ⟨.builtin .len, _, _⟩ | .call ⟨.builtin .cap, _, _⟩ | .call ⟨.builtin .min, _, _⟩ | .call ⟨.builtin .max, _, _⟩ => true
  | _ => false
theorem plain_run {P : Program} {o : Oper} (h : plainOp o = true) (ρ : Operand → Value) (w : World) (n : Next) (w' : World) (hr : (execOp ρ o).run P w = .ok n w') : ∃ v, n = .value v := by
  have leaf : ∀ (v : Value) (w : World) (n : Next) (w' : World), (Sem.pure (Next.value v)).run P w = .ok n w' → ∃ v, n = .value v := fun v w n w' h => by
    simp only [Sem.run] at h; cases h; exact ⟨v, rfl⟩
  obtain ⟨dst, op, type, pos, after, guard⟩ := o
  unfold plainOp at h
  split at h
  case h_19 => cases h
  all_goals rename_i e; simp only at e; subst e
  all_goals first
    | exact leaf _ _ _ _ hr
    | exact bind_leaf (fun a => leaf _) _ _ _ _ hr
theorem plain_fresh {o : Oper} (h : plainOp o = true) : freshOp o = false := by
  unfold plainOp at h
  unfold freshOp
  split at h <;> simp_all

section
variable {P : Program} {l : List Oper} {w0 : World} {Con : Nat → Value → World → Prop} {Q : Exit → Act → World → Prop} {n : Nat} {a : Act} {s : HSt} {o : Oper} {rest : List Oper}
theorem drop_at {α : Type} {l : List α} {k : Nat} {o : α} {rest : List α} (h : l.drop k = o :: rest) : l.toArray[k]? = some o := by
  have : (l.drop k)[0]? = some o := by rw [h]; rfl
  simpa using this
theorem held_op (k r : Nat) (ho : l.drop k = o :: rest) (hw : Region.wanted o (yielded l.toArray a.tmps) = true) (R : World → Value → Prop) (hR : ∀ W W' v, Ext W W' → R W v → R W' v)
    (hrun : ∀ W, Ext w0 W → (∀ j, Dep .any l.toArray k j → s.fact j W) → heldUpon P Con k o R W ((execOp a.eval o).run P W))
    (h : ∀ v, (s.upd k (fun W => R W v) (tokOf o v)).real w0 → heldLex P l.toArray .any w0 Con (heldEnd P l Q w0 n) (k + 1) r (a.put o.dst v) (s.upd k (fun W => R W v) (tokOf o v))) :
    heldLex P l.toArray .any w0 Con (heldEnd P l Q w0 n) k (r + 1) a s := by
  unfold heldLex hOp
  simp only [drop_at ho]
  rw [if_pos hw]
  exact ⟨R, hR, hrun, h⟩
theorem held_skip (k r : Nat) (ho : l.drop k = o :: rest) (hw : Region.wanted o (yielded l.toArray a.tmps) = false)
    (h : heldLex P l.toArray .any w0 Con (heldEnd P l Q w0 n) (k + 1) r (a.put o.dst undef) s) : heldLex P l.toArray .any w0 Con (heldEnd P l Q w0 n) k (r + 1) a s := by
  unfold heldLex hOp
  simp only [drop_at ho]
  rw [if_neg (by rw [hw]; exact Bool.false_ne_true)]
  exact h
/-- one value in every world -/
theorem held_val (k r : Nat) (ho : l.drop k = o :: rest) (hw : Region.wanted o (yielded l.toArray a.tmps) = true) (v : Value) (hfr : freshOp o = false)
    (hrun : ∀ W, Ext w0 W → (∀ j, Dep .any l.toArray k j → s.fact j W) → (execOp a.eval o).run P W = .ok (.value v) W)
    (h : heldLex P l.toArray .any w0 Con (heldEnd P l Q w0 n) (k + 1) r (a.put o.dst v) s) : heldLex P l.toArray .any w0 Con (heldEnd P l Q w0 n) k (r + 1) a s := by
  refine held_op k r ho hw (fun _ u => u = v) (fun _ _ _ _ x => x) (fun W hW hD => ?_) (fun u hu => ?_)
  · rw [hrun W hW hD]
    exact ⟨Ext.refl _, rfl, fun g hg => by rw [tokOf_none hfr] at hg; cases hg⟩
  · obtain ⟨W, _, hf⟩ := hu
    have : u = v := (hf k).2 rfl
    subst this
    exact heldLex_anti heldEnd_anti _ _ _ _ _ ⟨fun k W x => x.1, by rw [tokOf_none hfr]; rfl⟩ h
/-- a new block -/
theorem held_made (k r : Nat) (ho : l.drop k = o :: rest) (hw : Region.wanted o (yielded l.toArray a.tmps) = true) (mk : Nat → Value) (obj : Obj)
    (hrun : ∀ W, (execOp a.eval o).run P W = .ok (.value (mk W.heap.size)) (W.alloc obj)) (hinj : ∀ g g', mk g = mk g' → g = g') (htk : ∀ g, tokOf o (mk g) = some g)
    (h : ∀ g, heldLex P l.toArray .any w0 Con (heldEnd P l Q w0 n) (k + 1) r (a.put o.dst (mk g)) (s.upd k (fun W => W.heap[g]? = some obj ∧ w0.heap.size ≤ g) (some g))) :
    heldLex P l.toArray .any w0 Con (heldEnd P l Q w0 n) k (r + 1) a s := by
  refine held_op k r ho hw (fun W v => ∃ g, v = mk g ∧ W.heap[g]? = some obj ∧ w0.heap.size ≤ g) (fun W W' v e ⟨g, h1, h2, h3⟩ => ⟨g, h1, ?_, h3⟩) (fun W hW hD => ?_) (fun u hu => ?_)
  · have := (Array.getElem?_eq_some_iff.1 h2).1
    rw [e.heap this]; exact h2
  · rw [hrun W]
    refine ⟨(Ext.refl W).alloc _, ⟨_, rfl, heap_alloc_new W _, hW.size⟩, fun g hg => ?_⟩
    rw [htk] at hg
    cases hg
    exact ⟨Nat.le_refl _, by rw [World.size_alloc]; omega⟩
  · obtain ⟨W, _, hf⟩ := hu
    obtain ⟨g, rfl, _, _⟩ := (hf k).2 rfl
    refine heldLex_anti heldEnd_anti _ _ _ _ _ ⟨?_, by rw [htk]; rfl⟩ (h g)
    intro j W x
    refine ⟨x.1, fun e => ?_⟩
    obtain ⟨g', e1, e2, e3⟩ := x.2 e
    rw [hinj _ _ e1]; exact ⟨e2, e3⟩
/-- a call -/
theorem held_call (k r : Nat) (ho : l.drop k = o :: rest) (hw : Region.wanted o (yielded l.toArray a.tmps) = true) (f : FuncId) (args : Array Value) (hrun : ∀ W, (execOp a.eval o).run P W = .ok (.enter f args) W) (hfr : freshOp o = false)
    (hcon : ∀ W W' v, Ext W W' → Con k v W → Con k v W') (hc : ∀ W, Ext w0 W → (∀ j, Dep .any l.toArray k j → s.fact j W) → Calls P f args W fun e W' => ∃ v, e = .returned v ∧ Ext W W' ∧ Con k v W')
    (h : ∀ v, (∃ W, Ext w0 W ∧ Con k v W) → heldLex P l.toArray .any w0 Con (heldEnd P l Q w0 n) (k + 1) r (a.put o.dst v) (s.upd k (Con k v) none)) :
    heldLex P l.toArray .any w0 Con (heldEnd P l Q w0 n) k (r + 1) a s := by
  refine held_op k r ho hw (fun W v => Con k v W) hcon (fun W hW hD => ?_) (fun u hu => ?_)
  · rw [hrun W]
    exact ⟨funext (tokOf_none hfr), Ext.refl _, hc W hW hD, fun v W'' _ c => c⟩
  · obtain ⟨W, hW, hf⟩ := hu
    rw [tokOf_none hfr]
    exact h u ⟨W, hW, (hf k).2 rfl⟩
/-- operations that read, one value whatever the world behind w0 -/
theorem held_quiet : ∀ (m k r : Nat), ((l.drop k).take m).all plainOp = true → k + m ≤ l.length →
    ∀ a, wpQuiet P l.toArray (fun W => ∃ x : After w0, W = x.world) (fun a' => heldLex P l.toArray .any w0 Con (heldEnd P l Q w0 n) (k + m) r a' s) ((l.drop k).take m) a →
    heldLex P l.toArray .any w0 Con (heldEnd P l Q w0 n) k (r + m) a s
  | 0, k, r, _, _, a, h => by simpa [wpQuiet] using h
  | m + 1, k, r, hfr, hk, a, h => by
    have hk' : k < l.length := by omega
    have ed : l.drop k = l[k] :: l.drop (k + 1) := List.drop_eq_getElem_cons hk'
    rw [ed, List.take_succ_cons] at h hfr
    simp only [List.all_cons, Bool.and_eq_true] at hfr
    have hf1 := plain_fresh hfr.1
    have ho : l.toArray[k]? = some l[k] := by simp [hk']
    have ih := fun a h => held_quiet m (k + 1) r hfr.2 (by omega) a h
    have e1 : k + (m + 1) = k + 1 + m := by omega
    rw [e1] at h
    unfold wpQuiet at h
    rw [show r + (m + 1) = (r + m) + 1 by omega]
    split at h
    · rename_i hw
      obtain ⟨v, h1, h2⟩ := h
      unfold heldLex hOp
      simp only [ho]
      rw [if_pos hw]
      refine ⟨fun _ u => u = v, fun _ _ _ _ x => x, fun W hW hD => ?_, fun u hu => ?_⟩
      · have h3 := h1 W ⟨⟨W, hW⟩, rfl⟩
        unfold Oper.quietAt at h3
        have hpl := plain_run (P := P) hfr.1 a.eval W
        generalize (execOp a.eval l[k]).run P W = rr at *
        cases rr with
        | ok nx W' =>
          cases nx <;> simp only [Oper.quietUpon] at h3
          case value u => obtain ⟨rfl, rfl⟩ := h3; exact ⟨Ext.refl _, rfl, fun g hg => by rw [tokOf_none hf1] at hg; cases hg⟩
          case skip => obtain ⟨rfl, rfl⟩ := h3; exact ⟨Ext.refl _, rfl, fun g hg => by rw [tokOf_none hf1] at hg; cases hg⟩
          case enter f args => obtain ⟨v, hv⟩ := hpl _ _ rfl; cases hv
        | halt x w' => simp only [Oper.quietUpon] at h3
      · obtain ⟨W, _, hf⟩ := hu
        have : u = v := (hf k).2 rfl
        subst this
        exact heldLex_anti heldEnd_anti _ _ _ _ _ ⟨fun k W x => x.1, by rw [tokOf_none hf1]; rfl⟩ (ih _ h2)
    · rename_i hw
      refine held_skip k _ ed (by simpa using hw) (ih _ h)
end
end Go.Proofs.Ytonmlmkemliefaa
