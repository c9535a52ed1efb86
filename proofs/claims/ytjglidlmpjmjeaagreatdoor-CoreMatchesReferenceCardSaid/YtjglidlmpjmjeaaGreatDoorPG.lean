/- Merged parts: QuietTail, Make, Begin, BestA, BestB, BestC. -/
import Derived.Test.YtjglidlmpjmjeaaGreatDoorPD
import Derived.StillTail
import Derived.Laws.MakeOwn
import Derived.Test.YtjglidlmpjmjeaaGreatDoorPF
import Derived.Defers
import Derived.Recover
/- A region that draws its order: all operations but the last few read or call, one value whatever the world behind w; the last ones come in one forced order. After the library's own two theorems on such regions (one world; no tail), for a class of worlds. -/
namespace Go.Proofs.YtjglidlmpjmjeaaGreatDoor
open Go.RowKit

section
variable {P : Program} {ops : Array Oper} {md : Region.Mode} {C : World → Prop}

def headAny (P : Program) (md : Region.Mode) (ops : Array Oper) (C : World → Prop) (n : Nat) (L : Array Bool → Act → Prop) : Nat → Array Bool → Act → Prop
 | 0, listed, a => L listed a
 | f + 1, listed, a => Region.ready md ops listed ≠ [] ∧ ∀ i ∈ Region.ready md ops listed, i < n ∧ qOp P ops C i (headAny P md ops C n L f (listed.setIfInBounds i true)) a

theorem any_of_head {n g : Nat} {L : Array Bool → Act → Prop} {Q' : Exit → Act → World → Prop} (hL : ∀ listed a, L listed a → ∀ W, C W → wpAny P md ops Q' g listed a W) :
  ∀ (f : Nat) (listed : Array Bool) (a : Act), headAny P md ops C n L f listed a → ∀ W, C W → wpAny P md ops Q' (f + g) listed a W
 | 0, listed, a, h, W, hW => by rw [Nat.zero_add]; exact hL _ _ h W hW
 | f + 1, listed, a, h, W, hW => by
  rw [show f + 1 + g = (f + g) + 1 by omega]
  exact ⟨fun h0 => absurd h0 h.1, fun i hi => wpOp_of_qOp hW (fun a' W' hW' h' => any_of_head hL f _ a' h' W' hW') (h.2 i hi).2⟩

theorem head_take {n i : Nat} {oi : Oper} {v : Value} {L : Array Bool → Act → Prop} (hi : ops[i]? = some oi) (hsel : ∀ (j : Nat) (o : Oper) cs b, ops[j]? = some o → o.op ≠ .select cs b)
  (hs : Region.sinkB md ops n = true) (hc : Region.chainB md ops n = true) (hn : n < ops.size) (hin : i < n) (hdone : ∀ listed a, L listed a → ∀ j ∈ Region.ready md ops listed, n ≤ j) :
  ∀ (f : Nat) (listed : Array Bool) (a : Act), HeadInv md ops n listed →
   (∀ j oj, ops[j]? = some oj → j ≠ i → listed.getD j true = false → (∀ e ∈ oj.after, Region.binds md e = true → e.on ≠ i) → oi.apart ops oj = true) →
   i ∈ Region.ready md ops listed → YieldsIn P ops C oi v a → headAny P md ops C n L f (listed.setIfInBounds i true) (a.put oi.dst v) → headAny P md ops C n L (f + 1) listed a := by
 intro f
 induction f with
 | zero =>
  intro listed a inv _ hr hy H
  have hun := (mem_ready.1 hr).1
  refine ⟨fun h => (by rw [h] at hr; cases hr), fun j hj => ?_⟩
  have hjn : j < n := Nat.lt_of_not_le fun h => tail_waits hs hc hn inv _ i rfl hin hun j h hj
  refine ⟨hjn, ?_⟩
  by_cases hji : j = i
  ·subst hji; exact hy.qOp hi H
  ·have := hdone _ _ H j (ready_mono hj hji)
   omega
 | succ f ih =>
  intro listed a inv hfree hr hy H
  have hun := (mem_ready.1 hr).1
  refine ⟨fun h => (by rw [h] at hr; cases hr), fun j hj => ?_⟩
  have hjn : j < n := Nat.lt_of_not_le fun h => tail_waits hs hc hn inv _ i rfl hin hun j h hj
  refine ⟨hjn, ?_⟩
  by_cases hji : j = i
  ·subst hji; exact hy.qOp hi H
  ·have h1 := (H.2 j (ready_mono hj hji)).2
   obtain ⟨hjun, oj, hoj, hall⟩ := mem_ready.1 hj
   have hnot : ∀ e ∈ oj.after, Region.binds md e = true → e.on ≠ i := fun e he hb heq => by
    have h1 := hall e he hb
    rw [heq, getD_both hun] at h1
    cases h1
   have h2 := qOp_put hoj (hfree j oj hoj hji hjun hnot) (fun cs b => hsel i oi cs b hi) (fun cs b => hsel j oj cs b hoj) hy h1
   refine qOp_mono (fun a' h3 => ih (listed.setIfInBounds j true) a' (inv.set hj hjn) (fun k ok hk hki hun' hno => hfree k ok hk hki ?_ hno) (ready_mono hr (Ne.symm hji)) h3.1 ?_) h2
   ·by_cases hjk : j = k
    ·subst hjk; exact hjun
    ·rw [getD_set_ne true hjk] at hun'; exact hun'
   ·rw [Array.setIfInBounds_comm _ _ hji]; exact h3.2

theorem head_lex {n g : Nat} {Lq : Act → Prop} (hsel : Region.noSelect ops = true) (hs : Region.sinkB md ops n = true) (hc : Region.chainB md ops n = true) (hn : n < ops.size) :
  ∀ (l : List Oper) (k : Nat) (listed : Array Bool) (a : Act), (∀ j, j < l.length → l[j]? = ops[k + j]?) → k + l.length = n → HeadInv md ops n listed →
  Region.lexHead md ops g l.length k listed = true → wpQuiet P ops C Lq l a →
  headAny P md ops C n (fun listed' a' => Region.seqB md ops g n listed' = true ∧ Lq a') l.length listed a
 | [], k, listed, a, _, hk, _, hB, h => by
  have : k = n := by simpa using hk
  subst this
  exact ⟨by simpa [Region.lexHead] using hB, h⟩
 | o :: l, k, listed, a, hl, hk, inv, hB, h => by
  have h0 : ops[k]? = some o := by simpa using (hl 0 (by simp)).symm
  simp only [List.length_cons, Region.lexHead, Bool.and_eq_true] at hB
  obtain ⟨⟨hr, hf⟩, hB'⟩ := hB
  have hkn : k < n := by simp only [List.length_cons] at hk; omega
  have hr' : k ∈ Region.ready md ops listed := by simpa using hr
  have hst : qOp P ops C k (wpQuiet P ops C Lq l) a := by unfold qOp; simp only [h0]; exact h
  obtain ⟨v, hy, hK⟩ := yieldsIn_of_qOp h0 hst
  exact head_take h0 (Region.noSelect_spec hsel) hs hc hn hkn (fun listed' a' hL => seqB_ready hL.1) l.length listed a inv (Region.free_spec h0 hf) hr' hy
   (head_lex hsel hs hc hn l (k + 1) _ _ (fun j hj => by have := hl (j + 1) (by simp; omega); simpa [Nat.add_assoc, Nat.add_comm 1 j] using this) (by simp only [List.length_cons] at hk; omega) (inv.set hr' hkn) hB' hK)
end

theorem wp_region_tail {P : Program} {id : Nat} {Q : Exit → Act → World → Prop} {a : Act} {w : World} {l : List Oper} (n : Nat) (hm : P.follows .mixedOrders = true) (hB : Region.lexTailB .any l.toArray n = true)
  (h : wpQuiet P l.toArray (fun W => ∃ x : After w, W = x.world) (fun a' => ∀ W, (∃ x : After w, W = x.world) → wpList P l.toArray Q (l.drop n) a' W) (l.take n) a) : (Code.region id l.toArray true).wp P Q a w := by
 simp only [Region.lexTailB, Bool.and_eq_true, decide_eq_true_eq] at hB
 obtain ⟨⟨⟨⟨hsel, hn⟩, hs⟩, hc⟩, hlex⟩ := hB
 have hn' : n < l.length := by simpa using hn
 have htl : (l.take n).length = n := by simp; omega
 have hdl : (l.drop n).length = l.toArray.size - n := by simp
 have inv0 : HeadInv .any l.toArray n (Array.replicate l.toArray.size false) :=
  ⟨by simp, fun j oj _ hl => (by rw [getD_replicate_false] at hl; cases hl), fun t _ ht => getD_in (by simpa using ht) (getD_replicate_false _ _)⟩
 have H := head_lex (md := .any) (g := l.toArray.size - n) hsel hs hc hn (l.take n) 0 _ a (fun j hj => by
  have hj' : j < n := by rw [htl] at hj; exact hj
  simp [hj']) (by simpa using htl) inv0 (by rw [htl]; exact hlex) h
 refine wp_region_any hm ?_
 have := any_of_head (Q' := Q) (g := l.toArray.size - n) (fun listed a' hL W hW => by
  have := wpAny_of_seq (md := .any) (Q' := Q) (l.drop n) n listed a' W (fun j => by simp [List.getElem?_drop]) (by rw [hdl]; exact hL.1) (hL.2 W hW)
  rwa [hdl] at this) _ _ _ H { w with drawn := w.drawn + 1 } ⟨⟨w.drew, (Ext.refl w).drew⟩, rfl⟩
 rw [htl, show n + (l.toArray.size - n) = l.toArray.size by omega] at this
 exact this

end Go.Proofs.YtjglidlmpjmjeaaGreatDoor

/- make of integers, at a size that is a variable. -/
namespace Go.Proofs.YtjglidlmpjmjeaaGreatDoor
open Go.RowKit

def zerosL (n : Nat) : List Int := List.replicate n 0
theorem zerosL_len (n : Nat) : (zerosL n).length = n := by simp [zerosL]
def zerosV (n : Nat) : Array Value := ((zerosL n).map (Value.int .i64)).toArray

theorem made_zeros (n : Nat) : madeCells (Value.int .i64 0).cells n = zerosV n := by
 apply Array.ext_getElem?
 intro k
 by_cases h : k < n
 ·simp [madeCells, zerosV, zerosL, h, Value.cells, Nat.mod_one]
 ·simp [madeCells, zerosV, zerosL, h]
theorem run_make_any {P : Program} (t e : TypeId) (i : TypeInfo) (z : Value) (ht : P.underlying t = some (.slice e)) (hi : P.info? e = some i) (hz : i.zero = some z)
  (kl kc : IntKind) (n c : Nat) (hnc : n ≤ c) (hbytes : i.bytes * c ≤ 281474976710656) (h63 : c ≤ 9223372036854775807) (w : World) :
  (Instr.makeSlice t (.int kl (n : Int)) (.int kc (c : Int))).run P w = .ok (.slice (some ⟨w.heap.size, 0, none⟩) n c) (w.alloc (.cells (madeCells z.cells (c * i.size)) e)) := by
 have hb : (i.bytes : Int) * (c : Int) ≤ 281474976710656 := by
  have h : ((i.bytes * c : Nat) : Int) ≤ 281474976710656 := by omega
  rwa [Int.natCast_mul] at h
 have hr := run_make (P := P) w t e i z ht hi hz kl kc n c (by omega) (by omega) hb (by omega)
 simp only [Int.toNat_natCast] at hr
 exact hr
theorem run_make_ints (n : Nat) (hn : n ≤ 35184372088832) (w : World) :
  (Instr.makeSlice 23 (.int .i64 (n : Int)) (.int .i64 (n : Int))).run Tryz.prog w = .ok (.slice (some ⟨w.heap.size, 0, none⟩) n n) (w.alloc (.cells (zerosV n) 3)) := by
 obtain ⟨i0, hi, hz, hs, hb⟩ := info_parts int_info
 have := run_make_any (P := Tryz.prog) 23 3 i0 _ Tryz.underlying23 hi hz .i64 .i64 n n (Nat.le_refl _) (by rw [hb]; omega) (by omega) w
 rw [this, hs, Nat.mul_one, made_zeros]

end Go.Proofs.YtjglidlmpjmjeaaGreatDoor

namespace Go.Proofs.YtjglidlmpjmjeaaGreatDoor
open Go.RowKit

theorem blk_new' {w : World} {g : Nat} {t : TypeId} {cs : Array Value} {o : Obj} (h : g = w.heap.size) (ho : o = .cells cs t) : Blk (w.alloc o) g t cs := by
 subst h ho; exact Blk.new w t cs
def RestFrom (t : List WishD) (rest : List Int) (k : Nat) : Prop := rest.length = t.length + 1 ∧ ∀ d, k ≤ d → d ≤ t.length → rest[d]? = some (leastSum (t.drop d))
theorem RestFrom.start (t : List WishD) : RestFrom t (zerosL (t.length + 1)) t.length := by
 refine ⟨zerosL_len _, fun d h1 h2 => ?_⟩
 have : d = t.length := by omega
 subst this
 simp [zerosL, leastSum]
theorem RestFrom.step {t : List WishD} {rest : List Int} {k : Nat} (h : RestFrom t rest (k + 1)) {x : WishD} (hx : t[k]? = some x) : RestFrom t (rest.set k (leastSum (t.drop (k + 1)) + leastB x)) k := by
 have hk : k < t.length := (List.getElem?_eq_some_iff.1 hx).1
 refine ⟨by rw [List.length_set]; exact h.1, fun d h1 h2 => ?_⟩
 by_cases hd : d = k
 ·subst hd
  obtain ⟨y, e, hy⟩ := drop_cons t d hk
  rw [hx] at hy; cases hy
  rw [List.getElem?_set_self (by rw [h.1]; omega), e]
  rfl
 ·rw [List.getElem?_set_ne (by omega)]
  exact h.2 d (by omega) h2


end Go.Proofs.YtjglidlmpjmjeaaGreatDoor

namespace Go.Proofs.YtjglidlmpjmjeaaGreatDoor
open Go.RowKit

def BestRes (t : List WishD) : Option (List Int × Int) → Prop
 | some r => ∃ b, foldFound none (growL t b t [] 0 0).opens = some r
 | none => ∃ b, (growL t b t [] 0 0).opens = [] ∧ (growL t b t [] 0 0).ests = []
def BestOut (t : List WishD) (w : World) (e : Ending) (w' : World) : Prop :=
 ∃ pv cv er, e = .returned (.tuple #[.agg #[pv, .int .i64 er.1], cv, .int .i64 er.2]) ∧ Ext w w' ∧
  ((validT t ≠ 0 ∧ pv = .slice none 0 0 ∧ cv = .slice none 0 0 ∧ er = (0, validT t)) ∨
   (validT t = 0 ∧ BestRes t none ∧ pv = .slice none 0 0 ∧ cv = .slice none 0 0 ∧ er = (0, 4)) ∨
   (validT t = 0 ∧ ∃ p h, BestRes t (some (p, h)) ∧ Ints w' pv p ∧ Nodes w' cv (growL t h t [] 0 0).nodes ∧ er = (h, 0)))

section
variable {w W W' : World} {tv pv hv cv er : Value}
end
end Go.Proofs.YtjglidlmpjmjeaaGreatDoor

namespace Go.Proofs.YtjglidlmpjmjeaaGreatDoor
open Go.RowKit

/-! ### the estimates that reached the bound -/
theorem kidsG_ests {f : Int → OptD → Nat → Res} {lo hi : Int} : ∀ (l : List OptD) (i : Int) (N : Nat), (∀ o ∈ l, ∀ i N, ∀ e ∈ (f i o N).ests, lo ≤ e ∧ e ≤ hi) → ∀ e ∈ (kidsG f l i N).ests, lo ≤ e ∧ e ≤ hi
 | [], _, _, _, e, he => by simp [kidsG] at he
 | o :: r, i, N, h, e, he => by
  simp only [kidsG, List.mem_append] at he
  rcases he with he | he
  ·exact h o List.mem_cons_self _ _ e he
  ·exact kidsG_ests r _ _ (fun o ho => h o (List.mem_cons_of_mem _ ho)) e he
theorem growL_ests (t : List WishD) (b : Int) : ∀ (l : List WishD), (∀ x ∈ l, ∀ o ∈ x.opts, 0 ≤ o.harm ∧ o.harm ≤ 1000000) → ∀ (pre : List Int) (harm : Int) (N : Nat), ∀ e ∈ (growL t b l pre harm N).ests, b ≤ e ∧ e ≤ harm + 1000000 * l.length
 | [], _, pre, harm, N, e, he => by
  simp only [growL] at he
  split at he
  ·simp at he
  ·split at he
   ·simp at he; subst he; simp; assumption
   ·simp at he
 | x :: r, h, pre, harm, N, e, he => by
  simp only [growL] at he
  split at he
  ·simp at he
  ·split at he
   ·rename_i hb
    simp at he; subst he
    have := (leastSum_bd (x :: r) (fun y hy o ho => (h y hy o ho).1)).2
    exact ⟨hb, by omega⟩
   ·refine kidsG_ests x.opts _ _ (fun o ho i N e he => ?_) e he
    have := growL_ests t b r (fun y hy => h y (List.mem_cons_of_mem _ hy)) _ _ _ e he
    have h2 := (h x List.mem_cons_self o ho).2
    simp only [List.length_cons]
    omega
theorem foldOver_nil (o : Int) : foldOver o [] = o := rfl
theorem foldOver_bd {lo hi : Int} : ∀ (l : List Int) (o : Int), (∀ e ∈ l, lo ≤ e ∧ e ≤ hi) → lo ≤ o → o ≤ hi → lo ≤ foldOver o l ∧ foldOver o l ≤ hi
 | [], o, _, h1, h2 => ⟨h1, h2⟩
 | e :: r, o, h, h1, h2 => by
  have he := h e List.mem_cons_self
  exact foldOver_bd r (min o e) (fun x hx => h x (List.mem_cons_of_mem _ hx)) (by omega) (by omega)
theorem foldOver_cons {lo hi : Int} {l : List Int} (hl : l ≠ []) (h : ∀ e ∈ l, lo ≤ e ∧ e ≤ hi) (o : Int) (ho : hi ≤ o) : lo ≤ foldOver o l ∧ foldOver o l ≤ hi := by
 cases l with
 | nil => exact absurd rfl hl
 | cons e r =>
  have he := h e List.mem_cons_self
  exact foldOver_bd r (min o e) (fun x hx => h x (List.mem_cons_of_mem _ hx)) (by omega) (by omega)
theorem foldFound_none : ∀ {l : List (List Int × Int)} {f : Option (List Int × Int)}, foldFound f l = none → l = [] ∧ f = none
 | [], f, h => ⟨rfl, h⟩
 | x :: r, f, h => by
  have := foldFound_none (l := r) (f := stepFound f x) h
  cases f <;> simp [stepFound] at this
  split at this <;> simp at this

theorem nodesC_at {w : World} {B : Nat} {Z : Nat → Prop} : ∀ {nodes : List NodeD} {xs : List Value}, NodesC w B Z nodes xs → ∀ i n, nodes[i]? = some n →
  ∃ kv, xs[i * 4]? = some (.int .i64 n.wish) ∧ xs[i * 4 + 1]? = some kv ∧ xs[i * 4 + 2]? = some (.int .i64 n.clA) ∧ xs[i * 4 + 3]? = some (.int .i64 n.clB) ∧ KidsOk w B Z kv n.kids
 | [], _, _, i, n, hn => by simp at hn
 | m :: ns, _, ⟨kv, r, e, h1, h2⟩, 0, n, hn => by
  simp at hn; subst hn
  exact ⟨kv, by rw [e]; rfl, by rw [e]; rfl, by rw [e]; rfl, by rw [e]; rfl, h1⟩
 | m :: ns, _, ⟨kv, r, e, h1, h2⟩, i + 1, n, hn => by
  obtain ⟨kv', a, b, c, d, h⟩ := nodesC_at h2 i n (by simpa using hn)
  have e4 : ∀ j, (i + 1) * 4 + j = (i * 4 + j) + 1 + 1 + 1 + 1 := fun j => by omega
  refine ⟨kv', ?_, ?_, ?_, ?_, h⟩
  ·rw [e, show (i + 1) * 4 = i * 4 + 1 + 1 + 1 + 1 by omega]; exact a
  ·rw [e, e4]; exact b
  ·rw [e, e4]; exact c
  ·rw [e, e4]; exact d
theorem nodes_of {w : World} {B : Nat} {Z : Nat → Prop} {v : Value} {nodes : List NodeD} {xs : List Value} (h : w.ownsRow B 48 4 v nodes.length xs) (hc : NodesC w B Z nodes xs) : Nodes w v nodes := by
 have hat := nodesC_at hc
 refine ⟨fun i => xs[i * 4 + 1]?.getD undef, ?_, fun i hi => ?_⟩
 ·rcases h.2 with ⟨rfl, h0⟩ | ⟨g, cap, cur, rfl, hb, hg, hn, hcap, hcs, htake⟩
  ·exact ⟨none, 0, by rw [h0], by omega, by unfold maxLen; omega, fun hp => by omega⟩
  ·refine ⟨_, _, rfl, hn, hcap, fun hp => ⟨g, 0, rfl, (Array.getElem?_eq_some_iff.1 hg).1, fun i hi j hj => ?_⟩⟩
   obtain ⟨n, hn'⟩ : ∃ n, nodes[i]? = some n := ⟨nodes[i], List.getElem?_eq_getElem hi⟩
   obtain ⟨kv, a, b, c, d, _⟩ := hat i n hn'
   have e : ∀ k, (⟨g, 0, none⟩ : Addr).add k = ⟨g, 0 + k, none⟩ := fun k => by unfold Addr.add; split <;> simp_all
   have hcl := h.cells (g := g) rfl
   rcases j with _ | _ | _ | _ | j
   ·have := hcl _ _ a; rw [e] at this; simpa [hn'] using this
   ·have := hcl _ _ b; rw [e] at this; simpa [hn', b] using this
   ·have := hcl _ _ c; rw [e] at this; simpa [hn'] using this
   ·have := hcl _ _ d; rw [e] at this; simpa [hn'] using this
   ·omega
 ·obtain ⟨n, hn'⟩ : ∃ n, nodes[i]? = some n := ⟨nodes[i], List.getElem?_eq_getElem hi⟩
  obtain ⟨kv, a, b, c, d, hk⟩ := hat i n hn'
  simp only [b, hn', Option.getD_some]
  exact ints_of_owns hk.1
theorem harms_of {t : List WishD} (hv : validT t = 0) : ∀ x ∈ t, ∀ o ∈ x.opts, 0 ≤ o.harm ∧ o.harm ≤ 1000000 := by
 intro x hx o ho
 have := (validT_ok hv).2.1 x hx
 simp only [wishOkB, Bool.and_eq_true, List.all_eq_true] at this
 have := this.2 o ho
 simp only [optOkB, Bool.and_eq_true, decide_eq_true_eq] at this
 exact ⟨this.1.1.1.1, this.1.1.1.2⟩

end Go.Proofs.YtjglidlmpjmjeaaGreatDoor

namespace Go.Proofs.YtjglidlmpjmjeaaGreatDoor
open Go.RowKit


end Go.Proofs.YtjglidlmpjmjeaaGreatDoor
