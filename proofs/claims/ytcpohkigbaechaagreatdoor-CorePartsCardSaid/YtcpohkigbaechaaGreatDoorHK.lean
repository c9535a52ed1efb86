/- A region that draws its order, parted by which of two operations comes first. -/
import Derived.Test.YtcpohkigbaechaaGreatDoorHE
namespace Go.Proofs.YtcpohkigbaechaaGreatDoor
open Go.RowKit

/-- an operation that waits for one more -/
def edgeO (o : Oper) (j : Nat) : Oper := { o with after := o.after.push { on := j, ground := .data } }
/-- operation k waits for operation j besides -/
def edgeL : List Oper → Nat → Nat → List Oper
  | [], _, _ => []
  | o :: r, 0, j => edgeO o j :: r
  | o :: r, k + 1, j => o :: edgeL r k j
theorem edgeL_at : ∀ (l : List Oper) (k j i : Nat), (edgeL l k j)[i]? = if i = k then (l[i]?).map (edgeO · j) else l[i]?
  | [], k, j, i => by simp [edgeL]
  | o :: r, 0, j, 0 => by simp [edgeL]
  | o :: r, 0, j, i + 1 => by simp [edgeL]
  | o :: r, k + 1, j, 0 => by simp [edgeL]
  | o :: r, k + 1, j, i + 1 => by
    simp only [edgeL, List.getElem?_cons_succ, Nat.add_right_cancel_iff]
    exact edgeL_at r k j i
section
variable {P : Program} {Q : Exit → Act → World → Prop} {l : List Oper} {j k i : Nat} {listed : Array Bool}
theorem edge_arr (l : List Oper) (k j i : Nat) : (edgeL l k j).toArray[i]? = if i = k then (l.toArray[i]?).map (edgeO · j) else l.toArray[i]? := by
  simpa using edgeL_at l k j i
theorem ready_edge_sub (h : i ∈ Region.ready .any (edgeL l k j).toArray listed) : i ∈ Region.ready .any l.toArray listed := by
  obtain ⟨h1, o, ho, hall⟩ := mem_ready.1 h
  rw [edge_arr] at ho
  split at ho
  · cases hl : l.toArray[i]? with
    | none => rw [hl] at ho; cases ho
    | some o' =>
      rw [hl] at ho
      simp only [Option.map_some, Option.some.injEq] at ho
      subst ho
      exact mem_ready.2 ⟨h1, o', hl, fun e he hb => hall e (Array.mem_push_of_mem _ he) hb⟩
  · exact mem_ready.2 ⟨h1, o, ho, hall⟩
theorem ready_edge (h : i ∈ Region.ready .any l.toArray listed) (hk : i = k → listed.getD j false = true) : i ∈ Region.ready .any (edgeL l k j).toArray listed := by
  obtain ⟨h1, o, ho, hall⟩ := mem_ready.1 h
  by_cases e : i = k
  · refine mem_ready.2 ⟨h1, edgeO o j, by rw [edge_arr, if_pos e, ho]; rfl, fun x hx hb => ?_⟩
    rcases Array.mem_push.1 hx with hx | hx
    · exact hall x hx hb
    · rw [hx]; exact hk e
  · exact mem_ready.2 ⟨h1, o, by rw [edge_arr, if_neg e]; exact ho, hall⟩
/-- an order in which the operations may come up -/
def ordL (ops : Array Oper) : Nat → List Nat → Array Bool → Prop
  | 0, L, _ => L = []
  | _ + 1, [], listed => Region.ready .any ops listed = []
  | f + 1, i :: L, listed => i ∈ Region.ready .any ops listed ∧ ordL ops f L (listed.setIfInBounds i true)
theorem wpOps_of_any {ops : Array Oper} : ∀ (f : Nat) (L : List Nat) (listed : Array Bool) (a : Act) (w : World), wpAny P .any ops Q f listed a w → ordL ops f L listed → wpOps P ops Q L a w
  | 0, L, _, _, _, h, e => by
    obtain rfl : L = [] := e
    simpa [wpOps] using h.2
  | _ + 1, [], _, _, _, h, e => by simpa [wpOps] using h.1 e
  | f + 1, i :: L, listed, a, w, h, e => by
    rw [wpOps_cons]
    exact wpOp_mono (fun a w x => wpOps_of_any f L _ a w x e.2) (h.2 i e.1)
theorem ordL_lin (ops : Array Oper) : ∀ (f t : Nat) (listed : Array Bool), ordL ops f (Region.linearise.go .any ops f t listed []) listed
  | 0, t, listed => by simp [Region.linearise.go, ordL]
  | f + 1, t, listed => by
    simp only [Region.linearise.go]
    change ordL ops (f + 1) (match (Region.ready .any ops listed)[t % (Region.ready .any ops listed).length]? with
      | some i => Region.linearise.go .any ops f (t / (Region.ready .any ops listed).length) (listed.setIfInBounds i true) [i]
      | none => [].reverse) listed
    cases hi : (Region.ready .any ops listed)[t % (Region.ready .any ops listed).length]? with
    | none =>
      show Region.ready .any ops listed = []
      cases hr : Region.ready .any ops listed with
      | nil => rfl
      | cons x xs =>
        rw [hr] at hi
        have hlt : t % (x :: xs).length < (x :: xs).length := Nat.mod_lt _ (by simp)
        simp at hi
        simp at hlt
        omega
    | some i =>
      simp only []
      rw [linearise_go_acc, List.reverse_singleton, List.singleton_append]
      exact ⟨List.mem_of_getElem? hi, ordL_lin ops f _ _⟩
theorem getD_keep {j i : Nat} (h : listed.getD j false = true) : (listed.setIfInBounds i true).getD j false = true := by
  by_cases e : i = j
  · subst e
    have hlt : i < listed.size := by
      rcases Nat.lt_or_ge i listed.size with h' | h'
      · exact h'
      · simp [Array.getD, Nat.not_lt.2 h'] at h
    simp [hlt]
  · rw [getD_set_ne false e]; exact h
theorem getD_now (h : i ∈ Region.ready .any l.toArray listed) : (listed.setIfInBounds i true).getD i false = true := by
  have h1 := (mem_ready.1 h).1
  have hlt : i < listed.size := by
    rcases Nat.lt_or_ge i listed.size with h' | h'
    · exact h'
    · simp [Array.getD, Nat.not_lt.2 h'] at h1
  simp [hlt]
theorem ready_nil (h : Region.ready .any l.toArray listed = []) : Region.ready .any (edgeL l k j).toArray listed = [] :=
  List.eq_nil_iff_forall_not_mem.2 fun i hi => by
    have := ready_edge_sub hi
    rw [h] at this
    cases this
theorem ordL_edge : ∀ (f : Nat) (L : List Nat) (listed : Array Bool), listed.getD j false = true → ordL l.toArray f L listed → ordL (edgeL l k j).toArray f L listed
  | 0, _, _, _, e => e
  | _ + 1, [], _, _, e => ready_nil e
  | f + 1, _ :: L, _, hj, e => ⟨ready_edge e.1 fun _ => hj, ordL_edge f L _ (getD_keep hj) e.2⟩
theorem ordL_split (hjk : j ≠ k) : ∀ (f : Nat) (L : List Nat) (listed : Array Bool), ordL l.toArray f L listed → ordL (edgeL l k j).toArray f L listed ∨ ordL (edgeL l j k).toArray f L listed
  | 0, _, _, e => Or.inl e
  | _ + 1, [], _, e => Or.inl (ready_nil e)
  | f + 1, i :: L, _, e => by
    by_cases h1 : i = j
    · subst h1
      exact Or.inl ⟨ready_edge e.1 fun x => absurd x hjk, ordL_edge f L _ (getD_now e.1) e.2⟩
    · by_cases h2 : i = k
      · subst h2
        exact Or.inr ⟨ready_edge e.1 fun x => absurd x.symm hjk, ordL_edge f L _ (getD_now e.1) e.2⟩
      · rcases ordL_split hjk f L _ e.2 with h | h
        · exact Or.inl ⟨ready_edge e.1 fun x => absurd x h2, h⟩
        · exact Or.inr ⟨ready_edge e.1 fun x => absurd x h1, h⟩
theorem yielded_edge (tmps : Array Value) : yielded (edgeL l k j).toArray tmps = yielded l.toArray tmps := by
  funext i
  have e : ((edgeL l k j).toArray[i]?).bind (·.dst) = (l.toArray[i]?).bind (·.dst) := by
    rw [edge_arr]
    split
    · cases l.toArray[i]? <;> rfl
    · rfl
  unfold yielded
  rw [e]
theorem wpOp_edge {K : Act → World → Prop} {a : Act} {w : World} (h : wpOp P (edgeL l k j).toArray Q i K a w) : wpOp P l.toArray Q i K a w := by
  unfold wpOp at h ⊢
  rw [edge_arr] at h
  cases ho : l.toArray[i]? with
  | none =>
    rw [ho, show (if i = k then (none : Option Oper).map (edgeO · j) else none) = none by split <;> rfl] at h
    exact h
  | some o =>
    rw [ho] at h
    by_cases e : i = k
    · rw [if_pos e] at h
      simp only [Option.map_some] at h
      rw [yielded_edge] at h
      exact h
    · rw [if_neg e] at h
      simp only at h
      rw [yielded_edge] at h
      exact h
theorem wpOps_edge : ∀ (L : List Nat) (a : Act) (w : World), wpOps P (edgeL l k j).toArray Q L a w → wpOps P l.toArray Q L a w
  | [], _, _, h => by simpa [wpOps] using h
  | i :: L, a, w, h => by
    rw [wpOps_cons] at h ⊢
    exact wpOp_edge (wpOp_mono (fun a w x => wpOps_edge L a w x) h)
/-- THE RULE: k behind j, or j behind k. -/
theorem wp_region_split {id : Nat} {a : Act} {w : World} (j k : Nat) (hjk : j ≠ k) (hm : P.follows .mixedOrders = true)
    (h1 : wpAny P .any (edgeL l k j).toArray (OnlyNormal Q) l.length (listed0 l) a { w with drawn := w.drawn + 1 }) (h2 : wpAny P .any (edgeL l j k).toArray (OnlyNormal Q) l.length (listed0 l) a { w with drawn := w.drawn + 1 }) :
    (Code.region id l.toArray true).wp P Q a w := by
  refine Code.wp_mono OnlyNormal.imp (wp_region_draw fun t => ?_)
  simp only [Region.schedule, hm, Bool.true_or, if_true]
  have ho := ordL_lin l.toArray l.toArray.size t (Array.replicate l.toArray.size false)
  have e1 : l.toArray.size = l.length := by simp
  rcases ordL_split hjk _ _ _ ho with h | h
  · exact wpOps_edge _ _ _ (wpOps_of_any _ _ _ _ _ (by rw [e1]; exact h1) h)
  · exact wpOps_edge _ _ _ (wpOps_of_any _ _ _ _ _ (by rw [e1]; exact h2) h)
/-- the rule 'held', at the orders -/
theorem wpAny_held0 {a : Act} {w : World} {n : Nat} (qs hs ts : List Nat) (Con : Nat → Value → World → Prop) (hB : heldAllB l qs hs ts = true) (hn : l.length = n)
    (h : wpQuiet P l.toArray (fun _ => True) (fun a' => heldLex P l.toArray .any w Con (heldPost P l ts Q w) hs a' HSt.none) (pickL l qs) a) :
    wpAny P .any l.toArray (OnlyNormal Q) n (Array.replicate n false) a { w with drawn := w.drawn + 1 } := by
  simp only [heldAllB, Bool.and_eq_true, beq_iff_eq] at hB
  obtain ⟨⟨⟨⟨⟨ht, hp⟩, hin⟩, hint⟩, hb⟩, hlen⟩ := hB
  have hsel : Region.noSelect l.toArray = true := by
    simp only [heldB, Bool.and_eq_true] at hb
    exact hb.1.1.1.1
  have := wpAny_takes (P := P) (w0 := w) (Q := OnlyNormal Q) hsel (fun c d v a w h => h) (hs.length + ts.length) qs (listed0 l) a ht hp hin (wpQuiet_imp (fun a' x => wpAny_held (Q := OnlyNormal Q) hb (pickL_map hint)
    (heldLex_imp (fun a s y W hW hf htk => y W hW hf htk (OnlyNormal Q) (fun _ _ z => z)) hs _ _ x)) _ _ h) { w with drawn := w.drawn + 1 } ((Ext.refl w).drew)
  rw [hlen] at this
  rw [← hn]
  simpa [listed0] using this
end
end Go.Proofs.YtcpohkigbaechaaGreatDoor
