import Derived.Test.YtonmlmkemliefaaBestA
namespace Go.Proofs.Ytonmlmkemliefaa
open Go.RowKit

/-! ### the estimates that reached the bound -/
theorem kidsG_ests {f : Int → OptD → Nat → Res} {lo hi : Int} : ∀ (l : List OptD) (i : Int) (N : Nat), (∀ o ∈ l, ∀ i N, ∀ e ∈ (f i o N).ests, lo ≤ e ∧ e ≤ hi) → ∀ e ∈ (kidsG f l i N).ests, lo ≤ e ∧ e ≤ hi
  | [], _, _, _, e, he => by simp [kidsG] at he
  | o :: r, i, N, h, e, he => by
    simp only [kidsG, List.mem_append] at he
    rcases he with he | he
    · exact h o List.mem_cons_self _ _ e he
    · exact kidsG_ests r _ _ (fun o ho => h o (List.mem_cons_of_mem _ ho)) e he
theorem growL_ests (t : List WishD) (b : Int) : ∀ (l : List WishD), (∀ x ∈ l, ∀ o ∈ x.opts, 0 ≤ o.harm ∧ o.harm ≤ 1000000) → ∀ (pre : List Int) (harm : Int) (N : Nat), ∀ e ∈ (growL t b l pre harm N).ests, b ≤ e ∧ e ≤ harm + 1000000 * l.length
  | [], _, pre, harm, N, e, he => by
    simp only [growL] at he
    split at he
    · simp at he
    · split at he
      · simp at he; subst he; simp; assumption
      · simp at he
  | x :: r, h, pre, harm, N, e, he => by
    simp only [growL] at he
    split at he
    · simp at he
    · split at he
      · rename_i hb
        simp at he; subst he
        have := (leastSum_bd (x :: r) (fun y hy o ho => (h y hy o ho).1)).2
        exact ⟨hb, by omega⟩
      · refine kidsG_ests x.opts _ _ (fun o ho i N e he => ?_) e he
        have := growL_ests t b r (fun y hy => h y (List.mem_cons_of_mem _ hy)) _ _ _ e he
        have h2 := (h x List.mem_cons_self o ho).2
        simp only [List.length_cons]
        omega
theorem foldOver_nil (o : Int) : foldOver o [] = o := rfl
theorem foldOver_bd {lo hi : Int} : ∀ (l : List Int) (o : Int), (∀ e ∈ l, lo ≤ e ∧ e ≤ hi) → lo ≤ o → o ≤ hi → lo ≤ foldOver o l ∧ foldOver o l ≤ hi
  | [], o, _, h1, h2 => ⟨h1, h2⟩
  | e :: r, o, h, h1, h2 => by
    have he := h e List.mem_cons_self
    exact foldOver_bd r (min o e) (fun x hx => h x (List.mem_cons_of_mem _ hx)) (by omega) (by omega)
theorem foldOver_cons {lo hi : Int} {l : List Int} (hl : l ≠ []) (h : ∀ e ∈ l, lo ≤ e ∧ e ≤ hi) (o : Int) (ho : hi ≤ o) : lo ≤ foldOver o l ∧ foldOver o l ≤ hi := by
  cases l with
  | nil => exact absurd rfl hl
  | cons e r =>
    have he := h e List.mem_cons_self
    exact foldOver_bd r (min o e) (fun x hx => h x (List.mem_cons_of_mem _ hx)) (by omega) (by omega)
theorem foldFound_none : ∀ {l : List (List Int × Int)} {f : Option (List Int × Int)}, foldFound f l = none → l = [] ∧ f = none
  | [], f, h => ⟨rfl, h⟩
  | x :: r, f, h => by
    have := foldFound_none (l := r) (f := stepFound f x) h
    cases f <;> simp [stepFound] at this
    split at this <;> simp at this

theorem nodesC_at {w : World} {B : Nat} {Z : Nat → Prop} : ∀ {nodes : List NodeD} {xs : List Value}, NodesC w B Z nodes xs → ∀ i n, nodes[i]? = some n →
    ∃ kv, xs[i * 4]? = some (.int .i64 n.wish) ∧ xs[i * 4 + 1]? = some kv ∧ xs[i * 4 + 2]? = some (.int .i64 n.clA) ∧ xs[i * 4 + 3]? = some (.int .i64 n.clB) ∧ KidsOk w B Z kv n.kids
  | [], _, _, i, n, hn => by simp at hn
  | m :: ns, _, ⟨kv, r, e, h1, h2⟩, 0, n, hn => by
    simp at hn; subst hn
    exact ⟨kv, by rw [e]; rfl, by rw [e]; rfl, by rw [e]; rfl, by rw [e]; rfl, h1⟩
  | m :: ns, _, ⟨kv, r, e, h1, h2⟩, i + 1, n, hn => by
    obtain ⟨kv', a, b, c, d, h⟩ := nodesC_at h2 i n (by simpa using hn)
    have e4 : ∀ j, (i + 1) * 4 + j = (i * 4 + j) + 1 + 1 + 1 + 1 := fun j => by omega
    refine ⟨kv', ?_, ?_, ?_, ?_, h⟩
    · rw [e, show (i + 1) * 4 = i * 4 + 1 + 1 + 1 + 1 by omega]; exact a
    · rw [e, e4]; exact b
    · rw [e, e4]; exact c
    · rw [e, e4]; exact d
theorem nodes_of {w : World} {B : Nat} {Z : Nat → Prop} {v : Value} {nodes : List NodeD} {xs : List Value} (h : w.ownsRow B 49 4 v nodes.length xs) (hc : NodesC w B Z nodes xs) : Nodes w v nodes := by
  have hat := nodesC_at hc
  refine ⟨fun i => xs[i * 4 + 1]?.getD undef, ?_, fun i hi => ?_⟩
  · rcases h.2 with ⟨rfl, h0⟩ | ⟨g, cap, cur, rfl, hb, hg, hn, hcap, hcs, htake⟩
    · exact ⟨none, 0, by rw [h0], by omega, by unfold maxLen; omega, fun hp => by omega⟩
    · refine ⟨_, _, rfl, hn, hcap, fun hp => ⟨g, 0, rfl, (Array.getElem?_eq_some_iff.1 hg).1, fun i hi j hj => ?_⟩⟩
      obtain ⟨n, hn'⟩ : ∃ n, nodes[i]? = some n := ⟨nodes[i], List.getElem?_eq_getElem hi⟩
      obtain ⟨kv, a, b, c, d, _⟩ := hat i n hn'
      have e : ∀ k, (⟨g, 0, none⟩ : Addr).add k = ⟨g, 0 + k, none⟩ := fun k => by unfold Addr.add; split <;> simp_all
      have hcl := h.cells (g := g) rfl
      rcases j with _ | _ | _ | _ | j
      · have := hcl _ _ a; rw [e] at this; simpa [hn'] using this
      · have := hcl _ _ b; rw [e] at this; simpa [hn', b] using this
      · have := hcl _ _ c; rw [e] at this; simpa [hn'] using this
      · have := hcl _ _ d; rw [e] at this; simpa [hn'] using this
      · omega
  · obtain ⟨n, hn'⟩ : ∃ n, nodes[i]? = some n := ⟨nodes[i], List.getElem?_eq_getElem hi⟩
    obtain ⟨kv, a, b, c, d, hk⟩ := hat i n hn'
    simp only [b, hn', Option.getD_some]
    exact ints_of_owns hk.1
theorem harms_of {t : List WishD} (hv : validT t = 0) : ∀ x ∈ t, ∀ o ∈ x.opts, 0 ≤ o.harm ∧ o.harm ≤ 1000000 := by
  intro x hx o ho
  have := (validT_ok hv).2.1 x hx
  simp only [wishOkB, Bool.and_eq_true, List.all_eq_true] at this
  have := this.2 o ho
  simp only [optOkB, Bool.and_eq_true, decide_eq_true_eq] at this
  exact ⟨this.1.1.1.1, this.1.1.1.2⟩

/-- the root of a search -/
theorem BG.root {w W : World} {S Pk Rb : Nat} {tv : Value} {t : List WishD} {bound : Int} {rest : List Int} (h : BG w W S Pk Rb tv t bound rest) (hr : RestFrom t rest 0) (hv : validT t = 0) (hm : treeMax t ≤ 65536) :
    GrowIn (fun g => g = Rb ∨ g = Pk) w W S Pk Rb tv (.slice none 0 0) (.pointer none) t bound rest (zerosL t.length) [] none 9223372036854775807 [] 0 := by
  have hs : Srch _ _ _ _ _ _ _ _ _ _ _ _ _ _ _ _ := h
  have hL : t.length ≤ 512 := by
    have := (validT_ok hv).1
    simp [tooLargeB] at this
    exact this.1
  refine ⟨?_, hs, taskIn_of hv, hL, ?_, fun d hd => hr.2 d (Nat.zero_le _) hd, by rw [hr.1]; omega, zerosL_len _, by simp, Nat.zero_le _, by simp, Int.le_refl _, by simp, by simpa using hm⟩
  · rintro g (rfl | rfl)
    · exact hs.rb.lt
    · exact hs.pk.lt
  · intro x hx o ho
    exact harms_of hv x hx o ho
end Go.Proofs.Ytonmlmkemliefaa
