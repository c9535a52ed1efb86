/- Plain law: to look at each node of a well-formed certificate with its own path is to walk the tree once from the root. No program in sight. -/
import Derived.Test.YtonmlmkemliefaaSB
import Derived.Test.YtonmlmkemliefaaPK
namespace Go.Proofs.Ytonmlmkemliefaa
open Go.RowKit

/-- the harm of what is decided, and the least of what is not -/
def sumD : List WishD → List Int → Int
  | x :: t, d :: ds => (if d < 0 then leastB x else harmK x d) + sumD t ds
  | _, _ => 0
def rightR (t : List WishD) (bound : Int) (c : List NodeD) (a : Nat) : Bool :=
  let n := c[a]?.getD default
  let dec := pathP t.length c a
  if 0 ≤ n.wish then (if (t.length : Int) ≤ n.wish ∨ n.clA ≠ 0 ∨ n.clB ≠ 0 then false else decide (decAt dec n.wish < 0) && (n.kids.length == ((t[n.wish.toNat]?).getD default).opts.length))
  else if n.wish ≠ -1 ∨ 0 < n.kids.length then false
  else if n.clA = -1 then (n.clB == 0) && decide (bound ≤ sumD t dec)
  else if n.clA < 0 ∨ (t.length : Int) ≤ n.clA ∨ n.clB < 0 ∨ (t.length : Int) ≤ n.clB then false
  else clashT t n.clA (decAt dec n.clA) n.clB (decAt dec n.clB)
def checkR (t : List WishD) (bound : Int) (c : List NodeD) : Int :=
  if validT t ≠ 0 then validT t else if formedB c = false then 3 else if (List.range c.length).all (fun a => rightR t bound c a) then 0 else 11

theorem sumD_start : ∀ t : List WishD, sumD t (List.replicate t.length (-1)) = leastSum t
  | [] => rfl
  | x :: t => by
    simp only [List.length_cons, List.replicate_succ, sumD, leastSum, sumD_start t]
    rw [if_pos (by omega)]
    omega
theorem sumD_set : ∀ {t : List WishD} {dec : List Int} {m : Nat} {x : WishD} {d i : Int}, t[m]? = some x → dec[m]? = some d → d < 0 → 0 ≤ i → sumD t (dec.set m i) = sumD t dec - leastB x + harmK x i
  | [], _, m, _, _, _, h, _, _, _ => by simp at h
  | _ :: _, [], m, _, _, _, _, h, _, _ => by simp at h
  | y :: t, e :: dec, 0, x, d, i, h1, h2, h3, h4 => by
    simp at h1 h2
    subst h1 h2
    simp only [List.set_cons_zero, sumD]
    rw [if_neg (by omega), if_pos h3]
    omega
  | y :: t, e :: dec, m + 1, x, d, i, h1, h2, h3, h4 => by
    have := sumD_set (t := t) (dec := dec) (m := m) (by simpa using h1) (by simpa using h2) h3 h4
    simp only [List.set_cons_succ, sumD, this]
    omega

/-! ### pieces of a path -/
theorem pathSet_none {wi a : Int} : ∀ {l : List Int} {k : Nat} {out : List Int}, (∀ q ∈ l, q ≠ a) → pathSet wi a l k out = out
  | [], _, _, _ => rfl
  | q :: r, k, out, h => by
    rw [pathSet, if_neg (fun e => h q List.mem_cons_self e.1)]
    exact pathSet_none fun q' h' => h q' (List.mem_cons_of_mem _ h')
theorem pathUp_none {i a : Int} : ∀ {l : List Int}, (∀ q ∈ l, q ≠ a) → pathUp i l a = a
  | [], _ => rfl
  | q :: r, h => by
    rw [pathUp, if_neg (h q List.mem_cons_self)]
    exact pathUp_none fun q' h' => h q' (List.mem_cons_of_mem _ h')
theorem pathUp_one {i a : Int} : ∀ {l : List Int}, a ∈ l → (∀ q ∈ l, q ≠ i) → pathUp i l a = i
  | [], h, _ => by simp at h
  | q :: r, h, hi => by
    rw [pathUp]
    by_cases e : q = a
    · rw [if_pos e]
      exact pathUp_none fun q' h' => hi q' (List.mem_cons_of_mem _ h')
    · rw [if_neg e]
      rcases List.mem_cons.1 h with h | h
      · exact absurd h.symm e
      · exact pathUp_one h fun q' h' => hi q' (List.mem_cons_of_mem _ h')
theorem pathSet_one {wi a : Int} : ∀ {l : List Int} {k j : Nat} {out : List Int}, l[j]? = some a → (∀ j', l[j']? = some a → j' = j) → 0 ≤ wi → wi < out.length → pathSet wi a l k out = out.set wi.toNat ((k + j : Nat) : Int)
  | [], _, j, _, h, _, _, _ => by simp at h
  | q :: r, k, 0, out, h, hu, h0, h1 => by
    simp at h
    subst h
    rw [pathSet, if_pos ⟨rfl, h0, h1⟩, pathSet_none]
    · rfl
    · intro q' hq' e
      obtain ⟨m, hm⟩ := List.mem_iff_getElem?.1 hq'
      have := hu (m + 1) (by rw [← e]; simpa using hm)
      omega
  | q :: r, k, j + 1, out, h, hu, h0, h1 => by
    have hq : q ≠ a := fun e => by have := hu 0 (by rw [e]; rfl); omega
    rw [pathSet, if_neg (fun e => hq e.1), pathSet_one (j := j) (by simpa using h) (fun j' hj' => by have := hu (j' + 1) (by simpa using hj'); omega) h0 h1]
    congr 2
    omega
theorem pathSet_keep {wi a : Int} {w : Nat} : ∀ {l : List Int} {k : Nat} {out : List Int}, w < out.length → 0 ≤ out[w]?.getD 0 → 0 ≤ (pathSet wi a l k out)[w]?.getD 0
  | [], _, _, _, h => h
  | q :: r, k, out, hw, h => by
    rw [pathSet]
    split
    · refine pathSet_keep (by rw [List.length_set]; exact hw) ?_
      rw [List.getElem?_set]
      split
      · split
        · simp
        · simp
      · exact h
    · exact pathSet_keep hw h
theorem pathGo_keep {c : List NodeD} {w : Nat} : ∀ {i : Nat} {a : Int} {out : List Int}, w < out.length → 0 ≤ out[w]?.getD 0 → 0 ≤ (pathGo c i a out)[w]?.getD 0
  | 0, _, _, _, h => h
  | i + 1, a, out, hw, h => by
    rw [pathGo]
    exact pathGo_keep (by rw [pathSet_len]; exact hw) (pathSet_keep hw h)
theorem pathSet_set {wi a v : Int} {w : Nat} : ∀ {l : List Int} {k : Nat} {out : List Int}, w < out.length → (pathSet wi a l k out)[w]?.getD 0 < 0 → pathSet wi a l k (out.set w v) = (pathSet wi a l k out).set w v
  | [], _, _, _, _ => rfl
  | q :: r, k, out, hw, h => by
    rw [pathSet, pathSet, List.length_set]
    rw [pathSet] at h
    by_cases hc : q = a ∧ 0 ≤ wi ∧ wi < out.length
    · rw [if_pos hc] at h
      rw [if_pos hc, if_pos hc]
      have hne : w ≠ wi.toNat := by
        rintro rfl
        have := pathSet_keep (wi := wi) (a := a) (w := wi.toNat) (l := r) (k := k + 1) (out := out.set wi.toNat (k : Int)) (by rw [List.length_set]; exact hw) (by rw [List.getElem?_set_self hw]; simp)
        omega
      rw [List.set_comm _ _ hne]
      exact pathSet_set (by rw [List.length_set]; exact hw) h
    · rw [if_neg hc] at h
      rw [if_neg hc, if_neg hc]
      exact pathSet_set hw h
theorem pathGo_set {c : List NodeD} {v : Int} {w : Nat} : ∀ {i : Nat} {a : Int} {out : List Int}, w < out.length → (pathGo c i a out)[w]?.getD 0 < 0 → pathGo c i a (out.set w v) = (pathGo c i a out).set w v
  | 0, _, _, _, _ => rfl
  | i + 1, a, out, hw, h => by
    rw [pathGo] at h ⊢
    rw [pathGo]
    have hw' : w < (pathSet (c[i]?.getD default).wish a (c[i]?.getD default).kids 0 out).length := by rw [pathSet_len]; exact hw
    rw [pathSet_set hw]
    · exact pathGo_set hw' h
    · rcases Int.lt_or_le ((pathSet (c[i]?.getD default).wish a (c[i]?.getD default).kids 0 out)[w]?.getD 0) 0 with h1 | h1
      · exact h1
      · have := pathGo_keep (c := c) (i := i) (a := pathUp (i : Int) (c[i]?.getD default).kids a) hw' h1
        omega

/-! ### the tree of a well-formed certificate -/
structure TreeF (c : List NodeD) : Prop where
  inn : ∀ (i : Nat) (n : NodeD), c[i]? = some n → ∀ k ∈ n.kids, (i : Int) < k ∧ k < c.length
  uniq : ∀ (i i' : Nat) (n n' : NodeD) (k : Int), c[i]? = some n → c[i']? = some n' → k ∈ n.kids → k ∈ n'.kids → i = i'
  once : ∀ (i : Nat) (n : NodeD) (k : Int) (j j' : Nat), c[i]? = some n → n.kids[j]? = some k → n.kids[j']? = some k → j = j'
  par : ∀ a : Nat, 1 ≤ a → a < c.length → ∃ (p : Nat) (n : NodeD) (j : Nat), p < a ∧ c[p]? = some n ∧ n.kids[j]? = some (a : Int)
theorem formed_count {c : List NodeD} (h : formedB c = true) (a : Nat) (h1 : 1 ≤ a) (ha : a < c.length) : (allKids c).count (a : Int) = 1 := by
  obtain ⟨f1, f2, f3⟩ := formed_in h
  unfold formedB at h
  rw [if_neg (by omega), tickAll_ok (fun j x hx k hk => by have := f3 j x hx k hk; omega) (Int.le_refl 0)] at h
  simp only [tickOk, Bool.not_eq_true', List.any_eq_false] at h
  have hm : ((addC (allKids c) (zerosL c.length)).drop 1)[a - 1]? = some (((allKids c).count (a : Int) : Nat) : Int) := by
    rw [List.getElem?_drop, show 1 + (a - 1) = a by omega]
    unfold addC
    rw [List.getElem?_mapIdx, show (zerosL c.length)[a]? = some 0 by simp [zerosL, ha]]
    simp
  have := h _ (List.mem_of_getElem? hm)
  simp at this
  omega
theorem count_two {l : List Int} {k : Int} : ∀ {i j : Nat}, i < j → l[i]? = some k → l[j]? = some k → 2 ≤ l.count k := by
  induction l with
  | nil => intro i j _ h _; simp at h
  | cons x r ih =>
    intro i j hij h1 h2
    obtain ⟨j', rfl⟩ : ∃ j', j = j' + 1 := ⟨j - 1, by omega⟩
    rcases i with _ | i
    · simp at h1 h2
      subst h1
      have := List.count_pos_iff.2 (List.mem_of_getElem? h2)
      rw [List.count_cons, if_pos (by simp)]
      omega
    · have := ih (i := i) (j := j') (by omega) (by simpa using h1) (by simpa using h2)
      rw [List.count_cons]
      omega
theorem count_flat {c : List NodeD} {k : Int} : ∀ {i : Nat} {n : NodeD}, c[i]? = some n → n.kids.count k ≤ (allKids c).count k := by
  induction c with
  | nil => intro i n h; simp at h
  | cons x r ih =>
    intro i n h
    rw [allKids_cons, List.count_append]
    rcases i with _ | i
    · simp at h; subst h; omega
    · have := ih (i := i) (n := n) (by simpa using h); omega
theorem count_flat2 {c : List NodeD} {k : Int} : ∀ {i j : Nat} {n m : NodeD}, i < j → c[i]? = some n → c[j]? = some m → n.kids.count k + m.kids.count k ≤ (allKids c).count k := by
  induction c with
  | nil => intro i j n m _ h; simp at h
  | cons x r ih =>
    intro i j n m hij h h'
    rw [allKids_cons, List.count_append]
    obtain ⟨j', rfl⟩ : ∃ j', j = j' + 1 := ⟨j - 1, by omega⟩
    rcases i with _ | i
    · simp at h; subst h
      have := count_flat (c := r) (k := k) (i := j') (n := m) (by simpa using h')
      omega
    · have := ih (i := i) (j := j') (n := n) (m := m) (by omega) (by simpa using h) (by simpa using h'); omega
theorem treeF_of {c : List NodeD} (h : formedB c = true) : TreeF c := by
  have hc := formed_count h
  obtain ⟨f1, f2, f3⟩ := formed_in h
  have cnt : ∀ (i : Nat) (n : NodeD) (k : Int), c[i]? = some n → k ∈ n.kids → (allKids c).count k = 1 := fun i n k hn hk => by
    have := f3 i n hn k hk
    obtain ⟨m, rfl⟩ : ∃ m : Nat, k = m := ⟨k.toNat, by omega⟩
    exact hc m (by omega) (by omega)
  refine ⟨f3, fun i i' n n' k hn hn' hk hk' => ?_, fun i n k j j' hn hj hj' => ?_, fun a h1 ha => ?_⟩
  · have h1 := cnt i n k hn hk
    have p1 := List.count_pos_iff.2 hk
    have p2 := List.count_pos_iff.2 hk'
    rcases Nat.lt_trichotomy i i' with h | h | h
    · have := count_flat2 (k := k) h hn hn'; omega
    · exact h
    · have := count_flat2 (k := k) h hn' hn; omega
  · have h1 := cnt i n k hn (List.mem_of_getElem? hj)
    have h2 := count_flat (k := k) hn
    rcases Nat.lt_trichotomy j j' with h | h | h
    · have := count_two h hj hj'; omega
    · exact h
    · have := count_two h hj' hj; omega
  · have h2 := hc a h1 ha
    have : (a : Int) ∈ allKids c := List.count_pos_iff.1 (by omega)
    unfold allKids at this
    obtain ⟨n, hn, hk⟩ := List.mem_flatMap.1 this
    obtain ⟨p, hp⟩ := List.mem_iff_getElem?.1 hn
    obtain ⟨j, hj⟩ := List.mem_iff_getElem?.1 hk
    have := f3 p n hp _ hk
    exact ⟨p, n, j, by omega, hp, hj⟩

theorem pathGo_skip {c : List NodeD} (F : TreeF c) {i : Nat} {n : NodeD} {k : Nat} (hn : c[i]? = some n) (hk : (k : Int) ∈ n.kids) : ∀ (d : Nat) (out : List Int), i + 1 + d ≤ c.length → pathGo c (i + 1 + d) (k : Int) out = pathGo c (i + 1) (k : Int) out
  | 0, _, _ => rfl
  | d + 1, out, hd => by
    have hlt : i + 1 + d < c.length := by omega
    have e : c[i + 1 + d]? = some c[i + 1 + d] := List.getElem?_eq_getElem hlt
    have hno : ∀ q ∈ c[i + 1 + d].kids, q ≠ (k : Int) := by
      rintro q hq rfl
      have := F.uniq i (i + 1 + d) n _ _ hn e hk hq
      omega
    rw [show i + 1 + (d + 1) = (i + 1 + d) + 1 by omega, pathGo]
    simp only [e, Option.getD_some]
    rw [pathUp_none hno, pathSet_none hno]
    exact pathGo_skip F hn hk d out (by omega)
theorem path_kid {c : List NodeD} (F : TreeF c) {m i j k : Nat} {n : NodeD} (hn : c[i]? = some n) (hj : n.kids[j]? = some (k : Int)) {w : Nat} (hw : n.wish = w) (hm : w < m) (hd : decAt (pathP m c i) n.wish < 0) :
    pathP m c k = (pathP m c i).set w (j : Int) := by
  have hk := List.mem_of_getElem? hj
  have hin := F.inn i n hn _ hk
  unfold pathP at hd ⊢
  rw [hw] at hd
  obtain ⟨d, rfl⟩ : ∃ d, k = i + 1 + d := ⟨k - (i + 1), by omega⟩
  rw [pathGo_skip F hn hk d _ (by omega), pathGo]
  simp only [hn, Option.getD_some]
  rw [pathUp_one hk (fun q hq e => by have := F.inn i n hn q hq; omega), pathSet_one hj (fun j' hj' => F.once i n _ j' j hn hj' hj) (by omega) (by rw [List.length_replicate]; omega), hw, Int.toNat_natCast, Nat.zero_add]
  exact pathGo_set (by rw [List.length_replicate]; exact hm) (by simpa [decAt] using hd)

/-! ### what a path decides is in range -/
theorem pathSet_dec {t : List WishD} {wi a : Int} : ∀ {l : List Int} {k : Nat} {out : List Int}, DecOk t out → (∀ x, 0 ≤ wi → t[wi.toNat]? = some x → k + l.length ≤ x.opts.length) → DecOk t (pathSet wi a l k out)
  | [], _, _, h, _ => h
  | q :: r, k, out, h, hx => by
    rw [pathSet]
    refine pathSet_dec ?_ fun x h0 h1 => by have := hx x h0 h1; simp at this; omega
    split
    · rename_i hc
      have hlt : wi.toNat < t.length := by have := h.1; omega
      have e := List.getElem?_eq_getElem hlt
      have := hx _ hc.2.1 e
      simp at this
      exact h.set_ e (by omega) (by omega)
    · exact h
def Fits (t : List WishD) (n : NodeD) : Prop := ∀ x, 0 ≤ n.wish → t[n.wish.toNat]? = some x → n.kids.length ≤ x.opts.length
theorem pathGo_dec {t : List WishD} {c : List NodeD} : ∀ {i : Nat} {a : Int} {out : List Int}, DecOk t out → (∀ (j : Nat) (n : NodeD), j < i → c[j]? = some n → Fits t n) → i ≤ c.length → DecOk t (pathGo c i a out)
  | 0, _, _, h, _, _ => h
  | i + 1, a, out, h, hf, hi => by
    rw [pathGo]
    have e : c[i]? = some c[i] := List.getElem?_eq_getElem (by omega)
    simp only [e, Option.getD_some]
    exact pathGo_dec (pathSet_dec h fun x h0 h1 => by have := hf i _ (by omega) e x h0 h1; omega) (fun j n hj hn => hf j n (by omega) hn) (by omega)
theorem decOk_start (t : List WishD) : DecOk t (List.replicate t.length (-1)) :=
  ⟨by simp, fun i x d hx hd => by
    rw [List.getElem?_replicate] at hd
    split at hd
    · cases hd; omega
    · cases hd⟩
theorem pathP_dec {t : List WishD} {c : List NodeD} {a : Nat} (hf : ∀ (j : Nat) (n : NodeD), j < a → c[j]? = some n → Fits t n) (ha : a ≤ c.length) : DecOk t (pathP t.length c a) := pathGo_dec (decOk_start t) hf ha
theorem right_fits {t : List WishD} {bound : Int} {c : List NodeD} {a : Nat} {n : NodeD} (hn : c[a]? = some n) (h : rightR t bound c a = true) : Fits t n := by
  intro x h0 hx
  unfold rightR at h
  simp only [hn, Option.getD_some] at h
  rw [if_pos h0] at h
  split at h
  · cases h
  · simp [hx] at h
    omega

/-! ### a node -/
theorem clashT_dec {t : List WishD} (hv : validT t = 0) {dec : List Int} (hd : DecOk t dec) {A B : Int} (hA : idxB A t.length = true) (hB : idxB B t.length = true) :
    clashT t A (decAt dec A) B (decAt dec B) = (decide (A ≠ B) && (decide (0 ≤ decAt dec A) && decide (0 ≤ decAt dec B) && clashAt t dec A.toNat B.toNat)) := by
  obtain ⟨a, rfl, ha⟩ := idxB_nat hA
  obtain ⟨b, rfl, hb⟩ := idxB_nat hB
  obtain ⟨x, hx⟩ : ∃ x, t[a]? = some x := ⟨_, List.getElem?_eq_getElem ha⟩
  obtain ⟨y, hy⟩ : ∃ y, t[b]? = some y := ⟨_, List.getElem?_eq_getElem hb⟩
  obtain ⟨d, hda⟩ : ∃ d, dec[a]? = some d := ⟨dec[a]'(by have := hd.1; omega), List.getElem?_eq_getElem _⟩
  obtain ⟨e, hdb⟩ : ∃ d, dec[b]? = some d := ⟨dec[b]'(by have := hd.1; omega), List.getElem?_eq_getElem _⟩
  have rd := hd.2 a x d hx hda
  have re := hd.2 b y e hy hdb
  have va : decAt dec (a : Int) = d := by simp [decAt, hda]
  have vb : decAt dec (b : Int) = e := by simp [decAt, hdb]
  rw [va, vb]
  by_cases hne : a = b
  · subst hne
    simp [clashT_same]
  have hne' : ((a : Int) ≠ (b : Int)) := by omega
  by_cases h1 : 0 ≤ d
  · by_cases h2 : 0 ≤ e
    · obtain ⟨i, rfl⟩ : ∃ i : Nat, d = i := ⟨d.toNat, by omega⟩
      obtain ⟨k, rfl⟩ : ∃ k : Nat, e = k := ⟨e.toNat, by omega⟩
      obtain ⟨o, ho⟩ : ∃ o, x.opts[i]? = some o := ⟨_, List.getElem?_eq_getElem (by omega)⟩
      obtain ⟨p, hp⟩ : ∃ p, y.opts[k]? = some p := ⟨_, List.getElem?_eq_getElem (by omega)⟩
      rw [clashT_eq hv hne hx hy ho hp]
      have e1 : optOf t dec a = some (x, o) := by simp [optOf, hx, hda, ho]
      have e2 : optOf t dec b = some (y, p) := by simp [optOf, hy, hdb, hp]
      rw [decide_eq_true hne']
      simp [clashAt, e1, e2]
    · rw [clashT_k hy (by simp [idxB]; omega)]
      simp [h2]
  · rw [clashT_i hx (by simp [idxB]; omega)]
    simp [h1]
theorem rightP_eq {t : List WishD} (hv : validT t = 0) {bound : Int} {c : List NodeD} {a : Nat} {n : NodeD} (hn : c[a]? = some n) (hd : DecOk t (pathP t.length c a)) {f : Nat} {lst harm : Int} (hs : harm + lst = sumD t (pathP t.length c a)) :
    rightP t bound c (f + 1) (pathP t.length c a) lst a harm = (rightR t bound c a && (if n.wish = -1 then true else
      kidsR (fun i kid o => rightP t bound c f ((pathP t.length c a).set n.wish.toNat i) (lst - leastB ((t[n.wish.toNat]?).getD default)) kid.toNat (harm + o.harm)) 0 n.kids ((t[n.wish.toNat]?).getD default).opts)) := by
  unfold rightR
  simp only [rightP, hn, Option.getD_some]
  by_cases hw : n.wish = -1
  · rw [if_pos hw, if_pos hw, if_neg (by omega), Bool.and_true]
    by_cases hk : n.kids.length = 0
    · rw [if_neg (by omega)]
      simp only [hk, beq_self_eq_true, Bool.true_and]
      unfold closedB
      by_cases hA : n.clA = -1
      · rw [if_pos hA, if_pos hA, hs]
      · rw [if_neg hA, if_neg hA]
        cases hI : idxB n.clA t.length with
        | false => 
          rw [if_pos (Or.inl rfl), if_pos]
          simp only [idxB, Bool.and_eq_false_iff, decide_eq_false_iff_not] at hI
          omega
        | true =>
          cases hJ : idxB n.clB t.length with
          | false =>
            rw [if_pos (Or.inr (Or.inl rfl)), if_pos]
            simp only [idxB, Bool.and_eq_false_iff, decide_eq_false_iff_not] at hJ
            omega
          | true =>
            have hI' := hI
            have hJ' := hJ
            simp only [idxB, Bool.and_eq_true, decide_eq_true_eq] at hI' hJ'
            rw [if_neg (c := n.clA < 0 ∨ _) (by omega), clashT_dec hv hd hI hJ]
            by_cases hE : n.clA = n.clB
            · rw [if_pos (Or.inr (Or.inr hE))]
              simp [hE]
            · rw [if_neg (by simp [hE])]
              simp [hE]
    · rw [if_pos (Or.inr (by omega))]
      have : (n.kids.length == 0) = false := by simpa using hk
      rw [this, Bool.false_and]
  · rw [if_neg hw, if_neg hw]
    cases hI : idxB n.wish t.length with
    | false =>
      rw [if_pos rfl]
      simp only [idxB, Bool.and_eq_false_iff, decide_eq_false_iff_not] at hI
      by_cases h0 : 0 ≤ n.wish
      · rw [if_pos h0, if_pos (Or.inl (by omega)), Bool.false_and]
      · rw [if_neg h0, if_pos (Or.inl hw), Bool.false_and]
    | true =>
      obtain ⟨m, hm, hmt⟩ := idxB_nat hI
      rw [if_neg (by simp), if_pos (c := 0 ≤ n.wish) (by omega)]
      rw [hm, Int.toNat_natCast]
      have hx : t[m]? = some t[m] := List.getElem?_eq_getElem hmt
      simp only [hx, Option.getD_some]
      by_cases hd0 : 0 ≤ decAt (pathP t.length c a) (m : Int)
      · rw [if_pos (Or.inl hd0)]
        have : decide (decAt (pathP t.length c a) (m : Int) < 0) = false := by simpa using hd0
        rw [this]
        simp
      · by_cases hA : n.clA = 0
        · by_cases hB : n.clB = 0
          · by_cases hl : n.kids.length = t[m].opts.length
            · rw [if_neg (by omega), if_neg (by omega)]
              have : decide (decAt (pathP t.length c a) (m : Int) < 0) = true := by simpa using hd0
              rw [this]
              simp [hl]
            · rw [if_pos (by omega), if_neg (by omega)]
              simp [hl]
          · rw [if_pos (by omega), if_pos (by omega), Bool.false_and]
        · rw [if_pos (by omega), if_pos (by omega), Bool.false_and]

theorem kidsR_all {g : Int → Int → OptD → Bool} : ∀ {i : Int} {ks : List Int} {os : List OptD}, (∀ (j : Nat) (k : Int) (o : OptD), ks[j]? = some k → os[j]? = some o → g (i + j) k o = true) → kidsR g i ks os = true
  | i, [], os, _ => by simp [kidsR]
  | i, _ :: _, [], _ => by simp [kidsR]
  | i, a :: ks, b :: os, h => by
    simp only [kidsR, Bool.and_eq_true]
    refine ⟨by simpa using h 0 a b rfl rfl, kidsR_all fun j k o h1 h2 => ?_⟩
    have := h (j + 1) k o (by simpa using h1) (by simpa using h2)
    rw [show i + 1 + (j : Int) = i + ((j + 1 : Nat) : Int) by omega]
    exact this
/-- what a right node decides -/
theorem right_wish {t : List WishD} {bound : Int} {c : List NodeD} {a : Nat} {n : NodeD} (hn : c[a]? = some n) (h : rightR t bound c a = true) (hw : n.wish ≠ -1) :
    ∃ (m : Nat) (x : WishD), n.wish = m ∧ t[m]? = some x ∧ decAt (pathP t.length c a) n.wish < 0 ∧ n.kids.length = x.opts.length := by
  unfold rightR at h
  simp only [hn, Option.getD_some] at h
  by_cases h0 : 0 ≤ n.wish
  · rw [if_pos h0] at h
    split at h
    · cases h
    · rename_i hc
      obtain ⟨m, hm⟩ : ∃ m : Nat, n.wish = m := ⟨n.wish.toNat, by omega⟩
      have hmt : m < t.length := by omega
      have hx : t[m]? = some t[m] := List.getElem?_eq_getElem hmt
      rw [hm, Int.toNat_natCast] at h
      simp [hx] at h
      exact ⟨m, _, hm, hx, by rw [hm]; exact h.1, h.2⟩
  · rw [if_neg h0, if_pos (Or.inl hw)] at h
    cases h
theorem kid_state {t : List WishD} {bound : Int} {c : List NodeD} (F : TreeF c) {a : Nat} {n : NodeD} (hn : c[a]? = some n) (h : rightR t bound c a = true) (hd : DecOk t (pathP t.length c a)) {j k : Nat} (hj : n.kids[j]? = some (k : Int)) :
    ∃ (m : Nat) (x : WishD) (o : OptD), n.wish = m ∧ t[m]? = some x ∧ x.opts[j]? = some o ∧ pathP t.length c k = (pathP t.length c a).set m (j : Int) ∧ sumD t (pathP t.length c k) = sumD t (pathP t.length c a) - leastB x + o.harm ∧ DecOk t (pathP t.length c k) := by
  have hw : n.wish ≠ -1 := fun e => by
    unfold rightR at h
    simp only [hn, Option.getD_some] at h
    have := (List.getElem?_eq_some_iff.1 hj).1
    rw [if_neg (by omega), if_pos (Or.inr (by omega))] at h
    cases h
  obtain ⟨m, x, hm, hx, hdc, hl⟩ := right_wish hn h hw
  have hjl := (List.getElem?_eq_some_iff.1 hj).1
  have hjo : j < x.opts.length := by omega
  have hmt := (List.getElem?_eq_some_iff.1 hx).1
  have hp := path_kid F hn hj hm hmt hdc
  have hpm : m < (pathP t.length c a).length := by rw [pathP_len]; exact hmt
  have hd0 : (pathP t.length c a)[m]? = some (pathP t.length c a)[m] := List.getElem?_eq_getElem hpm
  have hneg : (pathP t.length c a)[m] < 0 := by
    rw [hm] at hdc
    simpa [decAt, hd0] using hdc
  refine ⟨m, x, x.opts[j], hm, hx, List.getElem?_eq_getElem hjo, hp, ?_, ?_⟩
  · rw [hp, sumD_set hx hd0 hneg (by omega)]
    simp [harmK, hjo]
  · rw [hp]
    exact hd.set_ hx (by omega) (by omega)

theorem all_right {t : List WishD} (hv : validT t = 0) {bound : Int} {c : List NodeD} (F : TreeF c) (H : ∀ a, a < c.length → rightR t bound c a = true) :
    ∀ (f a : Nat) (lst harm : Int), c.length ≤ a + f → a < c.length → harm + lst = sumD t (pathP t.length c a) → rightP t bound c f (pathP t.length c a) lst a harm = true
  | 0, a, _, _, h1, h2, _ => by omega
  | f + 1, a, lst, harm, h1, h2, hs => by
    have hn : c[a]? = some c[a] := List.getElem?_eq_getElem h2
    have hd : DecOk t (pathP t.length c a) := pathP_dec (fun j n hj hn => right_fits hn (H j (by omega))) (by omega)
    rw [rightP_eq hv hn hd hs, H a h2, Bool.true_and]
    split
    · rfl
    · rename_i hw
      refine kidsR_all fun j k o hj ho => ?_
      have hin := F.inn a _ hn k (List.mem_of_getElem? hj)
      obtain ⟨kn, rfl⟩ : ∃ kn : Nat, k = kn := ⟨k.toNat, by omega⟩
      obtain ⟨m, x, o', hm, hx, ho', hp, hsum, _⟩ := kid_state F hn (H a h2) hd hj
      rw [hm, Int.toNat_natCast, hx, Option.getD_some] at ho ⊢
      obtain rfl : o' = o := Option.some.inj (ho'.symm.trans ho)
      rw [Int.toNat_natCast, Int.zero_add, ← hp]
      exact all_right hv F H f kn _ _ (by omega) (by omega) (by rw [hsum]; omega)
theorem right_all {t : List WishD} (hv : validT t = 0) {bound : Int} {c : List NodeD} (F : TreeF c) {f0 : Nat} (H : rightP t bound c f0 (pathP t.length c 0) (leastSum t) 0 0 = true) :
    ∀ a, a < c.length → rightR t bound c a = true ∧ DecOk t (pathP t.length c a) ∧ ∃ (f : Nat) (lst harm : Int), rightP t bound c f (pathP t.length c a) lst a harm = true ∧ harm + lst = sumD t (pathP t.length c a) := by
  have loc : ∀ a, a < c.length → DecOk t (pathP t.length c a) → (∃ (f : Nat) (lst harm : Int), rightP t bound c f (pathP t.length c a) lst a harm = true ∧ harm + lst = sumD t (pathP t.length c a)) → rightR t bound c a = true := by
    rintro a ha hd ⟨f, lst, harm, h, hs⟩
    rcases f with _ | f
    · simp [rightP] at h
    · rw [rightP_eq hv (List.getElem?_eq_getElem ha) hd hs, Bool.and_eq_true] at h
      exact h.1
  intro a
  induction a using Nat.strongRecOn with
  | ind a ih =>
  intro ha
  rcases Nat.eq_zero_or_pos a with rfl | hpos
  · have hd : DecOk t (pathP t.length c 0) := decOk_start t
    have hex : ∃ (f : Nat) (lst harm : Int), rightP t bound c f (pathP t.length c 0) lst 0 harm = true ∧ harm + lst = sumD t (pathP t.length c 0) := ⟨f0, _, _, H, by rw [show pathP t.length c 0 = List.replicate t.length (-1) from rfl, sumD_start]; omega⟩
    exact ⟨loc 0 ha hd hex, hd, hex⟩
  · obtain ⟨p, n, j, hp, hn, hj⟩ := F.par a hpos ha
    obtain ⟨hr, hd, f, lst, harm, h, hs⟩ := ih p hp (by omega)
    obtain ⟨m, x, o, hm, hx, ho, hpth, hsum, hdk⟩ := kid_state F hn hr hd hj
    have hex : ∃ (f : Nat) (lst harm : Int), rightP t bound c f (pathP t.length c a) lst a harm = true ∧ harm + lst = sumD t (pathP t.length c a) := by
      rcases f with _ | f
      · simp [rightP] at h
      · rw [rightP_eq hv hn hd hs, Bool.and_eq_true] at h
        have h2 := h.2
        rw [if_neg (by omega)] at h2
        have := kidsR_at h2 j a o hj (by rw [hm, Int.toNat_natCast, hx]; exact ho)
        rw [hm, Int.toNat_natCast, hx, Option.getD_some, Int.zero_add, Int.toNat_natCast, ← hpth] at this
        exact ⟨f, _, _, this, by rw [hsum]; omega⟩
    exact ⟨loc a ha hdk hex, hdk, hex⟩
theorem checkR_eq (t : List WishD) (bound : Int) (c : List NodeD) : checkR t bound c = checkT t bound c := by
  unfold checkR checkT
  by_cases hv : validT t = 0
  · have hv' : ¬ (validT t ≠ 0) := fun h => h hv
    simp only [if_neg hv']
    cases hf : formedB c with
    | false => rfl
    | true =>
      have hf' : ¬ (true = false) := by decide
      simp only [if_neg hf']
      have F := treeF_of hf
      have h0 := (formed_in hf).1
      have e : ((List.range c.length).all fun a => rightR t bound c a) = rightP t bound c c.length (List.replicate t.length (-1)) (leastSum t) 0 0 := by
        rw [Bool.eq_iff_iff, List.all_eq_true]
        constructor
        · intro h
          exact all_right hv F (fun a ha => h a (List.mem_range.2 ha)) c.length 0 _ _ (by omega) h0 (by rw [show pathP t.length c 0 = List.replicate t.length (-1) from rfl, sumD_start]; omega)
        · intro h a ha
          exact (right_all hv F h a (List.mem_range.1 ha)).1
      rw [e]
  · rw [if_pos hv, if_pos hv]
end Go.Proofs.Ytonmlmkemliefaa
