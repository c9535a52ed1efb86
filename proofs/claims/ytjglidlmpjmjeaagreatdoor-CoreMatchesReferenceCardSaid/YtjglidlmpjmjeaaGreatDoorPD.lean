/- Merged parts: PlanWalksG, PlanWalksH, Mem, PlanWalksI. -/
import Derived.Test.YtjglidlmpjmjeaaGreatDoorPC
import Derived.Test.YtjglidlmpjmjeaaGreatDoorPA
import Derived.Below
import Derived.Laws.OwnMore
import Derived.Deep.AppendLies
import Derived.Deep.Draws
import Derived.Laws.Rows
import Derived.Maps.AppendAt
import Derived.RegionTactic
import Derived.OwnWalk
import Derived.Deep.RegionLaw
/- Walks of package plan: isChoice, earlier, Lawful, Harm. -/
namespace Go.Proofs.YtjglidlmpjmjeaaGreatDoor
open Go.RowKit

theorem choiceB_len {t : List WishD} : ∀ {p : List Int}, choiceB t p = true → p.length = t.length := by
 induction t with
 | nil => intro p h; cases p with
  | nil => rfl
  | cons k p => simp [choiceB] at h
 | cons x t ih => intro p h; cases p with
  | nil => simp [choiceB] at h
  | cons k p => simp [choiceB] at h; simp [ih h.2]
theorem choiceB_ne {t : List WishD} {p : List Int} (h : p.length ≠ t.length) : choiceB t p = false := by
 cases hc : choiceB t p with
 | true => exact absurd (choiceB_len hc) h
 | false => rfl
theorem choiceB_step {t : List WishD} {p : List Int} {i : Nat} {x : WishD} {k : Int} (d : t.drop i = x :: t.drop (i + 1)) (d' : p.drop i = k :: p.drop (i + 1)) :
  choiceB (t.drop i) (p.drop i) = (idxB k x.opts.length && choiceB (t.drop (i + 1)) (p.drop (i + 1))) := by rw [d, d']; rfl

/-! ### earlier -/
def optOf (t : List WishD) (pick : List Int) (j : Nat) : Option (WishD × OptD) :=
 (t[j]?).bind fun x => (pick[j]?).bind fun k => if 0 ≤ k then (x.opts[k.toNat]?).map fun o => (x, o) else none
def clashAt (t : List WishD) (pick : List Int) (i d : Nat) : Bool :=
 match optOf t pick i, optOf t pick d with
 | some (x, o), some (y, p) => clashB x y o p
 | _, _ => false
def earlierI (t : List WishD) (pick : List Int) (d : Nat) : Int := findI (fun i => clashAt t pick i d) (List.range d)
theorem optOf_spec {t : List WishD} {pick : List Int} {j : Nat} {r : WishD × OptD} (h : optOf t pick j = some r) : ∃ n : Nat, t[j]? = some r.1 ∧ pick[j]? = some (n : Int) ∧ r.1.opts[n]? = some r.2 := by
 unfold optOf at h
 rw [Option.bind_eq_some_iff] at h
 obtain ⟨x, h1, h⟩ := h
 rw [Option.bind_eq_some_iff] at h
 obtain ⟨k, h2, h⟩ := h
 split at h
 ·rename_i hk
  rw [Option.map_eq_some_iff] at h
  obtain ⟨o, h3, rfl⟩ := h
  exact ⟨k.toNat, h1, by rw [h2]; congr 1; omega, h3⟩
 ·cases h

end Go.Proofs.YtjglidlmpjmjeaaGreatDoor

/- Walks of package plan: Lawful, Harm. -/
namespace Go.Proofs.YtjglidlmpjmjeaaGreatDoor
open Go.RowKit

def freeB (t : List WishD) (pick : List Int) : Bool := (List.range pick.length).all fun d => !decide (0 ≤ earlierI t pick d)
def lawfulB (t : List WishD) (pick : List Int) : Bool := decide (validT t = 0) && choiceB t pick && freeB t pick

theorem optOf_of_choice {t : List WishD} : ∀ {p : List Int}, choiceB t p = true → ∀ j, j < t.length → (optOf t p j).isSome := by
 induction t with
 | nil => intro p _ j hj; simp at hj
 | cons x t ih =>
  intro p h j hj
  cases p with
  | nil => simp [choiceB] at h
  | cons k p =>
   simp only [choiceB, Bool.and_eq_true] at h
   cases j with
   | zero =>
    obtain ⟨n, rfl, hn⟩ := idxB_nat h.1
    simp [optOf, hn]
   | succ j =>
    have := ih h.2 j (by simpa using hj)
    simpa [optOf] using this

theorem freeB_hit {t : List WishD} {pick : List Int} {d : Nat} (hd : d < pick.length) (h : 0 ≤ earlierI t pick d) : freeB t pick = false := by
 unfold freeB
 rw [List.all_eq_false]
 exact ⟨d, by simp [hd], by simpa using h⟩
def FreeTo (t : List WishD) (pick : List Int) (i : Nat) : Prop := ∀ d, d < i → ¬ 0 ≤ earlierI t pick d
theorem freeB_all {t : List WishD} {pick : List Int} (h : FreeTo t pick pick.length) : freeB t pick = true := by
 unfold freeB
 rw [List.all_eq_true]
 intro d hd
 have := h d (by simpa using hd)
 simpa using this

/-! ### Harm -/
def sumH : List WishD → List Int → Int
 | x :: t, k :: p => ((x.opts[k.toNat]?).getD default).harm + sumH t p
 | _, _ => 0
theorem sumH_step {t : List WishD} {p : List Int} {i : Nat} {x : WishD} {k : Int} (d : t.drop i = x :: t.drop (i + 1)) (d' : p.drop i = k :: p.drop (i + 1)) :
  sumH (t.drop i) (p.drop i) = ((x.opts[k.toNat]?).getD default).harm + sumH (t.drop (i + 1)) (p.drop (i + 1)) := by rw [d, d']; rfl
theorem optOk_harm {o : OptD} (h : optOkB o = true) : 0 ≤ o.harm ∧ o.harm ≤ 1000000 := by
 simp only [optOkB, Bool.and_eq_true, decide_eq_true_eq] at h
 exact ⟨h.1.1.1.1, h.1.1.1.2⟩
theorem wishOk_opt {x : WishD} (h : wishOkB x = true) {o : OptD} (ho : o ∈ x.opts) : optOkB o = true := by
 simp only [wishOkB, Bool.and_eq_true, List.all_eq_true] at h
 exact h.2 o ho
theorem tooLarge_len {t : List WishD} (h : tooLargeB t = false) : t.length ≤ 512 := by
 simp only [tooLargeB, Bool.or_eq_false_iff, decide_eq_false_iff_not] at h
 omega
def harmT (t : List WishD) (pick : List Int) : Int × Int := if validT t = 0 then (if choiceB t pick then (sumH t pick, 0) else (0, 1)) else (0, validT t)


end Go.Proofs.YtjglidlmpjmjeaaGreatDoor

/- Words for memory that is written: 'Keep X' (all blocks outside X are as they were), blocks that are known whole, appends. The lemmas on Reads, Blk and append are the ones that the guide's page of words gives to be copied. -/
namespace Go.Proofs.YtjglidlmpjmjeaaGreatDoor
open Go.RowKit

theorem block_of_add (a : Addr) (n : Nat) : (a.add n).block = a.block := by unfold Addr.add; split <;> rfl
theorem add_of_add (a : Addr) (i j : Nat) : (a.add i).add j = a.add (i + j) := by
 unfold Addr.add
 by_cases hi : i = 0 <;> by_cases hj : j = 0 <;> simp [hi, hj, Nat.add_assoc]

def Reads (w : World) (B size : Nat) (A : Option Addr) (n : Nat) (xs : List Value) : Prop :=
 xs.length = n * size ∧ (0 < n → ∃ ad, A = some ad ∧ ad.block < B ∧ ∀ j u, xs[j]? = some u → w.cell? (ad.add j) = some u)

section
variable {w w' : World} {B B' size n : Nat} {A : Option Addr} {xs : List Value}
theorem Reads.none_ : Reads w B size A 0 [] := ⟨by simp, fun h => absurd h (by omega)⟩
theorem Reads.at_ {k : Nat} (h : Reads w B 1 A n xs) (hk : k < n) : ∃ ad u, A = some ad ∧ ad.block < B ∧ xs[k]? = some u ∧ w.cell? (ad.add k) = some u := by
 obtain ⟨ad, e, hb, hc⟩ := h.2 (by omega)
 have hl : k < xs.length := by have := h.1; omega
 exact ⟨ad, xs[k], e, hb, List.getElem?_eq_getElem hl, hc k _ (List.getElem?_eq_getElem hl)⟩
theorem Reads.keep (h : Reads w B size A n xs) (hk : ∀ p : Addr, p.block < B → w'.cell? p = w.cell? p) : Reads w' B size A n xs :=
 ⟨h.1, fun hn => by
  obtain ⟨ad, e, hb, hc⟩ := h.2 hn
  exact ⟨ad, e, hb, fun j u hu => (hk _ (by rw [block_of_add]; exact hb)).trans (hc j u hu)⟩⟩
theorem Reads.more (h : Reads w B size A n xs) (hB : B ≤ B') : Reads w B' size A n xs :=
 ⟨h.1, fun hn => by
  obtain ⟨ad, e, hb, hc⟩ := h.2 hn
  exact ⟨ad, e, by omega, hc⟩⟩
theorem Reads.below (h : Reads w B size A n xs) (hb : Below B w w') : Reads w' B size A n xs := h.keep fun _ hp => hb.cell hp
theorem Reads.drew (h : Reads w B size A n xs) : Reads w.drew B size A n xs := h
theorem Reads.drewN (h : Reads w B size A n xs) (k : Nat) : Reads (w.drewN k) B size A n xs := h
theorem Reads.alloc (h : Reads w B size A n xs) (hB : B ≤ w.heap.size) (o : Obj) : Reads (w.alloc o) B size A n xs := h.keep fun p hp => World.cell?_alloc_lt w o p (by omega)
theorem Reads.setCell (h : Reads w B size A n xs) {p : Addr} (hB : B ≤ p.block) (u : Value) : Reads (w.setCell p u) B size A n xs :=
 h.keep fun q hq => World.cell?_setCell_other w p q u (fun e => by subst e; omega)
theorem Reads.grown (h : Reads w B size A n xs) {row : Option Nat} (hg : w.grownBy w' row) (hB : B ≤ w.heap.size) (hr : ∀ g, row = some g → B ≤ g) : Reads w' B size A n xs :=
 h.keep fun p hp => World.cell?_of_block (hg.block p.block (by omega) (fun e => by have := hr _ e.symm; omega))
theorem Reads.cut (h : Reads w B size A n xs) {k cap : Nat} (hk : k ≤ n) (hc : n ≤ cap) :
  Reads w B size (if cap = k then A else A.map (·.add (k * size))) (n - k) (xs.drop (k * size)) := by
 refine ⟨by rw [List.length_drop, h.1, Nat.sub_mul], fun hn => ?_⟩
 obtain ⟨ad, rfl, hb, hcell⟩ := h.2 (by omega)
 rw [if_neg (by omega)]
 refine ⟨ad.add (k * size), rfl, by rw [block_of_add]; exact hb, fun j u hu => ?_⟩
 rw [add_of_add]
 exact hcell _ u (by rw [← hu, List.getElem?_drop])
theorem Reads.of_own {base : Nat} {e : TypeId} {c : Nat} (h : w.ownsRow base e size (.slice A n c) n xs) : Reads w w.heap.size size A n xs := by
 refine ⟨h.1, fun hn => ?_⟩
 obtain ⟨g, cap, hv, _, hlt⟩ := h.form hn
 have hA : A = some ⟨g, 0, none⟩ := by injection hv
 subst hA
 exact ⟨_, rfl, hlt, h.cells (g := g) rfl⟩
end

def Blk (w : World) (g : Nat) (t : TypeId) (cs : Array Value) : Prop := w.heap[g]? = some (.cells cs t (0, 0))

section
variable {w w' : World} {g : Nat} {t : TypeId} {cs : Array Value}
theorem Blk.lt (h : Blk w g t cs) : g < w.heap.size := by
 rcases Nat.lt_or_ge g w.heap.size with hlt | hge
 ·exact hlt
 ·unfold Blk at h; rw [Array.getElem?_eq_none hge] at h; cases h
theorem Blk.cell (h : Blk w g t cs) (i : Nat) : w.cell? ⟨g, i, none⟩ = cs[i]? := cell_of_row w g i cs t (0, 0) h
theorem Blk.frozen (h : Blk w g t cs) (i : Nat) : w.frozen? ⟨g, i, none⟩ = false := by
 unfold Blk at h
 simp [World.frozen?, h]
theorem Blk.new (w : World) (t : TypeId) (cs : Array Value) : Blk (w.alloc (.cells cs t)) w.heap.size t cs := heap_alloc_new w _
theorem Blk.drew (h : Blk w g t cs) : Blk w.drew g t cs := h
theorem Blk.drewN (h : Blk w g t cs) (n : Nat) : Blk (w.drewN n) g t cs := h
theorem Blk.alloc (h : Blk w g t cs) (o : Obj) : Blk (w.alloc o) g t cs := (Below.heap_alloc w o g h.lt).trans h
theorem Blk.set_ (h : Blk w g t cs) (i : Nat) (u : Value) : Blk (w.setCell ⟨g, i, none⟩ u) g t (cs.setIfInBounds i u) := by
 unfold Blk at h ⊢
 simp [World.setCell, Array.getElem?_modify, h]
theorem Blk.far (h : Blk w g t cs) {p : Addr} (hp : g ≠ p.block) (u : Value) : Blk (w.setCell p u) g t cs := (Below.heap_setCell w p u g hp).trans h
theorem Blk.below {B : Nat} (h : Blk w g t cs) (hb : Below B w w') (hg : g < B) : Blk w' g t cs := (hb.block g hg).trans h
theorem Blk.grown {row : Option Nat} (h : Blk w g t cs) (hb : w.grownBy w' row) (hg : some g ≠ row) : Blk w' g t cs := (hb.block g h.lt hg).trans h
theorem Blk.ne_ {g' : Nat} {t' : TypeId} {cs' : Array Value} (h : Blk w g t cs) (h' : Blk w g' t' cs') (hne : t ≠ t') : g ≠ g' := by
 rintro rfl
 unfold Blk at h h'
 rw [h] at h'
 injection h' with h'
 injection h' with _ ht
 exact hne ht
theorem own_blk_ne {base : Nat} {e : TypeId} {size n : Nat} {v : Value} {xs : List Value} (h : w.ownsRow base e size v n xs) (hg : Blk w g t cs) (hne : e ≠ t) : v.ownBlock ≠ some g := by
 rcases h.2 with ⟨rfl, _⟩ | ⟨g', cap, cur, rfl, _, hh, _⟩
 ·simp [Value.ownBlock]
 ·intro he
  have : g' = g := by simpa [Value.ownBlock] using he
  subst this
  exact Blk.ne_ (t := e) hh hg hne rfl
end

section
variable {P : Program} (w : World)

theorem run_append_of_nil (base : Nat) (t ty e : TypeId) (i : TypeInfo) (size : Nat) (ht : P.underlying t = some (.slice e)) (hi : P.info? e = some i)
  (v : Value) (n : Nat) (xs : List Value) (hown : w.ownsRow base e size v n xs) (c : Nat) : (Builtin.append_ #[t, t] ty #[v, .slice none 0 c]).run P w = .ok v w := by
 rcases hown.2 with ⟨rfl, rfl⟩ | ⟨g, cap, cur, rfl, _, _, hnc, _⟩
 ·simp [Builtin.append_, run_underlying ht, sizeOf, typeInfo, hi, Builtin.lenOf, Builtin.firstCells]
 ·simp [Builtin.append_, run_underlying ht, sizeOf, typeInfo, hi, Builtin.lenOf, Builtin.firstCells, hnc, storeCells]

theorem run_append_any (base : Nat) (t ty e : TypeId) (i : TypeInfo) (z : Value) (size bytes : Nat) (ht : P.underlying t = some (.slice e)) (hi : P.info? e = some i) (hz : i.zero = some z)
  (hsize : i.size = size) (hby : i.bytes = bytes) (hzs : z.cells.size = size) (hsz : 0 < size)
  (v : Value) (n : Nat) (xs : List Value) (hown : w.ownsRow base e size v n xs)
  (B : Nat) (A : Option Addr) (m c : Nat) (news : List Value) (hr : Reads w B size A m news) (h1 : ∀ u ∈ news, u.oneCell' = true)
  (h63 : n + m ≤ maxLen) (hbytes : (n + m) * bytes ≤ 140737488355328) (hbase : base ≤ w.heap.size) :
  ∃ v' w', (Builtin.append_ #[t, t] ty #[v, .slice A m c]).run P w = .ok v' w' ∧ w'.ownsRow base e size v' (n + m) (xs ++ news) ∧ w.grownBy w' v.ownBlock ∧
   (v'.ownBlock = v.ownBlock ∨ v'.ownBlock = some w.heap.size) := by
 rcases A with _ | ad
 ·have hm : m = 0 := by
   rcases Nat.eq_zero_or_pos m with h0 | h0
   ·exact h0
   ·obtain ⟨ad, h, _⟩ := hr.2 h0
    cases h
  subst hm
  have hn : news = [] := List.eq_nil_of_length_eq_zero (by simpa using hr.1)
  subst hn
  exact ⟨v, w, run_append_of_nil w base t ty e i size ht hi v n xs hown c, by simpa using hown, World.grownBy.refl w _, .inl rfl⟩
 ·have hcells : ∀ j u, news[j]? = some u → w.cell? (ad.add j) = some u := by
   intro j u hu
   rcases Nat.eq_zero_or_pos m with h0 | h0
   ·subst h0
    have hn : news = [] := List.eq_nil_of_length_eq_zero (by simpa using hr.1)
    subst hn
    simp at hu
   ·obtain ⟨ad', h, _, hc⟩ := hr.2 h0
    injection h with h
    subst h
    exact hc j u hu
  obtain ⟨v', w', hrun, h2, h3, _, h5⟩ := run_append_own_at (P := P) w base t ty e i z size bytes ht hi hz hsize hby hzs hsz v n xs hown ad m c news hr.1 hcells h1 h63 hbytes hbase
  exact ⟨v', w', hrun, h2, h3, h5⟩

theorem wp_append_any {o : Oper} {a : Act} {K : Act → World → Prop} {Q : Exit → Act → World → Prop} (s x : Operand) (t : TypeId)
  (ho : o.op = .call { callee := .builtin .append, args := #[s, x], argTypes := #[t, t] })
  (base : Nat) (e : TypeId) (i : TypeInfo) (z : Value) (size bytes : Nat) (ht : P.underlying t = some (.slice e)) (hi : P.info? e = some i) (hz : i.zero = some z)
  (hsize : i.size = size) (hby : i.bytes = bytes) (hzs : z.cells.size = size) (hsz : 0 < size)
  (v : Value) (n : Nat) (xs : List Value) (hs : a.eval s = v) (hown : w.ownsRow base e size v n xs)
  (B : Nat) (A : Option Addr) (m c : Nat) (news : List Value) (hx : a.eval x = .slice A m c) (hr : Reads w B size A m news) (h1 : ∀ u ∈ news, u.oneCell' = true)
  (h63 : n + m ≤ maxLen) (hbytes : (n + m) * bytes ≤ 140737488355328) (hbase : base ≤ w.heap.size)
  (h : ∀ v' w', w'.ownsRow base e size v' (n + m) (xs ++ news) → w.grownBy w' v.ownBlock → (v'.ownBlock = v.ownBlock ∨ v'.ownBlock = some w.heap.size) → K (a.put o.dst v') w') : o.wp P a w K Q := by
 obtain ⟨v', w', hrun, h2, h3, h4⟩ := run_append_any (P := P) w base t o.type e i z size bytes ht hi hz hsize hby hzs hsz v n xs hown B A m c news hr h1 h63 hbytes hbase
 unfold Oper.wp execOp
 simp only [ho, resolve, invoke, builtin, Sem.run_bind, Sem.run_pure, Result.andThen_ok, List.map_toArray, List.map_cons, List.map_nil, hs, hx, hrun]
 exact h v' w' h2 h3 h4

theorem wpList_append_any {ops : Array Oper} {rest : List Oper} {o : Oper} {a : Act} {Q : Exit → Act → World → Prop} (hgd : o.guard = none) (s x : Operand) (t : TypeId)
  (ho : o.op = .call { callee := .builtin .append, args := #[s, x], argTypes := #[t, t] })
  (base : Nat) (e : TypeId) (i : TypeInfo) (z : Value) (size bytes : Nat) (ht : P.underlying t = some (.slice e)) (hi : P.info? e = some i) (hz : i.zero = some z)
  (hsize : i.size = size) (hby : i.bytes = bytes) (hzs : z.cells.size = size) (hsz : 0 < size)
  (v : Value) (n : Nat) (xs : List Value) (hs : a.eval s = v) (hown : w.ownsRow base e size v n xs)
  (B : Nat) (A : Option Addr) (m c : Nat) (news : List Value) (hx : a.eval x = .slice A m c) (hr : Reads w B size A m news) (h1 : ∀ u ∈ news, u.oneCell' = true)
  (h63 : n + m ≤ maxLen) (hbytes : (n + m) * bytes ≤ 140737488355328) (hbase : base ≤ w.heap.size)
  (h : ∀ v' w', w'.ownsRow base e size v' (n + m) (xs ++ news) → w.grownBy w' v.ownBlock → (v'.ownBlock = v.ownBlock ∨ v'.ownBlock = some w.heap.size) → wpList P ops Q rest (a.put o.dst v') w') : wpList P ops Q (o :: rest) a w :=
 wpList_plain hgd fun _ hK => wp_append_any w s x t ho base e i z size bytes ht hi hz hsize hby hzs hsz v n xs hs hown B A m c news hx hr h1 h63 hbytes hbase fun v' w' h2 h3 h4 => hK _ _ (h v' w' h2 h3 h4)

theorem step_append_any {ops : Array Oper} {o : Oper} {a : Act} {K : Act → World → Prop} {Q : Exit → Act → World → Prop} {E : Prop} (hgd : o.guard = none) (s x : Operand) (t : TypeId)
  (ho : o.op = .call { callee := .builtin .append, args := #[s, x], argTypes := #[t, t] })
  (base : Nat) (e : TypeId) (i : TypeInfo) (z : Value) (size bytes : Nat) (ht : P.underlying t = some (.slice e)) (hi : P.info? e = some i) (hz : i.zero = some z)
  (hsize : i.size = size) (hby : i.bytes = bytes) (hzs : z.cells.size = size) (hsz : 0 < size)
  (v : Value) (n : Nat) (xs : List Value) (hs : a.eval s = v) (hown : w.ownsRow base e size v n xs)
  (B : Nat) (A : Option Addr) (m c : Nat) (news : List Value) (hx : a.eval x = .slice A m c) (hr : Reads w B size A m news) (h1 : ∀ u ∈ news, u.oneCell' = true)
  (h63 : n + m ≤ maxLen) (hbytes : (n + m) * bytes ≤ 140737488355328) (hbase : base ≤ w.heap.size)
  (h : ∀ v' w', w'.ownsRow base e size v' (n + m) (xs ++ news) → w.grownBy w' v.ownBlock → (v'.ownBlock = v.ownBlock ∨ v'.ownBlock = some w.heap.size) → K (a.put o.dst v') w') :
  if Region.wanted o (yielded ops a.tmps) = true then Oper.wp P o a w K Q else E := by
 have hw : Region.wanted o (yielded ops a.tmps) = true := by simp [Region.wanted, hgd]
 rw [if_pos hw]
 exact wp_append_any w s x t ho base e i z size bytes ht hi hz hsize hby hzs hsz v n xs hs hown B A m c news hx hr h1 h63 hbytes hbase h
end

/-! ### Keep -/
structure Keep (X : Nat → Prop) (w w' : World) : Prop where
 os : w'.os = w.os
 tape : w'.tape = w.tape
 output : w'.output = w.output
 size : w.heap.size ≤ w'.heap.size
 block : ∀ k, k < w.heap.size → ¬ X k → w'.heap[k]? = w.heap[k]?
section
variable {X Y : Nat → Prop} {a b c w w' : World}
theorem Keep.refl (X : Nat → Prop) (w : World) : Keep X w w := ⟨rfl, rfl, rfl, Nat.le_refl _, fun _ _ _ => rfl⟩
theorem Keep.trans (h : Keep X a b) (k : Keep X b c) : Keep X a c :=
 ⟨k.os.trans h.os, k.tape.trans h.tape, k.output.trans h.output, Nat.le_trans h.size k.size, fun i hi hx => (k.block i (Nat.lt_of_lt_of_le hi h.size) hx).trans (h.block i hi hx)⟩
theorem Keep.trans' (h : Keep X a b) (k : Keep Y b c) (hY : ∀ i, i < a.heap.size → Y i → X i) : Keep X a c :=
 ⟨k.os.trans h.os, k.tape.trans h.tape, k.output.trans h.output, Nat.le_trans h.size k.size, fun i hi hx => (k.block i (Nat.lt_of_lt_of_le hi h.size) (fun hy => hx (hY i hi hy))).trans (h.block i hi hx)⟩
theorem Keep.mono (h : Keep X a b) (hXY : ∀ i, i < a.heap.size → X i → Y i) : Keep Y a b := ⟨h.os, h.tape, h.output, h.size, fun i hi hy => h.block i hi (fun hx => hy (hXY i hi hx))⟩
theorem Keep.of_ext (h : Ext a b) : Keep X a b := by
 have h' : Below a.heap.size a b := h
 exact ⟨h'.os, h'.tape, h'.output, h'.size, fun i hi _ => h'.block i hi⟩
theorem Keep.ext (h : Keep X a b) (hX : ∀ i, i < a.heap.size → ¬ X i) : Ext a b := show Below a.heap.size a b from ⟨h.os, h.tape, h.output, h.size, fun i hi => h.block i hi (hX i hi)⟩
theorem Keep.alloc (h : Keep X a w) (o : Obj) : Keep X a (w.alloc o) := h.trans (Keep.of_ext ((Ext.refl w).alloc o))
theorem Keep.drew (h : Keep X a w) : Keep X a w.drew := ⟨h.os, h.tape, h.output, h.size, h.block⟩
theorem Keep.drewN (h : Keep X a w) (n : Nat) : Keep X a (w.drewN n) := ⟨h.os, h.tape, h.output, h.size, h.block⟩
theorem Keep.setCell (h : Keep X a w) {p : Addr} (hp : X p.block ∨ a.heap.size ≤ p.block) (u : Value) : Keep X a (w.setCell p u) :=
 ⟨h.os, h.tape, h.output, by simpa [World.setCell] using h.size, fun i hi hx => (Below.heap_setCell w p u i (by
  rintro rfl
  rcases hp with hp | hp
  ·exact hx hp
  ·omega)).trans (h.block i hi hx)⟩
theorem Keep.grown {row : Option Nat} (h : Keep X a w) (hg : w.grownBy w' row) (hr : ∀ g, row = some g → X g ∨ a.heap.size ≤ g) : Keep X a w' :=
 ⟨hg.os.trans h.os, hg.tape.trans h.tape, hg.output.trans h.output, Nat.le_trans h.size hg.size, fun i hi hx => (hg.block i (Nat.lt_of_lt_of_le hi h.size) (fun e => by
  rcases hr i e.symm with h1 | h1
  ·exact hx h1
  ·omega)).trans (h.block i hi hx)⟩
theorem Keep.blk {g : Nat} {t : TypeId} {cs : Array Value} (h : Keep X a b) (hb : Blk a g t cs) (hX : ¬ X g) : Blk b g t cs := (h.block g hb.lt hX).trans hb
theorem Keep.owns {base : Nat} {e : TypeId} {size n : Nat} {v : Value} {xs : List Value} (h : Keep X a b) (ho : a.ownsRow base e size v n xs) (hX : ∀ g, v.ownBlock = some g → ¬ X g) : b.ownsRow base e size v n xs := by
 refine ⟨ho.1, ?_⟩
 rcases ho.2 with h1 | ⟨g, cap, cur, rfl, hb, hg, rest⟩
 ·exact Or.inl h1
 ·exact Or.inr ⟨g, cap, cur, rfl, hb, (h.block g (Array.getElem?_eq_some_iff.1 hg).1 (hX g rfl)).trans hg, rest⟩
theorem Keep.cell (h : Keep X a b) {p : Addr} {v : Value} (hp : a.cell? p = some v) (hX : ¬ X p.block) : b.cell? p = some v :=
 (World.cell?_of_block (w := a) (h.block p.block (World.block_lt_of_cell? _ _ hp) hX)).trans hp
end

end Go.Proofs.YtjglidlmpjmjeaaGreatDoor

/- Walks of package plan: add; slices.Clone at integers. -/
namespace Go.Proofs.YtjglidlmpjmjeaaGreatDoor
open Go.RowKit

theorem node_info : (Tryz.prog.info? 48).map (fun i => (i.zero, i.size, i.bytes)) = some (some (.agg #[.int .i64 0, .slice none 0 0, .int .i64 0, .int .i64 0]), 4, 48) := by kernel_rfl

theorem owns_form {w : World} {base : Nat} {e : TypeId} {size n : Nat} {v : Value} {xs : List Value} (h : w.ownsRow base e size v n xs) : ∃ A c, v = .slice A n c := by
 rcases h.2 with ⟨rfl, rfl⟩ | ⟨g, cap, cur, rfl, _⟩
 ·exact ⟨_, _, rfl⟩
 ·exact ⟨_, _, rfl⟩
theorem reads_last (w : World) (cs : Array Value) (t : TypeId) (size m g B : Nat) (hg : g = w.heap.size) (hB : g < B) (hs : cs.size = m * size) : Reads (w.alloc (.cells cs t)) B size (some ⟨g, 0, none⟩) m cs.toList := by
 subst hg
 refine ⟨by simpa using hs, fun _ => ⟨_, rfl, hB, fun j u hu => ?_⟩⟩
 have : (⟨w.heap.size, 0, none⟩ : Addr).add j = ⟨w.heap.size, j, none⟩ := by unfold Addr.add; split <;> simp_all
 rw [this, World.cell?_alloc_new]
 simpa using hu

theorem int_info : (Tryz.prog.info? 3).map (fun i => (i.zero, i.size, i.bytes)) = some (some (.int .i64 0), 1, 8) := by kernel_rfl
theorem Ints.reads {w : World} {a : Option Addr} {c : Nat} {l : List Int} (h : Ints w (.slice a l.length c) l) : Reads w w.heap.size 1 a l.length (l.map (Value.int .i64)) := by
 refine ⟨by simp, fun h0 => ?_⟩
 obtain ⟨_, _, e, _, _, h⟩ := h
 cases e
 obtain ⟨b, off, rfl, hb, hc⟩ := h h0
 refine ⟨_, rfl, hb, fun j u hu => ?_⟩
 have hj : j < l.length := by simpa using (List.getElem?_eq_some_iff.1 hu).1
 have := hc j hj 0 (by omega)
 have e : (⟨b, off, none⟩ : Addr).add j = ⟨b, off + j * 1 + 0, none⟩ := by unfold Addr.add; split <;> simp_all
 rw [e, this]
 simp [hj] at hu ⊢
 exact hu
theorem ints_of_owns {w : World} {base : Nat} {v : Value} {l : List Int} (h : w.ownsRow base 3 1 v l.length (l.map (Value.int .i64))) : Ints w v l := by
 rcases h.2 with ⟨rfl, h0⟩ | ⟨g, cap, cur, rfl, hb, hg, hn, hcap, hcs, htake⟩
 ·exact ⟨none, 0, by rw [h0], by omega, by unfold maxLen; omega, fun hp => by omega⟩
 ·refine ⟨_, _, rfl, hn, hcap, fun hp => ⟨g, 0, rfl, (Array.getElem?_eq_some_iff.1 hg).1, fun i hi j hj => ?_⟩⟩
  obtain rfl : j = 0 := by omega
  have := h.cells (g := g) rfl i (.int .i64 (l[i]?.getD 0)) (by simp [hi])
  have e : (⟨g, 0, none⟩ : Addr).add i = ⟨g, 0 + i * 1 + 0, none⟩ := by unfold Addr.add; split <;> simp_all
  rw [← e]; exact this
set_option maxHeartbeats 800000 in
set_option maxRecDepth 100000 in
theorem clone_int_calls (va : Value) (l : List Int) (w : World) (h : Ints w va l) (hl : l.length * 8 ≤ 140737488355328) :
  Calls Tryz.prog 63 #[va] w fun e w' => ∃ v, e = .returned v ∧ w'.ownsRow w.heap.size 3 1 v l.length (l.map (Value.int .i64)) ∧ Ext w w' := by
 obtain ⟨i0, hi0, hz0, hz1, hz2⟩ := info_parts int_info
 obtain ⟨a, c, rfl, _, _, hat⟩ := h.open
 have hr := h.reads
 have hr' := Lib.hid hr
 have hlen := h.len
 clear hr h
 cases a with
 | none =>
  obtain rfl : l = [] := by
   cases l with
   | nil => rfl
   | cons x r => obtain ⟨b, off, y, e, _⟩ := hat 0 (by simp) w (Ext.refl _); cases e
  have heq := fun (W : World) => Lib.run_eql_slice_nil (P := Tryz.prog) W 23 3 none 0 c 0 0 Tryz.underlying23
  go_enter Tryz.func63, Tryz.ntmps63
  go_wp2
  go_ret
  exact ⟨_, rfl, World.ownsRow_nil _ _ _ _, Ext.refl _⟩
 | some ad =>
  have heq := fun (W : World) => Lib.run_eql_slice_nil (P := Tryz.prog) W 23 3 (some ad) l.length c 0 0 Tryz.underlying23
  have h1 : Hid (∀ u ∈ l.map (Value.int .i64), u.oneCell' = true) := by intro u hu; simp at hu; obtain ⟨x, _, rfl⟩ := hu; rfl
  have h63 : 0 + l.length ≤ maxLen := by unfold maxLen; omega
  have hby : (0 + l.length) * 8 ≤ 140737488355328 := by omega
  clear hat
  go_enter Tryz.func63, Tryz.ntmps63
  go_wp2_with (at_builtin; refine wpList_append_any _ rfl (.tmp 5) (.tmp 6) _ rfl w.heap.size 3 i0 _ 1 8 Tryz.underlying23 hi0 hz0 hz1 hz2 rfl (by decide) (.slice (some ⟨w.heap.size, 0, none⟩) 0 0) 0 [] rfl (World.ownsRow_made w #[] 0 (Nat.le_refl _) (by unfold maxLen; omega) rfl) w.heap.size (some ad) l.length c (l.map (Value.int .i64)) rfl (hr'.out.alloc (Nat.le_refl _) _) h1.out h63 hby (by simp) ?_; intro v1 w1 hown1 hg1 hat1)
  go_ret
  refine ⟨v1, rfl, by simpa using hown1, ?_⟩
  have hx : Ext w w1 := ((Ext.refl w).alloc _).grown hg1 (fun k hk => by simp [Value.ownBlock] at hk; omega)
  exact hx

end Go.Proofs.YtjglidlmpjmjeaaGreatDoor
