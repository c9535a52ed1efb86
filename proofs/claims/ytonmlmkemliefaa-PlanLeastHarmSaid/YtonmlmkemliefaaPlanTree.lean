/- The standard tree as a plain function: its nodes in preorder, its open leaves, the estimates that reached the bound. -/
import Derived.Test.YtonmlmkemliefaaPlanWalksH
namespace Go.Proofs.Ytonmlmkemliefaa
open Go.RowKit

structure Res where
  nodes : List NodeD
  opens : List (List Int × Int)
  ests : List Int
structure KRes where
  nodes : List NodeD
  kids : List Int
  opens : List (List Int × Int)
  ests : List Int
def kidsG (f : Int → OptD → Nat → Res) : List OptD → Int → Nat → KRes
  | [], _, _ => ⟨[], [], [], []⟩
  | o :: r, i, N => ⟨(f i o N).nodes ++ (kidsG f r (i + 1) (N + (f i o N).nodes.length)).nodes, (N : Int) :: (kidsG f r (i + 1) (N + (f i o N).nodes.length)).kids,
      (f i o N).opens ++ (kidsG f r (i + 1) (N + (f i o N).nodes.length)).opens, (f i o N).ests ++ (kidsG f r (i + 1) (N + (f i o N).nodes.length)).ests⟩
def leafN : NodeD := ⟨-1, [], -1, 0⟩
def lastClash (t : List WishD) (pre : List Int) : Int := if pre.length = 0 then -1 else earlierI t pre (pre.length - 1)
def leastSum : List WishD → Int
  | [] => 0
  | x :: r => leastSum r + leastB x
def growL (t : List WishD) (b : Int) : List WishD → List Int → Int → Nat → Res
  | [], pre, harm, _ =>
    if 0 ≤ lastClash t pre then ⟨[⟨-1, [], lastClash t pre, (pre.length : Int) - 1⟩], [], []⟩
    else if b ≤ harm then ⟨[leafN], [], [harm]⟩ else ⟨[leafN], [(pre, harm)], []⟩
  | x :: r, pre, harm, N =>
    if 0 ≤ lastClash t pre then ⟨[⟨-1, [], lastClash t pre, (pre.length : Int) - 1⟩], [], []⟩
    else if b ≤ harm + leastSum (x :: r) then ⟨[leafN], [], [harm + leastSum (x :: r)]⟩
    else
      ⟨⟨(pre.length : Int), (kidsG (fun i o N' => growL t b r (pre ++ [i]) (harm + o.harm) N') x.opts 0 (N + 1)).kids, 0, 0⟩ :: (kidsG (fun i o N' => growL t b r (pre ++ [i]) (harm + o.harm) N') x.opts 0 (N + 1)).nodes,
        (kidsG (fun i o N' => growL t b r (pre ++ [i]) (harm + o.harm) N') x.opts 0 (N + 1)).opens, (kidsG (fun i o N' => growL t b r (pre ++ [i]) (harm + o.harm) N') x.opts 0 (N + 1)).ests⟩
/-- as many nodes at most -/
def treeMax : List WishD → Nat
  | [] => 1
  | x :: r => 1 + x.opts.length * treeMax r
def stepFound (f : Option (List Int × Int)) (x : List Int × Int) : Option (List Int × Int) :=
  match f with | none => some x | some y => if x.2 < y.2 then some x else some y
def foldFound (f : Option (List Int × Int)) (l : List (List Int × Int)) : Option (List Int × Int) := l.foldl stepFound f
def foldOver (o : Int) (l : List Int) : Int := l.foldl min o

theorem treeMax_pos (l : List WishD) : 0 < treeMax l := by cases l <;> simp [treeMax] <;> omega
theorem kidsG_len {f : Int → OptD → Nat → Res} {m : Nat} (hf : ∀ i o N, (f i o N).nodes.length ≤ m) : ∀ (l : List OptD) (i : Int) (N : Nat), (kidsG f l i N).nodes.length ≤ l.length * m
  | [], _, _ => by simp [kidsG]
  | o :: r, i, N => by
    simp only [kidsG, List.length_append, List.length_cons]
    have h1 := hf i o N
    have h2 := kidsG_len hf r (i + 1) (N + (f i o N).nodes.length)
    rw [Nat.add_mul]
    omega
theorem growL_len (t : List WishD) (b : Int) : ∀ (l : List WishD) (pre : List Int) (harm : Int) (N : Nat), (growL t b l pre harm N).nodes.length ≤ treeMax l
  | [], pre, harm, N => by simp only [growL, treeMax]; (repeat' split) <;> simp
  | x :: r, pre, harm, N => by
    simp only [growL, treeMax]
    have h := kidsG_len (f := fun i o N' => growL t b r (pre ++ [i]) (harm + o.harm) N') (m := treeMax r) (fun i o N => growL_len t b r _ _ _) x.opts 0 (N + 1)
    split
    · simp
    · split
      · simp
      · simp only [List.length_cons]; omega
theorem growL_pos (t : List WishD) (b : Int) (l : List WishD) (pre : List Int) (harm : Int) (N : Nat) : 0 < (growL t b l pre harm N).nodes.length := by
  cases l <;> simp only [growL] <;> (repeat' split) <;> simp
theorem kidsG_kids_len (f : Int → OptD → Nat → Res) : ∀ (l : List OptD) (i : Int) (N : Nat), (kidsG f l i N).kids.length = l.length
  | [], _, _ => rfl
  | o :: r, i, N => by simp only [kidsG, List.length_cons]; rw [kidsG_kids_len f r]
/-- the first k children -/
theorem kidsG_step (f : Int → OptD → Nat → Res) (l : List OptD) (k : Nat) (o : OptD) (h : l[k]? = some o) (i : Int) (N : Nat) :
    kidsG f (l.take (k + 1)) i N =
      ⟨(kidsG f (l.take k) i N).nodes ++ (f (i + k) o (N + (kidsG f (l.take k) i N).nodes.length)).nodes, (kidsG f (l.take k) i N).kids ++ [((N + (kidsG f (l.take k) i N).nodes.length : Nat) : Int)],
        (kidsG f (l.take k) i N).opens ++ (f (i + k) o (N + (kidsG f (l.take k) i N).nodes.length)).opens, (kidsG f (l.take k) i N).ests ++ (f (i + k) o (N + (kidsG f (l.take k) i N).nodes.length)).ests⟩ := by
  induction k generalizing l i N with
  | zero =>
    cases l with
    | nil => simp at h
    | cons x r => simp at h; subst h; simp [kidsG]
  | succ k ih =>
    cases l with
    | nil => simp at h
    | cons x r =>
      simp at h
      have e : ((k + 1 : Nat) : Int) = 1 + (k : Int) := by omega
      simp only [List.take_succ_cons, kidsG, ih r h, List.length_append, List.append_assoc, List.cons_append, e, Int.add_assoc, Nat.add_assoc]

theorem optOf_take {t : List WishD} {pick : List Int} {d j : Nat} (h : j < d) : optOf t (pick.take d) j = optOf t pick j := by simp [optOf, h]
theorem earlierI_take {t : List WishD} {pick : List Int} {d j : Nat} (h : j < d) : earlierI t (pick.take d) j = earlierI t pick j := by
  unfold earlierI findI
  have : ∀ l : List Nat, (∀ i ∈ l, i < d) → l.findIdx? (fun i => clashAt t (pick.take d) i j) = l.findIdx? (fun i => clashAt t pick i j) := by
    intro l
    induction l with
    | nil => intro _; rfl
    | cons a l ih =>
      intro hl
      have ha := hl a List.mem_cons_self
      simp only [List.findIdx?_cons]
      rw [ih fun i hi => hl i (List.mem_cons_of_mem _ hi), show clashAt t (pick.take d) a j = clashAt t pick a j by simp only [clashAt, optOf_take ha, optOf_take h]]
  rw [this _ (fun i hi => by have := List.mem_range.1 hi; omega)]

end Go.Proofs.Ytonmlmkemliefaa
