/- Merged parts: PlanTree, Srch, GrowA, GrowB. -/
import Derived.Test.YtjglidlmpjmjeaaGreatDoorPD
/- The standard tree as a plain function: its nodes in preorder, its open leaves, the estimates that reached the bound. -/
namespace Go.Proofs.YtjglidlmpjmjeaaGreatDoor
open Go.RowKit

structure Res where
 nodes : List NodeD
 opens : List (List Int × Int)
 ests : List Int
structure KRes where
 nodes : List NodeD
 kids : List Int
 opens : List (List Int × Int)
 ests : List Int
def kidsG (f : Int → OptD → Nat → Res) : List OptD → Int → Nat → KRes
 | [], _, _ => ⟨[], [], [], []⟩
 | o :: r, i, N => ⟨(f i o N).nodes ++ (kidsG f r (i + 1) (N + (f i o N).nodes.length)).nodes, (N : Int) :: (kidsG f r (i + 1) (N + (f i o N).nodes.length)).kids,
   (f i o N).opens ++ (kidsG f r (i + 1) (N + (f i o N).nodes.length)).opens, (f i o N).ests ++ (kidsG f r (i + 1) (N + (f i o N).nodes.length)).ests⟩
def leafN : NodeD := ⟨-1, [], -1, 0⟩
def lastClash (t : List WishD) (pre : List Int) : Int := if pre.length = 0 then -1 else earlierI t pre (pre.length - 1)
def leastSum : List WishD → Int
 | [] => 0
 | x :: r => leastSum r + leastB x
def growL (t : List WishD) (b : Int) : List WishD → List Int → Int → Nat → Res
 | [], pre, harm, _ =>
  if 0 ≤ lastClash t pre then ⟨[⟨-1, [], lastClash t pre, (pre.length : Int) - 1⟩], [], []⟩
  else if b ≤ harm then ⟨[leafN], [], [harm]⟩ else ⟨[leafN], [(pre, harm)], []⟩
 | x :: r, pre, harm, N =>
  if 0 ≤ lastClash t pre then ⟨[⟨-1, [], lastClash t pre, (pre.length : Int) - 1⟩], [], []⟩
  else if b ≤ harm + leastSum (x :: r) then ⟨[leafN], [], [harm + leastSum (x :: r)]⟩
  else
   ⟨⟨(pre.length : Int), (kidsG (fun i o N' => growL t b r (pre ++ [i]) (harm + o.harm) N') x.opts 0 (N + 1)).kids, 0, 0⟩ :: (kidsG (fun i o N' => growL t b r (pre ++ [i]) (harm + o.harm) N') x.opts 0 (N + 1)).nodes,
    (kidsG (fun i o N' => growL t b r (pre ++ [i]) (harm + o.harm) N') x.opts 0 (N + 1)).opens, (kidsG (fun i o N' => growL t b r (pre ++ [i]) (harm + o.harm) N') x.opts 0 (N + 1)).ests⟩
def treeMax : List WishD → Nat
 | [] => 1
 | x :: r => 1 + x.opts.length * treeMax r
def stepFound (f : Option (List Int × Int)) (x : List Int × Int) : Option (List Int × Int) :=
 match f with | none => some x | some y => if x.2 < y.2 then some x else some y
def foldFound (f : Option (List Int × Int)) (l : List (List Int × Int)) : Option (List Int × Int) := l.foldl stepFound f
def foldOver (o : Int) (l : List Int) : Int := l.foldl min o

theorem treeMax_pos (l : List WishD) : 0 < treeMax l := by cases l <;> simp [treeMax] <;> omega
theorem kidsG_len {f : Int → OptD → Nat → Res} {m : Nat} (hf : ∀ i o N, (f i o N).nodes.length ≤ m) : ∀ (l : List OptD) (i : Int) (N : Nat), (kidsG f l i N).nodes.length ≤ l.length * m
 | [], _, _ => by simp [kidsG]
 | o :: r, i, N => by
  simp only [kidsG, List.length_append, List.length_cons]
  have h1 := hf i o N
  have h2 := kidsG_len hf r (i + 1) (N + (f i o N).nodes.length)
  rw [Nat.add_mul]
  omega
theorem growL_len (t : List WishD) (b : Int) : ∀ (l : List WishD) (pre : List Int) (harm : Int) (N : Nat), (growL t b l pre harm N).nodes.length ≤ treeMax l
 | [], pre, harm, N => by simp only [growL, treeMax]; (repeat' split) <;> simp
 | x :: r, pre, harm, N => by
  simp only [growL, treeMax]
  have h := kidsG_len (f := fun i o N' => growL t b r (pre ++ [i]) (harm + o.harm) N') (m := treeMax r) (fun i o N => growL_len t b r _ _ _) x.opts 0 (N + 1)
  split
  ·simp
  ·split
   ·simp
   ·simp only [List.length_cons]; omega
theorem growL_pos (t : List WishD) (b : Int) (l : List WishD) (pre : List Int) (harm : Int) (N : Nat) : 0 < (growL t b l pre harm N).nodes.length := by
 cases l <;> simp only [growL] <;> (repeat' split) <;> simp
theorem kidsG_kids_len (f : Int → OptD → Nat → Res) : ∀ (l : List OptD) (i : Int) (N : Nat), (kidsG f l i N).kids.length = l.length
 | [], _, _ => rfl
 | o :: r, i, N => by simp only [kidsG, List.length_cons]; rw [kidsG_kids_len f r]
theorem kidsG_step (f : Int → OptD → Nat → Res) (l : List OptD) (k : Nat) (o : OptD) (h : l[k]? = some o) (i : Int) (N : Nat) :
  kidsG f (l.take (k + 1)) i N =
   ⟨(kidsG f (l.take k) i N).nodes ++ (f (i + k) o (N + (kidsG f (l.take k) i N).nodes.length)).nodes, (kidsG f (l.take k) i N).kids ++ [((N + (kidsG f (l.take k) i N).nodes.length : Nat) : Int)],
    (kidsG f (l.take k) i N).opens ++ (f (i + k) o (N + (kidsG f (l.take k) i N).nodes.length)).opens, (kidsG f (l.take k) i N).ests ++ (f (i + k) o (N + (kidsG f (l.take k) i N).nodes.length)).ests⟩ := by
 induction k generalizing l i N with
 | zero =>
  cases l with
  | nil => simp at h
  | cons x r => simp at h; subst h; simp [kidsG]
 | succ k ih =>
  cases l with
  | nil => simp at h
  | cons x r =>
   simp at h
   have e : ((k + 1 : Nat) : Int) = 1 + (k : Int) := by omega
   simp only [List.take_succ_cons, kidsG, ih r h, List.length_append, List.append_assoc, List.cons_append, e, Int.add_assoc, Nat.add_assoc]

theorem optOf_take {t : List WishD} {pick : List Int} {d j : Nat} (h : j < d) : optOf t (pick.take d) j = optOf t pick j := by simp [optOf, h]
theorem earlierI_take {t : List WishD} {pick : List Int} {d j : Nat} (h : j < d) : earlierI t (pick.take d) j = earlierI t pick j := by
 unfold earlierI findI
 have : ∀ l : List Nat, (∀ i ∈ l, i < d) → l.findIdx? (fun i => clashAt t (pick.take d) i j) = l.findIdx? (fun i => clashAt t pick i j) := by
  intro l
  induction l with
  | nil => intro _; rfl
  | cons a l ih =>
   intro hl
   have ha := hl a List.mem_cons_self
   simp only [List.findIdx?_cons]
   rw [ih fun i hi => hl i (List.mem_cons_of_mem _ hi), show clashAt t (pick.take d) a j = clashAt t pick a j by simp only [clashAt, optOf_take ha, optOf_take h]]
 rw [this _ (fun i hi => by have := List.mem_range.1 hi; omega)]

end Go.Proofs.YtjglidlmpjmjeaaGreatDoor

/- The memory of a search: the struct, its picks, its nodes; what each write makes of it. -/
namespace Go.Proofs.YtjglidlmpjmjeaaGreatDoor
open Go.RowKit

def KidsOk (w : World) (B : Nat) (Z : Nat → Prop) (kv : Value) (kids : List Int) : Prop :=
 w.ownsRow B 3 1 kv kids.length (kids.map (Value.int .i64)) ∧ ∀ g, kv.ownBlock = some g → ¬ Z g
def NodesC (w : World) (B : Nat) (Z : Nat → Prop) : List NodeD → List Value → Prop
 | [], xs => xs = []
 | n :: ns, xs => ∃ kv r, xs = .int .i64 n.wish :: kv :: .int .i64 n.clA :: .int .i64 n.clB :: r ∧ KidsOk w B Z kv n.kids ∧ NodesC w B Z ns r
def SX (S Pk : Nat) (nv : Value) : Nat → Prop := fun k => k = S ∨ k = Pk ∨ nv.ownBlock = some k

section
variable {w0 w w' : World} {S Pk Rb B : Nat} {tv nv fv kv : Value} {t : List WishD} {bound over : Int} {rest pick kids : List Int} {nodes : List NodeD} {found : Option (List Int × Int)} {X Z Z' : Nat → Prop} {xs : List Value}

theorem owns_block {e : TypeId} {size n : Nat} {v : Value} (h : w.ownsRow B e size v n xs) {g : Nat} (hg : v.ownBlock = some g) : ∃ cs, Blk w g e cs := by
 rcases h.2 with ⟨rfl, _⟩ | ⟨g', cap, cur, rfl, _, hh, _⟩
 ·simp [Value.ownBlock] at hg
 ·simp [Value.ownBlock] at hg; subst hg; exact ⟨cur, hh⟩
theorem blk_type {g : Nat} {e e' : TypeId} {cs cs' : Array Value} (h : Blk w g e cs) (h' : Blk w g e' cs') : e = e' := by
 unfold Blk at h h'; rw [h] at h'; injection h' with h'; injection h'
def IntFar (w : World) (Z X : Nat → Prop) : Prop := ∀ g, X g → Z g ∨ ∀ cs, ¬ Blk w g 3 cs
theorem KidsOk.keep (h : KidsOk w B Z kv kids) (k : Keep X w w') (hX : IntFar w Z X) : KidsOk w' B Z kv kids := by
 refine ⟨k.owns h.1 fun g hg hx => ?_, h.2⟩
 obtain ⟨cs, hcs⟩ := owns_block h.1 hg
 rcases hX g hx with h' | h'
 ·exact h.2 g hg h'
 ·exact h' cs hcs
theorem NodesC.keep (k : Keep X w w') (hX : IntFar w Z X) : ∀ {nodes : List NodeD} {xs : List Value}, NodesC w B Z nodes xs → NodesC w' B Z nodes xs
 | [], _, h => h
 | _ :: _, _, ⟨kv, r, e, h1, h2⟩ => ⟨kv, r, e, h1.keep k hX, NodesC.keep k hX h2⟩
theorem NodesC.snoc {n : NodeD} (hk : KidsOk w B Z kv n.kids) : ∀ {nodes : List NodeD} {xs : List Value}, NodesC w B Z nodes xs →
  NodesC w B Z (nodes ++ [n]) (xs ++ [.int .i64 n.wish, kv, .int .i64 n.clA, .int .i64 n.clB])
 | [], _, h => by cases h; exact ⟨kv, [], rfl, hk, rfl⟩
 | _ :: _, _, ⟨kv', r, e, h1, h2⟩ => ⟨kv', _, by rw [e]; rfl, h1, NodesC.snoc hk h2⟩
theorem NodesC.len : ∀ {nodes : List NodeD} {xs : List Value}, NodesC w B Z nodes xs → xs.length = nodes.length * 4
 | [], _, h => by cases h; rfl
 | _ :: _, _, ⟨kv', r, e, h1, h2⟩ => by rw [e]; have := NodesC.len h2; simp; omega
theorem NodesC.set_ (hk : KidsOk w B Z kv kids) : ∀ {nodes : List NodeD} {xs : List Value} (i : Nat) (n : NodeD), NodesC w B Z nodes xs → nodes[i]? = some n →
  NodesC w B Z (nodes.set i { n with kids := kids }) (xs.set (i * 4 + 1) kv)
 | [], _, i, n, _, hn => by simp at hn
 | m :: ns, _, 0, n, ⟨kv', r, e, h1, h2⟩, hn => by
  simp at hn; subst hn
  exact ⟨kv, r, by rw [e]; rfl, hk, h2⟩
 | m :: ns, _, i + 1, n, ⟨kv', r, e, h1, h2⟩, hn => by
  refine ⟨kv', r.set (i * 4 + 1) kv, ?_, h1, NodesC.set_ hk i n h2 (by simpa using hn)⟩
  rw [e, show (i + 1) * 4 + 1 = (i * 4 + 1) + 1 + 1 + 1 + 1 by omega]
  rfl
theorem no_x {P : Nat → Prop} : ∀ g, (fun _ : Nat => False) g → P g := fun _ h => h.elim
theorem Ext.keep {a b c : World} {X : Nat → Prop} (h : Ext a b) (k : Keep X b c) (hX : ∀ i, i < a.heap.size → ¬ X i) : Ext a c :=
 Keep.ext (X := X) ((Keep.of_ext h).trans k) hX
theorem keep_set (w : World) (g i : Nat) (u : Value) : Keep (fun k => k = g) w (w.setCell ⟨g, i, none⟩ u) := Keep.setCell (X := fun k => k = g) (Keep.refl _ _) (Or.inl rfl) _

/-! ### other reserved rows -/
theorem KidsOk.less (h : KidsOk w B Z kv kids) (hz : ∀ g, Z' g → Z g) : KidsOk w B Z' kv kids := ⟨h.1, fun g hg hz' => h.2 g hg (hz g hz')⟩
theorem NodesC.less (hz : ∀ g, Z' g → Z g) : ∀ {nodes : List NodeD} {xs : List Value}, NodesC w B Z nodes xs → NodesC w B Z' nodes xs
 | [], _, h => h
 | _ :: _, _, ⟨kv, r, e, h1, h2⟩ => ⟨kv, r, e, h1.less hz, NodesC.less hz h2⟩
theorem KidsOk.more (h : KidsOk w B Z kv kids) (hz : ∀ g, g < w.heap.size → Z' g → Z g) : KidsOk w B Z' kv kids := ⟨h.1, fun g hg hz' => h.2 g hg (hz g (h.1.lt g hg).2 hz')⟩
theorem NodesC.more (hz : ∀ g, g < w.heap.size → Z' g → Z g) : ∀ {nodes : List NodeD} {xs : List Value}, NodesC w B Z nodes xs → NodesC w B Z' nodes xs
 | [], _, h => h
 | _ :: _, _, ⟨kv, r, e, h1, h2⟩ => ⟨kv, r, e, h1.more hz, NodesC.more hz h2⟩
end

end Go.Proofs.YtjglidlmpjmjeaaGreatDoor

/- Walks of the search: grow, where the node is closed by a clash or by the bound. -/
namespace Go.Proofs.YtjglidlmpjmjeaaGreatDoor
open Go.RowKit

theorem keep_sx {w w' : World} {S Pk : Nat} {nv : Value} (k : Keep (fun k => k = S ∨ nv.ownBlock = some k) w w') : Keep (SX S Pk nv) w w' :=
 k.mono fun i _ h => by rcases h with h | h; exact Or.inl h; exact Or.inr (Or.inr h)

end Go.Proofs.YtjglidlmpjmjeaaGreatDoor

/- Walks of the search: grow, where the node is closed by the bound, and where it is an open leaf. -/
namespace Go.Proofs.YtjglidlmpjmjeaaGreatDoor
open Go.RowKit

theorem leastN_bd : ∀ (l : List OptD) (n : Int), (∀ o ∈ l, 0 ≤ o.harm) → 0 ≤ n → n ≤ 1000000 → 0 ≤ leastN l n ∧ leastN l n ≤ 1000000
 | [], n, _, h0, h1 => ⟨h0, h1⟩
 | o :: r, n, h, h0, h1 => by
  have ho := h o List.mem_cons_self
  have := leastN_bd r (min n o.harm) (fun x hx => h x (List.mem_cons_of_mem _ hx)) (by omega) (by omega)
  exact this
theorem leastSum_bd : ∀ (l : List WishD), (∀ x ∈ l, ∀ o ∈ x.opts, 0 ≤ o.harm) → 0 ≤ leastSum l ∧ leastSum l ≤ 1000000 * l.length
 | [], _ => by simp [leastSum]
 | x :: r, h => by
  have h1 := leastSum_bd r (fun y hy => h y (List.mem_cons_of_mem _ hy))
  have h2 := leastN_bd x.opts 1000000 (h x List.mem_cons_self) (by omega) (by omega)
  simp only [leastSum, leastB, List.length_cons]
  omega


end Go.Proofs.YtjglidlmpjmjeaaGreatDoor
