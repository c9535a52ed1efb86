/- Merged parts: PlanTree, Srch, GrowA, GrowB. -/
import Derived.Test.YtepcdhpikpmepaaGreatPDQ
/- The standard tree as a plain function: its nodes in preorder, its open leaves, the estimates that reached the bound. -/
namespace Go.Proofs.YtepcdhpikpmepaaGreat
open Go.RowKit

structure Res where
 nodes : List NodeD
 opens : List (List Int × Int)
 ests : List Int
structure KRes where
 nodes : List NodeD
 kids : List Int
 opens : List (List Int × Int)
 ests : List Int
def kidsG (f : Int → OptD → Nat → Res) : List OptD → Int → Nat → KRes
 | [], _, _ => ⟨[], [], [], []⟩
 | o :: r, i, N => ⟨(f i o N).nodes ++ (kidsG f r (i + 1) (N + (f i o N).nodes.length)).nodes, (N : Int) :: (kidsG f r (i + 1) (N + (f i o N).nodes.length)).kids,
   (f i o N).opens ++ (kidsG f r (i + 1) (N + (f i o N).nodes.length)).opens, (f i o N).ests ++ (kidsG f r (i + 1) (N + (f i o N).nodes.length)).ests⟩
def leafN : NodeD := ⟨-1, [], -1, 0⟩
def lastClash (t : List WishD) (pre : List Int) : Int := if pre.length = 0 then -1 else earlierI t pre (pre.length - 1)
def leastSum : List WishD → Int
 | [] => 0
 | x :: r => leastSum r + leastB x
def growL (t : List WishD) (b : Int) : List WishD → List Int → Int → Nat → Res
 | [], pre, harm, _ =>
  if 0 ≤ lastClash t pre then ⟨[⟨-1, [], lastClash t pre, (pre.length : Int) - 1⟩], [], []⟩
  else if b ≤ harm then ⟨[leafN], [], [harm]⟩ else ⟨[leafN], [(pre, harm)], []⟩
 | x :: r, pre, harm, N =>
  if 0 ≤ lastClash t pre then ⟨[⟨-1, [], lastClash t pre, (pre.length : Int) - 1⟩], [], []⟩
  else if b ≤ harm + leastSum (x :: r) then ⟨[leafN], [], [harm + leastSum (x :: r)]⟩
  else
   ⟨⟨(pre.length : Int), (kidsG (fun i o N' => growL t b r (pre ++ [i]) (harm + o.harm) N') x.opts 0 (N + 1)).kids, 0, 0⟩ :: (kidsG (fun i o N' => growL t b r (pre ++ [i]) (harm + o.harm) N') x.opts 0 (N + 1)).nodes,
    (kidsG (fun i o N' => growL t b r (pre ++ [i]) (harm + o.harm) N') x.opts 0 (N + 1)).opens, (kidsG (fun i o N' => growL t b r (pre ++ [i]) (harm + o.harm) N') x.opts 0 (N + 1)).ests⟩
def treeMax : List WishD → Nat
 | [] => 1
 | x :: r => 1 + x.opts.length * treeMax r
def stepFound (f : Option (List Int × Int)) (x : List Int × Int) : Option (List Int × Int) :=
 match f with | none => some x | some y => if x.2 < y.2 then some x else some y
def foldFound (f : Option (List Int × Int)) (l : List (List Int × Int)) : Option (List Int × Int) := l.foldl stepFound f
def foldOver (o : Int) (l : List Int) : Int := l.foldl min o

theorem treeMax_pos (l : List WishD) : 0 < treeMax l := by cases l <;> simp [treeMax] <;> omega
theorem kidsG_len {f : Int → OptD → Nat → Res} {m : Nat} (hf : ∀ i o N, (f i o N).nodes.length ≤ m) : ∀ (l : List OptD) (i : Int) (N : Nat), (kidsG f l i N).nodes.length ≤ l.length * m
 | [], _, _ => by simp [kidsG]
 | o :: r, i, N => by
  simp only [kidsG, List.length_append, List.length_cons]
  have h1 := hf i o N
  have h2 := kidsG_len hf r (i + 1) (N + (f i o N).nodes.length)
  rw [Nat.add_mul]
  omega
theorem growL_len (t : List WishD) (b : Int) : ∀ (l : List WishD) (pre : List Int) (harm : Int) (N : Nat), (growL t b l pre harm N).nodes.length ≤ treeMax l
 | [], pre, harm, N => by simp only [growL, treeMax]; (repeat' split) <;> simp
 | x :: r, pre, harm, N => by
  simp only [growL, treeMax]
  have h := kidsG_len (f := fun i o N' => growL t b r (pre ++ [i]) (harm + o.harm) N') (m := treeMax r) (fun i o N => growL_len t b r _ _ _) x.opts 0 (N + 1)
  split
  ·simp
  ·split
   ·simp
   ·simp only [List.length_cons]; omega
theorem growL_pos (t : List WishD) (b : Int) (l : List WishD) (pre : List Int) (harm : Int) (N : Nat) : 0 < (growL t b l pre harm N).nodes.length := by
 cases l <;> simp only [growL] <;> (repeat' split) <;> simp
theorem kidsG_kids_len (f : Int → OptD → Nat → Res) : ∀ (l : List OptD) (i : Int) (N : Nat), (kidsG f l i N).kids.length = l.length
 | [], _, _ => rfl
 | o :: r, i, N => by simp only [kidsG, List.length_cons]; rw [kidsG_kids_len f r]
theorem kidsG_step (f : Int → OptD → Nat → Res) (l : List OptD) (k : Nat) (o : OptD) (h : l[k]? = some o) (i : Int) (N : Nat) :
  kidsG f (l.take (k + 1)) i N =
   ⟨(kidsG f (l.take k) i N).nodes ++ (f (i + k) o (N + (kidsG f (l.take k) i N).nodes.length)).nodes, (kidsG f (l.take k) i N).kids ++ [((N + (kidsG f (l.take k) i N).nodes.length : Nat) : Int)],
    (kidsG f (l.take k) i N).opens ++ (f (i + k) o (N + (kidsG f (l.take k) i N).nodes.length)).opens, (kidsG f (l.take k) i N).ests ++ (f (i + k) o (N + (kidsG f (l.take k) i N).nodes.length)).ests⟩ := by
 induction k generalizing l i N with
 | zero =>
  cases l with
  | nil => simp at h
  | cons x r => simp at h; subst h; simp [kidsG]
 | succ k ih =>
  cases l with
  | nil => simp at h
  | cons x r =>
   simp at h
   have e : ((k + 1 : Nat) : Int) = 1 + (k : Int) := by omega
   simp only [List.take_succ_cons, kidsG, ih r h, List.length_append, List.append_assoc, List.cons_append, e, Int.add_assoc, Nat.add_assoc]

theorem optOf_take {t : List WishD} {pick : List Int} {d j : Nat} (h : j < d) : optOf t (pick.take d) j = optOf t pick j := by simp [optOf, h]
theorem earlierI_take {t : List WishD} {pick : List Int} {d j : Nat} (h : j < d) : earlierI t (pick.take d) j = earlierI t pick j := by
 unfold earlierI findI
 have : ∀ l : List Nat, (∀ i ∈ l, i < d) → l.findIdx? (fun i => clashAt t (pick.take d) i j) = l.findIdx? (fun i => clashAt t pick i j) := by
  intro l
  induction l with
  | nil => intro _; rfl
  | cons a l ih =>
   intro hl
   have ha := hl a List.mem_cons_self
   simp only [List.findIdx?_cons]
   rw [ih fun i hi => hl i (List.mem_cons_of_mem _ hi), show clashAt t (pick.take d) a j = clashAt t pick a j by simp only [clashAt, optOf_take ha, optOf_take h]]
 rw [this _ (fun i hi => by have := List.mem_range.1 hi; omega)]

end Go.Proofs.YtepcdhpikpmepaaGreat

/- The memory of a search: the struct, its picks, its nodes; what each write makes of it. -/
namespace Go.Proofs.YtepcdhpikpmepaaGreat
open Go.RowKit

def KidsOk (w : World) (B : Nat) (Z : Nat → Prop) (kv : Value) (kids : List Int) : Prop :=
 w.ownsRow B 3 1 kv kids.length (kids.map (Value.int .i64)) ∧ ∀ g, kv.ownBlock = some g → ¬ Z g
def NodesC (w : World) (B : Nat) (Z : Nat → Prop) : List NodeD → List Value → Prop
 | [], xs => xs = []
 | n :: ns, xs => ∃ kv r, xs = .int .i64 n.wish :: kv :: .int .i64 n.clA :: .int .i64 n.clB :: r ∧ KidsOk w B Z kv n.kids ∧ NodesC w B Z ns r
def FoundC (w : World) (B : Nat) (Z : Nat → Prop) (fv : Value) : Option (List Int × Int) → Prop
 | none => fv = .pointer none
 | some (p, h) => ∃ F pv, fv = .pointer (some ⟨F, 0, none⟩) ∧ B ≤ F ∧ Blk w F 33 #[pv, .int .i64 h] ∧ w.ownsRow B 3 1 pv p.length (p.map (Value.int .i64)) ∧ ∀ g, pv.ownBlock = some g → ¬ Z g

def SX (S Pk : Nat) (nv : Value) : Nat → Prop := fun k => k = S ∨ k = Pk ∨ nv.ownBlock = some k

structure Srch (Z : Nat → Prop) (w0 w : World) (S Pk Rb : Nat) (tv nv fv : Value) (t : List WishD) (bound : Int) (rest pick : List Int) (nodes : List NodeD) (found : Option (List Int × Int)) (over : Int) : Prop where
 ext : Ext w0 w
 wishes : Wishes w0 tv t
 bS : w0.heap.size ≤ S
 bP : w0.heap.size ≤ Pk
 bR : w0.heap.size ≤ Rb
 blk : Blk w S 74 #[tv, .int .i64 bound, .slice (some ⟨Rb, 0, none⟩) rest.length rest.length, .slice (some ⟨Pk, 0, none⟩) pick.length pick.length, nv, fv, .int .i64 over]
 pk : Blk w Pk 3 (pick.map (Value.int .i64)).toArray
 rb : Blk w Rb 3 (rest.map (Value.int .i64)).toArray
 ne : Rb ≠ Pk
 zP : Z Pk
 zR : Z Rb
 owns : ∃ xs, w.ownsRow w0.heap.size 123 4 nv nodes.length xs ∧ NodesC w w0.heap.size Z nodes xs
 fnd : FoundC w w0.heap.size Z fv found

section
variable {w0 w w' : World} {S Pk Rb B : Nat} {tv nv fv kv : Value} {t : List WishD} {bound over : Int} {rest pick kids : List Int} {nodes : List NodeD} {found : Option (List Int × Int)} {X Z Z' : Nat → Prop} {xs : List Value}

theorem owns_block {e : TypeId} {size n : Nat} {v : Value} (h : w.ownsRow B e size v n xs) {g : Nat} (hg : v.ownBlock = some g) : ∃ cs, Blk w g e cs := by
 rcases h.2 with ⟨rfl, _⟩ | ⟨g', cap, cur, rfl, _, hh, _⟩
 ·simp [Value.ownBlock] at hg
 ·simp [Value.ownBlock] at hg; subst hg; exact ⟨cur, hh⟩
theorem blk_type {g : Nat} {e e' : TypeId} {cs cs' : Array Value} (h : Blk w g e cs) (h' : Blk w g e' cs') : e = e' := by
 unfold Blk at h h'; rw [h] at h'; injection h' with h'; injection h'
def IntFar (w : World) (Z X : Nat → Prop) : Prop := ∀ g, X g → Z g ∨ ∀ cs, ¬ Blk w g 3 cs
def PlanFar (w : World) (X : Nat → Prop) : Prop := ∀ g, X g → ∀ cs, ¬ Blk w g 33 cs
theorem KidsOk.keep (h : KidsOk w B Z kv kids) (k : Keep X w w') (hX : IntFar w Z X) : KidsOk w' B Z kv kids := by
 refine ⟨k.owns h.1 fun g hg hx => ?_, h.2⟩
 obtain ⟨cs, hcs⟩ := owns_block h.1 hg
 rcases hX g hx with h' | h'
 ·exact h.2 g hg h'
 ·exact h' cs hcs
theorem NodesC.keep (k : Keep X w w') (hX : IntFar w Z X) : ∀ {nodes : List NodeD} {xs : List Value}, NodesC w B Z nodes xs → NodesC w' B Z nodes xs
 | [], _, h => h
 | _ :: _, _, ⟨kv, r, e, h1, h2⟩ => ⟨kv, r, e, h1.keep k hX, NodesC.keep k hX h2⟩
theorem NodesC.snoc {n : NodeD} (hk : KidsOk w B Z kv n.kids) : ∀ {nodes : List NodeD} {xs : List Value}, NodesC w B Z nodes xs →
  NodesC w B Z (nodes ++ [n]) (xs ++ [.int .i64 n.wish, kv, .int .i64 n.clA, .int .i64 n.clB])
 | [], _, h => by cases h; exact ⟨kv, [], rfl, hk, rfl⟩
 | _ :: _, _, ⟨kv', r, e, h1, h2⟩ => ⟨kv', _, by rw [e]; rfl, h1, NodesC.snoc hk h2⟩
theorem NodesC.len : ∀ {nodes : List NodeD} {xs : List Value}, NodesC w B Z nodes xs → xs.length = nodes.length * 4
 | [], _, h => by cases h; rfl
 | _ :: _, _, ⟨kv', r, e, h1, h2⟩ => by rw [e]; have := NodesC.len h2; simp; omega
theorem NodesC.set_ (hk : KidsOk w B Z kv kids) : ∀ {nodes : List NodeD} {xs : List Value} (i : Nat) (n : NodeD), NodesC w B Z nodes xs → nodes[i]? = some n →
  NodesC w B Z (nodes.set i { n with kids := kids }) (xs.set (i * 4 + 1) kv)
 | [], _, i, n, _, hn => by simp at hn
 | m :: ns, _, 0, n, ⟨kv', r, e, h1, h2⟩, hn => by
  simp at hn; subst hn
  exact ⟨kv, r, by rw [e]; rfl, hk, h2⟩
 | m :: ns, _, i + 1, n, ⟨kv', r, e, h1, h2⟩, hn => by
  refine ⟨kv', r.set (i * 4 + 1) kv, ?_, h1, NodesC.set_ hk i n h2 (by simpa using hn)⟩
  rw [e, show (i + 1) * 4 + 1 = (i * 4 + 1) + 1 + 1 + 1 + 1 by omega]
  rfl
theorem FoundC.keep (h : FoundC w B Z fv found) (k : Keep X w w') (hX : IntFar w Z X) (hP : PlanFar w X) : FoundC w' B Z fv found := by
 cases found with
 | none => exact h
 | some p =>
  obtain ⟨F, pv, e, hb, h1, h2, h3⟩ := h
  have h4 : KidsOk w' B Z pv p.1 := KidsOk.keep ⟨h2, h3⟩ k hX
  exact ⟨F, pv, e, hb, k.blk h1 (fun hx => hP F hx _ h1), h4.1, h3⟩

theorem no_x {P : Nat → Prop} : ∀ g, (fun _ : Nat => False) g → P g := fun _ h => h.elim
theorem Srch.toExt (h : Srch Z w0 w S Pk Rb tv nv fv t bound rest pick nodes found over) (e : Ext w w') : Srch Z w0 w' S Pk Rb tv nv fv t bound rest pick nodes found over := by
 have k : Keep (fun _ => False) w w' := Keep.of_ext e
 obtain ⟨xs, o1, o2⟩ := h.owns
 exact ⟨h.ext.trans e, h.wishes, h.bS, h.bP, h.bR, k.blk h.blk id, k.blk h.pk id, k.blk h.rb id, h.ne, h.zP, h.zR, ⟨xs, k.owns o1 (fun _ _ => id), o2.keep k no_x⟩, h.fnd.keep k no_x no_x⟩

theorem SX_int (h : Srch Z w0 w S Pk Rb tv nv fv t bound rest pick nodes found over) : IntFar w Z (SX S Pk nv) := by
 intro g hg
 rcases hg with rfl | rfl | hg
 ·exact Or.inr fun cs hc => by have := blk_type hc h.blk; revert this; decide
 ·exact Or.inl h.zP
 ·obtain ⟨xs, o1, _⟩ := h.owns
  obtain ⟨cs', hc'⟩ := owns_block o1 hg
  exact Or.inr fun cs hc => by have := blk_type hc hc'; revert this; decide
theorem SX_plan (h : Srch Z w0 w S Pk Rb tv nv fv t bound rest pick nodes found over) : PlanFar w (SX S Pk nv) := by
 intro g hg cs hc
 rcases hg with rfl | rfl | hg
 ·have := blk_type hc h.blk; revert this; decide
 ·have := blk_type hc h.pk; revert this; decide
 ·obtain ⟨xs, o1, _⟩ := h.owns
  obtain ⟨cs', hc'⟩ := owns_block o1 hg
  have := blk_type hc hc'; revert this; decide
theorem SX_rest (h : Srch Z w0 w S Pk Rb tv nv fv t bound rest pick nodes found over) : ¬ SX S Pk nv Rb := by
 rintro (rfl | e | hg)
 ·have := blk_type h.rb h.blk; revert this; decide
 ·exact h.ne e
 ·obtain ⟨xs, o1, _⟩ := h.owns
  obtain ⟨cs', hc'⟩ := owns_block o1 hg
  have := blk_type h.rb hc'; revert this; decide
theorem SX_old (h : Srch Z w0 w S Pk Rb tv nv fv t bound rest pick nodes found over) : ∀ i, i < w0.heap.size → ¬ SX S Pk nv i := by
 rintro i hi (rfl | rfl | hg)
 ·have := h.bS; omega
 ·have := h.bP; omega
 ·obtain ⟨xs, o1, _⟩ := h.owns
  have := (o1.lt i hg).1; omega
theorem SX_nv (h : Srch Z w0 w S Pk Rb tv nv fv t bound rest pick nodes found over) : nv.ownBlock ≠ some S ∧ nv.ownBlock ≠ some Pk := by
 obtain ⟨xs, o1, _⟩ := h.owns
 exact ⟨own_blk_ne o1 h.blk (by decide), own_blk_ne o1 h.pk (by decide)⟩
theorem Srch.S_ne (h : Srch Z w0 w S Pk Rb tv nv fv t bound rest pick nodes found over) : S ≠ Pk := Blk.ne_ h.blk h.pk (by decide)

theorem Ext.keep {a b c : World} {X : Nat → Prop} (h : Ext a b) (k : Keep X b c) (hX : ∀ i, i < a.heap.size → ¬ X i) : Ext a c :=
 Keep.ext (X := X) ((Keep.of_ext h).trans k) hX
theorem keep_set (w : World) (g i : Nat) (u : Value) : Keep (fun k => k = g) w (w.setCell ⟨g, i, none⟩ u) := Keep.setCell (X := fun k => k = g) (Keep.refl _ _) (Or.inl rfl) _

theorem Srch.setOver (h : Srch Z w0 w S Pk Rb tv nv fv t bound rest pick nodes found over) (o : Int) :
  Srch Z w0 (w.setCell ⟨S, 6, none⟩ (.int .i64 o)) S Pk Rb tv nv fv t bound rest pick nodes found o := by
 have k := keep_set w S 6 (.int .i64 o)
 have hi : IntFar w Z (fun k => k = S) := fun g hg => SX_int h g (Or.inl hg)
 have hp : PlanFar w (fun k => k = S) := fun g hg => SX_plan h g (Or.inl hg)
 obtain ⟨xs, o1, o2⟩ := h.owns
 exact ⟨h.ext.keep k (by rintro i hi rfl; have := h.bS; omega), h.wishes, h.bS, h.bP, h.bR, h.blk.set_ 6 _, k.blk h.pk (Ne.symm h.S_ne), k.blk h.rb (fun e => SX_rest h (Or.inl e)), h.ne, h.zP, h.zR,
  ⟨xs, k.owns o1 (fun g hg e => (SX_nv h).1 (by rw [hg, e])), o2.keep k hi⟩, h.fnd.keep k hi hp⟩

theorem Srch.setFound (h : Srch Z w0 w S Pk Rb tv nv fv t bound rest pick nodes found over) {F : Nat} {pv : Value} {p : List Int} {q : Int} (hF : w0.heap.size ≤ F) (h1 : Blk w F 33 #[pv, .int .i64 q])
  (h2 : w.ownsRow w0.heap.size 3 1 pv p.length (p.map (Value.int .i64))) (h3 : ∀ g, pv.ownBlock = some g → ¬ Z g) :
  Srch Z w0 (w.setCell ⟨S, 5, none⟩ (.pointer (some ⟨F, 0, none⟩))) S Pk Rb tv nv (.pointer (some ⟨F, 0, none⟩)) t bound rest pick nodes (some (p, q)) over := by
 have k := keep_set w S 5 (.pointer (some ⟨F, 0, none⟩))
 have hi : IntFar w Z (fun k => k = S) := fun g hg => SX_int h g (Or.inl hg)
 have hp : PlanFar w (fun k => k = S) := fun g hg => SX_plan h g (Or.inl hg)
 have hfc : FoundC w w0.heap.size Z (.pointer (some ⟨F, 0, none⟩)) (some (p, q)) := ⟨F, pv, rfl, hF, h1, h2, h3⟩
 obtain ⟨xs, o1, o2⟩ := h.owns
 exact ⟨h.ext.keep k (by rintro i hi rfl; have := h.bS; omega), h.wishes, h.bS, h.bP, h.bR, h.blk.set_ 5 _, k.blk h.pk (Ne.symm h.S_ne), k.blk h.rb (fun e => SX_rest h (Or.inl e)), h.ne, h.zP, h.zR,
  ⟨xs, k.owns o1 (fun g hg e => (SX_nv h).1 (by rw [hg, e])), o2.keep k hi⟩, hfc.keep k hi hp⟩

theorem Srch.setPick (h : Srch Z w0 w S Pk Rb tv nv fv t bound rest pick nodes found over) (d : Nat) (i : Int) :
  Srch Z w0 (w.setCell ⟨Pk, d, none⟩ (.int .i64 i)) S Pk Rb tv nv fv t bound rest (pick.set d i) nodes found over := by
 have k := keep_set w Pk d (.int .i64 i)
 have hi : IntFar w Z (fun k => k = Pk) := fun g hg => Or.inl (by rw [hg]; exact h.zP)
 have hp : PlanFar w (fun k => k = Pk) := fun g hg => SX_plan h g (Or.inr (Or.inl hg))
 have hpk := h.pk.set_ d (.int .i64 i)
 have e : (pick.map (Value.int .i64)).toArray.setIfInBounds d (.int .i64 i) = ((pick.set d i).map (Value.int .i64)).toArray := by simp [List.map_set]
 rw [e] at hpk
 obtain ⟨xs, o1, o2⟩ := h.owns
 refine ⟨h.ext.keep k (by rintro i hi rfl; have := h.bP; omega), h.wishes, h.bS, h.bP, h.bR, ?_, hpk, k.blk h.rb (fun e => h.ne e), h.ne, h.zP, h.zR,
  ⟨xs, k.owns o1 (fun g hg e => (SX_nv h).2 (by rw [hg, e])), o2.keep k hi⟩, h.fnd.keep k hi hp⟩
 rw [List.length_set]
 exact k.blk h.blk h.S_ne

theorem Srch.added (h : Srch Z w0 w S Pk Rb tv nv fv t bound rest pick nodes found over) {n : NodeD} {nv' : Value} (hn : n.kids = [])
  (hb : Blk w' S 74 #[tv, .int .i64 bound, .slice (some ⟨Rb, 0, none⟩) rest.length rest.length, .slice (some ⟨Pk, 0, none⟩) pick.length pick.length, nv', fv, .int .i64 over])
  (o2 : NodesC w w0.heap.size Z nodes xs) (ho : w'.ownsRow w0.heap.size 123 4 nv' (nodes.length + 1) (xs ++ [.int .i64 n.wish, .slice none 0 0, .int .i64 n.clA, .int .i64 n.clB]))
  (k : Keep (fun k => k = S ∨ nv.ownBlock = some k) w w') :
  Srch Z w0 w' S Pk Rb tv nv' fv t bound rest pick (nodes ++ [n]) found over := by
 have hi : IntFar w Z (fun k => k = S ∨ nv.ownBlock = some k) := fun g hg => SX_int h g (by rcases hg with e | e; exact Or.inl e; exact Or.inr (Or.inr e))
 have hp : PlanFar w (fun k => k = S ∨ nv.ownBlock = some k) := fun g hg => SX_plan h g (by rcases hg with e | e; exact Or.inl e; exact Or.inr (Or.inr e))
 have hk : KidsOk w' w0.heap.size Z (.slice none 0 0) n.kids := by rw [hn]; exact ⟨World.ownsRow_nil _ _ _ _, by simp [Value.ownBlock]⟩
 refine ⟨h.ext.keep k (fun i hi hx => SX_old h i hi (by rcases hx with e | e; exact Or.inl e; exact Or.inr (Or.inr e))), h.wishes, h.bS, h.bP, h.bR, hb, k.blk h.pk ?_, k.blk h.rb ?_, h.ne, h.zP, h.zR, ⟨_, ?_, (o2.keep k hi).snoc hk⟩, h.fnd.keep k hi hp⟩
 ·rintro (e | e)
  ·exact h.S_ne e.symm
  ·exact (SX_nv h).2 e
 ·rintro (e | e)
  ·exact SX_rest h (Or.inl e)
  ·exact SX_rest h (Or.inr (Or.inr e))
 ·rw [List.length_append]; exact ho

theorem Srch.setKids (h : Srch Z w0 w S Pk Rb tv nv fv t bound rest pick nodes found over) {i : Nat} {n : NodeD} (hn : nodes[i]? = some n) (hk : KidsOk w w0.heap.size Z kv kids) :
  ∃ g c, nv = .slice (some ⟨g, 0, none⟩) nodes.length c ∧ w.cell? ⟨g, i * 4 + 1, none⟩ ≠ none ∧ w.frozen? ⟨g, i * 4 + 1, none⟩ = false ∧
   Srch Z w0 (w.setCell ⟨g, i * 4 + 1, none⟩ kv) S Pk Rb tv nv fv t bound rest pick (nodes.set i { n with kids := kids }) found over ∧ Keep (SX S Pk nv) w (w.setCell ⟨g, i * 4 + 1, none⟩ kv) := by
 obtain ⟨xs, o1, o2⟩ := h.owns
 have hi : i < nodes.length := (List.getElem?_eq_some_iff.1 hn).1
 have hfar := SX_int h
 have hpl := SX_plan h
 have hnv := SX_nv h
 rcases o1.2 with ⟨_, h0⟩ | ⟨g, cap, cur, rfl, hb, hg, hcap, hm, hcs, htake⟩
 ·omega
 ·have hblk : Blk w g 123 cur := hg
  have hlt : i * 4 + 1 < cur.size := by rw [hcs]; omega
  have k := keep_set w g (i * 4 + 1) kv
  have hX : ∀ j, j = g → SX S Pk (.slice (some ⟨g, 0, none⟩) nodes.length cap) j := fun j e => Or.inr (Or.inr (by simp [Value.ownBlock, e]))
  have hi' : IntFar w Z (fun k => k = g) := fun j e => hfar j (hX j e)
  have hp' : PlanFar w (fun k => k = g) := fun j e => hpl j (hX j e)
  refine ⟨g, cap, rfl, by rw [hblk.cell]; simp [hlt], hblk.frozen _, ?_, k.mono (fun j _ e => hX j e)⟩
  refine ⟨h.ext.keep k (by rintro j hj rfl; omega), h.wishes, h.bS, h.bP, h.bR, k.blk h.blk (fun e => hnv.1 (by simp [Value.ownBlock, e])), k.blk h.pk (fun e => hnv.2 (by simp [Value.ownBlock, e])), k.blk h.rb (fun e => SX_rest h (hX _ e)), h.ne, h.zP, h.zR, ?_, h.fnd.keep k hi' hp'⟩
  refine ⟨xs.set (i * 4 + 1) kv, ?_, NodesC.set_ (hk.keep k hi') i n (o2.keep k hi') hn⟩
  rw [List.length_set]
  refine ⟨by rw [List.length_set]; exact o1.1, Or.inr ⟨g, cap, cur.setIfInBounds (i * 4 + 1) kv, rfl, hb, hblk.set_ _ _, hcap, hm, by simpa using hcs, ?_⟩⟩
  rw [← htake, Array.toList_setIfInBounds, List.take_set]
/-! ### other reserved rows -/
theorem KidsOk.less (h : KidsOk w B Z kv kids) (hz : ∀ g, Z' g → Z g) : KidsOk w B Z' kv kids := ⟨h.1, fun g hg hz' => h.2 g hg (hz g hz')⟩
theorem NodesC.less (hz : ∀ g, Z' g → Z g) : ∀ {nodes : List NodeD} {xs : List Value}, NodesC w B Z nodes xs → NodesC w B Z' nodes xs
 | [], _, h => h
 | _ :: _, _, ⟨kv, r, e, h1, h2⟩ => ⟨kv, r, e, h1.less hz, NodesC.less hz h2⟩
theorem Srch.less (h : Srch Z w0 w S Pk Rb tv nv fv t bound rest pick nodes found over) (hz : ∀ g, Z' g → Z g) (hP : Z' Pk) (hR : Z' Rb) : Srch Z' w0 w S Pk Rb tv nv fv t bound rest pick nodes found over := by
 obtain ⟨xs, o1, o2⟩ := h.owns
 refine ⟨h.ext, h.wishes, h.bS, h.bP, h.bR, h.blk, h.pk, h.rb, h.ne, hP, hR, ⟨xs, o1, o2.less hz⟩, ?_⟩
 cases found with
 | none => exact h.fnd
 | some p =>
  obtain ⟨F, pv, e, hb, h1, h2, h3⟩ := h.fnd
  exact ⟨F, pv, e, hb, h1, h2, fun g hg hz' => h3 g hg (hz g hz')⟩
theorem KidsOk.more (h : KidsOk w B Z kv kids) (hz : ∀ g, g < w.heap.size → Z' g → Z g) : KidsOk w B Z' kv kids := ⟨h.1, fun g hg hz' => h.2 g hg (hz g (h.1.lt g hg).2 hz')⟩
theorem NodesC.more (hz : ∀ g, g < w.heap.size → Z' g → Z g) : ∀ {nodes : List NodeD} {xs : List Value}, NodesC w B Z nodes xs → NodesC w B Z' nodes xs
 | [], _, h => h
 | _ :: _, _, ⟨kv, r, e, h1, h2⟩ => ⟨kv, r, e, h1.more hz, NodesC.more hz h2⟩
theorem Srch.more (h : Srch Z w0 w S Pk Rb tv nv fv t bound rest pick nodes found over) (hz : ∀ g, g < w.heap.size → Z' g → Z g) (hz' : ∀ g, Z g → Z' g) : Srch Z' w0 w S Pk Rb tv nv fv t bound rest pick nodes found over := by
 obtain ⟨xs, o1, o2⟩ := h.owns
 refine ⟨h.ext, h.wishes, h.bS, h.bP, h.bR, h.blk, h.pk, h.rb, h.ne, hz' _ h.zP, hz' _ h.zR, ⟨xs, o1, o2.more hz⟩, ?_⟩
 cases found with
 | none => exact h.fnd
 | some p =>
  obtain ⟨F, pv, e, hb, h1, h2, h3⟩ := h.fnd
  exact ⟨F, pv, e, hb, h1, h2, fun g hg hz' => h3 g hg (hz g (h2.lt g hg).2 hz')⟩
theorem Srch.row (h : Srch Z w0 w S Pk Rb tv nv fv t bound rest pick nodes found over) (k : Keep X w w') (hX : ∀ g, X g → Z g ∧ g ≠ Pk ∧ g ≠ Rb ∧ w0.heap.size ≤ g ∧ ∃ cs, Blk w g 3 cs) :
  Srch Z w0 w' S Pk Rb tv nv fv t bound rest pick nodes found over := by
 have hi : IntFar w Z X := fun g hg => Or.inl (hX g hg).1
 have hp : PlanFar w X := fun g hg cs hc => by obtain ⟨cs', hc'⟩ := (hX g hg).2.2.2.2; have := blk_type hc hc'; revert this; decide
 obtain ⟨xs, o1, o2⟩ := h.owns
 refine ⟨h.ext.keep k (fun i hi hx => by have := (hX i hx).2.2.2.1; omega), h.wishes, h.bS, h.bP, h.bR, k.blk h.blk (fun hx => ?_), k.blk h.pk (fun hx => (hX _ hx).2.1 rfl), k.blk h.rb (fun hx => (hX _ hx).2.2.1 rfl), h.ne, h.zP, h.zR, ⟨xs, k.owns o1 (fun g hg hx => ?_), o2.keep k hi⟩, h.fnd.keep k hi hp⟩
 ·obtain ⟨cs', hc'⟩ := (hX _ hx).2.2.2.2; have := blk_type h.blk hc'; revert this; decide
 ·obtain ⟨cs, hc⟩ := owns_block o1 hg
  obtain ⟨cs', hc'⟩ := (hX _ hx).2.2.2.2; have := blk_type hc hc'; revert this; decide

end

end Go.Proofs.YtepcdhpikpmepaaGreat

/- Walks of the search: grow, where the node is closed by a clash or by the bound. -/
namespace Go.Proofs.YtepcdhpikpmepaaGreat
open Go.RowKit

structure GrowIn (Z : Nat → Prop) (w0 w : World) (S Pk Rb : Nat) (tv nv fv : Value) (t : List WishD) (bound : Int) (rest pick : List Int) (nodes : List NodeD) (found : Option (List Int × Int)) (over : Int) (pre : List Int) (harm : Int) : Prop where
 zlt : ∀ g, Z g → g < w.heap.size
 srch : Srch Z w0 w S Pk Rb tv nv fv t bound rest pick nodes found over
 task : TaskIn t
 few : t.length ≤ 512
 harms : ∀ x ∈ t, ∀ o ∈ x.opts, 0 ≤ o.harm ∧ o.harm ≤ 1000000
 restAt : ∀ d, d ≤ t.length → rest[d]? = some (leastSum (t.drop d))
 restL : rest.length ≤ 513
 plen : pick.length = t.length
 preIs : pick.take pre.length = pre
 len : pre.length ≤ t.length
 opts : ∀ j, j < pre.length → (optOf t pre j).isSome
 h0 : 0 ≤ harm
 h1 : harm ≤ 1000000 * pre.length
 room : nodes.length + treeMax (t.drop pre.length) ≤ 65536

def GrowOut (Z : Nat → Prop) (w0 w : World) (S Pk Rb : Nat) (tv nv : Value) (t : List WishD) (bound : Int) (rest pick : List Int) (nodes : List NodeD) (found : Option (List Int × Int)) (over : Int) (pre : List Int) (R : Res) (e : Ending) (w' : World) : Prop :=
 ∃ nv' fv' pick', e = .returned (.int .i64 nodes.length) ∧ Srch Z w0 w' S Pk Rb tv nv' fv' t bound rest pick' (nodes ++ R.nodes) (foldFound found R.opens) (foldOver over R.ests) ∧
  pick'.length = pick.length ∧ pick'.take pre.length = pre ∧ Keep (SX S Pk nv) w w' ∧ (nv'.ownBlock = nv.ownBlock ∨ ∃ g, nv'.ownBlock = some g ∧ w.heap.size ≤ g)

theorem keep_sx {w w' : World} {S Pk : Nat} {nv : Value} (k : Keep (fun k => k = S ∨ nv.ownBlock = some k) w w') : Keep (SX S Pk nv) w w' :=
 k.mono fun i _ h => by rcases h with h | h; exact Or.inl h; exact Or.inr (Or.inr h)

theorem addS_calls {Z : Nat → Prop} {w0 w : World} {S Pk Rb : Nat} {tv nv fv : Value} {t : List WishD} {bound : Int} {rest pick : List Int} {nodes : List NodeD} {found : Option (List Int × Int)} {over : Int}
  (h : Srch Z w0 w S Pk Rb tv nv fv t bound rest pick nodes found over) (wish clA clB : Int) (hn : nodes.length < 65536) :
  Calls Tryz.prog 40 #[.pointer (some ⟨S, 0, none⟩), .agg #[.int .i64 wish, .slice none 0 0, .int .i64 clA, .int .i64 clB]] w fun e w' =>
   ∃ nv', e = .returned (.int .i64 nodes.length) ∧ Srch Z w0 w' S Pk Rb tv nv' fv t bound rest pick (nodes ++ [⟨wish, [], clA, clB⟩]) found over ∧ Keep (SX S Pk nv) w w' ∧ (nv'.ownBlock = nv.ownBlock ∨ ∃ g, nv'.ownBlock = some g ∧ w.heap.size ≤ g) := by
 obtain ⟨xs, o1, o2⟩ := h.owns
 refine (add_calls S _ _ _ _ nv _ _ wish clA clB nodes.length xs w0.heap.size w h.blk o1 h.ext.size hn).mono ?_
 rintro e w' ⟨nv', rfl, hb, ho, k, hat⟩
 exact ⟨nv', rfl, h.added (n := ⟨wish, [], clA, clB⟩) rfl hb o2 ho k, keep_sx k, hat⟩

set_option maxHeartbeats 1600000 in
set_option maxRecDepth 100000 in
theorem grow_clash (Z : Nat → Prop) (w0 w : World) (S Pk Rb : Nat) (tv nv fv : Value) (t : List WishD) (bound : Int) (rest pick : List Int) (nodes : List NodeD) (found : Option (List Int × Int)) (over : Int) (pre : List Int) (harm : Int)
  (H : GrowIn Z w0 w S Pk Rb tv nv fv t bound rest pick nodes found over pre harm) (hc : 0 ≤ lastClash t pre) :
  Calls Tryz.prog 20 #[.pointer (some ⟨S, 0, none⟩), .int .i64 pre.length, .int .i64 harm] w
   (GrowOut Z w0 w S Pk Rb tv nv t bound rest pick nodes found over pre ⟨[⟨-1, [], lastClash t pre, (pre.length : Int) - 1⟩], [], []⟩) := by
 have hpos : 0 < pre.length := by
  rcases Nat.eq_zero_or_pos pre.length with h | h
  ·simp [lastClash, h] at hc
  ·exact h
 have hlc : lastClash t pre = earlierI t pick (pre.length - 1) := by
  unfold lastClash
  rw [if_neg (by omega)]
  have e := earlierI_take (t := t) (pick := pick) (d := pre.length) (j := pre.length - 1) (by omega)
  rwa [H.preIs] at e
 obtain ⟨ta, tc, rfl⟩ := H.srch.wishes.form
 have hea : Hid (∀ W, Ext w W → Calls Tryz.prog 39 #[.agg #[.slice ta t.length tc], .slice (some ⟨Pk, 0, none⟩) pick.length pick.length, .int .i64 ((pre.length - 1 : Nat) : Int)] W fun e w' => e = .returned (.int .i64 (lastClash t pre)) ∧ Ext W w') := by
  intro W hW
  rw [hlc]
  have hs := H.srch.toExt hW
  refine earlier_calls _ _ t pick (pre.length - 1) W (hs.wishes.ext hs.ext) ?_ H.task (fun j hj => ?_)
  ·refine ints_of_owns (base := 0) ⟨by simp, Or.inr ⟨Pk, pick.length, _, rfl, by omega, hs.pk, Nat.le_refl _, ?_, by simp, by rw [Nat.mul_one, ← List.length_map (f := Value.int .i64), List.take_length]⟩⟩
   have := H.few; have := H.plen; unfold maxLen; omega
  ·have := H.opts j (by omega)
   rw [← H.preIs] at this
   rwa [optOf_take (by omega)] at this
 have hS := H.srch
 have c0 := After.cell (show w.cell? ⟨S, 0, none⟩ = some (.slice ta t.length tc) from hS.blk.cell 0)
 have c3 := After.cell (show w.cell? ⟨S, 3, none⟩ = some (.slice (some ⟨Pk, 0, none⟩) pick.length pick.length) from hS.blk.cell 3)
 have hd1 : (pre.length : Int) - 1 = ((pre.length - 1 : Nat) : Int) := by omega
 have hd1' := Lib.hid hd1
 have hS' := Lib.hid hS
 have hroom := H.room
 have htm := treeMax_pos (t.drop pre.length)
 have hlen := H.len
 have hfew := H.few
 have hpre := Lib.hid H.preIs
 clear H hlc hd1 hS
 go_enter Tryz.func20, Tryz.ntmps20
 go_wp2_with fail
 refine wp_region_after (by kernel_rfl) (by kernel_rfl) ?_
 repeat (go_big_quiet_step ((rw [hd1'.out]; exact After.call _ (hea.out _ (After.ext _)))))
 refine wpQuiet_nil ?_
 rintro _ ⟨y, rfl⟩
 go_wp2_with fail
 refine (addS_calls (hS'.out.toExt y.ext) (-1) (lastClash t pre) (pre.length - 1) (by omega)).mono ?_
 rintro e w2 ⟨nv', rfl, hs2, k2, hat⟩
 have hat' := Lib.hid hat
 clear hat
 go_wp2
 go_ret
 have hs := y.ext.size
 refine ⟨nv', fv, pick, rfl, hs2, rfl, hpre.out, (Keep.of_ext y.ext).trans k2, ?_⟩
 rcases hat'.out with h | ⟨g, h, hg⟩
 ·exact Or.inl h
 ·exact Or.inr ⟨g, h, by omega⟩

end Go.Proofs.YtepcdhpikpmepaaGreat

/- Walks of the search: grow, where the node is closed by the bound, and where it is an open leaf. -/
namespace Go.Proofs.YtepcdhpikpmepaaGreat
open Go.RowKit

theorem leastN_bd : ∀ (l : List OptD) (n : Int), (∀ o ∈ l, 0 ≤ o.harm) → 0 ≤ n → n ≤ 1000000 → 0 ≤ leastN l n ∧ leastN l n ≤ 1000000
 | [], n, _, h0, h1 => ⟨h0, h1⟩
 | o :: r, n, h, h0, h1 => by
  have ho := h o List.mem_cons_self
  have := leastN_bd r (min n o.harm) (fun x hx => h x (List.mem_cons_of_mem _ hx)) (by omega) (by omega)
  exact this
theorem leastSum_bd : ∀ (l : List WishD), (∀ x ∈ l, ∀ o ∈ x.opts, 0 ≤ o.harm) → 0 ≤ leastSum l ∧ leastSum l ≤ 1000000 * l.length
 | [], _ => by simp [leastSum]
 | x :: r, h => by
  have h1 := leastSum_bd r (fun y hy => h y (List.mem_cons_of_mem _ hy))
  have h2 := leastN_bd x.opts 1000000 (h x List.mem_cons_self) (by omega) (by omega)
  simp only [leastSum, leastB, List.length_cons]
  omega


set_option maxHeartbeats 1600000 in
set_option maxRecDepth 100000 in
theorem grow_bound (Z : Nat → Prop) (w0 w : World) (S Pk Rb : Nat) (tv nv fv : Value) (t : List WishD) (bound : Int) (rest pick : List Int) (nodes : List NodeD) (found : Option (List Int × Int)) (over : Int) (pre : List Int) (harm : Int)
  (H : GrowIn Z w0 w S Pk Rb tv nv fv t bound rest pick nodes found over pre harm) (hc : ¬ 0 ≤ lastClash t pre) (hb : bound ≤ harm + leastSum (t.drop pre.length)) :
  Calls Tryz.prog 20 #[.pointer (some ⟨S, 0, none⟩), .int .i64 pre.length, .int .i64 harm] w
   (GrowOut Z w0 w S Pk Rb tv nv t bound rest pick nodes found over pre ⟨[leafN], [], [harm + leastSum (t.drop pre.length)]⟩) := by
 have hlc : 0 < pre.length → lastClash t pre = earlierI t pick (pre.length - 1) := by
  intro hpos
  unfold lastClash
  rw [if_neg (by omega)]
  have e := earlierI_take (t := t) (pick := pick) (d := pre.length) (j := pre.length - 1) (by omega)
  rwa [H.preIs] at e
 obtain ⟨ta, tc, rfl⟩ := H.srch.wishes.form
 have hea : Hid (0 < pre.length → ∀ W, Ext w W → Calls Tryz.prog 39 #[.agg #[.slice ta t.length tc], .slice (some ⟨Pk, 0, none⟩) pick.length pick.length, .int .i64 ((pre.length - 1 : Nat) : Int)] W fun e w' => e = .returned (.int .i64 (lastClash t pre)) ∧ Ext W w') := by
  intro hpos W hW
  rw [hlc hpos]
  have hs := H.srch.toExt hW
  refine earlier_calls _ _ t pick (pre.length - 1) W (hs.wishes.ext hs.ext) ?_ H.task (fun j hj => ?_)
  ·refine ints_of_owns (base := 0) ⟨by simp, Or.inr ⟨Pk, pick.length, _, rfl, by omega, hs.pk, Nat.le_refl _, ?_, by simp, by rw [Nat.mul_one, ← List.length_map (f := Value.int .i64), List.take_length]⟩⟩
   have := H.few; have := H.plen; unfold maxLen; omega
  ·have := H.opts j (by omega)
   rw [← H.preIs] at this
   rwa [optOf_take (by omega)] at this
 have hS := H.srch
 have c0 := After.cell (show w.cell? ⟨S, 0, none⟩ = some (.slice ta t.length tc) from hS.blk.cell 0)
 have c3 := After.cell (show w.cell? ⟨S, 3, none⟩ = some (.slice (some ⟨Pk, 0, none⟩) pick.length pick.length) from hS.blk.cell 3)
 have hd1' : Hid (0 < pre.length → (pre.length : Int) - 1 = ((pre.length - 1 : Nat) : Int)) := by intro _; omega
 have hS' := Lib.hid hS
 have hroom := H.room
 have htm := treeMax_pos (t.drop pre.length)
 have hlen := H.len
 have hfew := H.few
 have hplen := Lib.hid H.plen
 have hpre := Lib.hid H.preIs
 have hrest := Lib.hid (H.restAt pre.length H.len)
 have hrl := H.restL
 have hh0 := H.h0
 have hh1 := H.h1
 have hls := leastSum_bd (t.drop pre.length) (fun x hx o ho => (H.harms x (List.mem_of_mem_drop hx) o ho).1)
 have hls0 := hls.1
 have hls1 : leastSum (t.drop pre.length) ≤ 512000000 := by have := hls.2; simp at this; omega
 have hzlt := Lib.hid H.zlt
 clear H hlc hS hls
 by_cases hpos : 0 < pre.length
 ·
  have hea' := Lib.hid (hea.out hpos)
  have hd2 := Lib.hid (hd1'.out hpos)
  go_enter Tryz.func20, Tryz.ntmps20
  go_wp2_with fail
  refine wp_region_after (by kernel_rfl) (by kernel_rfl) ?_
  repeat (go_big_quiet_step ((rw [hd2.out]; exact After.call _ (hea'.out _ (After.ext _)))))
  refine wpQuiet_nil ?_
  rintro _ ⟨y, rfl⟩
  have hx1 := y.ext
  generalize y.world = W1 at hx1 ⊢
  have hs1 := Lib.hid (hS'.out.toExt hx1)
  have hs0 := hs1.out
  have c0' : W1.cell? ⟨S, 0, none⟩ = some (.slice ta t.length tc) := hs0.blk.cell 0
  have c1' : W1.cell? ⟨S, 1, none⟩ = some (.int .i64 bound) := hs0.blk.cell 1
  have c2' : W1.cell? ⟨S, 2, none⟩ = some (.slice (some ⟨Rb, 0, none⟩) rest.length rest.length) := hs0.blk.cell 2
  have c6' : W1.cell? ⟨S, 6, none⟩ = some (.int .i64 over) := hs0.blk.cell 6
  have f6' : W1.frozen? ⟨S, 6, none⟩ = false := hs0.blk.frozen 6
  have r0' : W1.cell? ⟨Rb, pre.length, none⟩ = some (.int .i64 (leastSum (t.drop pre.length))) := by
   have := hs0.rb.cell pre.length
   rw [this]
   have hr := hrest.out
   simp [hr]
  have hrlt : pre.length < rest.length := (List.getElem?_eq_some_iff.1 hrest.out).1
  clear hs0 c0 c3 hrest
  by_cases hov : harm + leastSum (t.drop pre.length) < over
  ·
   have R : Hid (foldOver over [harm + leastSum (t.drop pre.length)] = harm + leastSum (t.drop pre.length)) := by show min _ _ = _; omega
   go_wp2_with fail
   refine (addS_calls (hs1.out.setOver (harm + leastSum (t.drop pre.length))) (-1) (-1) 0 (by omega)).mono ?_
   rintro e w2 ⟨nv', rfl, hs2, k2, hat⟩
   have hat' := Lib.hid hat
   have k1 : Keep (SX S Pk nv) W1 (W1.setCell ⟨S, 6, none⟩ (.int .i64 (harm + leastSum (t.drop pre.length)))) := (keep_set W1 S 6 _).mono fun _ _ h => Or.inl h
   have k3 := ((Keep.of_ext (X := SX S Pk nv) hx1).trans k1).trans k2
   clear hat k1 k2
   go_wp2
   go_ret
   have hs := hx1.size
   refine ⟨nv', fv, pick, rfl, ?_, rfl, hpre.out, k3, ?_⟩
   ·rw [R.out]; exact hs2
   ·rcases hat'.out with h | ⟨g, h, hg⟩
    ·exact Or.inl h
    ·exact Or.inr ⟨g, h, by simp only [World.size_setCell] at hg; omega⟩
  ·
   have R : Hid (foldOver over [harm + leastSum (t.drop pre.length)] = over) := by show min _ _ = _; omega
   go_wp2_with fail
   refine (addS_calls (hs1.out.setOver over) (-1) (-1) 0 (by omega)).mono ?_
   rintro e w2 ⟨nv', rfl, hs2, k2, hat⟩
   have hat' := Lib.hid hat
   have k1 : Keep (SX S Pk nv) W1 (W1.setCell ⟨S, 6, none⟩ (.int .i64 over)) := (keep_set W1 S 6 _).mono fun _ _ h => Or.inl h
   have k3 := ((Keep.of_ext (X := SX S Pk nv) hx1).trans k1).trans k2
   clear hat k1 k2
   go_wp2
   go_ret
   have hs := hx1.size
   refine ⟨nv', fv, pick, rfl, ?_, rfl, hpre.out, k3, ?_⟩
   ·rw [R.out]; exact hs2
   ·rcases hat'.out with h | ⟨g, h, hg⟩
    ·exact Or.inl h
    ·exact Or.inr ⟨g, h, by simp only [World.size_setCell] at hg; omega⟩
 ·
  have hx1 := Ext.refl w
  have hs1 := Lib.hid (hS'.out.toExt hx1)
  have hs0 := hs1.out
  have c0' : w.cell? ⟨S, 0, none⟩ = some (.slice ta t.length tc) := hs0.blk.cell 0
  have c1' : w.cell? ⟨S, 1, none⟩ = some (.int .i64 bound) := hs0.blk.cell 1
  have c2' : w.cell? ⟨S, 2, none⟩ = some (.slice (some ⟨Rb, 0, none⟩) rest.length rest.length) := hs0.blk.cell 2
  have c6' : w.cell? ⟨S, 6, none⟩ = some (.int .i64 over) := hs0.blk.cell 6
  have f6' : w.frozen? ⟨S, 6, none⟩ = false := hs0.blk.frozen 6
  have r0' : w.cell? ⟨Rb, pre.length, none⟩ = some (.int .i64 (leastSum (t.drop pre.length))) := by
   have := hs0.rb.cell pre.length
   rw [this]
   have hr := hrest.out
   simp [hr]
  have hrlt : pre.length < rest.length := (List.getElem?_eq_some_iff.1 hrest.out).1
  clear hs0 c0 c3 hrest
  go_enter Tryz.func20, Tryz.ntmps20
  by_cases hov : harm + leastSum (t.drop pre.length) < over
  ·
   have R : Hid (foldOver over [harm + leastSum (t.drop pre.length)] = harm + leastSum (t.drop pre.length)) := by show min _ _ = _; omega
   go_wp2_with fail
   refine (addS_calls (hs1.out.setOver (harm + leastSum (t.drop pre.length))) (-1) (-1) 0 (by omega)).mono ?_
   rintro e w2 ⟨nv', rfl, hs2, k2, hat⟩
   have hat' := Lib.hid hat
   have k1 : Keep (SX S Pk nv) w (w.setCell ⟨S, 6, none⟩ (.int .i64 (harm + leastSum (t.drop pre.length)))) := (keep_set w S 6 _).mono fun _ _ h => Or.inl h
   have k3 := ((Keep.of_ext (X := SX S Pk nv) hx1).trans k1).trans k2
   clear hat k1 k2
   go_wp2
   go_ret
   have hs := hx1.size
   refine ⟨nv', fv, pick, rfl, ?_, rfl, hpre.out, k3, ?_⟩
   ·rw [R.out]; exact hs2
   ·rcases hat'.out with h | ⟨g, h, hg⟩
    ·exact Or.inl h
    ·exact Or.inr ⟨g, h, by simp only [World.size_setCell] at hg; omega⟩
  ·
   have R : Hid (foldOver over [harm + leastSum (t.drop pre.length)] = over) := by show min _ _ = _; omega
   go_wp2_with fail
   refine (addS_calls (hs1.out.setOver over) (-1) (-1) 0 (by omega)).mono ?_
   rintro e w2 ⟨nv', rfl, hs2, k2, hat⟩
   have hat' := Lib.hid hat
   have k1 : Keep (SX S Pk nv) w (w.setCell ⟨S, 6, none⟩ (.int .i64 over)) := (keep_set w S 6 _).mono fun _ _ h => Or.inl h
   have k3 := ((Keep.of_ext (X := SX S Pk nv) hx1).trans k1).trans k2
   clear hat k1 k2
   go_wp2
   go_ret
   have hs := hx1.size
   refine ⟨nv', fv, pick, rfl, ?_, rfl, hpre.out, k3, ?_⟩
   ·rw [R.out]; exact hs2
   ·rcases hat'.out with h | ⟨g, h, hg⟩
    ·exact Or.inl h
    ·exact Or.inr ⟨g, h, by simp only [World.size_setCell] at hg; omega⟩

end Go.Proofs.YtepcdhpikpmepaaGreat
