/- The memory of a search: the struct, its picks, its nodes; what each write makes of it. -/
import Derived.Test.YtonmlmkemliefaaPlanTree
import Derived.Test.YtonmlmkemliefaaPlanWalksI
namespace Go.Proofs.Ytonmlmkemliefaa
open Go.RowKit

/-- the children of a node lie in a row of their own that is none of Z's -/
def KidsOk (w : World) (B : Nat) (Z : Nat → Prop) (kv : Value) (kids : List Int) : Prop :=
  w.ownsRow B 3 1 kv kids.length (kids.map (Value.int .i64)) ∧ ∀ g, kv.ownBlock = some g → ¬ Z g
def NodesC (w : World) (B : Nat) (Z : Nat → Prop) : List NodeD → List Value → Prop
  | [], xs => xs = []
  | n :: ns, xs => ∃ kv r, xs = .int .i64 n.wish :: kv :: .int .i64 n.clA :: .int .i64 n.clB :: r ∧ KidsOk w B Z kv n.kids ∧ NodesC w B Z ns r
def FoundC (w : World) (B : Nat) (Z : Nat → Prop) (fv : Value) : Option (List Int × Int) → Prop
  | none => fv = .pointer none
  | some (p, h) => ∃ F pv, fv = .pointer (some ⟨F, 0, none⟩) ∧ B ≤ F ∧ Blk w F 30 #[pv, .int .i64 h] ∧ w.ownsRow B 3 1 pv p.length (p.map (Value.int .i64)) ∧ ∀ g, pv.ownBlock = some g → ¬ Z g

/-- X turns nothing of type int but the picks -/
def SX (S Pk : Nat) (nv : Value) : Nat → Prop := fun k => k = S ∨ k = Pk ∨ nv.ownBlock = some k

structure Srch (Z : Nat → Prop) (w0 w : World) (S Pk Rb : Nat) (tv nv fv : Value) (t : List WishD) (bound : Int) (rest pick : List Int) (nodes : List NodeD) (found : Option (List Int × Int)) (over : Int) : Prop where
  ext : Ext w0 w
  wishes : Wishes w0 tv t
  bS : w0.heap.size ≤ S
  bP : w0.heap.size ≤ Pk
  bR : w0.heap.size ≤ Rb
  blk : Blk w S 90 #[tv, .int .i64 bound, .slice (some ⟨Rb, 0, none⟩) rest.length rest.length, .slice (some ⟨Pk, 0, none⟩) pick.length pick.length, nv, fv, .int .i64 over]
  pk : Blk w Pk 3 (pick.map (Value.int .i64)).toArray
  rb : Blk w Rb 3 (rest.map (Value.int .i64)).toArray
  ne : Rb ≠ Pk
  zP : Z Pk
  zR : Z Rb
  owns : ∃ xs, w.ownsRow w0.heap.size 49 4 nv nodes.length xs ∧ NodesC w w0.heap.size Z nodes xs
  fnd : FoundC w w0.heap.size Z fv found

section
variable {w0 w w' : World} {S Pk Rb B : Nat} {tv nv fv kv : Value} {t : List WishD} {bound over : Int} {rest pick kids : List Int} {nodes : List NodeD} {found : Option (List Int × Int)} {X Z Z' : Nat → Prop} {xs : List Value}

theorem owns_block {e : TypeId} {size n : Nat} {v : Value} (h : w.ownsRow B e size v n xs) {g : Nat} (hg : v.ownBlock = some g) : ∃ cs, Blk w g e cs := by
  rcases h.2 with ⟨rfl, _⟩ | ⟨g', cap, cur, rfl, _, hh, _⟩
  · simp [Value.ownBlock] at hg
  · simp [Value.ownBlock] at hg; subst hg; exact ⟨cur, hh⟩
theorem blk_type {g : Nat} {e e' : TypeId} {cs cs' : Array Value} (h : Blk w g e cs) (h' : Blk w g e' cs') : e = e' := by
  unfold Blk at h h'; rw [h] at h'; injection h' with h'; injection h'
/-- of rows of integers X turns the picks alone -/
def IntFar (w : World) (Z X : Nat → Prop) : Prop := ∀ g, X g → Z g ∨ ∀ cs, ¬ Blk w g 3 cs
def PlanFar (w : World) (X : Nat → Prop) : Prop := ∀ g, X g → ∀ cs, ¬ Blk w g 30 cs
theorem KidsOk.keep (h : KidsOk w B Z kv kids) (k : Keep X w w') (hX : IntFar w Z X) : KidsOk w' B Z kv kids := by
  refine ⟨k.owns h.1 fun g hg hx => ?_, h.2⟩
  obtain ⟨cs, hcs⟩ := owns_block h.1 hg
  rcases hX g hx with h' | h'
  · exact h.2 g hg h'
  · exact h' cs hcs
theorem NodesC.keep (k : Keep X w w') (hX : IntFar w Z X) : ∀ {nodes : List NodeD} {xs : List Value}, NodesC w B Z nodes xs → NodesC w' B Z nodes xs
  | [], _, h => h
  | _ :: _, _, ⟨kv, r, e, h1, h2⟩ => ⟨kv, r, e, h1.keep k hX, NodesC.keep k hX h2⟩
theorem NodesC.snoc {n : NodeD} (hk : KidsOk w B Z kv n.kids) : ∀ {nodes : List NodeD} {xs : List Value}, NodesC w B Z nodes xs →
    NodesC w B Z (nodes ++ [n]) (xs ++ [.int .i64 n.wish, kv, .int .i64 n.clA, .int .i64 n.clB])
  | [], _, h => by cases h; exact ⟨kv, [], rfl, hk, rfl⟩
  | _ :: _, _, ⟨kv', r, e, h1, h2⟩ => ⟨kv', _, by rw [e]; rfl, h1, NodesC.snoc hk h2⟩
theorem NodesC.len : ∀ {nodes : List NodeD} {xs : List Value}, NodesC w B Z nodes xs → xs.length = nodes.length * 4
  | [], _, h => by cases h; rfl
  | _ :: _, _, ⟨kv', r, e, h1, h2⟩ => by rw [e]; have := NodesC.len h2; simp; omega
/-- the children of node i are set -/
theorem NodesC.set_ (hk : KidsOk w B Z kv kids) : ∀ {nodes : List NodeD} {xs : List Value} (i : Nat) (n : NodeD), NodesC w B Z nodes xs → nodes[i]? = some n →
    NodesC w B Z (nodes.set i { n with kids := kids }) (xs.set (i * 4 + 1) kv)
  | [], _, i, n, _, hn => by simp at hn
  | m :: ns, _, 0, n, ⟨kv', r, e, h1, h2⟩, hn => by
    simp at hn; subst hn
    exact ⟨kv, r, by rw [e]; rfl, hk, h2⟩
  | m :: ns, _, i + 1, n, ⟨kv', r, e, h1, h2⟩, hn => by
    refine ⟨kv', r.set (i * 4 + 1) kv, ?_, h1, NodesC.set_ hk i n h2 (by simpa using hn)⟩
    rw [e, show (i + 1) * 4 + 1 = (i * 4 + 1) + 1 + 1 + 1 + 1 by omega]
    rfl
theorem FoundC.keep (h : FoundC w B Z fv found) (k : Keep X w w') (hX : IntFar w Z X) (hP : PlanFar w X) : FoundC w' B Z fv found := by
  cases found with
  | none => exact h
  | some p =>
    obtain ⟨F, pv, e, hb, h1, h2, h3⟩ := h
    have h4 : KidsOk w' B Z pv p.1 := KidsOk.keep ⟨h2, h3⟩ k hX
    exact ⟨F, pv, e, hb, k.blk h1 (fun hx => hP F hx _ h1), h4.1, h3⟩

theorem no_x {P : Nat → Prop} : ∀ g, (fun _ : Nat => False) g → P g := fun _ h => h.elim
theorem Srch.toExt (h : Srch Z w0 w S Pk Rb tv nv fv t bound rest pick nodes found over) (e : Ext w w') : Srch Z w0 w' S Pk Rb tv nv fv t bound rest pick nodes found over := by
  have k : Keep (fun _ => False) w w' := Keep.of_ext e
  obtain ⟨xs, o1, o2⟩ := h.owns
  exact ⟨h.ext.trans e, h.wishes, h.bS, h.bP, h.bR, k.blk h.blk id, k.blk h.pk id, k.blk h.rb id, h.ne, h.zP, h.zR, ⟨xs, k.owns o1 (fun _ _ => id), o2.keep k no_x⟩, h.fnd.keep k no_x no_x⟩

theorem SX_int (h : Srch Z w0 w S Pk Rb tv nv fv t bound rest pick nodes found over) : IntFar w Z (SX S Pk nv) := by
  intro g hg
  rcases hg with rfl | rfl | hg
  · exact Or.inr fun cs hc => by have := blk_type hc h.blk; revert this; decide
  · exact Or.inl h.zP
  · obtain ⟨xs, o1, _⟩ := h.owns
    obtain ⟨cs', hc'⟩ := owns_block o1 hg
    exact Or.inr fun cs hc => by have := blk_type hc hc'; revert this; decide
theorem SX_plan (h : Srch Z w0 w S Pk Rb tv nv fv t bound rest pick nodes found over) : PlanFar w (SX S Pk nv) := by
  intro g hg cs hc
  rcases hg with rfl | rfl | hg
  · have := blk_type hc h.blk; revert this; decide
  · have := blk_type hc h.pk; revert this; decide
  · obtain ⟨xs, o1, _⟩ := h.owns
    obtain ⟨cs', hc'⟩ := owns_block o1 hg
    have := blk_type hc hc'; revert this; decide
theorem SX_rest (h : Srch Z w0 w S Pk Rb tv nv fv t bound rest pick nodes found over) : ¬ SX S Pk nv Rb := by
  rintro (rfl | e | hg)
  · have := blk_type h.rb h.blk; revert this; decide
  · exact h.ne e
  · obtain ⟨xs, o1, _⟩ := h.owns
    obtain ⟨cs', hc'⟩ := owns_block o1 hg
    have := blk_type h.rb hc'; revert this; decide
theorem SX_old (h : Srch Z w0 w S Pk Rb tv nv fv t bound rest pick nodes found over) : ∀ i, i < w0.heap.size → ¬ SX S Pk nv i := by
  rintro i hi (rfl | rfl | hg)
  · have := h.bS; omega
  · have := h.bP; omega
  · obtain ⟨xs, o1, _⟩ := h.owns
    have := (o1.lt i hg).1; omega
theorem SX_nv (h : Srch Z w0 w S Pk Rb tv nv fv t bound rest pick nodes found over) : nv.ownBlock ≠ some S ∧ nv.ownBlock ≠ some Pk := by
  obtain ⟨xs, o1, _⟩ := h.owns
  exact ⟨own_blk_ne o1 h.blk (by decide), own_blk_ne o1 h.pk (by decide)⟩
theorem Srch.S_ne (h : Srch Z w0 w S Pk Rb tv nv fv t bound rest pick nodes found over) : S ≠ Pk := Blk.ne_ h.blk h.pk (by decide)

theorem Ext.keep {a b c : World} {X : Nat → Prop} (h : Ext a b) (k : Keep X b c) (hX : ∀ i, i < a.heap.size → ¬ X i) : Ext a c :=
  Keep.ext (X := X) ((Keep.of_ext h).trans k) hX
theorem keep_set (w : World) (g i : Nat) (u : Value) : Keep (fun k => k = g) w (w.setCell ⟨g, i, none⟩ u) := Keep.setCell (X := fun k => k = g) (Keep.refl _ _) (Or.inl rfl) _

/-- a write to field 6 -/
theorem Srch.setOver (h : Srch Z w0 w S Pk Rb tv nv fv t bound rest pick nodes found over) (o : Int) :
    Srch Z w0 (w.setCell ⟨S, 6, none⟩ (.int .i64 o)) S Pk Rb tv nv fv t bound rest pick nodes found o := by
  have k := keep_set w S 6 (.int .i64 o)
  have hi : IntFar w Z (fun k => k = S) := fun g hg => SX_int h g (Or.inl hg)
  have hp : PlanFar w (fun k => k = S) := fun g hg => SX_plan h g (Or.inl hg)
  obtain ⟨xs, o1, o2⟩ := h.owns
  exact ⟨h.ext.keep k (by rintro i hi rfl; have := h.bS; omega), h.wishes, h.bS, h.bP, h.bR, h.blk.set_ 6 _, k.blk h.pk (Ne.symm h.S_ne), k.blk h.rb (fun e => SX_rest h (Or.inl e)), h.ne, h.zP, h.zR,
    ⟨xs, k.owns o1 (fun g hg e => (SX_nv h).1 (by rw [hg, e])), o2.keep k hi⟩, h.fnd.keep k hi hp⟩

/-- a write to field 5: a plan that has been found -/
theorem Srch.setFound (h : Srch Z w0 w S Pk Rb tv nv fv t bound rest pick nodes found over) {F : Nat} {pv : Value} {p : List Int} {q : Int} (hF : w0.heap.size ≤ F) (h1 : Blk w F 30 #[pv, .int .i64 q])
    (h2 : w.ownsRow w0.heap.size 3 1 pv p.length (p.map (Value.int .i64))) (h3 : ∀ g, pv.ownBlock = some g → ¬ Z g) :
    Srch Z w0 (w.setCell ⟨S, 5, none⟩ (.pointer (some ⟨F, 0, none⟩))) S Pk Rb tv nv (.pointer (some ⟨F, 0, none⟩)) t bound rest pick nodes (some (p, q)) over := by
  have k := keep_set w S 5 (.pointer (some ⟨F, 0, none⟩))
  have hi : IntFar w Z (fun k => k = S) := fun g hg => SX_int h g (Or.inl hg)
  have hp : PlanFar w (fun k => k = S) := fun g hg => SX_plan h g (Or.inl hg)
  have hfc : FoundC w w0.heap.size Z (.pointer (some ⟨F, 0, none⟩)) (some (p, q)) := ⟨F, pv, rfl, hF, h1, h2, h3⟩
  obtain ⟨xs, o1, o2⟩ := h.owns
  exact ⟨h.ext.keep k (by rintro i hi rfl; have := h.bS; omega), h.wishes, h.bS, h.bP, h.bR, h.blk.set_ 5 _, k.blk h.pk (Ne.symm h.S_ne), k.blk h.rb (fun e => SX_rest h (Or.inl e)), h.ne, h.zP, h.zR,
    ⟨xs, k.owns o1 (fun g hg e => (SX_nv h).1 (by rw [hg, e])), o2.keep k hi⟩, hfc.keep k hi hp⟩

/-- a write to a pick -/
theorem Srch.setPick (h : Srch Z w0 w S Pk Rb tv nv fv t bound rest pick nodes found over) (d : Nat) (i : Int) :
    Srch Z w0 (w.setCell ⟨Pk, d, none⟩ (.int .i64 i)) S Pk Rb tv nv fv t bound rest (pick.set d i) nodes found over := by
  have k := keep_set w Pk d (.int .i64 i)
  have hi : IntFar w Z (fun k => k = Pk) := fun g hg => Or.inl (by rw [hg]; exact h.zP)
  have hp : PlanFar w (fun k => k = Pk) := fun g hg => SX_plan h g (Or.inr (Or.inl hg))
  have hpk := h.pk.set_ d (.int .i64 i)
  have e : (pick.map (Value.int .i64)).toArray.setIfInBounds d (.int .i64 i) = ((pick.set d i).map (Value.int .i64)).toArray := by simp [List.map_set]
  rw [e] at hpk
  obtain ⟨xs, o1, o2⟩ := h.owns
  refine ⟨h.ext.keep k (by rintro i hi rfl; have := h.bP; omega), h.wishes, h.bS, h.bP, h.bR, ?_, hpk, k.blk h.rb (fun e => h.ne e), h.ne, h.zP, h.zR,
    ⟨xs, k.owns o1 (fun g hg e => (SX_nv h).2 (by rw [hg, e])), o2.keep k hi⟩, h.fnd.keep k hi hp⟩
  rw [List.length_set]
  exact k.blk h.blk h.S_ne

/-- what 'add' leaves -/
theorem Srch.added (h : Srch Z w0 w S Pk Rb tv nv fv t bound rest pick nodes found over) {n : NodeD} {nv' : Value} (hn : n.kids = [])
    (hb : Blk w' S 90 #[tv, .int .i64 bound, .slice (some ⟨Rb, 0, none⟩) rest.length rest.length, .slice (some ⟨Pk, 0, none⟩) pick.length pick.length, nv', fv, .int .i64 over])
    (o2 : NodesC w w0.heap.size Z nodes xs) (ho : w'.ownsRow w0.heap.size 49 4 nv' (nodes.length + 1) (xs ++ [.int .i64 n.wish, .slice none 0 0, .int .i64 n.clA, .int .i64 n.clB]))
    (k : Keep (fun k => k = S ∨ nv.ownBlock = some k) w w') :
    Srch Z w0 w' S Pk Rb tv nv' fv t bound rest pick (nodes ++ [n]) found over := by
  have hi : IntFar w Z (fun k => k = S ∨ nv.ownBlock = some k) := fun g hg => SX_int h g (by rcases hg with e | e; exact Or.inl e; exact Or.inr (Or.inr e))
  have hp : PlanFar w (fun k => k = S ∨ nv.ownBlock = some k) := fun g hg => SX_plan h g (by rcases hg with e | e; exact Or.inl e; exact Or.inr (Or.inr e))
  have hk : KidsOk w' w0.heap.size Z (.slice none 0 0) n.kids := by rw [hn]; exact ⟨World.ownsRow_nil _ _ _ _, by simp [Value.ownBlock]⟩
  refine ⟨h.ext.keep k (fun i hi hx => SX_old h i hi (by rcases hx with e | e; exact Or.inl e; exact Or.inr (Or.inr e))), h.wishes, h.bS, h.bP, h.bR, hb, k.blk h.pk ?_, k.blk h.rb ?_, h.ne, h.zP, h.zR, ⟨_, ?_, (o2.keep k hi).snoc hk⟩, h.fnd.keep k hi hp⟩
  · rintro (e | e)
    · exact h.S_ne e.symm
    · exact (SX_nv h).2 e
  · rintro (e | e)
    · exact SX_rest h (Or.inl e)
    · exact SX_rest h (Or.inr (Or.inr e))
  · rw [List.length_append]; exact ho

/-- a write to the children of node i -/
theorem Srch.setKids (h : Srch Z w0 w S Pk Rb tv nv fv t bound rest pick nodes found over) {i : Nat} {n : NodeD} (hn : nodes[i]? = some n) (hk : KidsOk w w0.heap.size Z kv kids) :
    ∃ g c, nv = .slice (some ⟨g, 0, none⟩) nodes.length c ∧ w.cell? ⟨g, i * 4 + 1, none⟩ ≠ none ∧ w.frozen? ⟨g, i * 4 + 1, none⟩ = false ∧
      Srch Z w0 (w.setCell ⟨g, i * 4 + 1, none⟩ kv) S Pk Rb tv nv fv t bound rest pick (nodes.set i { n with kids := kids }) found over ∧ Keep (SX S Pk nv) w (w.setCell ⟨g, i * 4 + 1, none⟩ kv) := by
  obtain ⟨xs, o1, o2⟩ := h.owns
  have hi : i < nodes.length := (List.getElem?_eq_some_iff.1 hn).1
  have hfar := SX_int h
  have hpl := SX_plan h
  have hnv := SX_nv h
  rcases o1.2 with ⟨_, h0⟩ | ⟨g, cap, cur, rfl, hb, hg, hcap, hm, hcs, htake⟩
  · omega
  · have hblk : Blk w g 49 cur := hg
    have hlt : i * 4 + 1 < cur.size := by rw [hcs]; omega
    have k := keep_set w g (i * 4 + 1) kv
    have hX : ∀ j, j = g → SX S Pk (.slice (some ⟨g, 0, none⟩) nodes.length cap) j := fun j e => Or.inr (Or.inr (by simp [Value.ownBlock, e]))
    have hi' : IntFar w Z (fun k => k = g) := fun j e => hfar j (hX j e)
    have hp' : PlanFar w (fun k => k = g) := fun j e => hpl j (hX j e)
    refine ⟨g, cap, rfl, by rw [hblk.cell]; simp [hlt], hblk.frozen _, ?_, k.mono (fun j _ e => hX j e)⟩
    refine ⟨h.ext.keep k (by rintro j hj rfl; omega), h.wishes, h.bS, h.bP, h.bR, k.blk h.blk (fun e => hnv.1 (by simp [Value.ownBlock, e])), k.blk h.pk (fun e => hnv.2 (by simp [Value.ownBlock, e])), k.blk h.rb (fun e => SX_rest h (hX _ e)), h.ne, h.zP, h.zR, ?_, h.fnd.keep k hi' hp'⟩
    refine ⟨xs.set (i * 4 + 1) kv, ?_, NodesC.set_ (hk.keep k hi') i n (o2.keep k hi') hn⟩
    rw [List.length_set]
    refine ⟨by rw [List.length_set]; exact o1.1, Or.inr ⟨g, cap, cur.setIfInBounds (i * 4 + 1) kv, rfl, hb, hblk.set_ _ _, hcap, hm, by simpa using hcs, ?_⟩⟩
    rw [← htake, Array.toList_setIfInBounds, List.take_set]
/-! ### other reserved rows -/
theorem KidsOk.less (h : KidsOk w B Z kv kids) (hz : ∀ g, Z' g → Z g) : KidsOk w B Z' kv kids := ⟨h.1, fun g hg hz' => h.2 g hg (hz g hz')⟩
theorem NodesC.less (hz : ∀ g, Z' g → Z g) : ∀ {nodes : List NodeD} {xs : List Value}, NodesC w B Z nodes xs → NodesC w B Z' nodes xs
  | [], _, h => h
  | _ :: _, _, ⟨kv, r, e, h1, h2⟩ => ⟨kv, r, e, h1.less hz, NodesC.less hz h2⟩
theorem Srch.less (h : Srch Z w0 w S Pk Rb tv nv fv t bound rest pick nodes found over) (hz : ∀ g, Z' g → Z g) (hP : Z' Pk) (hR : Z' Rb) : Srch Z' w0 w S Pk Rb tv nv fv t bound rest pick nodes found over := by
  obtain ⟨xs, o1, o2⟩ := h.owns
  refine ⟨h.ext, h.wishes, h.bS, h.bP, h.bR, h.blk, h.pk, h.rb, h.ne, hP, hR, ⟨xs, o1, o2.less hz⟩, ?_⟩
  cases found with
  | none => exact h.fnd
  | some p =>
    obtain ⟨F, pv, e, hb, h1, h2, h3⟩ := h.fnd
    exact ⟨F, pv, e, hb, h1, h2, fun g hg hz' => h3 g hg (hz g hz')⟩
/-- a row that is new is reserved besides -/
theorem KidsOk.more (h : KidsOk w B Z kv kids) (hz : ∀ g, g < w.heap.size → Z' g → Z g) : KidsOk w B Z' kv kids := ⟨h.1, fun g hg hz' => h.2 g hg (hz g (h.1.lt g hg).2 hz')⟩
theorem NodesC.more (hz : ∀ g, g < w.heap.size → Z' g → Z g) : ∀ {nodes : List NodeD} {xs : List Value}, NodesC w B Z nodes xs → NodesC w B Z' nodes xs
  | [], _, h => h
  | _ :: _, _, ⟨kv, r, e, h1, h2⟩ => ⟨kv, r, e, h1.more hz, NodesC.more hz h2⟩
theorem Srch.more (h : Srch Z w0 w S Pk Rb tv nv fv t bound rest pick nodes found over) (hz : ∀ g, g < w.heap.size → Z' g → Z g) (hz' : ∀ g, Z g → Z' g) : Srch Z' w0 w S Pk Rb tv nv fv t bound rest pick nodes found over := by
  obtain ⟨xs, o1, o2⟩ := h.owns
  refine ⟨h.ext, h.wishes, h.bS, h.bP, h.bR, h.blk, h.pk, h.rb, h.ne, hz' _ h.zP, hz' _ h.zR, ⟨xs, o1, o2.more hz⟩, ?_⟩
  cases found with
  | none => exact h.fnd
  | some p =>
    obtain ⟨F, pv, e, hb, h1, h2, h3⟩ := h.fnd
    exact ⟨F, pv, e, hb, h1, h2, fun g hg hz' => h3 g hg (hz g (h2.lt g hg).2 hz')⟩
/-- a reserved row, not the picks' and not the rests', is written -/
theorem Srch.row (h : Srch Z w0 w S Pk Rb tv nv fv t bound rest pick nodes found over) (k : Keep X w w') (hX : ∀ g, X g → Z g ∧ g ≠ Pk ∧ g ≠ Rb ∧ w0.heap.size ≤ g ∧ ∃ cs, Blk w g 3 cs) :
    Srch Z w0 w' S Pk Rb tv nv fv t bound rest pick nodes found over := by
  have hi : IntFar w Z X := fun g hg => Or.inl (hX g hg).1
  have hp : PlanFar w X := fun g hg cs hc => by obtain ⟨cs', hc'⟩ := (hX g hg).2.2.2.2; have := blk_type hc hc'; revert this; decide
  obtain ⟨xs, o1, o2⟩ := h.owns
  refine ⟨h.ext.keep k (fun i hi hx => by have := (hX i hx).2.2.2.1; omega), h.wishes, h.bS, h.bP, h.bR, k.blk h.blk (fun hx => ?_), k.blk h.pk (fun hx => (hX _ hx).2.1 rfl), k.blk h.rb (fun hx => (hX _ hx).2.2.1 rfl), h.ne, h.zP, h.zR, ⟨xs, k.owns o1 (fun g hg hx => ?_), o2.keep k hi⟩, h.fnd.keep k hi hp⟩
  · obtain ⟨cs', hc'⟩ := (hX _ hx).2.2.2.2; have := blk_type h.blk hc'; revert this; decide
  · obtain ⟨cs, hc⟩ := owns_block o1 hg
    obtain ⟨cs', hc'⟩ := (hX _ hx).2.2.2.2; have := blk_type hc hc'; revert this; decide

end

end Go.Proofs.Ytonmlmkemliefaa
