import Derived.Test.YtepcdhpikpmepaaGreatTHQ
namespace Go.Proofs.YtepcdhpikpmepaaGreat
open Go.RowKit

/-! ### the next day -/
def farD : Int := 1152921504606846976
def lateD (p : PerD) (n : Int) : Int × Bool :=
 if (lateF p.period (max n p.from_) (p.cycle.map (resD p)) (farD, false)).2 then ((lateF p.period (max n p.from_) (p.cycle.map (resD p)) (farD, false)).1, true) else (0, false)
theorem lateF_bd {P n : Int} (p0 : 1 ≤ P) (p1 : P ≤ 1000) (n0 : 0 ≤ n) (n1 : n ≤ 1000000000000) : ∀ (rs : List Int) (s : Int × Bool), (∀ r ∈ rs, 0 ≤ r ∧ r ≤ 1000) → (s.2 = true → n ≤ s.1 ∧ s.1 ≤ 1000000002000) → (s.2 = false → s.1 = farD) →
  (lateF P n rs s).2 = true → n ≤ (lateF P n rs s).1 ∧ (lateF P n rs s).1 ≤ 1000000002000
 | [], _, _, h, _ => h
 | r :: rs, s, hr, h, h2 => by
  obtain ⟨r0, r1⟩ := hr r List.mem_cons_self
  obtain ⟨a0, a1, a2⟩ := upA_bd r0 r1 p0 p1 n0 n1
  refine lateF_bd p0 p1 n0 n1 rs (lateS P n s r) (fun x hx => hr x (List.mem_cons_of_mem _ hx)) ?_ ?_
  ·intro _
   show n ≤ min (upA r P n) s.1 ∧ min (upA r P n) s.1 ≤ 1000000002000
   cases hs : s.2 with
   | true => have := h hs; omega
   | false => have := h2 hs; unfold farD at this; omega
  ·intro e
   have e' : (s.2 || decide (upA r P n ≤ s.1)) = false := e
   rw [Bool.or_eq_false_iff] at e'
   have h3 := h2 e'.1
   have h4 := of_decide_eq_false e'.2
   unfold farD at h3
   omega
theorem resD_bd {p : PerD} (hok : PerOk p) (c : Int) : 0 ≤ resD p c ∧ resD p c ≤ 1000 := by
 obtain ⟨_, _, _, q0, q1, _⟩ := hok
 unfold resD
 have h1 := Int.emod_nonneg (p.from_ % p.period + c) (show p.period ≠ 0 by omega)
 have h2 := Int.emod_lt_of_pos (p.from_ % p.period + c) (show 0 < p.period by omega)
 omega
theorem lateD_bd {p : PerD} (hok : PerOk p) {n : Int} (n0 : 0 ≤ n) (n1 : n ≤ 1000000000000) (h : (lateD p n).2 = true) : n ≤ (lateD p n).1 ∧ (lateD p n).1 ≤ 1000000002000 := by
 have hok' := hok
 obtain ⟨_, f0, f1, q0, q1, _⟩ := hok
 by_cases hc : (lateF p.period (max n p.from_) (p.cycle.map (resD p)) (farD, false)).2 = true
 ·have hb := lateF_bd q0 q1 (show 0 ≤ max n p.from_ by omega) (show max n p.from_ ≤ 1000000000000 by omega) (p.cycle.map (resD p)) (farD, false) (fun r hr => by
   obtain ⟨c, _, rfl⟩ := List.mem_map.1 hr
   exact resD_bd hok' c) (fun e => by cases e) (fun _ => rfl) hc
  have e : lateD p n = ((lateF p.period (max n p.from_) (p.cycle.map (resD p)) (farD, false)).1, true) := if_pos hc
  rw [e]
  dsimp only
  omega
 ·have e : lateD p n = (0, false) := if_neg hc
  rw [e] at h
  cases h

/-! ### the days of a class -/
def daysF (p : PerD) (m : Int) : Nat → Int → List Int
 | 0, _ => []
 | k + 1, n => if (lateD p n).2 = true ∧ (lateD p n).1 * 1440 + m < 20160 then (lateD p n).1 :: daysF p m k ((lateD p n).1 + 1) else []
def daysL (p : PerD) (m : Int) : List Int := daysF p m 15 0
theorem days_step {p : PerD} {m n d : Int} {j : Nat} (hm : 0 ≤ m) (hj : (j : Int) ≤ n) (_ : n ≤ 14) (h : daysF p m (15 - j) n = (daysL p m).drop j) (hd : lateD p n = (d, true)) (hlt : d * 1440 + m < 20160) (hnd : n ≤ d) :
  j < (daysL p m).length ∧ (daysL p m)[j]? = some d ∧ daysF p m (15 - (j + 1)) (d + 1) = (daysL p m).drop (j + 1) ∧ d ≤ 13 := by
 rw [show 15 - j = (15 - (j + 1)) + 1 by omega] at h
 unfold daysF at h
 rw [if_pos (by rw [hd]; exact ⟨rfl, hlt⟩), hd] at h
 dsimp only at h
 have hl : j < (daysL p m).length := by
  rcases Nat.lt_or_ge j (daysL p m).length with h1 | h1
  ·exact h1
  ·rw [List.drop_of_length_le h1] at h
   cases h
 rw [List.drop_eq_getElem_cons hl] at h
 obtain ⟨h1, h2⟩ := List.cons.inj h
 exact ⟨hl, by rw [List.getElem?_eq_getElem hl, ← h1], h2, by omega⟩
theorem days_end {p : PerD} {m n : Int} {j : Nat} (hj : (j : Int) ≤ n) (hn : n ≤ 14) (h : daysF p m (15 - j) n = (daysL p m).drop j) (hd : ¬ ((lateD p n).2 = true ∧ (lateD p n).1 * 1440 + m < 20160)) : (daysL p m).length ≤ j := by
 rw [show 15 - j = (15 - (j + 1)) + 1 by omega] at h
 unfold daysF at h
 rw [if_neg hd] at h
 rcases Nat.lt_or_ge j (daysL p m).length with h1 | h1
 ·rw [List.drop_eq_getElem_cons h1] at h
  cases h
 ·exact h1
theorem daysF_len (p : PerD) (m : Int) : ∀ (k : Nat) (n : Int), (daysF p m k n).length ≤ k
 | 0, _ => Nat.le_refl _
 | k + 1, n => by
  unfold daysF
  split
  ·have := daysF_len p m k ((lateD p n).1 + 1)
   simp only [List.length_cons]
   omega
  ·simp
theorem daysF_bd {p : PerD} (hok : PerOk p) {m : Int} (hm : 0 ≤ m) : ∀ (k : Nat) (n : Int), 0 ≤ n → n ≤ 1000 → ∀ d ∈ daysF p m k n, 0 ≤ d ∧ d ≤ 13
 | 0, _, _, _, d, h => by cases h
 | k + 1, n, h0, h1, d, h => by
  unfold daysF at h
  split at h
  ·next hc =>
   have := lateD_bd hok h0 (by omega) hc.1
   rcases List.mem_cons.1 h with rfl | h
   ·omega
   ·exact daysF_bd hok hm k _ (by omega) (by omega) d h
  ·cases h
theorem daysL_bd {p : PerD} (hok : PerOk p) {m : Int} (hm : 0 ≤ m) {d : Int} (h : d ∈ daysL p m) : 0 ≤ d ∧ d ≤ 13 := daysF_bd hok hm 15 0 (by omega) (by omega) d h

/-! ### instances: day, from, to -/
abbrev InstD := Int × Int × Int
def ltI (x y : InstD) : Prop := x.2.1 < y.2.1 ∨ x.2.1 = y.2.1 ∧ (x.1 < y.1 ∨ x.1 = y.1 ∧ x.2.2 < y.2.2)
instance (x y : InstD) : Decidable (ltI x y) := by unfold ltI; infer_instance
theorem ltI_eq {x y : InstD} (h1 : ¬ ltI x y) (h2 : ¬ ltI y x) : x = y := by
 obtain ⟨a, b, c⟩ := x
 obtain ⟨a', b', c'⟩ := y
 unfold ltI at h1 h2
 dsimp only at h1 h2
 have e1 : a = a' := by omega
 have e2 : b = b' := by omega
 have e3 : c = c' := by omega
 rw [e1, e2, e3]
def SortedI (l : List InstD) : Prop := l.Pairwise fun x y => ¬ ltI y x
theorem sortedI_unique {a b : List InstD} (hp : a.Perm b) (ha : SortedI a) (hb : SortedI b) : a = b := hp.eq_of_pairwise (fun _ _ _ _ h1 h2 => ltI_eq h2 h1) ha hb
def insI (x : InstD) : List InstD → List InstD
 | [] => [x]
 | y :: r => if ltI y x then y :: insI x r else x :: y :: r
def sortI : List InstD → List InstD
 | [] => []
 | x :: r => insI x (sortI r)
theorem insI_perm (x : InstD) : ∀ l : List InstD, (insI x l).Perm (x :: l)
 | [] => List.Perm.refl _
 | y :: r => by
  unfold insI
  split
  ·exact ((insI_perm x r).cons y).trans (List.Perm.swap x y r)
  ·exact List.Perm.refl _
theorem sortI_perm : ∀ l : List InstD, (sortI l).Perm l
 | [] => List.Perm.refl _
 | x :: r => (insI_perm x _).trans ((sortI_perm r).cons x)
theorem insI_sorted (x : InstD) : ∀ l : List InstD, SortedI l → SortedI (insI x l)
 | [], _ => List.pairwise_singleton _ _
 | y :: r, h => by
  obtain ⟨h1, h2⟩ := List.pairwise_cons.1 h
  unfold insI
  split
  ·next hlt =>
   refine List.pairwise_cons.2 ⟨fun z hz => ?_, insI_sorted x r h2⟩
   rcases List.mem_cons.1 ((insI_perm x r).mem_iff.1 hz) with rfl | hz
   ·intro h3
    unfold ltI at hlt h3
    omega
   ·exact h1 z hz
  ·next hlt =>
   refine List.pairwise_cons.2 ⟨fun z hz => ?_, h⟩
   rcases List.mem_cons.1 hz with rfl | hz
   ·exact hlt
   ·intro h3
    have h4 := h1 z hz
    unfold ltI at hlt h3 h4
    omega
theorem sortI_sorted : ∀ l : List InstD, SortedI (sortI l)
 | [] => List.Pairwise.nil
 | x :: r => insI_sorted x _ (sortI_sorted r)
def compI : List InstD → List InstD
 | [] => []
 | x :: r => if r.head? = some x then compI r else x :: compI r
theorem compI_mem : ∀ {l : List InstD} {x : InstD}, x ∈ compI l → x ∈ l
 | [], _, h => by cases h
 | y :: r, x, h => by
  unfold compI at h
  split at h
  ·exact List.mem_cons_of_mem _ (compI_mem h)
  ·rcases List.mem_cons.1 h with rfl | h
   ·exact List.mem_cons_self
   ·exact List.mem_cons_of_mem _ (compI_mem h)
theorem compI_len : ∀ l : List InstD, (compI l).length ≤ l.length
 | [] => Nat.le_refl _
 | y :: r => by
  have := compI_len r
  unfold compI
  split
  ·simp only [List.length_cons]; omega
  ·simp only [List.length_cons]; omega

/-! ### streams -/
structure ClassD where
 days : PerD
 minute : Int
instance : Inhabited ClassD := ⟨⟨default, 0⟩⟩
structure StreamD where
 classes : List ClassD
 len : Int
 extra : List InstD
instance : Inhabited StreamD := ⟨⟨[], 0, []⟩⟩
def InstOk (x : InstD) : Prop := 0 ≤ x.1 ∧ x.1 ≤ 100 ∧ 0 ≤ x.2.1 ∧ x.2.1 ≤ 100000 ∧ x.2.1 < x.2.2 ∧ x.2.2 ≤ x.2.1 + 10080
structure StreamOk (s : StreamD) : Prop where
 few : s.classes.length ≤ 1
 cls : ∀ c ∈ s.classes, PerOk c.days ∧ 0 ≤ c.minute ∧ c.minute ≤ 1439
 len0 : 1 ≤ s.len
 len1 : s.len ≤ 10080
 extra : s.extra.length ≤ 40
 each : ∀ x ∈ s.extra, InstOk x
 order : s.extra.Pairwise ltI
def instI (len : Int) (m d : Int) : InstD := (d, d * 1440 + m, d * 1440 + m + len)
def classI (len : Int) (c : ClassD) : List InstD := (daysL c.days c.minute).map (instI len c.minute)
def hitI (x : InstD) : Bool := decide (x.2.1 < 20160) && decide (0 < x.2.2)
def rawI (s : StreamD) : List InstD := s.classes.flatMap (classI s.len) ++ s.extra.filter hitI
def listI (s : StreamD) : List InstD := compI (sortI (rawI s))
theorem rawI_len {s : StreamD} (h : StreamOk s) : (rawI s).length ≤ 55 := by
 unfold rawI
 have h1 := List.length_filter_le hitI s.extra
 have h2 := h.extra
 have h3 := h.few
 have h4 : (s.classes.flatMap (classI s.len)).length ≤ 15 := by
  cases hc : s.classes with
  | nil => simp
  | cons c r =>
   rw [hc] at h3
   have : r = [] := by cases r with | nil => rfl | cons y z => simp at h3
   subst this
   simp only [List.flatMap_cons, List.flatMap_nil, List.append_nil, classI, List.length_map]
   exact daysF_len _ _ 15 0
 rw [List.length_append]
 omega
theorem listI_len {s : StreamD} (h : StreamOk s) : (listI s).length ≤ 55 := Nat.le_trans (compI_len _) (by rw [(sortI_perm _).length_eq]; exact rawI_len h)
theorem rawI_ok {s : StreamD} (h : StreamOk s) {x : InstD} (hx : x ∈ rawI s) : InstOk x := by
 rcases List.mem_append.1 hx with hx | hx
 ·obtain ⟨c, hc, hx⟩ := List.mem_flatMap.1 hx
  obtain ⟨d, hd, rfl⟩ := List.mem_map.1 hx
  obtain ⟨hp, m0, m1⟩ := h.cls c hc
  have := daysL_bd hp m0 hd
  have := h.len0
  have := h.len1
  unfold InstOk instI
  dsimp only
  omega
 ·exact h.each x (List.mem_filter.1 hx).1
theorem listI_ok {s : StreamD} (h : StreamOk s) {x : InstD} (hx : x ∈ listI s) : InstOk x := rawI_ok h ((sortI_perm _).mem_iff.1 (compI_mem hx))
end Go.Proofs.YtepcdhpikpmepaaGreat
namespace Go.Proofs.YtepcdhpikpmepaaGreat
open Go.RowKit Go.Shelf
attribute [local go_sem] Oper.semAt_some run_store_funcT

set_option maxHeartbeats 3200000 in
set_option maxRecDepth 100000 in
theorem late_calls (v : Value) (p : PerD) (n : Int) (w : World) (h : Pers w v [p]) (hok : PerOk p) (n0 : 0 ≤ n) (n1 : n ≤ 1000000000000) :
  Calls Tryz.prog 114 #[v, .int .i64 n] w fun e w' => e = .returned (.tuple #[.int .i64 (lateD p n).1, .bool (lateD p n).2]) ∧ Ext w w' := by
 have hP := Lib.hid h
 have hok' := Lib.hid hok
 obtain ⟨pa, pc, e⟩ := h.form
 rw [List.length_singleton] at e
 subst e
 have hst : Hid (∀ W, Ext w W → Calls Tryz.prog 128 #[.slice pa 1 pc] W fun e w' => e = .returned (.int .i64 p.from_) ∧ Ext W w') := Lib.hid fun W hW => start_calls _ p W (hP.out.ext hW) hok'.out
 obtain ⟨f, hf⟩ : ∃ f, Hid (p.from_ = f) := ⟨_, rfl⟩
 have hfb : 0 ≤ f ∧ f ≤ 1000 := hf.out ▸ ⟨hok.2.1, hok.2.2.1⟩
 rw [hf.out] at hst
 obtain ⟨M, hM⟩ : ∃ M, Hid (max n f = M) := ⟨_, rfl⟩
 have hMb : Hid (0 ≤ M ∧ M ≤ 1000000000000) := Lib.hid (by rw [← hM.out]; omega)
 obtain ⟨st, hst2⟩ : ∃ st, Hid (lateF p.period M (p.cycle.map (resD p)) (farD, false) = st) := ⟨_, rfl⟩
 have hR : Hid (lateD p n = if st.2 then (st.1, true) else (0, false)) := Lib.hid (by unfold lateD; rw [hf.out, hM.out, hst2.out])
 clear h hok n0 n1 hfb
 go_enter Tryz.func114, Tryz.ntmps114
 go_upto_region 1 with (fail)
 refine wp_abs (S := fun W => Hid (Ext w W) ∧ Hid (Blk W w.heap.size 108 #[.slice pa 1 pc]) ∧ Hid (Blk W (w.heap.size + 1) 3 #[.int .i64 n])) ?_ ?_
 ·exact ⟨Lib.hid (by exact (by with_reducible repeat' (first | exact Ext.refl _ | assumption | refine Ext.drewN ?_ _ | refine Ext.drew ?_ | refine Ext.alloc ?_ _ | refine Ext.trans ?_ (by with_reducible assumption)))), Lib.hid (Blk.alloc (blk_new' rfl rfl) _), Lib.hid (blk_new' (by simp) rfl)⟩
 rintro W1 ⟨hE, hB0, hB1⟩
 have z0 := After.cell (show W1.cell? ⟨w.heap.size, 0, none⟩ = some (.slice pa 1 pc) from hB0.out.cell 0)
 have z1 := After.cell (show W1.cell? ⟨w.heap.size + 1, 0, none⟩ = some (.int .i64 n) from hB1.out.cell 0)
 have hst3 := Lib.hid fun W (x : Ext W1 W) => hst.out W (hE.out.trans x)
 clear hst
 refine wp_region_tail 4 (by kernel_rfl) (by kernel_rfl) ?_
 simp only [List.take_succ_cons, List.take_zero, List.drop_succ_cons, List.drop_zero]
 repeat (go_big_quiet_step (exact After.call _ (hst3.out _ (After.ext _))))
 refine wpQuiet_nil ?_
 rintro _ ⟨u, rfl⟩
 have hV := Lib.hid u.ext
 generalize u.world = V at hV ⊢
 clear z0 z1 hst3
 rw [show (if n < f then f else n) = M by rw [← hM.out]; omega]
 have hB0V := Lib.hid ((Keep.of_ext (X := fun _ => False) hV.out).blk hB0.out id)
 have hB1V := Lib.hid ((Keep.of_ext (X := fun _ => False) hV.out).blk hB1.out id)
 have hEV := Lib.hid (hE.out.trans hV.out)
 have c1 : V.cell? ⟨w.heap.size + 1, 0, none⟩ = some (.int .i64 n) := hB1V.out.cell 0
 have l1 := hB1V.out.lt
 have f1 := hB1V.out.frozen 0
 have hB1N := Lib.hid (hB1V.out.set_ 0 (.int .i64 M))
 have hB0N := Lib.hid (hB0V.out.far (p := ⟨w.heap.size + 1, 0, none⟩) (by dsimp only; omega) (.int .i64 M))
 have hEN := Lib.hid (hEV.out.setCell (p := ⟨w.heap.size + 1, 0, none⟩) (by dsimp only; omega) (.int .i64 M))
 clear hE hV hB0 hB1 hf u
 go_upto_region 2 with (fail)
 clear c1 l1 f1 hB0V hB1V hEV
 refine wp_abs (S := fun W => Hid (Ext w W) ∧ Hid (Blk W w.heap.size 108 #[.slice pa 1 pc]) ∧ Hid (Blk W (w.heap.size + 1) 3 #[.int .i64 M])) ⟨hEN, hB0N, hB1N⟩ ?_
 clear hB0N hB1N hEN
 rintro V1 ⟨hE, hB0, hB1⟩
 obtain ⟨L, hL⟩ : ∃ L, Hid (V1.heap.size = L) := ⟨_, rfl⟩
 go_upto_region 5 with (fail)
 rw [hL.out]
 have hszV := Lib.hid (show w.heap.size ≤ L by have := hE.out.size; have := hL.out; omega)
 refine wp_abs (S := fun W => Hid (Ext w W) ∧ Hid (Blk W w.heap.size 108 #[.slice pa 1 pc]) ∧ Hid (LateI W (w.heap.size + 1) L (L + 1) M farD false) ∧
  Hid (Blk W (L + 1 + 1) 207 #[.func (.func 129) #[] #[.pointer (some ⟨w.heap.size, 0, none⟩), .pointer (some ⟨L + 1 + 1, 0, none⟩), .pointer (some ⟨w.heap.size + 1, 0, none⟩), .pointer (some ⟨L, 0, none⟩), .pointer (some ⟨L + 1, 0, none⟩)]])) ?_ ?_
 ·have hlt := hB1.out.lt
  rw [hL.out] at hlt
  refine ⟨Lib.hid (((hE.out.alloc _).alloc _).alloc _), Lib.hid (Blk.alloc (Blk.alloc (Blk.alloc hB0.out _) _) _), Lib.hid ⟨Blk.alloc (Blk.alloc (Blk.alloc hB1.out _) _) _, Blk.alloc (Blk.alloc (blk_new' hL.out.symm rfl) _) _, Blk.alloc (blk_new' (by rw [World.size_alloc, hL.out]) rfl) _, by omega⟩, Lib.hid (blk_new' (by rw [World.size_alloc, World.size_alloc, hL.out]) rfl)⟩
 clear hE hB0 hB1 hL
 rintro V2 ⟨hE2, hT2, hI2, hF2⟩
 have q0 : V2.cell? ⟨L + 1 + 1, 0, none⟩ = some (.func (.func 129) #[] #[.pointer (some ⟨w.heap.size, 0, none⟩), .pointer (some ⟨L + 1 + 1, 0, none⟩), .pointer (some ⟨w.heap.size + 1, 0, none⟩), .pointer (some ⟨L, 0, none⟩), .pointer (some ⟨L + 1, 0, none⟩)]) := hF2.out.cell 0
 have ql := hF2.out.lt
 have hcall := Lib.hid (late1_start w.heap.size (L + 1 + 1) (w.heap.size + 1) L (L + 1) pa pc M farD false p w V2 hE2.out hszV.out (Nat.le_succ_of_le hszV.out) hP.out hok'.out hT2.out hI2.out hF2.out hMb.out.1 hMb.out.2)
 rw [hst2.out] at hcall
 have hg8 : ∀ (y : Array Value) (W : World), (callFunc 129 y).run Tryz.prog W = .ok (.enter 129 y) W := fun _ _ => by kernel_rfl
 go_wp2_with fail
 refine hcall.out.mono ?_
 rintro e V3 ⟨rfl, hk, hi⟩
 obtain ⟨sa, sb⟩ := st
 dsimp only at hi hR
 have hE3 := Lib.hid (hE2.out.keep hk (fun i hi e => by have := hszV.out; omega))
 have d0 : V3.cell? ⟨L + 1, 0, none⟩ = some (.bool sb) := hi.db.cell 0
 have dl := hi.db.lt
 have a0 : V3.cell? ⟨L, 0, none⟩ = some (.int .i64 sa) := hi.lb.cell 0
 have al := hi.lb.lt
 clear hk hi hcall q0 ql hE2 hT2 hI2 hF2 hok' hP hMb
 cases sb with
 | true =>
  rw [if_pos rfl] at hR
  go_wp2
  go_ret2
  rw [hR.out]
  exact ⟨rfl, hE3.out⟩
 | false =>
  rw [if_neg (by decide)] at hR
  go_wp2
  go_ret2
  rw [hR.out]
  exact ⟨rfl, hE3.out⟩
end Go.Proofs.YtepcdhpikpmepaaGreat
