/- Walk of endless.List on streams as the laws make them, in the window of two weeks. -/
import Derived.Test.YtepcdhpikpmepaaGreatTNQ
import Derived.Test.YtepcdhpikpmepaaGreatTOQ
import Derived.Test.YtepcdhpikpmepaaGreatTIAQ
import Derived.Test.YtepcdhpikpmepaaGreatHJQ
import Derived.Test.YtepcdhpikpmepaaGreatHEQ
namespace Go.Proofs.YtepcdhpikpmepaaGreat
open Go.RowKit Go.Shelf
attribute [local go_sem] Oper.semAt_some

structure ListI (w : World) (O B : Nat) (cv ev : Value) (len : Int) (acc : List InstD) (W : World) : Prop where
 ext : Ext w W
 sb : Blk W w.heap.size 50 #[cv, .int .i64 len, ev]
 wb : Blk W (w.heap.size + 1) 102 #[.int .i64 0, .int .i64 20160]
 out : ∃ A C, Blk W O 48 #[.slice A acc.length C] ∧ InstsO W B (.slice A acc.length C) acc ∧ (acc = [] → A = none ∧ C = 0)
theorem ListI.toExt {w W W' : World} {O B : Nat} {cv ev : Value} {len : Int} {acc : List InstD} (h : ListI w O B cv ev len acc W) (e : Ext W W') : ListI w O B cv ev len acc W' :=
 have k := Keep.of_ext (X := fun _ => False) e
 let ⟨A, C, h1, h2, h3⟩ := h.out
 ⟨h.ext.trans e, k.blk h.sb id, k.blk h.wb id, A, C, k.blk h1 id, h2.ext e, h3⟩
theorem ListI.base {w W : World} {O B B' : Nat} {cv ev : Value} {len : Int} {acc : List InstD} (h : ListI w O B cv ev len acc W) (hB : B' ≤ B) : ListI w O B' cv ev len acc W :=
 let ⟨A, C, h1, h2, h3⟩ := h.out
 ⟨h.ext, h.sb, h.wb, A, C, h1, h2.base hB, h3⟩
theorem ListI.nil {w W : World} {O B B' : Nat} {cv ev : Value} {len : Int} (h : ListI w O B cv ev len [] W) : ListI w O B' cv ev len [] W := by
 obtain ⟨A, C, h1, _, h3⟩ := h.out
 obtain ⟨rfl, rfl⟩ := h3 rfl
 exact ⟨h.ext, h.sb, h.wb, none, 0, h1, InstsO.nil _ _, fun _ => ⟨rfl, rfl⟩⟩
theorem ListI.stands {w : World} {O : Nat} {cv ev : Value} {len : Int} {acc : List InstD} {B0 : Nat} (h0 : w.heap.size + 1 < B0) (h1 : O < B0) : StandsI B0 (ListI w O (B0 + 2) cv ev len acc) := fun A A' h hx => by
 obtain ⟨a, C, b1, b2, b3⟩ := h.out
 refine ⟨ext_standsI (by omega) A A' h.ext hx, blk_standsI (by omega) A A' h.sb hx, blk_standsI (by omega) A A' h.wb hx, a, C, blk_standsI h1 A A' b1 hx, ?_, b3⟩
 rcases hx with e | ⟨row, hg, hr⟩
 ·exact b2.ext e
 ·exact ((Keep.refl (fun k => row = some k) A).grown hg (fun g e => Or.inl e)).owns b2 (fun g e hX => by
   have := (b2.lt g e).1
   rcases hr with r | r <;> rw [r] at hX <;> cases hX <;> omega)
theorem three_intsQ (x y z : Int) : ∀ u ∈ [Value.int .i64 x, .int .i64 y, .int .i64 z], u.oneCell' = true := by intro u hu; simp at hu; rcases hu with rfl | rfl | rfl <;> rfl
theorem reads_blkI {w : World} {g : Nat} {t : TypeId} {cs : Array Value} {size m : Nat} (h : Blk w g t cs) (hs : cs.size = m * size) : Reads w w.heap.size size (some ⟨g, 0, none⟩) m cs.toList :=
 ⟨by simp [hs], fun _ => ⟨⟨g, 0, none⟩, rfl, h.lt, fun j u hu => by
  have h1 := h.cell j
  rw [show (⟨g, 0, none⟩ : Addr).add j = ⟨g, j, none⟩ by unfold Addr.add; split <;> simp_all, h1]
  simpa using hu⟩⟩
def accD (len m : Int) (l : List Int) (j : Nat) : List InstD := (l.take j).map (instI len m)
def InstCon (y : InstD) (k : Nat) (v : Value) (_ : World) : Prop := k = 4 → v = .agg #[.int .i64 y.1, .int .i64 y.2.1, .int .i64 y.2.2]
theorem three_new (W : World) (a b c : Value) (T : TypeId) : ∀ (j : Nat) (u : Value), [a, b, c][j]? = some u → (W.alloc (.cells #[a, b, c] T)).cell? ((⟨W.heap.size, 0, none⟩ : Addr).add j) = some u := fun j u hu => by
 have h := (blk_new' (w := W) (t := T) (cs := #[a, b, c]) rfl rfl : Blk _ _ _ _).cell j
 rw [show (⟨W.heap.size, 0, none⟩ : Addr).add j = ⟨W.heap.size, j, none⟩ by unfold Addr.add; split <;> simp_all, h]
 simpa using hu
theorem preI_len {s : StreamD} (h : StreamOk s) (len : Int) (k : Nat) : (s.classes.flatMap (classI len) ++ (s.extra.take k).filter hitI).length ≤ 55 := by
 have h1 := List.length_filter_le hitI (s.extra.take k)
 have h2 := h.extra
 have h3 := h.few
 have h5 : (s.extra.take k).length ≤ s.extra.length := by rw [List.length_take]; omega
 have h4 : (s.classes.flatMap (classI len)).length ≤ 15 := by
  cases hc : s.classes with
  | nil => simp
  | cons c r =>
   rw [hc] at h3
   have : r = [] := by cases r with | nil => rfl | cons y z => simp at h3
   subst this
   simp only [List.flatMap_cons, List.flatMap_nil, List.append_nil, classI, List.length_map]
   exact daysF_len _ _ 15 0
 rw [List.length_append]
 omega
set_option maxHeartbeats 6400000 in
set_option maxRecDepth 100000 in
theorem list_calls (v : Value) (s : StreamD) (w : World) (h : StreamV w v s) (hok : StreamOk s) :
  Calls Tryz.prog 32 #[v, .agg #[.int .i64 0, .int .i64 20160]] w fun e w' => ∃ lv, e = .returned (.tuple #[lv, .int .i64 0]) ∧ Insts w' lv (listI s) ∧ Ext w w' := by
 have hva : Hid (∀ W, Ext w W → Calls Tryz.prog 51 #[v] W fun e w' => e = .returned (.bool true) ∧ Ext W w') := Lib.hid fun W hW => endValid_calls v s W (h.ext hW) hok
 obtain ⟨cv, ev, rfl, hc, he⟩ := h
 have hok' := Lib.hid hok
 obtain ⟨ca, cc, rfl, _, _, cat⟩ := hc.open
 obtain ⟨ea, ec, rfl, _, _, eat⟩ := he.open
 have cat' := Lib.hid cat
 have eat' := Lib.hid eat
 obtain ⟨n1, hn1⟩ : ∃ n, Hid (s.classes.length = n) := ⟨_, rfl⟩
 obtain ⟨n2, hn2⟩ : ∃ n, Hid (s.extra.length = n) := ⟨_, rfl⟩
 obtain ⟨len, hlen⟩ : ∃ n, Hid (s.len = n) := ⟨_, rfl⟩
 have b1 : n1 ≤ 1 := hn1.out ▸ hok.few
 have b2 : n2 ≤ 40 := hn2.out ▸ hok.extra
 have hl := Lib.hid (show 1 ≤ len ∧ len ≤ 10080 from hlen.out ▸ ⟨hok.len0, hok.len1⟩)
 rw [hn1.out, hn2.out, hlen.out] at hva
 rw [hn1.out, hn2.out, hlen.out]
 obtain ⟨j0, hj0, jz0, jz1, jz2⟩ := info_parts in_info
 clear hc he cat eat hok
 refine (callsIn_wide (n := 5)).1 ?_
 refine callsIn_of_wp_marks Tryz.func32 rfl trivial ?_ rfl
 simp only [Tryz.ntmps32, List.size_toArray, List.length_cons, List.length_nil, Nat.reduceAdd, Nat.reduceSub, Array.replicate_succ, Array.replicate_zero, List.push_toArray, List.append_toArray, List.nil_append, List.cons_append]
 gi_wp2_with fail
 refine ⟨trivial, (callsIn_wide.2 (hva.out _ (by with_reducible repeat' (first | exact Ext.refl _ | assumption | refine Ext.drewN ?_ _ | refine Ext.drew ?_ | refine Ext.alloc ?_ _ | refine Ext.trans ?_ (by with_reducible assumption))))).mono ?_⟩
 rintro e w1 ⟨rfl, hx1⟩
 have kx := Keep.of_ext (X := fun _ => False) hx1
 have hS1 : Hid (Blk w1 w.heap.size 50 #[.slice ca n1 cc, .int .i64 len, .slice ea n2 ec]) := Lib.hid (kx.blk (Blk.alloc (blk_new' rfl rfl) _) id)
 have hW1 : Hid (Blk w1 (w.heap.size + 1) 102 #[.int .i64 0, .int .i64 20160]) := Lib.hid (kx.blk (blk_new' (by rw [World.size_alloc]) rfl) id)
 have hE1 := Lib.hid (show Ext w w1 from Ext.trans (by exact (by with_reducible repeat' (first | exact Ext.refl _ | assumption | refine Ext.drewN ?_ _ | refine Ext.drew ?_ | refine Ext.alloc ?_ _ | refine Ext.trans ?_ (by with_reducible assumption)))) hx1)
 clear hx1 kx hva
 have c0 : w1.cell? ⟨w.heap.size + 1, 0, none⟩ = some (.int .i64 0) := hW1.out.cell 0
 have c1 : w1.cell? ⟨w.heap.size + 1, 1, none⟩ = some (.int .i64 20160) := hW1.out.cell 1
 have l1 := hW1.out.lt
 have s0 : w1.cell? ⟨w.heap.size, 0, none⟩ = some (.slice ca n1 cc) := hS1.out.cell 0
 have l0 := hS1.out.lt
 gi_wp2_with fail
 obtain ⟨W0, hW0⟩ : ∃ W0, Hid (w1.alloc (.cells #[.slice none 0 0] 48) = W0) := ⟨_, rfl⟩
 rw [hW0.out]
 obtain ⟨O, hO⟩ : ∃ O, w1.heap.size = O := ⟨_, rfl⟩
 have hwO : w.heap.size + 1 < O := by omega
 have hI0 : Hid (ListI w O (O + 1) (.slice ca n1 cc) (.slice ea n2 ec) len [] W0) := Lib.hid (by
  rw [← hW0.out]
  exact ⟨hE1.out.alloc _, Blk.alloc hS1.out _, Blk.alloc hW1.out _, none, 0, blk_new' hO.symm rfl, InstsO.nil _ _, fun _ => ⟨rfl, rfl⟩⟩)
 rw [hO]
 clear hS1 hW1 hE1 c0 c1 l1 s0 l0 hW0 hO
 refine wpIn_loop_rounds 2 ?_
 rw [roundsIn_succ]
 obtain rfl | rfl : n1 = 1 ∨ n1 = 0 := by omega
 ·skip
  obtain ⟨b, off, x, ta, tc, rfl, hb, ex, g0, g1, gT⟩ := cat'.out 0 (by rw [hn1.out]; omega) w (Ext.refl w)
  obtain ⟨hpo, hm0, hm1⟩ := hok'.out.cls x (List.mem_of_getElem? ex.out)
  obtain ⟨m, hm⟩ : ∃ m, Hid (x.minute = m) := ⟨_, rfl⟩
  rw [hm.out] at g1 hm0 hm1
  obtain ⟨p, hp⟩ : ∃ p, Hid (x.days = p) := ⟨_, rfl⟩
  rw [hp.out] at gT hpo
  have hT := Lib.hid gT
  have hpo' := Lib.hid hpo
  have hmb := Lib.hid (And.intro hm0 hm1)
  have hcl : Hid ((s.classes.take 1).flatMap (classI len) = (daysL p m).map (instI len m)) := Lib.hid (by
   have hlen1 : s.classes.length = 1 := hn1.out
   obtain ⟨q1, e1⟩ := List.getElem?_eq_some_iff.1 ex.out
   have : s.classes = [x] := by
    apply List.ext_getElem (by simpa using hlen1)
    intro k h1 h2
    have : k = 0 := by rw [hlen1] at h1; omega
    subst this
    simpa using e1
   rw [this]
   simp [classI, hm.out, hp.out])
  simp only [Nat.zero_mul, Nat.add_zero] at g0 g1
  replace g0 := hI0.out.ext.cell g0
  replace g1 := hI0.out.ext.cell g1
  replace hb := Nat.lt_of_lt_of_le hb hI0.out.ext.size
  have s0 : W0.cell? ⟨w.heap.size, 0, none⟩ = some (.slice (some ⟨b, off, none⟩) 1 cc) := hI0.out.sb.cell 0
  have s1 : W0.cell? ⟨w.heap.size, 1, none⟩ = some (.int .i64 len) := hI0.out.sb.cell 1
  have s2 : W0.cell? ⟨w.heap.size, 2, none⟩ = some (.slice ea n2 ec) := hI0.out.sb.cell 2
  have sl := hI0.out.sb.lt
  have t0 : W0.cell? ⟨w.heap.size + 1, 0, none⟩ = some (.int .i64 0) := hI0.out.wb.cell 0
  have t1 : W0.cell? ⟨w.heap.size + 1, 1, none⟩ = some (.int .i64 20160) := hI0.out.wb.cell 1
  have tl := hI0.out.wb.lt
  clear gT hpo hm0 hm1 ex
  gi_wp2_with fail
  obtain ⟨W1, hW1⟩ : ∃ W1, Hid (W0.alloc (.cells #[.slice ta 1 tc, .int .i64 m] 113) = W1) := ⟨_, rfl⟩
  rw [hW1.out]
  obtain ⟨K, hK⟩ : ∃ K, W0.heap.size = K := ⟨_, rfl⟩
  have hx01 : Ext W0 W1 := by rw [← hW1.out]; exact (Ext.refl _).alloc _
  have hI1 := Lib.hid (hI0.out.toExt hx01)
  have hK1 : Hid (Blk W1 K 113 #[.slice ta 1 tc, .int .i64 m]) := Lib.hid (by rw [← hW1.out]; exact blk_new' hK.symm rfl)
  have hOK : O < K := by
   obtain ⟨_, _, hOb, _⟩ := hI0.out.out
   have := hOb.lt
   omega
  rw [hK]
  have hK1lt := Lib.hid (show W1.heap.size = K + 1 from by rw [← hW1.out, World.size_alloc, hK])
  clear g0 g1 s0 s1 s2 sl t0 t1 tl hI0 hW1 hx01 hb hK
  refine ⟨trivial, (callsIn_wide.2 (days_calls (some ⟨b, off, none⟩) ea ta 1 cc n2 ec 1 tc len m W1)).mono ?_⟩
  rintro e W2 ⟨rfl, hD⟩
  have hI2 := Lib.hid ((hI1.out.toExt hD.ext).nil (B' := W2.heap.size + 2))
  have hK2 := Lib.hid ((Keep.of_ext (X := fun _ => False) hD.ext).blk hK1.out id)
  have hD2 : Hid (DaysC w W1.heap.size (some ⟨b, off, none⟩) ea ta 1 cc n2 ec 1 tc len m W2) := Lib.hid ⟨hI1.out.ext.trans hD.ext, hD.sb, hD.cb, hD.wb⟩
  have q0 := hD.wb.lt
  have q1 := hD.ext.size
  have q4 := hK2.out.lt
  have q5 := hI2.out.ext.size
  obtain ⟨BD, hBD⟩ : ∃ BD, W1.heap.size = BD := ⟨_, rfl⟩
  rw [hBD] at q0 q1 hD2
  rw [hBD]
  clear hD hI1 hK1
  gi_wp2_with fail
  have hBK : K < BD ∧ BD + 1 + 1 < W2.heap.size := by
   have := hK1lt.out
   omega
  refine wpIn_range_iter (n := 5) (F := 73) (N := (daysL p m).length) (val := fun j => .int .i64 ((daysL p m)[j]?.getD 0)) (C := DaysC w BD (some ⟨b, off, none⟩) ea ta 1 cc n2 ec 1 tc len m) (by omega) ?hg (fun _ _ => by kernel_rfl)
   (days_iter w p BD (some ⟨b, off, none⟩) ea ta 1 cc n2 ec 1 tc len m hT.out hpo'.out hl.out.1 hl.out.2 hmb.out.1 hmb.out.2) (DaysC.stands q5 q0) hD2.out
   (fun j W => ListI w O (W2.heap.size + 2) (.slice (some ⟨b, off, none⟩) 1 cc) (.slice ea n2 ec) len (accD len m (daysL p m) j) W ∧ Blk W K 113 #[.slice ta 1 tc, .int .i64 m]) (fun _ _ => False) (fun j => (ListI.stands (by omega) (by omega)).and (blk_standsI q4)) (fun _ _ _ x _ => x) ⟨hI2.out, hK2.out⟩ 9 ?assign ?body ?done ?stop
  case hg => rfl
  case assign =>
   intro l j W K hK
   simp only [List.setIfInBounds_toArray, List.set_cons_succ, List.set_cons_zero] at hK
   gi_wp2
   exact hK
  case body =>
   rintro l' j W hj ⟨hF, hKb⟩ hC hsz2
   simp only [List.setIfInBounds_toArray, List.set_cons_succ, List.set_cons_zero]
   obtain ⟨d, hd⟩ : ∃ d, Hid ((daysL p m)[j]? = some d) := ⟨_, List.getElem?_eq_getElem hj⟩
   rw [hd.out, Option.getD_some]
   have hdb := daysL_bd hpo'.out hmb.out.1 (List.mem_of_getElem? hd.out)
   obtain ⟨y, hy⟩ : ∃ y, Hid (instI len m d = y) := ⟨_, rfl⟩
   have hnext : Hid (accD len m (daysL p m) (j + 1) = accD len m (daysL p m) j ++ [y]) := Lib.hid (by
    unfold accD
    rw [List.take_add_one, hd.out, ← hy.out]
    simp)
   obtain ⟨acc, hacc⟩ : ∃ acc, Hid (accD len m (daysL p m) j = acc) := ⟨_, rfl⟩
   have hal : acc.length ≤ 15 := by
    rw [← hacc.out, accD, List.length_map, List.length_take]
    have := daysF_len p m 15 0
    unfold daysL at *
    omega
   rw [hacc.out] at hF hnext
   obtain ⟨A, C, hOb, hOw, _⟩ := hF.out
   obtain ⟨n, hn⟩ : ∃ n, Hid (acc.length = n) := ⟨_, rfl⟩
   rw [hn.out] at hOb hal
   have hOw2 : W.ownsRow (W2.heap.size + 2) 105 3 (.slice A n C) n (inCells acc) := by
    have h := hOw
    unfold InstsO at h
    rwa [hn.out] at h
   have z0 := After.cell (show W.cell? ⟨O, 0, none⟩ = some (.slice A n C) from hOb.cell 0)
   have z1 := After.cell (show W.cell? ⟨w.heap.size, 0, none⟩ = some (.slice (some ⟨b, off, none⟩) 1 cc) from hF.sb.cell 0)
   have z2 := After.cell (show W.cell? ⟨w.heap.size, 1, none⟩ = some (.int .i64 len) from hF.sb.cell 1)
   have z3 := After.cell (show W.cell? ⟨w.heap.size, 2, none⟩ = some (.slice ea n2 ec) from hF.sb.cell 2)
   have z4 := After.cell (show W.cell? ⟨K, 0, none⟩ = some (.slice ta 1 tc) from hKb.cell 0)
   have z5 := After.cell (show W.cell? ⟨K, 1, none⟩ = some (.int .i64 m) from hKb.cell 1)
   have hin := Lib.hid fun W => instance_calls (some ⟨b, off, none⟩) ea ta 1 cc n2 ec 1 tc len m d W hl.out.1 hl.out.2 hmb.out.1 hmb.out.2 hdb.1 (by omega)
   rw [hy.out] at hin
   have hOb' := Lib.hid hOb
   have hOw' := Lib.hid hOw2
   have hFh := Lib.hid hF
   have hKh := Lib.hid hKb
   have hCh := Lib.hid hC
   clear hOb hOw hOw2 hF hKb hC hacc hd hy hdb
   gi_wp2_with fail
   (refine wpIn_region_held [] [0, 1, 2, 3, 4, 5] [6, 7] (InstCon y) (by kernel_rfl) (by kernel_rfl) (by kernel_rfl) ?_; simp only [pickL]; with_reducible refine wpQuiet_nil ?_)
   (refine held_quiet [0, 1, 2, 3] [4, 5] (by kernel_rfl) (by kernel_rfl) ?_; simp only [pickL, List.drop]; (repeat (go_big_quiet_step (fail))); with_reducible refine wpQuiet_nil ?_)
   (refine held_call 4 [5] rfl (by kernel_rfl) 53 (#[.agg #[.slice (some ⟨b, off, none⟩) 1 cc, .int .i64 len, .slice ea n2 ec], .agg #[.slice ta 1 tc, .int .i64 m], .int .i64 d]) (fun W => by kernel_rfl) rfl ?_ ?_ ?_)
   ·exact fun W W' v e hh => hh
   ·refine fun W' hW _ => (hin.out W').mono ?_
    rintro e W'' ⟨rfl, hxx⟩
    exact ⟨_, rfl, hxx, fun _ => rfl⟩
   rintro v ⟨Y, hY, hCv⟩
   obtain rfl := hCv rfl
   clear hCv hY Y
   simp only [Act.put, List.setIfInBounds_toArray, List.set_cons_succ, List.set_cons_zero]
   (refine held_made 5 [] rfl (by kernel_rfl) (fun g => .slice (some ⟨g, 0, none⟩) 1 1) (.cells #[.int .i64 y.1, .int .i64 y.2.1, .int .i64 y.2.2] 105) (fun W => by kernel_rfl) (fun g g2 e => by cases e; rfl) (fun g => rfl) ?_)
   intro gs
   simp only [Act.put, List.setIfInBounds_toArray, List.set_cons_succ, List.set_cons_zero]
   intro V hxv hf ht Q0 hQ0
   have h7 := (hf 5).2 rfl
   have b7 : Blk V gs 105 #[.int .i64 y.1, .int .i64 y.2.1, .int .i64 y.2.2] := h7.1
   have hgs : W.heap.size ≤ gs := h7.2
   simp only [pickL, List.drop]
   clear hf ht h7 z0 z1 z2 z3 z4 z5
   have hOV := Lib.hid (owns_ext hOw'.out hxv)
   have kV : Keep (fun _ => False) W V := Keep.of_ext hxv
   have hObV := Lib.hid (kV.blk hOb'.out id)
   have hKV := Lib.hid (kV.blk hKh.out id)
   have hCV := Lib.hid (hCh.out.toExt hxv)
   have hsV := Lib.hid (kV.blk hFh.out.sb id)
   have hwV := Lib.hid (kV.blk hFh.out.wb id)
   have hXV := Lib.hid (hFh.out.ext.trans hxv)
   have hKO := Lib.hid (keepsOthers_extI hxv)
   have hsrc := Lib.hid (reads_blkI (size := 3) (m := 1) b7 rfl)
   have hlow := hOV.out.lt
   have hsz := hxv.size
   have hwO2 := hXV.out.size
   clear hOw' hOb' hFh hKh hCh hxv kV b7 hin
   go_wp2_with (at_builtin; go_loud (refine wpList_append_any _ rfl (.tmp 55) (.tmp 60) _ rfl (W2.heap.size + 2) 105 j0 _ 3 24 Tryz.underlying48 hj0 jz0 jz1 jz2 rfl (by decide) (.slice A n C) n (inCells acc) rfl hOV.out V.heap.size (some ⟨gs, 0, none⟩) 1 1 [.int .i64 y.1, .int .i64 y.2.1, .int .i64 y.2.2] rfl hsrc.out (three_intsQ _ _ _) (by unfold maxLen; omega) (by omega) (by omega) ?_; intro v5 w5 hown5 hg5 hat5; obtain ⟨A5, C5, rfl⟩ := owns_form hown5; have hOb5 : Blk w5 O 48 #[.slice A n C] := hObV.out.grown hg5 (fun e => by have := (hlow _ e.symm).1; omega); have m5 : w5.cell? ⟨O, 0, none⟩ = some (.slice A n C) := hOb5.cell 0; have f5 := hOb5.frozen 0; have lt5 := hOb5.lt))
   have hcells : ∀ (k : Nat) (o : Obj), (Value.slice A n C).ownBlock = some k → V.heap[k]? = some o → o.isCells = true := fun k o e ho => by
    obtain ⟨cs', hb⟩ := owns_block hOV.out e
    have hb' : V.heap[k]? = some (.cells cs' 105) := hb
    rw [hb'] at ho
    cases ho
    rfl
   have hx5 : Ext w w5 := hXV.out.grown hg5 (fun k e => by have := (hlow k e).1; omega)
   have hgr : ∀ {g : Nat} {T : TypeId} {cs : Array Value}, g < W2.heap.size → Blk V g T cs → Blk w5 g T cs := fun hg hb => hb.grown hg5 (fun e => by have := (hlow _ e.symm).1; omega)
   have hC5 : DaysC w BD (some ⟨b, off, none⟩) ea ta 1 cc n2 ec 1 tc len m (w5.setCell ⟨O, 0, none⟩ (.slice A5 (n + 1) C5)) :=
    ⟨hx5.setCell (p := ⟨O, 0, none⟩) (by dsimp only; omega) _, (hgr (by omega) hCV.out.sb).far (p := ⟨O, 0, none⟩) (by dsimp only; omega) _, (hgr (by omega) hCV.out.cb).far (p := ⟨O, 0, none⟩) (by dsimp only; omega) _, (hgr (by omega) hCV.out.wb).far (p := ⟨O, 0, none⟩) (by dsimp only; omega) _⟩
   have hn5 : (acc ++ [y]).length = n + 1 := by rw [List.length_append, hn.out]; rfl
   refine ⟨((hKO.out.trans (KeepsOthers.of_grownBy hg5 hcells)).trans (KeepsOthers.setCell _ _ _)).from _, hC5, ⟨hC5.ext, (hgr (by omega) hsV.out).far (p := ⟨O, 0, none⟩) (by dsimp only; omega) _, (hgr (by omega) hwV.out).far (p := ⟨O, 0, none⟩) (by dsimp only; omega) _, A5, C5, ?_, ?_, ?_⟩, (hgr q4 hKV.out).far (p := ⟨O, 0, none⟩) (by dsimp only; omega) _⟩
   ·rw [hnext.out, hn5]
    exact hOb5.set_ 0 _
   ·rw [hnext.out]
    unfold InstsO
    rw [hn5, inCells_app]
    exact (keep_set w5 O 0 _).owns hown5 (fun g e h => by have := (hown5.lt g e).1; omega)
   ·rw [hnext.out]
    intro e
    simp at e
  case done =>
   rintro D W hD ⟨hF, _⟩ hDk
   rw [show accD len m (daysL p m) (daysL p m).length = (s.classes.take 1).flatMap (classI len) by rw [hcl.out, accD, List.take_length], List.take_of_length_le (by rw [hn1.out]; exact Nat.le_refl _)] at hF
   have hI3 := Lib.hid (hF.base (B' := O + 1) (by omega))
   have hM3 : Hid (MarksD w W.heap.size W [{ target := .collected D, args := #[] }]) := Lib.hid (((MarksD.nil w D W).cons (by omega) (Nat.le_refl _) hDk).up (Array.getElem?_eq_some_iff.1 hDk).1)
   clear hF hDk hI2 hK2 hD2
   have t2 : W.cell? ⟨w.heap.size, 2, none⟩ = some (.slice ea n2 ec) := hI3.out.sb.cell 2
   have tl2 := hI3.out.sb.lt
   gi_wp2
   rw [roundsIn_succ]
   gi_wp2_with fail
   clear t2 tl2
   gi_loopw [11, 66] (fun _ vi wr => ∃ k : Nat, k ≤ n2 ∧ vi = .int .i64 k ∧ Hid (ListI w O (O + 1) (.slice (some ⟨b, off, none⟩) 1 cc) (.slice ea n2 ec) len (s.classes.flatMap (classI len) ++ (s.extra.take k).filter hitI) wr) ∧ Hid (MarksD w wr.heap.size wr [{ target := .collected D, args := #[] }])) (fun _ vi _ => n2 - (intOf vi).toNat)
   case atStart => exact ⟨0, by omega, rfl, by rw [List.take_zero, List.filter_nil, List.append_nil]; exact hI3, hM3⟩
   case round =>
    clear hI3 hM3
    obtain ⟨k, hk, rfl, hI, hM⟩ := hrel
    by_cases h2 : k < n2
    ·obtain ⟨b2, o2, d, f, t, rfl, hb2, _, ex2, g0, g1, g2⟩ := eat'.out k (by rw [hn2.out]; exact h2) wr hI.out.ext
     obtain ⟨q, hq⟩ : ∃ q, Hid (hitI (d, f, t) = q) := ⟨_, rfl⟩
     have hcol : Hid (∀ W, Calls Tryz.prog 54 #[.agg #[.int .i64 f, .int .i64 t], .agg #[.int .i64 0, .int .i64 20160]] W fun e w' => e = .returned (.bool q) ∧ Ext W w') := Lib.hid fun W => by
      have := collide_calls f t 0 20160 W
      rwa [show (decide (f < 20160) && decide (0 < t)) = q from hq.out] at this
     have t0 : wr.cell? ⟨w.heap.size + 1, 0, none⟩ = some (.int .i64 0) := hI.out.wb.cell 0
     have t1 : wr.cell? ⟨w.heap.size + 1, 1, none⟩ = some (.int .i64 20160) := hI.out.wb.cell 1
     have tl := hI.out.wb.lt
     have hst : Hid ((s.extra.take (k + 1)).filter hitI = (s.extra.take k).filter hitI ++ (if q then [(d, f, t)] else [])) := Lib.hid (by
      rw [List.take_add_one, ex2.out, Option.toList_some, List.filter_append, List.filter_cons, hq.out]
      cases q <;> rfl)
     clear ex2 hq
     gi_wp2_with fail
     refine ⟨trivial, (callsIn_wide.2 (hcol.out _)).mono ?_⟩
     rintro e W3 ⟨rfl, hx3⟩
     have hx3' := Lib.hid (((Ext.refl wr).alloc (.cells #[.int .i64 d, .int .i64 f, .int .i64 t] 105)).trans hx3)
     have hX : Hid (Blk W3 wr.heap.size 105 #[.int .i64 d, .int .i64 f, .int .i64 t]) := Lib.hid ((Keep.of_ext (X := fun _ => False) hx3).blk (blk_new' rfl rfl) id)
     have hI4 := Lib.hid (hI.out.toExt hx3'.out)
     have hM4 := Lib.hid ((hM.out.ext hx3'.out).up hx3'.out.size)
     have hal := preI_len hok'.out len k
     clear hx3 t0 t1 tl g0 g1 g2 hcol hI hM hb2 hx3'
     cases q with
     | false =>
      have hI5 : Hid (ListI w O (O + 1) (.slice (some ⟨b, off, none⟩) 1 cc) (.slice (some ⟨b2, o2, none⟩) n2 ec) len (s.classes.flatMap (classI len) ++ (s.extra.take (k + 1)).filter hitI) W3) := Lib.hid (by rw [hst.out, if_neg (by decide), List.append_nil]; exact hI4.out)
      clear hI4 hX hst hal
      gi_wp2
      go_roundw
      case rel => first | exact ⟨k + 1, by omega, by go_num, hI5, hM4⟩ | ((repeat apply Exists.intro); exact ⟨⟨k + 1, by omega, by go_num, hI5, hM4⟩, rfl⟩)
      case measure => simp [intOf]; omega
     | true =>
      rw [if_pos rfl] at hst
      obtain ⟨acc, hacc⟩ : ∃ acc, Hid (s.classes.flatMap (classI len) ++ (s.extra.take k).filter hitI = acc) := ⟨_, rfl⟩
      have hst2 : Hid (s.classes.flatMap (classI len) ++ (s.extra.take (k + 1)).filter hitI = acc ++ [(d, f, t)]) := Lib.hid (by rw [hst.out, ← List.append_assoc, hacc.out])
      rw [hacc.out] at hI4 hal
      obtain ⟨A, C, hOb0, hOw0, _⟩ := hI4.out.out
      obtain ⟨n, hn⟩ : ∃ n, Hid (acc.length = n) := ⟨_, rfl⟩
      rw [hn.out] at hOb0 hal
      have hOw : Hid (W3.ownsRow (O + 1) 105 3 (.slice A n C) n (inCells acc)) := Lib.hid (by
       have h := hOw0
       unfold InstsO at h
       rwa [hn.out] at h)
      have hOb := Lib.hid hOb0
      have m0 : W3.cell? ⟨O, 0, none⟩ = some (.slice A n C) := hOb0.cell 0
      have ml := hOb0.lt
      have x0 : W3.cell? ⟨wr.heap.size, 0, none⟩ = some (.int .i64 d) := hX.out.cell 0
      have x1 : W3.cell? ⟨wr.heap.size, 1, none⟩ = some (.int .i64 f) := hX.out.cell 1
      have x2 : W3.cell? ⟨wr.heap.size, 2, none⟩ = some (.int .i64 t) := hX.out.cell 2
      have xl := hX.out.lt
      clear hOb0 hOw0 hst hacc
      gi_wp2_with (gi_at_builtin; go_loud (refine wpListIn_append_own _ rfl (.tmp 74) (.tmp 76) _ rfl (O + 1) 105 j0 _ 3 24 Tryz.underlying48 hj0 jz0 jz1 jz2 rfl (by decide) (.slice A n C) n (inCells acc) rfl (owns_ext hOw.out ((Ext.refl _).alloc _)) ⟨W3.heap.size, 0, none⟩ 1 1 [.int .i64 d, .int .i64 f, .int .i64 t] rfl rfl (three_new W3 _ _ _ _) (three_intsQ _ _ _) (by unfold maxLen; omega) (by omega) (by rw [World.size_alloc]; omega) ?_; intro v5 w5 hown5 hg5 _; obtain ⟨A5, C5, rfl⟩ := owns_form hown5; have hlow := (owns_ext hOw.out ((Ext.refl W3).alloc (.cells #[.int .i64 d, .int .i64 f, .int .i64 t] 105))).lt; have hOb5 : Blk w5 O 48 #[.slice A n C] := (Blk.alloc hOb.out _).grown hg5 (fun e => by have := (hlow _ e.symm).1; omega); have m5 : w5.cell? ⟨O, 0, none⟩ = some (.slice A n C) := hOb5.cell 0; have f5 := hOb5.frozen 0; have lt5 := hOb5.lt; clear m0 ml x0 x1 x2 xl))
      have hlow' : ∀ g, (Value.slice A n C).ownBlock = some g → O + 1 ≤ g := fun g e => (hlow g e).1
      have hown' := hOw.out
      have kp : Keep (fun g => (Value.slice A n C).ownBlock = some g ∨ g = O) W3 (w5.setCell ⟨O, 0, none⟩ (.slice A5 (n + 1) C5)) := Keep.setCell (X := fun g => (Value.slice A n C).ownBlock = some g ∨ g = O) (p := ⟨O, 0, none⟩) ((Keep.of_ext ((Ext.refl W3).alloc _)).grown hg5 (fun g e => Or.inl (Or.inl e))) (Or.inl (Or.inr rfl)) _
      have hcells : ∀ g, ((Value.slice A n C).ownBlock = some g ∨ g = O) → ∀ o, W3.heap[g]? = some o → o.isCells = true := fun g hX o ho => by
       rcases hX with e | rfl
       ·obtain ⟨cs', hb⟩ := owns_block hown' e
        have hb' : W3.heap[g]? = some (.cells cs' 105) := hb
        rw [hb'] at ho
        cases ho
        rfl
       ·have hb' : W3.heap[g]? = some (.cells _ 48) := hOb.out
        rw [hb'] at ho
        cases ho
        rfl
      have hnX : ∀ g, g < O → ¬ ((Value.slice A n C).ownBlock = some g ∨ g = O) := fun g hg hX => by
       rcases hX with e | e
       ·have := hlow' g e; omega
       ·omega
      have hn5 : (acc ++ [(d, f, t)]).length = n + 1 := by rw [List.length_append, hn.out]; rfl
      have hM5 := Lib.hid ((hM4.out.turned kp hcells).up kp.size)
      have hI5 : Hid (ListI w O (O + 1) (.slice (some ⟨b, off, none⟩) 1 cc) (.slice (some ⟨b2, o2, none⟩) n2 ec) len (s.classes.flatMap (classI len) ++ (s.extra.take (k + 1)).filter hitI) (w5.setCell ⟨O, 0, none⟩ (.slice A5 (n + 1) C5))) := Lib.hid (by
       rw [hst2.out]
       refine ⟨hI4.out.ext.keep kp (fun i hi => hnX i (by omega)), kp.blk hI4.out.sb (hnX _ (by omega)), kp.blk hI4.out.wb (hnX _ (by omega)), A5, C5, ?_, ?_, fun e => by simp at e⟩
       ·rw [hn5]
        exact hOb5.set_ 0 _
       ·unfold InstsO
        rw [hn5, inCells_app]
        exact (keep_set w5 O 0 _).owns hown5 (fun g e h => by have := (hown5.lt g e).1; omega))
      first
      | (refine ⟨⟨k + 1, by omega, by go_num, hI5, hM5⟩, ?_⟩; simp [intOf]; omega)
      | (refine ⟨?_, ?_⟩
         · ((repeat apply Exists.intro); exact ⟨⟨k + 1, by omega, by go_num, hI5, hM5⟩, rfl⟩)
         · simp [intOf]; omega)
    ·have hraw : Hid (s.classes.flatMap (classI len) ++ (s.extra.take k).filter hitI = rawI s) := Lib.hid (by
      unfold rawI
      rw [hlen.out, List.take_of_length_le (by rw [hn2.out]; omega)])
     have hal := preI_len hok'.out len k
     rw [hraw.out] at hI hal
     obtain ⟨acc, hacc⟩ : ∃ acc, Hid (rawI s = acc) := ⟨_, rfl⟩
     rw [hacc.out] at hI hal
     have hR : Hid (listI s = compI (sortI acc)) := Lib.hid (by unfold listI; rw [hacc.out])
     obtain ⟨A, C, hOb0, hOw0, _⟩ := hI.out.out
     obtain ⟨n, hn⟩ : ∃ n, Hid (acc.length = n) := ⟨_, rfl⟩
     rw [hn.out] at hOb0 hOw0 hal
     have hlow' : Hid (∀ g, (Value.slice A n C).ownBlock = some g → O + 1 ≤ g) := Lib.hid (fun g e => by
      have h := hOw0
      unfold InstsO at h
      rw [hn.out] at h
      exact (h.lt g e).1)
     have hcells : Hid (∀ g, (Value.slice A n C).ownBlock = some g → ∀ o, wr.heap[g]? = some o → o.isCells = true) := Lib.hid (fun g e o ho => by
      have h := hOw0
      unfold InstsO at h
      rw [hn.out] at h
      obtain ⟨cs', hb⟩ := owns_block h e
      have hb' : wr.heap[g]? = some (.cells cs' 105) := hb
      rw [hb'] at ho
      cases ho
      rfl)
     have hOb := Lib.hid hOb0
     have hOw := Lib.hid hOw0
     have m0 : wr.cell? ⟨O, 0, none⟩ = some (.slice A n C) := hOb0.cell 0
     have ml := hOb0.lt
     have hx := Lib.hid hI.out.ext
     clear hOb0 hOw0 hraw hacc hI
     gi_wp2_with fail
     refine ⟨trivial, (callsIn_wide.2 (sortIn_calls wr (O + 1) (.slice A n C) acc hOw.out (by rw [hn.out]; omega))).mono ?_⟩
     rintro e W3 ⟨rfl, hO3, hk3⟩
     have hOb3 := Lib.hid (hk3.blk hOb.out (fun e => by have := hlow'.out _ e; omega))
     have m1 : W3.cell? ⟨O, 0, none⟩ = some (.slice A n C) := hOb3.out.cell 0
     have ml3 := hOb3.out.lt
     have hO3' := Lib.hid hO3
     have hk3' := Lib.hid hk3
     clear m0 ml hO3 hk3
     gi_wp2_with fail
     refine ⟨trivial, (callsIn_wide.2 (compact_calls W3 (O + 1) A C n (sortI acc) hO3'.out (by rw [(sortI_perm acc).length_eq, hn.out]; omega))).mono ?_⟩
     rintro e W4 ⟨m, rfl, hR4, hk4⟩
     have hOb4 := Lib.hid (hk4.blk hOb3.out (fun e => by have := hlow'.out _ e; omega))
     have m2 : W4.cell? ⟨O, 0, none⟩ = some (.slice A n C) := hOb4.out.cell 0
     have f2 := hOb4.out.frozen 0
     have ml4 := hOb4.out.lt
     have hm : m ≤ 55 := by
      obtain ⟨_, _, e, _⟩ := hR4.open
      cases e
      have := compI_len (sortI acc)
      rw [(sortI_perm acc).length_eq, hn.out] at this
      omega
     have dm : decide (4096 < (m : Int)) = false := decide_eq_false (by omega)
     have kp : Hid (Keep (fun g => (Value.slice A n C).ownBlock = some g) wr W4) := Lib.hid (hk3'.out.trans hk4)
     have hR5 : Hid (Insts (W4.setCell ⟨O, 0, none⟩ (.slice A m C)) (.slice A m C) (compI (sortI acc))) := Lib.hid (Sl.far hR4 (fun a e => by
      have := hlow'.out a.block (by rw [e]; rfl)
      dsimp only
      omega))
     have hx5 : Hid (Ext w (W4.setCell ⟨O, 0, none⟩ (.slice A m C))) := Lib.hid ((hx.out.keep kp.out (fun i hi e => by have := hlow'.out _ e; omega)).setCell (p := ⟨O, 0, none⟩) (by dsimp only; omega) _)
     have hM5 : Hid (MarksD w (W4.setCell ⟨O, 0, none⟩ (.slice A m C)).heap.size (W4.setCell ⟨O, 0, none⟩ (.slice A m C)) [{ target := .collected D, args := #[] }]) := Lib.hid (by
      have h1 := (hM.out.turned kp.out hcells.out).up kp.out.size
      have k2 : Keep (fun g => g = O) W4 (W4.setCell ⟨O, 0, none⟩ (.slice A m C)) := Keep.setCell (X := fun g => g = O) (p := ⟨O, 0, none⟩) (Keep.refl _ _) (Or.inl rfl) _
      refine (h1.turned k2 (fun g hg o ho => ?_)).up k2.size
      subst hg
      have hb' : W4.heap[g]? = some (.cells _ 48) := hOb4.out
      rw [hb'] at ho
      cases ho
      rfl)
     clear hR4 hk4 hO3' hk3' hOb hOb3 hOb4 m1 ml3 kp hM
     gi_wp2_with fail
     refine postM_cells (w := w) (fun W => results_tmp2 rfl _ _ _) _ _ hM5.out hx5.out (fun W' h1 h2 h3 => ?_)
     rw [hR.out]
     exact ⟨_, rfl, Sl.cells hR5.out h1 h2, h3⟩
  case stop =>
   intro D c W _ hF
   exact hF.elim
 ·have hI3 : Hid (ListI w O (O + 1) (.slice ca 0 cc) (.slice ea n2 ec) len (s.classes.flatMap (classI len)) W0) := Lib.hid (by
   rw [List.eq_nil_of_length_eq_zero hn1.out]
   exact hI0.out)
  have hM3 : Hid (MarksD w W0.heap.size W0 []) := Lib.hid (MarksD.nil _ _ _)
  have t2 : W0.cell? ⟨w.heap.size, 2, none⟩ = some (.slice ea n2 ec) := hI3.out.sb.cell 2
  have tl2 := hI3.out.sb.lt
  clear hI0
  gi_wp2_with fail
  clear t2 tl2
  gi_loopw [11, 66] (fun _ vi wr => ∃ k : Nat, k ≤ n2 ∧ vi = .int .i64 k ∧ Hid (ListI w O (O + 1) (.slice ca 0 cc) (.slice ea n2 ec) len (s.classes.flatMap (classI len) ++ (s.extra.take k).filter hitI) wr) ∧ Hid (MarksD w wr.heap.size wr [])) (fun _ vi _ => n2 - (intOf vi).toNat)
  case atStart => exact ⟨0, by omega, rfl, by rw [List.take_zero, List.filter_nil, List.append_nil]; exact hI3, hM3⟩
  case round =>
   clear hI3 hM3
   obtain ⟨k, hk, rfl, hI, hM⟩ := hrel
   by_cases h2 : k < n2
   ·obtain ⟨b2, o2, d, f, t, rfl, hb2, _, ex2, g0, g1, g2⟩ := eat'.out k (by rw [hn2.out]; exact h2) wr hI.out.ext
    obtain ⟨q, hq⟩ : ∃ q, Hid (hitI (d, f, t) = q) := ⟨_, rfl⟩
    have hcol : Hid (∀ W, Calls Tryz.prog 54 #[.agg #[.int .i64 f, .int .i64 t], .agg #[.int .i64 0, .int .i64 20160]] W fun e w' => e = .returned (.bool q) ∧ Ext W w') := Lib.hid fun W => by
     have := collide_calls f t 0 20160 W
     rwa [show (decide (f < 20160) && decide (0 < t)) = q from hq.out] at this
    have t0 : wr.cell? ⟨w.heap.size + 1, 0, none⟩ = some (.int .i64 0) := hI.out.wb.cell 0
    have t1 : wr.cell? ⟨w.heap.size + 1, 1, none⟩ = some (.int .i64 20160) := hI.out.wb.cell 1
    have tl := hI.out.wb.lt
    have hst : Hid ((s.extra.take (k + 1)).filter hitI = (s.extra.take k).filter hitI ++ (if q then [(d, f, t)] else [])) := Lib.hid (by
     rw [List.take_add_one, ex2.out, Option.toList_some, List.filter_append, List.filter_cons, hq.out]
     cases q <;> rfl)
    clear ex2 hq
    gi_wp2_with fail
    refine ⟨trivial, (callsIn_wide.2 (hcol.out _)).mono ?_⟩
    rintro e W3 ⟨rfl, hx3⟩
    have hx3' := Lib.hid (((Ext.refl wr).alloc (.cells #[.int .i64 d, .int .i64 f, .int .i64 t] 105)).trans hx3)
    have hX : Hid (Blk W3 wr.heap.size 105 #[.int .i64 d, .int .i64 f, .int .i64 t]) := Lib.hid ((Keep.of_ext (X := fun _ => False) hx3).blk (blk_new' rfl rfl) id)
    have hI4 := Lib.hid (hI.out.toExt hx3'.out)
    have hM4 := Lib.hid ((hM.out.ext hx3'.out).up hx3'.out.size)
    have hal := preI_len hok'.out len k
    clear hx3 t0 t1 tl g0 g1 g2 hcol hI hM hb2 hx3'
    cases q with
    | false =>
     have hI5 : Hid (ListI w O (O + 1) (.slice ca 0 cc) (.slice (some ⟨b2, o2, none⟩) n2 ec) len (s.classes.flatMap (classI len) ++ (s.extra.take (k + 1)).filter hitI) W3) := Lib.hid (by rw [hst.out, if_neg (by decide), List.append_nil]; exact hI4.out)
     clear hI4 hX hst hal
     gi_wp2
     go_roundw
     case rel => first | exact ⟨k + 1, by omega, by go_num, hI5, hM4⟩ | ((repeat apply Exists.intro); exact ⟨⟨k + 1, by omega, by go_num, hI5, hM4⟩, rfl⟩)
     case measure => simp [intOf]; omega
    | true =>
     rw [if_pos rfl] at hst
     obtain ⟨acc, hacc⟩ : ∃ acc, Hid (s.classes.flatMap (classI len) ++ (s.extra.take k).filter hitI = acc) := ⟨_, rfl⟩
     have hst2 : Hid (s.classes.flatMap (classI len) ++ (s.extra.take (k + 1)).filter hitI = acc ++ [(d, f, t)]) := Lib.hid (by rw [hst.out, ← List.append_assoc, hacc.out])
     rw [hacc.out] at hI4 hal
     obtain ⟨A, C, hOb0, hOw0, _⟩ := hI4.out.out
     obtain ⟨n, hn⟩ : ∃ n, Hid (acc.length = n) := ⟨_, rfl⟩
     rw [hn.out] at hOb0 hal
     have hOw : Hid (W3.ownsRow (O + 1) 105 3 (.slice A n C) n (inCells acc)) := Lib.hid (by
      have h := hOw0
      unfold InstsO at h
      rwa [hn.out] at h)
     have hOb := Lib.hid hOb0
     have m0 : W3.cell? ⟨O, 0, none⟩ = some (.slice A n C) := hOb0.cell 0
     have ml := hOb0.lt
     have x0 : W3.cell? ⟨wr.heap.size, 0, none⟩ = some (.int .i64 d) := hX.out.cell 0
     have x1 : W3.cell? ⟨wr.heap.size, 1, none⟩ = some (.int .i64 f) := hX.out.cell 1
     have x2 : W3.cell? ⟨wr.heap.size, 2, none⟩ = some (.int .i64 t) := hX.out.cell 2
     have xl := hX.out.lt
     clear hOb0 hOw0 hst hacc
     gi_wp2_with (gi_at_builtin; go_loud (refine wpListIn_append_own _ rfl (.tmp 74) (.tmp 76) _ rfl (O + 1) 105 j0 _ 3 24 Tryz.underlying48 hj0 jz0 jz1 jz2 rfl (by decide) (.slice A n C) n (inCells acc) rfl (owns_ext hOw.out ((Ext.refl _).alloc _)) ⟨W3.heap.size, 0, none⟩ 1 1 [.int .i64 d, .int .i64 f, .int .i64 t] rfl rfl (three_new W3 _ _ _ _) (three_intsQ _ _ _) (by unfold maxLen; omega) (by omega) (by rw [World.size_alloc]; omega) ?_; intro v5 w5 hown5 hg5 _; obtain ⟨A5, C5, rfl⟩ := owns_form hown5; have hlow := (owns_ext hOw.out ((Ext.refl W3).alloc (.cells #[.int .i64 d, .int .i64 f, .int .i64 t] 105))).lt; have hOb5 : Blk w5 O 48 #[.slice A n C] := (Blk.alloc hOb.out _).grown hg5 (fun e => by have := (hlow _ e.symm).1; omega); have m5 : w5.cell? ⟨O, 0, none⟩ = some (.slice A n C) := hOb5.cell 0; have f5 := hOb5.frozen 0; have lt5 := hOb5.lt; clear m0 ml x0 x1 x2 xl))
     have hlow' : ∀ g, (Value.slice A n C).ownBlock = some g → O + 1 ≤ g := fun g e => (hlow g e).1
     have hown' := hOw.out
     have kp : Keep (fun g => (Value.slice A n C).ownBlock = some g ∨ g = O) W3 (w5.setCell ⟨O, 0, none⟩ (.slice A5 (n + 1) C5)) := Keep.setCell (X := fun g => (Value.slice A n C).ownBlock = some g ∨ g = O) (p := ⟨O, 0, none⟩) ((Keep.of_ext ((Ext.refl W3).alloc _)).grown hg5 (fun g e => Or.inl (Or.inl e))) (Or.inl (Or.inr rfl)) _
     have hcells : ∀ g, ((Value.slice A n C).ownBlock = some g ∨ g = O) → ∀ o, W3.heap[g]? = some o → o.isCells = true := fun g hX o ho => by
      rcases hX with e | rfl
      ·obtain ⟨cs', hb⟩ := owns_block hown' e
       have hb' : W3.heap[g]? = some (.cells cs' 105) := hb
       rw [hb'] at ho
       cases ho
       rfl
      ·have hb' : W3.heap[g]? = some (.cells _ 48) := hOb.out
       rw [hb'] at ho
       cases ho
       rfl
     have hnX : ∀ g, g < O → ¬ ((Value.slice A n C).ownBlock = some g ∨ g = O) := fun g hg hX => by
      rcases hX with e | e
      ·have := hlow' g e; omega
      ·omega
     have hn5 : (acc ++ [(d, f, t)]).length = n + 1 := by rw [List.length_append, hn.out]; rfl
     have hM5 := Lib.hid ((hM4.out.turned kp hcells).up kp.size)
     have hI5 : Hid (ListI w O (O + 1) (.slice ca 0 cc) (.slice (some ⟨b2, o2, none⟩) n2 ec) len (s.classes.flatMap (classI len) ++ (s.extra.take (k + 1)).filter hitI) (w5.setCell ⟨O, 0, none⟩ (.slice A5 (n + 1) C5))) := Lib.hid (by
      rw [hst2.out]
      refine ⟨hI4.out.ext.keep kp (fun i hi => hnX i (by omega)), kp.blk hI4.out.sb (hnX _ (by omega)), kp.blk hI4.out.wb (hnX _ (by omega)), A5, C5, ?_, ?_, fun e => by simp at e⟩
      ·rw [hn5]
       exact hOb5.set_ 0 _
      ·unfold InstsO
       rw [hn5, inCells_app]
       exact (keep_set w5 O 0 _).owns hown5 (fun g e h => by have := (hown5.lt g e).1; omega))
     first
     | (refine ⟨⟨k + 1, by omega, by go_num, hI5, hM5⟩, ?_⟩; simp [intOf]; omega)
     | (refine ⟨?_, ?_⟩
        · ((repeat apply Exists.intro); exact ⟨⟨k + 1, by omega, by go_num, hI5, hM5⟩, rfl⟩)
        · simp [intOf]; omega)
   ·have hraw : Hid (s.classes.flatMap (classI len) ++ (s.extra.take k).filter hitI = rawI s) := Lib.hid (by
     unfold rawI
     rw [hlen.out, List.take_of_length_le (by rw [hn2.out]; omega)])
    have hal := preI_len hok'.out len k
    rw [hraw.out] at hI hal
    obtain ⟨acc, hacc⟩ : ∃ acc, Hid (rawI s = acc) := ⟨_, rfl⟩
    rw [hacc.out] at hI hal
    have hR : Hid (listI s = compI (sortI acc)) := Lib.hid (by unfold listI; rw [hacc.out])
    obtain ⟨A, C, hOb0, hOw0, _⟩ := hI.out.out
    obtain ⟨n, hn⟩ : ∃ n, Hid (acc.length = n) := ⟨_, rfl⟩
    rw [hn.out] at hOb0 hOw0 hal
    have hlow' : Hid (∀ g, (Value.slice A n C).ownBlock = some g → O + 1 ≤ g) := Lib.hid (fun g e => by
     have h := hOw0
     unfold InstsO at h
     rw [hn.out] at h
     exact (h.lt g e).1)
    have hcells : Hid (∀ g, (Value.slice A n C).ownBlock = some g → ∀ o, wr.heap[g]? = some o → o.isCells = true) := Lib.hid (fun g e o ho => by
     have h := hOw0
     unfold InstsO at h
     rw [hn.out] at h
     obtain ⟨cs', hb⟩ := owns_block h e
     have hb' : wr.heap[g]? = some (.cells cs' 105) := hb
     rw [hb'] at ho
     cases ho
     rfl)
    have hOb := Lib.hid hOb0
    have hOw := Lib.hid hOw0
    have m0 : wr.cell? ⟨O, 0, none⟩ = some (.slice A n C) := hOb0.cell 0
    have ml := hOb0.lt
    have hx := Lib.hid hI.out.ext
    clear hOb0 hOw0 hraw hacc hI
    gi_wp2_with fail
    refine ⟨trivial, (callsIn_wide.2 (sortIn_calls wr (O + 1) (.slice A n C) acc hOw.out (by rw [hn.out]; omega))).mono ?_⟩
    rintro e W3 ⟨rfl, hO3, hk3⟩
    have hOb3 := Lib.hid (hk3.blk hOb.out (fun e => by have := hlow'.out _ e; omega))
    have m1 : W3.cell? ⟨O, 0, none⟩ = some (.slice A n C) := hOb3.out.cell 0
    have ml3 := hOb3.out.lt
    have hO3' := Lib.hid hO3
    have hk3' := Lib.hid hk3
    clear m0 ml hO3 hk3
    gi_wp2_with fail
    refine ⟨trivial, (callsIn_wide.2 (compact_calls W3 (O + 1) A C n (sortI acc) hO3'.out (by rw [(sortI_perm acc).length_eq, hn.out]; omega))).mono ?_⟩
    rintro e W4 ⟨m, rfl, hR4, hk4⟩
    have hOb4 := Lib.hid (hk4.blk hOb3.out (fun e => by have := hlow'.out _ e; omega))
    have m2 : W4.cell? ⟨O, 0, none⟩ = some (.slice A n C) := hOb4.out.cell 0
    have f2 := hOb4.out.frozen 0
    have ml4 := hOb4.out.lt
    have hm : m ≤ 55 := by
     obtain ⟨_, _, e, _⟩ := hR4.open
     cases e
     have := compI_len (sortI acc)
     rw [(sortI_perm acc).length_eq, hn.out] at this
     omega
    have dm : decide (4096 < (m : Int)) = false := decide_eq_false (by omega)
    have kp : Hid (Keep (fun g => (Value.slice A n C).ownBlock = some g) wr W4) := Lib.hid (hk3'.out.trans hk4)
    have hR5 : Hid (Insts (W4.setCell ⟨O, 0, none⟩ (.slice A m C)) (.slice A m C) (compI (sortI acc))) := Lib.hid (Sl.far hR4 (fun a e => by
     have := hlow'.out a.block (by rw [e]; rfl)
     dsimp only
     omega))
    have hx5 : Hid (Ext w (W4.setCell ⟨O, 0, none⟩ (.slice A m C))) := Lib.hid ((hx.out.keep kp.out (fun i hi e => by have := hlow'.out _ e; omega)).setCell (p := ⟨O, 0, none⟩) (by dsimp only; omega) _)
    have hM5 : Hid (MarksD w (W4.setCell ⟨O, 0, none⟩ (.slice A m C)).heap.size (W4.setCell ⟨O, 0, none⟩ (.slice A m C)) []) := Lib.hid (by
     have h1 := (hM.out.turned kp.out hcells.out).up kp.out.size
     have k2 : Keep (fun g => g = O) W4 (W4.setCell ⟨O, 0, none⟩ (.slice A m C)) := Keep.setCell (X := fun g => g = O) (p := ⟨O, 0, none⟩) (Keep.refl _ _) (Or.inl rfl) _
     refine (h1.turned k2 (fun g hg o ho => ?_)).up k2.size
     subst hg
     have hb' : W4.heap[g]? = some (.cells _ 48) := hOb4.out
     rw [hb'] at ho
     cases ho
     rfl)
    clear hR4 hk4 hO3' hk3' hOb hOb3 hOb4 m1 ml3 kp hM
    gi_wp2_with fail
    refine postM_cells (w := w) (fun W => results_tmp2 rfl _ _ _) _ _ hM5.out hx5.out (fun W' h1 h2 h3 => ?_)
    rw [hR.out]
    exact ⟨_, rfl, Sl.cells hR5.out h1 h2, h3⟩
end Go.Proofs.YtepcdhpikpmepaaGreat
