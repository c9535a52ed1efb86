/- Walk of mixed.late's closure at the start: the loop over the cycle of the one factor. -/
import Derived.Test.YtepcdhpikpmepaaGreatTFQ
import Derived.Test.YtepcdhpikpmepaaGreatTBQ
import Derived.Test.YtepcdhpikpmepaaGreatHIQ
namespace Go.Proofs.YtepcdhpikpmepaaGreat
open Go.RowKit Go.Shelf
attribute [local go_sem] Oper.semAt_some run_store_funcT

theorem rising_mem {P : Int} {cs : List Int} {low : Int} (h : risingP low P cs = true) : ∀ c ∈ cs, low < c ∧ c < P := by
 induction cs generalizing low with
 | nil => intro c hc; cases hc
 | cons x t ih =>
  unfold risingP at h
  split at h
  ·cases h
  ·intro c hc
   rcases List.mem_cons.1 hc with rfl | hc
   ·omega
   ·have := ih h c hc
    omega
theorem rising_mem' {P : Int} {cs : List Int} (h : risingP (-1) P cs = true) : ∀ c ∈ cs, 0 ≤ c ∧ c < P := fun c hc => by
 have := rising_mem h c hc
 omega
def lateS (P n : Int) (s : Int × Bool) (r : Int) : Int × Bool := (min (upA r P n) s.1, s.2 || decide (upA r P n ≤ s.1))
def lateF (P n : Int) (rs : List Int) (s : Int × Bool) : Int × Bool := rs.foldl (lateS P n) s
theorem lateF_take {P n : Int} {rs : List Int} {s : Int × Bool} {k : Nat} (h : k < rs.length) : lateF P n (rs.take (k + 1)) s = lateS P n (lateF P n (rs.take k) s) rs[k] := by
 unfold lateF
 rw [List.take_succ_eq_append_getElem h, List.foldl_append]
 rfl
def clsC (R q : Int) (b : Bool) : Array Value := match b with | true => #[.int .i64 R, .int .i64 q] | false => #[.int .i64 0, .int .i64 0]
structure LtI (wr : World) (b1 o1 b3 o3 pc hcp m cc : Nat) (ha : Option Addr) (R q c f : Int) (T : Nat → Bool) (v28 v29 v30 v31 v32 v33 v34 v35 v36 v37 v38 v39 v40 v27 v41 v42 v11 v12 : Value) (W : World) : Prop where
 ext : Ext wr W
 f0 : T 0 = true → v28 = (.agg #[.int .i64 0, .int .i64 1])
 f1 : T 1 = true → v29 = (.slice (some ⟨b1, o1, none⟩) 1 pc)
 f2 : T 2 = true → v30 = (.int .i64 0)
 f3 : T 3 = true → v31 = (.pointer (some ⟨b1, o1, none⟩))
 f4 : T 4 = true → v32 = (.agg #[.slice ha 0 hcp, .int .i64 f, .int .i64 q, .slice (some ⟨b3, o3, none⟩) m cc])
 f5 : T 5 = true → v33 = (.int .i64 c)
 f6 : T 6 = true → v34 = (.int .i64 R)
 f7 : T 7 = true → v35 = (.slice (some ⟨b1, o1, none⟩) 1 pc)
 f8 : T 8 = true → v36 = (.int .i64 0)
 f9 : T 9 = true → v37 = (.pointer (some ⟨b1, o1, none⟩))
 f10 : T 10 = true → v38 = (.pointer (some ⟨b1, o1 + 2, none⟩))
 f11 : T 11 = true → v39 = (.int .i64 q)
 f12 : T 12 = true → v40 = (.tuple #[.agg #[.int .i64 R, .int .i64 q], .bool true])
 f13 : T 13 = true → v27 = (.tuple #[.agg #[.int .i64 R, .int .i64 q], .bool true])
 f14 : T 14 = true → v41 = (.agg #[.int .i64 R, .int .i64 q])
 f15 : T 15 = true → v42 = (.bool true)
 f16 : T 16 = true → ∃ gc, v11 = .pointer (some ⟨gc, 0, none⟩) ∧ wr.heap.size ≤ gc ∧ Blk W gc 209 (clsC R q (T 17))
 f17 : T 17 = true → T 16 = true
 f18 : T 18 = true → v12 = (.bool true)
set_option maxHeartbeats 3200000 in
set_option maxRecDepth 100000 in
theorem late1_start (Tb Fb Nb Lb Db : Nat) (pa : Option Addr) (pc : Nat) (n L : Int) (d : Bool) (p : PerD) (w0 w : World) (hE0 : Ext w0 w) (hL0 : w0.heap.size ≤ Lb) (hD0 : w0.heap.size ≤ Db) (hP : Pers w0 (.slice pa 1 pc) [p]) (hok : PerOk p) (hT : Blk w Tb 108 #[.slice pa 1 pc]) (hI : LateI w Nb Lb Db n L d)
  (hF : Blk w Fb 207 #[.func (.func 129) #[] #[.pointer (some ⟨Tb, 0, none⟩), .pointer (some ⟨Fb, 0, none⟩), .pointer (some ⟨Nb, 0, none⟩), .pointer (some ⟨Lb, 0, none⟩), .pointer (some ⟨Db, 0, none⟩)]])
  (n0 : 0 ≤ n) (n1 : n ≤ 1000000000000) :
  Calls Tryz.prog 129 #[.int .i64 0, .agg #[.int .i64 0, .int .i64 1], .pointer (some ⟨Tb, 0, none⟩), .pointer (some ⟨Fb, 0, none⟩), .pointer (some ⟨Nb, 0, none⟩), .pointer (some ⟨Lb, 0, none⟩), .pointer (some ⟨Db, 0, none⟩)] w
   fun e w' => e = .returned (.tuple #[]) ∧ Keep (fun k => k = Lb ∨ k = Db) w w' ∧ LateI w' Nb Lb Db n (lateF p.period n (p.cycle.map (resD p)) (L, d)).1 (lateF p.period n (p.cycle.map (resD p)) (L, d)).2 := by
 have hT' := Lib.hid hT
 have hI' := Lib.hid hI
 have hF' := Lib.hid hF
 have hP' := Lib.hid hP
 have hok' := Lib.hid hok
 have hE0' := Lib.hid hE0
 have hLD : Hid (∀ i, i < w0.heap.size → ¬ (i = Lb ∨ i = Db)) := Lib.hid (fun i hi e => by omega)
 clear hT hI hF hP hok hE0 hL0 hD0
 have t0 : w.cell? ⟨Tb, 0, none⟩ = some (.slice pa 1 pc) := hT'.out.cell 0
 have tl := hT'.out.lt
 go_enter Tryz.func129, Tryz.ntmps129
 go_upto_region 1 with (fail)
 obtain ⟨cb, hcb⟩ : ∃ cb, Hid (w.heap.size = cb) := ⟨_, rfl⟩
 rw [hcb.out]
 refine wp_abs (S := fun W => Hid (Ext w W) ∧ Hid (Blk W cb 209 #[.int .i64 0, .int .i64 1])) ?_ ?_
 ·exact ⟨Lib.hid (by exact (by with_reducible repeat' (first | exact Ext.refl _ | assumption | refine Ext.drewN ?_ _ | refine Ext.drew ?_ | refine Ext.alloc ?_ _ | refine Ext.trans ?_ (by with_reducible assumption)))), Lib.hid (blk_new' hcb.out.symm rfl)⟩
 rintro W1 ⟨hE, hB⟩
 have hT1 := Lib.hid ((Keep.of_ext (X := fun _ => False) hE.out).blk hT'.out id)
 clear t0 tl
 have t0 : W1.cell? ⟨Tb, 0, none⟩ = some (.slice pa 1 pc) := hT1.out.cell 0
 have tl := hT1.out.lt
 obtain ⟨_, _, ep, hn, hc, hat⟩ := hP'.out.open
 cases ep
 obtain ⟨b1, o1, p', ha, hcp, ca, cc, rfl, hb1, _, ex, G0, G1, G2, G3, gh, gc⟩ := hat 0 (by simp) w0 (Ext.refl _)
 obtain rfl : p = p' := by simpa using ex.out
 simp only [Nat.zero_mul, Nat.add_zero] at G0 G1 G2 G3
 obtain ⟨m, hm⟩ : ∃ m, Hid (p.cycle.length = m) := ⟨_, rfl⟩
 have hPv : Hid (PerV w0 (.agg #[.slice ha p.head.length hcp, .int .i64 p.from_, .int .i64 p.period, .slice ca m cc]) p) := Lib.hid (by rw [← hm.out]; exact ⟨_, _, rfl, gh, gc⟩)
 rw [hm.out] at G3
 obtain ⟨f, hf⟩ : ∃ f, Hid (p.from_ = f) := ⟨_, rfl⟩
 obtain ⟨q, hq⟩ : ∃ q, Hid (p.period = q) := ⟨_, rfl⟩
 have e0 := hok'.out.1
 rw [hf.out, hq.out, e0, List.length_nil] at hPv
 rw [e0, List.length_nil] at G0
 rw [hf.out] at G1
 rw [hq.out] at G2
 have hG := Lib.hid (And.intro G0 (And.intro G1 (And.intro G2 G3)))
 have hb1' := Lib.hid hb1
 obtain ⟨_, _, ec, hl, _, hcat⟩ := gc.open
 cases ec
 rw [hm.out] at hl
 have hcat' := Lib.hid hcat
 have g3 := (hE0'.out.trans hE.out).cell G3
 have g0 := Nat.lt_of_lt_of_le hb1 (hE0'.out.trans hE.out).size
 clear gh gc hat ex hc hn G0 G1 G2 G3 hcat e0 hb1
 have hcbL : Hid (¬ (cb = Lb ∨ cb = Db)) := Lib.hid (by have := hcb.out; have := hI'.out.lb.lt; have := hI'.out.db.lt; omega)
 have hTL : Hid (¬ (Tb = Lb ∨ Tb = Db)) := Lib.hid (fun h => h.elim (hT'.out.ne_ hI'.out.lb (by decide)) (hT'.out.ne_ hI'.out.db (by decide)))
 have hFL : Hid (¬ (Fb = Lb ∨ Fb = Db)) := Lib.hid (fun h => h.elim (hF'.out.ne_ hI'.out.lb (by decide)) (hF'.out.ne_ hI'.out.db (by decide)))
 have hF1 := Lib.hid ((Keep.of_ext (X := fun _ => False) hE.out).blk hF'.out id)
 have hI1 : Hid (LateI W1 Nb Lb Db n L d) := Lib.hid (let k := Keep.of_ext (X := fun _ => False) hE.out; ⟨k.blk hI'.out.nb id, k.blk hI'.out.lb id, k.blk hI'.out.db id, hI'.out.ne⟩)
 go_wp2_with fail
 go_loopw [10, 11, 12, 23] (fun _ _ _ vi wr => ∃ k : Nat, k ≤ m ∧ vi = .int .i64 (k : Int) ∧ Hid (Keep (fun q => q = Lb ∨ q = Db) W1 wr) ∧ Hid (LateI wr Nb Lb Db n (lateF p.period n ((p.cycle.map (resD p)).take k) (L, d)).1 (lateF p.period n ((p.cycle.map (resD p)).take k) (L, d)).2)) (fun _ _ _ vi _ => m - (intOf vi).toNat)
 case atStart => exact ⟨0, Nat.zero_le _, rfl, Lib.hid (Keep.of_ext (Ext.refl _)), by simpa [lateF] using hI1⟩
 case round =>
  obtain ⟨k, hk, rfl, hK, hI2⟩ := hrel
  have hE2 : Hid (Ext w0 wr) := Lib.hid ((hE0'.out.trans hE.out).keep hK.out hLD.out)
  have hB2 := Lib.hid (hK.out.blk hB.out hcbL.out)
  have hT2 := Lib.hid (hK.out.blk hT1.out hTL.out)
  have hF2 := Lib.hid (hK.out.blk hF1.out hFL.out)
  have e1 := Lib.hid hE
  clear t0 tl g0 g3 hE hB hT1 hF1 hI1
  by_cases hkm : k < m
  ·obtain ⟨b3, o3, c, rfl, hb3, _, ec2, k0⟩ := hcat'.out k (by rw [hm.out]; exact hkm) wr hE2.out
   obtain ⟨hc0, hc1⟩ := rising_mem' hok'.out.2.2.2.2.2.2.2 c (List.mem_of_getElem? ec2.out)
   have hres := Lib.hid (fun (W : World) (x : Ext wr W) => residue_calls _ p c W (hPv.out.ext (hE2.out.trans x)) hok'.out hc0 hc1)
   obtain ⟨R, hR⟩ : ∃ R, Hid (resD p c = R) := ⟨_, rfl⟩
   have hRb : 0 ≤ R ∧ R < q ∧ 1 ≤ q ∧ q ≤ 1000 := by
    obtain ⟨_, _, _, q0, q1, _⟩ := hok'.out
    rw [← hR.out, ← hq.out]
    unfold resD
    exact ⟨Int.emod_nonneg _ (by omega), Int.emod_lt_of_pos _ (by omega), q0, q1⟩
   have hmt : Hid (∀ W, Calls Tryz.prog 130 #[.agg #[.int .i64 0, .int .i64 1], .int .i64 R, .int .i64 q] W fun e w' => e = .returned (.tuple #[.agg #[.int .i64 R, .int .i64 q], .bool true]) ∧ Ext W w') := by
    intro W
    obtain ⟨r, hr⟩ : ∃ r : Nat, R = (r : Int) := ⟨R.toNat, by omega⟩
    obtain ⟨t, ht⟩ : ∃ t : Nat, q = (t : Int) := ⟨q.toNat, by omega⟩
    rw [hr, ht]
    have h := classMeet_calls r t (by omega) (by omega) (by omega) W
    have e : meetD r t = (r, t) := by
     unfold meetD
     split
     ·rw [show r = 0 by omega, show t = 1 by omega]
     ·rfl
    rw [e] at h
    exact h
   rw [hR.out] at hres
   have c0 : wr.cell? ⟨cb, 0, none⟩ = some (.int .i64 0) := hB2.out.cell 0
   have c1 : wr.cell? ⟨cb, 1, none⟩ = some (.int .i64 1) := hB2.out.cell 1
   have t0 : wr.cell? ⟨Tb, 0, none⟩ = some (.slice (some ⟨b1, o1, none⟩) 1 pc) := hT2.out.cell 0
   have g0 := hE2.out.cell hG.out.1
   have g1 := hE2.out.cell hG.out.2.1
   have g2 := hE2.out.cell hG.out.2.2.1
   have g3 := hE2.out.cell hG.out.2.2.2
   have z0 := After.cell c0
   have z1 := After.cell c1
   have z2 := After.cell t0
   have z3 := After.cell g0
   have z4 := After.cell g1
   have z5 := After.cell g2
   have z6 := After.cell g3
   have dk : decide (k < m) = true := decide_eq_true hkm
   go_upto_region 5 with (fail)
   refine wp_region_invM (fun A T a W => ∃ v28 v29 v30 v31 v32 v33 v34 v35 v36 v37 v38 v39 v40 v27 v41 v42 v11 v12, a = ((((((((((((((((((A.put (some 28) v28).put (some 29) v29).put (some 30) v30).put (some 31) v31).put (some 32) v32).put (some 33) v33).put (some 34) v34).put (some 35) v35).put (some 36) v36).put (some 37) v37).put (some 38) v38).put (some 39) v39).put (some 40) v40).put (some 27) v27).put (some 41) v41).put (some 42) v42).put (some 11) v11).put (some 12) v12) ∧ LtI wr b1 o1 b3 o3 pc hcp m cc ha R q c f T v28 v29 v30 v31 v32 v33 v34 v35 v36 v37 v38 v39 v40 v27 v41 v42 v11 v12 W) (by kernel_rfl) (by kernel_rfl) ?_ ?_ ?_
   ·exact ⟨u28, u29, u30, u31, u32, u33, u34, u35, u36, u37, u38, u39, u40, u27, u41, u42, u11, u12, (by simp only [Act.put, List.setIfInBounds_toArray, List.set_cons_succ, List.set_cons_zero]), ⟨(Ext.refl _).drew, (fun q => by cases q), (fun q => by cases q), (fun q => by cases q), (fun q => by cases q), (fun q => by cases q), (fun q => by cases q), (fun q => by cases q), (fun q => by cases q), (fun q => by cases q), (fun q => by cases q), (fun q => by cases q), (fun q => by cases q), (fun q => by cases q), (fun q => by cases q), (fun q => by cases q), (fun q => by cases q), (fun q => by cases q), (fun q => by cases q), (fun q => by cases q)⟩⟩
   ·refine ⟨⟨rfl, ?_⟩, ⟨rfl, ?_⟩, ⟨rfl, ?_⟩, ⟨rfl, ?_⟩, ⟨rfl, ?_⟩, ⟨rfl, ?_⟩, ⟨rfl, ?_⟩, ⟨rfl, ?_⟩, ⟨rfl, ?_⟩, ⟨rfl, ?_⟩, ⟨rfl, ?_⟩, ⟨rfl, ?_⟩, ⟨rfl, ?_⟩, ⟨rfl, ?_⟩, ⟨rfl, ?_⟩, ⟨rfl, ?_⟩, ⟨rfl, ?_⟩, ⟨rfl, ?_⟩, ⟨rfl, ?_⟩, trivial⟩
    ·rintro T _ W ⟨v28, v29, v30, v31, v32, v33, v34, v35, v36, v37, v38, v39, v40, v27, v41, v42, v11, v12, rfl, hI⟩ hL hd K hK
     simp only [Act.put, List.setIfInBounds_toArray, List.set_cons_succ, List.set_cons_zero]
     have c0 := hI.ext.cell c0
     have c1 := hI.ext.cell c1
     go_simp
     refine hK _ _ ⟨_, v29, v30, v31, v32, v33, v34, v35, v36, v37, v38, v39, v40, v27, v41, v42, v11, v12, (by simp only [Act.put, List.setIfInBounds_toArray, List.set_cons_succ, List.set_cons_zero]), ⟨hI.ext, fun _ => rfl, hI.f1, hI.f2, hI.f3, hI.f4, hI.f5, hI.f6, hI.f7, hI.f8, hI.f9, hI.f10, hI.f11, hI.f12, hI.f13, hI.f14, hI.f15, hI.f16, hI.f17, hI.f18⟩⟩
    ·rintro T _ W ⟨v28, v29, v30, v31, v32, v33, v34, v35, v36, v37, v38, v39, v40, v27, v41, v42, v11, v12, rfl, hI⟩ hL hd K hK
     simp only [Act.put, List.setIfInBounds_toArray, List.set_cons_succ, List.set_cons_zero]
     have t0 := hI.ext.cell t0
     go_simp
     refine hK _ _ ⟨v28, _, v30, v31, v32, v33, v34, v35, v36, v37, v38, v39, v40, v27, v41, v42, v11, v12, (by simp only [Act.put, List.setIfInBounds_toArray, List.set_cons_succ, List.set_cons_zero]), ⟨hI.ext, hI.f0, fun _ => rfl, hI.f2, hI.f3, hI.f4, hI.f5, hI.f6, hI.f7, hI.f8, hI.f9, hI.f10, hI.f11, hI.f12, hI.f13, hI.f14, hI.f15, hI.f16, hI.f17, hI.f18⟩⟩
    ·rintro T _ W ⟨v28, v29, v30, v31, v32, v33, v34, v35, v36, v37, v38, v39, v40, v27, v41, v42, v11, v12, rfl, hI⟩ hL hd K hK
     simp only [Act.put, List.setIfInBounds_toArray, List.set_cons_succ, List.set_cons_zero]
     go_simp
     refine hK _ _ ⟨v28, v29, _, v31, v32, v33, v34, v35, v36, v37, v38, v39, v40, v27, v41, v42, v11, v12, (by simp only [Act.put, List.setIfInBounds_toArray, List.set_cons_succ, List.set_cons_zero]), ⟨hI.ext, hI.f0, hI.f1, fun _ => rfl, hI.f3, hI.f4, hI.f5, hI.f6, hI.f7, hI.f8, hI.f9, hI.f10, hI.f11, hI.f12, hI.f13, hI.f14, hI.f15, hI.f16, hI.f17, hI.f18⟩⟩
    ·rintro T _ W ⟨v28, v29, v30, v31, v32, v33, v34, v35, v36, v37, v38, v39, v40, v27, v41, v42, v11, v12, rfl, hI⟩ hL hd K hK
     simp only [Act.put, List.setIfInBounds_toArray, List.set_cons_succ, List.set_cons_zero]
     obtain rfl := hI.f1 (by have h := hd; simp [Region.binds] at h; first | exact h | exact h.1 | exact h.2 | exact h.2.1 | exact h.2.2 | exact h.2.2.1 | exact h.2.2.2)
     obtain rfl := hI.f2 (by have h := hd; simp [Region.binds] at h; first | exact h | exact h.1 | exact h.2 | exact h.2.1 | exact h.2.2 | exact h.2.2.1 | exact h.2.2.2)
     go_simp
     refine hK _ _ ⟨v28, _, _, _, v32, v33, v34, v35, v36, v37, v38, v39, v40, v27, v41, v42, v11, v12, (by simp only [Act.put, List.setIfInBounds_toArray, List.set_cons_succ, List.set_cons_zero]), ⟨hI.ext, hI.f0, hI.f1, hI.f2, fun _ => rfl, hI.f4, hI.f5, hI.f6, hI.f7, hI.f8, hI.f9, hI.f10, hI.f11, hI.f12, hI.f13, hI.f14, hI.f15, hI.f16, hI.f17, hI.f18⟩⟩
    ·rintro T _ W ⟨v28, v29, v30, v31, v32, v33, v34, v35, v36, v37, v38, v39, v40, v27, v41, v42, v11, v12, rfl, hI⟩ hL hd K hK
     simp only [Act.put, List.setIfInBounds_toArray, List.set_cons_succ, List.set_cons_zero]
     obtain rfl := hI.f3 (by have h := hd; simp [Region.binds] at h; first | exact h | exact h.1 | exact h.2 | exact h.2.1 | exact h.2.2 | exact h.2.2.1 | exact h.2.2.2)
     have g0 := hI.ext.cell g0
     have g1 := hI.ext.cell g1
     have g2 := hI.ext.cell g2
     have g3 := hI.ext.cell g3
     go_simp
     refine hK _ _ ⟨v28, v29, v30, _, _, v33, v34, v35, v36, v37, v38, v39, v40, v27, v41, v42, v11, v12, (by simp only [Act.put, List.setIfInBounds_toArray, List.set_cons_succ, List.set_cons_zero]), ⟨hI.ext, hI.f0, hI.f1, hI.f2, hI.f3, fun _ => rfl, hI.f5, hI.f6, hI.f7, hI.f8, hI.f9, hI.f10, hI.f11, hI.f12, hI.f13, hI.f14, hI.f15, hI.f16, hI.f17, hI.f18⟩⟩
    ·rintro T _ W ⟨v28, v29, v30, v31, v32, v33, v34, v35, v36, v37, v38, v39, v40, v27, v41, v42, v11, v12, rfl, hI⟩ hL hd K hK
     simp only [Act.put, List.setIfInBounds_toArray, List.set_cons_succ, List.set_cons_zero]
     go_simp
     refine hK _ _ ⟨v28, v29, v30, v31, v32, _, v34, v35, v36, v37, v38, v39, v40, v27, v41, v42, v11, v12, (by simp only [Act.put, List.setIfInBounds_toArray, List.set_cons_succ, List.set_cons_zero]), ⟨hI.ext, hI.f0, hI.f1, hI.f2, hI.f3, hI.f4, fun _ => rfl, hI.f6, hI.f7, hI.f8, hI.f9, hI.f10, hI.f11, hI.f12, hI.f13, hI.f14, hI.f15, hI.f16, hI.f17, hI.f18⟩⟩
    ·rintro T _ W ⟨v28, v29, v30, v31, v32, v33, v34, v35, v36, v37, v38, v39, v40, v27, v41, v42, v11, v12, rfl, hI⟩ hL hd K hK
     simp only [Act.put, List.setIfInBounds_toArray, List.set_cons_succ, List.set_cons_zero]
     obtain rfl := hI.f4 (by have h := hd; simp [Region.binds] at h; first | exact h | exact h.1 | exact h.2 | exact h.2.1 | exact h.2.2 | exact h.2.2.1 | exact h.2.2.2)
     obtain rfl := hI.f5 (by have h := hd; simp [Region.binds] at h; first | exact h | exact h.1 | exact h.2 | exact h.2.1 | exact h.2.2 | exact h.2.2.1 | exact h.2.2.2)
     go_simp
     refine (hres.out W hI.ext).mono ?_
     rintro e W' ⟨rfl, hx⟩
     refine hK _ _ ⟨v28, v29, v30, v31, _, _, _, v35, v36, v37, v38, v39, v40, v27, v41, v42, v11, v12, (by simp only [Act.put, List.setIfInBounds_toArray, List.set_cons_succ, List.set_cons_zero]), ⟨hI.ext.trans hx, hI.f0, hI.f1, hI.f2, hI.f3, hI.f4, hI.f5, fun _ => rfl, hI.f7, hI.f8, hI.f9, hI.f10, hI.f11, hI.f12, hI.f13, hI.f14, hI.f15, fun e => let ⟨g, a, b, d⟩ := hI.f16 e; ⟨g, a, b, (Keep.of_ext (X := fun _ => False) hx).blk d id⟩, hI.f17, hI.f18⟩⟩
    ·rintro T _ W ⟨v28, v29, v30, v31, v32, v33, v34, v35, v36, v37, v38, v39, v40, v27, v41, v42, v11, v12, rfl, hI⟩ hL hd K hK
     simp only [Act.put, List.setIfInBounds_toArray, List.set_cons_succ, List.set_cons_zero]
     have t0 := hI.ext.cell t0
     go_simp
     refine hK _ _ ⟨v28, v29, v30, v31, v32, v33, v34, _, v36, v37, v38, v39, v40, v27, v41, v42, v11, v12, (by simp only [Act.put, List.setIfInBounds_toArray, List.set_cons_succ, List.set_cons_zero]), ⟨hI.ext, hI.f0, hI.f1, hI.f2, hI.f3, hI.f4, hI.f5, hI.f6, fun _ => rfl, hI.f8, hI.f9, hI.f10, hI.f11, hI.f12, hI.f13, hI.f14, hI.f15, hI.f16, hI.f17, hI.f18⟩⟩
    ·rintro T _ W ⟨v28, v29, v30, v31, v32, v33, v34, v35, v36, v37, v38, v39, v40, v27, v41, v42, v11, v12, rfl, hI⟩ hL hd K hK
     simp only [Act.put, List.setIfInBounds_toArray, List.set_cons_succ, List.set_cons_zero]
     go_simp
     refine hK _ _ ⟨v28, v29, v30, v31, v32, v33, v34, v35, _, v37, v38, v39, v40, v27, v41, v42, v11, v12, (by simp only [Act.put, List.setIfInBounds_toArray, List.set_cons_succ, List.set_cons_zero]), ⟨hI.ext, hI.f0, hI.f1, hI.f2, hI.f3, hI.f4, hI.f5, hI.f6, hI.f7, fun _ => rfl, hI.f9, hI.f10, hI.f11, hI.f12, hI.f13, hI.f14, hI.f15, hI.f16, hI.f17, hI.f18⟩⟩
    ·rintro T _ W ⟨v28, v29, v30, v31, v32, v33, v34, v35, v36, v37, v38, v39, v40, v27, v41, v42, v11, v12, rfl, hI⟩ hL hd K hK
     simp only [Act.put, List.setIfInBounds_toArray, List.set_cons_succ, List.set_cons_zero]
     obtain rfl := hI.f7 (by have h := hd; simp [Region.binds] at h; first | exact h | exact h.1 | exact h.2 | exact h.2.1 | exact h.2.2 | exact h.2.2.1 | exact h.2.2.2)
     obtain rfl := hI.f8 (by have h := hd; simp [Region.binds] at h; first | exact h | exact h.1 | exact h.2 | exact h.2.1 | exact h.2.2 | exact h.2.2.1 | exact h.2.2.2)
     go_simp
     refine hK _ _ ⟨v28, v29, v30, v31, v32, v33, v34, _, _, _, v38, v39, v40, v27, v41, v42, v11, v12, (by simp only [Act.put, List.setIfInBounds_toArray, List.set_cons_succ, List.set_cons_zero]), ⟨hI.ext, hI.f0, hI.f1, hI.f2, hI.f3, hI.f4, hI.f5, hI.f6, hI.f7, hI.f8, fun _ => rfl, hI.f10, hI.f11, hI.f12, hI.f13, hI.f14, hI.f15, hI.f16, hI.f17, hI.f18⟩⟩
    ·rintro T _ W ⟨v28, v29, v30, v31, v32, v33, v34, v35, v36, v37, v38, v39, v40, v27, v41, v42, v11, v12, rfl, hI⟩ hL hd K hK
     simp only [Act.put, List.setIfInBounds_toArray, List.set_cons_succ, List.set_cons_zero]
     obtain rfl := hI.f9 (by have h := hd; simp [Region.binds] at h; first | exact h | exact h.1 | exact h.2 | exact h.2.1 | exact h.2.2 | exact h.2.2.1 | exact h.2.2.2)
     go_simp
     refine hK _ _ ⟨v28, v29, v30, v31, v32, v33, v34, v35, v36, _, _, v39, v40, v27, v41, v42, v11, v12, (by simp only [Act.put, List.setIfInBounds_toArray, List.set_cons_succ, List.set_cons_zero]), ⟨hI.ext, hI.f0, hI.f1, hI.f2, hI.f3, hI.f4, hI.f5, hI.f6, hI.f7, hI.f8, hI.f9, fun _ => rfl, hI.f11, hI.f12, hI.f13, hI.f14, hI.f15, hI.f16, hI.f17, hI.f18⟩⟩
    ·rintro T _ W ⟨v28, v29, v30, v31, v32, v33, v34, v35, v36, v37, v38, v39, v40, v27, v41, v42, v11, v12, rfl, hI⟩ hL hd K hK
     simp only [Act.put, List.setIfInBounds_toArray, List.set_cons_succ, List.set_cons_zero]
     obtain rfl := hI.f10 (by have h := hd; simp [Region.binds] at h; first | exact h | exact h.1 | exact h.2 | exact h.2.1 | exact h.2.2 | exact h.2.2.1 | exact h.2.2.2)
     have g2 := hI.ext.cell g2
     go_simp
     refine hK _ _ ⟨v28, v29, v30, v31, v32, v33, v34, v35, v36, v37, _, _, v40, v27, v41, v42, v11, v12, (by simp only [Act.put, List.setIfInBounds_toArray, List.set_cons_succ, List.set_cons_zero]), ⟨hI.ext, hI.f0, hI.f1, hI.f2, hI.f3, hI.f4, hI.f5, hI.f6, hI.f7, hI.f8, hI.f9, hI.f10, fun _ => rfl, hI.f12, hI.f13, hI.f14, hI.f15, hI.f16, hI.f17, hI.f18⟩⟩
    ·rintro T _ W ⟨v28, v29, v30, v31, v32, v33, v34, v35, v36, v37, v38, v39, v40, v27, v41, v42, v11, v12, rfl, hI⟩ hL hd K hK
     simp only [Act.put, List.setIfInBounds_toArray, List.set_cons_succ, List.set_cons_zero]
     obtain rfl := hI.f0 (by have h := hd; simp [Region.binds] at h; first | exact h | exact h.1 | exact h.2 | exact h.2.1 | exact h.2.2 | exact h.2.2.1 | exact h.2.2.2)
     obtain rfl := hI.f6 (by have h := hd; simp [Region.binds] at h; first | exact h | exact h.1 | exact h.2 | exact h.2.1 | exact h.2.2 | exact h.2.2.1 | exact h.2.2.2)
     obtain rfl := hI.f11 (by have h := hd; simp [Region.binds] at h; first | exact h | exact h.1 | exact h.2 | exact h.2.1 | exact h.2.2 | exact h.2.2.1 | exact h.2.2.2)
     go_simp
     refine (hmt.out W).mono ?_
     rintro e W' ⟨rfl, hx⟩
     refine hK _ _ ⟨_, v29, v30, v31, v32, v33, _, v35, v36, v37, v38, _, _, v27, v41, v42, v11, v12, (by simp only [Act.put, List.setIfInBounds_toArray, List.set_cons_succ, List.set_cons_zero]), ⟨hI.ext.trans hx, hI.f0, hI.f1, hI.f2, hI.f3, hI.f4, hI.f5, hI.f6, hI.f7, hI.f8, hI.f9, hI.f10, hI.f11, fun _ => rfl, hI.f13, hI.f14, hI.f15, fun e => let ⟨g, a, b, d⟩ := hI.f16 e; ⟨g, a, b, (Keep.of_ext (X := fun _ => False) hx).blk d id⟩, hI.f17, hI.f18⟩⟩
    ·rintro T _ W ⟨v28, v29, v30, v31, v32, v33, v34, v35, v36, v37, v38, v39, v40, v27, v41, v42, v11, v12, rfl, hI⟩ hL hd K hK
     simp only [Act.put, List.setIfInBounds_toArray, List.set_cons_succ, List.set_cons_zero]
     obtain rfl := hI.f12 (by have h := hd; simp [Region.binds] at h; first | exact h | exact h.1 | exact h.2 | exact h.2.1 | exact h.2.2 | exact h.2.2.1 | exact h.2.2.2)
     go_simp
     refine hK _ _ ⟨v28, v29, v30, v31, v32, v33, v34, v35, v36, v37, v38, v39, _, _, v41, v42, v11, v12, (by simp only [Act.put, List.setIfInBounds_toArray, List.set_cons_succ, List.set_cons_zero]), ⟨hI.ext, hI.f0, hI.f1, hI.f2, hI.f3, hI.f4, hI.f5, hI.f6, hI.f7, hI.f8, hI.f9, hI.f10, hI.f11, hI.f12, fun _ => rfl, hI.f14, hI.f15, hI.f16, hI.f17, hI.f18⟩⟩
    ·rintro T _ W ⟨v28, v29, v30, v31, v32, v33, v34, v35, v36, v37, v38, v39, v40, v27, v41, v42, v11, v12, rfl, hI⟩ hL hd K hK
     simp only [Act.put, List.setIfInBounds_toArray, List.set_cons_succ, List.set_cons_zero]
     obtain rfl := hI.f13 (by have h := hd; simp [Region.binds] at h; first | exact h | exact h.1 | exact h.2 | exact h.2.1 | exact h.2.2 | exact h.2.2.1 | exact h.2.2.2)
     go_simp
     refine hK _ _ ⟨v28, v29, v30, v31, v32, v33, v34, v35, v36, v37, v38, v39, v40, _, _, v42, v11, v12, (by simp only [Act.put, List.setIfInBounds_toArray, List.set_cons_succ, List.set_cons_zero]), ⟨hI.ext, hI.f0, hI.f1, hI.f2, hI.f3, hI.f4, hI.f5, hI.f6, hI.f7, hI.f8, hI.f9, hI.f10, hI.f11, hI.f12, hI.f13, fun _ => rfl, hI.f15, hI.f16, hI.f17, hI.f18⟩⟩
    ·rintro T _ W ⟨v28, v29, v30, v31, v32, v33, v34, v35, v36, v37, v38, v39, v40, v27, v41, v42, v11, v12, rfl, hI⟩ hL hd K hK
     simp only [Act.put, List.setIfInBounds_toArray, List.set_cons_succ, List.set_cons_zero]
     obtain rfl := hI.f13 (by have h := hd; simp [Region.binds] at h; first | exact h | exact h.1 | exact h.2 | exact h.2.1 | exact h.2.2 | exact h.2.2.1 | exact h.2.2.2)
     go_simp
     refine hK _ _ ⟨v28, v29, v30, v31, v32, v33, v34, v35, v36, v37, v38, v39, v40, _, v41, _, v11, v12, (by simp only [Act.put, List.setIfInBounds_toArray, List.set_cons_succ, List.set_cons_zero]), ⟨hI.ext, hI.f0, hI.f1, hI.f2, hI.f3, hI.f4, hI.f5, hI.f6, hI.f7, hI.f8, hI.f9, hI.f10, hI.f11, hI.f12, hI.f13, hI.f14, fun _ => rfl, hI.f16, hI.f17, hI.f18⟩⟩
    ·rintro T _ W ⟨v28, v29, v30, v31, v32, v33, v34, v35, v36, v37, v38, v39, v40, v27, v41, v42, v11, v12, rfl, hI⟩ hL hd K hK
     simp only [Act.put, List.setIfInBounds_toArray, List.set_cons_succ, List.set_cons_zero]
     have n17 : T 17 = false := by cases e : T 17 with | false => rfl | true => exact absurd (hI.f17 e) (by rw [hL]; decide)
     go_simp
     refine hK _ _ ⟨v28, v29, v30, v31, v32, v33, v34, v35, v36, v37, v38, v39, v40, v27, v41, v42, _, v12, (by simp only [Act.put, List.setIfInBounds_toArray, List.set_cons_succ, List.set_cons_zero]), ⟨hI.ext.trans ((Ext.refl W).alloc (.cells #[.int .i64 0, .int .i64 0] 209)), hI.f0, hI.f1, hI.f2, hI.f3, hI.f4, hI.f5, hI.f6, hI.f7, hI.f8, hI.f9, hI.f10, hI.f11, hI.f12, hI.f13, hI.f14, hI.f15, fun _ => ⟨_, rfl, hI.ext.size, by show Blk _ _ _ (clsC R q (T 17)); rw [n17]; exact blk_new' rfl rfl⟩, fun _ => rfl, hI.f18⟩⟩
    ·rintro T _ W ⟨v28, v29, v30, v31, v32, v33, v34, v35, v36, v37, v38, v39, v40, v27, v41, v42, v11, v12, rfl, hI⟩ hL hd K hK
     simp only [Act.put, List.setIfInBounds_toArray, List.set_cons_succ, List.set_cons_zero]
     obtain rfl := hI.f14 (by have h := hd; simp [Region.binds] at h; first | exact h | exact h.1 | exact h.2 | exact h.2.1 | exact h.2.2 | exact h.2.2.1 | exact h.2.2.2)
     have h16 : T 16 = true := by have h := hd; simp [Region.binds] at h; first | exact h | exact h.1 | exact h.2 | exact h.2.1 | exact h.2.2
     obtain ⟨gc, rfl, hgc, hb⟩ := hI.f16 h16
     rw [hL] at hb
     replace hb : Blk W gc 209 #[.int .i64 0, .int .i64 0] := hb
     have c7 := hb.cell 0
     have c8 := hb.cell 1
     have l7 := hb.lt
     have f7 := hb.frozen 0
     have f8 := hb.frozen 1
     have hbn : Blk ((W.setCell ⟨gc, 0, none⟩ (.int .i64 R)).setCell ⟨gc, 1, none⟩ (.int .i64 q)) gc 209 #[.int .i64 R, .int .i64 q] := (hb.set_ 0 (.int .i64 R)).set_ 1 (.int .i64 q)
     have hen := (hI.ext.setCell (p := ⟨gc, 0, none⟩) hgc (.int .i64 R)).setCell (p := ⟨gc, 1, none⟩) hgc (.int .i64 q)
     go_simp
     refine hK _ _ ⟨v28, v29, v30, v31, v32, v33, v34, v35, v36, v37, v38, v39, v40, v27, _, v42, _, v12, (by simp only [Act.put, List.setIfInBounds_toArray, List.set_cons_succ, List.set_cons_zero]), ⟨hen, hI.f0, hI.f1, hI.f2, hI.f3, hI.f4, hI.f5, hI.f6, hI.f7, hI.f8, hI.f9, hI.f10, hI.f11, hI.f12, hI.f13, hI.f14, hI.f15, fun _ => ⟨gc, rfl, hgc, hbn⟩, fun _ => h16, hI.f18⟩⟩
    ·rintro T _ W ⟨v28, v29, v30, v31, v32, v33, v34, v35, v36, v37, v38, v39, v40, v27, v41, v42, v11, v12, rfl, hI⟩ hL hd K hK
     simp only [Act.put, List.setIfInBounds_toArray, List.set_cons_succ, List.set_cons_zero]
     obtain rfl := hI.f15 (by have h := hd; simp [Region.binds] at h; first | exact h | exact h.1 | exact h.2 | exact h.2.1 | exact h.2.2 | exact h.2.2.1 | exact h.2.2.2)
     go_simp
     refine hK _ _ ⟨v28, v29, v30, v31, v32, v33, v34, v35, v36, v37, v38, v39, v40, v27, v41, _, v11, _, (by simp only [Act.put, List.setIfInBounds_toArray, List.set_cons_succ, List.set_cons_zero]), ⟨hI.ext, hI.f0, hI.f1, hI.f2, hI.f3, hI.f4, hI.f5, hI.f6, hI.f7, hI.f8, hI.f9, hI.f10, hI.f11, hI.f12, hI.f13, hI.f14, hI.f15, hI.f16, hI.f17, fun _ => rfl⟩⟩
   ·rintro T _ W ⟨v28, v29, v30, v31, v32, v33, v34, v35, v36, v37, v38, v39, v40, v27, v41, v42, v11, v12, rfl, hI⟩ hall
    simp only [Act.put, List.setIfInBounds_toArray, List.set_cons_succ, List.set_cons_zero]
    obtain rfl := hI.f0 (hall 0 (by decide))
    obtain rfl := hI.f1 (hall 1 (by decide))
    obtain rfl := hI.f2 (hall 2 (by decide))
    obtain rfl := hI.f3 (hall 3 (by decide))
    obtain rfl := hI.f4 (hall 4 (by decide))
    obtain rfl := hI.f5 (hall 5 (by decide))
    obtain rfl := hI.f6 (hall 6 (by decide))
    obtain rfl := hI.f7 (hall 7 (by decide))
    obtain rfl := hI.f8 (hall 8 (by decide))
    obtain rfl := hI.f9 (hall 9 (by decide))
    obtain rfl := hI.f10 (hall 10 (by decide))
    obtain rfl := hI.f11 (hall 11 (by decide))
    obtain rfl := hI.f12 (hall 12 (by decide))
    obtain rfl := hI.f13 (hall 13 (by decide))
    obtain rfl := hI.f14 (hall 14 (by decide))
    obtain rfl := hI.f15 (hall 15 (by decide))
    obtain rfl := hI.f18 (hall 18 (by decide))
    obtain ⟨gc, rfl, hgc, hb⟩ := hI.f16 (hall 16 (by decide))
    rw [hall 17 (by decide)] at hb
    replace hb : Blk W gc 209 #[.int .i64 R, .int .i64 q] := hb
    have kx := Keep.of_ext (X := fun _ => False) hI.ext
    have hT3 := Lib.hid (kx.blk hT2.out id)
    have hF3 := Lib.hid (kx.blk hF2.out id)
    have hnx : Hid (lateF p.period n ((p.cycle.map (resD p)).take (k + 1)) (L, d) = lateS q n (lateF p.period n ((p.cycle.map (resD p)).take k) (L, d)) R) := by
     have hk' : k < (p.cycle.map (resD p)).length := by rw [List.length_map, hm.out]; exact hkm
     have hr : (p.cycle.map (resD p))[k] = R := by
      have := ec2.out
      rw [List.getElem?_eq_some_iff] at this
      obtain ⟨_, h⟩ := this
      rw [List.getElem_map, h]
      exact hR.out
     have := lateF_take (P := p.period) (n := n) (s := (L, d)) hk'
     rw [hr] at this
     rw [← hq.out]
     exact this
    obtain ⟨st, hst⟩ : ∃ st, Hid (lateF p.period n ((p.cycle.map (resD p)).take k) (L, d) = st) := ⟨_, rfl⟩
    rw [hst.out] at hI2 hnx
    have hI3 : Hid (LateI W Nb Lb Db n st.1 st.2) := Lib.hid ⟨kx.blk hI2.out.nb id, kx.blk hI2.out.lb id, kx.blk hI2.out.db id, hI2.out.ne⟩
    have q0 : W.cell? ⟨Fb, 0, none⟩ = some (.func (.func 129) #[] #[.pointer (some ⟨Tb, 0, none⟩), .pointer (some ⟨Fb, 0, none⟩), .pointer (some ⟨Nb, 0, none⟩), .pointer (some ⟨Lb, 0, none⟩), .pointer (some ⟨Db, 0, none⟩)]) := hF3.out.cell 0
    have ql := hF3.out.lt
    have y0 : W.cell? ⟨gc, 0, none⟩ = some (.int .i64 R) := hb.cell 0
    have y1 : W.cell? ⟨gc, 1, none⟩ = some (.int .i64 q) := hb.cell 1
    have yl := hb.lt
    have hcall := Lib.hid (late1_end Tb Fb Nb Lb Db (some ⟨b1, o1, none⟩) pc R q n st.1 st.2 W hT3.out hI3.out hRb.1 (by omega) hRb.2.2.1 hRb.2.2.2 n0 n1)
    have hg8 : ∀ (y : Array Value) (W : World), (callFunc 129 y).run Tryz.prog W = .ok (.enter 129 y) W := fun _ _ => by kernel_rfl
    have hK3 : Hid (Keep (fun q => q = Lb ∨ q = Db) W1 W) := Lib.hid (hK.out.trans (Keep.of_ext hI.ext))
    clear hI hall kx hb hT3 hF3 hI3 c0 c1 t0 g0 g1 g2 g3 hres hmt hst hT2 hF2 hI2 hB2 hE2 hK z0 z1 z2 z3 z4 z5 z6
    go_wp2_with fail
    refine hcall.out.mono ?_
    rintro e W2 ⟨rfl, hk2, hi2⟩
    have hK4 := Lib.hid (hK3.out.trans hk2)
    have hI4 : Hid (LateI W2 Nb Lb Db n (lateF p.period n ((p.cycle.map (resD p)).take (k + 1)) (L, d)).1 (lateF p.period n ((p.cycle.map (resD p)).take (k + 1)) (L, d)).2) := by
     rw [hnx.out]
     exact Lib.hid hi2
    clear hk2 hi2 hcall q0 ql y0 y1 yl hnx hK3
    go_wp2
    go_roundw
    case rel => exact ⟨k + 1, by omega, by go_num, hK4, hI4⟩
    case measure => simp [intOf]; omega
  ·obtain rfl : k = m := by omega
   have hfin := hI2.out
   rw [List.take_of_length_le (by rw [List.length_map, hm.out]; exact Nat.le_refl _)] at hfin
   replace hfin := Lib.hid hfin
   have hK2 : Hid (Keep (fun q => q = Lb ∨ q = Db) w wr) := Lib.hid ((Keep.of_ext e1.out.out).trans hK.out)
   have dk : decide (k < k) = false := decide_eq_false (by omega)
   clear hB2 hT2 hF2 hI2 hE2 hkm hK
   go_wp2_with fail
   refine bodyPost_ret (results_none rfl _ _ _) rfl ?_
   exact ⟨rfl, hK2.out, hfin.out⟩
end Go.Proofs.YtepcdhpikpmepaaGreat
