import Derived.Test.YtgolicoalldidaaGreatZ19
import Derived.Test.YtgolicoalldidaaGreatZ20
set_option maxHeartbeats 12800000
namespace Go.Proofs.YtgolicoalldidaaGreat
open Go.RowKit Go.Shelf
attribute [local go_sem] Oper.semAt_some run_store_funcT
theorem rising_mem {P : Int} {cs : List Int} {low : Int} (h : risingP low P cs = true) : ∀ c ∈ cs, low < c ∧ c < P := by
 induction cs generalizing low with
 | nil => intro c hc; cases hc
 | cons x t ih =>
  unfold risingP at h
  split at h
  ·cases h
  ·intro c hc
   rcases List.mem_cons.1 hc with rfl | hc
   ·omega
   ·have := ih h c hc
    omega
theorem rising_mem' {P : Int} {cs : List Int} (h : risingP (-1) P cs = true) : ∀ c ∈ cs, 0 ≤ c ∧ c < P := fun c hc => by
 have := rising_mem h c hc
 omega
def lateS (P n : Int) (s : Int × Bool) (r : Int) : Int × Bool := (min (upA r P n) s.1, s.2 || decide (upA r P n ≤ s.1))
def lateF (P n : Int) (rs : List Int) (s : Int × Bool) : Int × Bool := rs.foldl (lateS P n) s
theorem lateF_take {P n : Int} {rs : List Int} {s : Int × Bool} {k : Nat} (h : k < rs.length) : lateF P n (rs.take (k + 1)) s = lateS P n (lateF P n (rs.take k) s) rs[k] := by
 unfold lateF
 rw [List.take_succ_eq_append_getElem h, List.foldl_append]
 rfl
def clsC (R q : Int) (b : Bool) : Array Value := match b with | true => #[.int .i64 R, .int .i64 q] | false => #[.int .i64 0, .int .i64 0]
structure LtI (wr : World) (b1 o1 b3 o3 pc hcp m cc : Nat) (ha : Option Addr) (R q c f : Int) (T : Nat → Bool) (v28 v29 v30 v31 v32 v33 v34 v35 v36 v37 v38 v39 v40 v27 v41 v42 v11 v12 : Value) (W : World) : Prop where
 ext : Ext wr W
 f0 : T 0 = true → v28 = (.agg #[.int .i64 0, .int .i64 1])
 f1 : T 1 = true → v29 = (.slice (some ⟨b1, o1, none⟩) 1 pc)
 f2 : T 2 = true → v30 = (.int .i64 0)
 f3 : T 3 = true → v31 = (.pointer (some ⟨b1, o1, none⟩))
 f4 : T 4 = true → v32 = (.agg #[.slice ha 0 hcp, .int .i64 f, .int .i64 q, .slice (some ⟨b3, o3, none⟩) m cc])
 f5 : T 5 = true → v33 = (.int .i64 c)
 f6 : T 6 = true → v34 = (.int .i64 R)
 f7 : T 7 = true → v35 = (.slice (some ⟨b1, o1, none⟩) 1 pc)
 f8 : T 8 = true → v36 = (.int .i64 0)
 f9 : T 9 = true → v37 = (.pointer (some ⟨b1, o1, none⟩))
 f10 : T 10 = true → v38 = (.pointer (some ⟨b1, o1 + 2, none⟩))
 f11 : T 11 = true → v39 = (.int .i64 q)
 f12 : T 12 = true → v40 = (.tuple #[.agg #[.int .i64 R, .int .i64 q], .bool true])
 f13 : T 13 = true → v27 = (.tuple #[.agg #[.int .i64 R, .int .i64 q], .bool true])
 f14 : T 14 = true → v41 = (.agg #[.int .i64 R, .int .i64 q])
 f15 : T 15 = true → v42 = (.bool true)
 f16 : T 16 = true → ∃ gc, v11 = .pointer (some ⟨gc, 0, none⟩) ∧ wr.heap.size ≤ gc ∧ Blk W gc 231 (clsC R q (T 17))
 f17 : T 17 = true → T 16 = true
 f18 : T 18 = true → v12 = (.bool true)
set_option maxRecDepth 100000 in
theorem late1_start (Tb Fb Nb Lb Db : Nat) (pa : Option Addr) (pc : Nat) (n L : Int) (d : Bool) (p : PerD) (w0 w : World) (hE0 : Ext w0 w) (hL0 : w0.heap.size ≤ Lb) (hD0 : w0.heap.size ≤ Db) (hP : Pers w0 (.slice pa 1 pc) [p]) (hok : PerOk p) (hT : Blk w Tb 132 #[.slice pa 1 pc]) (hI : LateI w Nb Lb Db n L d)
  (hF : Blk w Fb 229 #[.func (.func 148) #[] #[.pointer (some ⟨Tb, 0, none⟩), .pointer (some ⟨Fb, 0, none⟩), .pointer (some ⟨Nb, 0, none⟩), .pointer (some ⟨Lb, 0, none⟩), .pointer (some ⟨Db, 0, none⟩)]])
  (n0 : 0 ≤ n) (n1 : n ≤ 1000000000000) :
  Calls Tryz.prog 148 #[.int .i64 0, .agg #[.int .i64 0, .int .i64 1], .pointer (some ⟨Tb, 0, none⟩), .pointer (some ⟨Fb, 0, none⟩), .pointer (some ⟨Nb, 0, none⟩), .pointer (some ⟨Lb, 0, none⟩), .pointer (some ⟨Db, 0, none⟩)] w
   fun e w' => e = .returned (.tuple #[]) ∧ Keep (fun k => k = Lb ∨ k = Db) w w' ∧ LateI w' Nb Lb Db n (lateF p.period n (p.cycle.map (resD p)) (L, d)).1 (lateF p.period n (p.cycle.map (resD p)) (L, d)).2 := by
 have hT' := Lib.hid hT
 have hI' := Lib.hid hI
 have hF' := Lib.hid hF
 have hP' := Lib.hid hP
 have hok' := Lib.hid hok
 have hE0' := Lib.hid hE0
 have hLD : Hid (∀ i, i < w0.heap.size → ¬ (i = Lb ∨ i = Db)) := Lib.hid (fun i hi e => by omega)
 clear hT hI hF hP hok hE0 hL0 hD0
 have t0 : w.cell? ⟨Tb, 0, none⟩ = some (.slice pa 1 pc) := hT'.out.cell 0
 have tl := hT'.out.lt
 go_enter Tryz.func148, Tryz.ntmps148
 go_upto_region 1 with (fail)
 obtain ⟨cb, hcb⟩ : ∃ cb, Hid (w.heap.size = cb) := ⟨_, rfl⟩
 rw [hcb.out]
 refine wp_abs (S := fun W => Hid (Ext w W) ∧ Hid (Blk W cb 231 #[.int .i64 0, .int .i64 1])) ?_ ?_
 ·exact ⟨Lib.hid (by exact (by with_reducible repeat' (first | exact Ext.refl _ | assumption | refine Ext.drewN ?_ _ | refine Ext.drew ?_ | refine Ext.alloc ?_ _ | refine Ext.trans ?_ (by with_reducible assumption)))), Lib.hid (blk_new' hcb.out.symm rfl)⟩
 rintro W1 ⟨hE, hB⟩
 have hT1 := Lib.hid ((Keep.of_ext (X := fun _ => False) hE.out).blk hT'.out id)
 clear t0 tl
 have t0 : W1.cell? ⟨Tb, 0, none⟩ = some (.slice pa 1 pc) := hT1.out.cell 0
 have tl := hT1.out.lt
 obtain ⟨_, _, ep, hn, hc, hat⟩ := hP'.out.open
 cases ep
 obtain ⟨b1, o1, p', ha, hcp, ca, cc, rfl, hb1, _, ex, G0, G1, G2, G3, gh, gc⟩ := hat 0 (by simp) w0 (Ext.refl _)
 obtain rfl : p = p' := by simpa using ex.out
 simp only [Nat.zero_mul, Nat.add_zero] at G0 G1 G2 G3
 obtain ⟨m, hm⟩ : ∃ m, Hid (p.cycle.length = m) := ⟨_, rfl⟩
 have hPv : Hid (PerV w0 (.agg #[.slice ha p.head.length hcp, .int .i64 p.from_, .int .i64 p.period, .slice ca m cc]) p) := Lib.hid (by rw [← hm.out]; exact ⟨_, _, rfl, gh, gc⟩)
 rw [hm.out] at G3
 obtain ⟨f, hf⟩ : ∃ f, Hid (p.from_ = f) := ⟨_, rfl⟩
 obtain ⟨q, hq⟩ : ∃ q, Hid (p.period = q) := ⟨_, rfl⟩
 have e0 := hok'.out.1
 rw [hf.out, hq.out, e0, List.length_nil] at hPv
 rw [e0, List.length_nil] at G0
 rw [hf.out] at G1
 rw [hq.out] at G2
 have hG := Lib.hid (And.intro G0 (And.intro G1 (And.intro G2 G3)))
 have hb1' := Lib.hid hb1
 obtain ⟨_, _, ec, hl, _, hcat⟩ := gc.open
 cases ec
 rw [hm.out] at hl
 have hcat' := Lib.hid hcat
 have g3 := (hE0'.out.trans hE.out).cell G3
 have g0 := Nat.lt_of_lt_of_le hb1 (hE0'.out.trans hE.out).size
 clear gh gc hat ex hc hn G0 G1 G2 G3 hcat e0 hb1
 have hcbL : Hid (¬ (cb = Lb ∨ cb = Db)) := Lib.hid (by have := hcb.out; have := hI'.out.lb.lt; have := hI'.out.db.lt; omega)
 have hTL : Hid (¬ (Tb = Lb ∨ Tb = Db)) := Lib.hid (fun h => h.elim (hT'.out.ne_ hI'.out.lb (by decide)) (hT'.out.ne_ hI'.out.db (by decide)))
 have hFL : Hid (¬ (Fb = Lb ∨ Fb = Db)) := Lib.hid (fun h => h.elim (hF'.out.ne_ hI'.out.lb (by decide)) (hF'.out.ne_ hI'.out.db (by decide)))
 have hF1 := Lib.hid ((Keep.of_ext (X := fun _ => False) hE.out).blk hF'.out id)
 have hI1 : Hid (LateI W1 Nb Lb Db n L d) := Lib.hid (let k := Keep.of_ext (X := fun _ => False) hE.out; ⟨k.blk hI'.out.nb id, k.blk hI'.out.lb id, k.blk hI'.out.db id, hI'.out.ne⟩)
 go_wp2_with fail
 go_loopw [10, 11, 12, 23] (fun _ _ _ vi wr => ∃ k : Nat, k ≤ m ∧ vi = .int .i64 (k : Int) ∧ Hid (Keep (fun q => q = Lb ∨ q = Db) W1 wr) ∧ Hid (LateI wr Nb Lb Db n (lateF p.period n ((p.cycle.map (resD p)).take k) (L, d)).1 (lateF p.period n ((p.cycle.map (resD p)).take k) (L, d)).2)) (fun _ _ _ vi _ => m - (intOf vi).toNat)
 case atStart => exact ⟨0, Nat.zero_le _, rfl, Lib.hid (Keep.of_ext (Ext.refl _)), by simpa [lateF] using hI1⟩
 case round =>
  obtain ⟨k, hk, rfl, hK, hI2⟩ := hrel
  have hE2 : Hid (Ext w0 wr) := Lib.hid ((hE0'.out.trans hE.out).keep hK.out hLD.out)
  have hB2 := Lib.hid (hK.out.blk hB.out hcbL.out)
  have hT2 := Lib.hid (hK.out.blk hT1.out hTL.out)
  have hF2 := Lib.hid (hK.out.blk hF1.out hFL.out)
  have e1 := Lib.hid hE
  clear t0 tl g0 g3 hE hB hT1 hF1 hI1
  by_cases hkm : k < m
  ·obtain ⟨b3, o3, c, rfl, hb3, _, ec2, k0⟩ := hcat'.out k (by rw [hm.out]; exact hkm) wr hE2.out
   obtain ⟨hc0, hc1⟩ := rising_mem' hok'.out.2.2.2.2.2.2.2 c (List.mem_of_getElem? ec2.out)
   have hres := Lib.hid (fun (W : World) (x : Ext wr W) => residue_calls _ p c W (hPv.out.ext (hE2.out.trans x)) hok'.out hc0 hc1)
   obtain ⟨R, hR⟩ : ∃ R, Hid (resD p c = R) := ⟨_, rfl⟩
   have hRb : 0 ≤ R ∧ R < q ∧ 1 ≤ q ∧ q ≤ 1000 := by
    obtain ⟨_, _, _, q0, q1, _⟩ := hok'.out
    rw [← hR.out, ← hq.out]
    unfold resD
    exact ⟨Int.emod_nonneg _ (by omega), Int.emod_lt_of_pos _ (by omega), q0, q1⟩
   have hmt : Hid (∀ W, Calls Tryz.prog 149 #[.agg #[.int .i64 0, .int .i64 1], .int .i64 R, .int .i64 q] W fun e w' => e = .returned (.tuple #[.agg #[.int .i64 R, .int .i64 q], .bool true]) ∧ Ext W w') := by
    intro W
    obtain ⟨r, hr⟩ : ∃ r : Nat, R = (r : Int) := ⟨R.toNat, by omega⟩
    obtain ⟨t, ht⟩ : ∃ t : Nat, q = (t : Int) := ⟨q.toNat, by omega⟩
    rw [hr, ht]
    have h := classMeet_calls r t (by omega) (by omega) (by omega) W
    have e : meetD r t = (r, t) := by
     unfold meetD
     split
     ·rw [show r = 0 by omega, show t = 1 by omega]
     ·rfl
    rw [e] at h
    exact h
   rw [hR.out] at hres
   have c0 : wr.cell? ⟨cb, 0, none⟩ = some (.int .i64 0) := hB2.out.cell 0
   have c1 : wr.cell? ⟨cb, 1, none⟩ = some (.int .i64 1) := hB2.out.cell 1
   have t0 : wr.cell? ⟨Tb, 0, none⟩ = some (.slice (some ⟨b1, o1, none⟩) 1 pc) := hT2.out.cell 0
   have g0 := hE2.out.cell hG.out.1
   have g1 := hE2.out.cell hG.out.2.1
   have g2 := hE2.out.cell hG.out.2.2.1
   have g3 := hE2.out.cell hG.out.2.2.2
   have z0 := After.cell c0
   have z1 := After.cell c1
   have z2 := After.cell t0
   have z3 := After.cell g0
   have z4 := After.cell g1
   have z5 := After.cell g2
   have z6 := After.cell g3
   have dk : decide (k < m) = true := decide_eq_true hkm
   go_upto_region 5 with (fail)
   refine wp_region_invM (fun A T a W => ∃ v28 v29 v30 v31 v32 v33 v34 v35 v36 v37 v38 v39 v40 v27 v41 v42 v11 v12, a = ((((((((((((((((((A.put (some 28) v28).put (some 29) v29).put (some 30) v30).put (some 31) v31).put (some 32) v32).put (some 33) v33).put (some 34) v34).put (some 35) v35).put (some 36) v36).put (some 37) v37).put (some 38) v38).put (some 39) v39).put (some 40) v40).put (some 27) v27).put (some 41) v41).put (some 42) v42).put (some 11) v11).put (some 12) v12) ∧ LtI wr b1 o1 b3 o3 pc hcp m cc ha R q c f T v28 v29 v30 v31 v32 v33 v34 v35 v36 v37 v38 v39 v40 v27 v41 v42 v11 v12 W) (by kernel_rfl) (by kernel_rfl) ?_ ?_ ?_
   ·exact ⟨u28, u29, u30, u31, u32, u33, u34, u35, u36, u37, u38, u39, u40, u27, u41, u42, u11, u12, (by simp only [Act.put, putA, putB, putC]), ⟨(Ext.refl _).drew, (fun q => by cases q), (fun q => by cases q), (fun q => by cases q), (fun q => by cases q), (fun q => by cases q), (fun q => by cases q), (fun q => by cases q), (fun q => by cases q), (fun q => by cases q), (fun q => by cases q), (fun q => by cases q), (fun q => by cases q), (fun q => by cases q), (fun q => by cases q), (fun q => by cases q), (fun q => by cases q), (fun q => by cases q), (fun q => by cases q), (fun q => by cases q)⟩⟩
   ·refine ⟨⟨rfl, ?_⟩, ⟨rfl, ?_⟩, ⟨rfl, ?_⟩, ⟨rfl, ?_⟩, ⟨rfl, ?_⟩, ⟨rfl, ?_⟩, ⟨rfl, ?_⟩, ⟨rfl, ?_⟩, ⟨rfl, ?_⟩, ⟨rfl, ?_⟩, ⟨rfl, ?_⟩, ⟨rfl, ?_⟩, ⟨rfl, ?_⟩, ⟨rfl, ?_⟩, ⟨rfl, ?_⟩, ⟨rfl, ?_⟩, ⟨rfl, ?_⟩, ⟨rfl, ?_⟩, ⟨rfl, ?_⟩, trivial⟩
    ·rintro T _ W ⟨v28, v29, v30, v31, v32, v33, v34, v35, v36, v37, v38, v39, v40, v27, v41, v42, v11, v12, rfl, hI⟩ hL hd K hK
     simp only [Act.put, putA, putB, putC]
     have c0 := hI.ext.cell c0
     have c1 := hI.ext.cell c1
     go_simp
     refine hK _ _ ⟨_, v29, v30, v31, v32, v33, v34, v35, v36, v37, v38, v39, v40, v27, v41, v42, v11, v12, (by simp only [Act.put, putA, putB, putC]), ⟨hI.ext, fun _ => rfl, hI.f1, hI.f2, hI.f3, hI.f4, hI.f5, hI.f6, hI.f7, hI.f8, hI.f9, hI.f10, hI.f11, hI.f12, hI.f13, hI.f14, hI.f15, hI.f16, hI.f17, hI.f18⟩⟩
    ·rintro T _ W ⟨v28, v29, v30, v31, v32, v33, v34, v35, v36, v37, v38, v39, v40, v27, v41, v42, v11, v12, rfl, hI⟩ hL hd K hK
     simp only [Act.put, putA, putB, putC]
     have t0 := hI.ext.cell t0
     go_simp
     refine hK _ _ ⟨v28, _, v30, v31, v32, v33, v34, v35, v36, v37, v38, v39, v40, v27, v41, v42, v11, v12, (by simp only [Act.put, putA, putB, putC]), ⟨hI.ext, hI.f0, fun _ => rfl, hI.f2, hI.f3, hI.f4, hI.f5, hI.f6, hI.f7, hI.f8, hI.f9, hI.f10, hI.f11, hI.f12, hI.f13, hI.f14, hI.f15, hI.f16, hI.f17, hI.f18⟩⟩
    ·rintro T _ W ⟨v28, v29, v30, v31, v32, v33, v34, v35, v36, v37, v38, v39, v40, v27, v41, v42, v11, v12, rfl, hI⟩ hL hd K hK
     simp only [Act.put, putA, putB, putC]
     go_simp
     refine hK _ _ ⟨v28, v29, _, v31, v32, v33, v34, v35, v36, v37, v38, v39, v40, v27, v41, v42, v11, v12, (by simp only [Act.put, putA, putB, putC]), ⟨hI.ext, hI.f0, hI.f1, fun _ => rfl, hI.f3, hI.f4, hI.f5, hI.f6, hI.f7, hI.f8, hI.f9, hI.f10, hI.f11, hI.f12, hI.f13, hI.f14, hI.f15, hI.f16, hI.f17, hI.f18⟩⟩
    ·rintro T _ W ⟨v28, v29, v30, v31, v32, v33, v34, v35, v36, v37, v38, v39, v40, v27, v41, v42, v11, v12, rfl, hI⟩ hL hd K hK
     simp only [Act.put, putA, putB, putC]
     obtain rfl := hI.f1 (by have h := hd; simp [Region.binds] at h; first | exact h | exact h.1 | exact h.2 | exact h.2.1 | exact h.2.2 | exact h.2.2.1 | exact h.2.2.2)
     obtain rfl := hI.f2 (by have h := hd; simp [Region.binds] at h; first | exact h | exact h.1 | exact h.2 | exact h.2.1 | exact h.2.2 | exact h.2.2.1 | exact h.2.2.2)
     go_simp
     refine hK _ _ ⟨v28, _, _, _, v32, v33, v34, v35, v36, v37, v38, v39, v40, v27, v41, v42, v11, v12, (by simp only [Act.put, putA, putB, putC]), ⟨hI.ext, hI.f0, hI.f1, hI.f2, fun _ => rfl, hI.f4, hI.f5, hI.f6, hI.f7, hI.f8, hI.f9, hI.f10, hI.f11, hI.f12, hI.f13, hI.f14, hI.f15, hI.f16, hI.f17, hI.f18⟩⟩
    ·rintro T _ W ⟨v28, v29, v30, v31, v32, v33, v34, v35, v36, v37, v38, v39, v40, v27, v41, v42, v11, v12, rfl, hI⟩ hL hd K hK
     simp only [Act.put, putA, putB, putC]
     obtain rfl := hI.f3 (by have h := hd; simp [Region.binds] at h; first | exact h | exact h.1 | exact h.2 | exact h.2.1 | exact h.2.2 | exact h.2.2.1 | exact h.2.2.2)
     have g0 := hI.ext.cell g0
     have g1 := hI.ext.cell g1
     have g2 := hI.ext.cell g2
     have g3 := hI.ext.cell g3
     go_simp
     refine hK _ _ ⟨v28, v29, v30, _, _, v33, v34, v35, v36, v37, v38, v39, v40, v27, v41, v42, v11, v12, (by simp only [Act.put, putA, putB, putC]), ⟨hI.ext, hI.f0, hI.f1, hI.f2, hI.f3, fun _ => rfl, hI.f5, hI.f6, hI.f7, hI.f8, hI.f9, hI.f10, hI.f11, hI.f12, hI.f13, hI.f14, hI.f15, hI.f16, hI.f17, hI.f18⟩⟩
    ·rintro T _ W ⟨v28, v29, v30, v31, v32, v33, v34, v35, v36, v37, v38, v39, v40, v27, v41, v42, v11, v12, rfl, hI⟩ hL hd K hK
     simp only [Act.put, putA, putB, putC]
     go_simp
     refine hK _ _ ⟨v28, v29, v30, v31, v32, _, v34, v35, v36, v37, v38, v39, v40, v27, v41, v42, v11, v12, (by simp only [Act.put, putA, putB, putC]), ⟨hI.ext, hI.f0, hI.f1, hI.f2, hI.f3, hI.f4, fun _ => rfl, hI.f6, hI.f7, hI.f8, hI.f9, hI.f10, hI.f11, hI.f12, hI.f13, hI.f14, hI.f15, hI.f16, hI.f17, hI.f18⟩⟩
    ·rintro T _ W ⟨v28, v29, v30, v31, v32, v33, v34, v35, v36, v37, v38, v39, v40, v27, v41, v42, v11, v12, rfl, hI⟩ hL hd K hK
     simp only [Act.put, putA, putB, putC]
     obtain rfl := hI.f4 (by have h := hd; simp [Region.binds] at h; first | exact h | exact h.1 | exact h.2 | exact h.2.1 | exact h.2.2 | exact h.2.2.1 | exact h.2.2.2)
     obtain rfl := hI.f5 (by have h := hd; simp [Region.binds] at h; first | exact h | exact h.1 | exact h.2 | exact h.2.1 | exact h.2.2 | exact h.2.2.1 | exact h.2.2.2)
     go_simp
     refine (hres.out W hI.ext).mono ?_
     rintro e W' ⟨rfl, hx⟩
     refine hK _ _ ⟨v28, v29, v30, v31, _, _, _, v35, v36, v37, v38, v39, v40, v27, v41, v42, v11, v12, (by simp only [Act.put, putA, putB, putC]), ⟨hI.ext.trans hx, hI.f0, hI.f1, hI.f2, hI.f3, hI.f4, hI.f5, fun _ => rfl, hI.f7, hI.f8, hI.f9, hI.f10, hI.f11, hI.f12, hI.f13, hI.f14, hI.f15, fun e => let ⟨g, a, b, d⟩ := hI.f16 e; ⟨g, a, b, (Keep.of_ext (X := fun _ => False) hx).blk d id⟩, hI.f17, hI.f18⟩⟩
    ·rintro T _ W ⟨v28, v29, v30, v31, v32, v33, v34, v35, v36, v37, v38, v39, v40, v27, v41, v42, v11, v12, rfl, hI⟩ hL hd K hK
     simp only [Act.put, putA, putB, putC]
     have t0 := hI.ext.cell t0
     go_simp
     refine hK _ _ ⟨v28, v29, v30, v31, v32, v33, v34, _, v36, v37, v38, v39, v40, v27, v41, v42, v11, v12, (by simp only [Act.put, putA, putB, putC]), ⟨hI.ext, hI.f0, hI.f1, hI.f2, hI.f3, hI.f4, hI.f5, hI.f6, fun _ => rfl, hI.f8, hI.f9, hI.f10, hI.f11, hI.f12, hI.f13, hI.f14, hI.f15, hI.f16, hI.f17, hI.f18⟩⟩
    ·rintro T _ W ⟨v28, v29, v30, v31, v32, v33, v34, v35, v36, v37, v38, v39, v40, v27, v41, v42, v11, v12, rfl, hI⟩ hL hd K hK
     simp only [Act.put, putA, putB, putC]
     go_simp
     refine hK _ _ ⟨v28, v29, v30, v31, v32, v33, v34, v35, _, v37, v38, v39, v40, v27, v41, v42, v11, v12, (by simp only [Act.put, putA, putB, putC]), ⟨hI.ext, hI.f0, hI.f1, hI.f2, hI.f3, hI.f4, hI.f5, hI.f6, hI.f7, fun _ => rfl, hI.f9, hI.f10, hI.f11, hI.f12, hI.f13, hI.f14, hI.f15, hI.f16, hI.f17, hI.f18⟩⟩
    ·rintro T _ W ⟨v28, v29, v30, v31, v32, v33, v34, v35, v36, v37, v38, v39, v40, v27, v41, v42, v11, v12, rfl, hI⟩ hL hd K hK
     simp only [Act.put, putA, putB, putC]
     obtain rfl := hI.f7 (by have h := hd; simp [Region.binds] at h; first | exact h | exact h.1 | exact h.2 | exact h.2.1 | exact h.2.2 | exact h.2.2.1 | exact h.2.2.2)
     obtain rfl := hI.f8 (by have h := hd; simp [Region.binds] at h; first | exact h | exact h.1 | exact h.2 | exact h.2.1 | exact h.2.2 | exact h.2.2.1 | exact h.2.2.2)
     go_simp
     refine hK _ _ ⟨v28, v29, v30, v31, v32, v33, v34, _, _, _, v38, v39, v40, v27, v41, v42, v11, v12, (by simp only [Act.put, putA, putB, putC]), ⟨hI.ext, hI.f0, hI.f1, hI.f2, hI.f3, hI.f4, hI.f5, hI.f6, hI.f7, hI.f8, fun _ => rfl, hI.f10, hI.f11, hI.f12, hI.f13, hI.f14, hI.f15, hI.f16, hI.f17, hI.f18⟩⟩
    ·rintro T _ W ⟨v28, v29, v30, v31, v32, v33, v34, v35, v36, v37, v38, v39, v40, v27, v41, v42, v11, v12, rfl, hI⟩ hL hd K hK
     simp only [Act.put, putA, putB, putC]
     obtain rfl := hI.f9 (by have h := hd; simp [Region.binds] at h; first | exact h | exact h.1 | exact h.2 | exact h.2.1 | exact h.2.2 | exact h.2.2.1 | exact h.2.2.2)
     go_simp
     refine hK _ _ ⟨v28, v29, v30, v31, v32, v33, v34, v35, v36, _, _, v39, v40, v27, v41, v42, v11, v12, (by simp only [Act.put, putA, putB, putC]), ⟨hI.ext, hI.f0, hI.f1, hI.f2, hI.f3, hI.f4, hI.f5, hI.f6, hI.f7, hI.f8, hI.f9, fun _ => rfl, hI.f11, hI.f12, hI.f13, hI.f14, hI.f15, hI.f16, hI.f17, hI.f18⟩⟩
    ·rintro T _ W ⟨v28, v29, v30, v31, v32, v33, v34, v35, v36, v37, v38, v39, v40, v27, v41, v42, v11, v12, rfl, hI⟩ hL hd K hK
     simp only [Act.put, putA, putB, putC]
     obtain rfl := hI.f10 (by have h := hd; simp [Region.binds] at h; first | exact h | exact h.1 | exact h.2 | exact h.2.1 | exact h.2.2 | exact h.2.2.1 | exact h.2.2.2)
     have g2 := hI.ext.cell g2
     go_simp
     refine hK _ _ ⟨v28, v29, v30, v31, v32, v33, v34, v35, v36, v37, _, _, v40, v27, v41, v42, v11, v12, (by simp only [Act.put, putA, putB, putC]), ⟨hI.ext, hI.f0, hI.f1, hI.f2, hI.f3, hI.f4, hI.f5, hI.f6, hI.f7, hI.f8, hI.f9, hI.f10, fun _ => rfl, hI.f12, hI.f13, hI.f14, hI.f15, hI.f16, hI.f17, hI.f18⟩⟩
    ·rintro T _ W ⟨v28, v29, v30, v31, v32, v33, v34, v35, v36, v37, v38, v39, v40, v27, v41, v42, v11, v12, rfl, hI⟩ hL hd K hK
     simp only [Act.put, putA, putB, putC]
     obtain rfl := hI.f0 (by have h := hd; simp [Region.binds] at h; first | exact h | exact h.1 | exact h.2 | exact h.2.1 | exact h.2.2 | exact h.2.2.1 | exact h.2.2.2)
     obtain rfl := hI.f6 (by have h := hd; simp [Region.binds] at h; first | exact h | exact h.1 | exact h.2 | exact h.2.1 | exact h.2.2 | exact h.2.2.1 | exact h.2.2.2)
     obtain rfl := hI.f11 (by have h := hd; simp [Region.binds] at h; first | exact h | exact h.1 | exact h.2 | exact h.2.1 | exact h.2.2 | exact h.2.2.1 | exact h.2.2.2)
     go_simp
     refine (hmt.out W).mono ?_
     rintro e W' ⟨rfl, hx⟩
     refine hK _ _ ⟨_, v29, v30, v31, v32, v33, _, v35, v36, v37, v38, _, _, v27, v41, v42, v11, v12, (by simp only [Act.put, putA, putB, putC]), ⟨hI.ext.trans hx, hI.f0, hI.f1, hI.f2, hI.f3, hI.f4, hI.f5, hI.f6, hI.f7, hI.f8, hI.f9, hI.f10, hI.f11, fun _ => rfl, hI.f13, hI.f14, hI.f15, fun e => let ⟨g, a, b, d⟩ := hI.f16 e; ⟨g, a, b, (Keep.of_ext (X := fun _ => False) hx).blk d id⟩, hI.f17, hI.f18⟩⟩
    ·rintro T _ W ⟨v28, v29, v30, v31, v32, v33, v34, v35, v36, v37, v38, v39, v40, v27, v41, v42, v11, v12, rfl, hI⟩ hL hd K hK
     simp only [Act.put, putA, putB, putC]
     obtain rfl := hI.f12 (by have h := hd; simp [Region.binds] at h; first | exact h | exact h.1 | exact h.2 | exact h.2.1 | exact h.2.2 | exact h.2.2.1 | exact h.2.2.2)
     go_simp
     refine hK _ _ ⟨v28, v29, v30, v31, v32, v33, v34, v35, v36, v37, v38, v39, _, _, v41, v42, v11, v12, (by simp only [Act.put, putA, putB, putC]), ⟨hI.ext, hI.f0, hI.f1, hI.f2, hI.f3, hI.f4, hI.f5, hI.f6, hI.f7, hI.f8, hI.f9, hI.f10, hI.f11, hI.f12, fun _ => rfl, hI.f14, hI.f15, hI.f16, hI.f17, hI.f18⟩⟩
    ·rintro T _ W ⟨v28, v29, v30, v31, v32, v33, v34, v35, v36, v37, v38, v39, v40, v27, v41, v42, v11, v12, rfl, hI⟩ hL hd K hK
     simp only [Act.put, putA, putB, putC]
     obtain rfl := hI.f13 (by have h := hd; simp [Region.binds] at h; first | exact h | exact h.1 | exact h.2 | exact h.2.1 | exact h.2.2 | exact h.2.2.1 | exact h.2.2.2)
     go_simp
     refine hK _ _ ⟨v28, v29, v30, v31, v32, v33, v34, v35, v36, v37, v38, v39, v40, _, _, v42, v11, v12, (by simp only [Act.put, putA, putB, putC]), ⟨hI.ext, hI.f0, hI.f1, hI.f2, hI.f3, hI.f4, hI.f5, hI.f6, hI.f7, hI.f8, hI.f9, hI.f10, hI.f11, hI.f12, hI.f13, fun _ => rfl, hI.f15, hI.f16, hI.f17, hI.f18⟩⟩
    ·rintro T _ W ⟨v28, v29, v30, v31, v32, v33, v34, v35, v36, v37, v38, v39, v40, v27, v41, v42, v11, v12, rfl, hI⟩ hL hd K hK
     simp only [Act.put, putA, putB, putC]
     obtain rfl := hI.f13 (by have h := hd; simp [Region.binds] at h; first | exact h | exact h.1 | exact h.2 | exact h.2.1 | exact h.2.2 | exact h.2.2.1 | exact h.2.2.2)
     go_simp
     refine hK _ _ ⟨v28, v29, v30, v31, v32, v33, v34, v35, v36, v37, v38, v39, v40, _, v41, _, v11, v12, (by simp only [Act.put, putA, putB, putC]), ⟨hI.ext, hI.f0, hI.f1, hI.f2, hI.f3, hI.f4, hI.f5, hI.f6, hI.f7, hI.f8, hI.f9, hI.f10, hI.f11, hI.f12, hI.f13, hI.f14, fun _ => rfl, hI.f16, hI.f17, hI.f18⟩⟩
    ·rintro T _ W ⟨v28, v29, v30, v31, v32, v33, v34, v35, v36, v37, v38, v39, v40, v27, v41, v42, v11, v12, rfl, hI⟩ hL hd K hK
     simp only [Act.put, putA, putB, putC]
     have n17 : T 17 = false := by cases e : T 17 with | false => rfl | true => exact absurd (hI.f17 e) (by rw [hL]; decide)
     go_simp
     refine hK _ _ ⟨v28, v29, v30, v31, v32, v33, v34, v35, v36, v37, v38, v39, v40, v27, v41, v42, _, v12, (by simp only [Act.put, putA, putB, putC]), ⟨hI.ext.trans ((Ext.refl W).alloc (.cells #[.int .i64 0, .int .i64 0] 231)), hI.f0, hI.f1, hI.f2, hI.f3, hI.f4, hI.f5, hI.f6, hI.f7, hI.f8, hI.f9, hI.f10, hI.f11, hI.f12, hI.f13, hI.f14, hI.f15, fun _ => ⟨_, rfl, hI.ext.size, by show Blk _ _ _ (clsC R q (T 17)); rw [n17]; exact blk_new' rfl rfl⟩, fun _ => rfl, hI.f18⟩⟩
    ·rintro T _ W ⟨v28, v29, v30, v31, v32, v33, v34, v35, v36, v37, v38, v39, v40, v27, v41, v42, v11, v12, rfl, hI⟩ hL hd K hK
     simp only [Act.put, putA, putB, putC]
     obtain rfl := hI.f14 (by have h := hd; simp [Region.binds] at h; first | exact h | exact h.1 | exact h.2 | exact h.2.1 | exact h.2.2 | exact h.2.2.1 | exact h.2.2.2)
     have h16 : T 16 = true := by have h := hd; simp [Region.binds] at h; first | exact h | exact h.1 | exact h.2 | exact h.2.1 | exact h.2.2
     obtain ⟨gc, rfl, hgc, hb⟩ := hI.f16 h16
     rw [hL] at hb
     replace hb : Blk W gc 231 #[.int .i64 0, .int .i64 0] := hb
     have c7 := hb.cell 0
     have c8 := hb.cell 1
     have l7 := hb.lt
     have f7 := hb.frozen 0
     have f8 := hb.frozen 1
     have hbn : Blk ((W.setCell ⟨gc, 0, none⟩ (.int .i64 R)).setCell ⟨gc, 1, none⟩ (.int .i64 q)) gc 231 #[.int .i64 R, .int .i64 q] := (hb.set_ 0 (.int .i64 R)).set_ 1 (.int .i64 q)
     have hen := (hI.ext.setCell (p := ⟨gc, 0, none⟩) hgc (.int .i64 R)).setCell (p := ⟨gc, 1, none⟩) hgc (.int .i64 q)
     go_simp
     refine hK _ _ ⟨v28, v29, v30, v31, v32, v33, v34, v35, v36, v37, v38, v39, v40, v27, _, v42, _, v12, (by simp only [Act.put, putA, putB, putC]), ⟨hen, hI.f0, hI.f1, hI.f2, hI.f3, hI.f4, hI.f5, hI.f6, hI.f7, hI.f8, hI.f9, hI.f10, hI.f11, hI.f12, hI.f13, hI.f14, hI.f15, fun _ => ⟨gc, rfl, hgc, hbn⟩, fun _ => h16, hI.f18⟩⟩
    ·rintro T _ W ⟨v28, v29, v30, v31, v32, v33, v34, v35, v36, v37, v38, v39, v40, v27, v41, v42, v11, v12, rfl, hI⟩ hL hd K hK
     simp only [Act.put, putA, putB, putC]
     obtain rfl := hI.f15 (by have h := hd; simp [Region.binds] at h; first | exact h | exact h.1 | exact h.2 | exact h.2.1 | exact h.2.2 | exact h.2.2.1 | exact h.2.2.2)
     go_simp
     refine hK _ _ ⟨v28, v29, v30, v31, v32, v33, v34, v35, v36, v37, v38, v39, v40, v27, v41, _, v11, _, (by simp only [Act.put, putA, putB, putC]), ⟨hI.ext, hI.f0, hI.f1, hI.f2, hI.f3, hI.f4, hI.f5, hI.f6, hI.f7, hI.f8, hI.f9, hI.f10, hI.f11, hI.f12, hI.f13, hI.f14, hI.f15, hI.f16, hI.f17, fun _ => rfl⟩⟩
   ·rintro T _ W ⟨v28, v29, v30, v31, v32, v33, v34, v35, v36, v37, v38, v39, v40, v27, v41, v42, v11, v12, rfl, hI⟩ hall
    simp only [Act.put, putA, putB, putC]
    obtain rfl := hI.f0 (hall 0 (by decide))
    obtain rfl := hI.f1 (hall 1 (by decide))
    obtain rfl := hI.f2 (hall 2 (by decide))
    obtain rfl := hI.f3 (hall 3 (by decide))
    obtain rfl := hI.f4 (hall 4 (by decide))
    obtain rfl := hI.f5 (hall 5 (by decide))
    obtain rfl := hI.f6 (hall 6 (by decide))
    obtain rfl := hI.f7 (hall 7 (by decide))
    obtain rfl := hI.f8 (hall 8 (by decide))
    obtain rfl := hI.f9 (hall 9 (by decide))
    obtain rfl := hI.f10 (hall 10 (by decide))
    obtain rfl := hI.f11 (hall 11 (by decide))
    obtain rfl := hI.f12 (hall 12 (by decide))
    obtain rfl := hI.f13 (hall 13 (by decide))
    obtain rfl := hI.f14 (hall 14 (by decide))
    obtain rfl := hI.f15 (hall 15 (by decide))
    obtain rfl := hI.f18 (hall 18 (by decide))
    obtain ⟨gc, rfl, hgc, hb⟩ := hI.f16 (hall 16 (by decide))
    rw [hall 17 (by decide)] at hb
    replace hb : Blk W gc 231 #[.int .i64 R, .int .i64 q] := hb
    have kx := Keep.of_ext (X := fun _ => False) hI.ext
    have hT3 := Lib.hid (kx.blk hT2.out id)
    have hF3 := Lib.hid (kx.blk hF2.out id)
    have hnx : Hid (lateF p.period n ((p.cycle.map (resD p)).take (k + 1)) (L, d) = lateS q n (lateF p.period n ((p.cycle.map (resD p)).take k) (L, d)) R) := by
     have hk' : k < (p.cycle.map (resD p)).length := by rw [List.length_map, hm.out]; exact hkm
     have hr : (p.cycle.map (resD p))[k] = R := by
      have := ec2.out
      rw [List.getElem?_eq_some_iff] at this
      obtain ⟨_, h⟩ := this
      rw [List.getElem_map, h]
      exact hR.out
     have := lateF_take (P := p.period) (n := n) (s := (L, d)) hk'
     rw [hr] at this
     rw [← hq.out]
     exact this
    obtain ⟨st, hst⟩ : ∃ st, Hid (lateF p.period n ((p.cycle.map (resD p)).take k) (L, d) = st) := ⟨_, rfl⟩
    rw [hst.out] at hI2 hnx
    have hI3 : Hid (LateI W Nb Lb Db n st.1 st.2) := Lib.hid ⟨kx.blk hI2.out.nb id, kx.blk hI2.out.lb id, kx.blk hI2.out.db id, hI2.out.ne⟩
    have q0 : W.cell? ⟨Fb, 0, none⟩ = some (.func (.func 148) #[] #[.pointer (some ⟨Tb, 0, none⟩), .pointer (some ⟨Fb, 0, none⟩), .pointer (some ⟨Nb, 0, none⟩), .pointer (some ⟨Lb, 0, none⟩), .pointer (some ⟨Db, 0, none⟩)]) := hF3.out.cell 0
    have ql := hF3.out.lt
    have y0 : W.cell? ⟨gc, 0, none⟩ = some (.int .i64 R) := hb.cell 0
    have y1 : W.cell? ⟨gc, 1, none⟩ = some (.int .i64 q) := hb.cell 1
    have yl := hb.lt
    have hcall := Lib.hid (late1_end Tb Fb Nb Lb Db (some ⟨b1, o1, none⟩) pc R q n st.1 st.2 W hT3.out hI3.out hRb.1 (by omega) hRb.2.2.1 hRb.2.2.2 n0 n1)
    have hg8 : ∀ (y : Array Value) (W : World), (callFunc 148 y).run Tryz.prog W = .ok (.enter 148 y) W := fun _ _ => by kernel_rfl
    have hK3 : Hid (Keep (fun q => q = Lb ∨ q = Db) W1 W) := Lib.hid (hK.out.trans (Keep.of_ext hI.ext))
    clear hI hall kx hb hT3 hF3 hI3 c0 c1 t0 g0 g1 g2 g3 hres hmt hst hT2 hF2 hI2 hB2 hE2 hK z0 z1 z2 z3 z4 z5 z6
    go_wp2_with fail
    refine hcall.out.mono ?_
    rintro e W2 ⟨rfl, hk2, hi2⟩
    have hK4 := Lib.hid (hK3.out.trans hk2)
    have hI4 : Hid (LateI W2 Nb Lb Db n (lateF p.period n ((p.cycle.map (resD p)).take (k + 1)) (L, d)).1 (lateF p.period n ((p.cycle.map (resD p)).take (k + 1)) (L, d)).2) := by
     rw [hnx.out]
     exact Lib.hid hi2
    clear hk2 hi2 hcall q0 ql y0 y1 yl hnx hK3
    go_wp2
    go_roundw
    case rel => exact ⟨k + 1, by omega, by go_num, hK4, hI4⟩
    case measure => simp [intOf]; omega
  ·obtain rfl : k = m := by omega
   have hfin := hI2.out
   rw [List.take_of_length_le (by rw [List.length_map, hm.out]; exact Nat.le_refl _)] at hfin
   replace hfin := Lib.hid hfin
   have hK2 : Hid (Keep (fun q => q = Lb ∨ q = Db) w wr) := Lib.hid ((Keep.of_ext e1.out.out).trans hK.out)
   have dk : decide (k < k) = false := decide_eq_false (by omega)
   clear hB2 hT2 hF2 hI2 hE2 hkm hK
   go_wp2_with fail
   refine bodyPost_ret (results_none rfl _ _ _) rfl ?_
   exact ⟨rfl, hK2.out, hfin.out⟩
end Go.Proofs.YtgolicoalldidaaGreat
namespace Go.Proofs.YtgolicoalldidaaGreat
open Go.RowKit
def farD : Int := 1152921504606846976
def lateD (p : PerD) (n : Int) : Int × Bool :=
 if (lateF p.period (max n p.from_) (p.cycle.map (resD p)) (farD, false)).2 then ((lateF p.period (max n p.from_) (p.cycle.map (resD p)) (farD, false)).1, true) else (0, false)
theorem lateF_bd {P n : Int} (p0 : 1 ≤ P) (p1 : P ≤ 1000) (n0 : 0 ≤ n) (n1 : n ≤ 1000000000000) : ∀ (rs : List Int) (s : Int × Bool), (∀ r ∈ rs, 0 ≤ r ∧ r ≤ 1000) → (s.2 = true → n ≤ s.1 ∧ s.1 ≤ 1000000002000) → (s.2 = false → s.1 = farD) →
  (lateF P n rs s).2 = true → n ≤ (lateF P n rs s).1 ∧ (lateF P n rs s).1 ≤ 1000000002000
 | [], _, _, h, _ => h
 | r :: rs, s, hr, h, h2 => by
  obtain ⟨r0, r1⟩ := hr r List.mem_cons_self
  obtain ⟨a0, a1, a2⟩ := upA_bd r0 r1 p0 p1 n0 n1
  refine lateF_bd p0 p1 n0 n1 rs (lateS P n s r) (fun x hx => hr x (List.mem_cons_of_mem _ hx)) ?_ ?_
  ·intro _
   show n ≤ min (upA r P n) s.1 ∧ min (upA r P n) s.1 ≤ 1000000002000
   cases hs : s.2 with
   | true => have := h hs; omega
   | false => have := h2 hs; unfold farD at this; omega
  ·intro e
   have e' : (s.2 || decide (upA r P n ≤ s.1)) = false := e
   rw [Bool.or_eq_false_iff] at e'
   have h3 := h2 e'.1
   have h4 := of_decide_eq_false e'.2
   unfold farD at h3
   omega
theorem resD_bd {p : PerD} (hok : PerOk p) (c : Int) : 0 ≤ resD p c ∧ resD p c ≤ 1000 := by
 obtain ⟨_, _, _, q0, q1, _⟩ := hok
 unfold resD
 have h1 := Int.emod_nonneg (p.from_ % p.period + c) (show p.period ≠ 0 by omega)
 have h2 := Int.emod_lt_of_pos (p.from_ % p.period + c) (show 0 < p.period by omega)
 omega
theorem lateD_bd {p : PerD} (hok : PerOk p) {n : Int} (n0 : 0 ≤ n) (n1 : n ≤ 1000000000000) (h : (lateD p n).2 = true) : n ≤ (lateD p n).1 ∧ (lateD p n).1 ≤ 1000000002000 := by
 have hok' := hok
 obtain ⟨_, f0, f1, q0, q1, _⟩ := hok
 by_cases hc : (lateF p.period (max n p.from_) (p.cycle.map (resD p)) (farD, false)).2 = true
 ·have hb := lateF_bd q0 q1 (show 0 ≤ max n p.from_ by omega) (show max n p.from_ ≤ 1000000000000 by omega) (p.cycle.map (resD p)) (farD, false) (fun r hr => by
   obtain ⟨c, _, rfl⟩ := List.mem_map.1 hr
   exact resD_bd hok' c) (fun e => by cases e) (fun _ => rfl) hc
  have e : lateD p n = ((lateF p.period (max n p.from_) (p.cycle.map (resD p)) (farD, false)).1, true) := if_pos hc
  rw [e]
  dsimp only
  omega
 ·have e : lateD p n = (0, false) := if_neg hc
  rw [e] at h
  cases h
def daysF (p : PerD) (m : Int) : Nat → Int → List Int
 | 0, _ => []
 | k + 1, n => if (lateD p n).2 = true ∧ (lateD p n).1 * 1440 + m < 20160 then (lateD p n).1 :: daysF p m k ((lateD p n).1 + 1) else []
def daysL (p : PerD) (m : Int) : List Int := daysF p m 15 0
theorem days_step {p : PerD} {m n d : Int} {j : Nat} (hm : 0 ≤ m) (hj : (j : Int) ≤ n) (_ : n ≤ 14) (h : daysF p m (15 - j) n = (daysL p m).drop j) (hd : lateD p n = (d, true)) (hlt : d * 1440 + m < 20160) (hnd : n ≤ d) :
  j < (daysL p m).length ∧ (daysL p m)[j]? = some d ∧ daysF p m (15 - (j + 1)) (d + 1) = (daysL p m).drop (j + 1) ∧ d ≤ 13 := by
 rw [show 15 - j = (15 - (j + 1)) + 1 by omega] at h
 unfold daysF at h
 rw [if_pos (by rw [hd]; exact ⟨rfl, hlt⟩), hd] at h
 dsimp only at h
 have hl : j < (daysL p m).length := by
  rcases Nat.lt_or_ge j (daysL p m).length with h1 | h1
  ·exact h1
  ·rw [List.drop_of_length_le h1] at h
   cases h
 rw [List.drop_eq_getElem_cons hl] at h
 obtain ⟨h1, h2⟩ := List.cons.inj h
 exact ⟨hl, by rw [List.getElem?_eq_getElem hl, ← h1], h2, by omega⟩
theorem days_end {p : PerD} {m n : Int} {j : Nat} (hj : (j : Int) ≤ n) (hn : n ≤ 14) (h : daysF p m (15 - j) n = (daysL p m).drop j) (hd : ¬ ((lateD p n).2 = true ∧ (lateD p n).1 * 1440 + m < 20160)) : (daysL p m).length ≤ j := by
 rw [show 15 - j = (15 - (j + 1)) + 1 by omega] at h
 unfold daysF at h
 rw [if_neg hd] at h
 rcases Nat.lt_or_ge j (daysL p m).length with h1 | h1
 ·rw [List.drop_eq_getElem_cons h1] at h
  cases h
 ·exact h1
theorem daysF_len (p : PerD) (m : Int) : ∀ (k : Nat) (n : Int), (daysF p m k n).length ≤ k
 | 0, _ => Nat.le_refl _
 | k + 1, n => by
  unfold daysF
  split
  ·have := daysF_len p m k ((lateD p n).1 + 1)
   simp only [List.length_cons]
   omega
  ·simp
theorem daysF_bd {p : PerD} (hok : PerOk p) {m : Int} (hm : 0 ≤ m) : ∀ (k : Nat) (n : Int), 0 ≤ n → n ≤ 1000 → ∀ d ∈ daysF p m k n, 0 ≤ d ∧ d ≤ 13
 | 0, _, _, _, d, h => by cases h
 | k + 1, n, h0, h1, d, h => by
  unfold daysF at h
  split at h
  ·next hc =>
   have := lateD_bd hok h0 (by omega) hc.1
   rcases List.mem_cons.1 h with rfl | h
   ·omega
   ·exact daysF_bd hok hm k _ (by omega) (by omega) d h
  ·cases h
theorem daysL_bd {p : PerD} (hok : PerOk p) {m : Int} (hm : 0 ≤ m) {d : Int} (h : d ∈ daysL p m) : 0 ≤ d ∧ d ≤ 13 := daysF_bd hok hm 15 0 (by omega) (by omega) d h
abbrev InstD := Int × Int × Int
def ltI (x y : InstD) : Prop := x.2.1 < y.2.1 ∨ x.2.1 = y.2.1 ∧ (x.1 < y.1 ∨ x.1 = y.1 ∧ x.2.2 < y.2.2)
instance (x y : InstD) : Decidable (ltI x y) := by unfold ltI; infer_instance
theorem ltI_eq {x y : InstD} (h1 : ¬ ltI x y) (h2 : ¬ ltI y x) : x = y := by
 obtain ⟨a, b, c⟩ := x
 obtain ⟨a', b', c'⟩ := y
 unfold ltI at h1 h2
 dsimp only at h1 h2
 have e1 : a = a' := by omega
 have e2 : b = b' := by omega
 have e3 : c = c' := by omega
 rw [e1, e2, e3]
def SortedI (l : List InstD) : Prop := l.Pairwise fun x y => ¬ ltI y x
theorem sortedI_unique {a b : List InstD} (hp : a.Perm b) (ha : SortedI a) (hb : SortedI b) : a = b := hp.eq_of_pairwise (fun _ _ _ _ h1 h2 => ltI_eq h2 h1) ha hb
def insI (x : InstD) : List InstD → List InstD
 | [] => [x]
 | y :: r => if ltI y x then y :: insI x r else x :: y :: r
def sortI : List InstD → List InstD
 | [] => []
 | x :: r => insI x (sortI r)
theorem insI_perm (x : InstD) : ∀ l : List InstD, (insI x l).Perm (x :: l)
 | [] => List.Perm.refl _
 | y :: r => by
  unfold insI
  split
  ·exact ((insI_perm x r).cons y).trans (List.Perm.swap x y r)
  ·exact List.Perm.refl _
theorem sortI_perm : ∀ l : List InstD, (sortI l).Perm l
 | [] => List.Perm.refl _
 | x :: r => (insI_perm x _).trans ((sortI_perm r).cons x)
theorem insI_sorted (x : InstD) : ∀ l : List InstD, SortedI l → SortedI (insI x l)
 | [], _ => List.pairwise_singleton _ _
 | y :: r, h => by
  obtain ⟨h1, h2⟩ := List.pairwise_cons.1 h
  unfold insI
  split
  ·next hlt =>
   refine List.pairwise_cons.2 ⟨fun z hz => ?_, insI_sorted x r h2⟩
   rcases List.mem_cons.1 ((insI_perm x r).mem_iff.1 hz) with rfl | hz
   ·intro h3
    unfold ltI at hlt h3
    omega
   ·exact h1 z hz
  ·next hlt =>
   refine List.pairwise_cons.2 ⟨fun z hz => ?_, h⟩
   rcases List.mem_cons.1 hz with rfl | hz
   ·exact hlt
   ·intro h3
    have h4 := h1 z hz
    unfold ltI at hlt h3 h4
    omega
theorem sortI_sorted : ∀ l : List InstD, SortedI (sortI l)
 | [] => List.Pairwise.nil
 | x :: r => insI_sorted x _ (sortI_sorted r)
def compI : List InstD → List InstD
 | [] => []
 | x :: r => if r.head? = some x then compI r else x :: compI r
theorem compI_mem : ∀ {l : List InstD} {x : InstD}, x ∈ compI l → x ∈ l
 | [], _, h => by cases h
 | y :: r, x, h => by
  unfold compI at h
  split at h
  ·exact List.mem_cons_of_mem _ (compI_mem h)
  ·rcases List.mem_cons.1 h with rfl | h
   ·exact List.mem_cons_self
   ·exact List.mem_cons_of_mem _ (compI_mem h)
theorem compI_len : ∀ l : List InstD, (compI l).length ≤ l.length
 | [] => Nat.le_refl _
 | y :: r => by
  have := compI_len r
  unfold compI
  split
  ·simp only [List.length_cons]; omega
  ·simp only [List.length_cons]; omega
structure ClassD where
 days : PerD
 minute : Int
instance : Inhabited ClassD := ⟨⟨default, 0⟩⟩
structure StreamD where
 classes : List ClassD
 len : Int
 extra : List InstD
instance : Inhabited StreamD := ⟨⟨[], 0, []⟩⟩
def InstOk (x : InstD) : Prop := 0 ≤ x.1 ∧ x.1 ≤ 100 ∧ 0 ≤ x.2.1 ∧ x.2.1 ≤ 100000 ∧ x.2.1 < x.2.2 ∧ x.2.2 ≤ x.2.1 + 10080
structure StreamOk (s : StreamD) : Prop where
 few : s.classes.length ≤ 1
 cls : ∀ c ∈ s.classes, PerOk c.days ∧ 0 ≤ c.minute ∧ c.minute ≤ 1439
 len0 : 1 ≤ s.len
 len1 : s.len ≤ 10080
 extra : s.extra.length ≤ 40
 each : ∀ x ∈ s.extra, InstOk x
 order : s.extra.Pairwise ltI
def instI (len : Int) (m d : Int) : InstD := (d, d * 1440 + m, d * 1440 + m + len)
def classI (len : Int) (c : ClassD) : List InstD := (daysL c.days c.minute).map (instI len c.minute)
def hitI (x : InstD) : Bool := decide (x.2.1 < 20160) && decide (0 < x.2.2)
def rawI (s : StreamD) : List InstD := s.classes.flatMap (classI s.len) ++ s.extra.filter hitI
def listI (s : StreamD) : List InstD := compI (sortI (rawI s))
theorem rawI_ok {s : StreamD} (h : StreamOk s) {x : InstD} (hx : x ∈ rawI s) : InstOk x := by
 rcases List.mem_append.1 hx with hx | hx
 ·obtain ⟨c, hc, hx⟩ := List.mem_flatMap.1 hx
  obtain ⟨d, hd, rfl⟩ := List.mem_map.1 hx
  obtain ⟨hp, m0, m1⟩ := h.cls c hc
  have := daysL_bd hp m0 hd
  have := h.len0
  have := h.len1
  unfold InstOk instI
  dsimp only
  omega
 ·exact h.each x (List.mem_filter.1 hx).1
theorem listI_ok {s : StreamD} (h : StreamOk s) {x : InstD} (hx : x ∈ listI s) : InstOk x := rawI_ok h ((sortI_perm _).mem_iff.1 (compI_mem hx))
end Go.Proofs.YtgolicoalldidaaGreat
namespace Go.Proofs.YtgolicoalldidaaGreat
open Go.RowKit Go.Shelf
attribute [local go_sem] Oper.semAt_some run_store_funcT
set_option maxRecDepth 100000 in
theorem late_calls (v : Value) (p : PerD) (n : Int) (w : World) (h : Pers w v [p]) (hok : PerOk p) (n0 : 0 ≤ n) (n1 : n ≤ 1000000000000) :
  Calls Tryz.prog 133 #[v, .int .i64 n] w fun e w' => e = .returned (.tuple #[.int .i64 (lateD p n).1, .bool (lateD p n).2]) ∧ Ext w w' := by
 have hP := Lib.hid h
 have hok' := Lib.hid hok
 obtain ⟨pa, pc, e⟩ := h.form
 rw [List.length_singleton] at e
 subst e
 have hst : Hid (∀ W, Ext w W → Calls Tryz.prog 147 #[.slice pa 1 pc] W fun e w' => e = .returned (.int .i64 p.from_) ∧ Ext W w') := Lib.hid fun W hW => start_calls _ p W (hP.out.ext hW) hok'.out
 obtain ⟨f, hf⟩ : ∃ f, Hid (p.from_ = f) := ⟨_, rfl⟩
 have hfb : 0 ≤ f ∧ f ≤ 1000 := hf.out ▸ ⟨hok.2.1, hok.2.2.1⟩
 rw [hf.out] at hst
 obtain ⟨M, hM⟩ : ∃ M, Hid (max n f = M) := ⟨_, rfl⟩
 have hMb : Hid (0 ≤ M ∧ M ≤ 1000000000000) := Lib.hid (by rw [← hM.out]; omega)
 obtain ⟨st, hst2⟩ : ∃ st, Hid (lateF p.period M (p.cycle.map (resD p)) (farD, false) = st) := ⟨_, rfl⟩
 have hR : Hid (lateD p n = if st.2 then (st.1, true) else (0, false)) := Lib.hid (by unfold lateD; rw [hf.out, hM.out, hst2.out])
 clear h hok n0 n1 hfb
 go_enter Tryz.func133, Tryz.ntmps133
 go_upto_region 1 with (fail)
 refine wp_abs (S := fun W => Hid (Ext w W) ∧ Hid (Blk W w.heap.size 132 #[.slice pa 1 pc]) ∧ Hid (Blk W (w.heap.size + 1) 3 #[.int .i64 n])) ?_ ?_
 ·exact ⟨Lib.hid (by exact (by with_reducible repeat' (first | exact Ext.refl _ | assumption | refine Ext.drewN ?_ _ | refine Ext.drew ?_ | refine Ext.alloc ?_ _ | refine Ext.trans ?_ (by with_reducible assumption)))), Lib.hid (Blk.alloc (blk_new' rfl rfl) _), Lib.hid (blk_new' (by simp) rfl)⟩
 rintro W1 ⟨hE, hB0, hB1⟩
 have z0 := After.cell (show W1.cell? ⟨w.heap.size, 0, none⟩ = some (.slice pa 1 pc) from hB0.out.cell 0)
 have z1 := After.cell (show W1.cell? ⟨w.heap.size + 1, 0, none⟩ = some (.int .i64 n) from hB1.out.cell 0)
 have hst3 := Lib.hid fun W (x : Ext W1 W) => hst.out W (hE.out.trans x)
 clear hst
 refine wp_region_tail 4 (by kernel_rfl) (by kernel_rfl) ?_
 simp only [List.take_succ_cons, List.take_zero, List.drop_succ_cons, List.drop_zero]
 repeat (go_big_quiet_step (exact After.call _ (hst3.out _ (After.ext _))))
 refine wpQuiet_nil ?_
 rintro _ ⟨u, rfl⟩
 have hV := Lib.hid u.ext
 generalize u.world = V at hV ⊢
 clear z0 z1 hst3
 rw [show (if n < f then f else n) = M by rw [← hM.out]; omega]
 have hB0V := Lib.hid ((Keep.of_ext (X := fun _ => False) hV.out).blk hB0.out id)
 have hB1V := Lib.hid ((Keep.of_ext (X := fun _ => False) hV.out).blk hB1.out id)
 have hEV := Lib.hid (hE.out.trans hV.out)
 have c1 : V.cell? ⟨w.heap.size + 1, 0, none⟩ = some (.int .i64 n) := hB1V.out.cell 0
 have l1 := hB1V.out.lt
 have f1 := hB1V.out.frozen 0
 have hB1N := Lib.hid (hB1V.out.set_ 0 (.int .i64 M))
 have hB0N := Lib.hid (hB0V.out.far (p := ⟨w.heap.size + 1, 0, none⟩) (by dsimp only; omega) (.int .i64 M))
 have hEN := Lib.hid (hEV.out.setCell (p := ⟨w.heap.size + 1, 0, none⟩) (by dsimp only; omega) (.int .i64 M))
 clear hE hV hB0 hB1 hf u
 go_upto_region 2 with (fail)
 clear c1 l1 f1 hB0V hB1V hEV
 refine wp_abs (S := fun W => Hid (Ext w W) ∧ Hid (Blk W w.heap.size 132 #[.slice pa 1 pc]) ∧ Hid (Blk W (w.heap.size + 1) 3 #[.int .i64 M])) ⟨hEN, hB0N, hB1N⟩ ?_
 clear hB0N hB1N hEN
 rintro V1 ⟨hE, hB0, hB1⟩
 obtain ⟨L, hL⟩ : ∃ L, Hid (V1.heap.size = L) := ⟨_, rfl⟩
 go_upto_region 5 with (fail)
 rw [hL.out]
 have hszV := Lib.hid (show w.heap.size ≤ L by have := hE.out.size; have := hL.out; omega)
 refine wp_abs (S := fun W => Hid (Ext w W) ∧ Hid (Blk W w.heap.size 132 #[.slice pa 1 pc]) ∧ Hid (LateI W (w.heap.size + 1) L (L + 1) M farD false) ∧
  Hid (Blk W (L + 1 + 1) 229 #[.func (.func 148) #[] #[.pointer (some ⟨w.heap.size, 0, none⟩), .pointer (some ⟨L + 1 + 1, 0, none⟩), .pointer (some ⟨w.heap.size + 1, 0, none⟩), .pointer (some ⟨L, 0, none⟩), .pointer (some ⟨L + 1, 0, none⟩)]])) ?_ ?_
 ·have hlt := hB1.out.lt
  rw [hL.out] at hlt
  refine ⟨Lib.hid (((hE.out.alloc _).alloc _).alloc _), Lib.hid (Blk.alloc (Blk.alloc (Blk.alloc hB0.out _) _) _), Lib.hid ⟨Blk.alloc (Blk.alloc (Blk.alloc hB1.out _) _) _, Blk.alloc (Blk.alloc (blk_new' hL.out.symm rfl) _) _, Blk.alloc (blk_new' (by rw [World.size_alloc, hL.out]) rfl) _, by omega⟩, Lib.hid (blk_new' (by rw [World.size_alloc, World.size_alloc, hL.out]) rfl)⟩
 clear hE hB0 hB1 hL
 rintro V2 ⟨hE2, hT2, hI2, hF2⟩
 have q0 : V2.cell? ⟨L + 1 + 1, 0, none⟩ = some (.func (.func 148) #[] #[.pointer (some ⟨w.heap.size, 0, none⟩), .pointer (some ⟨L + 1 + 1, 0, none⟩), .pointer (some ⟨w.heap.size + 1, 0, none⟩), .pointer (some ⟨L, 0, none⟩), .pointer (some ⟨L + 1, 0, none⟩)]) := hF2.out.cell 0
 have ql := hF2.out.lt
 have hcall := Lib.hid (late1_start w.heap.size (L + 1 + 1) (w.heap.size + 1) L (L + 1) pa pc M farD false p w V2 hE2.out hszV.out (Nat.le_succ_of_le hszV.out) hP.out hok'.out hT2.out hI2.out hF2.out hMb.out.1 hMb.out.2)
 rw [hst2.out] at hcall
 have hg8 : ∀ (y : Array Value) (W : World), (callFunc 148 y).run Tryz.prog W = .ok (.enter 148 y) W := fun _ _ => by kernel_rfl
 go_wp2_with fail
 refine hcall.out.mono ?_
 rintro e V3 ⟨rfl, hk, hi⟩
 obtain ⟨sa, sb⟩ := st
 dsimp only at hi hR
 have hE3 := Lib.hid (hE2.out.keep hk (fun i hi e => by have := hszV.out; omega))
 have d0 : V3.cell? ⟨L + 1, 0, none⟩ = some (.bool sb) := hi.db.cell 0
 have dl := hi.db.lt
 have a0 : V3.cell? ⟨L, 0, none⟩ = some (.int .i64 sa) := hi.lb.cell 0
 have al := hi.lb.lt
 clear hk hi hcall q0 ql hE2 hT2 hI2 hF2 hok' hP hMb
 cases sb with
 | true =>
  rw [if_pos rfl] at hR
  go_wp2
  go_ret2
  rw [hR.out]
  exact ⟨rfl, hE3.out⟩
 | false =>
  rw [if_neg (by decide)] at hR
  go_wp2
  go_ret2
  rw [hR.out]
  exact ⟨rfl, hE3.out⟩
end Go.Proofs.YtgolicoalldidaaGreat
