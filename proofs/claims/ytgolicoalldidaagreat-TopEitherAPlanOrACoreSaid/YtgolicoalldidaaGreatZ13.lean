import Derived.Test.YtgolicoalldidaaGreatZ12
import Derived.Test.YtgolicoalldidaaGreatZ01
import Derived.StillTail
import Derived.Test.YtgolicoalldidaaGreatZ11
set_option maxHeartbeats 12800000
namespace Go.Proofs.YtgolicoalldidaaGreat
open Go.RowKit Go.Shelf
attribute [local go_sem] Oper.semAt_some run_store_funcT
def upA (r P n : Int) : Int := if r < n then r + (n - r + P - 1) / P * P else r
theorem upA_bd {r P n : Int} (r0 : 0 ≤ r) (r1 : r ≤ 1000) (p0 : 1 ≤ P) (p1 : P ≤ 1000) (_ : 0 ≤ n) (n1 : n ≤ 1000000000000) : n ≤ upA r P n ∧ 0 ≤ upA r P n ∧ upA r P n ≤ 1000000002000 := by
 unfold upA
 split
 ·have h1 := Int.emod_add_mul_ediv (n - r + P - 1) P
  have h2 := Int.emod_nonneg (n - r + P - 1) (show P ≠ 0 by omega)
  have h3 := Int.emod_lt_of_pos (n - r + P - 1) (show 0 < P by omega)
  rw [Int.mul_comm] at h1
  omega
 ·omega
structure LateI (w : World) (Nb Lb Db : Nat) (n L : Int) (d : Bool) : Prop where
 nb : Blk w Nb 3 #[.int .i64 n]
 lb : Blk w Lb 3 #[.int .i64 L]
 db : Blk w Db 4 #[.bool d]
 ne : Nb ≠ Lb
set_option maxRecDepth 100000 in
theorem late1_end (Tb Fb Nb Lb Db : Nat) (pa : Option Addr) (pc : Nat) (r P n L : Int) (d : Bool) (w : World) (hT : Blk w Tb 132 #[.slice pa 1 pc]) (hI : LateI w Nb Lb Db n L d)
  (r0 : 0 ≤ r) (r1 : r ≤ 1000) (p0 : 1 ≤ P) (p1 : P ≤ 1000) (n0 : 0 ≤ n) (n1 : n ≤ 1000000000000) :
  Calls Tryz.prog 148 #[.int .i64 1, .agg #[.int .i64 r, .int .i64 P], .pointer (some ⟨Tb, 0, none⟩), .pointer (some ⟨Fb, 0, none⟩), .pointer (some ⟨Nb, 0, none⟩), .pointer (some ⟨Lb, 0, none⟩), .pointer (some ⟨Db, 0, none⟩)] w
   fun e w' => e = .returned (.tuple #[]) ∧ Keep (fun k => k = Lb ∨ k = Db) w w' ∧ LateI w' Nb Lb Db n (min (upA r P n) L) (d || decide (upA r P n ≤ L)) := by
 obtain ⟨a0, a1, a2⟩ := upA_bd r0 r1 p0 p1 n0 n1
 obtain ⟨a, ha⟩ : ∃ a, Hid (upA r P n = a) := ⟨_, rfl⟩
 rw [ha.out] at a0 a1 a2 ⊢
 have hT' := Lib.hid hT
 have hI' := Lib.hid hI
 clear hT hI
 have c0 : w.cell? ⟨Tb, 0, none⟩ = some (.slice pa 1 pc) := hT'.out.cell 0
 have l0 := hT'.out.lt
 have cn : w.cell? ⟨Nb, 0, none⟩ = some (.int .i64 n) := hI'.out.nb.cell 0
 have ln := hI'.out.nb.lt
 have dP : decide (0 < P) = true := decide_eq_true (by omega)
 by_cases hr : r < n
 ·have d1 : decide (r < n) = true := decide_eq_true hr
  obtain ⟨q, hq⟩ : ∃ q, Hid ((n - r + P - 1) / P = q) := ⟨_, rfl⟩
  have hup : Hid (r + q * P = a) := Lib.hid (by rw [← ha.out, ← hq.out]; unfold upA; rw [if_pos hr])
  have t1 : (n - r + P - 1).tdiv P = q := by rw [Int.tdiv_eq_ediv_of_nonneg (by omega)]; exact hq.out
  have w1 : wrap64 (n - r) = n - r := by unfold wrap64; omega
  have w2 : wrap64 (n - r + P) = n - r + P := by unfold wrap64; omega
  have w3 : wrap64 (n - r + P - 1) = n - r + P - 1 := by unfold wrap64; omega
  have hqP : q * P = a - r := by have := hup.out; omega
  have w5 : wrap64 (q * P) = a - r := by rw [hqP]; unfold wrap64; omega
  have hqb : 0 ≤ q ∧ q ≤ 2000000000000 := by
   rw [← hq.out]
   exact ⟨Int.ediv_nonneg (by omega) (by omega), Int.le_trans (Int.ediv_le_self _ (by omega)) (by omega)⟩
  have w4 : wrap64 q = q := by unfold wrap64; omega
  have w6 : wrap64 (r + (a - r)) = a := by unfold wrap64; omega
  have nP : (P == 0) = false := by rw [beq_eq_false_iff_ne]; omega
  clear hq hup hqb hqP hr
  go_enter Tryz.func148, Tryz.ntmps148
  go_upto_region 1 with (fail)
  obtain ⟨cb, hcb⟩ : ∃ cb, Hid (w.heap.size = cb) := ⟨_, rfl⟩
  rw [hcb.out]
  refine wp_abs (S := fun W => Hid (Ext w W) ∧ Hid (Blk W cb 231 #[.int .i64 r, .int .i64 P])) ?_ ?_
  ·exact ⟨Lib.hid (by exact (by with_reducible repeat' (first | exact Ext.refl _ | assumption | refine Ext.drewN ?_ _ | refine Ext.drew ?_ | refine Ext.alloc ?_ _ | refine Ext.trans ?_ (by with_reducible assumption)))), Lib.hid (blk_new' hcb.out.symm rfl)⟩
  rintro W1 ⟨hE, hB⟩
  replace c0 := hE.out.cell c0
  replace l0 := Nat.lt_of_lt_of_le l0 hE.out.size
  replace cn := hE.out.cell cn
  replace ln := Nat.lt_of_lt_of_le ln hE.out.size
  have b0 : W1.cell? ⟨cb, 0, none⟩ = some (.int .i64 r) := hB.out.cell 0
  have b1 : W1.cell? ⟨cb, 1, none⟩ = some (.int .i64 P) := hB.out.cell 1
  have bl := hB.out.lt
  go_upto_region 10 with (fail)
  have z0 := After.cell (show W1.cell? ⟨cb, 0, none⟩ = some (.int .i64 r) from hB.out.cell 0)
  have z1 := After.cell (show W1.cell? ⟨cb, 1, none⟩ = some (.int .i64 P) from hB.out.cell 1)
  have z2 := After.cell cn
  clear b0 b1 bl cn ln c0 l0
  refine wp_region_tail 18 (by kernel_rfl) (by kernel_rfl) ?_
  simp only [List.take_succ_cons, List.take_zero, List.drop_succ_cons, List.drop_zero]
  repeat (go_big_quiet_step (fail))
  refine wpQuiet_nil ?_
  rintro _ ⟨u, rfl⟩
  have hV := Lib.hid u.ext
  generalize u.world = V at hV ⊢
  clear z0 z1 z2
  have hBV := Lib.hid ((Keep.of_ext (X := fun _ => False) hV.out).blk hB.out id)
  have b0 : V.cell? ⟨cb, 0, none⟩ = some (.int .i64 r) := hBV.out.cell 0
  have bl := hBV.out.lt
  have bf := hBV.out.frozen 0
  have hEn := Lib.hid ((hE.out.trans hV.out).setCell (p := ⟨cb, 0, none⟩) (by have := hcb.out; show w.heap.size ≤ cb; omega) (.int .i64 (r + (a - r))))
  have hBn : Hid (Blk (V.setCell ⟨cb, 0, none⟩ (.int .i64 (r + (a - r)))) cb 231 #[.int .i64 a, .int .i64 P]) := by
   rw [show r + (a - r) = a by omega]
   exact Lib.hid (hBV.out.set_ 0 _)
  clear hE hV hB hBV
  go_upto_region 11 with (fail)
  clear b0 bl bf
  refine wp_abs (S := fun W => Hid (Ext w W) ∧ Hid (Blk W cb 231 #[.int .i64 a, .int .i64 P])) ⟨hEn, hBn⟩ ?_
  clear hEn hBn
  rintro V2 ⟨hE2, hB2⟩
  have kx := Keep.of_ext (X := fun _ => False) hE2.out
  have hnb := Lib.hid (kx.blk hI'.out.nb id)
  have hlb := Lib.hid (kx.blk hI'.out.lb id)
  have hdb := Lib.hid (kx.blk hI'.out.db id)
  have hne := Lib.hid hI'.out.ne
  clear kx hT' hI'
  have b0 : V2.cell? ⟨cb, 0, none⟩ = some (.int .i64 a) := hB2.out.cell 0
  have bl := hB2.out.lt
  have cn : V2.cell? ⟨Nb, 0, none⟩ = some (.int .i64 n) := hnb.out.cell 0
  have ln := hnb.out.lt
  have cl : V2.cell? ⟨Lb, 0, none⟩ = some (.int .i64 L) := hlb.out.cell 0
  have ll := hlb.out.lt
  have lf := hlb.out.frozen 0
  have ld := hdb.out.lt
  have df := hdb.out.frozen 0
  have dc : V2.cell? ⟨Db, 0, none⟩ = some (.bool d) := hdb.out.cell 0
  have dna : decide (n ≤ a) = true := decide_eq_true a0
  by_cases hL : a ≤ L
  ·have dl : decide (a ≤ L) = true := decide_eq_true hL
   have hmin : Hid (min a L = a) := Lib.hid (by omega)
   have hld := Lib.hid (hlb.out.ne_ hdb.out (by decide))
   have hnd := Lib.hid (hnb.out.ne_ hdb.out (by decide))
   have k1 := Lib.hid (Keep.setCell (X := fun k => k = Lb ∨ k = Db) (p := ⟨Lb, 0, none⟩) (Keep.of_ext hE2.out) (Or.inl (Or.inl rfl)) (.int .i64 a))
   have k2 := Lib.hid (k1.out.setCell (p := ⟨Db, 0, none⟩) (Or.inl (Or.inr rfl)) (.bool true))
   have q1 := Lib.hid ((hnb.out.far (p := ⟨Lb, 0, none⟩) hne.out (.int .i64 a)).far (p := ⟨Db, 0, none⟩) hnd.out (.bool true))
   have q2 : Hid (Blk ((V2.setCell ⟨Lb, 0, none⟩ (.int .i64 a)).setCell ⟨Db, 0, none⟩ (.bool true)) Lb 3 #[.int .i64 a]) := Lib.hid ((hlb.out.set_ 0 (.int .i64 a)).far (p := ⟨Db, 0, none⟩) hld.out (.bool true))
   have q3 : Hid (Blk ((V2.setCell ⟨Lb, 0, none⟩ (.int .i64 a)).setCell ⟨Db, 0, none⟩ (.bool true)) Db 4 #[.bool true]) := Lib.hid ((hdb.out.far (p := ⟨Lb, 0, none⟩) (Ne.symm hld.out) (.int .i64 a)).set_ 0 (.bool true))
   have dc2 : (V2.setCell ⟨Lb, 0, none⟩ (.int .i64 a)).cell? ⟨Db, 0, none⟩ = some (.bool d) := (hdb.out.far (p := ⟨Lb, 0, none⟩) (Ne.symm hld.out) (.int .i64 a)).cell 0
   have df2 := (hdb.out.far (p := ⟨Lb, 0, none⟩) (Ne.symm hld.out) (.int .i64 a)).frozen 0
   have ld2 := (hdb.out.far (p := ⟨Lb, 0, none⟩) (Ne.symm hld.out) (.int .i64 a)).lt
   have hfin : Hid (LateI ((V2.setCell ⟨Lb, 0, none⟩ (.int .i64 a)).setCell ⟨Db, 0, none⟩ (.bool true)) Nb Lb Db n (min a L) true) := by
    rw [hmin.out]
    exact Lib.hid ⟨q1.out, q2.out, q3.out, hne.out⟩
   clear hE2 hB2 hnb hlb hdb hne hld hnd k1 q1 q2 q3 hmin
   go_wp2_with fail
   refine bodyPost_end (results_none rfl _ _ _) rfl ?_
   first | (rw [dl, Bool.or_true]; exact ⟨rfl, k2.out, hfin.out⟩) | (rw [ra, dl, Bool.or_true]; exact ⟨rfl, k2.out, hfin.out⟩)
  ·have dl : decide (a ≤ L) = false := decide_eq_false hL
   have hmin : Hid (min a L = L) := Lib.hid (by omega)
   have hfin : Hid (LateI V2 Nb Lb Db n (min a L) d) := by
    rw [hmin.out]
    exact Lib.hid ⟨hnb.out, hlb.out, hdb.out, hne.out⟩
   have k2 := Lib.hid (Keep.of_ext (X := fun k => k = Lb ∨ k = Db) hE2.out)
   go_wp2_with fail
   refine bodyPost_end (results_none rfl _ _ _) rfl ?_
   first | exact ⟨rfl, k2.out, hfin.out⟩ | (rw [dl, Bool.or_false]; exact ⟨rfl, k2.out, hfin.out⟩) | (rw [ra, dl, Bool.or_false]; exact ⟨rfl, k2.out, hfin.out⟩)
 ·have d1 : decide (r < n) = false := decide_eq_false hr
  have hra : r = a := by rw [← ha.out]; unfold upA; rw [if_neg hr]
  subst hra
  clear hr
  go_enter Tryz.func148, Tryz.ntmps148
  go_upto_region 1 with (fail)
  obtain ⟨cb, hcb⟩ : ∃ cb, Hid (w.heap.size = cb) := ⟨_, rfl⟩
  rw [hcb.out]
  refine wp_abs (S := fun W => Hid (Ext w W) ∧ Hid (Blk W cb 231 #[.int .i64 r, .int .i64 P])) ?_ ?_
  ·exact ⟨Lib.hid (by exact (by with_reducible repeat' (first | exact Ext.refl _ | assumption | refine Ext.drewN ?_ _ | refine Ext.drew ?_ | refine Ext.alloc ?_ _ | refine Ext.trans ?_ (by with_reducible assumption)))), Lib.hid (blk_new' hcb.out.symm rfl)⟩
  rintro W1 ⟨hE, hB⟩
  replace c0 := hE.out.cell c0
  replace l0 := Nat.lt_of_lt_of_le l0 hE.out.size
  replace cn := hE.out.cell cn
  replace ln := Nat.lt_of_lt_of_le ln hE.out.size
  have b0 : W1.cell? ⟨cb, 0, none⟩ = some (.int .i64 r) := hB.out.cell 0
  have b1 : W1.cell? ⟨cb, 1, none⟩ = some (.int .i64 P) := hB.out.cell 1
  have bl := hB.out.lt
  go_upto_region 11 with (fail)
  clear b0 b1 bl cn ln c0 l0
  refine wp_abs (S := fun W => Hid (Ext w W) ∧ Hid (Blk W cb 231 #[.int .i64 r, .int .i64 P])) ⟨hE, hB⟩ ?_
  clear hE hB
  obtain ⟨a, ra⟩ : ∃ a, r = a := ⟨_, rfl⟩
  rw [ra]
  rw [ra] at ha a0 a1 a2
  rintro V2 ⟨hE2, hB2⟩
  have kx := Keep.of_ext (X := fun _ => False) hE2.out
  have hnb := Lib.hid (kx.blk hI'.out.nb id)
  have hlb := Lib.hid (kx.blk hI'.out.lb id)
  have hdb := Lib.hid (kx.blk hI'.out.db id)
  have hne := Lib.hid hI'.out.ne
  clear kx hT' hI'
  have b0 : V2.cell? ⟨cb, 0, none⟩ = some (.int .i64 a) := hB2.out.cell 0
  have bl := hB2.out.lt
  have cn : V2.cell? ⟨Nb, 0, none⟩ = some (.int .i64 n) := hnb.out.cell 0
  have ln := hnb.out.lt
  have cl : V2.cell? ⟨Lb, 0, none⟩ = some (.int .i64 L) := hlb.out.cell 0
  have ll := hlb.out.lt
  have lf := hlb.out.frozen 0
  have ld := hdb.out.lt
  have df := hdb.out.frozen 0
  have dc : V2.cell? ⟨Db, 0, none⟩ = some (.bool d) := hdb.out.cell 0
  have dna : decide (n ≤ a) = true := decide_eq_true a0
  by_cases hL : a ≤ L
  ·have dl : decide (a ≤ L) = true := decide_eq_true hL
   have hmin : Hid (min a L = a) := Lib.hid (by omega)
   have hld := Lib.hid (hlb.out.ne_ hdb.out (by decide))
   have hnd := Lib.hid (hnb.out.ne_ hdb.out (by decide))
   have k1 := Lib.hid (Keep.setCell (X := fun k => k = Lb ∨ k = Db) (p := ⟨Lb, 0, none⟩) (Keep.of_ext hE2.out) (Or.inl (Or.inl rfl)) (.int .i64 a))
   have k2 := Lib.hid (k1.out.setCell (p := ⟨Db, 0, none⟩) (Or.inl (Or.inr rfl)) (.bool true))
   have q1 := Lib.hid ((hnb.out.far (p := ⟨Lb, 0, none⟩) hne.out (.int .i64 a)).far (p := ⟨Db, 0, none⟩) hnd.out (.bool true))
   have q2 : Hid (Blk ((V2.setCell ⟨Lb, 0, none⟩ (.int .i64 a)).setCell ⟨Db, 0, none⟩ (.bool true)) Lb 3 #[.int .i64 a]) := Lib.hid ((hlb.out.set_ 0 (.int .i64 a)).far (p := ⟨Db, 0, none⟩) hld.out (.bool true))
   have q3 : Hid (Blk ((V2.setCell ⟨Lb, 0, none⟩ (.int .i64 a)).setCell ⟨Db, 0, none⟩ (.bool true)) Db 4 #[.bool true]) := Lib.hid ((hdb.out.far (p := ⟨Lb, 0, none⟩) (Ne.symm hld.out) (.int .i64 a)).set_ 0 (.bool true))
   have dc2 : (V2.setCell ⟨Lb, 0, none⟩ (.int .i64 a)).cell? ⟨Db, 0, none⟩ = some (.bool d) := (hdb.out.far (p := ⟨Lb, 0, none⟩) (Ne.symm hld.out) (.int .i64 a)).cell 0
   have df2 := (hdb.out.far (p := ⟨Lb, 0, none⟩) (Ne.symm hld.out) (.int .i64 a)).frozen 0
   have ld2 := (hdb.out.far (p := ⟨Lb, 0, none⟩) (Ne.symm hld.out) (.int .i64 a)).lt
   have hfin : Hid (LateI ((V2.setCell ⟨Lb, 0, none⟩ (.int .i64 a)).setCell ⟨Db, 0, none⟩ (.bool true)) Nb Lb Db n (min a L) true) := by
    rw [hmin.out]
    exact Lib.hid ⟨q1.out, q2.out, q3.out, hne.out⟩
   clear hE2 hB2 hnb hlb hdb hne hld hnd k1 q1 q2 q3 hmin
   go_wp2_with fail
   refine bodyPost_end (results_none rfl _ _ _) rfl ?_
   first | (rw [dl, Bool.or_true]; exact ⟨rfl, k2.out, hfin.out⟩) | (rw [ra, dl, Bool.or_true]; exact ⟨rfl, k2.out, hfin.out⟩)
  ·have dl : decide (a ≤ L) = false := decide_eq_false hL
   have hmin : Hid (min a L = L) := Lib.hid (by omega)
   have hfin : Hid (LateI V2 Nb Lb Db n (min a L) d) := by
    rw [hmin.out]
    exact Lib.hid ⟨hnb.out, hlb.out, hdb.out, hne.out⟩
   have k2 := Lib.hid (Keep.of_ext (X := fun k => k = Lb ∨ k = Db) hE2.out)
   go_wp2_with fail
   refine bodyPost_end (results_none rfl _ _ _) rfl ?_
   first | exact ⟨rfl, k2.out, hfin.out⟩ | (rw [dl, Bool.or_false]; exact ⟨rfl, k2.out, hfin.out⟩) | (rw [ra, dl, Bool.or_false]; exact ⟨rfl, k2.out, hfin.out⟩)
end Go.Proofs.YtgolicoalldidaaGreat
namespace Go.Proofs.YtgolicoalldidaaGreat
open Go.RowKit
def OnlyN (Q : Exit → Act → World → Prop) : Exit → Act → World → Prop
 | .normal, a, w => Q .normal a w
 | _, _, _ => False
def upL (L : Nat → Bool) (i : Nat) : Nat → Bool := fun j => if j = i then true else L j
def invStep (P : Program) (Q : Exit → Act → World → Prop) (Inv : (Nat → Bool) → Act → World → Prop) (i : Nat) (o : Oper) : Prop :=
 o.guard = none ∧ ∀ L a W, Inv L a W → L i = false → (o.after.all fun e => !Region.binds .any e || L e.on) = true → ∀ K : Act → World → Prop, (∀ a' W', Inv (upL L i) a' W' → K a' W') → o.wp P a W K Q
def invAll (P : Program) (Q : Exit → Act → World → Prop) (Inv : (Nat → Bool) → Act → World → Prop) : List Oper → Nat → Prop
 | [], _ => True
 | o :: r, i => invStep P Q Inv i o ∧ invAll P Q Inv r (i + 1)
def backB (l : List Oper) : Bool := (List.range l.length).all fun j => match l[j]? with | none => true | some o => o.after.all fun e => decide (e.on < j)
section
variable {P : Program} {Q : Exit → Act → World → Prop} {Inv : (Nat → Bool) → Act → World → Prop}
theorem invAll_at : ∀ {l : List Oper} {k i : Nat} {o : Oper}, invAll P Q Inv l k → l[i]? = some o → invStep P Q Inv (k + i) o
 | [], _, _, _, _, h => by simp at h
 | x :: r, k, 0, o, h, hi => by simp at hi; subst hi; exact h.1
 | x :: r, k, i + 1, o, h, hi => by
  have := invAll_at h.2 (i := i) (by simpa using hi)
  rwa [show k + 1 + i = k + (i + 1) by omega] at this
theorem upL_set {listed : Array Bool} {i : Nat} (hi : i < listed.size) : (fun j => (listed.setIfInBounds i true).getD j false) = upL (fun j => listed.getD j false) i := by
 funext j
 unfold upL
 by_cases h : j = i
 ·subst h
  simp [hi]
 ·rw [if_neg h]
  exact getD_set_ne false (fun e => h e.symm)
theorem all_listed {l : List Oper} (hb : backB l = true) {listed : Array Bool} (hs : listed.size = l.length) (hr : Region.ready .any l.toArray listed = []) : ∀ j, j < l.length → listed.getD j false = true := by
 intro j
 induction j using Nat.strongRecOn with
 | ind j ih =>
  intro hj
  cases hl : listed.getD j false with
  | true => rfl
  | false =>
   exfalso
   have hj' : l[j]? = some l[j] := by simp [hj]
   have : j ∈ Region.ready .any l.toArray listed := by
    rw [mem_ready]
    refine ⟨?_, l[j], by simp [hj], fun e he hbi => ?_⟩
    ·have := hl
     simp only [Array.getD_eq_getD_getElem?] at this ⊢
     cases hx : listed[j]? with
     | none => rw [Array.getElem?_eq_none_iff] at hx; omega
     | some y => rw [hx] at this; simpa using this
    ·simp only [backB, List.all_eq_true, List.mem_range] at hb
     have := hb j hj
     rw [hj'] at this
     simp only [Array.all_eq_true_iff_forall_mem] at this
     have h1 := this e he
     have h2 : e.on < j := by simpa using h1
     exact ih _ h2 (by omega)
   rw [hr] at this
   cases this
theorem wpAny_inv {l : List Oper} (hb : backB l = true) (hstep : invAll P Q Inv l 0) (hend : ∀ L a W, Inv L a W → (∀ j, j < l.length → L j = true) → Q .normal a W) :
  ∀ (f : Nat) (s : List Nat) (listed : Array Bool) (a : Act) (W : World), s.length ≤ f → listed.size = l.length → (∀ j, j < l.length → listed.getD j false = false → j ∈ s) → Inv (fun j => listed.getD j false) a W → wpAny P .any l.toArray Q f listed a W
 | f, s, listed, a, W, hf, hs, hin, hI => by
  have hnil : Region.ready .any l.toArray listed = [] → Q .normal a W := fun hr => hend _ _ _ hI (all_listed hb hs hr)
  have hgo : ∀ i ∈ Region.ready .any l.toArray listed, i ∈ s ∧ i < l.length ∧ listed.getD i false = false ∧ ∃ o, l[i]? = some o ∧ (o.after.all fun e => !Region.binds .any e || listed.getD e.on false) = true := fun i hi => by
   obtain ⟨h1, o, ho, hall⟩ := mem_ready.1 hi
   have ho' : l[i]? = some o := by simpa using ho
   have hlt := (List.getElem?_eq_some_iff.1 ho').1
   have hg := getD_both h1
   refine ⟨hin i hlt hg, hlt, hg, o, ho', ?_⟩
   rw [Array.all_eq_true_iff_forall_mem]
   intro e he
   cases hbi : Region.binds .any e with
   | false => rfl
   | true => simpa using hall e he hbi
  cases f with
  | zero =>
   have hs0 : s = [] := List.eq_nil_of_length_eq_zero (by omega)
   have hr : Region.ready .any l.toArray listed = [] := by
    cases hr : Region.ready .any l.toArray listed with
    | nil => rfl
    | cons i r =>
     have := (hgo i (by rw [hr]; exact List.mem_cons_self)).1
     rw [hs0] at this
     cases this
   exact ⟨hr, hnil hr⟩
  | succ f =>
   refine ⟨hnil, fun i hi => ?_⟩
   obtain ⟨his, hlt, hg, o, ho, hall⟩ := hgo i hi
   obtain ⟨hgd, hst⟩ := invAll_at hstep ho
   rw [Nat.zero_add] at hst
   unfold wpOp
   have ho2 : l.toArray[i]? = some o := by simpa using ho
   rw [ho2]
   have hw : Region.wanted o (yielded l.toArray a.tmps) = true := by simp [Region.wanted, hgd]
   dsimp only
   rw [if_pos hw]
   refine Or.inl (hst _ a W hI hg hall _ fun a' W' hI' => ?_)
   refine wpAny_inv hb hstep hend f (s.erase i) _ a' W' ?_ (by simpa using hs) (fun j hj hl => ?_) ?_
   ·have := List.length_erase_of_mem his
    omega
   ·by_cases hij : j = i
    ·subst hij
     have := congrFun (upL_set (listed := listed) (i := j) (by omega)) j
     rw [hl] at this
     simp [upL] at this
    ·have := congrFun (upL_set (listed := listed) (i := i) (by omega)) j
     rw [hl] at this
     simp only [upL, if_neg hij] at this
     exact (List.mem_erase_of_ne hij).2 (hin j hj this.symm)
   ·rw [upL_set (by omega)]
    exact hI'
theorem wp_region_inv0 {id : Nat} {a : Act} {w : World} {l : List Oper} (Inv : (Nat → Bool) → Act → World → Prop) (hm : P.follows .mixedOrders = true) (hb : backB l = true) (h0 : Inv (fun _ => false) a w.drew)
  (hstep : invAll P (OnlyN Q) Inv l 0) (hend : ∀ L a W, Inv L a W → (∀ j, j < l.length → L j = true) → Q .normal a W) : (Code.region id l.toArray true).wp P Q a w := by
 refine Code.wp_mono (fun e a w h => ?_) (wp_region_any (Q := OnlyN Q) hm (wpAny_inv hb hstep hend _ (List.range l.length) _ a _ (by simp) (by simp) (fun j hj _ => by simpa using hj) ?_))
 ·cases e <;> first | exact h | exact (h : False).elim
 ·have e : (fun j => (Array.replicate l.toArray.size false).getD j false) = fun _ => false := by
   funext j
   simp only [Array.getD_eq_getD_getElem?, Array.getElem?_replicate]
   split <;> rfl
  rw [e]
  exact h0
theorem wp_region_inv {id : Nat} {a : Act} {w : World} {l : List Oper} (I : Act → (Nat → Bool) → Act → World → Prop) (hm : P.follows .mixedOrders = true) (hb : backB l = true) (h0 : I a (fun _ => false) a w.drew)
  (hstep : invAll P (OnlyN Q) (I a) l 0) (hend : ∀ L a' W, I a L a' W → (∀ j, j < l.length → L j = true) → Q .normal a' W) : (Code.region id l.toArray true).wp P Q a w := wp_region_inv0 (I a) hm hb h0 hstep hend
end
end Go.Proofs.YtgolicoalldidaaGreat
namespace Go.Proofs.YtgolicoalldidaaGreat
open Go.RowKit
def backBM (l : List Oper) : Bool := (List.range l.length).all fun j => match l[j]? with | none => true | some o => o.after.all fun e => !Region.binds .any e || decide (e.on < j)
section
variable {P : Program} {Q : Exit → Act → World → Prop} {Inv : (Nat → Bool) → Act → World → Prop}
theorem all_listedM {l : List Oper} (hb : backBM l = true) {listed : Array Bool} (hs : listed.size = l.length) (hr : Region.ready .any l.toArray listed = []) : ∀ j, j < l.length → listed.getD j false = true := by
 intro j
 induction j using Nat.strongRecOn with
 | ind j ih =>
  intro hj
  cases hl : listed.getD j false with
  | true => rfl
  | false =>
   exfalso
   have hj' : l[j]? = some l[j] := by simp [hj]
   have : j ∈ Region.ready .any l.toArray listed := by
    rw [mem_ready]
    refine ⟨?_, l[j], by simp [hj], fun e he hbi => ?_⟩
    ·have := hl
     simp only [Array.getD_eq_getD_getElem?] at this ⊢
     cases hx : listed[j]? with
     | none => rw [Array.getElem?_eq_none_iff] at hx; omega
     | some y => rw [hx] at this; simpa using this
    ·simp only [backBM, List.all_eq_true, List.mem_range] at hb
     have := hb j hj
     rw [hj'] at this
     simp only [Array.all_eq_true_iff_forall_mem] at this
     have h1 := this e he
     have h2 : e.on < j := by simpa [hbi] using h1
     exact ih _ h2 (by omega)
   rw [hr] at this
   cases this
theorem wpAny_invM {l : List Oper} (hb : backBM l = true) (hstep : invAll P Q Inv l 0) (hend : ∀ L a W, Inv L a W → (∀ j, j < l.length → L j = true) → Q .normal a W) :
  ∀ (f : Nat) (s : List Nat) (listed : Array Bool) (a : Act) (W : World), s.length ≤ f → listed.size = l.length → (∀ j, j < l.length → listed.getD j false = false → j ∈ s) → Inv (fun j => listed.getD j false) a W → wpAny P .any l.toArray Q f listed a W
 | f, s, listed, a, W, hf, hs, hin, hI => by
  have hnil : Region.ready .any l.toArray listed = [] → Q .normal a W := fun hr => hend _ _ _ hI (all_listedM hb hs hr)
  have hgo : ∀ i ∈ Region.ready .any l.toArray listed, i ∈ s ∧ i < l.length ∧ listed.getD i false = false ∧ ∃ o, l[i]? = some o ∧ (o.after.all fun e => !Region.binds .any e || listed.getD e.on false) = true := fun i hi => by
   obtain ⟨h1, o, ho, hall⟩ := mem_ready.1 hi
   have ho' : l[i]? = some o := by simpa using ho
   have hlt := (List.getElem?_eq_some_iff.1 ho').1
   have hg := getD_both h1
   refine ⟨hin i hlt hg, hlt, hg, o, ho', ?_⟩
   rw [Array.all_eq_true_iff_forall_mem]
   intro e he
   cases hbi : Region.binds .any e with
   | false => rfl
   | true => simpa using hall e he hbi
  cases f with
  | zero =>
   have hs0 : s = [] := List.eq_nil_of_length_eq_zero (by omega)
   have hr : Region.ready .any l.toArray listed = [] := by
    cases hr : Region.ready .any l.toArray listed with
    | nil => rfl
    | cons i r =>
     have := (hgo i (by rw [hr]; exact List.mem_cons_self)).1
     rw [hs0] at this
     cases this
   exact ⟨hr, hnil hr⟩
  | succ f =>
   refine ⟨hnil, fun i hi => ?_⟩
   obtain ⟨his, hlt, hg, o, ho, hall⟩ := hgo i hi
   obtain ⟨hgd, hst⟩ := invAll_at hstep ho
   rw [Nat.zero_add] at hst
   unfold wpOp
   have ho2 : l.toArray[i]? = some o := by simpa using ho
   rw [ho2]
   have hw : Region.wanted o (yielded l.toArray a.tmps) = true := by simp [Region.wanted, hgd]
   dsimp only
   rw [if_pos hw]
   refine Or.inl (hst _ a W hI hg hall _ fun a' W' hI' => ?_)
   refine wpAny_invM hb hstep hend f (s.erase i) _ a' W' ?_ (by simpa using hs) (fun j hj hl => ?_) ?_
   ·have := List.length_erase_of_mem his
    omega
   ·by_cases hij : j = i
    ·subst hij
     have := congrFun (upL_set (listed := listed) (i := j) (by omega)) j
     rw [hl] at this
     simp [upL] at this
    ·have := congrFun (upL_set (listed := listed) (i := i) (by omega)) j
     rw [hl] at this
     simp only [upL, if_neg hij] at this
     exact (List.mem_erase_of_ne hij).2 (hin j hj this.symm)
   ·rw [upL_set (by omega)]
    exact hI'
theorem wp_region_inv0M {id : Nat} {a : Act} {w : World} {l : List Oper} (Inv : (Nat → Bool) → Act → World → Prop) (hm : P.follows .mixedOrders = true) (hb : backBM l = true) (h0 : Inv (fun _ => false) a w.drew)
  (hstep : invAll P (OnlyN Q) Inv l 0) (hend : ∀ L a W, Inv L a W → (∀ j, j < l.length → L j = true) → Q .normal a W) : (Code.region id l.toArray true).wp P Q a w := by
 refine Code.wp_mono (fun e a w h => ?_) (wp_region_any (Q := OnlyN Q) hm (wpAny_invM hb hstep hend _ (List.range l.length) _ a _ (by simp) (by simp) (fun j hj _ => by simpa using hj) ?_))
 ·cases e <;> first | exact h | exact (h : False).elim
 ·have e : (fun j => (Array.replicate l.toArray.size false).getD j false) = fun _ => false := by
   funext j
   simp only [Array.getD_eq_getD_getElem?, Array.getElem?_replicate]
   split <;> rfl
  rw [e]
  exact h0
theorem wp_region_invM {id : Nat} {a : Act} {w : World} {l : List Oper} (I : Act → (Nat → Bool) → Act → World → Prop) (hm : P.follows .mixedOrders = true) (hb : backBM l = true) (h0 : I a (fun _ => false) a w.drew)
  (hstep : invAll P (OnlyN Q) (I a) l 0) (hend : ∀ L a' W, I a L a' W → (∀ j, j < l.length → L j = true) → Q .normal a' W) : (Code.region id l.toArray true).wp P Q a w := wp_region_inv0M (I a) hm hb h0 hstep hend
end
end Go.Proofs.YtgolicoalldidaaGreat
namespace Go.Proofs.YtgolicoalldidaaGreat
open Go.RowKit Go.Shelf
attribute [local go_sem] Oper.semAt_some run_store_funcT
theorem rising_mem {P : Int} {cs : List Int} {low : Int} (h : risingP low P cs = true) : ∀ c ∈ cs, low < c ∧ c < P := by
 induction cs generalizing low with
 | nil => intro c hc; cases hc
 | cons x t ih =>
  unfold risingP at h
  split at h
  ·cases h
  ·intro c hc
   rcases List.mem_cons.1 hc with rfl | hc
   ·omega
   ·have := ih h c hc
    omega
theorem rising_mem' {P : Int} {cs : List Int} (h : risingP (-1) P cs = true) : ∀ c ∈ cs, 0 ≤ c ∧ c < P := fun c hc => by
 have := rising_mem h c hc
 omega
def lateS (P n : Int) (s : Int × Bool) (r : Int) : Int × Bool := (min (upA r P n) s.1, s.2 || decide (upA r P n ≤ s.1))
def lateF (P n : Int) (rs : List Int) (s : Int × Bool) : Int × Bool := rs.foldl (lateS P n) s
theorem lateF_take {P n : Int} {rs : List Int} {s : Int × Bool} {k : Nat} (h : k < rs.length) : lateF P n (rs.take (k + 1)) s = lateS P n (lateF P n (rs.take k) s) rs[k] := by
 unfold lateF
 rw [List.take_succ_eq_append_getElem h, List.foldl_append]
 rfl
def clsC (R q : Int) (b : Bool) : Array Value := match b with | true => #[.int .i64 R, .int .i64 q] | false => #[.int .i64 0, .int .i64 0]
structure LtI (wr : World) (b1 o1 b3 o3 pc hcp m cc : Nat) (ha : Option Addr) (R q c f : Int) (T : Nat → Bool) (v28 v29 v30 v31 v32 v33 v34 v35 v36 v37 v38 v39 v40 v27 v41 v42 v11 v12 : Value) (W : World) : Prop where
 ext : Ext wr W
 f0 : T 0 = true → v28 = (.agg #[.int .i64 0, .int .i64 1])
 f1 : T 1 = true → v29 = (.slice (some ⟨b1, o1, none⟩) 1 pc)
 f2 : T 2 = true → v30 = (.int .i64 0)
 f3 : T 3 = true → v31 = (.pointer (some ⟨b1, o1, none⟩))
 f4 : T 4 = true → v32 = (.agg #[.slice ha 0 hcp, .int .i64 f, .int .i64 q, .slice (some ⟨b3, o3, none⟩) m cc])
 f5 : T 5 = true → v33 = (.int .i64 c)
 f6 : T 6 = true → v34 = (.int .i64 R)
 f7 : T 7 = true → v35 = (.slice (some ⟨b1, o1, none⟩) 1 pc)
 f8 : T 8 = true → v36 = (.int .i64 0)
 f9 : T 9 = true → v37 = (.pointer (some ⟨b1, o1, none⟩))
 f10 : T 10 = true → v38 = (.pointer (some ⟨b1, o1 + 2, none⟩))
 f11 : T 11 = true → v39 = (.int .i64 q)
 f12 : T 12 = true → v40 = (.tuple #[.agg #[.int .i64 R, .int .i64 q], .bool true])
 f13 : T 13 = true → v27 = (.tuple #[.agg #[.int .i64 R, .int .i64 q], .bool true])
 f14 : T 14 = true → v41 = (.agg #[.int .i64 R, .int .i64 q])
 f15 : T 15 = true → v42 = (.bool true)
 f16 : T 16 = true → ∃ gc, v11 = .pointer (some ⟨gc, 0, none⟩) ∧ wr.heap.size ≤ gc ∧ Blk W gc 231 (clsC R q (T 17))
 f17 : T 17 = true → T 16 = true
 f18 : T 18 = true → v12 = (.bool true)
set_option maxRecDepth 100000 in
theorem late1_start (Tb Fb Nb Lb Db : Nat) (pa : Option Addr) (pc : Nat) (n L : Int) (d : Bool) (p : PerD) (w0 w : World) (hE0 : Ext w0 w) (hL0 : w0.heap.size ≤ Lb) (hD0 : w0.heap.size ≤ Db) (hP : Pers w0 (.slice pa 1 pc) [p]) (hok : PerOk p) (hT : Blk w Tb 132 #[.slice pa 1 pc]) (hI : LateI w Nb Lb Db n L d)
  (hF : Blk w Fb 229 #[.func (.func 148) #[] #[.pointer (some ⟨Tb, 0, none⟩), .pointer (some ⟨Fb, 0, none⟩), .pointer (some ⟨Nb, 0, none⟩), .pointer (some ⟨Lb, 0, none⟩), .pointer (some ⟨Db, 0, none⟩)]])
  (n0 : 0 ≤ n) (n1 : n ≤ 1000000000000) :
  Calls Tryz.prog 148 #[.int .i64 0, .agg #[.int .i64 0, .int .i64 1], .pointer (some ⟨Tb, 0, none⟩), .pointer (some ⟨Fb, 0, none⟩), .pointer (some ⟨Nb, 0, none⟩), .pointer (some ⟨Lb, 0, none⟩), .pointer (some ⟨Db, 0, none⟩)] w
   fun e w' => e = .returned (.tuple #[]) ∧ Keep (fun k => k = Lb ∨ k = Db) w w' ∧ LateI w' Nb Lb Db n (lateF p.period n (p.cycle.map (resD p)) (L, d)).1 (lateF p.period n (p.cycle.map (resD p)) (L, d)).2 := by
 have hT' := Lib.hid hT
 have hI' := Lib.hid hI
 have hF' := Lib.hid hF
 have hP' := Lib.hid hP
 have hok' := Lib.hid hok
 have hE0' := Lib.hid hE0
 have hLD : Hid (∀ i, i < w0.heap.size → ¬ (i = Lb ∨ i = Db)) := Lib.hid (fun i hi e => by omega)
 clear hT hI hF hP hok hE0 hL0 hD0
 have t0 : w.cell? ⟨Tb, 0, none⟩ = some (.slice pa 1 pc) := hT'.out.cell 0
 have tl := hT'.out.lt
 go_enter Tryz.func148, Tryz.ntmps148
 go_upto_region 1 with (fail)
 obtain ⟨cb, hcb⟩ : ∃ cb, Hid (w.heap.size = cb) := ⟨_, rfl⟩
 rw [hcb.out]
 refine wp_abs (S := fun W => Hid (Ext w W) ∧ Hid (Blk W cb 231 #[.int .i64 0, .int .i64 1])) ?_ ?_
 ·exact ⟨Lib.hid (by exact (by with_reducible repeat' (first | exact Ext.refl _ | assumption | refine Ext.drewN ?_ _ | refine Ext.drew ?_ | refine Ext.alloc ?_ _ | refine Ext.trans ?_ (by with_reducible assumption)))), Lib.hid (blk_new' hcb.out.symm rfl)⟩
 rintro W1 ⟨hE, hB⟩
 have hT1 := Lib.hid ((Keep.of_ext (X := fun _ => False) hE.out).blk hT'.out id)
 clear t0 tl
 have t0 : W1.cell? ⟨Tb, 0, none⟩ = some (.slice pa 1 pc) := hT1.out.cell 0
 have tl := hT1.out.lt
 obtain ⟨_, _, ep, hn, hc, hat⟩ := hP'.out.open
 cases ep
 obtain ⟨b1, o1, p', ha, hcp, ca, cc, rfl, hb1, _, ex, G0, G1, G2, G3, gh, gc⟩ := hat 0 (by simp) w0 (Ext.refl _)
 obtain rfl : p = p' := by simpa using ex.out
 simp only [Nat.zero_mul, Nat.add_zero] at G0 G1 G2 G3
 obtain ⟨m, hm⟩ : ∃ m, Hid (p.cycle.length = m) := ⟨_, rfl⟩
 have hPv : Hid (PerV w0 (.agg #[.slice ha p.head.length hcp, .int .i64 p.from_, .int .i64 p.period, .slice ca m cc]) p) := Lib.hid (by rw [← hm.out]; exact ⟨_, _, rfl, gh, gc⟩)
 rw [hm.out] at G3
 obtain ⟨f, hf⟩ : ∃ f, Hid (p.from_ = f) := ⟨_, rfl⟩
 obtain ⟨q, hq⟩ : ∃ q, Hid (p.period = q) := ⟨_, rfl⟩
 have e0 := hok'.out.1
 rw [hf.out, hq.out, e0, List.length_nil] at hPv
 rw [e0, List.length_nil] at G0
 rw [hf.out] at G1
 rw [hq.out] at G2
 have hG := Lib.hid (And.intro G0 (And.intro G1 (And.intro G2 G3)))
 have hb1' := Lib.hid hb1
 obtain ⟨_, _, ec, hl, _, hcat⟩ := gc.open
 cases ec
 rw [hm.out] at hl
 have hcat' := Lib.hid hcat
 have g3 := (hE0'.out.trans hE.out).cell G3
 have g0 := Nat.lt_of_lt_of_le hb1 (hE0'.out.trans hE.out).size
 clear gh gc hat ex hc hn G0 G1 G2 G3 hcat e0 hb1
 have hcbL : Hid (¬ (cb = Lb ∨ cb = Db)) := Lib.hid (by have := hcb.out; have := hI'.out.lb.lt; have := hI'.out.db.lt; omega)
 have hTL : Hid (¬ (Tb = Lb ∨ Tb = Db)) := Lib.hid (fun h => h.elim (hT'.out.ne_ hI'.out.lb (by decide)) (hT'.out.ne_ hI'.out.db (by decide)))
 have hFL : Hid (¬ (Fb = Lb ∨ Fb = Db)) := Lib.hid (fun h => h.elim (hF'.out.ne_ hI'.out.lb (by decide)) (hF'.out.ne_ hI'.out.db (by decide)))
 have hF1 := Lib.hid ((Keep.of_ext (X := fun _ => False) hE.out).blk hF'.out id)
 have hI1 : Hid (LateI W1 Nb Lb Db n L d) := Lib.hid (let k := Keep.of_ext (X := fun _ => False) hE.out; ⟨k.blk hI'.out.nb id, k.blk hI'.out.lb id, k.blk hI'.out.db id, hI'.out.ne⟩)
 go_wp2_with fail
 go_loopw [10, 11, 12, 23] (fun _ _ _ vi wr => ∃ k : Nat, k ≤ m ∧ vi = .int .i64 (k : Int) ∧ Hid (Keep (fun q => q = Lb ∨ q = Db) W1 wr) ∧ Hid (LateI wr Nb Lb Db n (lateF p.period n ((p.cycle.map (resD p)).take k) (L, d)).1 (lateF p.period n ((p.cycle.map (resD p)).take k) (L, d)).2)) (fun _ _ _ vi _ => m - (intOf vi).toNat)
 case atStart => exact ⟨0, Nat.zero_le _, rfl, Lib.hid (Keep.of_ext (Ext.refl _)), by simpa [lateF] using hI1⟩
 case round =>
  obtain ⟨k, hk, rfl, hK, hI2⟩ := hrel
  have hE2 : Hid (Ext w0 wr) := Lib.hid ((hE0'.out.trans hE.out).keep hK.out hLD.out)
  have hB2 := Lib.hid (hK.out.blk hB.out hcbL.out)
  have hT2 := Lib.hid (hK.out.blk hT1.out hTL.out)
  have hF2 := Lib.hid (hK.out.blk hF1.out hFL.out)
  have e1 := Lib.hid hE
  clear t0 tl g0 g3 hE hB hT1 hF1 hI1
  by_cases hkm : k < m
  ·obtain ⟨b3, o3, c, rfl, hb3, _, ec2, k0⟩ := hcat'.out k (by rw [hm.out]; exact hkm) wr hE2.out
   obtain ⟨hc0, hc1⟩ := rising_mem' hok'.out.2.2.2.2.2.2.2 c (List.mem_of_getElem? ec2.out)
   have hres := Lib.hid (fun (W : World) (x : Ext wr W) => residue_calls _ p c W (hPv.out.ext (hE2.out.trans x)) hok'.out hc0 hc1)
   obtain ⟨R, hR⟩ : ∃ R, Hid (resD p c = R) := ⟨_, rfl⟩
   have hRb : 0 ≤ R ∧ R < q ∧ 1 ≤ q ∧ q ≤ 1000 := by
    obtain ⟨_, _, _, q0, q1, _⟩ := hok'.out
    rw [← hR.out, ← hq.out]
    unfold resD
    exact ⟨Int.emod_nonneg _ (by omega), Int.emod_lt_of_pos _ (by omega), q0, q1⟩
   have hmt : Hid (∀ W, Calls Tryz.prog 149 #[.agg #[.int .i64 0, .int .i64 1], .int .i64 R, .int .i64 q] W fun e w' => e = .returned (.tuple #[.agg #[.int .i64 R, .int .i64 q], .bool true]) ∧ Ext W w') := by
    intro W
    obtain ⟨r, hr⟩ : ∃ r : Nat, R = (r : Int) := ⟨R.toNat, by omega⟩
    obtain ⟨t, ht⟩ : ∃ t : Nat, q = (t : Int) := ⟨q.toNat, by omega⟩
    rw [hr, ht]
    have h := classMeet_calls r t (by omega) (by omega) (by omega) W
    have e : meetD r t = (r, t) := by
     unfold meetD
     split
     ·rw [show r = 0 by omega, show t = 1 by omega]
     ·rfl
    rw [e] at h
    exact h
   rw [hR.out] at hres
   have c0 : wr.cell? ⟨cb, 0, none⟩ = some (.int .i64 0) := hB2.out.cell 0
   have c1 : wr.cell? ⟨cb, 1, none⟩ = some (.int .i64 1) := hB2.out.cell 1
   have t0 : wr.cell? ⟨Tb, 0, none⟩ = some (.slice (some ⟨b1, o1, none⟩) 1 pc) := hT2.out.cell 0
   have g0 := hE2.out.cell hG.out.1
   have g1 := hE2.out.cell hG.out.2.1
   have g2 := hE2.out.cell hG.out.2.2.1
   have g3 := hE2.out.cell hG.out.2.2.2
   have z0 := After.cell c0
   have z1 := After.cell c1
   have z2 := After.cell t0
   have z3 := After.cell g0
   have z4 := After.cell g1
   have z5 := After.cell g2
   have z6 := After.cell g3
   have dk : decide (k < m) = true := decide_eq_true hkm
   go_upto_region 5 with (fail)
   refine wp_region_invM (fun A T a W => ∃ v28 v29 v30 v31 v32 v33 v34 v35 v36 v37 v38 v39 v40 v27 v41 v42 v11 v12, a = ((((((((((((((((((A.put (some 28) v28).put (some 29) v29).put (some 30) v30).put (some 31) v31).put (some 32) v32).put (some 33) v33).put (some 34) v34).put (some 35) v35).put (some 36) v36).put (some 37) v37).put (some 38) v38).put (some 39) v39).put (some 40) v40).put (some 27) v27).put (some 41) v41).put (some 42) v42).put (some 11) v11).put (some 12) v12) ∧ LtI wr b1 o1 b3 o3 pc hcp m cc ha R q c f T v28 v29 v30 v31 v32 v33 v34 v35 v36 v37 v38 v39 v40 v27 v41 v42 v11 v12 W) (by kernel_rfl) (by kernel_rfl) ?_ ?_ ?_
   ·exact ⟨u28, u29, u30, u31, u32, u33, u34, u35, u36, u37, u38, u39, u40, u27, u41, u42, u11, u12, (by simp only [Act.put, putA, putB, putC]), ⟨(Ext.refl _).drew, (fun q => by cases q), (fun q => by cases q), (fun q => by cases q), (fun q => by cases q), (fun q => by cases q), (fun q => by cases q), (fun q => by cases q), (fun q => by cases q), (fun q => by cases q), (fun q => by cases q), (fun q => by cases q), (fun q => by cases q), (fun q => by cases q), (fun q => by cases q), (fun q => by cases q), (fun q => by cases q), (fun q => by cases q), (fun q => by cases q), (fun q => by cases q)⟩⟩
   ·refine ⟨⟨rfl, ?_⟩, ⟨rfl, ?_⟩, ⟨rfl, ?_⟩, ⟨rfl, ?_⟩, ⟨rfl, ?_⟩, ⟨rfl, ?_⟩, ⟨rfl, ?_⟩, ⟨rfl, ?_⟩, ⟨rfl, ?_⟩, ⟨rfl, ?_⟩, ⟨rfl, ?_⟩, ⟨rfl, ?_⟩, ⟨rfl, ?_⟩, ⟨rfl, ?_⟩, ⟨rfl, ?_⟩, ⟨rfl, ?_⟩, ⟨rfl, ?_⟩, ⟨rfl, ?_⟩, ⟨rfl, ?_⟩, trivial⟩
    ·rintro T _ W ⟨v28, v29, v30, v31, v32, v33, v34, v35, v36, v37, v38, v39, v40, v27, v41, v42, v11, v12, rfl, hI⟩ hL hd K hK
     simp only [Act.put, putA, putB, putC]
     have c0 := hI.ext.cell c0
     have c1 := hI.ext.cell c1
     go_simp
     refine hK _ _ ⟨_, v29, v30, v31, v32, v33, v34, v35, v36, v37, v38, v39, v40, v27, v41, v42, v11, v12, (by simp only [Act.put, putA, putB, putC]), ⟨hI.ext, fun _ => rfl, hI.f1, hI.f2, hI.f3, hI.f4, hI.f5, hI.f6, hI.f7, hI.f8, hI.f9, hI.f10, hI.f11, hI.f12, hI.f13, hI.f14, hI.f15, hI.f16, hI.f17, hI.f18⟩⟩
    ·rintro T _ W ⟨v28, v29, v30, v31, v32, v33, v34, v35, v36, v37, v38, v39, v40, v27, v41, v42, v11, v12, rfl, hI⟩ hL hd K hK
     simp only [Act.put, putA, putB, putC]
     have t0 := hI.ext.cell t0
     go_simp
     refine hK _ _ ⟨v28, _, v30, v31, v32, v33, v34, v35, v36, v37, v38, v39, v40, v27, v41, v42, v11, v12, (by simp only [Act.put, putA, putB, putC]), ⟨hI.ext, hI.f0, fun _ => rfl, hI.f2, hI.f3, hI.f4, hI.f5, hI.f6, hI.f7, hI.f8, hI.f9, hI.f10, hI.f11, hI.f12, hI.f13, hI.f14, hI.f15, hI.f16, hI.f17, hI.f18⟩⟩
    ·rintro T _ W ⟨v28, v29, v30, v31, v32, v33, v34, v35, v36, v37, v38, v39, v40, v27, v41, v42, v11, v12, rfl, hI⟩ hL hd K hK
     simp only [Act.put, putA, putB, putC]
     go_simp
     refine hK _ _ ⟨v28, v29, _, v31, v32, v33, v34, v35, v36, v37, v38, v39, v40, v27, v41, v42, v11, v12, (by simp only [Act.put, putA, putB, putC]), ⟨hI.ext, hI.f0, hI.f1, fun _ => rfl, hI.f3, hI.f4, hI.f5, hI.f6, hI.f7, hI.f8, hI.f9, hI.f10, hI.f11, hI.f12, hI.f13, hI.f14, hI.f15, hI.f16, hI.f17, hI.f18⟩⟩
    ·rintro T _ W ⟨v28, v29, v30, v31, v32, v33, v34, v35, v36, v37, v38, v39, v40, v27, v41, v42, v11, v12, rfl, hI⟩ hL hd K hK
     simp only [Act.put, putA, putB, putC]
     obtain rfl := hI.f1 (by have h := hd; simp [Region.binds] at h; first | exact h | exact h.1 | exact h.2 | exact h.2.1 | exact h.2.2 | exact h.2.2.1 | exact h.2.2.2)
     obtain rfl := hI.f2 (by have h := hd; simp [Region.binds] at h; first | exact h | exact h.1 | exact h.2 | exact h.2.1 | exact h.2.2 | exact h.2.2.1 | exact h.2.2.2)
     go_simp
     refine hK _ _ ⟨v28, _, _, _, v32, v33, v34, v35, v36, v37, v38, v39, v40, v27, v41, v42, v11, v12, (by simp only [Act.put, putA, putB, putC]), ⟨hI.ext, hI.f0, hI.f1, hI.f2, fun _ => rfl, hI.f4, hI.f5, hI.f6, hI.f7, hI.f8, hI.f9, hI.f10, hI.f11, hI.f12, hI.f13, hI.f14, hI.f15, hI.f16, hI.f17, hI.f18⟩⟩
    ·rintro T _ W ⟨v28, v29, v30, v31, v32, v33, v34, v35, v36, v37, v38, v39, v40, v27, v41, v42, v11, v12, rfl, hI⟩ hL hd K hK
     simp only [Act.put, putA, putB, putC]
     obtain rfl := hI.f3 (by have h := hd; simp [Region.binds] at h; first | exact h | exact h.1 | exact h.2 | exact h.2.1 | exact h.2.2 | exact h.2.2.1 | exact h.2.2.2)
     have g0 := hI.ext.cell g0
     have g1 := hI.ext.cell g1
     have g2 := hI.ext.cell g2
     have g3 := hI.ext.cell g3
     go_simp
     refine hK _ _ ⟨v28, v29, v30, _, _, v33, v34, v35, v36, v37, v38, v39, v40, v27, v41, v42, v11, v12, (by simp only [Act.put, putA, putB, putC]), ⟨hI.ext, hI.f0, hI.f1, hI.f2, hI.f3, fun _ => rfl, hI.f5, hI.f6, hI.f7, hI.f8, hI.f9, hI.f10, hI.f11, hI.f12, hI.f13, hI.f14, hI.f15, hI.f16, hI.f17, hI.f18⟩⟩
    ·rintro T _ W ⟨v28, v29, v30, v31, v32, v33, v34, v35, v36, v37, v38, v39, v40, v27, v41, v42, v11, v12, rfl, hI⟩ hL hd K hK
     simp only [Act.put, putA, putB, putC]
     go_simp
     refine hK _ _ ⟨v28, v29, v30, v31, v32, _, v34, v35, v36, v37, v38, v39, v40, v27, v41, v42, v11, v12, (by simp only [Act.put, putA, putB, putC]), ⟨hI.ext, hI.f0, hI.f1, hI.f2, hI.f3, hI.f4, fun _ => rfl, hI.f6, hI.f7, hI.f8, hI.f9, hI.f10, hI.f11, hI.f12, hI.f13, hI.f14, hI.f15, hI.f16, hI.f17, hI.f18⟩⟩
    ·rintro T _ W ⟨v28, v29, v30, v31, v32, v33, v34, v35, v36, v37, v38, v39, v40, v27, v41, v42, v11, v12, rfl, hI⟩ hL hd K hK
     simp only [Act.put, putA, putB, putC]
     obtain rfl := hI.f4 (by have h := hd; simp [Region.binds] at h; first | exact h | exact h.1 | exact h.2 | exact h.2.1 | exact h.2.2 | exact h.2.2.1 | exact h.2.2.2)
     obtain rfl := hI.f5 (by have h := hd; simp [Region.binds] at h; first | exact h | exact h.1 | exact h.2 | exact h.2.1 | exact h.2.2 | exact h.2.2.1 | exact h.2.2.2)
     go_simp
     refine (hres.out W hI.ext).mono ?_
     rintro e W' ⟨rfl, hx⟩
     refine hK _ _ ⟨v28, v29, v30, v31, _, _, _, v35, v36, v37, v38, v39, v40, v27, v41, v42, v11, v12, (by simp only [Act.put, putA, putB, putC]), ⟨hI.ext.trans hx, hI.f0, hI.f1, hI.f2, hI.f3, hI.f4, hI.f5, fun _ => rfl, hI.f7, hI.f8, hI.f9, hI.f10, hI.f11, hI.f12, hI.f13, hI.f14, hI.f15, fun e => let ⟨g, a, b, d⟩ := hI.f16 e; ⟨g, a, b, (Keep.of_ext (X := fun _ => False) hx).blk d id⟩, hI.f17, hI.f18⟩⟩
    ·rintro T _ W ⟨v28, v29, v30, v31, v32, v33, v34, v35, v36, v37, v38, v39, v40, v27, v41, v42, v11, v12, rfl, hI⟩ hL hd K hK
     simp only [Act.put, putA, putB, putC]
     have t0 := hI.ext.cell t0
     go_simp
     refine hK _ _ ⟨v28, v29, v30, v31, v32, v33, v34, _, v36, v37, v38, v39, v40, v27, v41, v42, v11, v12, (by simp only [Act.put, putA, putB, putC]), ⟨hI.ext, hI.f0, hI.f1, hI.f2, hI.f3, hI.f4, hI.f5, hI.f6, fun _ => rfl, hI.f8, hI.f9, hI.f10, hI.f11, hI.f12, hI.f13, hI.f14, hI.f15, hI.f16, hI.f17, hI.f18⟩⟩
    ·rintro T _ W ⟨v28, v29, v30, v31, v32, v33, v34, v35, v36, v37, v38, v39, v40, v27, v41, v42, v11, v12, rfl, hI⟩ hL hd K hK
     simp only [Act.put, putA, putB, putC]
     go_simp
     refine hK _ _ ⟨v28, v29, v30, v31, v32, v33, v34, v35, _, v37, v38, v39, v40, v27, v41, v42, v11, v12, (by simp only [Act.put, putA, putB, putC]), ⟨hI.ext, hI.f0, hI.f1, hI.f2, hI.f3, hI.f4, hI.f5, hI.f6, hI.f7, fun _ => rfl, hI.f9, hI.f10, hI.f11, hI.f12, hI.f13, hI.f14, hI.f15, hI.f16, hI.f17, hI.f18⟩⟩
    ·rintro T _ W ⟨v28, v29, v30, v31, v32, v33, v34, v35, v36, v37, v38, v39, v40, v27, v41, v42, v11, v12, rfl, hI⟩ hL hd K hK
     simp only [Act.put, putA, putB, putC]
     obtain rfl := hI.f7 (by have h := hd; simp [Region.binds] at h; first | exact h | exact h.1 | exact h.2 | exact h.2.1 | exact h.2.2 | exact h.2.2.1 | exact h.2.2.2)
     obtain rfl := hI.f8 (by have h := hd; simp [Region.binds] at h; first | exact h | exact h.1 | exact h.2 | exact h.2.1 | exact h.2.2 | exact h.2.2.1 | exact h.2.2.2)
     go_simp
     refine hK _ _ ⟨v28, v29, v30, v31, v32, v33, v34, _, _, _, v38, v39, v40, v27, v41, v42, v11, v12, (by simp only [Act.put, putA, putB, putC]), ⟨hI.ext, hI.f0, hI.f1, hI.f2, hI.f3, hI.f4, hI.f5, hI.f6, hI.f7, hI.f8, fun _ => rfl, hI.f10, hI.f11, hI.f12, hI.f13, hI.f14, hI.f15, hI.f16, hI.f17, hI.f18⟩⟩
    ·rintro T _ W ⟨v28, v29, v30, v31, v32, v33, v34, v35, v36, v37, v38, v39, v40, v27, v41, v42, v11, v12, rfl, hI⟩ hL hd K hK
     simp only [Act.put, putA, putB, putC]
     obtain rfl := hI.f9 (by have h := hd; simp [Region.binds] at h; first | exact h | exact h.1 | exact h.2 | exact h.2.1 | exact h.2.2 | exact h.2.2.1 | exact h.2.2.2)
     go_simp
     refine hK _ _ ⟨v28, v29, v30, v31, v32, v33, v34, v35, v36, _, _, v39, v40, v27, v41, v42, v11, v12, (by simp only [Act.put, putA, putB, putC]), ⟨hI.ext, hI.f0, hI.f1, hI.f2, hI.f3, hI.f4, hI.f5, hI.f6, hI.f7, hI.f8, hI.f9, fun _ => rfl, hI.f11, hI.f12, hI.f13, hI.f14, hI.f15, hI.f16, hI.f17, hI.f18⟩⟩
    ·rintro T _ W ⟨v28, v29, v30, v31, v32, v33, v34, v35, v36, v37, v38, v39, v40, v27, v41, v42, v11, v12, rfl, hI⟩ hL hd K hK
     simp only [Act.put, putA, putB, putC]
     obtain rfl := hI.f10 (by have h := hd; simp [Region.binds] at h; first | exact h | exact h.1 | exact h.2 | exact h.2.1 | exact h.2.2 | exact h.2.2.1 | exact h.2.2.2)
     have g2 := hI.ext.cell g2
     go_simp
     refine hK _ _ ⟨v28, v29, v30, v31, v32, v33, v34, v35, v36, v37, _, _, v40, v27, v41, v42, v11, v12, (by simp only [Act.put, putA, putB, putC]), ⟨hI.ext, hI.f0, hI.f1, hI.f2, hI.f3, hI.f4, hI.f5, hI.f6, hI.f7, hI.f8, hI.f9, hI.f10, fun _ => rfl, hI.f12, hI.f13, hI.f14, hI.f15, hI.f16, hI.f17, hI.f18⟩⟩
    ·rintro T _ W ⟨v28, v29, v30, v31, v32, v33, v34, v35, v36, v37, v38, v39, v40, v27, v41, v42, v11, v12, rfl, hI⟩ hL hd K hK
     simp only [Act.put, putA, putB, putC]
     obtain rfl := hI.f0 (by have h := hd; simp [Region.binds] at h; first | exact h | exact h.1 | exact h.2 | exact h.2.1 | exact h.2.2 | exact h.2.2.1 | exact h.2.2.2)
     obtain rfl := hI.f6 (by have h := hd; simp [Region.binds] at h; first | exact h | exact h.1 | exact h.2 | exact h.2.1 | exact h.2.2 | exact h.2.2.1 | exact h.2.2.2)
     obtain rfl := hI.f11 (by have h := hd; simp [Region.binds] at h; first | exact h | exact h.1 | exact h.2 | exact h.2.1 | exact h.2.2 | exact h.2.2.1 | exact h.2.2.2)
     go_simp
     refine (hmt.out W).mono ?_
     rintro e W' ⟨rfl, hx⟩
     refine hK _ _ ⟨_, v29, v30, v31, v32, v33, _, v35, v36, v37, v38, _, _, v27, v41, v42, v11, v12, (by simp only [Act.put, putA, putB, putC]), ⟨hI.ext.trans hx, hI.f0, hI.f1, hI.f2, hI.f3, hI.f4, hI.f5, hI.f6, hI.f7, hI.f8, hI.f9, hI.f10, hI.f11, fun _ => rfl, hI.f13, hI.f14, hI.f15, fun e => let ⟨g, a, b, d⟩ := hI.f16 e; ⟨g, a, b, (Keep.of_ext (X := fun _ => False) hx).blk d id⟩, hI.f17, hI.f18⟩⟩
    ·rintro T _ W ⟨v28, v29, v30, v31, v32, v33, v34, v35, v36, v37, v38, v39, v40, v27, v41, v42, v11, v12, rfl, hI⟩ hL hd K hK
     simp only [Act.put, putA, putB, putC]
     obtain rfl := hI.f12 (by have h := hd; simp [Region.binds] at h; first | exact h | exact h.1 | exact h.2 | exact h.2.1 | exact h.2.2 | exact h.2.2.1 | exact h.2.2.2)
     go_simp
     refine hK _ _ ⟨v28, v29, v30, v31, v32, v33, v34, v35, v36, v37, v38, v39, _, _, v41, v42, v11, v12, (by simp only [Act.put, putA, putB, putC]), ⟨hI.ext, hI.f0, hI.f1, hI.f2, hI.f3, hI.f4, hI.f5, hI.f6, hI.f7, hI.f8, hI.f9, hI.f10, hI.f11, hI.f12, fun _ => rfl, hI.f14, hI.f15, hI.f16, hI.f17, hI.f18⟩⟩
    ·rintro T _ W ⟨v28, v29, v30, v31, v32, v33, v34, v35, v36, v37, v38, v39, v40, v27, v41, v42, v11, v12, rfl, hI⟩ hL hd K hK
     simp only [Act.put, putA, putB, putC]
     obtain rfl := hI.f13 (by have h := hd; simp [Region.binds] at h; first | exact h | exact h.1 | exact h.2 | exact h.2.1 | exact h.2.2 | exact h.2.2.1 | exact h.2.2.2)
     go_simp
     refine hK _ _ ⟨v28, v29, v30, v31, v32, v33, v34, v35, v36, v37, v38, v39, v40, _, _, v42, v11, v12, (by simp only [Act.put, putA, putB, putC]), ⟨hI.ext, hI.f0, hI.f1, hI.f2, hI.f3, hI.f4, hI.f5, hI.f6, hI.f7, hI.f8, hI.f9, hI.f10, hI.f11, hI.f12, hI.f13, fun _ => rfl, hI.f15, hI.f16, hI.f17, hI.f18⟩⟩
    ·rintro T _ W ⟨v28, v29, v30, v31, v32, v33, v34, v35, v36, v37, v38, v39, v40, v27, v41, v42, v11, v12, rfl, hI⟩ hL hd K hK
     simp only [Act.put, putA, putB, putC]
     obtain rfl := hI.f13 (by have h := hd; simp [Region.binds] at h; first | exact h | exact h.1 | exact h.2 | exact h.2.1 | exact h.2.2 | exact h.2.2.1 | exact h.2.2.2)
     go_simp
     refine hK _ _ ⟨v28, v29, v30, v31, v32, v33, v34, v35, v36, v37, v38, v39, v40, _, v41, _, v11, v12, (by simp only [Act.put, putA, putB, putC]), ⟨hI.ext, hI.f0, hI.f1, hI.f2, hI.f3, hI.f4, hI.f5, hI.f6, hI.f7, hI.f8, hI.f9, hI.f10, hI.f11, hI.f12, hI.f13, hI.f14, fun _ => rfl, hI.f16, hI.f17, hI.f18⟩⟩
    ·rintro T _ W ⟨v28, v29, v30, v31, v32, v33, v34, v35, v36, v37, v38, v39, v40, v27, v41, v42, v11, v12, rfl, hI⟩ hL hd K hK
     simp only [Act.put, putA, putB, putC]
     have n17 : T 17 = false := by cases e : T 17 with | false => rfl | true => exact absurd (hI.f17 e) (by rw [hL]; decide)
     go_simp
     refine hK _ _ ⟨v28, v29, v30, v31, v32, v33, v34, v35, v36, v37, v38, v39, v40, v27, v41, v42, _, v12, (by simp only [Act.put, putA, putB, putC]), ⟨hI.ext.trans ((Ext.refl W).alloc (.cells #[.int .i64 0, .int .i64 0] 231)), hI.f0, hI.f1, hI.f2, hI.f3, hI.f4, hI.f5, hI.f6, hI.f7, hI.f8, hI.f9, hI.f10, hI.f11, hI.f12, hI.f13, hI.f14, hI.f15, fun _ => ⟨_, rfl, hI.ext.size, by show Blk _ _ _ (clsC R q (T 17)); rw [n17]; exact blk_new' rfl rfl⟩, fun _ => rfl, hI.f18⟩⟩
    ·rintro T _ W ⟨v28, v29, v30, v31, v32, v33, v34, v35, v36, v37, v38, v39, v40, v27, v41, v42, v11, v12, rfl, hI⟩ hL hd K hK
     simp only [Act.put, putA, putB, putC]
     obtain rfl := hI.f14 (by have h := hd; simp [Region.binds] at h; first | exact h | exact h.1 | exact h.2 | exact h.2.1 | exact h.2.2 | exact h.2.2.1 | exact h.2.2.2)
     have h16 : T 16 = true := by have h := hd; simp [Region.binds] at h; first | exact h | exact h.1 | exact h.2 | exact h.2.1 | exact h.2.2
     obtain ⟨gc, rfl, hgc, hb⟩ := hI.f16 h16
     rw [hL] at hb
     replace hb : Blk W gc 231 #[.int .i64 0, .int .i64 0] := hb
     have c7 := hb.cell 0
     have c8 := hb.cell 1
     have l7 := hb.lt
     have f7 := hb.frozen 0
     have f8 := hb.frozen 1
     have hbn : Blk ((W.setCell ⟨gc, 0, none⟩ (.int .i64 R)).setCell ⟨gc, 1, none⟩ (.int .i64 q)) gc 231 #[.int .i64 R, .int .i64 q] := (hb.set_ 0 (.int .i64 R)).set_ 1 (.int .i64 q)
     have hen := (hI.ext.setCell (p := ⟨gc, 0, none⟩) hgc (.int .i64 R)).setCell (p := ⟨gc, 1, none⟩) hgc (.int .i64 q)
     go_simp
     refine hK _ _ ⟨v28, v29, v30, v31, v32, v33, v34, v35, v36, v37, v38, v39, v40, v27, _, v42, _, v12, (by simp only [Act.put, putA, putB, putC]), ⟨hen, hI.f0, hI.f1, hI.f2, hI.f3, hI.f4, hI.f5, hI.f6, hI.f7, hI.f8, hI.f9, hI.f10, hI.f11, hI.f12, hI.f13, hI.f14, hI.f15, fun _ => ⟨gc, rfl, hgc, hbn⟩, fun _ => h16, hI.f18⟩⟩
    ·rintro T _ W ⟨v28, v29, v30, v31, v32, v33, v34, v35, v36, v37, v38, v39, v40, v27, v41, v42, v11, v12, rfl, hI⟩ hL hd K hK
     simp only [Act.put, putA, putB, putC]
     obtain rfl := hI.f15 (by have h := hd; simp [Region.binds] at h; first | exact h | exact h.1 | exact h.2 | exact h.2.1 | exact h.2.2 | exact h.2.2.1 | exact h.2.2.2)
     go_simp
     refine hK _ _ ⟨v28, v29, v30, v31, v32, v33, v34, v35, v36, v37, v38, v39, v40, v27, v41, _, v11, _, (by simp only [Act.put, putA, putB, putC]), ⟨hI.ext, hI.f0, hI.f1, hI.f2, hI.f3, hI.f4, hI.f5, hI.f6, hI.f7, hI.f8, hI.f9, hI.f10, hI.f11, hI.f12, hI.f13, hI.f14, hI.f15, hI.f16, hI.f17, fun _ => rfl⟩⟩
   ·rintro T _ W ⟨v28, v29, v30, v31, v32, v33, v34, v35, v36, v37, v38, v39, v40, v27, v41, v42, v11, v12, rfl, hI⟩ hall
    simp only [Act.put, putA, putB, putC]
    obtain rfl := hI.f0 (hall 0 (by decide))
    obtain rfl := hI.f1 (hall 1 (by decide))
    obtain rfl := hI.f2 (hall 2 (by decide))
    obtain rfl := hI.f3 (hall 3 (by decide))
    obtain rfl := hI.f4 (hall 4 (by decide))
    obtain rfl := hI.f5 (hall 5 (by decide))
    obtain rfl := hI.f6 (hall 6 (by decide))
    obtain rfl := hI.f7 (hall 7 (by decide))
    obtain rfl := hI.f8 (hall 8 (by decide))
    obtain rfl := hI.f9 (hall 9 (by decide))
    obtain rfl := hI.f10 (hall 10 (by decide))
    obtain rfl := hI.f11 (hall 11 (by decide))
    obtain rfl := hI.f12 (hall 12 (by decide))
    obtain rfl := hI.f13 (hall 13 (by decide))
    obtain rfl := hI.f14 (hall 14 (by decide))
    obtain rfl := hI.f15 (hall 15 (by decide))
    obtain rfl := hI.f18 (hall 18 (by decide))
    obtain ⟨gc, rfl, hgc, hb⟩ := hI.f16 (hall 16 (by decide))
    rw [hall 17 (by decide)] at hb
    replace hb : Blk W gc 231 #[.int .i64 R, .int .i64 q] := hb
    have kx := Keep.of_ext (X := fun _ => False) hI.ext
    have hT3 := Lib.hid (kx.blk hT2.out id)
    have hF3 := Lib.hid (kx.blk hF2.out id)
    have hnx : Hid (lateF p.period n ((p.cycle.map (resD p)).take (k + 1)) (L, d) = lateS q n (lateF p.period n ((p.cycle.map (resD p)).take k) (L, d)) R) := by
     have hk' : k < (p.cycle.map (resD p)).length := by rw [List.length_map, hm.out]; exact hkm
     have hr : (p.cycle.map (resD p))[k] = R := by
      have := ec2.out
      rw [List.getElem?_eq_some_iff] at this
      obtain ⟨_, h⟩ := this
      rw [List.getElem_map, h]
      exact hR.out
     have := lateF_take (P := p.period) (n := n) (s := (L, d)) hk'
     rw [hr] at this
     rw [← hq.out]
     exact this
    obtain ⟨st, hst⟩ : ∃ st, Hid (lateF p.period n ((p.cycle.map (resD p)).take k) (L, d) = st) := ⟨_, rfl⟩
    rw [hst.out] at hI2 hnx
    have hI3 : Hid (LateI W Nb Lb Db n st.1 st.2) := Lib.hid ⟨kx.blk hI2.out.nb id, kx.blk hI2.out.lb id, kx.blk hI2.out.db id, hI2.out.ne⟩
    have q0 : W.cell? ⟨Fb, 0, none⟩ = some (.func (.func 148) #[] #[.pointer (some ⟨Tb, 0, none⟩), .pointer (some ⟨Fb, 0, none⟩), .pointer (some ⟨Nb, 0, none⟩), .pointer (some ⟨Lb, 0, none⟩), .pointer (some ⟨Db, 0, none⟩)]) := hF3.out.cell 0
    have ql := hF3.out.lt
    have y0 : W.cell? ⟨gc, 0, none⟩ = some (.int .i64 R) := hb.cell 0
    have y1 : W.cell? ⟨gc, 1, none⟩ = some (.int .i64 q) := hb.cell 1
    have yl := hb.lt
    have hcall := Lib.hid (late1_end Tb Fb Nb Lb Db (some ⟨b1, o1, none⟩) pc R q n st.1 st.2 W hT3.out hI3.out hRb.1 (by omega) hRb.2.2.1 hRb.2.2.2 n0 n1)
    have hg8 : ∀ (y : Array Value) (W : World), (callFunc 148 y).run Tryz.prog W = .ok (.enter 148 y) W := fun _ _ => by kernel_rfl
    have hK3 : Hid (Keep (fun q => q = Lb ∨ q = Db) W1 W) := Lib.hid (hK.out.trans (Keep.of_ext hI.ext))
    clear hI hall kx hb hT3 hF3 hI3 c0 c1 t0 g0 g1 g2 g3 hres hmt hst hT2 hF2 hI2 hB2 hE2 hK z0 z1 z2 z3 z4 z5 z6
    go_wp2_with fail
    refine hcall.out.mono ?_
    rintro e W2 ⟨rfl, hk2, hi2⟩
    have hK4 := Lib.hid (hK3.out.trans hk2)
    have hI4 : Hid (LateI W2 Nb Lb Db n (lateF p.period n ((p.cycle.map (resD p)).take (k + 1)) (L, d)).1 (lateF p.period n ((p.cycle.map (resD p)).take (k + 1)) (L, d)).2) := by
     rw [hnx.out]
     exact Lib.hid hi2
    clear hk2 hi2 hcall q0 ql y0 y1 yl hnx hK3
    go_wp2
    go_roundw
    case rel => exact ⟨k + 1, by omega, by go_num, hK4, hI4⟩
    case measure => simp [intOf]; omega
  ·obtain rfl : k = m := by omega
   have hfin := hI2.out
   rw [List.take_of_length_le (by rw [List.length_map, hm.out]; exact Nat.le_refl _)] at hfin
   replace hfin := Lib.hid hfin
   have hK2 : Hid (Keep (fun q => q = Lb ∨ q = Db) w wr) := Lib.hid ((Keep.of_ext e1.out.out).trans hK.out)
   have dk : decide (k < k) = false := decide_eq_false (by omega)
   clear hB2 hT2 hF2 hI2 hE2 hkm hK
   go_wp2_with fail
   refine bodyPost_ret (results_none rfl _ _ _) rfl ?_
   exact ⟨rfl, hK2.out, hfin.out⟩
end Go.Proofs.YtgolicoalldidaaGreat
namespace Go.Proofs.YtgolicoalldidaaGreat
open Go.RowKit
def farD : Int := 1152921504606846976
def lateD (p : PerD) (n : Int) : Int × Bool :=
 if (lateF p.period (max n p.from_) (p.cycle.map (resD p)) (farD, false)).2 then ((lateF p.period (max n p.from_) (p.cycle.map (resD p)) (farD, false)).1, true) else (0, false)
theorem lateF_bd {P n : Int} (p0 : 1 ≤ P) (p1 : P ≤ 1000) (n0 : 0 ≤ n) (n1 : n ≤ 1000000000000) : ∀ (rs : List Int) (s : Int × Bool), (∀ r ∈ rs, 0 ≤ r ∧ r ≤ 1000) → (s.2 = true → n ≤ s.1 ∧ s.1 ≤ 1000000002000) → (s.2 = false → s.1 = farD) →
  (lateF P n rs s).2 = true → n ≤ (lateF P n rs s).1 ∧ (lateF P n rs s).1 ≤ 1000000002000
 | [], _, _, h, _ => h
 | r :: rs, s, hr, h, h2 => by
  obtain ⟨r0, r1⟩ := hr r List.mem_cons_self
  obtain ⟨a0, a1, a2⟩ := upA_bd r0 r1 p0 p1 n0 n1
  refine lateF_bd p0 p1 n0 n1 rs (lateS P n s r) (fun x hx => hr x (List.mem_cons_of_mem _ hx)) ?_ ?_
  ·intro _
   show n ≤ min (upA r P n) s.1 ∧ min (upA r P n) s.1 ≤ 1000000002000
   cases hs : s.2 with
   | true => have := h hs; omega
   | false => have := h2 hs; unfold farD at this; omega
  ·intro e
   have e' : (s.2 || decide (upA r P n ≤ s.1)) = false := e
   rw [Bool.or_eq_false_iff] at e'
   have h3 := h2 e'.1
   have h4 := of_decide_eq_false e'.2
   unfold farD at h3
   omega
theorem resD_bd {p : PerD} (hok : PerOk p) (c : Int) : 0 ≤ resD p c ∧ resD p c ≤ 1000 := by
 obtain ⟨_, _, _, q0, q1, _⟩ := hok
 unfold resD
 have h1 := Int.emod_nonneg (p.from_ % p.period + c) (show p.period ≠ 0 by omega)
 have h2 := Int.emod_lt_of_pos (p.from_ % p.period + c) (show 0 < p.period by omega)
 omega
theorem lateD_bd {p : PerD} (hok : PerOk p) {n : Int} (n0 : 0 ≤ n) (n1 : n ≤ 1000000000000) (h : (lateD p n).2 = true) : n ≤ (lateD p n).1 ∧ (lateD p n).1 ≤ 1000000002000 := by
 have hok' := hok
 obtain ⟨_, f0, f1, q0, q1, _⟩ := hok
 by_cases hc : (lateF p.period (max n p.from_) (p.cycle.map (resD p)) (farD, false)).2 = true
 ·have hb := lateF_bd q0 q1 (show 0 ≤ max n p.from_ by omega) (show max n p.from_ ≤ 1000000000000 by omega) (p.cycle.map (resD p)) (farD, false) (fun r hr => by
   obtain ⟨c, _, rfl⟩ := List.mem_map.1 hr
   exact resD_bd hok' c) (fun e => by cases e) (fun _ => rfl) hc
  have e : lateD p n = ((lateF p.period (max n p.from_) (p.cycle.map (resD p)) (farD, false)).1, true) := if_pos hc
  rw [e]
  dsimp only
  omega
 ·have e : lateD p n = (0, false) := if_neg hc
  rw [e] at h
  cases h
def daysF (p : PerD) (m : Int) : Nat → Int → List Int
 | 0, _ => []
 | k + 1, n => if (lateD p n).2 = true ∧ (lateD p n).1 * 1440 + m < 20160 then (lateD p n).1 :: daysF p m k ((lateD p n).1 + 1) else []
def daysL (p : PerD) (m : Int) : List Int := daysF p m 15 0
theorem days_step {p : PerD} {m n d : Int} {j : Nat} (hm : 0 ≤ m) (hj : (j : Int) ≤ n) (_ : n ≤ 14) (h : daysF p m (15 - j) n = (daysL p m).drop j) (hd : lateD p n = (d, true)) (hlt : d * 1440 + m < 20160) (hnd : n ≤ d) :
  j < (daysL p m).length ∧ (daysL p m)[j]? = some d ∧ daysF p m (15 - (j + 1)) (d + 1) = (daysL p m).drop (j + 1) ∧ d ≤ 13 := by
 rw [show 15 - j = (15 - (j + 1)) + 1 by omega] at h
 unfold daysF at h
 rw [if_pos (by rw [hd]; exact ⟨rfl, hlt⟩), hd] at h
 dsimp only at h
 have hl : j < (daysL p m).length := by
  rcases Nat.lt_or_ge j (daysL p m).length with h1 | h1
  ·exact h1
  ·rw [List.drop_of_length_le h1] at h
   cases h
 rw [List.drop_eq_getElem_cons hl] at h
 obtain ⟨h1, h2⟩ := List.cons.inj h
 exact ⟨hl, by rw [List.getElem?_eq_getElem hl, ← h1], h2, by omega⟩
theorem days_end {p : PerD} {m n : Int} {j : Nat} (hj : (j : Int) ≤ n) (hn : n ≤ 14) (h : daysF p m (15 - j) n = (daysL p m).drop j) (hd : ¬ ((lateD p n).2 = true ∧ (lateD p n).1 * 1440 + m < 20160)) : (daysL p m).length ≤ j := by
 rw [show 15 - j = (15 - (j + 1)) + 1 by omega] at h
 unfold daysF at h
 rw [if_neg hd] at h
 rcases Nat.lt_or_ge j (daysL p m).length with h1 | h1
 ·rw [List.drop_eq_getElem_cons h1] at h
  cases h
 ·exact h1
theorem daysF_len (p : PerD) (m : Int) : ∀ (k : Nat) (n : Int), (daysF p m k n).length ≤ k
 | 0, _ => Nat.le_refl _
 | k + 1, n => by
  unfold daysF
  split
  ·have := daysF_len p m k ((lateD p n).1 + 1)
   simp only [List.length_cons]
   omega
  ·simp
theorem daysF_bd {p : PerD} (hok : PerOk p) {m : Int} (hm : 0 ≤ m) : ∀ (k : Nat) (n : Int), 0 ≤ n → n ≤ 1000 → ∀ d ∈ daysF p m k n, 0 ≤ d ∧ d ≤ 13
 | 0, _, _, _, d, h => by cases h
 | k + 1, n, h0, h1, d, h => by
  unfold daysF at h
  split at h
  ·next hc =>
   have := lateD_bd hok h0 (by omega) hc.1
   rcases List.mem_cons.1 h with rfl | h
   ·omega
   ·exact daysF_bd hok hm k _ (by omega) (by omega) d h
  ·cases h
theorem daysL_bd {p : PerD} (hok : PerOk p) {m : Int} (hm : 0 ≤ m) {d : Int} (h : d ∈ daysL p m) : 0 ≤ d ∧ d ≤ 13 := daysF_bd hok hm 15 0 (by omega) (by omega) d h
abbrev InstD := Int × Int × Int
def ltI (x y : InstD) : Prop := x.2.1 < y.2.1 ∨ x.2.1 = y.2.1 ∧ (x.1 < y.1 ∨ x.1 = y.1 ∧ x.2.2 < y.2.2)
theorem ltI_eq {x y : InstD} (h1 : ¬ ltI x y) (h2 : ¬ ltI y x) : x = y := by
 obtain ⟨a, b, c⟩ := x
 obtain ⟨a', b', c'⟩ := y
 unfold ltI at h1 h2
 dsimp only at h1 h2
 have e1 : a = a' := by omega
 have e2 : b = b' := by omega
 have e3 : c = c' := by omega
 rw [e1, e2, e3]
def SortedI (l : List InstD) : Prop := l.Pairwise fun x y => ¬ ltI y x
theorem sortedI_unique {a b : List InstD} (hp : a.Perm b) (ha : SortedI a) (hb : SortedI b) : a = b := hp.eq_of_pairwise (fun _ _ _ _ h1 h2 => ltI_eq h2 h1) ha hb
def insI (x : InstD) : List InstD → List InstD
 | [] => [x]
 | y :: r => if ltI y x then y :: insI x r else x :: y :: r
def sortI : List InstD → List InstD
 | [] => []
 | x :: r => insI x (sortI r)
theorem insI_perm (x : InstD) : ∀ l : List InstD, (insI x l).Perm (x :: l)
 | [] => List.Perm.refl _
 | y :: r => by
  unfold insI
  split
  ·exact ((insI_perm x r).cons y).trans (List.Perm.swap x y r)
  ·exact List.Perm.refl _
theorem sortI_perm : ∀ l : List InstD, (sortI l).Perm l
 | [] => List.Perm.refl _
 | x :: r => (insI_perm x _).trans ((sortI_perm r).cons x)
theorem insI_sorted (x : InstD) : ∀ l : List InstD, SortedI l → SortedI (insI x l)
 | [], _ => List.pairwise_singleton _ _
 | y :: r, h => by
  obtain ⟨h1, h2⟩ := List.pairwise_cons.1 h
  unfold insI
  split
  ·next hlt =>
   refine List.pairwise_cons.2 ⟨fun z hz => ?_, insI_sorted x r h2⟩
   rcases List.mem_cons.1 ((insI_perm x r).mem_iff.1 hz) with rfl | hz
   ·intro h3
    unfold ltI at hlt h3
    omega
   ·exact h1 z hz
  ·next hlt =>
   refine List.pairwise_cons.2 ⟨fun z hz => ?_, h⟩
   rcases List.mem_cons.1 hz with rfl | hz
   ·exact hlt
   ·intro h3
    have h4 := h1 z hz
    unfold ltI at hlt h3 h4
    omega
theorem sortI_sorted : ∀ l : List InstD, SortedI (sortI l)
 | [] => List.Pairwise.nil
 | x :: r => insI_sorted x _ (sortI_sorted r)
def compI : List InstD → List InstD
 | [] => []
 | x :: r => if r.head? = some x then compI r else x :: compI r
theorem compI_mem : ∀ {l : List InstD} {x : InstD}, x ∈ compI l → x ∈ l
 | [], _, h => by cases h
 | y :: r, x, h => by
  unfold compI at h
  split at h
  ·exact List.mem_cons_of_mem _ (compI_mem h)
  ·rcases List.mem_cons.1 h with rfl | h
   ·exact List.mem_cons_self
   ·exact List.mem_cons_of_mem _ (compI_mem h)
theorem compI_len : ∀ l : List InstD, (compI l).length ≤ l.length
 | [] => Nat.le_refl _
 | y :: r => by
  have := compI_len r
  unfold compI
  split
  ·simp only [List.length_cons]; omega
  ·simp only [List.length_cons]; omega
structure ClassD where
 days : PerD
 minute : Int
instance : Inhabited ClassD := ⟨⟨default, 0⟩⟩
structure StreamD where
 classes : List ClassD
 len : Int
 extra : List InstD
instance : Inhabited StreamD := ⟨⟨[], 0, []⟩⟩
def InstOk (x : InstD) : Prop := 0 ≤ x.1 ∧ x.1 ≤ 100 ∧ 0 ≤ x.2.1 ∧ x.2.1 ≤ 100000 ∧ x.2.1 < x.2.2 ∧ x.2.2 ≤ x.2.1 + 10080
structure StreamOk (s : StreamD) : Prop where
 few : s.classes.length ≤ 1
 cls : ∀ c ∈ s.classes, PerOk c.days ∧ 0 ≤ c.minute ∧ c.minute ≤ 1439
 len0 : 1 ≤ s.len
 len1 : s.len ≤ 10080
 extra : s.extra.length ≤ 40
 each : ∀ x ∈ s.extra, InstOk x
 order : s.extra.Pairwise ltI
def instI (len : Int) (m d : Int) : InstD := (d, d * 1440 + m, d * 1440 + m + len)
def classI (len : Int) (c : ClassD) : List InstD := (daysL c.days c.minute).map (instI len c.minute)
def hitI (x : InstD) : Bool := decide (x.2.1 < 20160) && decide (0 < x.2.2)
def rawI (s : StreamD) : List InstD := s.classes.flatMap (classI s.len) ++ s.extra.filter hitI
def listI (s : StreamD) : List InstD := compI (sortI (rawI s))
theorem rawI_ok {s : StreamD} (h : StreamOk s) {x : InstD} (hx : x ∈ rawI s) : InstOk x := by
 rcases List.mem_append.1 hx with hx | hx
 ·obtain ⟨c, hc, hx⟩ := List.mem_flatMap.1 hx
  obtain ⟨d, hd, rfl⟩ := List.mem_map.1 hx
  obtain ⟨hp, m0, m1⟩ := h.cls c hc
  have := daysL_bd hp m0 hd
  have := h.len0
  have := h.len1
  unfold InstOk instI
  dsimp only
  omega
 ·exact h.each x (List.mem_filter.1 hx).1
theorem listI_ok {s : StreamD} (h : StreamOk s) {x : InstD} (hx : x ∈ listI s) : InstOk x := rawI_ok h ((sortI_perm _).mem_iff.1 (compI_mem hx))
end Go.Proofs.YtgolicoalldidaaGreat
