import Derived.Test.YtepcdhpikpmepaaGreatTBQ
import Derived.Test.YtepcdhpikpmepaaGreatHEQ
import Derived.Deep.Cut
namespace Go.Proofs.YtepcdhpikpmepaaGreat
open Go.RowKit Go.Shelf
theorem run_store_funcT {P : Program} {w : World} {a : Addr} {m : Mode} (f : Fn) (b c : Array Value) : (store a (.func f b c) m).run P w = stored P w a (.func f b c) m := run_store P w a _ m rfl
attribute [local go_sem] Oper.semAt_some run_store_funcT

theorem rising_first {P c : Int} {cs : List Int} (h : risingP (-1) P (c :: cs) = true) : 0 ≤ c ∧ c < P := by
 unfold risingP at h
 split at h
 ·cases h
 ·omega
set_option maxHeartbeats 1600000 in
theorem recurs1_end (Tb Cb Fb : Nat) (pa : Option Addr) (pc : Nat) (w : World) (c0 : w.cell? ⟨Tb, 0, none⟩ = some (.slice pa 1 pc)) :
  Calls Tryz.prog 125 #[.int .i64 1, .pointer (some ⟨Tb, 0, none⟩), .pointer (some ⟨Cb, 0, none⟩), .pointer (some ⟨Fb, 0, none⟩)] w fun e w' => e = .returned (.bool true) ∧ Ext w w' := by
 go_enter Tryz.func125, Tryz.ntmps125
 go_upto_region 1 with (fail)
 go_step3
 go_wp2
 (try rw [Exit.noGoto_ret])
 go_ret
 exact ⟨rfl, (by with_reducible repeat' (first | exact Ext.refl _ | assumption | refine Ext.drewN ?_ _ | refine Ext.drew ?_ | refine Ext.alloc ?_ _ | refine Ext.trans ?_ (by with_reducible assumption)))⟩
set_option maxHeartbeats 3200000 in
set_option maxRecDepth 100000 in
theorem recurs1_start (Tb Cb Fb g : Nat) (x : Int) (pa : Option Addr) (pc : Nat) (p : PerD) (w : World) (hP : Pers w (.slice pa 1 pc) [p]) (hok : PerOk p) (hT : Blk w Tb 108 #[.slice pa 1 pc]) (hC : Blk w Cb 31 #[.slice (some ⟨g, 0, none⟩) 1 1])
  (hF : Blk w Fb 90 #[.func (.func 125) #[] #[.pointer (some ⟨Tb, 0, none⟩), .pointer (some ⟨Cb, 0, none⟩), .pointer (some ⟨Fb, 0, none⟩)]]) (hg : Blk w g 3 #[.int .i64 x]) :
  Calls Tryz.prog 125 #[.int .i64 0, .pointer (some ⟨Tb, 0, none⟩), .pointer (some ⟨Cb, 0, none⟩), .pointer (some ⟨Fb, 0, none⟩)] w fun e w' => e = .returned (.bool true) ∧ Keep (fun k => k = g) w w' := by
 obtain ⟨_, _, ep, hn, hc, hat⟩ := hP.open
 cases ep
 obtain ⟨b1, o1, p', ha, hcp, ca, cc, rfl, hb1, _, ex, g0, g1, g2, g3, gh, gc⟩ := hat 0 (by simp) w (Ext.refl _)
 obtain rfl : p = p' := by simpa using ex.out
 simp only [Nat.zero_mul, Nat.add_zero] at g0 g1 g2 g3
 have hok' := hok
 obtain ⟨e0, _, _, _, _, hne, _, hri⟩ := hok
 obtain ⟨cs, hcs⟩ : ∃ cs, p.cycle = cs := ⟨_, rfl⟩
 rw [hcs] at g3 gc hne hri
 cases cs with
 | nil => exact absurd rfl hne
 | cons c0 cr =>
  obtain ⟨hc0, hc1⟩ := rising_first hri
  obtain ⟨ca', cc', ec, _, _, hcat⟩ := gc.open
  cases ec
  obtain ⟨b2, o2, c0', rfl, hb2, _, ec2, k0⟩ := hcat 0 (by simp) w (Ext.refl _)
  obtain rfl : c0 = c0' := by simpa using ec2.out
  simp only [Nat.add_zero] at k0
  rw [e0] at g0
  have hPv : PerV w (.agg #[.slice ha 0 hcp, .int .i64 p.from_, .int .i64 p.period, .slice (some ⟨b2, o2, none⟩) (c0 :: cr).length cc]) p := ⟨_, _, rfl, by rw [e0]; rw [e0] at gh; exact gh, by rw [hcs]; exact gc⟩
  have hres := Lib.hid (residue_calls _ p c0 w hPv hok' hc0 hc1)
  have hT' := Lib.hid hT
  have hC' := Lib.hid hC
  have hF' := Lib.hid hF
  have hg' := Lib.hid hg
  have t0 : w.cell? ⟨Tb, 0, none⟩ = some (.slice (some ⟨b1, o1, none⟩) 1 pc) := hT.cell 0
  have tl := hT.lt
  obtain ⟨f, hf⟩ : ∃ f, p.from_ = f := ⟨_, rfl⟩
  obtain ⟨q, hq⟩ : ∃ q, p.period = q := ⟨_, rfl⟩
  obtain ⟨m, hm⟩ : ∃ m, Hid ((c0 :: cr).length = m) := ⟨_, rfl⟩
  have hm0 : 0 < m := by rw [← hm.out]; simp
  rw [hf] at g1 hres
  rw [hq] at g2 hres
  rw [hm.out] at g3 hres
  clear hP hat hT hC hF hg hPv gh gc hcat ex ec2 hri hne hc0 hc1 hcs hf hq hn hc hm hok'
  go_enter Tryz.func125, Tryz.ntmps125
  go_upto_region 1 with (fail)
  go_step3
  go_wp2_with fail
  go_step3
  go_wp2_with fail
  go_loopw [7, 8, 9, 20] (fun _ _ _ vi wr => vi = .int .i64 0 ∧ wr = w) (fun _ _ _ _ _ => 0)
  case atStart => exact ⟨rfl, rfl⟩
  case round =>
   obtain ⟨rfl, hwr⟩ := hrel
   replace hwr := hwr.symm
   subst hwr
   go_wp2_with fail
   refine hres.out.mono ?_
   rintro e w1 ⟨rfl, hx1⟩
   have kx := Keep.of_ext (X := fun _ => False) hx1
   have hT1 := Lib.hid (kx.blk hT'.out id)
   have hC1 := Lib.hid (kx.blk hC'.out id)
   have hF1 := Lib.hid (kx.blk hF'.out id)
   have hg1 := Lib.hid (kx.blk hg'.out id)
   have hE1 := Lib.hid hx1
   have s0 : w1.cell? ⟨Cb, 0, none⟩ = some (.slice (some ⟨g, 0, none⟩) 1 1) := hC1.out.cell 0
   have sl := hC1.out.lt
   have v0 : w1.cell? ⟨g, 0, none⟩ = some (.int .i64 x) := hg1.out.cell 0
   have vl := hg1.out.lt
   have vf := hg1.out.frozen 0
   clear kx hx1 t0 tl k0 g0 g1 g2 g3 hres hT' hC' hF' hg' hb1 hb2
   go_wp2_with fail
   go_loopw [9, 31] (fun _ vk wk => vk = .int .i64 0 ∧ wk = w1) (fun _ _ _ => 0)
   case atStart => exact ⟨rfl, rfl⟩
   case round =>
    obtain ⟨rfl, hwk⟩ := hrel
    subst hwk
    go_upto_region 13 with (fail)
    refine wp_abs (S := fun W => Hid (Keep (fun k => k = g) w W) ∧ Hid (Blk W Tb 108 #[.slice (some ⟨b1, o1, none⟩) 1 pc]) ∧ Hid (Blk W Fb 90 #[.func (.func 125) #[] #[.pointer (some ⟨Tb, 0, none⟩), .pointer (some ⟨Cb, 0, none⟩), .pointer (some ⟨Fb, 0, none⟩)]])) ?_ ?_
    ·exact ⟨Lib.hid (Keep.setCell (X := fun k => k = g) (p := ⟨g, 0, none⟩) (Keep.of_ext hE1.out) (Or.inl rfl) _), Lib.hid (hT1.out.far (p := ⟨g, 0, none⟩) (hT1.out.ne_ hg1.out (by decide)) _), Lib.hid (hF1.out.far (p := ⟨g, 0, none⟩) (hF1.out.ne_ hg1.out (by decide)) _)⟩
    clear s0 sl v0 vl vf hT1 hC1 hF1 hg1 hE1
    rintro V ⟨hK, hTV, hFV⟩
    have q0 : V.cell? ⟨Fb, 0, none⟩ = some (.func (.func 125) #[] #[.pointer (some ⟨Tb, 0, none⟩), .pointer (some ⟨Cb, 0, none⟩), .pointer (some ⟨Fb, 0, none⟩)]) := hFV.out.cell 0
    have ql := hFV.out.lt
    have hcall := Lib.hid (recurs1_end Tb Cb Fb (some ⟨b1, o1, none⟩) pc V (hTV.out.cell 0))
    have hg8 : ∀ (y : Array Value) (W : World), (callFunc 125 y).run Tryz.prog W = .ok (.enter 125 y) W := fun _ _ => by kernel_rfl
    go_wp2_with fail
    refine hcall.out.mono ?_
    rintro e V2 ⟨rfl, hx2⟩
    have hK2 := Lib.hid (hK.out.trans (Keep.of_ext hx2))
    clear hx2 q0 ql hcall
    go_wp2
    (try simp only [Exit.inBlock, Exit.then])
    (try rw [Exit.noGoto_ret])
    go_ret
    exact ⟨rfl, hK2.out⟩
set_option maxHeartbeats 1600000 in
set_option maxRecDepth 100000 in
theorem recurs_calls (v : Value) (p : PerD) (w : World) (h : Pers w v [p]) (hok : PerOk p) :
  Calls Tryz.prog 113 #[v] w fun e w' => e = .returned (.bool true) ∧ Ext w w' := by
 have hP := Lib.hid h
 have hok' := Lib.hid hok
 obtain ⟨pa, pc, e⟩ := h.form
 rw [List.length_singleton] at e
 subst e
 have hmk : ∀ W, (Instr.makeSlice 31 (.int .i64 1) (.int .i64 1)).run Tryz.prog W = .ok (.slice (some ⟨W.heap.size, 0, none⟩) 1 1) (W.alloc (.cells #[.int .i64 0] 3)) := fun W => run_make_ints 1 (by omega) W
 clear h hok
 go_enter Tryz.func113, Tryz.ntmps113
 go_upto_region 4 with (fail)
 refine wp_abs (S := fun W => Hid (Ext w W) ∧ Hid (Blk W w.heap.size 108 #[.slice pa 1 pc]) ∧ Hid (Blk W (w.heap.size + 1) 3 #[.int .i64 0]) ∧ Hid (Blk W (w.heap.size + 2) 31 #[.slice (some ⟨w.heap.size + 1, 0, none⟩) 1 1]) ∧ Hid (Blk W (w.heap.size + 3) 90 #[.func (.func 125) #[] #[.pointer (some ⟨w.heap.size, 0, none⟩), .pointer (some ⟨w.heap.size + 2, 0, none⟩), .pointer (some ⟨w.heap.size + 3, 0, none⟩)]])) ?_ ?_
 ·refine ⟨Lib.hid (by exact (by with_reducible repeat' (first | exact Ext.refl _ | assumption | refine Ext.drewN ?_ _ | refine Ext.drew ?_ | refine Ext.alloc ?_ _ | refine Ext.trans ?_ (by with_reducible assumption)))), Lib.hid ?_, Lib.hid ?_, Lib.hid ?_, Lib.hid ?_⟩
  ·exact Blk.alloc (Blk.alloc (Blk.alloc (blk_new' rfl rfl) _) _) _
  ·exact Blk.alloc (Blk.alloc (blk_new' (by simp) rfl) _) _
  ·exact Blk.alloc (blk_new' (by simp) rfl) _
  ·exact blk_new' (by simp) rfl
 clear hmk
 rintro V ⟨hE, hT, hg, hC, hF⟩
 have hcall := Lib.hid (recurs1_start w.heap.size (w.heap.size + 2) (w.heap.size + 3) (w.heap.size + 1) 0 pa pc p V (hP.out.ext hE.out) hok'.out hT.out hC.out hF.out hg.out)
 have q0 : V.cell? ⟨w.heap.size + 3, 0, none⟩ = some (.func (.func 125) #[] #[.pointer (some ⟨w.heap.size, 0, none⟩), .pointer (some ⟨w.heap.size + 2, 0, none⟩), .pointer (some ⟨w.heap.size + 3, 0, none⟩)]) := hF.out.cell 0
 have ql := hF.out.lt
 have hg8 : ∀ (y : Array Value) (W : World), (callFunc 125 y).run Tryz.prog W = .ok (.enter 125 y) W := fun _ _ => by kernel_rfl
 clear hT hg hC hF
 go_wp2_with fail
 refine hcall.out.mono ?_
 rintro e V2 ⟨rfl, hk⟩
 have hE2 := Lib.hid (hE.out.keep hk (fun i hi e => by omega))
 clear hk q0 ql hcall
 go_wp2
 go_ret
 exact ⟨rfl, hE2.out⟩
end Go.Proofs.YtepcdhpikpmepaaGreat
namespace Go.Proofs.YtepcdhpikpmepaaGreat
open Go.RowKit Go.Shelf
attribute [local go_sem] Oper.semAt_some run_store_funcT

def upA (r P n : Int) : Int := if r < n then r + (n - r + P - 1) / P * P else r
theorem upA_bd {r P n : Int} (r0 : 0 ≤ r) (r1 : r ≤ 1000) (p0 : 1 ≤ P) (p1 : P ≤ 1000) (_ : 0 ≤ n) (n1 : n ≤ 1000000000000) : n ≤ upA r P n ∧ 0 ≤ upA r P n ∧ upA r P n ≤ 1000000002000 := by
 unfold upA
 split
 ·have h1 := Int.emod_add_mul_ediv (n - r + P - 1) P
  have h2 := Int.emod_nonneg (n - r + P - 1) (show P ≠ 0 by omega)
  have h3 := Int.emod_lt_of_pos (n - r + P - 1) (show 0 < P by omega)
  rw [Int.mul_comm] at h1
  omega
 ·omega
structure LateI (w : World) (Nb Lb Db : Nat) (n L : Int) (d : Bool) : Prop where
 nb : Blk w Nb 3 #[.int .i64 n]
 lb : Blk w Lb 3 #[.int .i64 L]
 db : Blk w Db 4 #[.bool d]
 ne : Nb ≠ Lb
set_option maxHeartbeats 3200000 in
set_option maxRecDepth 100000 in
theorem late1_end (Tb Fb Nb Lb Db : Nat) (pa : Option Addr) (pc : Nat) (r P n L : Int) (d : Bool) (w : World) (hT : Blk w Tb 108 #[.slice pa 1 pc]) (hI : LateI w Nb Lb Db n L d)
  (r0 : 0 ≤ r) (r1 : r ≤ 1000) (p0 : 1 ≤ P) (p1 : P ≤ 1000) (n0 : 0 ≤ n) (n1 : n ≤ 1000000000000) :
  Calls Tryz.prog 129 #[.int .i64 1, .agg #[.int .i64 r, .int .i64 P], .pointer (some ⟨Tb, 0, none⟩), .pointer (some ⟨Fb, 0, none⟩), .pointer (some ⟨Nb, 0, none⟩), .pointer (some ⟨Lb, 0, none⟩), .pointer (some ⟨Db, 0, none⟩)] w
   fun e w' => e = .returned (.tuple #[]) ∧ Keep (fun k => k = Lb ∨ k = Db) w w' ∧ LateI w' Nb Lb Db n (min (upA r P n) L) (d || decide (upA r P n ≤ L)) := by
 obtain ⟨a0, a1, a2⟩ := upA_bd r0 r1 p0 p1 n0 n1
 obtain ⟨a, ha⟩ : ∃ a, Hid (upA r P n = a) := ⟨_, rfl⟩
 rw [ha.out] at a0 a1 a2 ⊢
 have hT' := Lib.hid hT
 have hI' := Lib.hid hI
 clear hT hI
 have c0 : w.cell? ⟨Tb, 0, none⟩ = some (.slice pa 1 pc) := hT'.out.cell 0
 have l0 := hT'.out.lt
 have cn : w.cell? ⟨Nb, 0, none⟩ = some (.int .i64 n) := hI'.out.nb.cell 0
 have ln := hI'.out.nb.lt
 have dP : decide (0 < P) = true := decide_eq_true (by omega)
 by_cases hr : r < n
 ·have d1 : decide (r < n) = true := decide_eq_true hr
  obtain ⟨q, hq⟩ : ∃ q, Hid ((n - r + P - 1) / P = q) := ⟨_, rfl⟩
  have hup : Hid (r + q * P = a) := Lib.hid (by rw [← ha.out, ← hq.out]; unfold upA; rw [if_pos hr])
  have t1 : (n - r + P - 1).tdiv P = q := by rw [Int.tdiv_eq_ediv_of_nonneg (by omega)]; exact hq.out
  have w1 : wrap64 (n - r) = n - r := by unfold wrap64; omega
  have w2 : wrap64 (n - r + P) = n - r + P := by unfold wrap64; omega
  have w3 : wrap64 (n - r + P - 1) = n - r + P - 1 := by unfold wrap64; omega
  have hqP : q * P = a - r := by have := hup.out; omega
  have w5 : wrap64 (q * P) = a - r := by rw [hqP]; unfold wrap64; omega
  have hqb : 0 ≤ q ∧ q ≤ 2000000000000 := by
   rw [← hq.out]
   exact ⟨Int.ediv_nonneg (by omega) (by omega), Int.le_trans (Int.ediv_le_self _ (by omega)) (by omega)⟩
  have w4 : wrap64 q = q := by unfold wrap64; omega
  have w6 : wrap64 (r + (a - r)) = a := by unfold wrap64; omega
  have nP : (P == 0) = false := by rw [beq_eq_false_iff_ne]; omega
  clear hq hup hqb hqP hr
  go_enter Tryz.func129, Tryz.ntmps129
  go_upto_region 1 with (fail)
  obtain ⟨cb, hcb⟩ : ∃ cb, Hid (w.heap.size = cb) := ⟨_, rfl⟩
  rw [hcb.out]
  refine wp_abs (S := fun W => Hid (Ext w W) ∧ Hid (Blk W cb 209 #[.int .i64 r, .int .i64 P])) ?_ ?_
  ·exact ⟨Lib.hid (by exact (by with_reducible repeat' (first | exact Ext.refl _ | assumption | refine Ext.drewN ?_ _ | refine Ext.drew ?_ | refine Ext.alloc ?_ _ | refine Ext.trans ?_ (by with_reducible assumption)))), Lib.hid (blk_new' hcb.out.symm rfl)⟩
  rintro W1 ⟨hE, hB⟩
  replace c0 := hE.out.cell c0
  replace l0 := Nat.lt_of_lt_of_le l0 hE.out.size
  replace cn := hE.out.cell cn
  replace ln := Nat.lt_of_lt_of_le ln hE.out.size
  have b0 : W1.cell? ⟨cb, 0, none⟩ = some (.int .i64 r) := hB.out.cell 0
  have b1 : W1.cell? ⟨cb, 1, none⟩ = some (.int .i64 P) := hB.out.cell 1
  have bl := hB.out.lt
  go_upto_region 10 with (fail)
  have z0 := After.cell (show W1.cell? ⟨cb, 0, none⟩ = some (.int .i64 r) from hB.out.cell 0)
  have z1 := After.cell (show W1.cell? ⟨cb, 1, none⟩ = some (.int .i64 P) from hB.out.cell 1)
  have z2 := After.cell cn
  clear b0 b1 bl cn ln c0 l0
  refine wp_region_tail 18 (by kernel_rfl) (by kernel_rfl) ?_
  simp only [List.take_succ_cons, List.take_zero, List.drop_succ_cons, List.drop_zero]
  repeat (go_big_quiet_step (fail))
  refine wpQuiet_nil ?_
  rintro _ ⟨u, rfl⟩
  have hV := Lib.hid u.ext
  generalize u.world = V at hV ⊢
  clear z0 z1 z2
  have hBV := Lib.hid ((Keep.of_ext (X := fun _ => False) hV.out).blk hB.out id)
  have b0 : V.cell? ⟨cb, 0, none⟩ = some (.int .i64 r) := hBV.out.cell 0
  have bl := hBV.out.lt
  have bf := hBV.out.frozen 0
  have hEn := Lib.hid ((hE.out.trans hV.out).setCell (p := ⟨cb, 0, none⟩) (by have := hcb.out; show w.heap.size ≤ cb; omega) (.int .i64 (r + (a - r))))
  have hBn : Hid (Blk (V.setCell ⟨cb, 0, none⟩ (.int .i64 (r + (a - r)))) cb 209 #[.int .i64 a, .int .i64 P]) := by
   rw [show r + (a - r) = a by omega]
   exact Lib.hid (hBV.out.set_ 0 _)
  clear hE hV hB hBV
  go_upto_region 11 with (fail)
  clear b0 bl bf
  refine wp_abs (S := fun W => Hid (Ext w W) ∧ Hid (Blk W cb 209 #[.int .i64 a, .int .i64 P])) ⟨hEn, hBn⟩ ?_
  clear hEn hBn
  rintro V2 ⟨hE2, hB2⟩
  have kx := Keep.of_ext (X := fun _ => False) hE2.out
  have hnb := Lib.hid (kx.blk hI'.out.nb id)
  have hlb := Lib.hid (kx.blk hI'.out.lb id)
  have hdb := Lib.hid (kx.blk hI'.out.db id)
  have hne := Lib.hid hI'.out.ne
  clear kx hT' hI'
  have b0 : V2.cell? ⟨cb, 0, none⟩ = some (.int .i64 a) := hB2.out.cell 0
  have bl := hB2.out.lt
  have cn : V2.cell? ⟨Nb, 0, none⟩ = some (.int .i64 n) := hnb.out.cell 0
  have ln := hnb.out.lt
  have cl : V2.cell? ⟨Lb, 0, none⟩ = some (.int .i64 L) := hlb.out.cell 0
  have ll := hlb.out.lt
  have lf := hlb.out.frozen 0
  have ld := hdb.out.lt
  have df := hdb.out.frozen 0
  have dc : V2.cell? ⟨Db, 0, none⟩ = some (.bool d) := hdb.out.cell 0
  have dna : decide (n ≤ a) = true := decide_eq_true a0
  by_cases hL : a ≤ L
  ·have dl : decide (a ≤ L) = true := decide_eq_true hL
   have hmin : Hid (min a L = a) := Lib.hid (by omega)
   have hld := Lib.hid (hlb.out.ne_ hdb.out (by decide))
   have hnd := Lib.hid (hnb.out.ne_ hdb.out (by decide))
   have k1 := Lib.hid (Keep.setCell (X := fun k => k = Lb ∨ k = Db) (p := ⟨Lb, 0, none⟩) (Keep.of_ext hE2.out) (Or.inl (Or.inl rfl)) (.int .i64 a))
   have k2 := Lib.hid (k1.out.setCell (p := ⟨Db, 0, none⟩) (Or.inl (Or.inr rfl)) (.bool true))
   have q1 := Lib.hid ((hnb.out.far (p := ⟨Lb, 0, none⟩) hne.out (.int .i64 a)).far (p := ⟨Db, 0, none⟩) hnd.out (.bool true))
   have q2 : Hid (Blk ((V2.setCell ⟨Lb, 0, none⟩ (.int .i64 a)).setCell ⟨Db, 0, none⟩ (.bool true)) Lb 3 #[.int .i64 a]) := Lib.hid ((hlb.out.set_ 0 (.int .i64 a)).far (p := ⟨Db, 0, none⟩) hld.out (.bool true))
   have q3 : Hid (Blk ((V2.setCell ⟨Lb, 0, none⟩ (.int .i64 a)).setCell ⟨Db, 0, none⟩ (.bool true)) Db 4 #[.bool true]) := Lib.hid ((hdb.out.far (p := ⟨Lb, 0, none⟩) (Ne.symm hld.out) (.int .i64 a)).set_ 0 (.bool true))
   have dc2 : (V2.setCell ⟨Lb, 0, none⟩ (.int .i64 a)).cell? ⟨Db, 0, none⟩ = some (.bool d) := (hdb.out.far (p := ⟨Lb, 0, none⟩) (Ne.symm hld.out) (.int .i64 a)).cell 0
   have df2 := (hdb.out.far (p := ⟨Lb, 0, none⟩) (Ne.symm hld.out) (.int .i64 a)).frozen 0
   have ld2 := (hdb.out.far (p := ⟨Lb, 0, none⟩) (Ne.symm hld.out) (.int .i64 a)).lt
   have hfin : Hid (LateI ((V2.setCell ⟨Lb, 0, none⟩ (.int .i64 a)).setCell ⟨Db, 0, none⟩ (.bool true)) Nb Lb Db n (min a L) true) := by
    rw [hmin.out]
    exact Lib.hid ⟨q1.out, q2.out, q3.out, hne.out⟩
   clear hE2 hB2 hnb hlb hdb hne hld hnd k1 q1 q2 q3 hmin
   go_wp2_with fail
   refine bodyPost_end (results_none rfl _ _ _) rfl ?_
   first | (rw [dl, Bool.or_true]; exact ⟨rfl, k2.out, hfin.out⟩) | (rw [ra, dl, Bool.or_true]; exact ⟨rfl, k2.out, hfin.out⟩)
  ·have dl : decide (a ≤ L) = false := decide_eq_false hL
   have hmin : Hid (min a L = L) := Lib.hid (by omega)
   have hfin : Hid (LateI V2 Nb Lb Db n (min a L) d) := by
    rw [hmin.out]
    exact Lib.hid ⟨hnb.out, hlb.out, hdb.out, hne.out⟩
   have k2 := Lib.hid (Keep.of_ext (X := fun k => k = Lb ∨ k = Db) hE2.out)
   go_wp2_with fail
   refine bodyPost_end (results_none rfl _ _ _) rfl ?_
   first | exact ⟨rfl, k2.out, hfin.out⟩ | (rw [dl, Bool.or_false]; exact ⟨rfl, k2.out, hfin.out⟩) | (rw [ra, dl, Bool.or_false]; exact ⟨rfl, k2.out, hfin.out⟩)
 ·have d1 : decide (r < n) = false := decide_eq_false hr
  have hra : r = a := by rw [← ha.out]; unfold upA; rw [if_neg hr]
  subst hra
  clear hr
  go_enter Tryz.func129, Tryz.ntmps129
  go_upto_region 1 with (fail)
  obtain ⟨cb, hcb⟩ : ∃ cb, Hid (w.heap.size = cb) := ⟨_, rfl⟩
  rw [hcb.out]
  refine wp_abs (S := fun W => Hid (Ext w W) ∧ Hid (Blk W cb 209 #[.int .i64 r, .int .i64 P])) ?_ ?_
  ·exact ⟨Lib.hid (by exact (by with_reducible repeat' (first | exact Ext.refl _ | assumption | refine Ext.drewN ?_ _ | refine Ext.drew ?_ | refine Ext.alloc ?_ _ | refine Ext.trans ?_ (by with_reducible assumption)))), Lib.hid (blk_new' hcb.out.symm rfl)⟩
  rintro W1 ⟨hE, hB⟩
  replace c0 := hE.out.cell c0
  replace l0 := Nat.lt_of_lt_of_le l0 hE.out.size
  replace cn := hE.out.cell cn
  replace ln := Nat.lt_of_lt_of_le ln hE.out.size
  have b0 : W1.cell? ⟨cb, 0, none⟩ = some (.int .i64 r) := hB.out.cell 0
  have b1 : W1.cell? ⟨cb, 1, none⟩ = some (.int .i64 P) := hB.out.cell 1
  have bl := hB.out.lt
  go_upto_region 11 with (fail)
  clear b0 b1 bl cn ln c0 l0
  refine wp_abs (S := fun W => Hid (Ext w W) ∧ Hid (Blk W cb 209 #[.int .i64 r, .int .i64 P])) ⟨hE, hB⟩ ?_
  clear hE hB
  obtain ⟨a, ra⟩ : ∃ a, r = a := ⟨_, rfl⟩
  rw [ra]
  rw [ra] at ha a0 a1 a2
  rintro V2 ⟨hE2, hB2⟩
  have kx := Keep.of_ext (X := fun _ => False) hE2.out
  have hnb := Lib.hid (kx.blk hI'.out.nb id)
  have hlb := Lib.hid (kx.blk hI'.out.lb id)
  have hdb := Lib.hid (kx.blk hI'.out.db id)
  have hne := Lib.hid hI'.out.ne
  clear kx hT' hI'
  have b0 : V2.cell? ⟨cb, 0, none⟩ = some (.int .i64 a) := hB2.out.cell 0
  have bl := hB2.out.lt
  have cn : V2.cell? ⟨Nb, 0, none⟩ = some (.int .i64 n) := hnb.out.cell 0
  have ln := hnb.out.lt
  have cl : V2.cell? ⟨Lb, 0, none⟩ = some (.int .i64 L) := hlb.out.cell 0
  have ll := hlb.out.lt
  have lf := hlb.out.frozen 0
  have ld := hdb.out.lt
  have df := hdb.out.frozen 0
  have dc : V2.cell? ⟨Db, 0, none⟩ = some (.bool d) := hdb.out.cell 0
  have dna : decide (n ≤ a) = true := decide_eq_true a0
  by_cases hL : a ≤ L
  ·have dl : decide (a ≤ L) = true := decide_eq_true hL
   have hmin : Hid (min a L = a) := Lib.hid (by omega)
   have hld := Lib.hid (hlb.out.ne_ hdb.out (by decide))
   have hnd := Lib.hid (hnb.out.ne_ hdb.out (by decide))
   have k1 := Lib.hid (Keep.setCell (X := fun k => k = Lb ∨ k = Db) (p := ⟨Lb, 0, none⟩) (Keep.of_ext hE2.out) (Or.inl (Or.inl rfl)) (.int .i64 a))
   have k2 := Lib.hid (k1.out.setCell (p := ⟨Db, 0, none⟩) (Or.inl (Or.inr rfl)) (.bool true))
   have q1 := Lib.hid ((hnb.out.far (p := ⟨Lb, 0, none⟩) hne.out (.int .i64 a)).far (p := ⟨Db, 0, none⟩) hnd.out (.bool true))
   have q2 : Hid (Blk ((V2.setCell ⟨Lb, 0, none⟩ (.int .i64 a)).setCell ⟨Db, 0, none⟩ (.bool true)) Lb 3 #[.int .i64 a]) := Lib.hid ((hlb.out.set_ 0 (.int .i64 a)).far (p := ⟨Db, 0, none⟩) hld.out (.bool true))
   have q3 : Hid (Blk ((V2.setCell ⟨Lb, 0, none⟩ (.int .i64 a)).setCell ⟨Db, 0, none⟩ (.bool true)) Db 4 #[.bool true]) := Lib.hid ((hdb.out.far (p := ⟨Lb, 0, none⟩) (Ne.symm hld.out) (.int .i64 a)).set_ 0 (.bool true))
   have dc2 : (V2.setCell ⟨Lb, 0, none⟩ (.int .i64 a)).cell? ⟨Db, 0, none⟩ = some (.bool d) := (hdb.out.far (p := ⟨Lb, 0, none⟩) (Ne.symm hld.out) (.int .i64 a)).cell 0
   have df2 := (hdb.out.far (p := ⟨Lb, 0, none⟩) (Ne.symm hld.out) (.int .i64 a)).frozen 0
   have ld2 := (hdb.out.far (p := ⟨Lb, 0, none⟩) (Ne.symm hld.out) (.int .i64 a)).lt
   have hfin : Hid (LateI ((V2.setCell ⟨Lb, 0, none⟩ (.int .i64 a)).setCell ⟨Db, 0, none⟩ (.bool true)) Nb Lb Db n (min a L) true) := by
    rw [hmin.out]
    exact Lib.hid ⟨q1.out, q2.out, q3.out, hne.out⟩
   clear hE2 hB2 hnb hlb hdb hne hld hnd k1 q1 q2 q3 hmin
   go_wp2_with fail
   refine bodyPost_end (results_none rfl _ _ _) rfl ?_
   first | (rw [dl, Bool.or_true]; exact ⟨rfl, k2.out, hfin.out⟩) | (rw [ra, dl, Bool.or_true]; exact ⟨rfl, k2.out, hfin.out⟩)
  ·have dl : decide (a ≤ L) = false := decide_eq_false hL
   have hmin : Hid (min a L = L) := Lib.hid (by omega)
   have hfin : Hid (LateI V2 Nb Lb Db n (min a L) d) := by
    rw [hmin.out]
    exact Lib.hid ⟨hnb.out, hlb.out, hdb.out, hne.out⟩
   have k2 := Lib.hid (Keep.of_ext (X := fun k => k = Lb ∨ k = Db) hE2.out)
   go_wp2_with fail
   refine bodyPost_end (results_none rfl _ _ _) rfl ?_
   first | exact ⟨rfl, k2.out, hfin.out⟩ | (rw [dl, Bool.or_false]; exact ⟨rfl, k2.out, hfin.out⟩) | (rw [ra, dl, Bool.or_false]; exact ⟨rfl, k2.out, hfin.out⟩)
end Go.Proofs.YtepcdhpikpmepaaGreat
