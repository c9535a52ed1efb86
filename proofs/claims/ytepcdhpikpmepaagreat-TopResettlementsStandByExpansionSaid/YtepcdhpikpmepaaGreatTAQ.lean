/- Readings of periodic sets; walks of periodic.rising, periodic.Valid, mixed.Valid, number.FloorDiv, endless.floor. -/
import Derived.Test.YtepcdhpikpmepaaGreatPLQ
namespace Go.Proofs.YtepcdhpikpmepaaGreat
open Go.RowKit

structure PerD where
 head : List Int
 from_ : Int
 period : Int
 cycle : List Int
instance : Inhabited PerD := ⟨⟨[], 0, 0, []⟩⟩
def PerV (w : World) (v : Value) (p : PerD) : Prop := ∃ hv cv, v = .agg #[hv, .int .i64 p.from_, .int .i64 p.period, cv] ∧ Ints w hv p.head ∧ Ints w cv p.cycle
def Pers (w : World) (v : Value) (l : List PerD) : Prop :=
 ∃ H C : Nat → Value, Sl w 4 v l.length (fun i j => if j = 0 then H i else if j = 1 then .int .i64 (l[i]?.getD default).from_ else if j = 2 then .int .i64 (l[i]?.getD default).period else C i) ∧
  ∀ i, i < l.length → Ints w (H i) (l[i]?.getD default).head ∧ Ints w (C i) (l[i]?.getD default).cycle
theorem PerV.ext {w w' : World} {v : Value} {p : PerD} (h : PerV w v p) (e : Ext w w') : PerV w' v p := let ⟨a, b, c, d, f⟩ := h; ⟨a, b, c, d.ext e, f.ext e⟩
theorem Pers.ext {w w' : World} {v : Value} {l : List PerD} (h : Pers w v l) (e : Ext w w') : Pers w' v l :=
 let ⟨S, T, h1, h2⟩ := h
 ⟨S, T, Sl.ext h1 e, fun i hi => ⟨(h2 i hi).1.ext e, (h2 i hi).2.ext e⟩⟩
def PersAt (a : Option Addr) (w : World) (l : List PerD) : Prop :=
 ∀ i, i < l.length → ∀ W, Ext w W → ∃ b off x pa pc oa oc, a = some ⟨b, off, none⟩ ∧ b < W.heap.size ∧ Hid (l.drop i = x :: l.drop (i + 1)) ∧ Hid (l[i]? = some x) ∧
  W.cell? ⟨b, off + i * 4, none⟩ = some (.slice pa x.head.length pc) ∧ W.cell? ⟨b, off + i * 4 + 1, none⟩ = some (.int .i64 x.from_) ∧ W.cell? ⟨b, off + i * 4 + 2, none⟩ = some (.int .i64 x.period) ∧ W.cell? ⟨b, off + i * 4 + 3, none⟩ = some (.slice oa x.cycle.length oc) ∧
  Ints W (.slice pa x.head.length pc) x.head ∧ Ints W (.slice oa x.cycle.length oc) x.cycle
theorem Pers.open {w : World} {v : Value} {l : List PerD} (h : Pers w v l) :
  ∃ a c, v = .slice a l.length c ∧ l.length ≤ c ∧ c ≤ 9223372036854775807 ∧ PersAt a w l := by
 obtain ⟨Pp, O, h1, h2⟩ := h
 obtain ⟨a, c, hv, hn, hc, h⟩ := Sl.open h1
 refine ⟨a, c, hv, hn, hc, fun i hi W e => ?_⟩
 obtain ⟨b, off, ha, hb, h⟩ := h i hi
 obtain ⟨x, d, ex⟩ := drop_cons l i hi
 have hp := (h2 i hi).1.ext e
 have ho := (h2 i hi).2.ext e
 simp only [ex, Option.getD_some] at hp ho
 obtain ⟨pa, pc, hP, _⟩ := Ints.open hp
 obtain ⟨oa, oc, hO, _⟩ := Ints.open ho
 refine ⟨b, off, x, pa, pc, oa, oc, ha, Nat.lt_of_lt_of_le hb e.size, d, ex, ?_, ?_, ?_, ?_, by rw [← hP]; exact hp, by rw [← hO]; exact ho⟩
 ·have := h W e 0 (by omega)
  rw [← hP]
  simpa [ex] using this
 ·have := h W e 1 (by omega)
  simpa [ex] using this
 ·have := h W e 2 (by omega)
  simpa [ex] using this
 ·have := h W e 3 (by omega)
  rw [← hO]
  simpa [ex] using this
theorem Pers.form {w : World} {v : Value} {l : List PerD} (h : Pers w v l) : ∃ a c, v = .slice a l.length c := let ⟨a, c, e, _⟩ := h.open; ⟨a, c, e⟩

set_option maxHeartbeats 400000 in
theorem indexFunc_per_calls (va : Value) (l : List PerD) (g : Nat) (hg : ∀ (x : Array Value) (W : World), (callFunc g x).run Tryz.prog W = .ok (.enter g x) W) (p : PerD → Bool) (w : World) (h : Pers w va l)
  (hf : ∀ s ∈ l, ∀ W, Ext w W → ∀ v, PerV W v s → Calls Tryz.prog g #[v] W fun e w' => e = .returned (.bool (p s)) ∧ Ext W w') :
  Calls Tryz.prog 110 #[va, .func (.func g) #[] #[]] w fun e w' => e = .returned (.int .i64 (findI p l)) ∧ Ext w w' := by
 obtain ⟨a, c, rfl, hn, hc, hat⟩ := h.open
 clear h
 have hf' := Lib.hid hf
 clear hf
 go_enter Tryz.func110, Tryz.ntmps110
 go_wp2_with fail
 go_loopw [8] (fun vi wr => ∃ i : Nat, i ≤ l.length ∧ vi = .int .i64 i ∧ Ext w wr ∧ Hid (FindAt p l i)) (fun vi _ => l.length - (intOf vi).toNat)
 case atStart => exact ⟨0, by omega, rfl, Ext.refl _, FindAt.zero _ _⟩
 case round =>
  obtain ⟨i, hi, rfl, hx, hF⟩ := hrel
  by_cases h1 : i < l.length
  ·obtain ⟨b1, o1, o, ha, hc1, ca, cc, rfl, hb1, dx, ex, g1, g2, g3, g4, gh, gc⟩ := hat i h1 wr hx
   have hm : o ∈ l := List.mem_of_getElem? ex.out
   have hcall := Lib.hid (hf'.out o hm wr hx _ ⟨_, _, rfl, gh, gc⟩)
   clear gh gc
   cases hp : p o with
   | true =>
    have R := Lib.hid (hF.out.hit ex.out hp)
    have hp' := Lib.hid hp
    clear hp
    go_wp2_with fail
    refine hcall.out.mono ?_
    rintro e w1 ⟨rfl, hx1⟩
    rw [hp'.out]
    go_wp2
    go_ret
    rw [R.out]
    exact ⟨rfl, hx.trans hx1⟩
   | false =>
    have R := Lib.hid (hF.out.miss ex.out hp)
    have hp' := Lib.hid hp
    clear hp
    go_wp2_with fail
    refine hcall.out.mono ?_
    rintro e w1 ⟨rfl, hx1⟩
    rw [hp'.out]
    go_wp2
    go_roundw
    case rel => exact ⟨i + 1, by omega, by go_num, hx.trans hx1, R⟩
    case measure => simp [intOf]; omega
  ·have R := Lib.hid (hF.out.none (by omega))
   go_wp2
   go_ret
   rw [R.out]
   exact ⟨rfl, hx⟩

theorem containsFunc_per_calls (va : Value) (l : List PerD) (g : Nat) (hg : ∀ (x : Array Value) (W : World), (callFunc g x).run Tryz.prog W = .ok (.enter g x) W) (p : PerD → Bool) (w : World) (h : Pers w va l)
  (hf : ∀ s ∈ l, ∀ W, Ext w W → ∀ v, PerV W v s → Calls Tryz.prog g #[v] W fun e w' => e = .returned (.bool (p s)) ∧ Ext W w') :
  Calls Tryz.prog 89 #[va, .func (.func g) #[] #[]] w fun e w' => e = .returned (.bool (l.any p)) ∧ Ext w w' := by
 have hc := Lib.hid (indexFunc_per_calls va l g hg p w h hf)
 have R := Lib.hid (findI_ge p l)
 clear hf h
 go_enter Tryz.func89, Tryz.ntmps89
 go_wp2_with fail
 refine hc.out.mono ?_
 rintro e w1 ⟨rfl, hx1⟩
 go_wp2
 go_ret
 rw [R.out]
 exact ⟨rfl, hx1⟩


/-! ### rising, Valid -/
def risingP : Int → Int → List Int → Bool
 | _, _, [] => true
 | last, lim, n :: r => if n ≤ last ∨ lim ≤ n then false else risingP n lim r
set_option maxHeartbeats 800000 in
theorem rising_calls (v : Value) (l : List Int) (lim : Int) (w : World) (h : Ints w v l) :
  Calls Tryz.prog 111 #[v, .int .i64 lim] w fun e w' => e = .returned (.bool (risingP (-1) lim l)) ∧ Ext w w' := by
 obtain ⟨a, c, rfl, hn, hc, hat⟩ := h.open
 have hat' := Lib.hid hat
 clear h hat
 obtain ⟨R, hR⟩ : ∃ R, Hid (risingP (-1) lim l = R) := ⟨_, rfl⟩
 rw [hR.out]
 go_enter Tryz.func111, Tryz.ntmps111
 go_wp2_with fail
 go_loopw [5, 7, 10] (fun vl _ vi wr => ∃ (i : Nat) (last : Int), i ≤ l.length ∧ vi = .int .i64 i ∧ vl = .int .i64 last ∧ Hid (Ext w wr) ∧ Hid (R = risingP last lim (l.drop i))) (fun _ _ vi _ => l.length - (intOf vi).toNat)
 case atStart => exact ⟨0, -1, by omega, rfl, rfl, Lib.hid (Ext.refl _), Lib.hid hR.out.symm⟩
 case round =>
  clear hR
  obtain ⟨i, last, hi, rfl, rfl, hx, hF⟩ := hrel
  by_cases h1 : i < l.length
  ·obtain ⟨b1, o1, x, rfl, hb1, dx, ex, g0⟩ := hat'.out i h1 wr hx.out
   have hF2 : Hid (R = if x ≤ last ∨ lim ≤ x then false else risingP x lim (l.drop (i + 1))) := Lib.hid (by rw [hF.out, dx.out]; rfl)
   clear hF dx ex
   by_cases q1 : x ≤ last
   ·have d1 : decide (x ≤ last) = true := decide_eq_true q1
    have Rf : Hid (R = false) := Lib.hid (by rw [hF2.out, if_pos (Or.inl q1)])
    clear hF2 q1
    go_wp2
    go_ret
    rw [Rf.out]
    exact ⟨rfl, hx.out⟩
   ·have d1 : decide (x ≤ last) = false := decide_eq_false q1
    by_cases q2 : lim ≤ x
    ·have d2 : decide (lim ≤ x) = true := decide_eq_true q2
     have Rf : Hid (R = false) := Lib.hid (by rw [hF2.out, if_pos (Or.inr q2)])
     clear hF2 q1 q2
     go_wp2
     go_ret
     rw [Rf.out]
     exact ⟨rfl, hx.out⟩
    ·have d2 : decide (lim ≤ x) = false := decide_eq_false q2
     have R2 : Hid (R = risingP x lim (l.drop (i + 1))) := Lib.hid (by rw [hF2.out, if_neg (fun h => h.elim q1 q2)])
     clear hF2 q1 q2
     go_wp2
     go_roundw
     case rel => exact ⟨i + 1, x, by omega, by go_num, rfl, hx, R2⟩
     case measure => simp [intOf]; omega
  ·have Rt : Hid (R = true) := Lib.hid (by rw [hF.out, List.drop_of_length_le (by omega)]; rfl)
   clear hF
   go_wp2
   go_ret
   rw [Rt.out]
   exact ⟨rfl, hx.out⟩
def PerOk (p : PerD) : Prop := p.head = [] ∧ 0 ≤ p.from_ ∧ p.from_ ≤ 1000 ∧ 1 ≤ p.period ∧ p.period ≤ 1000 ∧ p.cycle ≠ [] ∧ p.cycle.length ≤ 1000 ∧ risingP (-1) p.period p.cycle = true
set_option maxHeartbeats 1600000 in
theorem perValid_calls (v : Value) (p : PerD) (w : World) (h : PerV w v p) (hok : PerOk p) :
  Calls Tryz.prog 91 #[v] w fun e w' => e = .returned (.bool true) ∧ Ext w w' := by
 obtain ⟨hv, cv, rfl, hh, hc⟩ := h
 obtain ⟨e0, f0, f1, q0, q1, hne, hcl, hri⟩ := hok
 obtain ⟨f, fe⟩ : ∃ f, p.from_ = f := ⟨_, rfl⟩
 obtain ⟨q, qe⟩ : ∃ q, p.period = q := ⟨_, rfl⟩
 obtain ⟨cs, ce⟩ : ∃ cs, p.cycle = cs := ⟨_, rfl⟩
 rw [e0] at hh
 rw [ce] at hc hcl
 rw [qe, ce] at hri
 rw [fe] at f0 f1 ⊢
 rw [qe] at q0 q1 ⊢
 clear e0 fe qe ce hne
 obtain ⟨ha, hcp, rfl⟩ := hh.form
 obtain ⟨ca, cc, rfl⟩ := hc.form
 have hcl1 : Hid (∀ W, Ext w W → Calls Tryz.prog 111 #[.slice ha 0 hcp, .int .i64 f] W fun e w' => e = .returned (.bool true) ∧ Ext W w') := Lib.hid fun W hW => rising_calls _ [] f W (hh.ext hW)
 have hcl2 : Hid (∀ W, Ext w W → Calls Tryz.prog 111 #[.slice ca cs.length cc, .int .i64 q] W fun e w' => e = .returned (.bool true) ∧ Ext W w') := Lib.hid fun W hW => hri ▸ rising_calls _ cs q W (hc.ext hW)
 have d1 : decide (0 ≤ f) = true := decide_eq_true f0
 have d2 : decide (f ≤ 1099511627776) = true := decide_eq_true (by omega)
 have d3 : decide (1 ≤ q) = true := decide_eq_true q0
 have d4 : decide (q ≤ 1099511627776) = true := decide_eq_true (by omega)
 clear hri hh hc
 go_enter Tryz.func91, Tryz.ntmps91
 go_wp2_with fail
 refine (hcl1.out _ (by with_reducible repeat' (first | exact Ext.refl _ | assumption | refine Ext.drewN ?_ _ | refine Ext.drew ?_ | refine Ext.alloc ?_ _ | refine Ext.trans ?_ (by with_reducible assumption)))).mono ?_
 rintro e w1 ⟨rfl, hx1⟩
 have hB : Hid (Blk w1 w.heap.size 107 #[.slice ha 0 hcp, .int .i64 f, .int .i64 q, .slice ca cs.length cc]) := Lib.hid ((Keep.of_ext (X := fun _ => False) hx1).blk (blk_new' rfl rfl) id)
 have hE := Lib.hid (show Ext w w1 from Ext.trans (by exact (by with_reducible repeat' (first | exact Ext.refl _ | assumption | refine Ext.drewN ?_ _ | refine Ext.drew ?_ | refine Ext.alloc ?_ _ | refine Ext.trans ?_ (by with_reducible assumption)))) hx1)
 have c2 : w1.cell? ⟨w.heap.size, 2, none⟩ = some (.int .i64 q) := hB.out.cell 2
 have c3 : w1.cell? ⟨w.heap.size, 3, none⟩ = some (.slice ca cs.length cc) := hB.out.cell 3
 have l0 := hB.out.lt
 clear hx1 hcl1
 go_wp2_with fail
 refine (hcl2.out _ hE.out).mono ?_
 rintro e w2 ⟨rfl, hx2⟩
 have hE2 := Lib.hid (hE.out.trans hx2)
 clear hx2 c2 c3 l0
 go_wp2
 go_ret
 exact ⟨rfl, hE2.out⟩
/-! ### mixed.Valid -/
def Terms (w : World) (v : Value) (l : List (List PerD)) : Prop :=
 ∃ R : Nat → Value, Sl w 1 v l.length (fun i _ => R i) ∧ ∀ i, i < l.length → Pers w (R i) (l[i]?.getD default)
theorem Terms.ext {w w' : World} {v : Value} {l : List (List PerD)} (h : Terms w v l) (e : Ext w w') : Terms w' v l :=
 let ⟨S, h1, h2⟩ := h
 ⟨S, Sl.ext h1 e, fun i hi => (h2 i hi).ext e⟩
def TermsAt (a : Option Addr) (w : World) (l : List (List PerD)) : Prop :=
 ∀ i, i < l.length → ∀ W, Ext w W → ∃ b off x pa pc, a = some ⟨b, off, none⟩ ∧ b < W.heap.size ∧ Hid (l[i]? = some x) ∧ W.cell? ⟨b, off + i, none⟩ = some (.slice pa x.length pc) ∧ Pers W (.slice pa x.length pc) x
theorem Terms.open {w : World} {v : Value} {l : List (List PerD)} (h : Terms w v l) :
  ∃ a c, v = .slice a l.length c ∧ l.length ≤ c ∧ c ≤ 9223372036854775807 ∧ TermsAt a w l := by
 obtain ⟨R, h1, h2⟩ := h
 obtain ⟨a, c, hv, hn, hc, h⟩ := Sl.open h1
 refine ⟨a, c, hv, hn, hc, fun i hi W e => ?_⟩
 obtain ⟨b, off, ha, hb, h⟩ := h i hi
 obtain ⟨x, d, ex⟩ := drop_cons l i hi
 have hp := (h2 i hi).ext e
 simp only [ex, Option.getD_some] at hp
 obtain ⟨pa, pc, hP, _⟩ := Pers.open hp
 refine ⟨b, off, x, pa, pc, ha, Nat.lt_of_lt_of_le hb e.size, ex, ?_, by rw [← hP]; exact hp⟩
 have := h W e 0 (by omega)
 rw [← hP]
 simpa [ex] using this
theorem mixedValid1_calls (v : Value) (p : PerD) (w : World) (h : PerV w v p) (hok : PerOk p) :
  Calls Tryz.prog 90 #[v] w fun e w' => e = .returned (.bool false) ∧ Ext w w' := by
 have hc := Lib.hid fun (W : World) (hW : Ext w W) => perValid_calls v p W (h.ext hW) hok
 obtain ⟨hv, cv, rfl, _⟩ := h
 clear hok
 go_enter Tryz.func90, Tryz.ntmps90
 go_wp2_with fail
 refine (hc.out _ (by with_reducible repeat' (first | exact Ext.refl _ | assumption | refine Ext.drewN ?_ _ | refine Ext.drew ?_ | refine Ext.alloc ?_ _ | refine Ext.trans ?_ (by with_reducible assumption)))).mono ?_
 rintro e w1 ⟨rfl, hx1⟩
 have hE := Lib.hid (show Ext w w1 from Ext.trans (by exact (by with_reducible repeat' (first | exact Ext.refl _ | assumption | refine Ext.drewN ?_ _ | refine Ext.drew ?_ | refine Ext.alloc ?_ _ | refine Ext.trans ?_ (by with_reducible assumption)))) hx1)
 clear hx1
 go_wp2
 go_ret
 exact ⟨rfl, hE.out⟩
theorem mixedValid_calls (v : Value) (p : PerD) (w : World) (h : Terms w v [[p]]) (hok : PerOk p) :
  Calls Tryz.prog 72 #[.agg #[v]] w fun e w' => e = .returned (.bool true) ∧ Ext w w' := by
 have hT := Lib.hid h
 obtain ⟨a, c, rfl, hn, hc, hat⟩ := h.open
 have hat' := Lib.hid hat
 clear h hat
 have hg : ∀ (y : Array Value) (W : World), (callFunc 90 y).run Tryz.prog W = .ok (.enter 90 y) W := fun _ _ => by kernel_rfl
 have hcf : Hid (∀ (W : World) (pa : Option Addr) (pc : Nat), Pers W (.slice pa 1 pc) [p] → Calls Tryz.prog 89 #[.slice pa 1 pc, .func (.func 90) #[] #[]] W fun e w' => e = .returned (.bool false) ∧ Ext W w') := Lib.hid fun W pa pc hP => by
  have := containsFunc_per_calls (.slice pa 1 pc) [p] 90 hg (fun _ => false) W hP (fun s hs W' hW' v hv => by
   obtain rfl : s = p := by simpa using hs
   exact mixedValid1_calls v s W' hv hok)
  simpa using this
 clear hok hg
 go_enter Tryz.func72, Tryz.ntmps72
 go_wp2_with fail
 go_loopw [4, 12] (fun _ vi wr => ∃ i : Nat, i ≤ 1 ∧ vi = .int .i64 i ∧ Hid (Ext w wr)) (fun _ vi _ => 1 - (intOf vi).toNat)
 case atStart => exact ⟨0, by omega, rfl, Lib.hid (by exact (by with_reducible repeat' (first | exact Ext.refl _ | assumption | refine Ext.drewN ?_ _ | refine Ext.drew ?_ | refine Ext.alloc ?_ _ | refine Ext.trans ?_ (by with_reducible assumption))))⟩
 case round =>
  obtain ⟨i, hi, rfl, hx⟩ := hrel
  by_cases h1 : i < 1
  ·obtain ⟨b1, o1, x, pa, pc, rfl, hb1, ex, g0, gp⟩ := hat'.out i (by simpa using h1) wr hx.out
   obtain rfl : i = 0 := by omega
   obtain rfl : [p] = x := by simpa using ex.out
   have hP := Lib.hid gp
   clear gp ex h1
   simp only [List.length_singleton, Nat.add_zero] at g0 hP
   go_wp2_with fail
   refine (hcf.out wr pa pc hP.out).mono ?_
   rintro e w1 ⟨rfl, hx1⟩
   have hE := Lib.hid (hx.out.trans hx1)
   clear hx1
   go_wp2
   go_roundw
   case rel => first | exact ⟨1, by omega, by go_num, hE⟩ | ((repeat apply Exists.intro); exact ⟨⟨1, by omega, by go_num, hE⟩, rfl⟩)
   case measure => simp [intOf]
  ·go_wp2
   go_ret
   exact ⟨rfl, hx.out⟩
/-! ### whole days -/
theorem floorDiv_calls (x : Int) (w : World) (h0 : -9000000000000000000 ≤ x) (h1 : x ≤ 9000000000000000000) :
  Calls Tryz.prog 92 #[.int .i64 x, .int .i64 1440] w fun e w' => e = .returned (.tuple #[.int .i64 (x / 1440), .int .i64 0]) ∧ Ext w w' := by
 have e := Int.mul_tdiv_add_tmod x 1440
 have r0 : x.tmod 1440 < 1440 := Int.tmod_lt_of_pos x (by decide)
 have r1 : -1440 < x.tmod 1440 := Int.lt_tmod_of_pos x (by decide)
 obtain ⟨q, hq⟩ : ∃ q, x.tdiv 1440 = q := ⟨_, rfl⟩
 obtain ⟨r, hr⟩ : ∃ r, x.tmod 1440 = r := ⟨_, rfl⟩
 rw [hq, hr] at e
 rw [hr] at r0 r1
 have hqb : -9000000000000000 ≤ q ∧ q ≤ 9000000000000000 := by omega
 obtain ⟨hq3, hq4⟩ := hqb
 have hw : wrap64 q = q := by unfold wrap64; omega
 by_cases h : r < 0
 ·have d1 : decide (r < 0) = true := decide_eq_true h
  have hR : Hid (x / 1440 = q - 1) := Lib.hid (by omega)
  have hw2 : wrap64 (q - 1) = q - 1 := by unfold wrap64; omega
  clear e r0 r1 h h0 h1
  go_enter Tryz.func92, Tryz.ntmps92
  go_wp2
  go_ret2
  rw [hR.out]
  exact ⟨rfl, (by with_reducible repeat' (first | exact Ext.refl _ | assumption | refine Ext.drewN ?_ _ | refine Ext.drew ?_ | refine Ext.alloc ?_ _ | refine Ext.trans ?_ (by with_reducible assumption)))⟩
 ·have d1 : decide (r < 0) = false := decide_eq_false h
  have hR : Hid (x / 1440 = q) := Lib.hid (by omega)
  clear e r0 r1 h h0 h1
  go_enter Tryz.func92, Tryz.ntmps92
  go_wp2
  go_ret2
  rw [hR.out]
  exact ⟨rfl, (by with_reducible repeat' (first | exact Ext.refl _ | assumption | refine Ext.drewN ?_ _ | refine Ext.drew ?_ | refine Ext.alloc ?_ _ | refine Ext.trans ?_ (by with_reducible assumption)))⟩
theorem floor_calls (x : Int) (w : World) (h0 : -9000000000000000000 ≤ x) (h1 : x ≤ 9000000000000000000) :
  Calls Tryz.prog 74 #[.int .i64 x] w fun e w' => e = .returned (.int .i64 (x / 1440)) ∧ Ext w w' := by
 have hc := Lib.hid fun (W : World) => floorDiv_calls x W h0 h1
 obtain ⟨y, hy⟩ : ∃ y, Hid (x / 1440 = y) := ⟨_, rfl⟩
 rw [hy.out] at hc ⊢
 clear hy h0 h1
 go_enter Tryz.func74, Tryz.ntmps74
 go_wp2_with fail
 refine (hc.out _).mono ?_
 rintro e w1 ⟨rfl, hx1⟩
 have hE := Lib.hid (show Ext w w1 from Ext.trans (by exact (by with_reducible repeat' (first | exact Ext.refl _ | assumption | refine Ext.drewN ?_ _ | refine Ext.drew ?_ | refine Ext.alloc ?_ _ | refine Ext.trans ?_ (by with_reducible assumption)))) hx1)
 clear hx1
 go_wp2
 go_ret
 exact ⟨rfl, hE.out⟩
end Go.Proofs.YtepcdhpikpmepaaGreat
