/- Walks of package span: combine, Meet. -/
import Derived.Test.YtepcdhpikpmepaaGreatYDQ
namespace Go.Proofs.YtepcdhpikpmepaaGreat
open Go.RowKit

def SpansR (w : World) (B : Nat) (v : Value) (l : List (Int × Int)) : Prop := SpansF w B v l ∨ (v = .slice none 0 0 ∧ l = [])
theorem SpansR.ext {w w' : World} {B : Nat} {v : Value} {l : List (Int × Int)} (h : SpansR w B v l) (k : Ext w w') : SpansR w' B v l := h.imp (fun h => h.ext k) id
theorem SpansR.base {w : World} {B B' : Nat} {v : Value} {l : List (Int × Int)} (h : SpansR w B v l) (k : B' ≤ B) : SpansR w B' v l := h.imp (fun h => h.base k) id
theorem spans_nil (w : World) : Spans w (.slice none 0 0) [] := ⟨none, 0, rfl, Nat.le_refl _, by unfold maxLen; omega, fun h => absurd h (by simp)⟩
theorem SpansR.read {w : World} {B : Nat} {v : Value} {l : List (Int × Int)} (h : SpansR w B v l) : Spans w v l := by
 rcases h with h | ⟨rfl, rfl⟩
 ·exact h.read
 ·exact spans_nil w
def combT (k : Int) (a b : List (Int × Int)) : List (Int × Int) × Int := if rangedB a && rangedB b then (combL k a b, 0) else ([], 1)
theorem combT_ok {k : Int} {a b : List (Int × Int)} (ha : rangedB a = true) (hb : rangedB b = true) : combT k a b = (combL k a b, 0) := by simp [combT, ha, hb]
theorem combT_no {k : Int} {a b : List (Int × Int)} (h : (rangedB a && rangedB b) = false) : combT k a b = ([], 1) := by simp [combT, h]
def CombOut (k : Int) (a b : List (Int × Int)) (w : World) (e : Ending) (w' : World) : Prop :=
 ∃ v, e = .returned (.tuple #[v, .int .i64 (combT k a b).2]) ∧ SpansR w' w.heap.size v (combT k a b).1 ∧ Ext w w'
set_option maxHeartbeats 1600000 in
theorem combine_calls (va vb : Value) (a b : List (Int × Int)) (kf : Nat) (k : Int) (w : World) (hkf : KeepsB kf (inB k)) (ha : Spans w va a) (hb : Spans w vb b) (hla : a.length ≤ 100000) (hlb : b.length ≤ 100000) :
  Calls Tryz.prog 60 #[va, vb, .func (.func kf) #[] #[]] w (CombOut k a b w) := by
 have ha' := Lib.hid ha
 have hb' := Lib.hid hb
 have hk' := Lib.hid hkf
 obtain ⟨aa, ac, rfl⟩ := ha.form
 obtain ⟨ba, bc, rfl⟩ := hb.form
 clear ha hb hkf
 have h1 : Hid (∀ W, Ext w W → Calls Tryz.prog 82 #[.slice aa a.length ac] W fun e w' => e = .returned (.bool (rangedB a)) ∧ Ext W w') := Lib.hid fun W hW => ranged_calls _ a W (ha'.out.ext hW)
 have h2 : Hid (∀ W, Ext w W → Calls Tryz.prog 82 #[.slice ba b.length bc] W fun e w' => e = .returned (.bool (rangedB b)) ∧ Ext W w') := Lib.hid fun W hW => ranged_calls _ b W (hb'.out.ext hW)
 cases hra : rangedB a with
 | false =>
  have R : Hid (combT k a b = ([], 1)) := Lib.hid (combT_no (by rw [hra]; rfl))
  rw [hra] at h1
  clear hra
  go_enter Tryz.func60, Tryz.ntmps60
  go_wp2_with fail
  refine (h1.out _ (Ext.refl _)).mono ?_
  rintro e w1 ⟨rfl, hx1⟩
  go_wp2
  go_ret2
  exact ⟨_, by rw [R.out]; rfl, by rw [R.out]; exact Or.inr ⟨rfl, rfl⟩, hx1⟩
 | true =>
  cases hrb : rangedB b with
  | false =>
   have R : Hid (combT k a b = ([], 1)) := Lib.hid (combT_no (by rw [hrb, Bool.and_false]))
   rw [hra] at h1
   rw [hrb] at h2
   clear hra hrb
   go_enter Tryz.func60, Tryz.ntmps60
   go_wp2_with fail
   refine (h1.out _ (Ext.refl _)).mono ?_
   rintro e w1 ⟨rfl, hx1⟩
   go_wp2_with fail
   refine (h2.out _ hx1).mono ?_
   rintro e w2 ⟨rfl, hx2⟩
   go_wp2
   go_ret2
   exact ⟨_, by rw [R.out]; rfl, by rw [R.out]; exact Or.inr ⟨rfl, rfl⟩, hx1.trans hx2⟩
  | true =>
   have R : Hid (combT k a b = (combL k a b, 0)) := Lib.hid (combT_ok hra hrb)
   rw [hra] at h1
   rw [hrb] at h2
   clear hra hrb
   go_enter Tryz.func60, Tryz.ntmps60
   go_wp2_with fail
   refine (h1.out _ (Ext.refl _)).mono ?_
   rintro e w1 ⟨rfl, hx1⟩
   go_wp2_with fail
   refine (h2.out _ hx1).mono ?_
   rintro e w2 ⟨rfl, hx2⟩
   have hx2' := hx1.trans hx2
   go_wp2_with fail
   refine (sweep_calls _ _ a b kf k w2 hk'.out (ha'.out.ext hx2') (hb'.out.ext hx2') hla hlb).mono ?_
   rintro e w3 ⟨v, rfl, hv, hx3⟩
   have hv' := Lib.hid (hv.base hx2'.size)
   have hx3' := Lib.hid (hx2'.trans hx3)
   obtain ⟨g, c, cs, rfl, _⟩ := hv
   go_wp2
   go_ret2
   exact ⟨_, by rw [R.out]; rfl, by rw [R.out]; exact Or.inl hv'.out, hx3'.out⟩
theorem meetKeep : KeepsB 61 (inB 1) := by
 refine ⟨fun _ _ => by kernel_rfl, fun x y w => ?_⟩
 have R : Hid (inB 1 x y = (x && y)) := by show _ = _; simp [inB]
 cases x with
 | false =>
  go_enter Tryz.func61, Tryz.ntmps61
  go_wp2
  go_ret
  rw [R.out]
  exact ⟨rfl, Ext.refl _⟩
 | true =>
  go_enter Tryz.func61, Tryz.ntmps61
  go_wp2
  go_ret
  rw [R.out]
  exact ⟨rfl, Ext.refl _⟩
theorem comb_end {k : Int} {a b : List (Int × Int)} {w w' : World} {v : Value} {r1 : List (Int × Int)} {r2 : Int} (hr : combT k a b = (r1, r2)) (hv : SpansR w' w.heap.size v r1) (hx : Ext w w') : CombOut k a b w (.returned (.tuple #[v, .int .i64 r2])) w' :=
 ⟨v, by rw [hr], by rw [hr]; exact hv, hx⟩
theorem spanMeet_calls (va vb : Value) (a b : List (Int × Int)) (w : World) (ha : Spans w va a) (hb : Spans w vb b) (hla : a.length ≤ 100000) (hlb : b.length ≤ 100000) :
  Calls Tryz.prog 36 #[va, vb] w (CombOut 1 a b w) := by
 have hc := Lib.hid (combine_calls va vb a b _ 1 w meetKeep ha hb hla hlb)
 go_enter Tryz.func36, Tryz.ntmps36
 go_wp2_with fail
 refine hc.out.mono ?_
 rintro e w1 ⟨v, rfl, hv, hx1⟩
 have hv' := Lib.hid hv
 obtain ⟨A, c, rfl⟩ := hv.read.form
 clear hv hc
 obtain ⟨r, hr⟩ : ∃ r, Hid (combT 1 a b = r) := ⟨_, rfl⟩
 obtain ⟨r1, r2⟩ := r
 rw [hr.out] at hv' ⊢
 dsimp only at hv' ⊢
 go_wp2
 go_ret2
 exact comb_end hr.out hv'.out hx1
end Go.Proofs.YtepcdhpikpmepaaGreat
