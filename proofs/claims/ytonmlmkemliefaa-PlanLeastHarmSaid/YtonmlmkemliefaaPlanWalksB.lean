/- Walks of package plan: slices.IndexFunc, ContainsFunc at options and wishes; least; tooLarge; validWish; Valid. -/
import Derived.Test.YtonmlmkemliefaaPlanWalksA
namespace Go.Proofs.Ytonmlmkemliefaa
open Go.RowKit

set_option maxHeartbeats 400000 in
theorem indexFunc_opt_calls (va : Value) (l : List OptD) (g : Nat) (hg : ∀ (x : Array Value) (W : World), (callFunc g x).run Try.prog W = .ok (.enter g x) W) (p : OptD → Bool) (w : World) (h : Opts w va l)
    (hf : ∀ s ∈ l, ∀ W, Ext w W → ∀ v, OptV W v s → Calls Try.prog g #[v] W fun e w' => e = .returned (.bool (p s)) ∧ Ext W w') :
    Calls Try.prog 86 #[va, .func (.func g) #[] #[]] w fun e w' => e = .returned (.int .i64 (findI p l)) ∧ Ext w w' := by
  obtain ⟨a, c, rfl, hn, hc, hat⟩ := h.open
  clear h
  have hf' := Lib.hid hf
  clear hf
  go_enter Try.func86, Try.ntmps86
  go_wp2_with fail
  go_loopw [8] (fun vi wr => ∃ i : Nat, i ≤ l.length ∧ vi = .int .i64 i ∧ Ext w wr ∧ Hid (FindAt p l i)) (fun vi _ => l.length - (intOf vi).toNat)
  case atStart => exact ⟨0, by omega, rfl, Ext.refl _, FindAt.zero _ _⟩
  case round =>
    obtain ⟨i, hi, rfl, hx, hF⟩ := hrel
    by_cases h1 : i < l.length
    · obtain ⟨b1, o1, o, sa, sc, rfl, hb1, dx, ex, g1, g2, g3, gs⟩ := hat i h1 wr hx
      have hm : o ∈ l := List.mem_of_getElem? ex.out
      have hcall := Lib.hid (hf'.out o hm wr hx _ ⟨_, rfl, gs⟩)
      clear gs
      cases hp : p o with
      | true =>
        have R := Lib.hid (hF.out.hit ex.out hp)
        have hp' := Lib.hid hp
        clear hp
        go_wp2_with fail
        refine hcall.out.mono ?_
        rintro e w1 ⟨rfl, hx1⟩
        rw [hp'.out]
        go_wp2
        go_ret
        rw [R.out]
        exact ⟨rfl, hx.trans hx1⟩
      | false =>
        have R := Lib.hid (hF.out.miss ex.out hp)
        have hp' := Lib.hid hp
        clear hp
        go_wp2_with fail
        refine hcall.out.mono ?_
        rintro e w1 ⟨rfl, hx1⟩
        rw [hp'.out]
        go_wp2
        go_roundw
        case rel => exact ⟨i + 1, by omega, by go_num, hx.trans hx1, R⟩
        case measure => simp [intOf]; omega
    · have R := Lib.hid (hF.out.none (by omega))
      go_wp2
      go_ret
      rw [R.out]
      exact ⟨rfl, hx⟩

theorem containsFunc_opt_calls (va : Value) (l : List OptD) (g : Nat) (hg : ∀ (x : Array Value) (W : World), (callFunc g x).run Try.prog W = .ok (.enter g x) W) (p : OptD → Bool) (w : World) (h : Opts w va l)
    (hf : ∀ s ∈ l, ∀ W, Ext w W → ∀ v, OptV W v s → Calls Try.prog g #[v] W fun e w' => e = .returned (.bool (p s)) ∧ Ext W w') :
    Calls Try.prog 72 #[va, .func (.func g) #[] #[]] w fun e w' => e = .returned (.bool (l.any p)) ∧ Ext w w' := by
  have hc := Lib.hid (indexFunc_opt_calls va l g hg p w h hf)
  have R := Lib.hid (findI_ge p l)
  clear hf h
  go_enter Try.func72, Try.ntmps72
  go_wp2_with fail
  refine hc.out.mono ?_
  rintro e w1 ⟨rfl, hx1⟩
  go_wp2
  go_ret
  rw [R.out]
  exact ⟨rfl, hx1⟩

set_option maxHeartbeats 400000 in
theorem indexFunc_wish_calls (va : Value) (l : List WishD) (g : Nat) (hg : ∀ (x : Array Value) (W : World), (callFunc g x).run Try.prog W = .ok (.enter g x) W) (p : WishD → Bool) (w : World) (h : Wishes w va l)
    (hf : ∀ s ∈ l, ∀ W, Ext w W → ∀ v, WishV W v s → Calls Try.prog g #[v] W fun e w' => e = .returned (.bool (p s)) ∧ Ext W w') :
    Calls Try.prog 85 #[va, .func (.func g) #[] #[]] w fun e w' => e = .returned (.int .i64 (findI p l)) ∧ Ext w w' := by
  obtain ⟨a, c, rfl, hn, hc, hat⟩ := h.open
  clear h
  have hf' := Lib.hid hf
  clear hf
  go_enter Try.func85, Try.ntmps85
  go_wp2_with fail
  go_loopw [8] (fun vi wr => ∃ i : Nat, i ≤ l.length ∧ vi = .int .i64 i ∧ Ext w wr ∧ Hid (FindAt p l i)) (fun vi _ => l.length - (intOf vi).toNat)
  case atStart => exact ⟨0, by omega, rfl, Ext.refl _, FindAt.zero _ _⟩
  case round =>
    obtain ⟨i, hi, rfl, hx, hF⟩ := hrel
    by_cases h1 : i < l.length
    · obtain ⟨b1, o1, o, pa, pc, oa, oc, rfl, hb1, dx, ex, g1, g2, g3, gp, gs⟩ := hat i h1 wr hx
      have hm : o ∈ l := List.mem_of_getElem? ex.out
      have hcall := Lib.hid (hf'.out o hm wr hx _ ⟨_, _, rfl, gp, gs⟩)
      clear gs gp
      cases hp : p o with
      | true =>
        have R := Lib.hid (hF.out.hit ex.out hp)
        have hp' := Lib.hid hp
        clear hp
        go_wp2_with fail
        refine hcall.out.mono ?_
        rintro e w1 ⟨rfl, hx1⟩
        rw [hp'.out]
        go_wp2
        go_ret
        rw [R.out]
        exact ⟨rfl, hx.trans hx1⟩
      | false =>
        have R := Lib.hid (hF.out.miss ex.out hp)
        have hp' := Lib.hid hp
        clear hp
        go_wp2_with fail
        refine hcall.out.mono ?_
        rintro e w1 ⟨rfl, hx1⟩
        rw [hp'.out]
        go_wp2
        go_roundw
        case rel => exact ⟨i + 1, by omega, by go_num, hx.trans hx1, R⟩
        case measure => simp [intOf]; omega
    · have R := Lib.hid (hF.out.none (by omega))
      go_wp2
      go_ret
      rw [R.out]
      exact ⟨rfl, hx⟩

theorem containsFunc_wish_calls (va : Value) (l : List WishD) (g : Nat) (hg : ∀ (x : Array Value) (W : World), (callFunc g x).run Try.prog W = .ok (.enter g x) W) (p : WishD → Bool) (w : World) (h : Wishes w va l)
    (hf : ∀ s ∈ l, ∀ W, Ext w W → ∀ v, WishV W v s → Calls Try.prog g #[v] W fun e w' => e = .returned (.bool (p s)) ∧ Ext W w') :
    Calls Try.prog 70 #[va, .func (.func g) #[] #[]] w fun e w' => e = .returned (.bool (l.any p)) ∧ Ext w w' := by
  have hc := Lib.hid (indexFunc_wish_calls va l g hg p w h hf)
  have R := Lib.hid (findI_ge p l)
  clear hf h
  go_enter Try.func70, Try.ntmps70
  go_wp2_with fail
  refine hc.out.mono ?_
  rintro e w1 ⟨rfl, hx1⟩
  go_wp2
  go_ret
  rw [R.out]
  exact ⟨rfl, hx1⟩

/-! ### too large -/
def bigWishB (x : WishD) : Bool := decide (16 < x.opts.length) || decide (64 < x.people.length) || x.opts.any fun o => decide (64 < o.spans.length)

theorem tooLarge1_calls (v : Value) (x : WishD) (w : World) (h : WishV w v x) :
    Calls Try.prog 71 #[v] w fun e w' => e = .returned (.bool (bigWishB x)) ∧ Ext w w' := by
  obtain ⟨pv, ov, rfl, hp, ho⟩ := h
  obtain ⟨pa, pc, rfl⟩ := hp.form
  obtain ⟨oa, oc, rfl⟩ := ho.form
  have lp := hp.len
  have lo := ho.len
  have hcall : Hid (∀ W, Ext w W → Calls Try.prog 72 #[.slice oa x.opts.length oc, .func (.func 73) #[] #[]] W fun e w' => e = .returned (.bool (x.opts.any fun o => decide (64 < o.spans.length))) ∧ Ext W w') :=
    fun W hW => containsFunc_opt_calls _ _ _ (fun _ _ => by kernel_rfl) _ _ (ho.ext hW) (fun s _ W _ v hv => tooLarge11_calls v s W hv)
  clear hp ho
  by_cases h1 : 16 < x.opts.length
  · have R : Hid (bigWishB x = true) := by show _ = _; simp [bigWishB, h1]
    go_enter Try.func71, Try.ntmps71
    go_wp2
    go_ret
    rw [R.out]
    exact ⟨rfl, (by repeat' (first | (with_reducible exact Ext.refl _) | (with_reducible assumption) | (with_reducible refine Ext.drewN ?_ _) | (with_reducible refine Ext.drew ?_) | (with_reducible refine Ext.alloc ?_ _) | (with_reducible refine Ext.trans ?_ (by with_reducible assumption))))⟩
  · by_cases h2 : 64 < x.people.length
    · have R : Hid (bigWishB x = true) := by show _ = _; simp [bigWishB, h2]
      go_enter Try.func71, Try.ntmps71
      go_wp2
      go_ret
      rw [R.out]
      exact ⟨rfl, (by repeat' (first | (with_reducible exact Ext.refl _) | (with_reducible assumption) | (with_reducible refine Ext.drewN ?_ _) | (with_reducible refine Ext.drew ?_) | (with_reducible refine Ext.alloc ?_ _) | (with_reducible refine Ext.trans ?_ (by with_reducible assumption))))⟩
    · have R : Hid ((x.opts.any fun o => decide (64 < o.spans.length)) = bigWishB x) := by show _ = _; simp [bigWishB, h1, h2]
      have d1 : decide ((16 : Int) < (x.opts.length : Int)) = false := by simp; omega
      have d2 : decide ((64 : Int) < (x.people.length : Int)) = false := by simp; omega
      go_enter Try.func71, Try.ntmps71
      go_wp2_with fail
      refine (hcall.out _ (by repeat' (first | (with_reducible exact Ext.refl _) | (with_reducible assumption) | (with_reducible refine Ext.drewN ?_ _) | (with_reducible refine Ext.drew ?_) | (with_reducible refine Ext.alloc ?_ _) | (with_reducible refine Ext.trans ?_ (by with_reducible assumption))))).mono ?_
      rintro e w1 ⟨rfl, hx⟩
      rw [R.out]
      go_wp2
      go_ret
      exact ⟨rfl, ((Ext.refl _).alloc _).trans hx⟩

theorem tooLarge_calls (wv : Value) (t : List WishD) (w : World) (h : Wishes w wv t) :
    Calls Try.prog 49 #[.agg #[wv]] w fun e w' => e = .returned (.bool (tooLargeB t)) ∧ Ext w w' := by
  obtain ⟨a, c, rfl⟩ := h.form
  have lt := h.len
  have hcall : Hid (∀ W, Ext w W → Calls Try.prog 70 #[.slice a t.length c, .func (.func 71) #[] #[]] W fun e w' => e = .returned (.bool (t.any bigWishB)) ∧ Ext W w') :=
    fun W hW => containsFunc_wish_calls _ _ _ (fun _ _ => by kernel_rfl) _ _ (h.ext hW) (fun s _ W _ v hv => tooLarge1_calls v s W hv)
  clear h
  by_cases h1 : 512 < t.length
  · have R : Hid (tooLargeB t = true) := by show _ = _; simp [tooLargeB, h1]
    go_enter Try.func49, Try.ntmps49
    go_wp2
    go_ret
    rw [R.out]
    exact ⟨rfl, (by repeat' (first | (with_reducible exact Ext.refl _) | (with_reducible assumption) | (with_reducible refine Ext.drewN ?_ _) | (with_reducible refine Ext.drew ?_) | (with_reducible refine Ext.alloc ?_ _) | (with_reducible refine Ext.trans ?_ (by with_reducible assumption))))⟩
  · have R : Hid (t.any bigWishB = tooLargeB t) := by show _ = _; simp only [tooLargeB, h1]; rfl
    have d1 : decide ((512 : Int) < (t.length : Int)) = false := by simp; omega
    go_enter Try.func49, Try.ntmps49
    go_wp2_with fail
    refine (hcall.out _ (by repeat' (first | (with_reducible exact Ext.refl _) | (with_reducible assumption) | (with_reducible refine Ext.drewN ?_ _) | (with_reducible refine Ext.drew ?_) | (with_reducible refine Ext.alloc ?_ _) | (with_reducible refine Ext.trans ?_ (by with_reducible assumption))))).mono ?_
    rintro e w1 ⟨rfl, hx⟩
    rw [R.out]
    go_wp2
    go_ret
    exact ⟨rfl, ((Ext.refl _).alloc _).trans hx⟩

/-! ### least -/
theorem min_ite (n h : Int) : (if h < n then h else n) = min n h := by rw [Int.min_def]; split <;> split <;> omega
theorem leastN_drop {l : List OptD} {i : Nat} {o : OptD} (d : l.drop i = o :: l.drop (i + 1)) (n : Int) : leastN (l.drop i) n = leastN (l.drop (i + 1)) (min n o.harm) := by
  rw [d]; rfl

set_option maxHeartbeats 400000 in
theorem least_calls (v : Value) (x : WishD) (w : World) (h : WishV w v x) :
    Calls Try.prog 42 #[v] w fun e w' => e = .returned (.int .i64 (leastB x)) ∧ Ext w w' := by
  obtain ⟨pv, ov, rfl, hp, ho⟩ := h
  obtain ⟨pa, pc, rfl⟩ := hp.form
  obtain ⟨oa, oc, rfl, hn, hc, hat⟩ := ho.open
  clear hp ho
  go_enter Try.func42, Try.ntmps42
  go_wp2_with fail
  go_loopw [3, 9] (fun vn vi wr => ∃ (i : Nat) (n : Int), i ≤ x.opts.length ∧ vi = .int .i64 i ∧ vn = .int .i64 n ∧ Ext w wr ∧ Hid (leastB x = leastN (x.opts.drop i) n)) (fun _ vi _ => x.opts.length - (intOf vi).toNat)
  case atStart => exact ⟨0, 1000000, by omega, rfl, rfl, (by repeat' (first | (with_reducible exact Ext.refl _) | (with_reducible assumption) | (with_reducible refine Ext.drewN ?_ _) | (with_reducible refine Ext.drew ?_) | (with_reducible refine Ext.alloc ?_ _) | (with_reducible refine Ext.trans ?_ (by with_reducible assumption)))), rfl⟩
  case round =>
    obtain ⟨i, n, hi, rfl, rfl, hx, hF⟩ := hrel
    by_cases h1 : i < x.opts.length
    · obtain ⟨b1, o1, o, sa, sc, rfl, hb1, dx, ex, g1, g2, g3, gs⟩ := hat i h1 wr hx
      clear gs
      have R : Hid (leastB x = leastN (x.opts.drop (i + 1)) (min n o.harm)) := by show _ = _; rw [hF.out, leastN_drop dx.out]
      clear hF
      go_wp2
      go_roundw
      case rel => exact ⟨i + 1, min n o.harm, by omega, by go_num, by rw [min_ite], (by repeat' (first | (with_reducible exact Ext.refl _) | (with_reducible assumption) | (with_reducible refine Ext.drewN ?_ _) | (with_reducible refine Ext.drew ?_) | (with_reducible refine Ext.alloc ?_ _) | (with_reducible refine Ext.trans ?_ (by with_reducible assumption)))), R⟩
      case measure => simp [intOf]; omega
    · have R : Hid (leastB x = n) := by show _ = _; rw [hF.out, List.drop_of_length_le (by omega)]; rfl
      clear hF
      go_wp2
      go_ret
      rw [R.out]
      exact ⟨rfl, hx⟩

end Go.Proofs.Ytonmlmkemliefaa
