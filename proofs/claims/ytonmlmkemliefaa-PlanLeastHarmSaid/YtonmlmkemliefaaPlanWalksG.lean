/- Walks of package plan: isChoice, earlier, Lawful, Harm. -/
import Derived.Test.YtonmlmkemliefaaPlanWalksF
namespace Go.Proofs.Ytonmlmkemliefaa
open Go.RowKit

theorem choiceB_len {t : List WishD} : ∀ {p : List Int}, choiceB t p = true → p.length = t.length := by
  induction t with
  | nil => intro p h; cases p with
    | nil => rfl
    | cons k p => simp [choiceB] at h
  | cons x t ih => intro p h; cases p with
    | nil => simp [choiceB] at h
    | cons k p => simp [choiceB] at h; simp [ih h.2]
theorem choiceB_ne {t : List WishD} {p : List Int} (h : p.length ≠ t.length) : choiceB t p = false := by
  cases hc : choiceB t p with
  | true => exact absurd (choiceB_len hc) h
  | false => rfl
theorem choiceB_step {t : List WishD} {p : List Int} {i : Nat} {x : WishD} {k : Int} (d : t.drop i = x :: t.drop (i + 1)) (d' : p.drop i = k :: p.drop (i + 1)) :
    choiceB (t.drop i) (p.drop i) = (idxB k x.opts.length && choiceB (t.drop (i + 1)) (p.drop (i + 1))) := by rw [d, d']; rfl

set_option maxHeartbeats 800000 in
theorem isChoice_calls (wv pv : Value) (t : List WishD) (pick : List Int) (w : World) (h : Wishes w wv t) (hp : Ints w pv pick) :
    Calls Try.prog 46 #[.agg #[wv], pv] w fun e w' => e = .returned (.bool (choiceB t pick)) ∧ Ext w w' := by
  obtain ⟨ta, tc, rfl, hn, hc, hat⟩ := h.open
  obtain ⟨pa, pc, rfl, hpn, hpc, hpat⟩ := hp.open
  clear h hp
  by_cases hl : pick.length = t.length
  · have hl' := Lib.hid hl
    have hle : pick.length ≤ t.length := by omega
    have hge : t.length ≤ pick.length := by omega
    have hb : ((pick.length : Int) != (t.length : Int)) = false := by rw [hl]; simp
    have hb2 : ((pick.length : Int) == (t.length : Int)) = true := by rw [hl]; simp
    clear hl
    go_enter Try.func46, Try.ntmps46
    go_wp2_with fail
    refine wp_abs (S := fun W => Ext w W ∧ W.cell? ⟨w.heap.size, 0, none⟩ = some (.slice ta t.length tc)) ⟨(by repeat' (first | (with_reducible exact Ext.refl _) | (with_reducible assumption) | (with_reducible refine Ext.drewN ?_ _) | (with_reducible refine Ext.drew ?_) | (with_reducible refine Ext.alloc ?_ _) | (with_reducible refine Ext.trans ?_ (by with_reducible assumption)))), by simp⟩ ?_
    rintro W1 ⟨hx1, c0⟩
    go_loopw [15] (fun vi wr => ∃ i : Nat, i ≤ t.length ∧ vi = .int .i64 i ∧ Ext W1 wr ∧ Hid (choiceB t pick = choiceB (t.drop i) (pick.drop i))) (fun vi _ => t.length - (intOf vi).toNat)
    case atStart => exact ⟨0, by omega, rfl, Ext.refl _, rfl⟩
    case round =>
      obtain ⟨i, hi, rfl, hx, hF⟩ := hrel
      have d0 := hx.cell c0
      have hxw := hx1.trans hx
      by_cases h1 : i < t.length
      · have h1' : i < pick.length := by omega
        obtain ⟨b1, o1, x, xa, xc, oa, oc, rfl, hb1, dx, ex, g1, g2, g3, gp, go⟩ := hat i h1 wr hxw
        obtain ⟨b2, o2, k, rfl, hb2, dk, ek, k1⟩ := hpat i h1' wr hxw
        have lo := go.len
        clear hat hpat gp go hb hb2
        cases hk : idxB k x.opts.length with
        | true =>
          have R : Hid (choiceB t pick = choiceB (t.drop (i + 1)) (pick.drop (i + 1))) := by show _ = _; rw [hF.out, choiceB_step dx.out dk.out, hk]; rfl
          have hk' := Lib.hid hk
          clear hF hk
          go_wp2_with fail
          refine (index_calls _ _ _).mono ?_
          rintro e w2 ⟨rfl, hx2⟩
          rw [hk'.out]
          go_wp2
          go_roundw
          case rel => exact ⟨i + 1, by omega, by go_num, hx.trans hx2, R⟩
          case measure => simp [intOf]; omega
        | false =>
          have R : Hid (choiceB t pick = false) := by show _ = _; rw [hF.out, choiceB_step dx.out dk.out, hk]; rfl
          have hk' := Lib.hid hk
          clear hF hk
          go_wp2_with fail
          refine (index_calls _ _ _).mono ?_
          rintro e w2 ⟨rfl, hx2⟩
          rw [hk'.out]
          go_wp2
          go_ret
          rw [R.out]
          exact ⟨rfl, hxw.trans hx2⟩
      · have R : Hid (choiceB t pick = true) := by show _ = _; rw [hF.out, List.drop_of_length_le (by omega), List.drop_of_length_le (by omega)]; rfl
        have h1' : ¬ i < pick.length := by omega
        clear hF hat hpat hb hb2
        go_wp2
        go_ret
        rw [R.out]
        exact ⟨rfl, hxw⟩
  · have R : Hid (choiceB t pick = false) := choiceB_ne hl
    have hb : ((pick.length : Int) != (t.length : Int)) = true := by rw [bne_iff_ne]; omega
    have hb2 : ((pick.length : Int) == (t.length : Int)) = false := by rw [beq_eq_false_iff_ne]; omega
    clear hat hpat hl
    go_enter Try.func46, Try.ntmps46
    go_wp2
    go_ret
    rw [R.out]
    exact ⟨rfl, (by repeat' (first | (with_reducible exact Ext.refl _) | (with_reducible assumption) | (with_reducible refine Ext.drewN ?_ _) | (with_reducible refine Ext.drew ?_) | (with_reducible refine Ext.alloc ?_ _) | (with_reducible refine Ext.trans ?_ (by with_reducible assumption))))⟩

/-! ### earlier -/
/-- the option that a list of picks gives a wish -/
def optOf (t : List WishD) (pick : List Int) (j : Nat) : Option (WishD × OptD) :=
  (t[j]?).bind fun x => (pick[j]?).bind fun k => if 0 ≤ k then (x.opts[k.toNat]?).map fun o => (x, o) else none
def clashAt (t : List WishD) (pick : List Int) (i d : Nat) : Bool :=
  match optOf t pick i, optOf t pick d with
  | some (x, o), some (y, p) => clashB x y o p
  | _, _ => false
def earlierI (t : List WishD) (pick : List Int) (d : Nat) : Int := findI (fun i => clashAt t pick i d) (List.range d)
theorem optOf_spec {t : List WishD} {pick : List Int} {j : Nat} {r : WishD × OptD} (h : optOf t pick j = some r) : ∃ n : Nat, t[j]? = some r.1 ∧ pick[j]? = some (n : Int) ∧ r.1.opts[n]? = some r.2 := by
  unfold optOf at h
  rw [Option.bind_eq_some_iff] at h
  obtain ⟨x, h1, h⟩ := h
  rw [Option.bind_eq_some_iff] at h
  obtain ⟨k, h2, h⟩ := h
  split at h
  · rename_i hk
    rw [Option.map_eq_some_iff] at h
    obtain ⟨o, h3, rfl⟩ := h
    exact ⟨k.toNat, h1, by rw [h2]; congr 1; omega, h3⟩
  · cases h

set_option maxHeartbeats 800000 in
theorem earlier_calls (wv pv : Value) (t : List WishD) (pick : List Int) (d : Nat) (w : World) (h : Wishes w wv t) (hp : Ints w pv pick) (ht : TaskIn t)
    (hd : ∀ j, j ≤ d → (optOf t pick j).isSome) :
    Calls Try.prog 55 #[.agg #[wv], pv, .int .i64 d] w fun e w' => e = .returned (.int .i64 (earlierI t pick d)) ∧ Ext w w' := by
  have hh := Lib.hid h
  have hdd := Lib.hid hd
  obtain ⟨ta, tc, rfl, hn, hc, hat⟩ := h.open
  obtain ⟨pa, pc, rfl, hpn, hpc, hpat⟩ := hp.open
  clear h hp hd
  obtain ⟨⟨y, p⟩, hy⟩ := Option.isSome_iff_exists.1 (hdd.out d (Nat.le_refl _))
  obtain ⟨m, hy1, hy2, hy3⟩ := optOf_spec hy
  have hyy := Lib.hid hy
  have hm1 := Lib.hid hy2
  have hm2 := Lib.hid hy3
  have hm3 := Lib.hid hy1
  have lt : d < t.length := (List.getElem?_eq_some_iff.1 hy1).1
  have lp : d < pick.length := (List.getElem?_eq_some_iff.1 hy2).1
  clear hy hy1 hy2 hy3
  dsimp only at hm2 hm3
  go_enter Try.func55, Try.ntmps55
  go_wp2_with fail
  refine wp_abs (S := fun W => Ext w W ∧ W.cell? ⟨w.heap.size, 0, none⟩ = some (.slice ta t.length tc)) ⟨(by repeat' (first | (with_reducible exact Ext.refl _) | (with_reducible assumption) | (with_reducible refine Ext.drewN ?_ _) | (with_reducible refine Ext.drew ?_) | (with_reducible refine Ext.alloc ?_ _) | (with_reducible refine Ext.trans ?_ (by with_reducible assumption)))), by simp⟩ ?_
  rintro W1 ⟨hx1, c0⟩
  go_loopw [9] (fun vi wr => ∃ i : Nat, i ≤ d ∧ vi = .int .i64 i ∧ Ext W1 wr ∧ Hid (FindAt (fun i => clashAt t pick i d) (List.range d) i)) (fun vi _ => d - (intOf vi).toNat)
  case atStart => exact ⟨0, by omega, rfl, Ext.refl _, FindAt.zero _ _⟩
  case round =>
    obtain ⟨i, hi, rfl, hx, hF⟩ := hrel
    have d0 := After.cell (hx.cell c0)
    have hxw := hx1.trans hx
    by_cases h1 : i < d
    · obtain ⟨⟨x, o⟩, hox⟩ := Option.isSome_iff_exists.1 (hdd.out i (by omega))
      obtain ⟨n, hx1', hx2', hx3'⟩ := optOf_spec hox
      dsimp only at hx1' hx3'
      have h2 : i < t.length := by omega
      have h3 : i < pick.length := by omega
      obtain ⟨b1, o1, x', xa, xc, oa, oc, rfl, hb1, dx, ex, g1, g2, g3, gp, go⟩ := hat i h2 wr hxw
      obtain ⟨b1', o1', y', xa', xc', oa', oc', e1, hb1', dy, ey, g1', g2', g3', gp', go'⟩ := hat d lt wr hxw
      cases e1
      obtain ⟨b2, o2, k, rfl, hb2, dk, ek, k1⟩ := hpat i h3 wr hxw
      obtain ⟨b2', o2', k', e2, hb2', dk', ek', k1'⟩ := hpat d lp wr hxw
      cases e2
      obtain rfl : x = x' := Option.some.inj (hx1'.symm.trans ex.out)
      obtain rfl : y = y' := Option.some.inj (hm3.out.symm.trans ey.out)
      obtain rfl : (n : Int) = k := Option.some.inj (hx2'.symm.trans ek.out)
      obtain rfl : (m : Int) = k' := Option.some.inj (hm1.out.symm.trans ek'.out)
      have q1 := After.cell g1
      have q2 := After.cell g2
      have q3 := After.cell g3
      have q1' := After.cell g1'
      have q2' := After.cell g2'
      have q3' := After.cell g3'
      have r1 := After.cell k1
      have r1' := After.cell k1'
      have hcl : Hid (∀ W, Ext wr W → Calls Try.prog 54 #[.agg #[.int .i64 x.meeting, .slice xa x.people.length xc, .slice oa x.opts.length oc], .agg #[.int .i64 y.meeting, .slice xa' y.people.length xc', .slice oa' y.opts.length oc'], .int .i64 n, .int .i64 m] W
          fun e w' => e = .returned (.bool (clashB x y o p)) ∧ Ext W w') := fun W hW =>
        clash_calls _ _ x y n m o p W ⟨_, _, rfl, gp.ext hW, go.ext hW⟩ ⟨_, _, rfl, gp'.ext hW, go'.ext hW⟩ (ht x (List.mem_of_getElem? ex.out)) (ht y (List.mem_of_getElem? ey.out)) hx3' hm2.out
      have hc : clashAt t pick i d = clashB x y o p := by simp only [clashAt, hox, hyy.out]
      have hr : (List.range d)[i]? = some i := by simp [h1]
      clear gp go gp' go' g1 g2 g3 g1' g2' g3' k1 k1' hat hpat hx1' hx2' hx3' hox dy dk dk' ek' ek
      cases hb : clashB x y o p with
      | true =>
        have R := Lib.hid (hF.out.hit hr (hc.trans hb))
        rw [hb] at hcl
        clear hb hc hr
        go_wp2_with fail
        refine wp_region_after (by kernel_rfl) (by kernel_rfl) ?_
        repeat (go_big_quiet_step (exact After.call _ (hcl.out _ (After.ext _))))
        refine wpQuiet_nil ?_
        rintro _ ⟨z, rfl⟩
        go_wp2
        go_ret
        unfold earlierI
        rw [R.out]
        exact ⟨rfl, hxw.trans z.ext⟩
      | false =>
        have R := Lib.hid (hF.out.miss hr (hc.trans hb))
        rw [hb] at hcl
        clear hb hc hr
        go_wp2_with fail
        refine wp_region_after (by kernel_rfl) (by kernel_rfl) ?_
        repeat (go_big_quiet_step (exact After.call _ (hcl.out _ (After.ext _))))
        refine wpQuiet_nil ?_
        rintro _ ⟨z, rfl⟩
        go_wp2
        go_roundw
        case rel => exact ⟨i + 1, by omega, by go_num, hx.trans z.ext, R⟩
        case measure => simp [intOf]; omega
    · have R : Hid (earlierI t pick d = -1) := hF.out.none (by simp; omega)
      clear hF hat hpat
      go_wp2
      go_ret
      rw [R.out]
      exact ⟨rfl, hxw⟩

end Go.Proofs.Ytonmlmkemliefaa
