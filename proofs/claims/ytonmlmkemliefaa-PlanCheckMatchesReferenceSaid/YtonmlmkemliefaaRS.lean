/- Walks of the reference of plans: Least, rest, clash. -/
import Derived.Test.YtonmlmkemliefaaRR
namespace Go.Proofs.Ytonmlmkemliefaa
open Go.RowKit

theorem leastB_first {x : WishD} {o : OptD} (h : x.opts[0]? = some o) (hb : o.harm ≤ 1000000) : leastB x = leastN (x.opts.drop 1) o.harm := by
  unfold leastB
  cases hx : x.opts with
  | nil => rw [hx] at h; simp at h
  | cons a r =>
    rw [hx] at h
    simp at h
    subst h
    show leastN r (min 1000000 a.harm) = leastN r a.harm
    rw [show min (1000000 : Int) a.harm = a.harm by omega]
set_option maxHeartbeats 1600000 in
theorem rLeast_calls (v : Value) (x : WishD) (w : World) (h : WishV w v x) (h0 : 0 < x.opts.length) (hb : ∀ o ∈ x.opts, o.harm ≤ 1000000) :
    Calls Try.prog 66 #[v] w fun e w' => e = .returned (.int .i64 (leastB x)) ∧ Ext w w' := by
  obtain ⟨pv, ov, rfl, hp, ho⟩ := h
  obtain ⟨pa, pc, rfl⟩ := hp.form
  obtain ⟨oa, oc, rfl, hn, hc, hat⟩ := ho.open
  obtain ⟨b0, o0, o, _, _, rfl, hb0, d0, e0, k1, _, _, _⟩ := hat 0 h0 w (Ext.refl w)
  rw [Nat.zero_mul, Nat.add_zero] at k1
  have hF0 := Lib.hid (leastB_first e0.out (hb o (List.mem_of_getElem? e0.out)))
  clear hp ho hb d0 e0
  go_enter Try.func66, Try.ntmps66
  go_wp2_with fail
  refine wp_abs (S := fun W => Hid (Ext w W) ∧ Hid (Blk W w.heap.size 56 #[.int .i64 x.meeting, .slice pa x.people.length pc, .slice (some ⟨b0, o0, none⟩) x.opts.length oc])) ?_ ?_
  · exact ⟨Lib.hid (by exact (by repeat' (first | (with_reducible exact Ext.refl _) | (with_reducible assumption) | (with_reducible refine Ext.drewN ?_ _) | (with_reducible refine Ext.drew ?_) | (with_reducible refine Ext.alloc ?_ _) | (with_reducible refine Ext.trans ?_ (by with_reducible assumption))))), Lib.hid (blk_new' rfl rfl)⟩
  rintro W1 ⟨hx1, hB1⟩
  clear k1 hb0
  go_loopw [3, 4] (fun vn vi wr => ∃ (i : Nat) (n : Int), i ≤ x.opts.length ∧ vi = .int .i64 i ∧ vn = .int .i64 n ∧ Hid (Ext w wr) ∧ Hid (Blk wr w.heap.size 56 #[.int .i64 x.meeting, .slice pa x.people.length pc, .slice (some ⟨b0, o0, none⟩) x.opts.length oc]) ∧ Hid (leastB x = leastN (x.opts.drop i) n)) (fun _ vi _ => x.opts.length - (intOf vi).toNat)
  case atStart => exact ⟨1, o.harm, by omega, rfl, rfl, hx1, hB1, hF0⟩
  case round =>
    clear hF0 hx1 hB1
    obtain ⟨i, n, hi, rfl, rfl, hx, hB, hF⟩ := hrel
    have c2 : wr.cell? ⟨w.heap.size, 2, none⟩ = some (.slice (some ⟨b0, o0, none⟩) x.opts.length oc) := hB.out.cell 2
    by_cases h1 : i < x.opts.length
    · obtain ⟨b1, o1, q, sa, sc, e1, hb1, dx, ex, g1, g2, g3, gs⟩ := hat i h1 wr hx.out
      cases e1
      clear gs
      have R : Hid (leastB x = leastN (x.opts.drop (i + 1)) (min n q.harm)) := by show _ = _; rw [hF.out, leastN_drop dx.out]
      clear hF
      go_wp2
      go_roundw
      case rel => exact ⟨i + 1, min n q.harm, by omega, by go_num, by rw [min_ite], hx, hB, R⟩
      case measure => simp [intOf]; omega
    · have R : Hid (leastB x = n) := by show _ = _; rw [hF.out, List.drop_of_length_le (by omega)]; rfl
      clear hF
      go_wp2
      go_ret
      rw [R.out]
      exact ⟨rfl, hx.out⟩
set_option maxHeartbeats 1600000 in
theorem rRest_calls (S : Nat) (ta : Option Addr) (tc : Nat) (B O : Int) (nv : Value) (t : List WishD) (d : Nat) (w : World) (hS : Blk w S 40 #[.slice ta t.length tc, .int .i64 B, nv, .int .i64 O]) (h : Wishes w (.slice ta t.length tc) t)
    (h0 : ∀ x ∈ t, 0 < x.opts.length) (hb : ∀ x ∈ t, ∀ o ∈ x.opts, 0 ≤ o.harm ∧ o.harm ≤ 1000000) (h512 : t.length ≤ 512) (hd : d ≤ t.length) :
    Calls Try.prog 61 #[.pointer (some ⟨S, 0, none⟩), .int .i64 (d : Int)] w fun e w' => e = .returned (.int .i64 (leastSum (t.drop d))) ∧ Ext w w' := by
  have hT := Lib.hid h
  obtain ⟨hat, _⟩ := Wishes.at_ h
  have hS' := Lib.hid hS
  have h0' := Lib.hid h0
  have hb' := Lib.hid hb
  clear h hS h0 hb
  go_enter Try.func61, Try.ntmps61
  go_wp2_with fail
  go_loopw [5, 6] (fun vn vi wr => ∃ (i : Nat) (n : Int), d ≤ i ∧ i ≤ t.length ∧ vi = .int .i64 i ∧ vn = .int .i64 n ∧ 0 ≤ n ∧ n ≤ 1000000 * (i : Int) ∧ Hid (Ext w wr) ∧ Hid (leastSum (t.drop d) = n + leastSum (t.drop i))) (fun _ vi _ => t.length - (intOf vi).toNat)
  case atStart => exact ⟨d, 0, by omega, by omega, rfl, rfl, by omega, by omega, Lib.hid (Ext.refl _), Lib.hid (by omega)⟩
  case round =>
    obtain ⟨i, n, hdi, hi, rfl, rfl, n0, n1, hx, hF⟩ := hrel
    have hBr := hS'.out.below hx.out hS'.out.lt
    have c0 : wr.cell? ⟨S, 0, none⟩ = some (.slice ta t.length tc) := hBr.cell 0
    by_cases h1 : i < t.length
    · obtain ⟨b1, o1, x, pa, pc, oa, oc, rfl, hb1, dx, ex, g1, g2, g3, gp, go⟩ := hat i h1 wr hx.out
      have hxm := List.mem_of_getElem? ex.out
      have hV : Hid (WishV wr (.agg #[.int .i64 x.meeting, .slice pa x.people.length pc, .slice oa x.opts.length oc]) x) := Lib.hid ⟨_, _, rfl, gp, go⟩
      have hlb := leastSum_bd [x] (by intro y hy; simp at hy; subst hy; exact fun o ho => (hb'.out y hxm o ho).1)
      have el : leastSum [x] = leastB x := by simp [leastSum]
      rw [el] at hlb
      obtain ⟨L, hL⟩ : ∃ L, Hid (leastB x = L) := ⟨_, rfl⟩
      rw [hL.out] at hlb
      have l0 := hlb.1
      have l1 : L ≤ 1000000 := by have := hlb.2; simpa using this
      have R : Hid (leastSum (t.drop d) = n + L + leastSum (t.drop (i + 1))) := by show _ = _; rw [hF.out, dx.out]; simp only [leastSum]; rw [hL.out]; omega
      have hx0 := h0'.out x hxm
      have hxb : ∀ o ∈ x.opts, o.harm ≤ 1000000 := fun o ho => (hb'.out x hxm o ho).2
      have hcl := Lib.hid (rLeast_calls _ x wr hV.out hx0 hxb)
      rw [hL.out] at hcl
      clear gp go hF hxb hx0 hlb el
      go_wp2_with fail
      refine hcl.out.mono ?_
      rintro e w2 ⟨rfl, hx2⟩
      have hx2' := Lib.hid (hx.out.trans hx2)
      clear hx2 hcl hV
      go_wp2
      go_roundw
      case rel => exact ⟨i + 1, n + L, by omega, by omega, by go_num, by go_num, by omega, by omega, hx2', R⟩
      case measure => simp [intOf]; omega
    · have R : Hid (leastSum (t.drop d) = n) := by show _ = _; rw [hF.out, List.drop_of_length_le (l := t) (i := i) (by omega)]; simp [leastSum]
      clear hF
      go_wp2
      go_ret
      rw [R.out]
      exact ⟨rfl, hx.out⟩

theorem findI_hit {q : Nat → Bool} {d k : Nat} (hk : k < d) (h : q k = true) (hG : ∀ j, j < k → q j = false) : findI q (List.range d) = k := by
  have : (List.range d).findIdx? q = some k := by
    rw [List.findIdx?_eq_some_iff_getElem]
    exact ⟨by simpa using hk, by simpa using h, fun j hj => by simpa using hG j hj⟩
  unfold findI
  rw [this]
theorem findI_none {q : Nat → Bool} {d : Nat} (hG : ∀ j, j < d → q j = false) : findI q (List.range d) = -1 := by
  have : (List.range d).findIdx? q = none := by
    rw [List.findIdx?_eq_none_iff]
    intro x hx
    exact hG x (by simpa using hx)
  unfold findI
  rw [this]
theorem clashT_opt {t : List WishD} {p : List Int} (hv : validT t = 0) {i d : Nat} (hne : i ≠ d) {k l : Int} (hk : p[i]? = some k) (hl : p[d]? = some l) (h1 : (optOf t p i).isSome) (h2 : (optOf t p d).isSome) :
    clashT t i k d l = clashAt t p i d := by
  obtain ⟨⟨x, o⟩, hx⟩ := Option.isSome_iff_exists.1 h1
  obtain ⟨⟨y, q⟩, hy⟩ := Option.isSome_iff_exists.1 h2
  obtain ⟨n, h1, h2, h3⟩ := optOf_spec hx
  obtain ⟨m, h4, h5, h6⟩ := optOf_spec hy
  obtain rfl : k = n := Option.some.inj (hk.symm.trans h2)
  obtain rfl : l = m := Option.some.inj (hl.symm.trans h5)
  rw [clashT_eq hv hne h1 h4 h3 h6]
  simp only [clashAt, hx, hy]
set_option maxHeartbeats 1600000 in
theorem rLast_calls (S : Nat) (ta : Option Addr) (tc : Nat) (B O : Int) (nv pv : Value) (t : List WishD) (p : List Int) (w : World) (hS : Blk w S 40 #[.slice ta t.length tc, .int .i64 B, nv, .int .i64 O]) (h : Wishes w (.slice ta t.length tc) t)
    (hp : Ints w pv p) (hv : validT t = 0) (ho : ∀ j, j < p.length → (optOf t p j).isSome) (h512 : p.length ≤ 512) :
    Calls Try.prog 60 #[.pointer (some ⟨S, 0, none⟩), pv] w fun e w' => e = .returned (.int .i64 (lastClash t p)) ∧ Ext w w' := by
  have hT := Lib.hid h
  obtain ⟨pa, pc, rfl, hpn, hpc, hpat⟩ := hp.open
  have hS' := Lib.hid hS
  have ho' := Lib.hid ho
  have hv' := Lib.hid hv
  clear h hS ho hv hp
  go_enter Try.func60, Try.ntmps60
  go_wp2_with fail
  go_loopw [6] (fun vi wr => ∃ i : Nat, i ≤ p.length ∧ vi = .int .i64 i ∧ Hid (Ext w wr) ∧ Hid (∀ j, j < i → clashAt t p j (p.length - 1) = false)) (fun vi _ => p.length - (intOf vi).toNat)
  case atStart => exact ⟨0, by omega, rfl, Lib.hid (Ext.refl _), fun j h => by omega⟩
  case round =>
    obtain ⟨i, hi, rfl, hx, hG⟩ := hrel
    by_cases h1 : i + 1 < p.length
    · have hBr := hS'.out.below hx.out hS'.out.lt
      have c0 : wr.cell? ⟨S, 0, none⟩ = some (.slice ta t.length tc) := hBr.cell 0
      obtain ⟨b1, o1, x, rfl, hb1, _, ex, k0⟩ := hpat i (by omega) wr hx.out
      obtain ⟨b2, o2, y, e2, hb2, _, ey, k1⟩ := hpat (p.length - 1) (by omega) wr hx.out
      cases e2
      have hat := Lib.hid (clashT_opt hv'.out (i := i) (d := p.length - 1) (by omega) ex.out ey.out (ho'.out i (by omega)) (ho'.out (p.length - 1) (by omega)))
      obtain ⟨z, hz⟩ : ∃ z, Hid (clashAt t p i (p.length - 1) = z) := ⟨_, rfl⟩
      have hcast : ((p.length - 1 : Nat) : Int) = (p.length : Int) - 1 := by omega
      have hcl : Hid (∀ W, Ext wr W → Calls Try.prog 48 #[.agg #[.slice ta t.length tc], .agg #[.int .i64 (i : Int), .int .i64 x], .agg #[.int .i64 ((p.length : Int) - 1), .int .i64 y]] W fun e w' => e = .returned (.bool z) ∧ Ext W w') := fun W hW => by
        have := (rMeets_calls _ t i x ((p.length - 1 : Nat) : Int) y W (hT.out.ext (hx.out.trans hW)) hv'.out)
        rw [hcast] at this
        refine this.mono ?_
        rintro e w' ⟨rfl, hh⟩
        have hat' := hat.out
        rw [hcast] at hat'
        rw [hat', hz.out]
        exact ⟨rfl, hh⟩
      clear hat hpat ex ey hcast hBr
      cases z with
      | true =>
        have R : Hid (lastClash t p = i) := by
          show _ = _
          unfold lastClash
          rw [if_neg (by omega)]
          exact findI_hit (by omega) hz.out hG.out
        clear hG hz
        go_wp2_with fail
        have z0 := After.cell c0
        have z1 := After.cell k0
        have z2 := After.cell k1
        refine wp_region_after (by kernel_rfl) (by kernel_rfl) ?_
        repeat (go_big_quiet_step (exact After.call _ (hcl.out _ (After.ext _))))
        refine wpQuiet_nil ?_
        rintro _ ⟨u, rfl⟩
        have hu := u.ext
        generalize u.world = V at hu ⊢
        clear z0 z1 z2 c0 k0 k1
        go_wp2
        go_ret
        rw [R.out]
        exact ⟨rfl, hx.out.trans hu⟩
      | false =>
        have R : Hid (∀ j, j < i + 1 → clashAt t p j (p.length - 1) = false) := fun j hj => by
          rcases Nat.lt_succ_iff_lt_or_eq.1 hj with h | rfl
          · exact hG.out j h
          · exact hz.out
        clear hG hz
        go_wp2_with fail
        have z0 := After.cell c0
        have z1 := After.cell k0
        have z2 := After.cell k1
        refine wp_region_after (by kernel_rfl) (by kernel_rfl) ?_
        repeat (go_big_quiet_step (exact After.call _ (hcl.out _ (After.ext _))))
        refine wpQuiet_nil ?_
        rintro _ ⟨u, rfl⟩
        have hu := u.ext
        generalize u.world = V at hu ⊢
        clear z0 z1 z2 c0 k0 k1
        go_wp2
        go_roundw
        case rel => exact ⟨i + 1, by omega, by go_num, Lib.hid (hx.out.trans hu), R⟩
        case measure => simp [intOf]; omega
    · have R : Hid (lastClash t p = -1) := by
        show _ = _
        unfold lastClash
        split
        · rfl
        · exact findI_none fun j hj => hG.out j (by omega)
      clear hG hpat
      go_wp2
      go_ret
      rw [R.out]
      exact ⟨rfl, hx.out⟩
end Go.Proofs.Ytonmlmkemliefaa
