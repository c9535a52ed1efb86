/- Walks of package carry: next, the closure of Order. -/
import Derived.Test.YtkicielleiafgaaCE
import Derived.Laws.ResultCell
namespace Go.Proofs.Ytkicielleiafgaa
open Go.RowKit

/-! ### a row of integers of the call's own, written -/
theorem IntsO.lt_ {w : World} {B g c n : Nat} {xs : List Value} {e : TypeId} {size : Nat} (h : w.ownsRow B e size (.slice (some ⟨g, 0, none⟩) n c) n xs) : B ≤ g ∧ g < w.heap.size := ⟨(h.lt g rfl).1, (h.lt g rfl).2⟩
theorem IntsO.blk {w : World} {B g c : Nat} {l : List Int} (h : IntsO w B (.slice (some ⟨g, 0, none⟩) l.length c) l) : ∃ cs, Blk w g 3 cs ∧ cs.toList.take l.length = l.map (Value.int .i64) ∧ l.length ≤ c ∧ c ≤ maxLen ∧ cs.size = c ∧ B ≤ g := by
  rcases h.2 with ⟨h', _⟩ | ⟨g', cap, cur, h', hb, hg, hn, hcap, hcs, htake⟩
  · cases h'
  · cases h'
    exact ⟨cur, hg, by simpa using htake, hn, hcap, by simpa using hcs, hb⟩
theorem IntsO.cell {w : World} {B g c : Nat} {l : List Int} (h : IntsO w B (.slice (some ⟨g, 0, none⟩) l.length c) l) {i : Nat} (hi : i < l.length) : w.cell? ⟨g, i, none⟩ = some (.int .i64 (atI l i)) := by
  obtain ⟨cs, hb, ht, hn, _, hs, _⟩ := h.blk
  rw [hb.cell]
  have := congrArg (fun x => x[i]?) ht
  simp only [List.getElem?_take, if_pos hi, List.getElem?_map, get_atI hi, Option.map_some] at this
  simpa using this
theorem IntsO.frozen {w : World} {B g c : Nat} {l : List Int} (h : IntsO w B (.slice (some ⟨g, 0, none⟩) l.length c) l) (i : Nat) : w.frozen? ⟨g, i, none⟩ = false := by
  obtain ⟨cs, hb, _⟩ := h.blk
  exact hb.frozen i
theorem IntsO.set_ {w : World} {B g c : Nat} {l : List Int} (h : IntsO w B (.slice (some ⟨g, 0, none⟩) l.length c) l) {i : Nat} (v : Int) : IntsO (w.setCell ⟨g, i, none⟩ (.int .i64 v)) B (.slice (some ⟨g, 0, none⟩) (l.set i v).length c) (l.set i v) := by
  obtain ⟨cs, hb, ht, hn, hc, hs, hB⟩ := h.blk
  have hb' := hb.set_ i (.int .i64 v)
  unfold IntsO
  rw [List.length_set]
  refine ⟨by simp, Or.inr ⟨g, c, _, rfl, hB, hb', hn, hc, by simpa using hs, ?_⟩⟩
  rw [Array.toList_setIfInBounds, Nat.mul_one, List.take_set, ht, List.map_set]
theorem IntsO.pos {w : World} {B : Nat} {v : Value} {l : List Int} (h : IntsO w B v l) (h0 : 0 < l.length) : ∃ g c, v = .slice (some ⟨g, 0, none⟩) l.length c := by
  rcases h.2 with ⟨h', hn⟩ | ⟨g', cap, cur, h', _⟩
  · omega
  · exact ⟨g', cap, h'⟩
theorem InRange.set_ {l : List Int} (h : InRange l) (i : Nat) {v : Int} (hv : -9223372036854775808 ≤ v ∧ v ≤ 9223372036854775807) : InRange (l.set i v) := fun x hx => by
  rcases List.mem_or_eq_of_mem_set hx with h1 | rfl
  · exact h x h1
  · exact hv

/-! ### the closure of Order -/
set_option maxHeartbeats 1600000 in
set_option maxRecDepth 100000 in
theorem can_calls (bs bp bt S b n : Nat) (pv : Value) (t : List WishD) (pick st : List Int) (i : Nat) (w : World) (h1 : w.cell? ⟨bs, 0, none⟩ = some (.slice (some ⟨S, 0, none⟩) n n)) (hn : n = st.length) (hS : St w S st)
    (h2 : w.cell? ⟨bp, 0, none⟩ = some pv) (hp : Ints w pv pick) (h3 : w.cell? ⟨bt, 0, none⟩ = some (.map (some b))) (hb : Tab w b t) (hr : InRange pick) (hrs : InRange st) (hl : pick.length = st.length) (hi : i < st.length) (h512 : st.length ≤ 512) :
    Calls Try.prog 48 #[.int .i64 i, .pointer (some ⟨bs, 0, none⟩), .pointer (some ⟨bp, 0, none⟩), .pointer (some ⟨bt, 0, none⟩)] w fun e w' => e = .returned (.bool (canB t pick st i)) ∧ Ext w w' := by
  subst hn
  have hS' := Lib.hid hS
  have hP := Lib.hid hp
  have hb' := Lib.hid hb
  have hr' := Lib.hid hr
  have hrs' := Lib.hid hrs
  obtain ⟨pa, pc, rfl, _, _, pat⟩ := hp.open
  obtain ⟨b2, o2, y, rfl, hb2, _, ey, g1⟩ := pat i (by omega) w (Ext.refl _)
  have ey2 : atI pick i = y := atI_some ey.out
  have hyr : -9223372036854775808 ≤ y ∧ y ≤ 9223372036854775807 := hr y (List.mem_of_getElem? ey.out)
  have g0 := hS.cell hi
  have l1 := World.block_lt_of_cell? _ _ h1
  have l2 := World.block_lt_of_cell? _ _ h2
  have l3 := World.block_lt_of_cell? _ _ h3
  have lS := hS.lt
  obtain ⟨x, hx⟩ : ∃ x, Hid (atI st i = x) := ⟨_, rfl⟩
  rw [hx.out] at g0
  clear hS hp hb hr hrs pat
  cases hxy : (x == y) with
  | true =>
    have R : Hid (canB t pick st i = false) := by
      show _ = _
      unfold canB
      rw [hx.out, ey2]
      simp at hxy
      simp [hxy]
    clear ey2 hx
    go_enter Try.func48, Try.ntmps48
    go_upto_region 1 with (fail)
    have z1 := After.cell h1
    have z2 := After.cell h2
    have z3 := After.cell g0
    have z4 := After.cell g1
    clear h1 h2 h3 g0 g1
    refine wp_region_after (by kernel_rfl) (by kernel_rfl) ?_
    repeat (go_big_quiet_step (fail))
    refine wpQuiet_nil ?_
    rintro _ ⟨u, rfl⟩
    go_wp2
    go_ret
    rw [R.out]
    exact ⟨rfl, u.ext⟩
  | false =>
    have R : Hid (canB t pick st i = quietB t (st.set i y) i) := by
      show _ = _
      unfold canB
      rw [hx.out, ey2]
      simp at hxy
      simp [hxy]
    clear hx
    go_enter Try.func48, Try.ntmps48
    go_upto_region 1 with (fail)
    have z1 := After.cell h1
    have z2 := After.cell h2
    have z3 := After.cell g0
    have z4 := After.cell g1
    clear g0 g1
    refine wp_region_after (by kernel_rfl) (by kernel_rfl) ?_
    repeat (go_big_quiet_step (fail))
    refine wpQuiet_nil ?_
    rintro _ ⟨u, rfl⟩
    have hu := Lib.hid u.ext
    generalize u.world = W at hu ⊢
    clear z1 z2 z3 z4
    have k1 := hu.out.cell h1
    have k2 := hu.out.cell h2
    clear h1 h2
    go_wp2_with fail
    refine (clone_int_calls _ st W ((hS'.out.ext hu.out).read (by unfold maxLen; omega)) (by omega)).mono ?_
    rintro e w1 ⟨v, rfl, hv, hx1⟩
    have hvO : IntsO w1 W.heap.size v st := hv
    obtain ⟨g, c, rfl⟩ := hvO.pos (by omega)
    have hbnd := IntsO.lt_ hv
    have hux := hu.out.size
    have m1 := hvO.cell hi
    have m2 := hvO.frozen i
    have c2 := hx1.cell k2
    have c3 := (hu.out.trans hx1).cell h3
    obtain ⟨b3, o3, y2, e2, hb3, _, ey3, c4⟩ := (hP.out.at_.1) i (by omega) w1 (hu.out.trans hx1)
    cases e2
    obtain rfl : y2 = y := Option.some.inj (ey3.out.symm.trans ey.out)
    have hset := Lib.hid (hvO.set_ (i := i) y2)
    have hxW := Lib.hid ((hu.out.trans hx1).setCell (p := ⟨g, i, none⟩) (by dsimp only; omega) (.int .i64 y2))
    have c3b : (w1.setCell ⟨g, i, none⟩ (.int .i64 y2)).cell? ⟨bt, 0, none⟩ = some (.map (some b)) := hxW.out.cell h3
    have hlen : (st.set i y2).length = st.length := List.length_set
    have hcall := Lib.hid (quiet_calls b _ t (st.set i y2) i _ (hb'.out.ext hxW.out) hset.out.read (hrs'.out.set_ i hyr) (by rw [hlen]; exact hi))
    rw [hlen] at hcall
    clear hv hvO hx1 hset k1 k2 h3 ey ey3 hyr
    go_wp2_with fail
    refine hcall.out.mono ?_
    rintro e w3 ⟨rfl, hx3⟩
    go_wp2
    go_ret
    rw [R.out]
    exact ⟨rfl, hxW.out.trans hx3⟩

/-! ### next -/
def nextV (s : Option StepD) : Int × Int := s.getD (0, 0)
theorem next_results {tmps : Array Value} {w : World} {g : Nat} {x y : Int} (hp : tmps.getD 6 undef = .pointer (some ⟨g, 0, none⟩)) (hb : Blk w g 42 #[.int .i64 x, .int .i64 y]) :
    (results Try.f51 tmps).run Try.prog w = .ok (.tuple #[.agg #[.int .i64 x, .int .i64 y], tmps.getD 7 undef]) w := by
  have hp' : tmps[6]?.getD undef = .pointer (some ⟨g, 0, none⟩) := by simpa using hp
  rw [results_cell_tmp Try.results51]
  simp [hp', asAddr, run_loadVar_row w g 42 42 #[.int .i64 x, .int .i64 y] (0, 0) _ hb Try.underlying42 rfl (by kernel_rfl), Result.andThen]
theorem find_hit {p : Nat → Bool} {n i : Nat} (hi : i < n) (h : p i = true) (hF : ∀ j, j < i → p j = false) : (List.range n).find? p = some i := by
  rw [List.find?_range_eq_some]
  exact ⟨h, by simpa using hi, fun j hj => by simp [hF j hj]⟩
theorem find_none {p : Nat → Bool} {n : Nat} (hF : ∀ j, j < n → p j = false) : (List.range n).find? p = none := by
  rw [List.find?_range_eq_none]
  intro i hi
  simp [hF i hi]

set_option maxHeartbeats 3200000 in
set_option maxRecDepth 100000 in
theorem next_calls (sv pv : Value) (f : Nat) (q1 q2 q3 : Value) (hg : ∀ (x : Array Value) (W : World), (callFunc f x).run Try.prog W = .ok (.enter f x) W) (t : List WishD) (pick st : List Int) (w : World) (hs : Ints w sv st) (hp : Ints w pv pick) (hl : pick.length = st.length)
    (hf : ∀ i, i < st.length → ∀ W, Ext w W → Calls Try.prog f #[.int .i64 i, q1, q2, q3] W fun e w' => e = .returned (.bool (canB t pick st i)) ∧ Ext W w') :
    Calls Try.prog 51 #[sv, pv, .func (.func f) #[] #[q1, q2, q3]] w fun e w' => e = .returned (.tuple #[.agg #[.int .i64 (nextV (goS t pick st)).1, .int .i64 (nextV (goS t pick st)).2], .bool (goS t pick st).isSome]) ∧ Ext w w' := by
  obtain ⟨sa, sc, rfl, hsn, hsc, sat⟩ := hs.open
  obtain ⟨pa, pc, rfl, hpn, hpc, pat⟩ := hp.open
  have sat' := Lib.hid sat
  have pat' := Lib.hid pat
  have hf' := Lib.hid hf
  have hl1 : pick.length ≤ st.length := Nat.le_of_eq hl
  have hl2 : st.length ≤ pick.length := Nat.le_of_eq hl.symm
  clear hs hp sat pat hf hl
  go_enter Try.func51, Try.ntmps51
  go_upto_region 1 with (fail)
  refine wp_abs (S := fun W => Hid (Ext w W) ∧ Hid (Blk W w.heap.size 42 #[.int .i64 0, .int .i64 0])) ?_ ?_
  · exact ⟨Lib.hid (by exact (by repeat' (first | (with_reducible exact Ext.refl _) | (with_reducible assumption) | (with_reducible refine Ext.drewN ?_ _) | (with_reducible refine Ext.drew ?_) | (with_reducible refine Ext.alloc ?_ _) | (with_reducible refine Ext.trans ?_ (by with_reducible assumption))))), Lib.hid (blk_new' rfl rfl)⟩
  rintro W0 ⟨hE0, hB0⟩
  (try go_step3)
  go_wp2_with fail
  go_loopw [12] (fun vi wr => ∃ i : Nat, i ≤ st.length ∧ vi = .int .i64 i ∧ Hid (Ext w wr) ∧ Hid (Blk wr w.heap.size 42 #[.int .i64 0, .int .i64 0]) ∧ Hid (∀ j, j < i → canB t pick st j = false)) (fun vi _ => st.length - (intOf vi).toNat)
  case atStart => exact ⟨0, by omega, rfl, hE0, hB0, Lib.hid (fun j h => by omega)⟩
  case round =>
    clear hE0 hB0
    obtain ⟨i, hi, rfl, hx, hB, hF⟩ := hrel
    by_cases h1 : i < st.length
    · have hcall := Lib.hid (hf'.out i h1)
      obtain ⟨z, hz⟩ : ∃ z, Hid (canB t pick st i = z) := ⟨_, rfl⟩
      rw [hz.out] at hcall
      go_wp2_with fail
      refine (hcall.out _ hx.out).mono ?_
      rintro e w1 ⟨rfl, hx1⟩
      have hx2 := Lib.hid (hx.out.trans hx1)
      have hB2 : Hid (Blk w1 w.heap.size 42 #[.int .i64 0, .int .i64 0]) := Lib.hid ((Keep.of_ext (X := fun _ => False) hx1).blk hB.out id)
      clear hx hx1 hB hcall
      cases z with
      | true =>
        have R : Hid (goS t pick st = some ((i : Int), atI pick i)) := by
          show _ = _
          unfold goS
          rw [find_hit h1 hz.out hF.out]
        obtain ⟨b2, o2, y, rfl, hb2, _, ey, g1⟩ := pat'.out i (by omega) w1 hx2.out
        rw [atI_some ey.out] at R
        have k0 : w1.cell? ⟨w.heap.size, 0, none⟩ = some (.int .i64 0) := hB2.out.cell 0
        have k1 : w1.cell? ⟨w.heap.size, 1, none⟩ = some (.int .i64 0) := hB2.out.cell 1
        have m0 := hB2.out.frozen 0
        have m1 := hB2.out.frozen 1
        have lb := hB2.out.lt
        clear hz hF ey
        go_wp2
        (try simp only [Exit.inBlock, Exit.then])
        (try rw [Exit.noGoto_ret])
        refine bodyPost_ret (next_results (x := (i : Int)) (y := y) rfl (((hB2.out.set_ 0 _).set_ 1 _))) rfl ?_
        rw [R.out]
        exact ⟨rfl, ((hx2.out.setCell (p := ⟨w.heap.size, 0, none⟩) (Nat.le_refl _) _).setCell (p := ⟨w.heap.size, 1, none⟩) (Nat.le_refl _) _)⟩
      | false =>
        have hF2 : Hid (∀ j, j < i + 1 → canB t pick st j = false) := fun j hj => by
          rcases Nat.lt_succ_iff_lt_or_eq.1 hj with h | rfl
          · exact hF.out j h
          · exact hz.out
        clear hF hz
        go_wp2
        go_roundw
        case rel => first | exact ⟨i + 1, by omega, by go_num, hx2, hB2, hF2⟩ | ((repeat apply Exists.intro); exact ⟨⟨i + 1, by omega, by go_num, hx2, hB2, hF2⟩, rfl⟩)
        case measure => simp [intOf]; omega
    · have hnone : Hid ((List.range st.length).find? (canB t pick st) = none) := find_none fun j hj => hF.out j (by omega)
      obtain ⟨wA, hwA⟩ : ∃ wA : World, Hid (wr = wA) := ⟨_, rfl⟩
      clear hF hf'
      go_wp2_with fail
      rw [hwA.out] at hx hB
      rw [hwA.out]
      clear hwA
      go_loopw [27] (fun vi wr => ∃ i : Nat, i ≤ st.length ∧ vi = .int .i64 i ∧ Hid (Ext w wr) ∧ Hid (Blk wr w.heap.size 42 #[.int .i64 0, .int .i64 0]) ∧ Hid (∀ j, j < i → parkB pick st j = false)) (fun vi _ => st.length - (intOf vi).toNat)
      case atStart => exact ⟨0, by omega, rfl, hx, hB, Lib.hid (fun j h => by omega)⟩
      case round =>
        clear hx hB
        obtain ⟨k, hk, rfl, hx, hB, hF⟩ := hrel
        by_cases h2 : k < st.length
        · obtain ⟨b1, o1, x, rfl, hb1, _, ex, g0⟩ := sat'.out k h2 wr hx.out
          obtain ⟨b2, o2, y, rfl, hb2, _, ey, g1⟩ := pat'.out k (by omega) wr hx.out
          have e1 : atI st k = x := atI_some ex.out
          have e2 : atI pick k = y := atI_some ey.out
          have hpk : Hid (parkB pick st k = (!(x == y) && !(x == -1))) := by
            show _ = _
            unfold parkB
            rw [e1, e2]
            congr 1 <;> (congr 1; exact (Bool.eq_iff_iff.2 (by simp)))
          clear e1 e2 ex ey
          cases hxy : (x == y) with
          | true =>
            have hn0 : (x != y) = false := by simp [bne, hxy]
            have hF2 : Hid (∀ j, j < k + 1 → parkB pick st j = false) := fun j hj => by
              rcases Nat.lt_succ_iff_lt_or_eq.1 hj with h | rfl
              · exact hF.out j h
              · rw [hpk.out]; simp [hxy]
            clear hF hpk
            go_upto_region 10 with (fail)
            have z1 := After.cell g0
            have z2 := After.cell g1
            clear g0 g1
            refine wp_region_after (by kernel_rfl) (by kernel_rfl) ?_
            repeat (go_big_quiet_step (fail))
            refine wpQuiet_nil ?_
            rintro _ ⟨u, rfl⟩
            have hu := Lib.hid u.ext
            generalize u.world = W at hu ⊢
            clear z1 z2
            have hxW := Lib.hid (hx.out.trans hu.out)
            have hBW : Hid (Blk W w.heap.size 42 #[.int .i64 0, .int .i64 0]) := Lib.hid ((Keep.of_ext (X := fun _ => False) hu.out).blk hB.out id)
            clear hx hB hu
            go_wp2
            go_roundw
            case rel => exact ⟨k + 1, by omega, by go_num, hxW, hBW, hF2⟩
            case measure => simp [intOf]; omega
          | false =>
            have hn0 : (x != y) = true := by simp [bne, hxy]
            cases hx1 : (x == -1) with
            | true =>
              have hn1 : (x != -1) = false := by simp [bne, hx1]
              have hF2 : Hid (∀ j, j < k + 1 → parkB pick st j = false) := fun j hj => by
                rcases Nat.lt_succ_iff_lt_or_eq.1 hj with h | rfl
                · exact hF.out j h
                · rw [hpk.out]; simp [hx1]
              clear hF hpk
              go_upto_region 10 with (fail)
              have z1 := After.cell g0
              have z2 := After.cell g1
              clear g0 g1
              refine wp_region_after (by kernel_rfl) (by kernel_rfl) ?_
              repeat (go_big_quiet_step (fail))
              refine wpQuiet_nil ?_
              rintro _ ⟨u, rfl⟩
              have hu := Lib.hid u.ext
              generalize u.world = W at hu ⊢
              clear z1 z2
              have hxW := Lib.hid (hx.out.trans hu.out)
              have hBW : Hid (Blk W w.heap.size 42 #[.int .i64 0, .int .i64 0]) := Lib.hid ((Keep.of_ext (X := fun _ => False) hu.out).blk hB.out id)
              clear hx hB hu
              go_wp2
              go_roundw
              case rel => exact ⟨k + 1, by omega, by go_num, hxW, hBW, hF2⟩
              case measure => simp [intOf]; omega
            | false =>
              have hn1 : (x != -1) = true := by simp [bne, hx1]
              have R : Hid (goS t pick st = some ((k : Int), -1)) := by
                show _ = _
                unfold goS
                rw [hnone.out, find_hit h2 (by rw [hpk.out, hxy, hx1]; rfl) hF.out]
              clear hF hpk
              go_upto_region 10 with (fail)
              have z1 := After.cell g0
              have z2 := After.cell g1
              clear g0 g1
              refine wp_region_after (by kernel_rfl) (by kernel_rfl) ?_
              repeat (go_big_quiet_step (fail))
              refine wpQuiet_nil ?_
              rintro _ ⟨u, rfl⟩
              have hu := Lib.hid u.ext
              generalize u.world = W at hu ⊢
              clear z1 z2
              have hxW := Lib.hid (hx.out.trans hu.out)
              have hBW : Hid (Blk W w.heap.size 42 #[.int .i64 0, .int .i64 0]) := Lib.hid ((Keep.of_ext (X := fun _ => False) hu.out).blk hB.out id)
              clear hx hB hu
              have k0 : W.cell? ⟨w.heap.size, 0, none⟩ = some (.int .i64 0) := hBW.out.cell 0
              have k1 : W.cell? ⟨w.heap.size, 1, none⟩ = some (.int .i64 0) := hBW.out.cell 1
              have m0 := hBW.out.frozen 0
              have m1 := hBW.out.frozen 1
              have lb := hBW.out.lt
              go_wp2
              (try simp only [Exit.inBlock, Exit.then])
              (try rw [Exit.noGoto_ret])
              refine bodyPost_ret (next_results (x := (k : Int)) (y := -1) rfl (((hBW.out.set_ 0 _).set_ 1 _))) rfl ?_
              rw [R.out]
              exact ⟨rfl, ((hxW.out.setCell (p := ⟨w.heap.size, 0, none⟩) (Nat.le_refl _) _).setCell (p := ⟨w.heap.size, 1, none⟩) (Nat.le_refl _) _)⟩
        · have R : Hid (goS t pick st = none) := by
            show _ = _
            unfold goS
            rw [hnone.out, find_none fun j hj => hF.out j (by omega)]
          have k0 : wr.cell? ⟨w.heap.size, 0, none⟩ = some (.int .i64 0) := hB.out.cell 0
          have k1 : wr.cell? ⟨w.heap.size, 1, none⟩ = some (.int .i64 0) := hB.out.cell 1
          have m0 := hB.out.frozen 0
          have m1 := hB.out.frozen 1
          have lb := hB.out.lt
          clear hF
          go_wp2
          (try simp only [Exit.inBlock, Exit.then])
          (try rw [Exit.noGoto_ret])
          refine bodyPost_ret (next_results (x := 0) (y := 0) rfl (((hB.out.set_ 0 _).set_ 1 _))) rfl ?_
          rw [R.out]
          exact ⟨rfl, ((hx.out.setCell (p := ⟨w.heap.size, 0, none⟩) (Nat.le_refl _) _).setCell (p := ⟨w.heap.size, 1, none⟩) (Nat.le_refl _) _)⟩
end Go.Proofs.Ytkicielleiafgaa
