/- Walk of package carry: clashes, the table of a task. -/
import Derived.Test.YtkicielleiafgaaCD
namespace Go.Proofs.Ytkicielleiafgaa
open Go.RowKit

/-- the table as far as it is filled: where D holds -/
def PartT (w : World) (B : Nat) (t : List WishD) (D : Nat → Nat → Nat → Nat → Prop) : Prop :=
  ∃ S m, Flags w B m S ∧ (∀ q, S q = true → tabB t q = true) ∧ ∀ a i b k : Nat, D a i b k → clashT t a i b k = true → S ((a : Int), (i : Int), (b : Int), (k : Int)) = true ∧ S ((b : Int), (k : Int), (a : Int), (i : Int)) = true
theorem PartT.ext {w w' : World} {B : Nat} {t : List WishD} {D : Nat → Nat → Nat → Nat → Prop} (h : PartT w B t D) (e : Ext w w') : PartT w' B t D := by
  obtain ⟨S, m, h1, h2⟩ := h
  exact ⟨S, m, h1.ext e, h2⟩
theorem PartT.turn {w : World} {B : Nat} {t : List WishD} {D D' : Nat → Nat → Nat → Nat → Prop} (h : PartT w B t D) (hD : ∀ a i b k : Nat, clashT t a i b k = true → D' a i b k → D a i b k) : PartT w B t D' := by
  obtain ⟨S, m, h1, h2, h3⟩ := h
  exact ⟨S, m, h1, h2, fun a i b k d c => h3 a i b k (hD a i b k c d) c⟩
theorem clashT_in {t : List WishD} {a i b k : Int} (h : clashT t a i b k = true) : a ≠ b ∧ ∃ n m p q : Nat, a = n ∧ i = m ∧ b = p ∧ k = q ∧ n < t.length ∧ p < t.length ∧ m < (t[n]?.getD default).opts.length ∧ q < (t[p]?.getD default).opts.length := by
  have hne : a ≠ b := fun e => by rw [e, clashT_same] at h; cases h
  refine ⟨hne, ?_⟩
  have ha : idxB a t.length = true := by
    cases hc : idxB a t.length with
    | true => rfl
    | false => rw [clashT_a hc] at h; cases h
  have hb : idxB b t.length = true := by
    cases hc : idxB b t.length with
    | true => rfl
    | false => rw [clashT_b hc] at h; cases h
  obtain ⟨n, rfl, hn⟩ := idxB_nat ha
  obtain ⟨p, rfl, hp⟩ := idxB_nat hb
  have hx : t[n]? = some t[n] := by simp [hn]
  have hy : t[p]? = some t[p] := by simp [hp]
  have hi : idxB i t[n].opts.length = true := by
    cases hc : idxB i t[n].opts.length with
    | true => rfl
    | false => rw [clashT_i hx hc] at h; cases h
  have hk : idxB k t[p].opts.length = true := by
    cases hc : idxB k t[p].opts.length with
    | true => rfl
    | false => rw [clashT_k hy hc] at h; cases h
  obtain ⟨m, rfl, hm⟩ := idxB_nat hi
  obtain ⟨q, rfl, hq⟩ := idxB_nat hk
  exact ⟨n, m, p, q, rfl, rfl, rfl, rfl, hn, hp, by rw [hx]; exact hm, by rw [hy]; exact hq⟩
theorem clashT_lt {t : List WishD} {a i b k : Nat} (h : clashT t a i b k = true) : i < (t[a]?.getD default).opts.length ∧ k < (t[b]?.getD default).opts.length := by
  obtain ⟨_, n, m, p, q, e1, e2, e3, e4, _, _, h1, h2⟩ := clashT_in h
  obtain rfl : a = n := by omega
  obtain rfl : i = m := by omega
  obtain rfl : b = p := by omega
  obtain rfl : k = q := by omega
  exact ⟨h1, h2⟩
theorem PartT.all {w : World} {B : Nat} {t : List WishD} (h : PartT w B t fun a _ b _ => b < a) : Tab w B t := by
  obtain ⟨S, m, h1, h2, h3⟩ := h
  refine ⟨m, h1.same fun q _ => ?_⟩
  rw [Bool.eq_iff_iff]
  refine ⟨h2 q, fun hc => ?_⟩
  obtain ⟨a, i, b, k⟩ := q
  have hc' : clashT t a i b k = true := hc
  obtain ⟨hne, n, m, p, q, rfl, rfl, rfl, rfl, _⟩ := clashT_in hc'
  rcases Nat.lt_trichotomy p n with e | e | e
  · exact (h3 n m p q e hc').1
  · omega
  · rw [clashT_comm] at hc'
    exact (h3 p q n m e hc').2
theorem PartT.begin (w : World) (t : List WishD) {D : Nat → Nat → Nat → Nat → Prop} (hD : ∀ a i b k, ¬ D a i b k) : PartT (w.alloc (.map #[] 0)) w.heap.size t D :=
  ⟨_, _, Flags.new w, fun _ h => (by cases h), fun a i b k d => (hD a i b k d).elim⟩
/-- both entries of a clash are stored -/
theorem PartT.put {w : World} {B : Nat} {t : List WishD} {D : Nat → Nat → Nat → Nat → Prop} (h : PartT w B t D) {a i b k : Nat} (hc : clashT t a i b k = true) (f1 : Fits ((a : Int), (i : Int), (b : Int), (k : Int))) :
    ∃ w1 w2, (Instr.mapUpdate 99 (.map (some B)) (.agg #[.int .i64 a, .int .i64 i, .int .i64 b, .int .i64 k]) (.bool true)).run Try.prog w = .ok () w1 ∧
      (Instr.mapUpdate 99 (.map (some B)) (.agg #[.int .i64 b, .int .i64 k, .int .i64 a, .int .i64 i]) (.bool true)).run Try.prog w1 = .ok () w2 ∧
      w.grownBy w1 (some B) ∧ w1.grownBy w2 (some B) ∧ PartT w2 B t fun a' i' b' k' => D a' i' b' k' ∨ (a' = a ∧ i' = i ∧ b' = b ∧ k' = k) := by
  obtain ⟨S, m, h1, h2, h3⟩ := h
  have f2 : Fits ((b : Int), (k : Int), (a : Int), (i : Int)) := ⟨f1.2.2.1, f1.2.2.2, f1.1, f1.2.1⟩
  obtain ⟨w1, r1, g1, k1⟩ := h1.put f1
  obtain ⟨w2, r2, g2, k2⟩ := g1.put f2
  simp only [fourV] at r1 r2
  refine ⟨w1, w2, r1, r2, k1, k2, _, _, g2, fun q hq => ?_, fun a' i' b' k' d c => ?_⟩
  · simp only [Bool.or_eq_true, decide_eq_true_eq] at hq
    rcases hq with (hq | rfl) | rfl
    · exact h2 q hq
    · exact hc
    · show clashT t _ _ _ _ = true
      rw [clashT_comm]; exact hc
  · rcases d with d | ⟨rfl, rfl, rfl, rfl⟩
    · obtain ⟨s1, s2⟩ := h3 a' i' b' k' d c
      simp [s1, s2]
    · simp

set_option maxHeartbeats 3200000 in
set_option maxRecDepth 100000 in
theorem clashes_calls (wv : Value) (t : List WishD) (w : World) (h : Wishes w wv t) (hv : validT t = 0) :
    Calls Try.prog 47 #[.agg #[wv]] w fun e w' => ∃ b, e = .returned (.map (some b)) ∧ Tab w' b t ∧ w.heap.size ≤ b ∧ Ext w w' := by
  have hT := Lib.hid h
  obtain ⟨ta, tc, rfl, hn, hcc, wat⟩ := h.open
  have wat' := Lib.hid wat
  obtain ⟨ht0, ht1⟩ := stepsT_bd hv
  obtain ⟨b1, o1, _, _, _, _, _, rfl, hb1, _⟩ := wat 0 ht0 w (Ext.refl _)
  clear h wat hv
  have hmm := @run_makeMap Try.prog
  go_enter Try.func47, Try.ntmps47
  go_upto_region 3 with (fail)
  refine wp_abs (S := fun W => Hid (Ext w W) ∧ Hid (Blk W w.heap.size 27 #[.slice (some ⟨b1, o1, none⟩) t.length tc]) ∧ Hid (PartT W (w.heap.size + 1) t fun a _ b _ => a < 0 ∧ b < a)) ?_ ?_
  · exact ⟨Lib.hid (by exact (by repeat' (first | (with_reducible exact Ext.refl _) | (with_reducible assumption) | (with_reducible refine Ext.drewN ?_ _) | (with_reducible refine Ext.drew ?_) | (with_reducible refine Ext.alloc ?_ _) | (with_reducible refine Ext.trans ?_ (by with_reducible assumption))))), Lib.hid ((blk_new' rfl rfl).alloc _), Lib.hid (by have := PartT.begin (w.alloc (.cells #[.slice (some ⟨b1, o1, none⟩) t.length tc] 27)) t (D := fun a _ b _ => a < 0 ∧ b < a) (fun a _ _ _ h => by omega); rwa [World.size_alloc] at this)⟩
  rintro W ⟨hx0, hB0, hP0⟩
  clear hmm
  go_loopw [12] (fun va wr => ∃ a : Nat, a ≤ t.length ∧ va = .int .i64 a ∧ Hid (Ext w wr) ∧ Hid (Blk wr w.heap.size 27 #[.slice (some ⟨b1, o1, none⟩) t.length tc]) ∧ Hid (PartT wr (w.heap.size + 1) t fun a' _ b _ => a' < a ∧ b < a')) (fun va _ => t.length - (intOf va).toNat)
  case atStart => exact ⟨0, by omega, rfl, hx0, hB0, hP0⟩
  case round =>
    clear hx0 hB0 hP0
    obtain ⟨a, ha, rfl, hx1, hB1, hP1⟩ := hrel
    by_cases q1 : a < t.length
    · obtain ⟨wA, hwA⟩ : ∃ wA : World, Hid (wr = wA) := ⟨_, rfl⟩
      go_wp2_with fail
      rw [hwA.out] at hx1 hB1 hP1
      rw [hwA.out]
      clear hwA
      go_loopw [16] (fun vb wr => ∃ b : Nat, b ≤ a ∧ vb = .int .i64 b ∧ Hid (Ext w wr) ∧ Hid (Blk wr w.heap.size 27 #[.slice (some ⟨b1, o1, none⟩) t.length tc]) ∧ Hid (PartT wr (w.heap.size + 1) t fun a' _ b' _ => (a' < a ∧ b' < a') ∨ (a' = a ∧ b' < b))) (fun vb _ => a - (intOf vb).toNat)
      case atStart => exact ⟨0, by omega, rfl, hx1, hB1, Lib.hid (hP1.out.turn fun a' i b k _ d => by omega)⟩
      case round =>
        clear hx1 hB1 hP1
        obtain ⟨b, hb, rfl, hx2, hB2, hP2⟩ := hrel
        by_cases q2 : b < a
        · obtain ⟨b2, o2, x, _, _, oa, oc, e1, _, _, ex, _, _, gx, _⟩ := wat'.out a q1 wr hx2.out
          cases e1
          have hlx : x.opts.length ≤ 9223372036854775807 := by
            obtain ⟨_, _, _, _, _, _, _, _, _, _, ex2, _, _, _, _, go⟩ := wat'.out a q1 w (Ext.refl _)
            obtain rfl := Option.some.inj (ex.out.symm.trans ex2.out)
            exact go.len
          have hgx : Hid ((t[a]?.getD default).opts.length = x.opts.length) := by show _ = _; rw [ex.out]; rfl
          have c2 : wr.cell? ⟨w.heap.size, 0, none⟩ = some (.slice (some ⟨b1, o1, none⟩) t.length tc) := hB2.out.cell 0
          have hblt := hB2.out.lt
          obtain ⟨wB, hwB⟩ : ∃ wB : World, Hid (wr = wB) := ⟨_, rfl⟩
          go_wp2_with fail
          rw [hwB.out] at hx2 hB2 hP2
          rw [hwB.out]
          clear hwB c2 gx
          go_loopw [26] (fun vi wr => ∃ i : Nat, i ≤ x.opts.length ∧ vi = .int .i64 i ∧ Hid (Ext w wr) ∧ Hid (Blk wr w.heap.size 27 #[.slice (some ⟨b1, o1, none⟩) t.length tc]) ∧ Hid (PartT wr (w.heap.size + 1) t fun a' i' b' _ => (a' < a ∧ b' < a') ∨ (a' = a ∧ b' < b) ∨ (a' = a ∧ b' = b ∧ i' < i))) (fun vi _ => x.opts.length - (intOf vi).toNat)
          case atStart => exact ⟨0, by omega, rfl, hx2, hB2, Lib.hid (hP2.out.turn fun a' i b k _ d => by omega)⟩
          case round =>
            clear hx2 hB2 hP2
            obtain ⟨i, hi, rfl, hx3, hB3, hP3⟩ := hrel
            by_cases q3 : i < x.opts.length
            · obtain ⟨b3, o3, y, _, _, pa, pc, e1, _, _, ey, _, _, gy, _⟩ := wat'.out b (by omega) wr hx3.out
              cases e1
              have hly : y.opts.length ≤ 9223372036854775807 := by
                obtain ⟨_, _, _, _, _, _, _, _, _, _, ey2, _, _, _, _, go⟩ := wat'.out b (by omega) w (Ext.refl _)
                obtain rfl := Option.some.inj (ey.out.symm.trans ey2.out)
                exact go.len
              have hgy : Hid ((t[b]?.getD default).opts.length = y.opts.length) := by show _ = _; rw [ey.out]; rfl
              have c3 : wr.cell? ⟨w.heap.size, 0, none⟩ = some (.slice (some ⟨b1, o1, none⟩) t.length tc) := hB3.out.cell 0
              have hblt3 := hB3.out.lt
              obtain ⟨wC, hwC⟩ : ∃ wC : World, Hid (wr = wC) := ⟨_, rfl⟩
              go_wp2_with fail
              rw [hwC.out] at hx3 hB3 hP3
              rw [hwC.out]
              clear hwC c3 gy
              go_loopw [36] (fun vk wr => ∃ k : Nat, k ≤ y.opts.length ∧ vk = .int .i64 k ∧ Hid (Ext w wr) ∧ Hid (Blk wr w.heap.size 27 #[.slice (some ⟨b1, o1, none⟩) t.length tc]) ∧ Hid (PartT wr (w.heap.size + 1) t fun a' i' b' k' => (a' < a ∧ b' < a') ∨ (a' = a ∧ b' < b) ∨ (a' = a ∧ b' = b ∧ i' < i) ∨ (a' = a ∧ b' = b ∧ i' = i ∧ k' < k))) (fun vk _ => y.opts.length - (intOf vk).toNat)
              case atStart => exact ⟨0, by omega, rfl, hx3, hB3, Lib.hid (hP3.out.turn fun a' i b k _ d => by omega)⟩
              case round =>
                clear hx3 hB3 hP3
                obtain ⟨k, hk, rfl, hx4, hB4, hP4⟩ := hrel
                by_cases q4 : k < y.opts.length
                · have c4 : wr.cell? ⟨w.heap.size, 0, none⟩ = some (.slice (some ⟨b1, o1, none⟩) t.length tc) := hB4.out.cell 0
                  have hblt4 := hB4.out.lt
                  obtain ⟨z, hz⟩ : ∃ z, Hid (clashT t a i b k = z) := ⟨_, rfl⟩
                  have hcl : Hid (Calls Try.prog 20 #[.agg #[.slice (some ⟨b1, o1, none⟩) t.length tc], .int .i64 a, .int .i64 i, .int .i64 b, .int .i64 k] wr fun e w' => e = .returned (.bool z) ∧ Ext wr w') := hz.out ▸ clashP_calls _ t a i b k wr (hT.out.ext hx4.out)
                  go_wp2_with fail
                  refine hcl.out.mono ?_
                  rintro e w3 ⟨rfl, hx5⟩
                  have hx6 := Lib.hid (hx4.out.trans hx5)
                  have hB6 : Hid (Blk w3 w.heap.size 27 #[.slice (some ⟨b1, o1, none⟩) t.length tc]) := Lib.hid ((Keep.of_ext (X := fun _ => False) hx5).blk hB4.out id)
                  have hP6 := Lib.hid (hP4.out.ext hx5)
                  clear hx4 hB4 hP4 hx5 c4 hcl hblt4
                  cases z with
                  | true =>
                    have hxs := hx6.out.size
                    obtain ⟨w4, w5, r1, r2, g1, g2, hPn⟩ := hP6.out.put hz.out ⟨wf_nat (by omega), wf_nat (by omega), wf_nat (by omega), wf_nat (by omega)⟩
                    have hx7 := Lib.hid ((hx6.out.grown g1 (fun j e => by cases e; omega)).grown g2 (fun j e => by cases e; omega))
                    have hB7 := Lib.hid ((hB6.out.grown g1 (fun e => by simp at e)).grown g2 (fun e => by simp at e))
                    have hP7 := Lib.hid (hPn.turn (D' := fun a' i' b' k' => (a' < a ∧ b' < a') ∨ (a' = a ∧ b' < b) ∨ (a' = a ∧ b' = b ∧ i' < i) ∨ (a' = a ∧ b' = b ∧ i' = i ∧ k' < k + 1)) fun a' i' b' k' _ d => by omega)
                    clear hx6 hB6 hP6 hz g1 g2 hPn
                    go_wp2
                    go_roundw
                    case rel => exact ⟨k + 1, by omega, by go_num, hx7, hB7, hP7⟩
                    case measure => simp [intOf]; omega
                  | false =>
                    have hP7 := Lib.hid (hP6.out.turn (D' := fun a' i' b' k' => (a' < a ∧ b' < a') ∨ (a' = a ∧ b' < b) ∨ (a' = a ∧ b' = b ∧ i' < i) ∨ (a' = a ∧ b' = b ∧ i' = i ∧ k' < k + 1)) fun a' i' b' k' c d => by
                      by_cases e : a' = a ∧ b' = b ∧ i' = i ∧ k' = k
                      · obtain ⟨rfl, rfl, rfl, rfl⟩ := e
                        rw [hz.out] at c
                        cases c
                      · omega)
                    clear hP6 hz
                    go_wp2
                    go_roundw
                    case rel => exact ⟨k + 1, by omega, by go_num, hx6, hB6, hP7⟩
                    case measure => simp [intOf]; omega
                · have hP5 := Lib.hid (hP4.out.turn (D' := fun a' i' b' _ => (a' < a ∧ b' < a') ∨ (a' = a ∧ b' < b) ∨ (a' = a ∧ b' = b ∧ i' < i + 1)) fun a' i' b' k' c d => by
                    by_cases e : a' = a ∧ b' = b ∧ i' = i
                    · obtain ⟨rfl, rfl, rfl⟩ := e
                      have := (clashT_lt c).2
                      rw [hgy.out] at this
                      omega
                    · omega)
                  clear hP4
                  go_wp2
                  go_roundw
                  case rel => exact ⟨i + 1, by omega, by go_num, hx4, hB4, hP5⟩
                  case measure => simp [intOf]; omega
            · have hP4 := Lib.hid (hP3.out.turn (D' := fun a' _ b' _ => (a' < a ∧ b' < a') ∨ (a' = a ∧ b' < b + 1)) fun a' i' b' k' c d => by
                by_cases e : a' = a ∧ b' = b
                · obtain ⟨rfl, rfl⟩ := e
                  have := (clashT_lt c).1
                  rw [hgx.out] at this
                  omega
                · omega)
              clear hP3
              go_wp2
              go_roundw
              case rel => exact ⟨b + 1, by omega, by go_num, hx3, hB3, hP4⟩
              case measure => simp [intOf]; omega
        · have hP3 := Lib.hid (hP2.out.turn (D' := fun a' _ b' _ => a' < a + 1 ∧ b' < a') fun a' i' b' k' c d => by omega)
          clear hP2
          go_wp2
          go_roundw
          case rel => exact ⟨a + 1, by omega, by go_num, hx2, hB2, hP3⟩
          case measure => simp [intOf]; omega
    · have hall : Hid (Tab wr (w.heap.size + 1) t) := (hP1.out.turn (D' := fun a' _ b' _ => b' < a') fun a' i' b' k' c d => by
        obtain ⟨_, n, m, p, q, e1, _, _, _, h1, _⟩ := clashT_in c
        omega).all
      clear hP1
      go_wp2
      go_ret
      exact ⟨_, rfl, hall.out, by omega, hx1.out⟩
end Go.Proofs.Ytkicielleiafgaa
