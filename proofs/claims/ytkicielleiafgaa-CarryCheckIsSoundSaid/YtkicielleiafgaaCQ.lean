/- The law's 'lawful', walked. -/
import Derived.Test.YtkicielleiafgaaCP
import Derived.Test.YtkicielleiafgaaRK
import Derived.Test.YtkicielleiafgaaRR
import Derived.Test.YtkicielleiafgaaPM
namespace Go.Proofs.Ytkicielleiafgaa
open Go.RowKit

theorem orderS_ok {t : List WishD} {p : List Int} (h : lawfulB t p = true) : orderS t p = (orderL t p, 0) := by
  unfold orderS
  rw [if_pos (lawful_parts h).1, if_pos h]
theorem orderS_no {t : List WishD} {p : List Int} (hv : validT t = 0) (h : lawfulB t p = false) : orderS t p = ([], 1) := by
  unfold orderS
  rw [if_pos hv, if_neg (by rw [h]; decide)]
/-- what 'lawful' hands out: a lawful choice, or none where there is none -/
def LawfulOut (t : List WishD) (w : World) (e : Ending) (w' : World) : Prop :=
  ∃ v p, Ints w' v p ∧ Ext w w' ∧ ((e = .returned (.tuple #[v, .bool true]) ∧ lawfulB t p = true) ∨ (e = .returned (.tuple #[v, .bool false]) ∧ ∀ q, lawfulB t q = false))

set_option maxHeartbeats 1600000 in
set_option maxRecDepth 100000 in
theorem lawful35_calls (tv xv : Value) (t : List WishD) (x : List Int) (w : World) (h : Wishes w tv t) (hx : Bytes w xv x) (hv : validT t = 0) (ho : ∀ x ∈ t, 0 < x.opts.length) (h0 : 0 < t.length) (h512 : t.length ≤ 512) :
    Calls Try.prog 15 #[.agg #[tv], xv] w (LawfulOut t w) := by
  have hT := Lib.hid h
  have hX := Lib.hid hx
  have hv' := Lib.hid hv
  have ho' := Lib.hid ho
  obtain ⟨ta, tc, rfl⟩ := h.form
  clear h hx hv ho
  go_enter Try.func15, Try.ntmps15
  go_wp2_with fail
  have hq := Lib.hid ((Ext.refl w).alloc (.cells #[.slice ta t.length tc] 27))
  refine (choice_calls _ _ t x _ (hT.out.ext hq.out) (hX.out.ext hq.out) ho'.out (by omega)).mono ?_
  rintro e w1 ⟨kv, rfl, hk, hx1⟩
  obtain ⟨pick, hpk⟩ : ∃ pick, Hid (choiceT t x = pick) := ⟨_, rfl⟩
  rw [hpk.out] at hk
  have hk1 := Lib.hid hk.read
  obtain ⟨ka, kc, rfl⟩ := hk.read.form
  have tb : w1.cell? ⟨w.heap.size, 0, none⟩ = some (.slice ta t.length tc) := hx1.cell (by simp)
  have hb := World.block_lt_of_cell? _ _ tb
  have hT1 := Lib.hid (hT.out.ext (hq.out.trans hx1))
  have hW := Lib.hid (hq.out.trans hx1)
  clear hk hx1 hq hT hX hpk
  go_wp2_with fail
  refine (rLawful_calls _ _ t pick _ hT1.out hk1.out).mono ?_
  rintro e w2 ⟨rfl, hx2⟩
  have tb2 := hx2.cell tb
  have hT2 := Lib.hid (hT1.out.ext hx2)
  have hk2 := Lib.hid (hk1.out.ext hx2)
  have hW2 := Lib.hid (hW.out.trans hx2)
  clear hx2 tb hT1 hk1 hW hb
  obtain ⟨lb, hlb⟩ : ∃ lb, Hid (lawfulB t pick = lb) := ⟨_, rfl⟩
  rw [hlb.out]
  cases lb with
  | true =>
    go_wp2
    go_ret2
    exact ⟨_, _, hk2.out, hW2.out, Or.inl ⟨rfl, hlb.out⟩⟩
  | false =>
    go_wp2_with fail
    refine (rBest_calls _ t _ hT2.out hv'.out ho'.out h0 h512).mono ?_
    rintro e w3 ⟨v, rfl, hp, hx3⟩
    obtain ⟨p, hh, R⟩ : ∃ p hh, Hid (bD (bestOf t) = (p, hh)) := ⟨_, _, rfl⟩
    obtain ⟨ok, hok⟩ : ∃ ok, Hid ((bestOf t).isSome = ok) := ⟨_, rfl⟩
    rw [R.out] at hp ⊢
    rw [hok.out]
    have hp' := Lib.hid hp
    obtain ⟨pa, pc, rfl⟩ := hp.form
    have hW3 := Lib.hid (hW2.out.trans hx3)
    clear hp hx3 hW2 tb2 hT2 hk2
    go_wp2
    go_ret2
    have e0 := (Ext.refl w3).alloc (.cells #[.slice pa p.length pc, .int .i64 hh] 67)
    refine ⟨_, p, hp'.out.ext e0, hW3.out.trans e0, ?_⟩
    cases hbo : bestOf t with
    | none =>
      rw [hbo] at hok
      cases hok.out
      exact Or.inr ⟨rfl, bestOf_none hv'.out (foldFound_none hbo).1⟩
    | some r =>
      rw [hbo] at hok R
      cases hok.out
      obtain ⟨q, g⟩ := r
      have R' : (q, g) = (p, hh) := R.out
      cases R'
      exact Or.inl ⟨rfl, (bestOf_spec hv'.out hbo).1⟩
end Go.Proofs.Ytkicielleiafgaa
