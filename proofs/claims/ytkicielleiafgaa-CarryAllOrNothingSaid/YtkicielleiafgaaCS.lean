/- The law CarryAllOrNothing, walked. -/
import Derived.Test.YtkicielleiafgaaCQ
import Derived.Test.YtkicielleiafgaaChangedA
namespace Go.Proofs.Ytkicielleiafgaa
open Go.RowKit

theorem any_take_step {l : List Int} {i : Nat} {x : Int} (f : Int → Bool) (h : l[i]? = some x) : (l.take (i + 1)).any f = ((l.take i).any f || f x) := by
  rw [take_step h]; simp
theorem playS_ok {t : List WishD} {p : List Int} (h : lawfulB t p = true) (h512 : t.length ≤ 512) (bad : List Int) :
    playS t (orderL t p) bad = if bad.any (fun i => idxB i (orderL t p).length) then (zeros t.length, false, 0) else (p, true, 0) := by
  unfold playS
  rw [if_pos (order_steps h h512), (order_spec h).1]
set_option maxHeartbeats 1600000 in
set_option maxRecDepth 100000 in
theorem carryAllOrNothing_calls (rv : Value) (l : List RawD) (xv : Value) (x : List Int) (fv : Value) (fails : List Int) (w : World) (h : Raws w rv l) (hx : Bytes w xv x) (hf : Ints w fv fails) :
    Calls Try.prog 5 #[rv, xv, fv] w fun e w' => e = .returned (.bool true) ∧ Ext w w' := by
  have hF := Lib.hid hf
  obtain ⟨fa, fc, rfl, hfn, _, _⟩ := hf.open
  clear hf
  have hraw := Lib.hid h
  have hbyt := Lib.hid hx
  have hok := Lib.hid h.ok
  clear h hx
  go_enter Try.func5, Try.ntmps5
  go_wp2_with fail
  refine (sanity35_calls _).mono ?_
  rintro e w1 ⟨rfl, hx1⟩
  have hx1' := Lib.hid hx1
  clear hx1
  go_wp2_with fail
  refine (made_calls rv l w1 (hraw.out.ext hx1'.out)).mono ?_
  rintro e w2 ⟨tv, rfl, ht, hx2⟩
  obtain ⟨t, ht0⟩ : ∃ t, Hid (madeT l = t) := ⟨_, rfl⟩
  have hv : Hid (validT t = 0) := by rw [← ht0.out]; exact made_valid hok.out
  have ho : Hid (∀ x ∈ t, 0 < x.opts.length) := by rw [← ht0.out]; exact fun x hx => (made_opts hok.out hx).1
  have hlen : t.length ≤ 4 := by rw [← ht0.out]; exact made_len.2
  have hl0 : 0 < t.length := by rw [← ht0.out]; exact made_len.1
  rw [ht0.out] at ht
  clear ht0
  have ht' := Lib.hid ht.read
  obtain ⟨ta, tc, rfl⟩ := ht.read.form
  have hx2' := Lib.hid (hx1'.out.trans hx2)
  clear ht hx2
  go_wp2_with fail
  have hq := Lib.hid ((Ext.refl w2).alloc (.cells #[.slice ta t.length tc] 27))
  refine (lawful35_calls _ xv t x _ (ht'.out.ext hq.out) (hbyt.out.ext (hx2'.out.trans hq.out)) hv.out ho.out hl0 (by omega)).mono ?_
  rintro e w3 ⟨kv, pick, hk, hx3, hor⟩
  have hk3 := Lib.hid hk
  obtain ⟨ka, kc, rfl⟩ := hk.form
  have tb3 : w3.cell? ⟨w2.heap.size, 0, none⟩ = some (.slice ta t.length tc) := hx3.cell (by simp)
  have hb3 := World.block_lt_of_cell? _ _ tb3
  have ht3 := Lib.hid (ht'.out.ext (hq.out.trans hx3))
  have hw3 := Lib.hid (hx2'.out.trans (hq.out.trans hx3))
  have hby3 := Lib.hid (hbyt.out.ext hw3.out)
  clear hk hx3 hq ht' hx2' hbyt hx1'
  revert tb3 hb3
  generalize w2.heap.size = bt
  intro tb3 hb3
  rcases hor with ⟨rfl, hlw⟩ | ⟨rfl, hno⟩
  · have hlw' := Lib.hid hlw
    clear hlw
    go_wp2_with fail
    refine (order_calls _ _ t pick _ ht3.out hk3.out).mono ?_
    rw [orderS_ok hlw'.out]
    rintro e w4 ⟨sv, rfl, hs, hx4⟩
    obtain ⟨ol, hol⟩ : ∃ ol, Hid (orderL t pick = ol) := ⟨_, rfl⟩
    rw [hol.out] at hs
    have hs4 := Lib.hid hs.read
    obtain ⟨sa, sc, rfl⟩ := hs.read.form
    have tb4 := hx4.cell tb3
    have ht4 := Lib.hid (ht3.out.ext hx4)
    have hk4 := Lib.hid (hk3.out.ext hx4)
    have hw4 := Lib.hid (hw3.out.trans hx4)
    clear hs hx4 tb3 ht3 hk3 hw3 hb3
    obtain ⟨km, hkm⟩ : ∃ km : Nat, km = min 8 fails.length := ⟨_, rfl⟩
    have hkm1 : (if 8 < (fails.length : Int) then (8 : Int) else (fails.length : Int)) = (km : Int) := by rw [hkm]; split <;> omega
    have hkl : km ≤ fails.length := by omega
    have hkc : km ≤ fc := by omega
    clear hkm
    go_upto_region 8 with (fail)
    obtain ⟨bad, hbl, hB⟩ : ∃ bad : List Int, km = bad.length ∧ Hid (Ints w (.slice fa km fc) bad) := ⟨fails.take km, by simp; omega, Lib.hid (hF.out.take hkl)⟩
    clear hkm1 hkl hkc hF hfn
    subst hbl
    obtain ⟨hit, hhit⟩ : ∃ hit, Hid (bad.any (fun i => idxB i ol.length) = hit) := ⟨_, rfl⟩
    obtain ⟨r, hr⟩ : ∃ r, Hid ((if hit then zeros t.length else pick) = r) := ⟨_, rfl⟩
    have R : Hid (playS t ol bad = (r, !hit, 0)) := by
      show _ = _
      rw [← hol.out, playS_ok hlw'.out (by omega), hol.out, hhit.out, ← hr.out]
      cases hit <;> rfl
    have hpl : pick.length = t.length := lawful_len hlw'.out
    have hpl' := Lib.hid hpl
    clear hpl hol
    go_wp2_with fail
    refine (play_calls _ _ _ t ol bad _ ht4.out hs4.out (hB.out.ext hw4.out)).mono ?_
    rw [R.out]
    rintro e w5 ⟨v, rfl, hst, hx5⟩
    dsimp only at hst ⊢
    have hst5 := Lib.hid hst
    obtain ⟨ra, rc, rfl⟩ := hst.form
    have hk5 := Lib.hid (hk4.out.ext hx5)
    have hw5 := Lib.hid (hw4.out.trans hx5)
    obtain ⟨_, _, e1, _, _, bat⟩ := hB.out.open
    cases e1
    have bat' := Lib.hid bat
    clear bat hst hx5 tb4 ht4 hk4 hw4 hs4 R
    go_wp2_with fail
    go_loopw [17, 18] (fun v17 v18 wr => ∃ (i : Nat) (b : Bool), i ≤ bad.length ∧ v18 = .int .i64 i ∧ v17 = .bool b ∧ Hid (Ext w5 wr) ∧ Hid ((bad.take i).any (fun i => idxB i ol.length) = b)) (fun _ vi _ => bad.length - (intOf vi).toNat)
    case atStart => exact ⟨0, false, by omega, rfl, rfl, Lib.hid (Ext.refl _), Lib.hid (by simp)⟩
    case round =>
      obtain ⟨i, b, hi, rfl, rfl, hx, hA⟩ := hrel
      by_cases h1 : i < bad.length
      · obtain ⟨b1, o1, y, rfl, hb1, _, ey, g0⟩ := bat'.out i h1 wr (hw5.out.trans hx.out)
        have hstep := Lib.hid (any_take_step (fun i => idxB i ol.length) ey.out)
        rw [hA.out] at hstep
        clear ey
        cases b with
        | true =>
          have hA' : Hid ((bad.take (i + 1)).any (fun i => idxB i ol.length) = true) := by show _ = _; rw [hstep.out]; rfl
          clear hA hstep
          go_wp2
          go_roundw
          case rel => exact ⟨i + 1, true, by omega, by go_num, rfl, hx, hA'⟩
          case measure => simp [intOf]; omega
        | false =>
          by_cases h2 : 0 ≤ y
          · have d2 : decide (0 ≤ y) = true := decide_eq_true h2
            obtain ⟨q, hq⟩ : ∃ q, decide (y < (ol.length : Int)) = q := ⟨_, rfl⟩
            have hA' : Hid ((bad.take (i + 1)).any (fun i => idxB i ol.length) = q) := by show _ = _; rw [hstep.out]; simp [idxB, h2, hq]
            clear hA hstep
            go_wp2
            go_roundw
            case rel => exact ⟨i + 1, q, by omega, by go_num, by first | rfl | rw [hq], hx, hA'⟩
            case measure => simp [intOf]; omega
          · have d2 : decide (0 ≤ y) = false := decide_eq_false h2
            have hA' : Hid ((bad.take (i + 1)).any (fun i => idxB i ol.length) = false) := by show _ = _; rw [hstep.out]; simp [idxB, h2]
            clear hA hstep
            go_wp2
            go_roundw
            case rel => exact ⟨i + 1, false, by omega, by go_num, rfl, hx, hA'⟩
            case measure => simp [intOf]; omega
      · have hb : b = hit := by
          have := hA.out
          rw [List.take_of_length_le (by omega)] at this
          rw [← this, hhit.out]
        subst hb
        clear hA hhit
        have hS := Lib.hid (hst5.out.ext hx.out)
        have hK := Lib.hid (hk5.out.ext hx.out)
        have hE := Lib.hid (hw5.out.trans hx.out)
        clear hst5 hk5 hw5 hx
        cases b with
        | true =>
          have hr' : Hid (r = zeros t.length) := hr.out.symm
          clear hr
          have hmk := run_make_ints pick.length (by rw [hpl'.out]; omega)
          go_wp2_with fail
          have hq := Lib.hid ((Ext.refl wr).alloc (.cells (zerosV pick.length) 3))
          have hZ : Ints (wr.alloc (.cells (zerosV pick.length) 3)) (.slice (some ⟨wr.heap.size, 0, none⟩) pick.length pick.length) (zeros pick.length) := by
            have := (St.new wr pick.length).read (by simp [zeros]; rw [hpl'.out]; unfold maxLen; omega)
            rwa [show (zeros pick.length).length = pick.length by simp [zeros]] at this
          refine (rSame35_calls _ _ r (zeros pick.length) _ (hS.out.ext hq.out) hZ).mono ?_
          rw [show decide (r = zeros pick.length) = true by rw [hr'.out, hpl'.out]; simp]
          rintro e w6 ⟨rfl, hx6⟩
          have hE6 := Lib.hid (hE.out.trans (hq.out.trans hx6))
          clear hx6 hq hZ
          go_wp2
          go_ret
          exact ⟨rfl, hE6.out⟩
        | false =>
          have hr' : Hid (r = pick) := hr.out.symm
          clear hr
          go_wp2_with fail
          refine (rSame35_calls _ _ r pick _ hS.out hK.out).mono ?_
          rw [show decide (r = pick) = true by rw [hr'.out]; simp]
          rintro e w6 ⟨rfl, hx6⟩
          have hE6 := Lib.hid (hE.out.trans hx6)
          clear hx6
          go_wp2
          go_ret
          exact ⟨rfl, hE6.out⟩
  · go_wp2
    go_ret
    exact ⟨rfl, hw3.out⟩
end Go.Proofs.Ytkicielleiafgaa
