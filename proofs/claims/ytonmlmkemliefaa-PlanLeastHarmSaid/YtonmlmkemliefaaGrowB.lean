/- Walks of the search: grow, where the node is closed by the bound, and where it is an open leaf. -/
import Derived.Test.YtonmlmkemliefaaGrowA
namespace Go.Proofs.Ytonmlmkemliefaa
open Go.RowKit

theorem leastN_bd : ∀ (l : List OptD) (n : Int), (∀ o ∈ l, 0 ≤ o.harm) → 0 ≤ n → n ≤ 1000000 → 0 ≤ leastN l n ∧ leastN l n ≤ 1000000
  | [], n, _, h0, h1 => ⟨h0, h1⟩
  | o :: r, n, h, h0, h1 => by
    have ho := h o List.mem_cons_self
    have := leastN_bd r (min n o.harm) (fun x hx => h x (List.mem_cons_of_mem _ hx)) (by omega) (by omega)
    exact this
theorem leastSum_bd : ∀ (l : List WishD), (∀ x ∈ l, ∀ o ∈ x.opts, 0 ≤ o.harm) → 0 ≤ leastSum l ∧ leastSum l ≤ 1000000 * l.length
  | [], _ => by simp [leastSum]
  | x :: r, h => by
    have h1 := leastSum_bd r (fun y hy => h y (List.mem_cons_of_mem _ hy))
    have h2 := leastN_bd x.opts 1000000 (h x List.mem_cons_self) (by omega) (by omega)
    simp only [leastSum, leastB, List.length_cons]
    omega


set_option maxHeartbeats 1600000 in
set_option maxRecDepth 100000 in
theorem grow_bound (Z : Nat → Prop) (w0 w : World) (S Pk Rb : Nat) (tv nv fv : Value) (t : List WishD) (bound : Int) (rest pick : List Int) (nodes : List NodeD) (found : Option (List Int × Int)) (over : Int) (pre : List Int) (harm : Int)
    (H : GrowIn Z w0 w S Pk Rb tv nv fv t bound rest pick nodes found over pre harm) (hc : ¬ 0 ≤ lastClash t pre) (hb : bound ≤ harm + leastSum (t.drop pre.length)) :
    Calls Try.prog 37 #[.pointer (some ⟨S, 0, none⟩), .int .i64 pre.length, .int .i64 harm] w
      (GrowOut Z w0 w S Pk Rb tv nv t bound rest pick nodes found over pre ⟨[leafN], [], [harm + leastSum (t.drop pre.length)]⟩) := by
  have hlc : 0 < pre.length → lastClash t pre = earlierI t pick (pre.length - 1) := by
    intro hpos
    unfold lastClash
    rw [if_neg (by omega)]
    have e := earlierI_take (t := t) (pick := pick) (d := pre.length) (j := pre.length - 1) (by omega)
    rwa [H.preIs] at e
  obtain ⟨ta, tc, rfl⟩ := H.srch.wishes.form
  have hea : Hid (0 < pre.length → ∀ W, Ext w W → Calls Try.prog 55 #[.agg #[.slice ta t.length tc], .slice (some ⟨Pk, 0, none⟩) pick.length pick.length, .int .i64 ((pre.length - 1 : Nat) : Int)] W fun e w' => e = .returned (.int .i64 (lastClash t pre)) ∧ Ext W w') := by
    intro hpos W hW
    rw [hlc hpos]
    have hs := H.srch.toExt hW
    refine earlier_calls _ _ t pick (pre.length - 1) W (hs.wishes.ext hs.ext) ?_ H.task (fun j hj => ?_)
    · refine ints_of_owns (base := 0) ⟨by simp, Or.inr ⟨Pk, pick.length, _, rfl, by omega, hs.pk, Nat.le_refl _, ?_, by simp, by rw [Nat.mul_one, ← List.length_map (f := Value.int .i64), List.take_length]⟩⟩
      have := H.few; have := H.plen; unfold maxLen; omega
    · have := H.opts j (by omega)
      rw [← H.preIs] at this
      rwa [optOf_take (by omega)] at this
  have hS := H.srch
  have c0 := After.cell (show w.cell? ⟨S, 0, none⟩ = some (.slice ta t.length tc) from hS.blk.cell 0)
  have c3 := After.cell (show w.cell? ⟨S, 3, none⟩ = some (.slice (some ⟨Pk, 0, none⟩) pick.length pick.length) from hS.blk.cell 3)
  have hd1' : Hid (0 < pre.length → (pre.length : Int) - 1 = ((pre.length - 1 : Nat) : Int)) := by intro _; omega
  have hS' := Lib.hid hS
  have hroom := H.room
  have htm := treeMax_pos (t.drop pre.length)
  have hlen := H.len
  have hfew := H.few
  have hplen := Lib.hid H.plen
  have hpre := Lib.hid H.preIs
  have hrest := Lib.hid (H.restAt pre.length H.len)
  have hrl := H.restL
  have hh0 := H.h0
  have hh1 := H.h1
  have hls := leastSum_bd (t.drop pre.length) (fun x hx o ho => (H.harms x (List.mem_of_mem_drop hx) o ho).1)
  have hls0 := hls.1
  have hls1 : leastSum (t.drop pre.length) ≤ 512000000 := by have := hls.2; simp at this; omega
  have hzlt := Lib.hid H.zlt
  clear H hlc hS hls
  by_cases hpos : 0 < pre.length
  ·
    have hea' := Lib.hid (hea.out hpos)
    have hd2 := Lib.hid (hd1'.out hpos)
    go_enter Try.func37, Try.ntmps37
    go_wp2_with fail
    refine wp_region_after (by kernel_rfl) (by kernel_rfl) ?_
    repeat (go_big_quiet_step ((rw [hd2.out]; exact After.call _ (hea'.out _ (After.ext _)))))
    refine wpQuiet_nil ?_
    rintro _ ⟨y, rfl⟩
    have hx1 := y.ext
    generalize y.world = W1 at hx1 ⊢
    have hs1 := Lib.hid (hS'.out.toExt hx1)
    have hs0 := hs1.out
    have c0' : W1.cell? ⟨S, 0, none⟩ = some (.slice ta t.length tc) := hs0.blk.cell 0
    have c1' : W1.cell? ⟨S, 1, none⟩ = some (.int .i64 bound) := hs0.blk.cell 1
    have c2' : W1.cell? ⟨S, 2, none⟩ = some (.slice (some ⟨Rb, 0, none⟩) rest.length rest.length) := hs0.blk.cell 2
    have c6' : W1.cell? ⟨S, 6, none⟩ = some (.int .i64 over) := hs0.blk.cell 6
    have f6' : W1.frozen? ⟨S, 6, none⟩ = false := hs0.blk.frozen 6
    have r0' : W1.cell? ⟨Rb, pre.length, none⟩ = some (.int .i64 (leastSum (t.drop pre.length))) := by
      have := hs0.rb.cell pre.length
      rw [this]
      have hr := hrest.out
      simp [hr]
    have hrlt : pre.length < rest.length := (List.getElem?_eq_some_iff.1 hrest.out).1
    clear hs0 c0 c3 hrest
    by_cases hov : harm + leastSum (t.drop pre.length) < over
    ·
      have R : Hid (foldOver over [harm + leastSum (t.drop pre.length)] = harm + leastSum (t.drop pre.length)) := by show min _ _ = _; omega
      go_wp2_with fail
      refine (addS_calls (hs1.out.setOver (harm + leastSum (t.drop pre.length))) (-1) (-1) 0 (by omega)).mono ?_
      rintro e w2 ⟨nv', rfl, hs2, k2, hat⟩
      have hat' := Lib.hid hat
      have k1 : Keep (SX S Pk nv) W1 (W1.setCell ⟨S, 6, none⟩ (.int .i64 (harm + leastSum (t.drop pre.length)))) := (keep_set W1 S 6 _).mono fun _ _ h => Or.inl h
      have k3 := ((Keep.of_ext (X := SX S Pk nv) hx1).trans k1).trans k2
      clear hat k1 k2
      go_wp2
      go_ret
      have hs := hx1.size
      refine ⟨nv', fv, pick, rfl, ?_, rfl, hpre.out, k3, ?_⟩
      · rw [R.out]; exact hs2
      · rcases hat'.out with h | ⟨g, h, hg⟩
        · exact Or.inl h
        · exact Or.inr ⟨g, h, by simp only [World.size_setCell] at hg; omega⟩
    ·
      have R : Hid (foldOver over [harm + leastSum (t.drop pre.length)] = over) := by show min _ _ = _; omega
      go_wp2_with fail
      refine (addS_calls (hs1.out.setOver over) (-1) (-1) 0 (by omega)).mono ?_
      rintro e w2 ⟨nv', rfl, hs2, k2, hat⟩
      have hat' := Lib.hid hat
      have k1 : Keep (SX S Pk nv) W1 (W1.setCell ⟨S, 6, none⟩ (.int .i64 over)) := (keep_set W1 S 6 _).mono fun _ _ h => Or.inl h
      have k3 := ((Keep.of_ext (X := SX S Pk nv) hx1).trans k1).trans k2
      clear hat k1 k2
      go_wp2
      go_ret
      have hs := hx1.size
      refine ⟨nv', fv, pick, rfl, ?_, rfl, hpre.out, k3, ?_⟩
      · rw [R.out]; exact hs2
      · rcases hat'.out with h | ⟨g, h, hg⟩
        · exact Or.inl h
        · exact Or.inr ⟨g, h, by simp only [World.size_setCell] at hg; omega⟩
  ·
    have hx1 := Ext.refl w
    have hs1 := Lib.hid (hS'.out.toExt hx1)
    have hs0 := hs1.out
    have c0' : w.cell? ⟨S, 0, none⟩ = some (.slice ta t.length tc) := hs0.blk.cell 0
    have c1' : w.cell? ⟨S, 1, none⟩ = some (.int .i64 bound) := hs0.blk.cell 1
    have c2' : w.cell? ⟨S, 2, none⟩ = some (.slice (some ⟨Rb, 0, none⟩) rest.length rest.length) := hs0.blk.cell 2
    have c6' : w.cell? ⟨S, 6, none⟩ = some (.int .i64 over) := hs0.blk.cell 6
    have f6' : w.frozen? ⟨S, 6, none⟩ = false := hs0.blk.frozen 6
    have r0' : w.cell? ⟨Rb, pre.length, none⟩ = some (.int .i64 (leastSum (t.drop pre.length))) := by
      have := hs0.rb.cell pre.length
      rw [this]
      have hr := hrest.out
      simp [hr]
    have hrlt : pre.length < rest.length := (List.getElem?_eq_some_iff.1 hrest.out).1
    clear hs0 c0 c3 hrest
    go_enter Try.func37, Try.ntmps37
    by_cases hov : harm + leastSum (t.drop pre.length) < over
    ·
      have R : Hid (foldOver over [harm + leastSum (t.drop pre.length)] = harm + leastSum (t.drop pre.length)) := by show min _ _ = _; omega
      go_wp2_with fail
      refine (addS_calls (hs1.out.setOver (harm + leastSum (t.drop pre.length))) (-1) (-1) 0 (by omega)).mono ?_
      rintro e w2 ⟨nv', rfl, hs2, k2, hat⟩
      have hat' := Lib.hid hat
      have k1 : Keep (SX S Pk nv) w (w.setCell ⟨S, 6, none⟩ (.int .i64 (harm + leastSum (t.drop pre.length)))) := (keep_set w S 6 _).mono fun _ _ h => Or.inl h
      have k3 := ((Keep.of_ext (X := SX S Pk nv) hx1).trans k1).trans k2
      clear hat k1 k2
      go_wp2
      go_ret
      have hs := hx1.size
      refine ⟨nv', fv, pick, rfl, ?_, rfl, hpre.out, k3, ?_⟩
      · rw [R.out]; exact hs2
      · rcases hat'.out with h | ⟨g, h, hg⟩
        · exact Or.inl h
        · exact Or.inr ⟨g, h, by simp only [World.size_setCell] at hg; omega⟩
    ·
      have R : Hid (foldOver over [harm + leastSum (t.drop pre.length)] = over) := by show min _ _ = _; omega
      go_wp2_with fail
      refine (addS_calls (hs1.out.setOver over) (-1) (-1) 0 (by omega)).mono ?_
      rintro e w2 ⟨nv', rfl, hs2, k2, hat⟩
      have hat' := Lib.hid hat
      have k1 : Keep (SX S Pk nv) w (w.setCell ⟨S, 6, none⟩ (.int .i64 over)) := (keep_set w S 6 _).mono fun _ _ h => Or.inl h
      have k3 := ((Keep.of_ext (X := SX S Pk nv) hx1).trans k1).trans k2
      clear hat k1 k2
      go_wp2
      go_ret
      have hs := hx1.size
      refine ⟨nv', fv, pick, rfl, ?_, rfl, hpre.out, k3, ?_⟩
      · rw [R.out]; exact hs2
      · rcases hat'.out with h | ⟨g, h, hg⟩
        · exact Or.inl h
        · exact Or.inr ⟨g, h, by simp only [World.size_setCell] at hg; omega⟩

end Go.Proofs.Ytonmlmkemliefaa
