/- Walks of the search: grow, where the node is an open leaf. -/
import Derived.Test.YtonmlmkemliefaaGrowB
namespace Go.Proofs.Ytonmlmkemliefaa
open Go.RowKit



theorem Srch.picks {Z : Nat → Prop} {w0 w : World} {S Pk Rb : Nat} {tv nv fv : Value} {t : List WishD} {bound over : Int} {rest pick : List Int} {nodes : List NodeD} {found : Option (List Int × Int)}
    (hs : Srch Z w0 w S Pk Rb tv nv fv t bound rest pick nodes found over) (hl : pick.length ≤ 512) : Ints w (.slice (some ⟨Pk, 0, none⟩) pick.length pick.length) pick := by
  refine ints_of_owns (base := 0) ⟨by simp, Or.inr ⟨Pk, pick.length, _, rfl, by omega, hs.pk, Nat.le_refl _, ?_, by simp, by rw [Nat.mul_one, ← List.length_map (f := Value.int .i64), List.take_length]⟩⟩
  unfold maxLen; omega


set_option maxHeartbeats 3200000 in
set_option maxRecDepth 100000 in
theorem grow_leaf (Z : Nat → Prop) (w0 w : World) (S Pk Rb : Nat) (tv nv fv : Value) (t : List WishD) (bound : Int) (rest pick : List Int) (nodes : List NodeD) (found : Option (List Int × Int)) (over : Int) (pre : List Int) (harm : Int)
    (H : GrowIn Z w0 w S Pk Rb tv nv fv t bound rest pick nodes found over pre harm) (hc : ¬ 0 ≤ lastClash t pre) (hb : ¬ bound ≤ harm) (hd : pre.length = t.length) :
    Calls Try.prog 37 #[.pointer (some ⟨S, 0, none⟩), .int .i64 pre.length, .int .i64 harm] w
      (GrowOut Z w0 w S Pk Rb tv nv t bound rest pick nodes found over pre ⟨[leafN], [(pre, harm)], []⟩) := by
  have hpick : Hid (pick = pre) := by
    have := H.preIs
    rw [List.take_of_length_le (by rw [H.plen, hd]; exact Nat.le_refl _)] at this
    exact this
  have hlc : 0 < pre.length → lastClash t pre = earlierI t pick (pre.length - 1) := by
    intro hpos
    unfold lastClash
    rw [if_neg (by omega)]
    have e := earlierI_take (t := t) (pick := pick) (d := pre.length) (j := pre.length - 1) (by omega)
    rwa [H.preIs] at e
  obtain ⟨ta, tc, rfl⟩ := H.srch.wishes.form
  have hea : Hid (0 < pre.length → ∀ W, Ext w W → Calls Try.prog 55 #[.agg #[.slice ta t.length tc], .slice (some ⟨Pk, 0, none⟩) pick.length pick.length, .int .i64 ((pre.length - 1 : Nat) : Int)] W fun e w' => e = .returned (.int .i64 (lastClash t pre)) ∧ Ext W w') := by
    intro hpos W hW
    rw [hlc hpos]
    have hs := H.srch.toExt hW
    refine earlier_calls _ _ t pick (pre.length - 1) W (hs.wishes.ext hs.ext) ?_ H.task (fun j hj => ?_)
    · refine ints_of_owns (base := 0) ⟨by simp, Or.inr ⟨Pk, pick.length, _, rfl, by omega, hs.pk, Nat.le_refl _, ?_, by simp, by rw [Nat.mul_one, ← List.length_map (f := Value.int .i64), List.take_length]⟩⟩
      have := H.few; have := H.plen; unfold maxLen; omega
    · have := H.opts j (by omega)
      rw [← H.preIs] at this
      rwa [optOf_take (by omega)] at this
  have hS := H.srch
  have c0 := After.cell (show w.cell? ⟨S, 0, none⟩ = some (.slice ta t.length tc) from hS.blk.cell 0)
  have c3 := After.cell (show w.cell? ⟨S, 3, none⟩ = some (.slice (some ⟨Pk, 0, none⟩) pick.length pick.length) from hS.blk.cell 3)
  have hd1' : Hid (0 < pre.length → (pre.length : Int) - 1 = ((pre.length - 1 : Nat) : Int)) := by intro _; omega
  have hS' := Lib.hid hS
  have hroom := H.room
  have htm := treeMax_pos (t.drop pre.length)
  have hlen := H.len
  have hfew := H.few
  have hplen := Lib.hid H.plen
  have hpre := Lib.hid H.preIs
  have hrest := Lib.hid (H.restAt pre.length H.len)
  have hrl := H.restL
  have hh0 := H.h0
  have hh1 := H.h1
  have hls := leastSum_bd (t.drop pre.length) (fun x hx o ho => (H.harms x (List.mem_of_mem_drop hx) o ho).1)
  have hls0 := hls.1
  have hls1 : leastSum (t.drop pre.length) ≤ 512000000 := by have := hls.2; simp at this; omega
  have hzlt := Lib.hid H.zlt
  clear H hlc hS hls
  have hl0 : leastSum (t.drop pre.length) = 0 := by rw [List.drop_of_length_le (by omega)]; rfl
  rw [hl0] at hrest hls0 hls1
  have hl0' := Lib.hid hl0
  have heq : ((pre.length : Int) == (t.length : Int)) = true := by rw [beq_iff_eq]; omega
  have hpl5 : pick.length ≤ 512 := by rw [hplen.out]; exact hfew
  clear hl0 hls0 hls1 hd
  by_cases hpos : 0 < pre.length
  ·
    have hea' := Lib.hid (hea.out hpos)
    have hd2 := Lib.hid (hd1'.out hpos)
    go_enter Try.func37, Try.ntmps37
    go_wp2_with fail
    refine wp_region_after (by kernel_rfl) (by kernel_rfl) ?_
    repeat (go_big_quiet_step ((rw [hd2.out]; exact After.call _ (hea'.out _ (After.ext _)))))
    refine wpQuiet_nil ?_
    rintro _ ⟨y, rfl⟩
    have hx1 := y.ext
    generalize y.world = W1 at hx1 ⊢
    have hs1 := Lib.hid (hS'.out.toExt hx1)
    have hs0 := hs1.out
    have c0' : W1.cell? ⟨S, 0, none⟩ = some (.slice ta t.length tc) := hs0.blk.cell 0
    have c1' : W1.cell? ⟨S, 1, none⟩ = some (.int .i64 bound) := hs0.blk.cell 1
    have c2' : W1.cell? ⟨S, 2, none⟩ = some (.slice (some ⟨Rb, 0, none⟩) rest.length rest.length) := hs0.blk.cell 2
    have c6' : W1.cell? ⟨S, 6, none⟩ = some (.int .i64 over) := hs0.blk.cell 6
    have f6' : W1.frozen? ⟨S, 6, none⟩ = false := hs0.blk.frozen 6
    have r0' : W1.cell? ⟨Rb, pre.length, none⟩ = some (.int .i64 (0)) := by
      have := hs0.rb.cell pre.length
      rw [this]
      have hr := hrest.out
      simp [hr]
    have hrlt : pre.length < rest.length := (List.getElem?_eq_some_iff.1 hrest.out).1
    clear hs0 c0 c3 hrest
    have k5' : W1.cell? ⟨S, 5, none⟩ = some fv := hs1.out.blk.cell 5
    have k3' : W1.cell? ⟨S, 3, none⟩ = some (.slice (some ⟨Pk, 0, none⟩) pick.length pick.length) := hs1.out.blk.cell 3
    have hSl : S < W1.heap.size := hs1.out.blk.lt
    rcases found with _ | ⟨p, q⟩
    · have hfv : fv = .pointer none := hs1.out.fnd
      subst hfv
      have R : Hid (foldFound none [(pre, harm)] = some (pick, harm)) := by show some (pre, harm) = _; rw [hpick.out]
      have hcl : Hid (∀ W, Ext W1 W → Calls Try.prog 59 #[.slice (some ⟨Pk, 0, none⟩) pick.length pick.length] W fun e w' => ∃ v, e = .returned v ∧ w'.ownsRow W.heap.size 3 1 v pick.length (pick.map (Value.int .i64)) ∧ Ext W w') :=
        fun W hW => clone_int_calls _ pick W ((hs1.out.toExt hW).picks (by omega)) (by omega)
      go_wp2_with fail
      refine (hcl.out _ (Ext.refl _)).mono ?_
      rintro e w2 ⟨pv, rfl, hown, hx2⟩
      obtain ⟨pA, pC, rfl⟩ := owns_form hown
      have hs2 := hs1.out.toExt hx2
      have hown' : w2.ownsRow w0.heap.size 3 1 (.slice pA pick.length pC) pick.length (pick.map (Value.int .i64)) := by
        refine ⟨hown.1, ?_⟩
        rcases hown.2 with h | ⟨g, cap, cur, e, hg, r⟩
        · exact Or.inl h
        · exact Or.inr ⟨g, cap, cur, e, Nat.le_trans hs1.out.ext.size hg, r⟩
      have hpn : ∀ g, Value.ownBlock (.slice pA pick.length pC) = some g → ¬ Z g := by
        intro g h hz
        have h1 := (hown.lt g h).1
        have h2 := hzlt.out g hz
        have h3 := hx1.size
        omega
      have hs3 : Srch Z w0 (w2.alloc (.cells #[.slice pA pick.length pC, .int .i64 harm] 30)) S Pk Rb (.slice ta t.length tc) nv (.pointer none) t bound rest pick nodes _ over := hs2.toExt ((Ext.refl _).alloc _)
      have hs4 := Lib.hid (hs3.setFound (F := w2.heap.size) (pv := .slice pA pick.length pC) (p := pick) (q := harm) hs2.ext.size (Blk.new _ _ _) (hown'.alloc _) hpn)
      have k5 : w2.cell? ⟨S, 5, none⟩ = some (.pointer none) := hs2.blk.cell 5
      have f5 : w2.frozen? ⟨S, 5, none⟩ = false := hs2.blk.frozen 5
      have hSlt : S < w2.heap.size := hs2.blk.lt
      have hcomm := Lib.hid (World.setCell_alloc_past (w := w2) (.cells #[.slice pA pick.length pC, .int .i64 harm] 30) S 5 (.pointer (some ⟨w2.heap.size, 0, none⟩)) hSlt)
      clear hcl hown hown' hs2 hs3 hpn
      go_wp2_with fail
      rw [← hcomm.out]
      refine (addS_calls hs4.out (-1) (-1) 0 (by omega)).mono ?_
      rintro e w3 ⟨nv', rfl, hs5, k3, hat⟩
      have hat' := Lib.hid hat
      have k1 : Keep (SX S Pk nv) w (w2.alloc (.cells #[.slice pA pick.length pC, .int .i64 harm] 30)) := Keep.of_ext ((hx1.trans hx2).alloc _)
      have k2 : Keep (SX S Pk nv) w ((w2.alloc (.cells #[.slice pA pick.length pC, .int .i64 harm] 30)).setCell ⟨S, 5, none⟩ (.pointer (some ⟨w2.heap.size, 0, none⟩))) := Keep.setCell (p := ⟨S, 5, none⟩) k1 (Or.inl (Or.inl rfl)) _
      have k4 := k2.trans k3
      clear hat k1 k2 k3
      go_wp2
      go_ret
      have hsz := (hx1.trans hx2).size
      refine ⟨nv', .pointer (some ⟨w2.heap.size, 0, none⟩), pick, rfl, ?_, rfl, hpre.out, k4, ?_⟩
      · rw [R.out]; exact hs5
      · rcases hat'.out with h | ⟨g, h, hg⟩
        · exact Or.inl h
        · exact Or.inr ⟨g, h, by simp only [World.size_setCell, World.size_alloc] at hg; omega⟩
    · obtain ⟨F, pvo, hfv, hF, hFb, _, _⟩ := hs1.out.fnd
      subst hfv
      have kF : W1.cell? ⟨F, 1, none⟩ = some (.int .i64 q) := hFb.cell 1
      clear hFb hF
      by_cases hq : harm < q
      · have R : Hid (foldFound (some (p, q)) [(pre, harm)] = some (pick, harm)) := by
          show (if harm < q then some (pre, harm) else some (p, q)) = _
          rw [if_pos hq, hpick.out]
        have hcl : Hid (∀ W, Ext W1 W → Calls Try.prog 59 #[.slice (some ⟨Pk, 0, none⟩) pick.length pick.length] W fun e w' => ∃ v, e = .returned v ∧ w'.ownsRow W.heap.size 3 1 v pick.length (pick.map (Value.int .i64)) ∧ Ext W w') :=
          fun W hW => clone_int_calls _ pick W ((hs1.out.toExt hW).picks (by omega)) (by omega)
        go_wp2_with fail
        refine (hcl.out _ (Ext.refl _)).mono ?_
        rintro e w2 ⟨pv, rfl, hown, hx2⟩
        obtain ⟨pA, pC, rfl⟩ := owns_form hown
        have hs2 := hs1.out.toExt hx2
        have hown' : w2.ownsRow w0.heap.size 3 1 (.slice pA pick.length pC) pick.length (pick.map (Value.int .i64)) := by
          refine ⟨hown.1, ?_⟩
          rcases hown.2 with h | ⟨g, cap, cur, e, hg, r⟩
          · exact Or.inl h
          · exact Or.inr ⟨g, cap, cur, e, Nat.le_trans hs1.out.ext.size hg, r⟩
        have hpn : ∀ g, Value.ownBlock (.slice pA pick.length pC) = some g → ¬ Z g := by
          intro g h hz
          have h1 := (hown.lt g h).1
          have h2 := hzlt.out g hz
          have h3 := hx1.size
          omega
        have hs3 : Srch Z w0 (w2.alloc (.cells #[.slice pA pick.length pC, .int .i64 harm] 30)) S Pk Rb (.slice ta t.length tc) nv (.pointer (some ⟨F, 0, none⟩)) t bound rest pick nodes _ over := hs2.toExt ((Ext.refl _).alloc _)
        have hs4 := Lib.hid (hs3.setFound (F := w2.heap.size) (pv := .slice pA pick.length pC) (p := pick) (q := harm) hs2.ext.size (Blk.new _ _ _) (hown'.alloc _) hpn)
        have k5 : w2.cell? ⟨S, 5, none⟩ = some (.pointer (some ⟨F, 0, none⟩)) := hs2.blk.cell 5
        have f5 : w2.frozen? ⟨S, 5, none⟩ = false := hs2.blk.frozen 5
        have hSlt : S < w2.heap.size := hs2.blk.lt
        have hcomm := Lib.hid (World.setCell_alloc_past (w := w2) (.cells #[.slice pA pick.length pC, .int .i64 harm] 30) S 5 (.pointer (some ⟨w2.heap.size, 0, none⟩)) hSlt)
        clear hcl hown hown' hs2 hs3 hpn
        go_wp2_with fail
        rw [← hcomm.out]
        refine (addS_calls hs4.out (-1) (-1) 0 (by omega)).mono ?_
        rintro e w3 ⟨nv', rfl, hs5, k3, hat⟩
        have hat' := Lib.hid hat
        have k1 : Keep (SX S Pk nv) w (w2.alloc (.cells #[.slice pA pick.length pC, .int .i64 harm] 30)) := Keep.of_ext ((hx1.trans hx2).alloc _)
        have k2 : Keep (SX S Pk nv) w ((w2.alloc (.cells #[.slice pA pick.length pC, .int .i64 harm] 30)).setCell ⟨S, 5, none⟩ (.pointer (some ⟨w2.heap.size, 0, none⟩))) := Keep.setCell (p := ⟨S, 5, none⟩) k1 (Or.inl (Or.inl rfl)) _
        have k4 := k2.trans k3
        clear hat k1 k2 k3
        go_wp2
        go_ret
        have hsz := (hx1.trans hx2).size
        refine ⟨nv', .pointer (some ⟨w2.heap.size, 0, none⟩), pick, rfl, ?_, rfl, hpre.out, k4, ?_⟩
        · rw [R.out]; exact hs5
        · rcases hat'.out with h | ⟨g, h, hg⟩
          · exact Or.inl h
          · exact Or.inr ⟨g, h, by simp only [World.size_setCell, World.size_alloc] at hg; omega⟩
      · have R : Hid (foldFound (some (p, q)) [(pre, harm)] = some (p, q)) := by
          show (if harm < q then some (pre, harm) else some (p, q)) = _
          rw [if_neg hq]
        go_wp2_with fail
        refine (addS_calls hs1.out (-1) (-1) 0 (by omega)).mono ?_
        rintro e w3 ⟨nv', rfl, hs5, k3, hat⟩
        have hat' := Lib.hid hat
        have k4 := (Keep.of_ext (X := SX S Pk nv) hx1).trans k3
        clear hat k3
        go_wp2
        go_ret
        have hsz := hx1.size
        refine ⟨nv', .pointer (some ⟨F, 0, none⟩), pick, rfl, ?_, rfl, hpre.out, k4, ?_⟩
        · rw [R.out]; exact hs5
        · rcases hat'.out with h | ⟨g, h, hg⟩
          · exact Or.inl h
          · exact Or.inr ⟨g, h, by omega⟩
  ·
    have hx1 := Ext.refl w
    have hs1 := Lib.hid (hS'.out.toExt hx1)
    have hs0 := hs1.out
    have c0' : w.cell? ⟨S, 0, none⟩ = some (.slice ta t.length tc) := hs0.blk.cell 0
    have c1' : w.cell? ⟨S, 1, none⟩ = some (.int .i64 bound) := hs0.blk.cell 1
    have c2' : w.cell? ⟨S, 2, none⟩ = some (.slice (some ⟨Rb, 0, none⟩) rest.length rest.length) := hs0.blk.cell 2
    have c6' : w.cell? ⟨S, 6, none⟩ = some (.int .i64 over) := hs0.blk.cell 6
    have f6' : w.frozen? ⟨S, 6, none⟩ = false := hs0.blk.frozen 6
    have r0' : w.cell? ⟨Rb, pre.length, none⟩ = some (.int .i64 (0)) := by
      have := hs0.rb.cell pre.length
      rw [this]
      have hr := hrest.out
      simp [hr]
    have hrlt : pre.length < rest.length := (List.getElem?_eq_some_iff.1 hrest.out).1
    clear hs0 c0 c3 hrest
    go_enter Try.func37, Try.ntmps37
    have k5' : w.cell? ⟨S, 5, none⟩ = some fv := hs1.out.blk.cell 5
    have k3' : w.cell? ⟨S, 3, none⟩ = some (.slice (some ⟨Pk, 0, none⟩) pick.length pick.length) := hs1.out.blk.cell 3
    have hSl : S < w.heap.size := hs1.out.blk.lt
    rcases found with _ | ⟨p, q⟩
    · have hfv : fv = .pointer none := hs1.out.fnd
      subst hfv
      have R : Hid (foldFound none [(pre, harm)] = some (pick, harm)) := by show some (pre, harm) = _; rw [hpick.out]
      have hcl : Hid (∀ W, Ext w W → Calls Try.prog 59 #[.slice (some ⟨Pk, 0, none⟩) pick.length pick.length] W fun e w' => ∃ v, e = .returned v ∧ w'.ownsRow W.heap.size 3 1 v pick.length (pick.map (Value.int .i64)) ∧ Ext W w') :=
        fun W hW => clone_int_calls _ pick W ((hs1.out.toExt hW).picks (by omega)) (by omega)
      go_wp2_with fail
      refine (hcl.out _ (Ext.refl _)).mono ?_
      rintro e w2 ⟨pv, rfl, hown, hx2⟩
      obtain ⟨pA, pC, rfl⟩ := owns_form hown
      have hs2 := hs1.out.toExt hx2
      have hown' : w2.ownsRow w0.heap.size 3 1 (.slice pA pick.length pC) pick.length (pick.map (Value.int .i64)) := by
        refine ⟨hown.1, ?_⟩
        rcases hown.2 with h | ⟨g, cap, cur, e, hg, r⟩
        · exact Or.inl h
        · exact Or.inr ⟨g, cap, cur, e, Nat.le_trans hs1.out.ext.size hg, r⟩
      have hpn : ∀ g, Value.ownBlock (.slice pA pick.length pC) = some g → ¬ Z g := by
        intro g h hz
        have h1 := (hown.lt g h).1
        have h2 := hzlt.out g hz
        have h3 := hx1.size
        omega
      have hs3 : Srch Z w0 (w2.alloc (.cells #[.slice pA pick.length pC, .int .i64 harm] 30)) S Pk Rb (.slice ta t.length tc) nv (.pointer none) t bound rest pick nodes _ over := hs2.toExt ((Ext.refl _).alloc _)
      have hs4 := Lib.hid (hs3.setFound (F := w2.heap.size) (pv := .slice pA pick.length pC) (p := pick) (q := harm) hs2.ext.size (Blk.new _ _ _) (hown'.alloc _) hpn)
      have k5 : w2.cell? ⟨S, 5, none⟩ = some (.pointer none) := hs2.blk.cell 5
      have f5 : w2.frozen? ⟨S, 5, none⟩ = false := hs2.blk.frozen 5
      have hSlt : S < w2.heap.size := hs2.blk.lt
      have hcomm := Lib.hid (World.setCell_alloc_past (w := w2) (.cells #[.slice pA pick.length pC, .int .i64 harm] 30) S 5 (.pointer (some ⟨w2.heap.size, 0, none⟩)) hSlt)
      clear hcl hown hown' hs2 hs3 hpn
      go_wp2_with fail
      rw [← hcomm.out]
      refine (addS_calls hs4.out (-1) (-1) 0 (by omega)).mono ?_
      rintro e w3 ⟨nv', rfl, hs5, k3, hat⟩
      have hat' := Lib.hid hat
      have k1 : Keep (SX S Pk nv) w (w2.alloc (.cells #[.slice pA pick.length pC, .int .i64 harm] 30)) := Keep.of_ext ((hx1.trans hx2).alloc _)
      have k2 : Keep (SX S Pk nv) w ((w2.alloc (.cells #[.slice pA pick.length pC, .int .i64 harm] 30)).setCell ⟨S, 5, none⟩ (.pointer (some ⟨w2.heap.size, 0, none⟩))) := Keep.setCell (p := ⟨S, 5, none⟩) k1 (Or.inl (Or.inl rfl)) _
      have k4 := k2.trans k3
      clear hat k1 k2 k3
      go_wp2
      go_ret
      have hsz := (hx1.trans hx2).size
      refine ⟨nv', .pointer (some ⟨w2.heap.size, 0, none⟩), pick, rfl, ?_, rfl, hpre.out, k4, ?_⟩
      · rw [R.out]; exact hs5
      · rcases hat'.out with h | ⟨g, h, hg⟩
        · exact Or.inl h
        · exact Or.inr ⟨g, h, by simp only [World.size_setCell, World.size_alloc] at hg; omega⟩
    · obtain ⟨F, pvo, hfv, hF, hFb, _, _⟩ := hs1.out.fnd
      subst hfv
      have kF : w.cell? ⟨F, 1, none⟩ = some (.int .i64 q) := hFb.cell 1
      clear hFb hF
      by_cases hq : harm < q
      · have R : Hid (foldFound (some (p, q)) [(pre, harm)] = some (pick, harm)) := by
          show (if harm < q then some (pre, harm) else some (p, q)) = _
          rw [if_pos hq, hpick.out]
        have hcl : Hid (∀ W, Ext w W → Calls Try.prog 59 #[.slice (some ⟨Pk, 0, none⟩) pick.length pick.length] W fun e w' => ∃ v, e = .returned v ∧ w'.ownsRow W.heap.size 3 1 v pick.length (pick.map (Value.int .i64)) ∧ Ext W w') :=
          fun W hW => clone_int_calls _ pick W ((hs1.out.toExt hW).picks (by omega)) (by omega)
        go_wp2_with fail
        refine (hcl.out _ (Ext.refl _)).mono ?_
        rintro e w2 ⟨pv, rfl, hown, hx2⟩
        obtain ⟨pA, pC, rfl⟩ := owns_form hown
        have hs2 := hs1.out.toExt hx2
        have hown' : w2.ownsRow w0.heap.size 3 1 (.slice pA pick.length pC) pick.length (pick.map (Value.int .i64)) := by
          refine ⟨hown.1, ?_⟩
          rcases hown.2 with h | ⟨g, cap, cur, e, hg, r⟩
          · exact Or.inl h
          · exact Or.inr ⟨g, cap, cur, e, Nat.le_trans hs1.out.ext.size hg, r⟩
        have hpn : ∀ g, Value.ownBlock (.slice pA pick.length pC) = some g → ¬ Z g := by
          intro g h hz
          have h1 := (hown.lt g h).1
          have h2 := hzlt.out g hz
          have h3 := hx1.size
          omega
        have hs3 : Srch Z w0 (w2.alloc (.cells #[.slice pA pick.length pC, .int .i64 harm] 30)) S Pk Rb (.slice ta t.length tc) nv (.pointer (some ⟨F, 0, none⟩)) t bound rest pick nodes _ over := hs2.toExt ((Ext.refl _).alloc _)
        have hs4 := Lib.hid (hs3.setFound (F := w2.heap.size) (pv := .slice pA pick.length pC) (p := pick) (q := harm) hs2.ext.size (Blk.new _ _ _) (hown'.alloc _) hpn)
        have k5 : w2.cell? ⟨S, 5, none⟩ = some (.pointer (some ⟨F, 0, none⟩)) := hs2.blk.cell 5
        have f5 : w2.frozen? ⟨S, 5, none⟩ = false := hs2.blk.frozen 5
        have hSlt : S < w2.heap.size := hs2.blk.lt
        have hcomm := Lib.hid (World.setCell_alloc_past (w := w2) (.cells #[.slice pA pick.length pC, .int .i64 harm] 30) S 5 (.pointer (some ⟨w2.heap.size, 0, none⟩)) hSlt)
        clear hcl hown hown' hs2 hs3 hpn
        go_wp2_with fail
        rw [← hcomm.out]
        refine (addS_calls hs4.out (-1) (-1) 0 (by omega)).mono ?_
        rintro e w3 ⟨nv', rfl, hs5, k3, hat⟩
        have hat' := Lib.hid hat
        have k1 : Keep (SX S Pk nv) w (w2.alloc (.cells #[.slice pA pick.length pC, .int .i64 harm] 30)) := Keep.of_ext ((hx1.trans hx2).alloc _)
        have k2 : Keep (SX S Pk nv) w ((w2.alloc (.cells #[.slice pA pick.length pC, .int .i64 harm] 30)).setCell ⟨S, 5, none⟩ (.pointer (some ⟨w2.heap.size, 0, none⟩))) := Keep.setCell (p := ⟨S, 5, none⟩) k1 (Or.inl (Or.inl rfl)) _
        have k4 := k2.trans k3
        clear hat k1 k2 k3
        go_wp2
        go_ret
        have hsz := (hx1.trans hx2).size
        refine ⟨nv', .pointer (some ⟨w2.heap.size, 0, none⟩), pick, rfl, ?_, rfl, hpre.out, k4, ?_⟩
        · rw [R.out]; exact hs5
        · rcases hat'.out with h | ⟨g, h, hg⟩
          · exact Or.inl h
          · exact Or.inr ⟨g, h, by simp only [World.size_setCell, World.size_alloc] at hg; omega⟩
      · have R : Hid (foldFound (some (p, q)) [(pre, harm)] = some (p, q)) := by
          show (if harm < q then some (pre, harm) else some (p, q)) = _
          rw [if_neg hq]
        go_wp2_with fail
        refine (addS_calls hs1.out (-1) (-1) 0 (by omega)).mono ?_
        rintro e w3 ⟨nv', rfl, hs5, k3, hat⟩
        have hat' := Lib.hid hat
        have k4 := (Keep.of_ext (X := SX S Pk nv) hx1).trans k3
        clear hat k3
        go_wp2
        go_ret
        have hsz := hx1.size
        refine ⟨nv', .pointer (some ⟨F, 0, none⟩), pick, rfl, ?_, rfl, hpre.out, k4, ?_⟩
        · rw [R.out]; exact hs5
        · rcases hat'.out with h | ⟨g, h, hg⟩
          · exact Or.inl h
          · exact Or.inr ⟨g, h, by omega⟩

end Go.Proofs.Ytonmlmkemliefaa
