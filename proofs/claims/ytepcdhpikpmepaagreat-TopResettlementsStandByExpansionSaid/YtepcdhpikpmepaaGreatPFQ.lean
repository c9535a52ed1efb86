/- Merged parts: GrowC, GrowD, Base2, GrowE. -/
import Derived.Test.YtepcdhpikpmepaaGreatPEQ
import Derived.Test.YtepcdhpikpmepaaGreatPAQ
/- Walks of the search: grow, where the node is an open leaf. -/
namespace Go.Proofs.YtepcdhpikpmepaaGreat
open Go.RowKit



theorem Srch.picks {Z : Nat → Prop} {w0 w : World} {S Pk Rb : Nat} {tv nv fv : Value} {t : List WishD} {bound over : Int} {rest pick : List Int} {nodes : List NodeD} {found : Option (List Int × Int)}
  (hs : Srch Z w0 w S Pk Rb tv nv fv t bound rest pick nodes found over) (hl : pick.length ≤ 512) : Ints w (.slice (some ⟨Pk, 0, none⟩) pick.length pick.length) pick := by
 refine ints_of_owns (base := 0) ⟨by simp, Or.inr ⟨Pk, pick.length, _, rfl, by omega, hs.pk, Nat.le_refl _, ?_, by simp, by rw [Nat.mul_one, ← List.length_map (f := Value.int .i64), List.take_length]⟩⟩
 unfold maxLen; omega


set_option maxHeartbeats 3200000 in
set_option maxRecDepth 100000 in
theorem grow_leaf (Z : Nat → Prop) (w0 w : World) (S Pk Rb : Nat) (tv nv fv : Value) (t : List WishD) (bound : Int) (rest pick : List Int) (nodes : List NodeD) (found : Option (List Int × Int)) (over : Int) (pre : List Int) (harm : Int)
  (H : GrowIn Z w0 w S Pk Rb tv nv fv t bound rest pick nodes found over pre harm) (hc : ¬ 0 ≤ lastClash t pre) (hb : ¬ bound ≤ harm) (hd : pre.length = t.length) :
  Calls Tryz.prog 20 #[.pointer (some ⟨S, 0, none⟩), .int .i64 pre.length, .int .i64 harm] w
   (GrowOut Z w0 w S Pk Rb tv nv t bound rest pick nodes found over pre ⟨[leafN], [(pre, harm)], []⟩) := by
 have hpick : Hid (pick = pre) := by
  have := H.preIs
  rw [List.take_of_length_le (by rw [H.plen, hd]; exact Nat.le_refl _)] at this
  exact this
 have hlc : 0 < pre.length → lastClash t pre = earlierI t pick (pre.length - 1) := by
  intro hpos
  unfold lastClash
  rw [if_neg (by omega)]
  have e := earlierI_take (t := t) (pick := pick) (d := pre.length) (j := pre.length - 1) (by omega)
  rwa [H.preIs] at e
 obtain ⟨ta, tc, rfl⟩ := H.srch.wishes.form
 have hea : Hid (0 < pre.length → ∀ W, Ext w W → Calls Tryz.prog 39 #[.agg #[.slice ta t.length tc], .slice (some ⟨Pk, 0, none⟩) pick.length pick.length, .int .i64 ((pre.length - 1 : Nat) : Int)] W fun e w' => e = .returned (.int .i64 (lastClash t pre)) ∧ Ext W w') := by
  intro hpos W hW
  rw [hlc hpos]
  have hs := H.srch.toExt hW
  refine earlier_calls _ _ t pick (pre.length - 1) W (hs.wishes.ext hs.ext) ?_ H.task (fun j hj => ?_)
  ·refine ints_of_owns (base := 0) ⟨by simp, Or.inr ⟨Pk, pick.length, _, rfl, by omega, hs.pk, Nat.le_refl _, ?_, by simp, by rw [Nat.mul_one, ← List.length_map (f := Value.int .i64), List.take_length]⟩⟩
   have := H.few; have := H.plen; unfold maxLen; omega
  ·have := H.opts j (by omega)
   rw [← H.preIs] at this
   rwa [optOf_take (by omega)] at this
 have hS := H.srch
 have c0 := After.cell (show w.cell? ⟨S, 0, none⟩ = some (.slice ta t.length tc) from hS.blk.cell 0)
 have c3 := After.cell (show w.cell? ⟨S, 3, none⟩ = some (.slice (some ⟨Pk, 0, none⟩) pick.length pick.length) from hS.blk.cell 3)
 have hd1' : Hid (0 < pre.length → (pre.length : Int) - 1 = ((pre.length - 1 : Nat) : Int)) := by intro _; omega
 have hS' := Lib.hid hS
 have hroom := H.room
 have htm := treeMax_pos (t.drop pre.length)
 have hlen := H.len
 have hfew := H.few
 have hplen := Lib.hid H.plen
 have hpre := Lib.hid H.preIs
 have hrest := Lib.hid (H.restAt pre.length H.len)
 have hrl := H.restL
 have hh0 := H.h0
 have hh1 := H.h1
 have hls := leastSum_bd (t.drop pre.length) (fun x hx o ho => (H.harms x (List.mem_of_mem_drop hx) o ho).1)
 have hls0 := hls.1
 have hls1 : leastSum (t.drop pre.length) ≤ 512000000 := by have := hls.2; simp at this; omega
 have hzlt := Lib.hid H.zlt
 clear H hlc hS hls
 have hl0 : leastSum (t.drop pre.length) = 0 := by rw [List.drop_of_length_le (by omega)]; rfl
 rw [hl0] at hrest hls0 hls1
 have hl0' := Lib.hid hl0
 have heq : ((pre.length : Int) == (t.length : Int)) = true := by rw [beq_iff_eq]; omega
 have hpl5 : pick.length ≤ 512 := by rw [hplen.out]; exact hfew
 clear hl0 hls0 hls1 hd
 by_cases hpos : 0 < pre.length
 ·
  have hea' := Lib.hid (hea.out hpos)
  have hd2 := Lib.hid (hd1'.out hpos)
  go_enter Tryz.func20, Tryz.ntmps20
  go_wp2_with fail
  refine wp_region_after (by kernel_rfl) (by kernel_rfl) ?_
  repeat (go_big_quiet_step ((rw [hd2.out]; exact After.call _ (hea'.out _ (After.ext _)))))
  refine wpQuiet_nil ?_
  rintro _ ⟨y, rfl⟩
  have hx1 := y.ext
  generalize y.world = W1 at hx1 ⊢
  have hs1 := Lib.hid (hS'.out.toExt hx1)
  have hs0 := hs1.out
  have c0' : W1.cell? ⟨S, 0, none⟩ = some (.slice ta t.length tc) := hs0.blk.cell 0
  have c1' : W1.cell? ⟨S, 1, none⟩ = some (.int .i64 bound) := hs0.blk.cell 1
  have c2' : W1.cell? ⟨S, 2, none⟩ = some (.slice (some ⟨Rb, 0, none⟩) rest.length rest.length) := hs0.blk.cell 2
  have c6' : W1.cell? ⟨S, 6, none⟩ = some (.int .i64 over) := hs0.blk.cell 6
  have f6' : W1.frozen? ⟨S, 6, none⟩ = false := hs0.blk.frozen 6
  have r0' : W1.cell? ⟨Rb, pre.length, none⟩ = some (.int .i64 (0)) := by
   have := hs0.rb.cell pre.length
   rw [this]
   have hr := hrest.out
   simp [hr]
  have hrlt : pre.length < rest.length := (List.getElem?_eq_some_iff.1 hrest.out).1
  clear hs0 c0 c3 hrest
  have k5' : W1.cell? ⟨S, 5, none⟩ = some fv := hs1.out.blk.cell 5
  have k3' : W1.cell? ⟨S, 3, none⟩ = some (.slice (some ⟨Pk, 0, none⟩) pick.length pick.length) := hs1.out.blk.cell 3
  have hSl : S < W1.heap.size := hs1.out.blk.lt
  rcases found with _ | ⟨p, q⟩
  ·have hfv : fv = .pointer none := hs1.out.fnd
   subst hfv
   have R : Hid (foldFound none [(pre, harm)] = some (pick, harm)) := by show some (pre, harm) = _; rw [hpick.out]
   have hcl : Hid (∀ W, Ext W1 W → Calls Tryz.prog 27 #[.slice (some ⟨Pk, 0, none⟩) pick.length pick.length] W fun e w' => ∃ v, e = .returned v ∧ w'.ownsRow W.heap.size 3 1 v pick.length (pick.map (Value.int .i64)) ∧ Ext W w') :=
    fun W hW => clone_int_calls _ pick W ((hs1.out.toExt hW).picks (by omega)) (by omega)
   go_wp2_with fail
   refine (hcl.out _ (Ext.refl _)).mono ?_
   rintro e w2 ⟨pv, rfl, hown, hx2⟩
   obtain ⟨pA, pC, rfl⟩ := owns_form hown
   have hs2 := hs1.out.toExt hx2
   have hown' : w2.ownsRow w0.heap.size 3 1 (.slice pA pick.length pC) pick.length (pick.map (Value.int .i64)) := by
    refine ⟨hown.1, ?_⟩
    rcases hown.2 with h | ⟨g, cap, cur, e, hg, r⟩
    ·exact Or.inl h
    ·exact Or.inr ⟨g, cap, cur, e, Nat.le_trans hs1.out.ext.size hg, r⟩
   have hpn : ∀ g, Value.ownBlock (.slice pA pick.length pC) = some g → ¬ Z g := by
    intro g h hz
    have h1 := (hown.lt g h).1
    have h2 := hzlt.out g hz
    have h3 := hx1.size
    omega
   have hs3 : Srch Z w0 (w2.alloc (.cells #[.slice pA pick.length pC, .int .i64 harm] 33)) S Pk Rb (.slice ta t.length tc) nv (.pointer none) t bound rest pick nodes _ over := hs2.toExt ((Ext.refl _).alloc _)
   have hs4 := Lib.hid (hs3.setFound (F := w2.heap.size) (pv := .slice pA pick.length pC) (p := pick) (q := harm) hs2.ext.size (Blk.new _ _ _) (hown'.alloc _) hpn)
   have k5 : w2.cell? ⟨S, 5, none⟩ = some (.pointer none) := hs2.blk.cell 5
   have f5 : w2.frozen? ⟨S, 5, none⟩ = false := hs2.blk.frozen 5
   have hSlt : S < w2.heap.size := hs2.blk.lt
   have hcomm := Lib.hid (World.setCell_alloc_past (w := w2) (.cells #[.slice pA pick.length pC, .int .i64 harm] 33) S 5 (.pointer (some ⟨w2.heap.size, 0, none⟩)) hSlt)
   clear hcl hown hown' hs2 hs3 hpn
   go_wp2_with fail
   rw [← hcomm.out]
   refine (addS_calls hs4.out (-1) (-1) 0 (by omega)).mono ?_
   rintro e w3 ⟨nv', rfl, hs5, k3, hat⟩
   have hat' := Lib.hid hat
   have k1 : Keep (SX S Pk nv) w (w2.alloc (.cells #[.slice pA pick.length pC, .int .i64 harm] 33)) := Keep.of_ext ((hx1.trans hx2).alloc _)
   have k2 : Keep (SX S Pk nv) w ((w2.alloc (.cells #[.slice pA pick.length pC, .int .i64 harm] 33)).setCell ⟨S, 5, none⟩ (.pointer (some ⟨w2.heap.size, 0, none⟩))) := Keep.setCell (p := ⟨S, 5, none⟩) k1 (Or.inl (Or.inl rfl)) _
   have k4 := k2.trans k3
   clear hat k1 k2 k3
   go_wp2
   go_ret
   have hsz := (hx1.trans hx2).size
   refine ⟨nv', .pointer (some ⟨w2.heap.size, 0, none⟩), pick, rfl, ?_, rfl, hpre.out, k4, ?_⟩
   ·rw [R.out]; exact hs5
   ·rcases hat'.out with h | ⟨g, h, hg⟩
    ·exact Or.inl h
    ·exact Or.inr ⟨g, h, by simp only [World.size_setCell, World.size_alloc] at hg; omega⟩
  ·obtain ⟨F, pvo, hfv, hF, hFb, _, _⟩ := hs1.out.fnd
   subst hfv
   have kF : W1.cell? ⟨F, 1, none⟩ = some (.int .i64 q) := hFb.cell 1
   clear hFb hF
   by_cases hq : harm < q
   ·have R : Hid (foldFound (some (p, q)) [(pre, harm)] = some (pick, harm)) := by
     show (if harm < q then some (pre, harm) else some (p, q)) = _
     rw [if_pos hq, hpick.out]
    have hcl : Hid (∀ W, Ext W1 W → Calls Tryz.prog 27 #[.slice (some ⟨Pk, 0, none⟩) pick.length pick.length] W fun e w' => ∃ v, e = .returned v ∧ w'.ownsRow W.heap.size 3 1 v pick.length (pick.map (Value.int .i64)) ∧ Ext W w') :=
     fun W hW => clone_int_calls _ pick W ((hs1.out.toExt hW).picks (by omega)) (by omega)
    go_wp2_with fail
    refine (hcl.out _ (Ext.refl _)).mono ?_
    rintro e w2 ⟨pv, rfl, hown, hx2⟩
    obtain ⟨pA, pC, rfl⟩ := owns_form hown
    have hs2 := hs1.out.toExt hx2
    have hown' : w2.ownsRow w0.heap.size 3 1 (.slice pA pick.length pC) pick.length (pick.map (Value.int .i64)) := by
     refine ⟨hown.1, ?_⟩
     rcases hown.2 with h | ⟨g, cap, cur, e, hg, r⟩
     ·exact Or.inl h
     ·exact Or.inr ⟨g, cap, cur, e, Nat.le_trans hs1.out.ext.size hg, r⟩
    have hpn : ∀ g, Value.ownBlock (.slice pA pick.length pC) = some g → ¬ Z g := by
     intro g h hz
     have h1 := (hown.lt g h).1
     have h2 := hzlt.out g hz
     have h3 := hx1.size
     omega
    have hs3 : Srch Z w0 (w2.alloc (.cells #[.slice pA pick.length pC, .int .i64 harm] 33)) S Pk Rb (.slice ta t.length tc) nv (.pointer (some ⟨F, 0, none⟩)) t bound rest pick nodes _ over := hs2.toExt ((Ext.refl _).alloc _)
    have hs4 := Lib.hid (hs3.setFound (F := w2.heap.size) (pv := .slice pA pick.length pC) (p := pick) (q := harm) hs2.ext.size (Blk.new _ _ _) (hown'.alloc _) hpn)
    have k5 : w2.cell? ⟨S, 5, none⟩ = some (.pointer (some ⟨F, 0, none⟩)) := hs2.blk.cell 5
    have f5 : w2.frozen? ⟨S, 5, none⟩ = false := hs2.blk.frozen 5
    have hSlt : S < w2.heap.size := hs2.blk.lt
    have hcomm := Lib.hid (World.setCell_alloc_past (w := w2) (.cells #[.slice pA pick.length pC, .int .i64 harm] 33) S 5 (.pointer (some ⟨w2.heap.size, 0, none⟩)) hSlt)
    clear hcl hown hown' hs2 hs3 hpn
    go_wp2_with fail
    rw [← hcomm.out]
    refine (addS_calls hs4.out (-1) (-1) 0 (by omega)).mono ?_
    rintro e w3 ⟨nv', rfl, hs5, k3, hat⟩
    have hat' := Lib.hid hat
    have k1 : Keep (SX S Pk nv) w (w2.alloc (.cells #[.slice pA pick.length pC, .int .i64 harm] 33)) := Keep.of_ext ((hx1.trans hx2).alloc _)
    have k2 : Keep (SX S Pk nv) w ((w2.alloc (.cells #[.slice pA pick.length pC, .int .i64 harm] 33)).setCell ⟨S, 5, none⟩ (.pointer (some ⟨w2.heap.size, 0, none⟩))) := Keep.setCell (p := ⟨S, 5, none⟩) k1 (Or.inl (Or.inl rfl)) _
    have k4 := k2.trans k3
    clear hat k1 k2 k3
    go_wp2
    go_ret
    have hsz := (hx1.trans hx2).size
    refine ⟨nv', .pointer (some ⟨w2.heap.size, 0, none⟩), pick, rfl, ?_, rfl, hpre.out, k4, ?_⟩
    ·rw [R.out]; exact hs5
    ·rcases hat'.out with h | ⟨g, h, hg⟩
     ·exact Or.inl h
     ·exact Or.inr ⟨g, h, by simp only [World.size_setCell, World.size_alloc] at hg; omega⟩
   ·have R : Hid (foldFound (some (p, q)) [(pre, harm)] = some (p, q)) := by
     show (if harm < q then some (pre, harm) else some (p, q)) = _
     rw [if_neg hq]
    go_wp2_with fail
    refine (addS_calls hs1.out (-1) (-1) 0 (by omega)).mono ?_
    rintro e w3 ⟨nv', rfl, hs5, k3, hat⟩
    have hat' := Lib.hid hat
    have k4 := (Keep.of_ext (X := SX S Pk nv) hx1).trans k3
    clear hat k3
    go_wp2
    go_ret
    have hsz := hx1.size
    refine ⟨nv', .pointer (some ⟨F, 0, none⟩), pick, rfl, ?_, rfl, hpre.out, k4, ?_⟩
    ·rw [R.out]; exact hs5
    ·rcases hat'.out with h | ⟨g, h, hg⟩
     ·exact Or.inl h
     ·exact Or.inr ⟨g, h, by omega⟩
 ·
  have hx1 := Ext.refl w
  have hs1 := Lib.hid (hS'.out.toExt hx1)
  have hs0 := hs1.out
  have c0' : w.cell? ⟨S, 0, none⟩ = some (.slice ta t.length tc) := hs0.blk.cell 0
  have c1' : w.cell? ⟨S, 1, none⟩ = some (.int .i64 bound) := hs0.blk.cell 1
  have c2' : w.cell? ⟨S, 2, none⟩ = some (.slice (some ⟨Rb, 0, none⟩) rest.length rest.length) := hs0.blk.cell 2
  have c6' : w.cell? ⟨S, 6, none⟩ = some (.int .i64 over) := hs0.blk.cell 6
  have f6' : w.frozen? ⟨S, 6, none⟩ = false := hs0.blk.frozen 6
  have r0' : w.cell? ⟨Rb, pre.length, none⟩ = some (.int .i64 (0)) := by
   have := hs0.rb.cell pre.length
   rw [this]
   have hr := hrest.out
   simp [hr]
  have hrlt : pre.length < rest.length := (List.getElem?_eq_some_iff.1 hrest.out).1
  clear hs0 c0 c3 hrest
  go_enter Tryz.func20, Tryz.ntmps20
  have k5' : w.cell? ⟨S, 5, none⟩ = some fv := hs1.out.blk.cell 5
  have k3' : w.cell? ⟨S, 3, none⟩ = some (.slice (some ⟨Pk, 0, none⟩) pick.length pick.length) := hs1.out.blk.cell 3
  have hSl : S < w.heap.size := hs1.out.blk.lt
  rcases found with _ | ⟨p, q⟩
  ·have hfv : fv = .pointer none := hs1.out.fnd
   subst hfv
   have R : Hid (foldFound none [(pre, harm)] = some (pick, harm)) := by show some (pre, harm) = _; rw [hpick.out]
   have hcl : Hid (∀ W, Ext w W → Calls Tryz.prog 27 #[.slice (some ⟨Pk, 0, none⟩) pick.length pick.length] W fun e w' => ∃ v, e = .returned v ∧ w'.ownsRow W.heap.size 3 1 v pick.length (pick.map (Value.int .i64)) ∧ Ext W w') :=
    fun W hW => clone_int_calls _ pick W ((hs1.out.toExt hW).picks (by omega)) (by omega)
   go_wp2_with fail
   refine (hcl.out _ (Ext.refl _)).mono ?_
   rintro e w2 ⟨pv, rfl, hown, hx2⟩
   obtain ⟨pA, pC, rfl⟩ := owns_form hown
   have hs2 := hs1.out.toExt hx2
   have hown' : w2.ownsRow w0.heap.size 3 1 (.slice pA pick.length pC) pick.length (pick.map (Value.int .i64)) := by
    refine ⟨hown.1, ?_⟩
    rcases hown.2 with h | ⟨g, cap, cur, e, hg, r⟩
    ·exact Or.inl h
    ·exact Or.inr ⟨g, cap, cur, e, Nat.le_trans hs1.out.ext.size hg, r⟩
   have hpn : ∀ g, Value.ownBlock (.slice pA pick.length pC) = some g → ¬ Z g := by
    intro g h hz
    have h1 := (hown.lt g h).1
    have h2 := hzlt.out g hz
    have h3 := hx1.size
    omega
   have hs3 : Srch Z w0 (w2.alloc (.cells #[.slice pA pick.length pC, .int .i64 harm] 33)) S Pk Rb (.slice ta t.length tc) nv (.pointer none) t bound rest pick nodes _ over := hs2.toExt ((Ext.refl _).alloc _)
   have hs4 := Lib.hid (hs3.setFound (F := w2.heap.size) (pv := .slice pA pick.length pC) (p := pick) (q := harm) hs2.ext.size (Blk.new _ _ _) (hown'.alloc _) hpn)
   have k5 : w2.cell? ⟨S, 5, none⟩ = some (.pointer none) := hs2.blk.cell 5
   have f5 : w2.frozen? ⟨S, 5, none⟩ = false := hs2.blk.frozen 5
   have hSlt : S < w2.heap.size := hs2.blk.lt
   have hcomm := Lib.hid (World.setCell_alloc_past (w := w2) (.cells #[.slice pA pick.length pC, .int .i64 harm] 33) S 5 (.pointer (some ⟨w2.heap.size, 0, none⟩)) hSlt)
   clear hcl hown hown' hs2 hs3 hpn
   go_wp2_with fail
   rw [← hcomm.out]
   refine (addS_calls hs4.out (-1) (-1) 0 (by omega)).mono ?_
   rintro e w3 ⟨nv', rfl, hs5, k3, hat⟩
   have hat' := Lib.hid hat
   have k1 : Keep (SX S Pk nv) w (w2.alloc (.cells #[.slice pA pick.length pC, .int .i64 harm] 33)) := Keep.of_ext ((hx1.trans hx2).alloc _)
   have k2 : Keep (SX S Pk nv) w ((w2.alloc (.cells #[.slice pA pick.length pC, .int .i64 harm] 33)).setCell ⟨S, 5, none⟩ (.pointer (some ⟨w2.heap.size, 0, none⟩))) := Keep.setCell (p := ⟨S, 5, none⟩) k1 (Or.inl (Or.inl rfl)) _
   have k4 := k2.trans k3
   clear hat k1 k2 k3
   go_wp2
   go_ret
   have hsz := (hx1.trans hx2).size
   refine ⟨nv', .pointer (some ⟨w2.heap.size, 0, none⟩), pick, rfl, ?_, rfl, hpre.out, k4, ?_⟩
   ·rw [R.out]; exact hs5
   ·rcases hat'.out with h | ⟨g, h, hg⟩
    ·exact Or.inl h
    ·exact Or.inr ⟨g, h, by simp only [World.size_setCell, World.size_alloc] at hg; omega⟩
  ·obtain ⟨F, pvo, hfv, hF, hFb, _, _⟩ := hs1.out.fnd
   subst hfv
   have kF : w.cell? ⟨F, 1, none⟩ = some (.int .i64 q) := hFb.cell 1
   clear hFb hF
   by_cases hq : harm < q
   ·have R : Hid (foldFound (some (p, q)) [(pre, harm)] = some (pick, harm)) := by
     show (if harm < q then some (pre, harm) else some (p, q)) = _
     rw [if_pos hq, hpick.out]
    have hcl : Hid (∀ W, Ext w W → Calls Tryz.prog 27 #[.slice (some ⟨Pk, 0, none⟩) pick.length pick.length] W fun e w' => ∃ v, e = .returned v ∧ w'.ownsRow W.heap.size 3 1 v pick.length (pick.map (Value.int .i64)) ∧ Ext W w') :=
     fun W hW => clone_int_calls _ pick W ((hs1.out.toExt hW).picks (by omega)) (by omega)
    go_wp2_with fail
    refine (hcl.out _ (Ext.refl _)).mono ?_
    rintro e w2 ⟨pv, rfl, hown, hx2⟩
    obtain ⟨pA, pC, rfl⟩ := owns_form hown
    have hs2 := hs1.out.toExt hx2
    have hown' : w2.ownsRow w0.heap.size 3 1 (.slice pA pick.length pC) pick.length (pick.map (Value.int .i64)) := by
     refine ⟨hown.1, ?_⟩
     rcases hown.2 with h | ⟨g, cap, cur, e, hg, r⟩
     ·exact Or.inl h
     ·exact Or.inr ⟨g, cap, cur, e, Nat.le_trans hs1.out.ext.size hg, r⟩
    have hpn : ∀ g, Value.ownBlock (.slice pA pick.length pC) = some g → ¬ Z g := by
     intro g h hz
     have h1 := (hown.lt g h).1
     have h2 := hzlt.out g hz
     have h3 := hx1.size
     omega
    have hs3 : Srch Z w0 (w2.alloc (.cells #[.slice pA pick.length pC, .int .i64 harm] 33)) S Pk Rb (.slice ta t.length tc) nv (.pointer (some ⟨F, 0, none⟩)) t bound rest pick nodes _ over := hs2.toExt ((Ext.refl _).alloc _)
    have hs4 := Lib.hid (hs3.setFound (F := w2.heap.size) (pv := .slice pA pick.length pC) (p := pick) (q := harm) hs2.ext.size (Blk.new _ _ _) (hown'.alloc _) hpn)
    have k5 : w2.cell? ⟨S, 5, none⟩ = some (.pointer (some ⟨F, 0, none⟩)) := hs2.blk.cell 5
    have f5 : w2.frozen? ⟨S, 5, none⟩ = false := hs2.blk.frozen 5
    have hSlt : S < w2.heap.size := hs2.blk.lt
    have hcomm := Lib.hid (World.setCell_alloc_past (w := w2) (.cells #[.slice pA pick.length pC, .int .i64 harm] 33) S 5 (.pointer (some ⟨w2.heap.size, 0, none⟩)) hSlt)
    clear hcl hown hown' hs2 hs3 hpn
    go_wp2_with fail
    rw [← hcomm.out]
    refine (addS_calls hs4.out (-1) (-1) 0 (by omega)).mono ?_
    rintro e w3 ⟨nv', rfl, hs5, k3, hat⟩
    have hat' := Lib.hid hat
    have k1 : Keep (SX S Pk nv) w (w2.alloc (.cells #[.slice pA pick.length pC, .int .i64 harm] 33)) := Keep.of_ext ((hx1.trans hx2).alloc _)
    have k2 : Keep (SX S Pk nv) w ((w2.alloc (.cells #[.slice pA pick.length pC, .int .i64 harm] 33)).setCell ⟨S, 5, none⟩ (.pointer (some ⟨w2.heap.size, 0, none⟩))) := Keep.setCell (p := ⟨S, 5, none⟩) k1 (Or.inl (Or.inl rfl)) _
    have k4 := k2.trans k3
    clear hat k1 k2 k3
    go_wp2
    go_ret
    have hsz := (hx1.trans hx2).size
    refine ⟨nv', .pointer (some ⟨w2.heap.size, 0, none⟩), pick, rfl, ?_, rfl, hpre.out, k4, ?_⟩
    ·rw [R.out]; exact hs5
    ·rcases hat'.out with h | ⟨g, h, hg⟩
     ·exact Or.inl h
     ·exact Or.inr ⟨g, h, by simp only [World.size_setCell, World.size_alloc] at hg; omega⟩
   ·have R : Hid (foldFound (some (p, q)) [(pre, harm)] = some (p, q)) := by
     show (if harm < q then some (pre, harm) else some (p, q)) = _
     rw [if_neg hq]
    go_wp2_with fail
    refine (addS_calls hs1.out (-1) (-1) 0 (by omega)).mono ?_
    rintro e w3 ⟨nv', rfl, hs5, k3, hat⟩
    have hat' := Lib.hid hat
    have k4 := (Keep.of_ext (X := SX S Pk nv) hx1).trans k3
    clear hat k3
    go_wp2
    go_ret
    have hsz := hx1.size
    refine ⟨nv', .pointer (some ⟨F, 0, none⟩), pick, rfl, ?_, rfl, hpre.out, k4, ?_⟩
    ·rw [R.out]; exact hs5
    ·rcases hat'.out with h | ⟨g, h, hg⟩
     ·exact Or.inl h
     ·exact Or.inr ⟨g, h, by omega⟩

end Go.Proofs.YtepcdhpikpmepaaGreat

/- Walks of the search: grow, where the node decides a wish: what a round of its loop does, in plain terms. -/
namespace Go.Proofs.YtepcdhpikpmepaaGreat
open Go.RowKit

theorem keep_chain {w w1 w2 : World} {S Pk : Nat} {a b : Value} (h : Keep (SX S Pk a) w w1) (hb : b.ownBlock = a.ownBlock ∨ ∃ g, b.ownBlock = some g ∧ w.heap.size ≤ g) (k : Keep (SX S Pk b) w1 w2) : Keep (SX S Pk a) w w2 := by
 refine h.trans' k fun i hi hx => ?_
 rcases hx with hx | hx | hx
 ·exact Or.inl hx
 ·exact Or.inr (Or.inl hx)
 ·rcases hb with hb | ⟨g, hg, hge⟩
  ·exact Or.inr (Or.inr (hb ▸ hx))
  ·rw [hg] at hx; cases hx; omega
theorem nvs_chain {w w1 : World} {a b c : Value} (hw : w.heap.size ≤ w1.heap.size) (h : b.ownBlock = a.ownBlock ∨ ∃ g, b.ownBlock = some g ∧ w.heap.size ≤ g) (h' : c.ownBlock = b.ownBlock ∨ ∃ g, c.ownBlock = some g ∧ w1.heap.size ≤ g) :
  c.ownBlock = a.ownBlock ∨ ∃ g, c.ownBlock = some g ∧ w.heap.size ≤ g := by
 rcases h' with h' | ⟨g, hg, hge⟩
 ·rw [h']; exact h
 ·exact Or.inr ⟨g, hg, by omega⟩
theorem foldFound_append (f : Option (List Int × Int)) (a b : List (List Int × Int)) : foldFound f (a ++ b) = foldFound (foldFound f a) b := by simp [foldFound, List.foldl_append]
theorem foldOver_append (o : Int) (a b : List Int) : foldOver o (a ++ b) = foldOver (foldOver o a) b := by simp [foldOver, List.foldl_append]

def ZK (Z : Nat → Prop) (kv : Value) : Nat → Prop := fun g => Z g ∨ kv.ownBlock = some g
structure Round (Z : Nat → Prop) (w0 w1 wr : World) (S Pk Rb : Nat) (tv nv1 nv fv : Value) (t : List WishD) (bound : Int) (rest pick : List Int) (nodes : List NodeD) (found : Option (List Int × Int)) (over : Int) (pre : List Int) (kv : Value) (K : KRes) : Prop where
 srch : Srch (ZK Z kv) w0 wr S Pk Rb tv nv fv t bound rest pick (nodes ++ K.nodes) (foldFound found K.opens) (foldOver over K.ests)
 plen : pick.length = t.length
 preIs : pick.take pre.length = pre
 keep : Keep (SX S Pk nv1) w1 wr
 nvs : nv.ownBlock = nv1.ownBlock ∨ ∃ g, nv.ownBlock = some g ∧ w1.heap.size ≤ g
 row : wr.ownsRow w1.heap.size 3 1 kv K.kids.length (K.kids.map (Value.int .i64))

section
variable {Z : Nat → Prop} {w0 w w1 wr w3 w4 : World} {S Pk Rb : Nat} {tv nv0 nv1 nv fv nv' fv' kv v' : Value} {t : List WishD} {bound over0 over harm idx : Int} {rest pick0 pick pick' : List Int} {nodes0 nodes : List NodeD}
 {found0 found : Option (List Int × Int)} {pre : List Int} {K : KRes} {x : WishD} {o : OptD} {k : Nat} {F0 : Value}

theorem Round.call (R : Round Z w0 w1 wr S Pk Rb tv nv1 nv fv t bound rest pick nodes found over pre kv K)
  (H : GrowIn Z w0 w S Pk Rb tv nv0 F0 t bound rest pick0 nodes0 found0 over0 pre harm) (hx : t[pre.length]? = some x) (ho : x.opts[k]? = some o) (hw : w.heap.size ≤ w1.heap.size)
  (hroom : (nodes ++ K.nodes).length + treeMax (t.drop (pre.length + 1)) ≤ 65536) (O : Obj) :
  GrowIn (ZK Z kv) w0 ((wr.setCell ⟨Pk, pre.length, none⟩ (.int .i64 k)).alloc O) S Pk Rb tv nv fv t bound rest (pick.set pre.length k) (nodes ++ K.nodes) (foldFound found K.opens) (foldOver over K.ests) (pre ++ [(k : Int)]) (harm + o.harm) := by
 have hlt : pre.length < t.length := (List.getElem?_eq_some_iff.1 hx).1
 have hh := H.harms x (List.mem_of_getElem? hx) o (List.mem_of_getElem? ho)
 refine ⟨?_, (R.srch.setPick pre.length k).toExt ((Ext.refl _).alloc _), H.task, H.few, H.harms, H.restAt, H.restL, by rw [List.length_set]; exact R.plen, ?_, by simp; omega, ?_, by have := H.h0; omega, ?_, by simpa using hroom⟩
 ·intro g hg
  simp only [World.size_alloc, World.size_setCell]
  rcases hg with hg | hg
  ·have := H.zlt g hg; have := R.keep.size; omega
  ·have := (R.row.lt g hg).2; omega
 ·rw [List.length_append, List.length_singleton, List.take_add_one]
  rw [List.take_set_of_le (Nat.le_refl _), R.preIs]
  simp [R.plen, hlt]
 ·intro j hj
  simp only [List.length_append, List.length_singleton] at hj
  by_cases e : j = pre.length
  ·subst e
   have hk : k < x.opts.length := (List.getElem?_eq_some_iff.1 ho).1
   simp [optOf, hx, hk]
  ·have := H.opts j (by omega)
   have e2 : optOf t (pre ++ [(k : Int)]) j = optOf t pre j := by simp only [optOf]; rw [List.getElem?_append_left (by omega)]
   rw [e2]; exact this
 ·have := H.h1
  simp only [List.length_append, List.length_singleton]
  omega

theorem Round.row3 (R : Round Z w0 w1 wr S Pk Rb tv nv1 nv fv t bound rest pick nodes found over pre kv K) (hP : Pk < w1.heap.size) (d : Nat) (u : Value) (O : Obj) {X : Nat → Prop}
  (k3 : Keep X ((wr.setCell ⟨Pk, d, none⟩ u).alloc O) w3) (hX : X = SX S Pk nv) : w3.ownsRow w1.heap.size 3 1 kv K.kids.length (K.kids.map (Value.int .i64)) := by
 subst hX
 have k1 : Keep (fun g => g = Pk) wr ((wr.setCell ⟨Pk, d, none⟩ u).alloc O) := (keep_set wr Pk d u).alloc O
 have hne : ∀ g, kv.ownBlock = some g → ¬ g = Pk := fun g hg e => by have := (R.row.lt g hg).1; omega
 refine k3.owns (k1.owns R.row hne) fun g hg hx => ?_
 obtain ⟨cs, hc⟩ := owns_block R.row hg
 rcases SX_int R.srch g hx with h | h
 ·rcases hx with hx | hx | hx
  ·have := blk_type (hx ▸ hc) R.srch.blk; revert this; decide
  ·exact hne g hg hx
  ·obtain ⟨xs, o1, _⟩ := R.srch.owns
   obtain ⟨cs', hc'⟩ := owns_block o1 hx
   have := blk_type hc hc'; revert this; decide
 ·exact h cs hc

theorem Round.next (R : Round Z w0 w1 wr S Pk Rb tv nv1 nv fv t bound rest pick nodes found over pre kv K) (hP : Pk < w1.heap.size) (hR : Rb < w1.heap.size) (hw0 : w0.heap.size ≤ w1.heap.size) (d : Nat) (u : Value) (O O' : Obj)
  {R' : Res} {K' : KRes} (hK : K' = ⟨K.nodes ++ R'.nodes, K.kids ++ [idx], K.opens ++ R'.opens, K.ests ++ R'.ests⟩)
  (hs : Srch (ZK Z kv) w0 w3 S Pk Rb tv nv' fv' t bound rest pick' (nodes ++ K.nodes ++ R'.nodes) (foldFound (foldFound found K.opens) R'.opens) (foldOver (foldOver over K.ests) R'.ests))
  (hpl : pick'.length = (pick.set d (k : Int)).length) (hpre : pick'.take (pre ++ [(k : Int)]).length = pre ++ [(k : Int)])
  (k3 : Keep (SX S Pk nv) ((wr.setCell ⟨Pk, d, none⟩ u).alloc O) w3) (hnv : nv'.ownBlock = nv.ownBlock ∨ ∃ g, nv'.ownBlock = some g ∧ ((wr.setCell ⟨Pk, d, none⟩ u).alloc O).heap.size ≤ g)
  (hown : w4.ownsRow w1.heap.size 3 1 v' (K.kids.length + 1) (K.kids.map (Value.int .i64) ++ [.int .i64 idx])) (hg : (w3.alloc O').grownBy w4 kv.ownBlock)
  (hat : v'.ownBlock = kv.ownBlock ∨ v'.ownBlock = some (w3.alloc O').heap.size) :
  Round Z w0 w1 w4 S Pk Rb tv nv1 nv' fv' t bound rest pick' nodes found over pre v' K' := by
 have hr3 := R.row3 hP d u O k3 rfl
 have hs4 : Srch (ZK Z kv) w0 (w3.alloc O') S Pk Rb tv nv' fv' t bound rest pick' (nodes ++ K.nodes ++ R'.nodes) (foldFound (foldFound found K.opens) R'.opens) (foldOver (foldOver over K.ests) R'.ests) := hs.toExt ((Ext.refl _).alloc _)
 have hbase : ∀ g, kv.ownBlock = some g → w1.heap.size ≤ g := fun g hg => (hr3.lt g hg).1
 have kk : Keep (fun g => kv.ownBlock = some g) (w3.alloc O') w4 := Keep.grown (X := fun g => kv.ownBlock = some g) (Keep.refl _ _) hg (fun g h => Or.inl h)
 have hsz1 : w1.heap.size ≤ w3.heap.size := by
  have := R.keep.size; have := k3.size; simp only [World.size_alloc, World.size_setCell] at this; omega
 have hs5 : Srch (fun g => ZK Z kv g ∨ v'.ownBlock = some g) w0 w4 S Pk Rb tv nv' fv' t bound rest pick' (nodes ++ K.nodes ++ R'.nodes) (foldFound (foldFound found K.opens) R'.opens) (foldOver (foldOver over K.ests) R'.ests) := by
  refine Srch.row (X := fun g => kv.ownBlock = some g) (hs4.more (Z' := fun g => ZK Z kv g ∨ v'.ownBlock = some g) ?_ (fun g h => Or.inl h)) kk ?_
  ·intro g hgl h
   rcases h with h | h
   ·exact h
   ·rcases hat with e | e
    ·rw [e] at h; exact Or.inr h
    ·rw [e] at h; cases h; omega
  ·intro g hkg
   refine ⟨Or.inl (Or.inr hkg), ?_, ?_, ?_, ?_⟩
   ·rintro rfl; have := hbase _ hkg; omega
   ·rintro rfl; have := hbase _ hkg; omega
   ·have := hbase _ hkg; omega
   ·obtain ⟨cs, hc⟩ := owns_block hr3 hkg
    exact ⟨cs, hc.alloc _⟩
 subst hK
 refine ⟨?_, hpl.trans (by rw [List.length_set]; exact R.plen), ?_, ?_, ?_, ?_⟩
 ·simp only [foldFound_append, foldOver_append, ← List.append_assoc]
  refine hs5.less (fun g h => ?_) (Or.inl ?_) (Or.inl ?_)
  ·rcases h with h | h
   ·exact Or.inl (Or.inl h)
   ·exact Or.inr h
  ·rcases R.srch.zP with h | h
   ·exact h
   ·have := hbase _ h; omega
  ·rcases R.srch.zR with h | h
   ·exact h
   ·have := hbase _ h; omega
 ·have e := congrArg (List.take pre.length) hpre
  rw [List.take_take, List.length_append, List.length_singleton, Nat.min_eq_left (by omega), List.take_left' rfl] at e
  exact e
 ·have k1 : Keep (SX S Pk nv1) w1 ((wr.setCell ⟨Pk, d, none⟩ u).alloc O) := (Keep.setCell (p := ⟨Pk, d, none⟩) R.keep (Or.inl (Or.inr (Or.inl rfl))) u).alloc O
  have k2 := (keep_chain k1 R.nvs k3).alloc O'
  exact k2.grown hg (fun g h => Or.inr (hbase g h))
 ·exact nvs_chain (w := w1) (w1 := (wr.setCell ⟨Pk, d, none⟩ u).alloc O) (by have := R.keep.size; simp only [World.size_alloc, World.size_setCell]; omega) R.nvs hnv
 ·simpa using hown
end

end Go.Proofs.YtepcdhpikpmepaaGreat

/- More on the readings: element lemmas of slices that are written out. -/
namespace Go.Proofs.YtepcdhpikpmepaaGreat
open Go.RowKit

theorem Ints.at_ {w : World} {a : Option Addr} {n c : Nat} {l : List Int} (h : Ints w (.slice a n c) l) : IntsAt a w l ∧ n = l.length := by
 obtain ⟨_, _, e, _, _, hh⟩ := h.open; cases e; exact ⟨hh, rfl⟩
theorem Spans.at_ {w : World} {a : Option Addr} {n c : Nat} {l : List (Int × Int)} (h : Spans w (.slice a n c) l) : SpansAt a w l ∧ n = l.length := by
 obtain ⟨_, _, e, _, _, hh⟩ := h.open; cases e; exact ⟨hh, rfl⟩
theorem Opts.at_ {w : World} {a : Option Addr} {n c : Nat} {l : List OptD} (h : Opts w (.slice a n c) l) : OptsAt a w l ∧ n = l.length := by
 obtain ⟨_, _, e, _, _, hh⟩ := h.open; cases e; exact ⟨hh, rfl⟩
theorem Wishes.at_ {w : World} {a : Option Addr} {n c : Nat} {l : List WishD} (h : Wishes w (.slice a n c) l) : WishesAt a w l ∧ n = l.length := by
 obtain ⟨_, _, e, _, _, hh⟩ := h.open; cases e; exact ⟨hh, rfl⟩
theorem Nodes.at_ {w : World} {a : Option Addr} {n c : Nat} {l : List NodeD} (h : Nodes w (.slice a n c) l) : NodesAt a w l ∧ n = l.length := by
 obtain ⟨_, _, e, _, _, hh⟩ := h.open; cases e; exact ⟨hh, rfl⟩

end Go.Proofs.YtepcdhpikpmepaaGreat

/- Walks of the search: grow, where the node decides a wish; grow whole. -/
namespace Go.Proofs.YtepcdhpikpmepaaGreat
open Go.RowKit



def growF (t : List WishD) (bound : Int) (r : List WishD) (pre : List Int) (harm : Int) : Int → OptD → Nat → Res := fun i o N' => growL t bound r (pre ++ [i]) (harm + o.harm) N'


set_option maxHeartbeats 3200000 in
set_option maxRecDepth 100000 in
theorem grow_node (Z : Nat → Prop) (w0 w : World) (S Pk Rb : Nat) (tv nv fv : Value) (t : List WishD) (bound : Int) (rest pick : List Int) (nodes : List NodeD) (found : Option (List Int × Int)) (over : Int) (pre : List Int) (harm : Int)
  (H : GrowIn Z w0 w S Pk Rb tv nv fv t bound rest pick nodes found over pre harm) (hc : ¬ 0 ≤ lastClash t pre) (hb : ¬ bound ≤ harm + leastSum (t.drop pre.length)) (x : WishD) (r : List WishD) (hd : t.drop pre.length = x :: r)
  (ih : ∀ (Z : Nat → Prop) (w : World) (nv fv : Value) (pick : List Int) (nodes : List NodeD) (found : Option (List Int × Int)) (over : Int) (pre : List Int) (harm : Int),
   GrowIn Z w0 w S Pk Rb tv nv fv t bound rest pick nodes found over pre harm → t.drop pre.length = r →
   Calls Tryz.prog 20 #[.pointer (some ⟨S, 0, none⟩), .int .i64 pre.length, .int .i64 harm] w (GrowOut Z w0 w S Pk Rb tv nv t bound rest pick nodes found over pre (growL t bound r pre harm nodes.length))) :
  Calls Tryz.prog 20 #[.pointer (some ⟨S, 0, none⟩), .int .i64 pre.length, .int .i64 harm] w
   (GrowOut Z w0 w S Pk Rb tv nv t bound rest pick nodes found over pre ⟨⟨(pre.length : Int), (kidsG (growF t bound r pre harm) x.opts 0 (nodes.length + 1)).kids, 0, 0⟩ :: (kidsG (growF t bound r pre harm) x.opts 0 (nodes.length + 1)).nodes,
    (kidsG (growF t bound r pre harm) x.opts 0 (nodes.length + 1)).opens, (kidsG (growF t bound r pre harm) x.opts 0 (nodes.length + 1)).ests⟩) := by
 obtain ⟨i0, hi0, hz0, hz1, hz2⟩ := info_parts int_info
 have hHH := Lib.hid H
 have hxd : Hid (t[pre.length]? = some x) := by
  have := congrArg (fun l => l[0]?) hd
  show _ = _
  simpa using this
 have hrd : Hid (t.drop (pre.length + 1) = r) := by
  have := congrArg List.tail hd
  show _ = _
  simpa using this
 have hlt : pre.length < t.length := (List.getElem?_eq_some_iff.1 hxd.out).1
 have hroom' : Hid (nodes.length + (1 + x.opts.length * treeMax r) ≤ 65536) := by have := H.room; rw [hd] at this; exact this
 have ih' := ih
 clear ih
 have hlc : 0 < pre.length → lastClash t pre = earlierI t pick (pre.length - 1) := by
  intro hpos
  unfold lastClash
  rw [if_neg (by omega)]
  have e := earlierI_take (t := t) (pick := pick) (d := pre.length) (j := pre.length - 1) (by omega)
  rwa [H.preIs] at e
 obtain ⟨ta, tc, rfl⟩ := H.srch.wishes.form
 have hea : Hid (0 < pre.length → ∀ W, Ext w W → Calls Tryz.prog 39 #[.agg #[.slice ta t.length tc], .slice (some ⟨Pk, 0, none⟩) pick.length pick.length, .int .i64 ((pre.length - 1 : Nat) : Int)] W fun e w' => e = .returned (.int .i64 (lastClash t pre)) ∧ Ext W w') := by
  intro hpos W hW
  rw [hlc hpos]
  have hs := H.srch.toExt hW
  refine earlier_calls _ _ t pick (pre.length - 1) W (hs.wishes.ext hs.ext) ?_ H.task (fun j hj => ?_)
  ·refine ints_of_owns (base := 0) ⟨by simp, Or.inr ⟨Pk, pick.length, _, rfl, by omega, hs.pk, Nat.le_refl _, ?_, by simp, by rw [Nat.mul_one, ← List.length_map (f := Value.int .i64), List.take_length]⟩⟩
   have := H.few; have := H.plen; unfold maxLen; omega
  ·have := H.opts j (by omega)
   rw [← H.preIs] at this
   rwa [optOf_take (by omega)] at this
 have hS := H.srch
 have c0 := After.cell (show w.cell? ⟨S, 0, none⟩ = some (.slice ta t.length tc) from hS.blk.cell 0)
 have c3 := After.cell (show w.cell? ⟨S, 3, none⟩ = some (.slice (some ⟨Pk, 0, none⟩) pick.length pick.length) from hS.blk.cell 3)
 have hd1' : Hid (0 < pre.length → (pre.length : Int) - 1 = ((pre.length - 1 : Nat) : Int)) := by intro _; omega
 have hS' := Lib.hid hS
 have hroom := H.room
 have htm := treeMax_pos (t.drop pre.length)
 have hlen := H.len
 have hfew := H.few
 have hplen := Lib.hid H.plen
 have hpre := Lib.hid H.preIs
 have hrest := Lib.hid (H.restAt pre.length H.len)
 have hrl := H.restL
 have hh0 := H.h0
 have hh1 := H.h1
 have hls := leastSum_bd (t.drop pre.length) (fun x hx o ho => (H.harms x (List.mem_of_mem_drop hx) o ho).1)
 have hls0 := hls.1
 have hls1 : leastSum (t.drop pre.length) ≤ 512000000 := by have := hls.2; simp at this; omega
 have hzlt := Lib.hid H.zlt
 clear H hlc hS hls
 have ih := ih'
 clear ih'
 have hatw := (hHH.out.srch.wishes).at_.1
 obtain ⟨b1, o1, x', xa, xc, oa, oc, rfl, hb1, _, ex, g1, g2, g3, _, gopt⟩ := hatw pre.length hlt w0 (Ext.refl _)
 obtain rfl : x = x' := Option.some.inj (hxd.out.symm.trans ex.out)
 have lo := gopt.len
 have oat := gopt.at_.1
 have hne : ((pre.length : Int) == (t.length : Int)) = false := by rw [beq_eq_false_iff_ne]; omega
 have htm' := treeMax_pos r
 clear hatw gopt hd ex g1 g2
 by_cases hpos : 0 < pre.length
 ·
  have hea' := Lib.hid (hea.out hpos)
  have hd2 := Lib.hid (hd1'.out hpos)
  go_enter Tryz.func20, Tryz.ntmps20
  go_wp2_with fail
  refine wp_region_after (by kernel_rfl) (by kernel_rfl) ?_
  repeat (go_big_quiet_step ((rw [hd2.out]; exact After.call _ (hea'.out _ (After.ext _)))))
  refine wpQuiet_nil ?_
  rintro _ ⟨y, rfl⟩
  have hx1 := y.ext
  generalize y.world = W1 at hx1 ⊢
  have hs1 := Lib.hid (hS'.out.toExt hx1)
  have hs0 := hs1.out
  have c0' : W1.cell? ⟨S, 0, none⟩ = some (.slice (some ⟨b1, o1, none⟩) t.length tc) := hs0.blk.cell 0
  have c1' : W1.cell? ⟨S, 1, none⟩ = some (.int .i64 bound) := hs0.blk.cell 1
  have c2' : W1.cell? ⟨S, 2, none⟩ = some (.slice (some ⟨Rb, 0, none⟩) rest.length rest.length) := hs0.blk.cell 2
  have c6' : W1.cell? ⟨S, 6, none⟩ = some (.int .i64 over) := hs0.blk.cell 6
  have f6' : W1.frozen? ⟨S, 6, none⟩ = false := hs0.blk.frozen 6
  have r0' : W1.cell? ⟨Rb, pre.length, none⟩ = some (.int .i64 (leastSum (t.drop pre.length))) := by
   have := hs0.rb.cell pre.length
   rw [this]
   have hr := hrest.out
   simp [hr]
  have hrlt : pre.length < rest.length := (List.getElem?_eq_some_iff.1 hrest.out).1
  clear hs0 c0 c3 hrest
  go_wp2_with fail
  refine (addS_calls hs1.out (pre.length : Int) 0 0 (by omega)).mono ?_
  rintro e w1 ⟨nv1, rfl, hs2, k1, hat⟩
  have hat' := Lib.hid hat
  have hsz01 := hx1.size
  have hsz12 := k1.size
  have q0 : w1.cell? ⟨S, 0, none⟩ = some (.slice (some ⟨b1, o1, none⟩) t.length tc) := hs2.blk.cell 0
  have q3 := Lib.hid (hs2.ext.cell g3)
  have q3' := q3.out
  have hs2' := Lib.hid hs2
  have hPlt := hs2.pk.lt
  have hRlt := hs2.rb.lt
  have hwlt := hs2.ext.size
  clear hat hs2 c0' c1' c2' c6' f6' r0' q3
  go_wp2_with fail
  go_loopw [11, 116] (fun vk vi wr => ∃ (k : Nat) (nv fv : Value) (pick : List Int), k ≤ x.opts.length ∧ vi = .int .i64 k ∧
    Hid (Round Z w0 w1 wr S Pk Rb (.slice (some ⟨b1, o1, none⟩) t.length tc) nv1 nv fv t bound rest pick (nodes ++ [⟨(pre.length : Int), [], 0, 0⟩]) found over pre vk (kidsG (growF t bound r pre harm) (x.opts.take k) 0 (nodes.length + 1)))) (fun _ vi _ => x.opts.length - (intOf vi).toNat)
  case atStart =>
   refine ⟨0, nv1, fv, pick, Nat.zero_le _, rfl, ?_⟩
   refine ⟨?_, hplen.out, hpre.out, Keep.refl _ _, Or.inl rfl, World.ownsRow_nil _ _ _ _⟩
   simp only [List.take_zero, kidsG, List.append_nil]
   exact hs2'.out.more (fun g _ h => by rcases h with h | h; exact h; simp [Value.ownBlock] at h) (fun g h => Or.inl h)
  case round =>
   obtain ⟨k, nv, fv, pick, hk, rfl, hR0⟩ := hrel
   obtain ⟨K, hK⟩ : ∃ K, Hid (kidsG (growF t bound r pre harm) (x.opts.take k) 0 (nodes.length + 1) = K) := ⟨_, rfl⟩
   have hR : Hid (Round Z w0 w1 wr S Pk Rb (.slice (some ⟨b1, o1, none⟩) t.length tc) nv1 nv fv t bound rest pick (nodes ++ [⟨(pre.length : Int), [], 0, 0⟩]) found over pre u11 K) := by have h := hR0.out; rw [hK.out] at h; exact h
   clear hR0
   obtain ⟨kA, kC, rfl⟩ := owns_form hR.out.row
   have hkl : K.kids.length = k := by
    have := kidsG_kids_len (growF t bound r pre harm) (x.opts.take k) 0 (nodes.length + 1)
    rw [List.length_take, Nat.min_eq_left hk, hK.out] at this
    exact this
   have hs3 := Lib.hid hR.out.srch
   have hsz2 := hR.out.keep.size
   have hx16 : x.opts.length ≤ 65536 := by
    have e1 : x.opts.length * 1 ≤ x.opts.length * treeMax r := Nat.mul_le_mul_left _ (by omega)
    have := hroom'.out
    omega
   by_cases h1 : k < x.opts.length
   ·obtain ⟨b2, o2, o, sa, sc, rfl, hb2, _, eo, p1, p2, p3, _⟩ := oat k h1 wr hs3.out.ext
    have hih := hR.out.call (O := .cells #[.int .i64 o.harm, .int .i64 o.room, .slice sa o.spans.length sc] 64) hHH.out hxd.out eo.out (by omega) (by
     have hn := kidsG_len (f := growF t bound r pre harm) (m := treeMax r) (fun i o N => growL_len t bound r _ _ _) (x.opts.take k) 0 (nodes.length + 1)
     rw [List.length_take, Nat.min_eq_left hk, hK.out] at hn
     have hm := hroom'.out
     have e1 : (k + 1) * treeMax r ≤ x.opts.length * treeMax r := Nat.mul_le_mul_right _ (by omega)
     rw [Nat.add_mul] at e1
     rw [hrd.out]
     simp only [List.length_append, List.length_singleton]
     omega)
    have hcall := Lib.hid (ih _ _ _ _ _ _ _ _ _ _ hih (by simp only [List.length_append, List.length_singleton]; exact hrd.out))
    obtain ⟨idx, hidx⟩ : ∃ idx : Nat, Hid ((nodes ++ [(⟨(pre.length : Int), [], 0, 0⟩ : NodeD)] ++ K.nodes).length = idx) := ⟨_, rfl⟩
    have hidx2 : Hid (idx = nodes.length + 1 + K.nodes.length) := by
     show _ = _
     rw [← hidx.out]
     simp; omega
    have hdl : Hid (((pre ++ [(k : Int)]).length : Int) = (pre.length : Int) + 1) := by show _ = _; simp
    have m0 : wr.cell? ⟨S, 3, none⟩ = some (.slice (some ⟨Pk, 0, none⟩) pick.length pick.length) := hs3.out.blk.cell 3
    have hpl' := hR.out.plen
    have hpl'' := Lib.hid hpl'
    have hpd : pre.length < pick.length := by omega
    have m1 : wr.cell? ⟨Pk, pre.length, none⟩ = some (.int .i64 (pick[pre.length]?.getD 0)) := by
     have := hs3.out.pk.cell pre.length
     rw [this]
     simp [hpd]
    generalize pick[pre.length]?.getD 0 = old at m1
    have m2 : wr.frozen? ⟨Pk, pre.length, none⟩ = false := hs3.out.pk.frozen _
    have hPw : Pk < wr.heap.size := hs3.out.pk.lt
    have hSw : S < wr.heap.size := hs3.out.blk.lt
    have ho1 : 0 ≤ o.harm := (hHH.out.harms x (List.mem_of_getElem? hxd.out) o (List.mem_of_getElem? eo.out)).1
    have ho2 : o.harm ≤ 1000000 := (hHH.out.harms x (List.mem_of_getElem? hxd.out) o (List.mem_of_getElem? eo.out)).2
    have hSP : Hid (S ≠ Pk) := hs3.out.S_ne
    have hkl2 := Lib.hid hkl
    have hkle : K.kids.length ≤ 65536 := by omega
    clear hpl' hih hkl
    go_wp2_with fail
    rw [← hdl.out]
    refine hcall.out.mono ?_
    rintro e w3 ⟨nv', fv', pick', rfl, hs4, hpl4, hpre4, k4, hnv4⟩
    rw [hidx.out]
    have hrow3 := hR.out.row3 hPlt _ _ _ k4 rfl
    have hsz3 : w1.heap.size ≤ w3.heap.size := by have := k4.size; simp only [World.size_alloc, World.size_setCell] at this; omega
    have hfin : Hid (∀ v' w4, w4.ownsRow w1.heap.size 3 1 v' (K.kids.length + 1) (K.kids.map (Value.int .i64) ++ [.int .i64 idx]) → (w3.alloc (.cells #[.int .i64 idx] 3)).grownBy w4 (Value.slice kA K.kids.length kC).ownBlock →
      (v'.ownBlock = (Value.slice kA K.kids.length kC).ownBlock ∨ v'.ownBlock = some (w3.alloc (.cells #[.int .i64 idx] 3)).heap.size) →
      Round Z w0 w1 w4 S Pk Rb (.slice (some ⟨b1, o1, none⟩) t.length tc) nv1 nv' fv' t bound rest pick' (nodes ++ [⟨(pre.length : Int), [], 0, 0⟩]) found over pre v' (kidsG (growF t bound r pre harm) (x.opts.take (k + 1)) 0 (nodes.length + 1))) := by
     intro v' w4 h1' h2' h3'
     refine hR.out.next (idx := idx) (k := k) hPlt hRlt hwlt pre.length _ _ (.cells #[.int .i64 idx] 3) ?_ hs4 hpl4 hpre4 k4 hnv4 h1' h2' h3'
     have e := kidsG_step (growF t bound r pre harm) x.opts k o eo.out 0 (nodes.length + 1)
     rw [hK.out] at e
     rw [e]
     simp only [growF, Int.zero_add, ← hidx2.out, hidx.out]
    clear hs4 hpl4 hpre4 k4 hnv4 m0 m1 m2 p1 p2 p3 hcall
    go_wp2_with (at_builtin; refine wpList_append_any _ rfl (.tmp 128) (.tmp 137) _ rfl w1.heap.size 3 i0 _ 1 8 Tryz.underlying31 hi0 hz0 hz1 hz2 rfl (by decide) (.slice kA K.kids.length kC) K.kids.length (K.kids.map (Value.int .i64)) rfl (hrow3.alloc _) (w3.heap.size + 1) (some ⟨w3.heap.size, 0, none⟩) 1 1 [.int .i64 idx] rfl (reads_last _ #[_] _ 1 1 _ _ rfl (by omega) rfl) (by intro u hu; simp at hu; subst hu; rfl) (by unfold maxLen; omega) (by omega) (by simp; omega) ?_; intro v1 w4 hown1 hg1 hat1)
    have hRn := Lib.hid (hfin.out v1 w4 hown1 hg1 hat1)
    clear hown1 hg1 hat1 hfin hrow3
    go_wp2
    go_roundw
    case rel => exact ⟨k + 1, nv', fv', pick', by omega, by go_num, hRn⟩
    case measure => simp [intOf]; omega
   ·have hkx : k = x.opts.length := by omega
    have hi : ((nodes ++ [(⟨(pre.length : Int), [], 0, 0⟩ : NodeD)] ++ K.nodes))[nodes.length]? = some ⟨(pre.length : Int), [], 0, 0⟩ := by simp
    have hkv : KidsOk wr w0.heap.size Z (.slice kA K.kids.length kC) K.kids := by
     refine ⟨⟨hR.out.row.1, ?_⟩, fun g hg hz => ?_⟩
     ·rcases hR.out.row.2 with h | ⟨g, cap, cur, e, hg, r⟩
      ·exact Or.inl h
      ·exact Or.inr ⟨g, cap, cur, e, by omega, r⟩
     ·have := (hR.out.row.lt g hg).1; have := hzlt.out g hz; omega
    have hsZ : Srch Z w0 wr S Pk Rb (.slice (some ⟨b1, o1, none⟩) t.length tc) nv fv t bound rest pick (nodes ++ [(⟨(pre.length : Int), [], 0, 0⟩ : NodeD)] ++ K.nodes) (foldFound found K.opens) (foldOver over K.ests) :=
     hs3.out.less (fun g h => Or.inl h) hs2'.out.zP hs2'.out.zR
    obtain ⟨g, c, rfl, hcell, hfr, hsF, hkF⟩ := hsZ.setKids hi hkv
    obtain ⟨old, hold⟩ := Option.ne_none_iff_exists'.1 hcell
    have hKx : Hid (kidsG (growF t bound r pre harm) x.opts 0 (nodes.length + 1) = K) := by
     have := hK.out
     rwa [hkx, List.take_length] at this
    have hsF' : Hid (Srch Z w0 (wr.setCell ⟨g, nodes.length * 4 + 1, none⟩ (.slice kA K.kids.length kC)) S Pk Rb (.slice (some ⟨b1, o1, none⟩) t.length tc) (.slice (some ⟨g, 0, none⟩) (nodes ++ [(⟨(pre.length : Int), [], 0, 0⟩ : NodeD)] ++ K.nodes).length c) fv t bound rest pick
      (nodes ++ (⟨(pre.length : Int), K.kids, 0, 0⟩ : NodeD) :: K.nodes) (foldFound found K.opens) (foldOver over K.ests)) := by
     have e : (nodes ++ [(⟨(pre.length : Int), [], 0, 0⟩ : NodeD)] ++ K.nodes).set nodes.length ⟨(pre.length : Int), K.kids, 0, 0⟩ = nodes ++ (⟨(pre.length : Int), K.kids, 0, 0⟩ : NodeD) :: K.nodes := by simp
     show Srch _ _ _ _ _ _ _ _ _ _ _ _ _ _ _ _
     rw [← e]
     exact hsF
    have hkA := keep_chain (w := w) ((Keep.of_ext hx1).trans k1) (b := nv1) (by
     rcases hat'.out with h | ⟨g, h, hg⟩
     ·exact Or.inl h
     ·exact Or.inr ⟨g, h, by omega⟩) hR.out.keep
    have hnA : (Value.slice (some ⟨g, 0, none⟩) (nodes ++ [(⟨(pre.length : Int), [], 0, 0⟩ : NodeD)] ++ K.nodes).length c).ownBlock = Value.ownBlock _ ∨ (∃ g', (Value.slice (some ⟨g, 0, none⟩) (nodes ++ [(⟨(pre.length : Int), [], 0, 0⟩ : NodeD)] ++ K.nodes).length c).ownBlock = some g' ∧ w.heap.size ≤ g') := nvs_chain (w := w) (w1 := w1) (by omega) (by
     rcases hat'.out with h | ⟨g, h, hg⟩
     ·exact Or.inl h
     ·exact Or.inr ⟨g, h, by omega⟩) hR.out.nvs
    have hkF' := Lib.hid (keep_chain hkA hnA hkF)
    have hnF' := Lib.hid hnA
    have n4 : wr.cell? ⟨S, 4, none⟩ = some (.slice (some ⟨g, 0, none⟩) (nodes ++ [(⟨(pre.length : Int), [], 0, 0⟩ : NodeD)] ++ K.nodes).length c) := hs3.out.blk.cell 4
    have hpp := Lib.hid hR.out.preIs
    have hpl := Lib.hid hR.out.plen
    have hll : nodes.length < (nodes ++ [(⟨(pre.length : Int), [], 0, 0⟩ : NodeD)] ++ K.nodes).length := by simp
    have hlm : (nodes ++ [(⟨(pre.length : Int), [], 0, 0⟩ : NodeD)] ++ K.nodes).length ≤ 9223372036854775807 := by
     have hn := kidsG_len (f := growF t bound r pre harm) (m := treeMax r) (fun i o N => growL_len t bound r _ _ _) x.opts 0 (nodes.length + 1)
     rw [hKx.out] at hn
     have := hroom'.out
     simp only [List.length_append, List.length_singleton]; omega
    generalize (nodes ++ [(⟨(pre.length : Int), [], 0, 0⟩ : NodeD)] ++ K.nodes).length = LN at *
    clear hR hsZ hsF hcell hkF hkA hnA hi hkv hkl
    go_wp2
    go_ret
    refine ⟨.slice (some ⟨g, 0, none⟩) LN c, fv, pick, rfl, ?_, by rw [hpl.out, hplen.out], hpp.out, hkF'.out, hnF'.out⟩
    rw [hKx.out]
    exact hsF'.out
 ·
  have hx1 := Ext.refl w
  have hs1 := Lib.hid (hS'.out.toExt hx1)
  have hs0 := hs1.out
  have c0' : w.cell? ⟨S, 0, none⟩ = some (.slice (some ⟨b1, o1, none⟩) t.length tc) := hs0.blk.cell 0
  have c1' : w.cell? ⟨S, 1, none⟩ = some (.int .i64 bound) := hs0.blk.cell 1
  have c2' : w.cell? ⟨S, 2, none⟩ = some (.slice (some ⟨Rb, 0, none⟩) rest.length rest.length) := hs0.blk.cell 2
  have c6' : w.cell? ⟨S, 6, none⟩ = some (.int .i64 over) := hs0.blk.cell 6
  have f6' : w.frozen? ⟨S, 6, none⟩ = false := hs0.blk.frozen 6
  have r0' : w.cell? ⟨Rb, pre.length, none⟩ = some (.int .i64 (leastSum (t.drop pre.length))) := by
   have := hs0.rb.cell pre.length
   rw [this]
   have hr := hrest.out
   simp [hr]
  have hrlt : pre.length < rest.length := (List.getElem?_eq_some_iff.1 hrest.out).1
  clear hs0 c0 c3 hrest
  go_enter Tryz.func20, Tryz.ntmps20
  go_wp2_with fail
  refine (addS_calls hs1.out (pre.length : Int) 0 0 (by omega)).mono ?_
  rintro e w1 ⟨nv1, rfl, hs2, k1, hat⟩
  have hat' := Lib.hid hat
  have hsz01 := hx1.size
  have hsz12 := k1.size
  have q0 : w1.cell? ⟨S, 0, none⟩ = some (.slice (some ⟨b1, o1, none⟩) t.length tc) := hs2.blk.cell 0
  have q3 := Lib.hid (hs2.ext.cell g3)
  have q3' := q3.out
  have hs2' := Lib.hid hs2
  have hPlt := hs2.pk.lt
  have hRlt := hs2.rb.lt
  have hwlt := hs2.ext.size
  clear hat hs2 c0' c1' c2' c6' f6' r0' q3
  go_wp2_with fail
  go_loopw [11, 116] (fun vk vi wr => ∃ (k : Nat) (nv fv : Value) (pick : List Int), k ≤ x.opts.length ∧ vi = .int .i64 k ∧
    Hid (Round Z w0 w1 wr S Pk Rb (.slice (some ⟨b1, o1, none⟩) t.length tc) nv1 nv fv t bound rest pick (nodes ++ [⟨(pre.length : Int), [], 0, 0⟩]) found over pre vk (kidsG (growF t bound r pre harm) (x.opts.take k) 0 (nodes.length + 1)))) (fun _ vi _ => x.opts.length - (intOf vi).toNat)
  case atStart =>
   refine ⟨0, nv1, fv, pick, Nat.zero_le _, rfl, ?_⟩
   refine ⟨?_, hplen.out, hpre.out, Keep.refl _ _, Or.inl rfl, World.ownsRow_nil _ _ _ _⟩
   simp only [List.take_zero, kidsG, List.append_nil]
   exact hs2'.out.more (fun g _ h => by rcases h with h | h; exact h; simp [Value.ownBlock] at h) (fun g h => Or.inl h)
  case round =>
   obtain ⟨k, nv, fv, pick, hk, rfl, hR0⟩ := hrel
   obtain ⟨K, hK⟩ : ∃ K, Hid (kidsG (growF t bound r pre harm) (x.opts.take k) 0 (nodes.length + 1) = K) := ⟨_, rfl⟩
   have hR : Hid (Round Z w0 w1 wr S Pk Rb (.slice (some ⟨b1, o1, none⟩) t.length tc) nv1 nv fv t bound rest pick (nodes ++ [⟨(pre.length : Int), [], 0, 0⟩]) found over pre u11 K) := by have h := hR0.out; rw [hK.out] at h; exact h
   clear hR0
   obtain ⟨kA, kC, rfl⟩ := owns_form hR.out.row
   have hkl : K.kids.length = k := by
    have := kidsG_kids_len (growF t bound r pre harm) (x.opts.take k) 0 (nodes.length + 1)
    rw [List.length_take, Nat.min_eq_left hk, hK.out] at this
    exact this
   have hs3 := Lib.hid hR.out.srch
   have hsz2 := hR.out.keep.size
   have hx16 : x.opts.length ≤ 65536 := by
    have e1 : x.opts.length * 1 ≤ x.opts.length * treeMax r := Nat.mul_le_mul_left _ (by omega)
    have := hroom'.out
    omega
   by_cases h1 : k < x.opts.length
   ·obtain ⟨b2, o2, o, sa, sc, rfl, hb2, _, eo, p1, p2, p3, _⟩ := oat k h1 wr hs3.out.ext
    have hih := hR.out.call (O := .cells #[.int .i64 o.harm, .int .i64 o.room, .slice sa o.spans.length sc] 64) hHH.out hxd.out eo.out (by omega) (by
     have hn := kidsG_len (f := growF t bound r pre harm) (m := treeMax r) (fun i o N => growL_len t bound r _ _ _) (x.opts.take k) 0 (nodes.length + 1)
     rw [List.length_take, Nat.min_eq_left hk, hK.out] at hn
     have hm := hroom'.out
     have e1 : (k + 1) * treeMax r ≤ x.opts.length * treeMax r := Nat.mul_le_mul_right _ (by omega)
     rw [Nat.add_mul] at e1
     rw [hrd.out]
     simp only [List.length_append, List.length_singleton]
     omega)
    have hcall := Lib.hid (ih _ _ _ _ _ _ _ _ _ _ hih (by simp only [List.length_append, List.length_singleton]; exact hrd.out))
    obtain ⟨idx, hidx⟩ : ∃ idx : Nat, Hid ((nodes ++ [(⟨(pre.length : Int), [], 0, 0⟩ : NodeD)] ++ K.nodes).length = idx) := ⟨_, rfl⟩
    have hidx2 : Hid (idx = nodes.length + 1 + K.nodes.length) := by
     show _ = _
     rw [← hidx.out]
     simp; omega
    have hdl : Hid (((pre ++ [(k : Int)]).length : Int) = (pre.length : Int) + 1) := by show _ = _; simp
    have m0 : wr.cell? ⟨S, 3, none⟩ = some (.slice (some ⟨Pk, 0, none⟩) pick.length pick.length) := hs3.out.blk.cell 3
    have hpl' := hR.out.plen
    have hpl'' := Lib.hid hpl'
    have hpd : pre.length < pick.length := by omega
    have m1 : wr.cell? ⟨Pk, pre.length, none⟩ = some (.int .i64 (pick[pre.length]?.getD 0)) := by
     have := hs3.out.pk.cell pre.length
     rw [this]
     simp [hpd]
    generalize pick[pre.length]?.getD 0 = old at m1
    have m2 : wr.frozen? ⟨Pk, pre.length, none⟩ = false := hs3.out.pk.frozen _
    have hPw : Pk < wr.heap.size := hs3.out.pk.lt
    have hSw : S < wr.heap.size := hs3.out.blk.lt
    have ho1 : 0 ≤ o.harm := (hHH.out.harms x (List.mem_of_getElem? hxd.out) o (List.mem_of_getElem? eo.out)).1
    have ho2 : o.harm ≤ 1000000 := (hHH.out.harms x (List.mem_of_getElem? hxd.out) o (List.mem_of_getElem? eo.out)).2
    have hSP : Hid (S ≠ Pk) := hs3.out.S_ne
    have hkl2 := Lib.hid hkl
    have hkle : K.kids.length ≤ 65536 := by omega
    clear hpl' hih hkl
    go_wp2_with fail
    rw [← hdl.out]
    refine hcall.out.mono ?_
    rintro e w3 ⟨nv', fv', pick', rfl, hs4, hpl4, hpre4, k4, hnv4⟩
    rw [hidx.out]
    have hrow3 := hR.out.row3 hPlt _ _ _ k4 rfl
    have hsz3 : w1.heap.size ≤ w3.heap.size := by have := k4.size; simp only [World.size_alloc, World.size_setCell] at this; omega
    have hfin : Hid (∀ v' w4, w4.ownsRow w1.heap.size 3 1 v' (K.kids.length + 1) (K.kids.map (Value.int .i64) ++ [.int .i64 idx]) → (w3.alloc (.cells #[.int .i64 idx] 3)).grownBy w4 (Value.slice kA K.kids.length kC).ownBlock →
      (v'.ownBlock = (Value.slice kA K.kids.length kC).ownBlock ∨ v'.ownBlock = some (w3.alloc (.cells #[.int .i64 idx] 3)).heap.size) →
      Round Z w0 w1 w4 S Pk Rb (.slice (some ⟨b1, o1, none⟩) t.length tc) nv1 nv' fv' t bound rest pick' (nodes ++ [⟨(pre.length : Int), [], 0, 0⟩]) found over pre v' (kidsG (growF t bound r pre harm) (x.opts.take (k + 1)) 0 (nodes.length + 1))) := by
     intro v' w4 h1' h2' h3'
     refine hR.out.next (idx := idx) (k := k) hPlt hRlt hwlt pre.length _ _ (.cells #[.int .i64 idx] 3) ?_ hs4 hpl4 hpre4 k4 hnv4 h1' h2' h3'
     have e := kidsG_step (growF t bound r pre harm) x.opts k o eo.out 0 (nodes.length + 1)
     rw [hK.out] at e
     rw [e]
     simp only [growF, Int.zero_add, ← hidx2.out, hidx.out]
    clear hs4 hpl4 hpre4 k4 hnv4 m0 m1 m2 p1 p2 p3 hcall
    go_wp2_with (at_builtin; refine wpList_append_any _ rfl (.tmp 128) (.tmp 137) _ rfl w1.heap.size 3 i0 _ 1 8 Tryz.underlying31 hi0 hz0 hz1 hz2 rfl (by decide) (.slice kA K.kids.length kC) K.kids.length (K.kids.map (Value.int .i64)) rfl (hrow3.alloc _) (w3.heap.size + 1) (some ⟨w3.heap.size, 0, none⟩) 1 1 [.int .i64 idx] rfl (reads_last _ #[_] _ 1 1 _ _ rfl (by omega) rfl) (by intro u hu; simp at hu; subst hu; rfl) (by unfold maxLen; omega) (by omega) (by simp; omega) ?_; intro v1 w4 hown1 hg1 hat1)
    have hRn := Lib.hid (hfin.out v1 w4 hown1 hg1 hat1)
    clear hown1 hg1 hat1 hfin hrow3
    go_wp2
    go_roundw
    case rel => exact ⟨k + 1, nv', fv', pick', by omega, by go_num, hRn⟩
    case measure => simp [intOf]; omega
   ·have hkx : k = x.opts.length := by omega
    have hi : ((nodes ++ [(⟨(pre.length : Int), [], 0, 0⟩ : NodeD)] ++ K.nodes))[nodes.length]? = some ⟨(pre.length : Int), [], 0, 0⟩ := by simp
    have hkv : KidsOk wr w0.heap.size Z (.slice kA K.kids.length kC) K.kids := by
     refine ⟨⟨hR.out.row.1, ?_⟩, fun g hg hz => ?_⟩
     ·rcases hR.out.row.2 with h | ⟨g, cap, cur, e, hg, r⟩
      ·exact Or.inl h
      ·exact Or.inr ⟨g, cap, cur, e, by omega, r⟩
     ·have := (hR.out.row.lt g hg).1; have := hzlt.out g hz; omega
    have hsZ : Srch Z w0 wr S Pk Rb (.slice (some ⟨b1, o1, none⟩) t.length tc) nv fv t bound rest pick (nodes ++ [(⟨(pre.length : Int), [], 0, 0⟩ : NodeD)] ++ K.nodes) (foldFound found K.opens) (foldOver over K.ests) :=
     hs3.out.less (fun g h => Or.inl h) hs2'.out.zP hs2'.out.zR
    obtain ⟨g, c, rfl, hcell, hfr, hsF, hkF⟩ := hsZ.setKids hi hkv
    obtain ⟨old, hold⟩ := Option.ne_none_iff_exists'.1 hcell
    have hKx : Hid (kidsG (growF t bound r pre harm) x.opts 0 (nodes.length + 1) = K) := by
     have := hK.out
     rwa [hkx, List.take_length] at this
    have hsF' : Hid (Srch Z w0 (wr.setCell ⟨g, nodes.length * 4 + 1, none⟩ (.slice kA K.kids.length kC)) S Pk Rb (.slice (some ⟨b1, o1, none⟩) t.length tc) (.slice (some ⟨g, 0, none⟩) (nodes ++ [(⟨(pre.length : Int), [], 0, 0⟩ : NodeD)] ++ K.nodes).length c) fv t bound rest pick
      (nodes ++ (⟨(pre.length : Int), K.kids, 0, 0⟩ : NodeD) :: K.nodes) (foldFound found K.opens) (foldOver over K.ests)) := by
     have e : (nodes ++ [(⟨(pre.length : Int), [], 0, 0⟩ : NodeD)] ++ K.nodes).set nodes.length ⟨(pre.length : Int), K.kids, 0, 0⟩ = nodes ++ (⟨(pre.length : Int), K.kids, 0, 0⟩ : NodeD) :: K.nodes := by simp
     show Srch _ _ _ _ _ _ _ _ _ _ _ _ _ _ _ _
     rw [← e]
     exact hsF
    have hkA := keep_chain (w := w) ((Keep.of_ext hx1).trans k1) (b := nv1) (by
     rcases hat'.out with h | ⟨g, h, hg⟩
     ·exact Or.inl h
     ·exact Or.inr ⟨g, h, by omega⟩) hR.out.keep
    have hnA : (Value.slice (some ⟨g, 0, none⟩) (nodes ++ [(⟨(pre.length : Int), [], 0, 0⟩ : NodeD)] ++ K.nodes).length c).ownBlock = Value.ownBlock _ ∨ (∃ g', (Value.slice (some ⟨g, 0, none⟩) (nodes ++ [(⟨(pre.length : Int), [], 0, 0⟩ : NodeD)] ++ K.nodes).length c).ownBlock = some g' ∧ w.heap.size ≤ g') := nvs_chain (w := w) (w1 := w1) (by omega) (by
     rcases hat'.out with h | ⟨g, h, hg⟩
     ·exact Or.inl h
     ·exact Or.inr ⟨g, h, by omega⟩) hR.out.nvs
    have hkF' := Lib.hid (keep_chain hkA hnA hkF)
    have hnF' := Lib.hid hnA
    have n4 : wr.cell? ⟨S, 4, none⟩ = some (.slice (some ⟨g, 0, none⟩) (nodes ++ [(⟨(pre.length : Int), [], 0, 0⟩ : NodeD)] ++ K.nodes).length c) := hs3.out.blk.cell 4
    have hpp := Lib.hid hR.out.preIs
    have hpl := Lib.hid hR.out.plen
    have hll : nodes.length < (nodes ++ [(⟨(pre.length : Int), [], 0, 0⟩ : NodeD)] ++ K.nodes).length := by simp
    have hlm : (nodes ++ [(⟨(pre.length : Int), [], 0, 0⟩ : NodeD)] ++ K.nodes).length ≤ 9223372036854775807 := by
     have hn := kidsG_len (f := growF t bound r pre harm) (m := treeMax r) (fun i o N => growL_len t bound r _ _ _) x.opts 0 (nodes.length + 1)
     rw [hKx.out] at hn
     have := hroom'.out
     simp only [List.length_append, List.length_singleton]; omega
    generalize (nodes ++ [(⟨(pre.length : Int), [], 0, 0⟩ : NodeD)] ++ K.nodes).length = LN at *
    clear hR hsZ hsF hcell hkF hkA hnA hi hkv hkl
    go_wp2
    go_ret
    refine ⟨.slice (some ⟨g, 0, none⟩) LN c, fv, pick, rfl, ?_, by rw [hpl.out, hplen.out], hpp.out, hkF'.out, hnF'.out⟩
    rw [hKx.out]
    exact hsF'.out

theorem grow_calls (w0 : World) (S Pk Rb : Nat) (tv : Value) (t : List WishD) (bound : Int) (rest : List Int) : ∀ (l : List WishD) (Z : Nat → Prop) (w : World) (nv fv : Value) (pick : List Int) (nodes : List NodeD) (found : Option (List Int × Int)) (over : Int) (pre : List Int) (harm : Int),
  GrowIn Z w0 w S Pk Rb tv nv fv t bound rest pick nodes found over pre harm → t.drop pre.length = l →
  Calls Tryz.prog 20 #[.pointer (some ⟨S, 0, none⟩), .int .i64 pre.length, .int .i64 harm] w (GrowOut Z w0 w S Pk Rb tv nv t bound rest pick nodes found over pre (growL t bound l pre harm nodes.length)) := by
 intro l
 induction l with
 | nil =>
  intro Z w nv fv pick nodes found over pre harm H hd
  have hl : pre.length = t.length := by
   have := congrArg List.length hd
   simp at this
   have := H.len
   omega
  unfold growL
  split
  ·rename_i hc
   exact grow_clash Z w0 w S Pk Rb tv nv fv t bound rest pick nodes found over pre harm H hc
  ·rename_i hc
   split
   ·rename_i hb
    have h := grow_bound Z w0 w S Pk Rb tv nv fv t bound rest pick nodes found over pre harm H hc (by rw [hd]; simpa [leastSum] using hb)
    rw [hd] at h
    simpa [leastSum] using h
   ·rename_i hb
    exact grow_leaf Z w0 w S Pk Rb tv nv fv t bound rest pick nodes found over pre harm H hc hb hl
 | cons x r ih =>
  intro Z w nv fv pick nodes found over pre harm H hd
  unfold growL
  split
  ·rename_i hc
   exact grow_clash Z w0 w S Pk Rb tv nv fv t bound rest pick nodes found over pre harm H hc
  ·rename_i hc
   split
   ·rename_i hb
    have h := grow_bound Z w0 w S Pk Rb tv nv fv t bound rest pick nodes found over pre harm H hc (by rw [hd]; exact hb)
    rw [hd] at h
    exact h
   ·rename_i hb
    exact grow_node Z w0 w S Pk Rb tv nv fv t bound rest pick nodes found over pre harm H hc (by rw [hd]; exact hb) x r hd ih

end Go.Proofs.YtepcdhpikpmepaaGreat
