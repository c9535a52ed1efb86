/- Merged parts: SanW, UF, UG. -/
import Derived.Test.YtjglidlmpjmjeaaGreatDoorPJ
import Derived.Test.YtjglidlmpjmjeaaGreatDoorUC
import Derived.Test.YtjglidlmpjmjeaaGreatDoorUD
import Derived.Test.YtjglidlmpjmjeaaGreatDoorUA
import Derived.Test.YtjglidlmpjmjeaaGreatDoorKY
import Derived.Test.YtjglidlmpjmjeaaGreatDoorKK
import Derived.Test.YtjglidlmpjmjeaaGreatDoorRW
import Derived.Test.YtjglidlmpjmjeaaGreatDoorKF
/- Rows of options and wishes read cell by cell. -/
namespace Go.Proofs.YtjglidlmpjmjeaaGreatDoor
open Go.RowKit
theorem one_opt {w : World} {o : OptD} {sv : Value} {l : List OptD} {ys : List Value} (h : Spans w sv o.spans) (h' : OptsC w l ys) : OptsC w (o :: l) (.int .i64 o.harm :: .int .i64 o.room :: sv :: ys) := ⟨sv, ys, rfl, h, h'⟩
theorem one_wish {w : World} {x : WishD} {pv ov : Value} {l : List WishD} {ys : List Value} (h : Ints w pv x.people) (h1 : Opts w ov x.opts) (h' : WishesC w l ys) : WishesC w (x :: l) (.int .i64 x.meeting :: pv :: ov :: ys) := ⟨pv, ov, ys, rfl, ⟨h, h1⟩, h'⟩
end Go.Proofs.YtjglidlmpjmjeaaGreatDoor

/- The laws' example of cores, and sanity. -/
namespace Go.Proofs.YtjglidlmpjmjeaaGreatDoor
open Go.RowKit Go.Shelf List

def fourT : List WishD := [⟨1, [], [⟨0, 2, [(0, 60)]⟩]⟩, ⟨2, [5], [⟨0, 2, [(30, 90)]⟩, ⟨0, 3, [(30, 90)]⟩]⟩, ⟨4, [5], [⟨0, -1, [(80, 100)]⟩]⟩, ⟨7, [], [⟨0, -1, []⟩]⟩]
def fourN : List NodeD := [⟨0, [1, 3], 0, 0⟩, ⟨1, [2], 0, 0⟩, ⟨-1, [], 0, 1⟩, ⟨1, [4], 0, 0⟩, ⟨-1, [], 0, 1⟩]
def fourX : List UInt8 := [116, 104, 101, 115, 101, 32, 109, 101, 101, 116, 105, 110, 103, 115, 32, 99, 97, 110, 110, 111, 116, 32, 97, 108, 108, 32, 115, 116, 97, 110, 100, 58, 10, 109, 101, 101, 116, 105, 110, 103, 32, 50, 44, 32, 112, 101, 111, 112, 108, 101, 32, 53, 58, 32, 114, 111, 111, 109, 32, 50, 32, 102, 114, 111, 109, 32, 51, 48, 32, 116, 111, 32, 57, 48, 59, 32, 111, 114, 32, 114, 111, 111, 109, 32, 51, 32, 102, 114, 111, 109, 32, 51, 48, 32, 116, 111, 32, 57, 48, 10, 109, 101, 101, 116, 105, 110, 103, 32, 52, 44, 32, 112, 101, 111, 112, 108, 101, 32, 53, 58, 32, 110, 111, 32, 114, 111, 111, 109, 32, 102, 114, 111, 109, 32, 56, 48, 32, 116, 111, 32, 49, 48, 48, 10]
theorem fo_valid : validT fourT = 0 := by kernel_rfl
theorem fo_of : ofT fourT = ([1, 2], true, 0) := by kernel_rfl
theorem fo_show : showT fourT [1, 2] = (fourN, 0) := by kernel_rfl
theorem fo_show2 : showT fourT [0, 1] = ([], 4) := by kernel_rfl
theorem fo_all : (sels fourT.length).filter (coreB fourT) = [[1, 2]] := by kernel_rfl
theorem fo_s1 : StandsT fourT [0, 1, 3] = (true, 0) := by kernel_rfl
theorem fo_s2 : StandsT fourT [1, 2, 3] = (false, 0) := by kernel_rfl
theorem fo_s3 : StandsT fourT [] = (true, 0) := by kernel_rfl
theorem fo_c0 : coreCheckT fourT [1, 2] fourN = 0 := by kernel_rfl
theorem fo_c11 : coreCheckT fourT [1, 2, 3] fourN = 11 := by kernel_rfl
theorem fo_small : SmallT fourT := ⟨by decide, by decide⟩
theorem fo_room : ShowRoom fourT [1, 2] := fun _ _ _ => ⟨by decide, by kernel_rfl, by kernel_rfl⟩
theorem fo_room2 : ShowRoom fourT [0, 1] := fun _ _ h => by
 have e : standsT fourT [0, 1] = (true, 0) := by kernel_rfl
 rw [e] at h
 cases h
theorem dec_one {u : Nat} (h : u < 10) : Lib.decDigits u = [UInt8.ofNat (48 + u)] := by rw [Lib.decDigits, dif_pos h]
theorem dec_more {u : Nat} (h : ¬ u < 10) : Lib.decDigits u = Lib.decDigits (u / 10) ++ [UInt8.ofNat (48 + u % 10)] := by rw [Lib.decDigits, dif_neg h]
theorem it2 : Lib.itoa 2 = [50] := by unfold Lib.itoa; rw [if_neg (by decide)]; exact dec_one (by decide)
theorem it3 : Lib.itoa 3 = [51] := by unfold Lib.itoa; rw [if_neg (by decide)]; exact dec_one (by decide)
theorem it4 : Lib.itoa 4 = [52] := by unfold Lib.itoa; rw [if_neg (by decide)]; exact dec_one (by decide)
theorem it5 : Lib.itoa 5 = [53] := by unfold Lib.itoa; rw [if_neg (by decide)]; exact dec_one (by decide)
theorem it30 : Lib.itoa 30 = [51, 48] := by unfold Lib.itoa; rw [if_neg (by decide)]; show Lib.decDigits 30 = _; rw [dec_more (by decide)]; show Lib.decDigits 3 ++ _ = _; rw [dec_one (by decide)]; rfl
theorem it80 : Lib.itoa 80 = [56, 48] := by unfold Lib.itoa; rw [if_neg (by decide)]; show Lib.decDigits 80 = _; rw [dec_more (by decide)]; show Lib.decDigits 8 ++ _ = _; rw [dec_one (by decide)]; rfl
theorem it90 : Lib.itoa 90 = [57, 48] := by unfold Lib.itoa; rw [if_neg (by decide)]; show Lib.decDigits 90 = _; rw [dec_more (by decide)]; show Lib.decDigits 9 ++ _ = _; rw [dec_one (by decide)]; rfl
theorem it100 : Lib.itoa 100 = [49, 48, 48] := by unfold Lib.itoa; rw [if_neg (by decide)]; show Lib.decDigits 100 = _; rw [dec_more (by decide)]; show Lib.decDigits 10 ++ _ = _; rw [dec_more (by decide)]; show (Lib.decDigits 1 ++ _) ++ _ = _; rw [dec_one (by decide)]; rfl
theorem fo_text : textT fourT [1, 2] = fourX := by
 unfold textT
 rw [if_pos (by kernel_rfl), if_neg (by decide), show subT fourT [1, 2] = [⟨2, [5], [⟨0, 2, [(30, 90)]⟩, ⟨0, 3, [(30, 90)]⟩]⟩, ⟨4, [5], [⟨0, -1, [(80, 100)]⟩]⟩] from rfl]
 simp [wishX, peopleX, optsX, optX, roomT, spanT, txtP, it2, it3, it4, it5, it30, it80, it90, it100, txtHead, txtMeeting, txtPeople, txtColon, txtOr, txtFrom, txtTo, txtRoom, txtNoRoom, fourX]
theorem fo_sized : ∀ x ∈ fourT, Sized x := by
 intro x hx
 simp only [fourT, List.mem_cons, List.not_mem_nil, or_false] at hx
 rcases hx with rfl | rfl | rfl | rfl <;> constructor <;> simp [I64]
theorem four_read {w : World} {t1 t2 t3 t4 : TypeId} (b : Nat) (h1 : Blk w (b + 1) t2 #[.int .i64 0, .int .i64 60])
  (h3 : Blk w (b + 1 + 1 + 1) t2 #[.int .i64 30, .int .i64 90])
  (h5 : Blk w (b + 1 + 1 + 1 + 1 + 1) t2 #[.int .i64 30, .int .i64 90])
  (h7 : Blk w (b + 1 + 1 + 1 + 1 + 1 + 1 + 1) t2 #[.int .i64 80, .int .i64 100])
  (h9 : Blk w (b + 1 + 1 + 1 + 1 + 1 + 1 + 1 + 1 + 1) t3 #[.int .i64 0, .int .i64 2, .slice (some ⟨b + 1, 0, none⟩) 1 1])
  (h10 : Blk w (b + 1 + 1 + 1 + 1 + 1 + 1 + 1 + 1 + 1 + 1) t1 #[.int .i64 5])
  (h11 : Blk w (b + 1 + 1 + 1 + 1 + 1 + 1 + 1 + 1 + 1 + 1 + 1) t3 #[.int .i64 0, .int .i64 2, .slice (some ⟨b + 1 + 1 + 1, 0, none⟩) 1 1, .int .i64 0, .int .i64 3, .slice (some ⟨b + 1 + 1 + 1 + 1 + 1, 0, none⟩) 1 1])
  (h12 : Blk w (b + 1 + 1 + 1 + 1 + 1 + 1 + 1 + 1 + 1 + 1 + 1 + 1) t1 #[.int .i64 5])
  (h13 : Blk w (b + 1 + 1 + 1 + 1 + 1 + 1 + 1 + 1 + 1 + 1 + 1 + 1 + 1) t3 #[.int .i64 0, .int .i64 (-1), .slice (some ⟨b + 1 + 1 + 1 + 1 + 1 + 1 + 1, 0, none⟩) 1 1])
  (h14 : Blk w (b + 1 + 1 + 1 + 1 + 1 + 1 + 1 + 1 + 1 + 1 + 1 + 1 + 1 + 1) t3 #[.int .i64 0, .int .i64 (-1), .slice none 0 0])
  (h15 : Blk w (b + 1 + 1 + 1 + 1 + 1 + 1 + 1 + 1 + 1 + 1 + 1 + 1 + 1 + 1 + 1) t4 #[.int .i64 1, .slice none 0 0, .slice (some ⟨b + 1 + 1 + 1 + 1 + 1 + 1 + 1 + 1 + 1, 0, none⟩) 1 1, .int .i64 2, .slice (some ⟨b + 1 + 1 + 1 + 1 + 1 + 1 + 1 + 1 + 1 + 1, 0, none⟩) 1 1, .slice (some ⟨b + 1 + 1 + 1 + 1 + 1 + 1 + 1 + 1 + 1 + 1 + 1, 0, none⟩) 2 2, .int .i64 4, .slice (some ⟨b + 1 + 1 + 1 + 1 + 1 + 1 + 1 + 1 + 1 + 1 + 1 + 1, 0, none⟩) 1 1, .slice (some ⟨b + 1 + 1 + 1 + 1 + 1 + 1 + 1 + 1 + 1 + 1 + 1 + 1 + 1, 0, none⟩) 1 1, .int .i64 7, .slice none 0 0, .slice (some ⟨b + 1 + 1 + 1 + 1 + 1 + 1 + 1 + 1 + 1 + 1 + 1 + 1 + 1 + 1, 0, none⟩) 1 1]) :
  Wishes w (.slice (some ⟨b + 1 + 1 + 1 + 1 + 1 + 1 + 1 + 1 + 1 + 1 + 1 + 1 + 1 + 1 + 1, 0, none⟩) 4 4) fourT := by
 have m1 : (1 : Nat) ≤ maxLen := by unfold maxLen; omega
 have m2 : (2 : Nat) ≤ maxLen := by unfold maxLen; omega
 have m4 : (4 : Nat) ≤ maxLen := by unfold maxLen; omega
 have s1 := spans_of_blk (l := [(0, 60)]) h1 (Nat.le_refl 1) m1
 have s3 := spans_of_blk (l := [(30, 90)]) h3 (Nat.le_refl 1) m1
 have s5 := spans_of_blk (l := [(30, 90)]) h5 (Nat.le_refl 1) m1
 have s7 := spans_of_blk (l := [(80, 100)]) h7 (Nat.le_refl 1) m1
 have i1 := ints_of_blk (l := [5]) h10 (Nat.le_refl 1) m1
 have i2 := ints_of_blk (l := [5]) h12 (Nat.le_refl 1) m1
 have o1 := opts_of_c (l := [⟨0, 2, [(0, 60)]⟩]) h9.row (one_opt s1 rfl) (Nat.le_refl 1) m1
 have o2 := opts_of_c (l := [⟨0, 2, [(30, 90)]⟩, ⟨0, 3, [(30, 90)]⟩]) h11.row (one_opt s3 (one_opt s5 rfl)) (Nat.le_refl 2) m2
 have o3 := opts_of_c (l := [⟨0, -1, [(80, 100)]⟩]) h13.row (one_opt s7 rfl) (Nat.le_refl 1) m1
 have o4 := opts_of_c (l := [⟨0, -1, []⟩]) h14.row (one_opt (SpansO.nil w 0).read rfl) (Nat.le_refl 1) m1
 exact wishes_of_c (l := fourT) h15.row (one_wish ((IntsO.nil w 0).read) o1 (one_wish i1 o2 (one_wish i2 o3 (one_wish ((IntsO.nil w 0).read) o4 rfl)))) (Nat.le_refl 4) m4
set_option maxHeartbeats 1600000 in
set_option maxRecDepth 100000 in
theorem four_calls (w : World) : Calls Tryz.prog 24 #[] w fun e w' => ∃ tv, e = .returned (.agg #[tv]) ∧ Wishes w' tv fourT ∧ Ext w w' := by
 go_enter Tryz.func24, Tryz.ntmps24
 go_wp2
 refine bodyPost_ret (v := .agg #[.slice (some ⟨w.heap.size + 1 + 1 + 1 + 1 + 1 + 1 + 1 + 1 + 1 + 1 + 1 + 1 + 1 + 1 + 1, 0, none⟩) 4 4]) (by simp [results, Tryz.results24, go_sem]) rfl ?_
 refine ⟨_, rfl, ?_, by exact (by with_reducible repeat' (first | exact Ext.refl _ | assumption | refine Ext.drewN ?_ _ | refine Ext.drew ?_ | refine Ext.alloc ?_ _ | refine Ext.trans ?_ (by with_reducible assumption)))⟩
 refine four_read w.heap.size (t1 := 3) (t2 := 84) (t3 := 55) (t4 := 52) ?_ ?_ ?_ ?_ ?_ ?_ ?_ ?_ ?_ ?_ ?_
 all_goals repeat (first | (refine blk_new' ?_ rfl; simp only [World.size_alloc]; done) | refine Blk.alloc ?_ _)
end Go.Proofs.YtjglidlmpjmjeaaGreatDoor

/- The laws' sanity of cores, walked: true. -/
namespace Go.Proofs.YtjglidlmpjmjeaaGreatDoor
open Go.RowKit Go.Shelf List

theorem fourN_read {w : World} {t1 t2 : TypeId} (b : Nat) (h0 : Blk w b t1 #[.int .i64 1, .int .i64 3]) (h1 : Blk w (b + 1) t1 #[.int .i64 2]) (h2 : Blk w (b + 1 + 1) t1 #[.int .i64 4])
  (h3 : Blk w (b + 1 + 1 + 1) t2 #[.int .i64 0, .slice (some ⟨b, 0, none⟩) 2 2, .int .i64 0, .int .i64 0, .int .i64 1, .slice (some ⟨b + 1, 0, none⟩) 1 1, .int .i64 0, .int .i64 0, .int .i64 (-1), .slice none 0 0, .int .i64 0, .int .i64 1, .int .i64 1, .slice (some ⟨b + 1 + 1, 0, none⟩) 1 1, .int .i64 0, .int .i64 0, .int .i64 (-1), .slice none 0 0, .int .i64 0, .int .i64 1]) :
  Nodes w (.slice (some ⟨b + 1 + 1 + 1, 0, none⟩) 5 5) fourN := by
 have m1 : (1 : Nat) ≤ maxLen := by unfold maxLen; omega
 have m2 : (2 : Nat) ≤ maxLen := by unfold maxLen; omega
 have i0 := ints_of_blk (l := [1, 3]) h0 (Nat.le_refl 2) m2
 have i1 := ints_of_blk (l := [2]) h1 (Nat.le_refl 1) m1
 have i3 := ints_of_blk (l := [4]) h2 (Nat.le_refl 1) m1
 refine ⟨fun i => if i = 0 then .slice (some ⟨b, 0, none⟩) 2 2 else if i = 1 then .slice (some ⟨b + 1, 0, none⟩) 1 1 else if i = 3 then .slice (some ⟨b + 1 + 1, 0, none⟩) 1 1 else .slice none 0 0, ⟨_, _, rfl, Nat.le_refl _, by decide, fun _ => ⟨_, _, rfl, h3.lt, fun i hi j hj => ?_⟩⟩, fun i hi => ?_⟩
 ·rw [h3.cell]
  have hi' : i < 5 := hi
  rcases i with _ | _ | _ | _ | _ | i
  all_goals first
   | omega
   | (rcases j with _ | _ | _ | _ | j
      all_goals first
        | omega
        | rfl)
 ·have hi' : i < 5 := hi
  rcases i with _ | _ | _ | _ | _ | i
  ·exact i0
  ·exact i1
  ·exact ints_nilK w
  ·exact i3
  ·exact ints_nilK w
  ·omega
set_option maxHeartbeats 3200000 in
set_option maxRecDepth 100000 in
theorem sanity34_calls (w : World) (hTab : Tab10 w) : Calls Tryz.prog 6 #[] w fun e w' => e = .returned (.bool true) ∧ Ext w w' := by
 have m1 : (1 : Nat) ≤ maxLen := by unfold maxLen; omega
 have m2 : (2 : Nat) ≤ maxLen := by unfold maxLen; omega
 have m3 : (3 : Nat) ≤ maxLen := by unfold maxLen; omega
 have hTb := Lib.hid hTab
 clear hTab
 go_enter Tryz.func6, Tryz.ntmps6
 go_wp2_with fail
 refine (four_calls _).mono ?_
 rintro e w1 ⟨tv, rfl, ht, hx1⟩
 obtain ⟨ta, tc, rfl⟩ := ht.form
 rw [show fourT.length = 4 from rfl] at ht ⊢
 have hT := Lib.hid ht
 have hE := Lib.hid hx1
 replace hTb := Lib.hid (hTb.out.ext hx1)
 clear ht hx1
 go_wp2_with fail
 have hq0 := Lib.hid ((Ext.refl w1).alloc (.cells #[.slice ta 4 tc] 27))
 refine (of_calls (.slice ta 4 tc) fourT _ (hT.out.ext hq0.out)).mono ?_
 rw [fo_of]
 rintro e w2 ⟨lv, rfl, hl, hx⟩
 have hB : Hid (Blk w2 w1.heap.size 27 #[.slice ta 4 tc]) := Lib.hid ((Keep.of_ext (X := fun _ => False) hx).blk (blk_new' rfl rfl) id)
 obtain ⟨la, lc, rfl⟩ := hl.form
 have hL := Lib.hid hl
 replace hT := Lib.hid (hT.out.ext (hq0.out.trans hx))
 replace hTb := Lib.hid (hTb.out.ext (hq0.out.trans hx))
 replace hE := Lib.hid (hE.out.trans (hq0.out.trans hx))
 clear hl hx hq0
 simp only [List.length_cons, List.length_nil, Nat.reduceAdd]
 have b0 : w2.cell? ⟨w1.heap.size, 0, none⟩ = some (.slice ta 4 tc) := hB.out.cell 0
 have bl := hB.out.lt
 go_wp2_with fail
 have hq0 := Lib.hid ((Ext.refl w2).alloc (.cells #[.int .i64 1, .int .i64 2] 3))
 refine (show_calls (.slice ta 4 tc) (.slice (some ⟨w2.heap.size, 0, none⟩) 2 2) fourT [1, 2] _ (hT.out.ext hq0.out) (ints_of_blk (l := [1, 2]) (blk_new' rfl rfl) (Nat.le_refl 2) m2) fo_room).mono ?_
 rw [fo_show]
 rintro e w3 ⟨cv, rfl, hc, hx⟩
 obtain ⟨ca, cc, rfl⟩ := hc.form
 have hC := Lib.hid hc
 have hq := hq0.out.trans hx
 clear hc hx hq0 b0 bl
 (try replace hT := Lib.hid (hT.out.ext hq))
 (try replace hL := Lib.hid (hL.out.ext hq))
 (try replace hC := Lib.hid (hC.out.ext hq))
 (try replace hN := Lib.hid (hN.out.ext hq))
 (try replace hTb := Lib.hid (hTb.out.ext hq))
 (try replace hB := Lib.hid ((Keep.of_ext (X := fun _ => False) hq).blk hB.out id))
 replace hE := Lib.hid (hE.out.trans hq)
 clear hq
 simp only [fourN, List.length_cons, List.length_nil, Nat.reduceAdd]
 have b0 : w3.cell? ⟨w1.heap.size, 0, none⟩ = some (.slice ta 4 tc) := hB.out.cell 0
 have bl := hB.out.lt
 go_wp2_with fail
 refine (all_calls (.slice ta 4 tc) fourT _ hT.out fo_small fo_valid).mono ?_
 rw [fo_all]
 rintro e w4 ⟨av, rfl, ha, hq⟩
 obtain ⟨aa, ac, rfl⟩ := ha.form
 clear ha b0 bl
 (try replace hT := Lib.hid (hT.out.ext hq))
 (try replace hL := Lib.hid (hL.out.ext hq))
 (try replace hC := Lib.hid (hC.out.ext hq))
 (try replace hN := Lib.hid (hN.out.ext hq))
 (try replace hTb := Lib.hid (hTb.out.ext hq))
 (try replace hB := Lib.hid ((Keep.of_ext (X := fun _ => False) hq).blk hB.out id))
 replace hE := Lib.hid (hE.out.trans hq)
 clear hq
 simp only [List.length_cons, List.length_nil, Nat.reduceAdd]
 have b0 : w4.cell? ⟨w1.heap.size, 0, none⟩ = some (.slice ta 4 tc) := hB.out.cell 0
 have bl := hB.out.lt
 go_wp2_with fail
 have hq0 := Lib.hid ((Ext.refl w4).alloc (.cells #[.int .i64 0, .int .i64 1, .int .i64 3] 3))
 refine (Stands_calls (.slice ta 4 tc) (.slice (some ⟨w4.heap.size, 0, none⟩) 3 3) fourT [0, 1, 3] _ (hT.out.ext hq0.out) (ints_of_blk (l := [0, 1, 3]) (blk_new' rfl rfl) (Nat.le_refl 3) m3)).mono ?_
 rw [fo_s1]
 rintro e w5 ⟨rfl, hx⟩
 have hq := hq0.out.trans hx
 clear hx hq0 b0 bl
 (try replace hT := Lib.hid (hT.out.ext hq))
 (try replace hL := Lib.hid (hL.out.ext hq))
 (try replace hC := Lib.hid (hC.out.ext hq))
 (try replace hN := Lib.hid (hN.out.ext hq))
 (try replace hTb := Lib.hid (hTb.out.ext hq))
 (try replace hB := Lib.hid ((Keep.of_ext (X := fun _ => False) hq).blk hB.out id))
 replace hE := Lib.hid (hE.out.trans hq)
 clear hq
 have b0 : w5.cell? ⟨w1.heap.size, 0, none⟩ = some (.slice ta 4 tc) := hB.out.cell 0
 have bl := hB.out.lt
 go_wp2_with fail
 have hq0 := Lib.hid ((Ext.refl w5).alloc (.cells #[.int .i64 1, .int .i64 2, .int .i64 3] 3))
 refine (Stands_calls (.slice ta 4 tc) (.slice (some ⟨w5.heap.size, 0, none⟩) 3 3) fourT [1, 2, 3] _ (hT.out.ext hq0.out) (ints_of_blk (l := [1, 2, 3]) (blk_new' rfl rfl) (Nat.le_refl 3) m3)).mono ?_
 rw [fo_s2]
 rintro e w6 ⟨rfl, hx⟩
 have hq := hq0.out.trans hx
 clear hx hq0 b0 bl
 (try replace hT := Lib.hid (hT.out.ext hq))
 (try replace hL := Lib.hid (hL.out.ext hq))
 (try replace hC := Lib.hid (hC.out.ext hq))
 (try replace hN := Lib.hid (hN.out.ext hq))
 (try replace hTb := Lib.hid (hTb.out.ext hq))
 (try replace hB := Lib.hid ((Keep.of_ext (X := fun _ => False) hq).blk hB.out id))
 replace hE := Lib.hid (hE.out.trans hq)
 clear hq
 have b0 : w6.cell? ⟨w1.heap.size, 0, none⟩ = some (.slice ta 4 tc) := hB.out.cell 0
 have bl := hB.out.lt
 go_wp2_with fail
 refine (Stands_calls (.slice ta 4 tc) (.slice none 0 0) fourT [] _ hT.out (ints_nilK _)).mono ?_
 rw [fo_s3]
 rintro e w7 ⟨rfl, hq⟩
 clear b0 bl
 (try replace hT := Lib.hid (hT.out.ext hq))
 (try replace hL := Lib.hid (hL.out.ext hq))
 (try replace hC := Lib.hid (hC.out.ext hq))
 (try replace hN := Lib.hid (hN.out.ext hq))
 (try replace hTb := Lib.hid (hTb.out.ext hq))
 (try replace hB := Lib.hid ((Keep.of_ext (X := fun _ => False) hq).blk hB.out id))
 replace hE := Lib.hid (hE.out.trans hq)
 clear hq
 have b0 : w7.cell? ⟨w1.heap.size, 0, none⟩ = some (.slice ta 4 tc) := hB.out.cell 0
 have bl := hB.out.lt
 go_wp2_with fail
 have hq0 := Lib.hid ((Ext.refl w7).alloc (.cells #[.int .i64 0, .int .i64 1] 3))
 refine (show_calls (.slice ta 4 tc) (.slice (some ⟨w7.heap.size, 0, none⟩) 2 2) fourT [0, 1] _ (hT.out.ext hq0.out) (ints_of_blk (l := [0, 1]) (blk_new' rfl rfl) (Nat.le_refl 2) m2) fo_room2).mono ?_
 rw [fo_show2]
 rintro e w8 ⟨cv, rfl, hc, hx⟩
 obtain ⟨c8, k8, rfl⟩ := hc.form
 have hq := hq0.out.trans hx
 clear hc hx hq0 b0 bl
 (try replace hT := Lib.hid (hT.out.ext hq))
 (try replace hL := Lib.hid (hL.out.ext hq))
 (try replace hC := Lib.hid (hC.out.ext hq))
 (try replace hN := Lib.hid (hN.out.ext hq))
 (try replace hTb := Lib.hid (hTb.out.ext hq))
 (try replace hB := Lib.hid ((Keep.of_ext (X := fun _ => False) hq).blk hB.out id))
 replace hE := Lib.hid (hE.out.trans hq)
 clear hq
 simp only [List.length_nil]
 go_upto_region 10 with (fail)
 obtain ⟨X, hX⟩ : ∃ X : ByteArray, Hid (X = ⟨fourX.toArray⟩) := ⟨_, rfl⟩
 have hlit : (⟨(([116, 104, 101, 115, 101, 32, 109, 101, 101, 116, 105, 110, 103, 115, 32, 99, 97, 110, 110, 111, 116, 32, 97, 108, 108, 32, 115, 116, 97, 110, 100, 58, 10, 109, 101, 101].append [116, 105, 110, 103, 32, 50, 44, 32, 112, 101, 111, 112, 108, 101, 32, 53, 58, 32, 114, 111, 111, 109, 32, 50, 32, 102, 114, 111, 109, 32, 51, 48, 32, 116, 111, 32]).append ([57, 48, 59, 32, 111, 114, 32, 114, 111, 111, 109, 32, 51, 32, 102, 114, 111, 109, 32, 51, 48, 32, 116, 111, 32, 57, 48, 10, 109, 101, 101, 116, 105, 110, 103, 32].append [52, 44, 32, 112, 101, 111, 112, 108, 101, 32, 53, 58, 32, 110, 111, 32, 114, 111, 111, 109, 32, 102, 114, 111, 109, 32, 56, 48, 32, 116, 111, 32, 49, 48, 48, 10])).toArray⟩ : ByteArray) = X := by rw [hX.out]; rfl
 rw [hlit]
 clear hlit
 refine wp_abs (S := fun W => Hid (Ext w8 W) ∧ Hid (Nodes W (.slice (some ⟨w8.heap.size + 1 + 1 + 1, 0, none⟩) 5 5) fourN)) ⟨Lib.hid (by exact (by with_reducible repeat' (first | exact Ext.refl _ | assumption | refine Ext.drewN ?_ _ | refine Ext.drew ?_ | refine Ext.alloc ?_ _ | refine Ext.trans ?_ (by with_reducible assumption)))), Lib.hid ?_⟩ ?_
 ·refine fourN_read w8.heap.size (t1 := 3) (t2 := 48) ?_ ?_ ?_ ?_
  all_goals repeat (first | (refine blk_new' ?_ rfl; simp only [World.size_alloc]; done) | refine Blk.alloc ?_ _)
 rintro w9 ⟨hq, hN⟩
 replace hq := hq.out
 (try replace hT := Lib.hid (hT.out.ext hq))
 (try replace hL := Lib.hid (hL.out.ext hq))
 (try replace hC := Lib.hid (hC.out.ext hq))
 (try replace hN := Lib.hid (hN.out.ext hq))
 (try replace hTb := Lib.hid (hTb.out.ext hq))
 (try replace hB := Lib.hid ((Keep.of_ext (X := fun _ => False) hq).blk hB.out id))
 replace hE := Lib.hid (hE.out.trans hq)
 clear hq
 have b0 : w9.cell? ⟨w1.heap.size, 0, none⟩ = some (.slice ta 4 tc) := hB.out.cell 0
 have bl := hB.out.lt
 go_wp2_with fail
 have hq0 := Lib.hid ((Ext.refl w9).alloc (.cells #[.int .i64 1, .int .i64 2] 3))
 refine (rNumbers34_calls (.slice la 2 lc) (.slice (some ⟨w9.heap.size, 0, none⟩) 2 2) [1, 2] [1, 2] _ (hL.out.ext hq0.out) (ints_of_blk (l := [1, 2]) (blk_new' rfl rfl) (Nat.le_refl 2) m2)).mono ?_
 rw [show decide (([1, 2] : List Int) = [1, 2]) = true from rfl]
 rintro e w10 ⟨rfl, hx⟩
 have hq := hq0.out.trans hx
 clear hx hq0 b0 bl
 (try replace hT := Lib.hid (hT.out.ext hq))
 (try replace hL := Lib.hid (hL.out.ext hq))
 (try replace hC := Lib.hid (hC.out.ext hq))
 (try replace hN := Lib.hid (hN.out.ext hq))
 (try replace hTb := Lib.hid (hTb.out.ext hq))
 (try replace hB := Lib.hid ((Keep.of_ext (X := fun _ => False) hq).blk hB.out id))
 replace hE := Lib.hid (hE.out.trans hq)
 clear hq
 have b0 : w10.cell? ⟨w1.heap.size, 0, none⟩ = some (.slice ta 4 tc) := hB.out.cell 0
 have bl := hB.out.lt
 go_wp2_with fail
 refine (rSame_calls (.slice ca 5 cc) (.slice (some ⟨w8.heap.size + 1 + 1 + 1, 0, none⟩) 5 5) fourN w10 hC.out hN.out).mono ?_
 rintro e w11 ⟨rfl, hq⟩
 clear b0 bl
 (try replace hT := Lib.hid (hT.out.ext hq))
 (try replace hL := Lib.hid (hL.out.ext hq))
 (try replace hC := Lib.hid (hC.out.ext hq))
 (try replace hN := Lib.hid (hN.out.ext hq))
 (try replace hTb := Lib.hid (hTb.out.ext hq))
 (try replace hB := Lib.hid ((Keep.of_ext (X := fun _ => False) hq).blk hB.out id))
 replace hE := Lib.hid (hE.out.trans hq)
 clear hq
 have b0 : w11.cell? ⟨w1.heap.size, 0, none⟩ = some (.slice ta 4 tc) := hB.out.cell 0
 have bl := hB.out.lt
 go_wp2_with fail
 refine (text_calls (.slice ta 4 tc) (.slice la 2 lc) fourT [1, 2] w11 hT.out hL.out (fun _ => fo_sized) hTb.out).mono ?_
 rw [fo_text]
 rintro e w12 ⟨S, rfl, hS, hq⟩
 obtain rfl : S = X := by rw [hX.out]; exact hS
 clear b0 bl hS hX
 (try replace hT := Lib.hid (hT.out.ext hq))
 (try replace hL := Lib.hid (hL.out.ext hq))
 (try replace hC := Lib.hid (hC.out.ext hq))
 (try replace hN := Lib.hid (hN.out.ext hq))
 (try replace hTb := Lib.hid (hTb.out.ext hq))
 (try replace hB := Lib.hid ((Keep.of_ext (X := fun _ => False) hq).blk hB.out id))
 replace hE := Lib.hid (hE.out.trans hq)
 clear hq
 have b0 : w12.cell? ⟨w1.heap.size, 0, none⟩ = some (.slice ta 4 tc) := hB.out.cell 0
 have bl := hB.out.lt
 go_wp2_with fail
 refine (coreCheck_calls (.slice ta 4 tc) (.slice la 2 lc) (.slice ca 5 cc) fourT [1, 2] fourN w12 hT.out hL.out hC.out (by decide)).mono ?_
 rw [fo_c0]
 rintro e w13 ⟨rfl, hq⟩
 clear b0 bl
 (try replace hT := Lib.hid (hT.out.ext hq))
 (try replace hL := Lib.hid (hL.out.ext hq))
 (try replace hC := Lib.hid (hC.out.ext hq))
 (try replace hN := Lib.hid (hN.out.ext hq))
 (try replace hTb := Lib.hid (hTb.out.ext hq))
 (try replace hB := Lib.hid ((Keep.of_ext (X := fun _ => False) hq).blk hB.out id))
 replace hE := Lib.hid (hE.out.trans hq)
 clear hq
 have b0 : w13.cell? ⟨w1.heap.size, 0, none⟩ = some (.slice ta 4 tc) := hB.out.cell 0
 have bl := hB.out.lt
 go_wp2_with fail
 have hq0 := Lib.hid ((Ext.refl w13).alloc (.cells #[.int .i64 1, .int .i64 2, .int .i64 3] 3))
 refine (coreCheck_calls (.slice ta 4 tc) (.slice (some ⟨w13.heap.size, 0, none⟩) 3 3) (.slice ca 5 cc) fourT [1, 2, 3] fourN _ (hT.out.ext hq0.out) (ints_of_blk (l := [1, 2, 3]) (blk_new' rfl rfl) (Nat.le_refl 3) m3) (hC.out.ext hq0.out) (by decide)).mono ?_
 rw [fo_c11]
 rintro e w14 ⟨rfl, hx⟩
 have hq := hq0.out.trans hx
 clear hx hq0 b0 bl
 (try replace hT := Lib.hid (hT.out.ext hq))
 (try replace hL := Lib.hid (hL.out.ext hq))
 (try replace hC := Lib.hid (hC.out.ext hq))
 (try replace hN := Lib.hid (hN.out.ext hq))
 (try replace hTb := Lib.hid (hTb.out.ext hq))
 (try replace hB := Lib.hid ((Keep.of_ext (X := fun _ => False) hq).blk hB.out id))
 replace hE := Lib.hid (hE.out.trans hq)
 clear hq
 go_wp2
 go_ret
 exact ⟨rfl, hE.out⟩
end Go.Proofs.YtjglidlmpjmjeaaGreatDoor
