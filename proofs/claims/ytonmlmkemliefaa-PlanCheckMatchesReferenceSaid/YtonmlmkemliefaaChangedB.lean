/- The law's changes of a certificate, walked: some certificate comes out. -/
import Derived.Test.YtonmlmkemliefaaChangedA
import Derived.Deep.Cut
namespace Go.Proofs.Ytonmlmkemliefaa
open Go.RowKit

def KidsB (c : List NodeD) : Prop := ∀ n ∈ c, n.kids.length ≤ 65536
theorem node_one {kv : Value} {w : World} {kids : List Int} {a b d : Int} (h : Ints w kv kids) : ∀ u ∈ [Value.int .i64 a, kv, .int .i64 b, .int .i64 d], u.oneCell' = true := by
  obtain ⟨A, c, rfl⟩ := h.form
  simp [Value.oneCell']
theorem KidsB.snoc {c : List NodeD} (h : KidsB c) {n : NodeD} (hn : n.kids.length ≤ 65536) : KidsB (c ++ [n]) := fun m hm => by
  rcases List.mem_append.1 hm with h1 | h1
  · exact h m h1
  · simp at h1; subst h1; exact hn
theorem KidsB.set_ {c : List NodeD} (h : KidsB c) {n : NodeD} (hn : n.kids.length ≤ 65536) (i : Nat) : KidsB (c.set i n) := fun m hm => by
  rcases List.mem_or_eq_of_mem_set hm with h1 | h1
  · exact h m h1
  · subst h1; exact hn
theorem KidsB.take {c : List NodeD} (h : KidsB c) (i : Nat) : KidsB (c.take i) := fun m hm => h m (List.mem_of_mem_take hm)

set_option maxHeartbeats 3200000 in
set_option maxRecDepth 100000 in
theorem changed_calls (cv : Value) (c : List NodeD) (lv : Value) (l : List ChangeD) (w : World) (h : Nodes w cv c) (hk : KidsB c) (hcl : c.length ≤ 65536) (hl : Changes w lv l) :
    Calls Try.prog 20 #[cv, lv] w fun e w' => ∃ v c', e = .returned v ∧ NodesS w w' v c' ∧ KidsB c' := by
  obtain ⟨ca, cc, rfl, hn, hc, hat⟩ := h.open
  obtain ⟨la, lc, rfl, hln, hlc, hlat⟩ := hl.open
  obtain ⟨j0, hj0, jz0, jz1, jz2⟩ := info_parts int_info
  obtain ⟨k0, hk0, kz0, kz1, kz2⟩ := info_parts node_info
  have hat' := Lib.hid hat
  have hlat' := Lib.hid hlat
  have hkb := Lib.hid hk
  clear h hl hat hlat hk
  go_enter Try.func20, Try.ntmps20
  go_wp2_with fail
  refine wp_abs (S := fun W => Hid (NodesS w W (.slice (some ⟨w.heap.size, 0, none⟩) 0 0) [])) ?_ ?_
  · exact Lib.hid ⟨by exact (by repeat' (first | (with_reducible exact Ext.refl _) | (with_reducible assumption) | (with_reducible refine Ext.drewN ?_ _) | (with_reducible refine Ext.drew ?_) | (with_reducible refine Ext.alloc ?_ _) | (with_reducible refine Ext.trans ?_ (by with_reducible assumption)))), [], World.ownsRow_made (base := w.heap.size) (e := 49) (size := 4) w #[] 0 (Nat.le_refl _) (by unfold maxLen; omega) rfl, rfl⟩
  intro W1 hS1
  go_loopw [5, 6] (fun vo vi wr => ∃ (i : Nat) (acc : List NodeD), i ≤ c.length ∧ vi = .int .i64 i ∧ acc.length = i ∧ Hid (NodesS w wr vo acc) ∧ Hid (KidsB acc)) (fun _ vi _ => c.length - (intOf vi).toNat)
  case atStart => exact ⟨0, [], by omega, rfl, rfl, hS1, by intro n hn; cases hn⟩
  case round =>
    clear hS1
    obtain ⟨i, acc, hi, rfl, hal, hS, hKB⟩ := hrel
    by_cases h1 : i < c.length
    · obtain ⟨b1, o1, x, ka, kc, rfl, hb1, dx, ex, g0, g1, g2, g3, gk⟩ := hat'.out i h1 wr hS.out.ext
      have hxk := hkb.out x (List.mem_of_getElem? ex.out)
      have hgk := Lib.hid gk
      obtain ⟨xs, hrow, hK⟩ := hS.out.row
      rw [hal] at hrow
      obtain ⟨oA, oC, rfl⟩ := owns_form hrow
      have hrow' := Lib.hid hrow
      have hK' := Lib.hid hK
      have hal' := Lib.hid hal.symm
      have lw := hS.out.ext.size
      have hR : Hid (Reads wr wr.heap.size 1 ka x.kids.length (x.kids.map (Value.int .i64))) := gk.reads
      clear gk hrow hK hal
      go_upto_region 7 with (at_builtin; refine wpList_append_any _ rfl (.tmp 21) (.tmp 23) _ rfl w.heap.size 3 j0 _ 1 8 Try.underlying28 hj0 jz0 jz1 jz2 rfl (by decide) (.slice (some ⟨wr.heap.size + 1, 0, none⟩) 0 0) 0 [] rfl (by have := World.ownsRow_made (base := w.heap.size) (e := 3) (size := 1) (wr.alloc (.cells #[.int .i64 x.wish, .slice ka x.kids.length kc, .int .i64 x.clA, .int .i64 x.clB] 49)) #[] 0 (by rw [World.size_alloc]; omega) (by unfold maxLen; omega) rfl; rw [World.size_alloc] at this; exact this) wr.heap.size ka x.kids.length kc (x.kids.map (Value.int .i64)) rfl ((hR.out.alloc (Nat.le_refl _) _).alloc (by rw [World.size_alloc]; omega) _) (by intro u hu; simp at hu; obtain ⟨y, _, rfl⟩ := hu; rfl) (by unfold maxLen; omega) (by omega) (by rw [World.size_alloc, World.size_alloc]; omega) ?_; intro v1 w1 hown1 hg1 hat1; have hI0 : IntsO w1 w.heap.size v1 x.kids := (by unfold IntsO; simpa using hown1); obtain ⟨A1, C1, rfl⟩ := owns_form hI0; have hE1 := Lib.hid ((((Ext.refl wr).alloc (.cells #[.int .i64 x.wish, .slice ka x.kids.length kc, .int .i64 x.clA, .int .i64 x.clB] 49)).alloc (.cells #[] 3)).grown hg1 (by intro g e; simp [Value.ownBlock] at e; omega)); have hv1 : Blk w1 wr.heap.size 49 #[.int .i64 x.wish, .slice ka x.kids.length kc, .int .i64 x.clA, .int .i64 x.clB] := (Blk.alloc (blk_new' rfl rfl) (.cells #[] 3)).grown hg1 (by simp [Value.ownBlock]); have hI1 : Hid (IntsO w1 w.heap.size (.slice A1 x.kids.length C1) x.kids) := Lib.hid hI0; have c11 : w1.cell? ⟨wr.heap.size, 1, none⟩ = some (.slice ka x.kids.length kc) := hv1.cell 1; have f11 := hv1.frozen 1; have hv1' := Lib.hid hv1; clear hg1 hat1 hown1 hv1 hI0)
      refine wp_abs (S := fun W => Hid (Ext wr W) ∧ Hid (Blk W wr.heap.size 49 #[.int .i64 x.wish, .slice A1 x.kids.length C1, .int .i64 x.clA, .int .i64 x.clB]) ∧ Hid (IntsO W w.heap.size (.slice A1 x.kids.length C1) x.kids)) ?_ ?_
      · have k2 : Keep (fun g => g = wr.heap.size) w1 (w1.setCell ⟨wr.heap.size, 1, none⟩ (.slice A1 x.kids.length C1)) := keep_set _ _ _ _
        exact ⟨Lib.hid (hE1.out.keep k2 (by intro j hj h; omega)), Lib.hid (hv1'.out.set_ 1 _), Lib.hid (hI1.out.keepT k2 (TX.one hv1'.out) (by decide))⟩
      clear hE1 hv1' hI1 c11 f11 g0 g1 g2 g3
      rintro W ⟨hE, hB, hI⟩
      have u0 : W.cell? ⟨wr.heap.size, 0, none⟩ = some (.int .i64 x.wish) := hB.out.cell 0
      have u1 : W.cell? ⟨wr.heap.size, 1, none⟩ = some (.slice A1 x.kids.length C1) := hB.out.cell 1
      have u2 : W.cell? ⟨wr.heap.size, 2, none⟩ = some (.int .i64 x.clA) := hB.out.cell 2
      have u3 : W.cell? ⟨wr.heap.size, 3, none⟩ = some (.int .i64 x.clB) := hB.out.cell 3
      have lw2 := hE.out.size
      have hS2 := Lib.hid (hS.out.toExt hE.out)
      have hrow2 := Lib.hid (owns_ext hrow'.out hE.out)
      have hK2 := Lib.hid (hK'.out.keep (Keep.of_ext (X := fun _ => False) hE.out) (TX.no _ _))
      have hone := Lib.hid (node_one (a := x.wish) (b := x.clA) (d := x.clB) hI.out.read)
      have hKB2 : Hid (KidsB (acc ++ [x])) := hKB.out.snoc hxk
      have hal2 : (acc ++ [x]).length = i + 1 := by rw [List.length_append, ← hal'.out]; rfl
      clear hS hrow' hK' hR hgk
      go_wp2_with (at_builtin; refine wpList_append_any _ rfl (.tmp 26) (.tmp 28) _ rfl w.heap.size 49 k0 _ 4 48 Try.underlying31 hk0 kz0 kz1 kz2 rfl (by decide) (.slice oA i oC) i xs rfl (hrow2.out.alloc _) (W.heap.size + 1) (some ⟨W.heap.size, 0, none⟩) 1 1 [.int .i64 x.wish, .slice A1 x.kids.length C1, .int .i64 x.clA, .int .i64 x.clB] rfl (reads_last _ #[_, _, _, _] _ 4 1 _ _ (by simp) (by omega) rfl) hone.out (by unfold maxLen; omega) (by omega) (by rw [World.size_alloc]; omega) ?_; intro v2 w2 hown2 hg2 hat2)
      have hS3 : Hid (NodesS w w2 v2 (acc ++ [x])) := Lib.hid (NodesS.push (hS2.out.ext.alloc _) hal'.out (hrow2.out.alloc _) (hK2.out.keep (Keep.of_ext (X := fun _ => False) ((Ext.refl W).alloc _)) (TX.no _ _)) (Or.inr (hI.out.ext ((Ext.refl W).alloc _))) hown2 hg2)
      clear hg2 hat2 hown2
      go_wp2
      go_roundw
      case rel => exact ⟨i + 1, acc ++ [x], by omega, by go_num, hal2, hS3, hKB2⟩
      case measure => simp [intOf]; omega
    · obtain ⟨w2, hw2⟩ : ∃ w2 : World, Hid (wr = w2) := ⟨_, rfl⟩
      rw [hw2.out] at hS
      go_wp2_with fail
      rw [hw2.out]
      clear hw2 hi hal
      go_loopw [5, 8] (fun vo vi wr => ∃ (i : Nat) (acc : List NodeD), i ≤ 3 ∧ i ≤ l.length ∧ vi = .int .i64 i ∧ Hid (NodesS w wr vo acc) ∧ Hid (KidsB acc)) (fun _ vi _ => 3 - (intOf vi).toNat)
      case atStart => exact ⟨0, acc, by omega, by omega, rfl, hS, hKB⟩
      case round =>
        clear hS hKB
        obtain ⟨i, acc, hi3, hil, rfl, hS, hKB⟩ := hrel
        obtain ⟨n, hn0⟩ : ∃ n, Hid (acc.length = n) := ⟨_, rfl⟩
        obtain ⟨oA, oC, hvo⟩ : ∃ A C, u5 = .slice A n C := by
          obtain ⟨xs, hrow, _⟩ := hS.out.row
          rw [hn0.out] at hrow
          exact owns_form hrow
        subst hvo
        by_cases q1 : i < l.length
        · by_cases q2 : i < 3
          · have d2 : decide ((i : Int) < 3) = true := by simp; omega
            by_cases q3 : 0 < n
            · have d3 : decide ((0 : Int) < (n : Int)) = true := by simp; omega
              obtain ⟨b1, o1, y, ka, kc, rfl, y0, y1, z0, z1, hkl, hkc, hkc2, hgk, hcells⟩ := hlat'.out i q1
              obtain ⟨hb1, g0, g1, g2, g3, g4, g5⟩ := hcells wr hS.out.ext
              have hgk' := Lib.hid hgk
              obtain ⟨g, cap, xs, e, hbg, hgl, hncap, hcap, hrow, hK⟩ := hS.out.open_ (by rw [hn0.out]; exact q3)
              rw [hn0.out] at e
              cases e
              rw [hn0.out] at hncap
              have hrow' := Lib.hid hrow
              have hK' := Lib.hid hK
              obtain ⟨m, hm⟩ : ∃ m : Nat, y.at_ % (n : Int) = (m : Int) := ⟨(y.at_ % (n : Int)).toNat, by have := Int.emod_nonneg y.at_ (show (n : Int) ≠ 0 by omega); omega⟩
              have hmn : m < n := by have := Int.emod_lt_of_pos y.at_ (show (0 : Int) < (n : Int) by omega); omega
              have hma : m < acc.length := by rw [hn0.out]; exact hmn
              have hno := Lib.hid (List.getElem?_eq_getElem hma)
              generalize acc[m] = nd at hno
              have c0 := hrow'.out.cellAt (m * 4) (by omega)
              have c1 := hrow'.out.cellAt (m * 4 + 1) (by omega)
              have c2 := hrow'.out.cellAt (m * 4 + 2) (by omega)
              have c3 := hrow'.out.cellAt (m * 4 + 3) (by omega)
              obtain ⟨kv0, e0, e1, e2, e3, _⟩ := hK'.out.at_ m nd hno.out
              rw [e0] at c0
              rw [e1] at c1
              rw [e2] at c2
              rw [e3] at c3
              have f0 := hrow'.out.frozenAt (m * 4)
              have f1 := hrow'.out.frozenAt (m * 4 + 1)
              have f2 := hrow'.out.frozenAt (m * 4 + 2)
              have f3 := hrow'.out.frozenAt (m * 4 + 3)
              have hset := hK'.out.set_ m nd hno.out
              have hset' := Lib.hid hset
              have hndk : nd.kids.length ≤ 65536 := hKB.out nd (List.mem_of_getElem? hno.out)
              clear hrow hK hset hgk e0 e1 e2 e3 hcells
              obtain ⟨r, hr⟩ : ∃ r, y.kind % 6 = r := ⟨_, rfl⟩
              have hr0 : 0 ≤ r := by omega
              have hr5 : r ≤ 5 := by omega
              have hcase : r = 0 ∨ r = 1 ∨ r = 2 ∨ r = 3 ∨ r = 4 ∨ r = 5 := by omega
              rcases hcase with rfl | rfl | rfl | rfl | rfl | rfl
              · clear hr0 hr5
                have hN := Lib.hid (NodesS.stored (c' := acc.set m { nd with wish := y.node.wish }) hS.out.ext hrow'.out (by simp) (hset'.out.1 y.node.wish))
                have hn1 : Hid (((acc.set m { nd with wish := y.node.wish })).length = n) := by show _ = _; simp [hn0.out]
                rw [hn1.out] at hN
                go_wp2
                go_roundw
                case rel => exact ⟨i + 1, (acc.set m { nd with wish := y.node.wish }), by omega, by omega, by go_num, hN, Lib.hid (hKB.out.set_ (n := { nd with wish := y.node.wish }) hndk m)⟩
                case measure => simp [intOf]; omega
              · clear hr0 hr5
                have hN := Lib.hid (NodesS.stored (c' := acc.set m { nd with clA := y.node.clA }) hS.out.ext hrow'.out (by simp) (hset'.out.2.1 y.node.clA))
                have hn1 : Hid (((acc.set m { nd with clA := y.node.clA })).length = n) := by show _ = _; simp [hn0.out]
                rw [hn1.out] at hN
                go_wp2
                go_roundw
                case rel => exact ⟨i + 1, (acc.set m { nd with clA := y.node.clA }), by omega, by omega, by go_num, hN, Lib.hid (hKB.out.set_ (n := { nd with clA := y.node.clA }) hndk m)⟩
                case measure => simp [intOf]; omega
              · clear hr0 hr5
                have hN := Lib.hid (NodesS.stored (c' := acc.set m { nd with clB := y.node.clB }) hS.out.ext hrow'.out (by simp) (hset'.out.2.2.1 y.node.clB))
                have hn1 : Hid (((acc.set m { nd with clB := y.node.clB })).length = n) := by show _ = _; simp [hn0.out]
                rw [hn1.out] at hN
                go_wp2
                go_roundw
                case rel => exact ⟨i + 1, (acc.set m { nd with clB := y.node.clB }), by omega, by omega, by go_num, hN, Lib.hid (hKB.out.set_ (n := { nd with clB := y.node.clB }) hndk m)⟩
                case measure => simp [intOf]; omega
              · clear hr0 hr5
                obtain ⟨km, hkm⟩ : ∃ km : Nat, Hid (min y.node.kids.length 6 = km) := ⟨_, rfl⟩
                have hkmle : km ≤ 6 := by rw [← hkm.out]; omega
                have hkmle2 : km ≤ y.node.kids.length := by rw [← hkm.out]; omega
                have hkmE : Hid (km = (if 6 < (y.node.kids.length : Int) then (6 : Int) else (y.node.kids.length : Int)).toNat) := by
                  have := hkm.out
                  show _ = _
                  split <;> omega
                go_wp2_with fail
                have x3 := After.cell g3
                clear g0 g1 g2 g3 g4 g5 c0 c1 c2 c3 f0 f1 f2 f3
                refine wp_region_tail 19 (by kernel_rfl) (by kernel_rfl) ?_
                simp only [List.take_succ_cons, List.take_zero, List.drop_succ_cons, List.drop_zero]
                repeat (go_big_quiet_step (fail))
                refine wpQuiet_nil ?_
                rintro _ ⟨u, rfl⟩
                have hV := u.ext
                generalize u.world = V at hV ⊢
                clear x3
                have hrowV := Lib.hid (owns_ext hrow'.out hV)
                have hKV := Lib.hid (hK'.out.keep (Keep.of_ext (X := fun _ => False) hV) (TX.no _ _))
                have c1 := hrowV.out.cellAt (m * 4 + 1) (by omega)
                obtain ⟨kv1, e0, e1, e2, e3, _⟩ := hKV.out.at_ m nd hno.out
                rw [e1] at c1
                have f1 := hrowV.out.frozenAt (m * 4 + 1)
                have hN := Lib.hid (NodesS.stored (c' := acc.set m { nd with kids := y.node.kids.take km }) (hS.out.ext.trans hV) hrowV.out (by simp) ((hKV.out.set_ m nd hno.out).2.2.2 (.slice ka km kc) (y.node.kids.take km) (Or.inl (hgk'.out.take hkmle2))))
                have hkk : (y.node.kids.take km).length ≤ 65536 := by simp; omega
                clear e0 e1 e2 e3 hV
                have hn1 : Hid (((acc.set m { nd with kids := y.node.kids.take km })).length = n) := by show _ = _; simp [hn0.out]
                rw [hn1.out] at hN
                go_wp2
                go_roundw
                case rel => exact ⟨i + 1, (acc.set m { nd with kids := y.node.kids.take km }), by omega, by omega, by go_num, (by rw [← hkmE.out]; exact hN), Lib.hid (hKB.out.set_ (n := { nd with kids := y.node.kids.take km }) hkk m)⟩
                case measure => simp [intOf]; omega
              · clear hr0 hr5
                have hN0 := NodesS.take hS.out.ext hrow'.out hK'.out (by omega : m ≤ acc.length)
                have hN := Lib.hid hN0
                have hn1 : Hid ((acc.take m).length = m) := by show _ = _; simp; omega
                go_wp2
                go_roundw
                case rel => exact ⟨i + 1, acc.take m, by omega, by omega, by go_num, hN, Lib.hid (hKB.out.take m)⟩
                case measure => simp [intOf]; omega
              · clear hr0 hr5
                have hN := Lib.hid (NodesS.stored4 (n := ⟨-1, [], -1, 0⟩) (kv := .slice none 0 0) (Or.inr (IntsO.nil _ _)) hS.out.ext hrow'.out hK'.out hma)
                rw [hn0.out] at hN
                go_wp2
                go_roundw
                case rel => exact ⟨i + 1, acc.set m ⟨-1, [], -1, 0⟩, by omega, by omega, by go_num, hN, Lib.hid (hKB.out.set_ (n := ⟨-1, [], -1, 0⟩) (by simp) m)⟩
                case measure => simp [intOf]; omega
            · have d3 : decide ((0 : Int) < (n : Int)) = false := by simp; omega
              go_wp2
              go_ret
              exact ⟨_, _, rfl, hS.out, hKB.out⟩
          · have d2 : decide ((i : Int) < 3) = false := by simp; omega
            go_wp2
            go_ret
            exact ⟨_, _, rfl, hS.out, hKB.out⟩
        ·
          go_wp2
          go_ret
          exact ⟨_, _, rfl, hS.out, hKB.out⟩
end Go.Proofs.Ytonmlmkemliefaa
