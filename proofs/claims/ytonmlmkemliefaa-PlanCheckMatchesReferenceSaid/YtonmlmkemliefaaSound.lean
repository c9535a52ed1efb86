/- The law PlanCheckIsSound, walked: true for every task that Made makes, every change of its certificate and every choice. -/
import Derived.Test.YtonmlmkemliefaaChangedB
import Derived.Test.YtonmlmkemliefaaPM
import Derived.Test.YtonmlmkemliefaaSanLaw
import Derived.Deep.RegionWith
namespace Go.Proofs.Ytonmlmkemliefaa
open Go.RowKit

structure SixD where
  a : Int
  b : Int
  c : Int
  d : Int
  e : Int
  f : Int
def SixV (_ : World) (v : Value) (x : SixD) : Prop := v = .agg #[.int .u8 x.a, .int .u8 x.b, .int .u8 x.c, .int .u8 x.d, .int .u8 x.e, .int .u8 x.f] ∧ byteB x.a ∧ byteB x.b ∧ byteB x.c ∧ byteB x.d ∧ byteB x.e ∧ byteB x.f

theorem one_node {W : World} {g : Nat} (bo : Blk W g 49 #[.int .i64 (-1), .slice none 0 0, .int .i64 (-1), .int .i64 0]) : Nodes W (.slice (some ⟨g, 0, none⟩) 1 1) [⟨-1, [], -1, 0⟩] := by
  refine ⟨fun _ => .slice none 0 0, ⟨_, _, rfl, Nat.le_refl _, by decide, fun _ => ⟨_, _, rfl, bo.lt, fun i hi j hj => ?_⟩⟩, fun i hi => ?_⟩
  · simp at hi
    subst hi
    rw [bo.cell]
    match j, hj with
    | 0, _ => rfl
    | 1, _ => rfl
    | 2, _ => rfl
    | 3, _ => rfl
  · simp at hi
    subst hi
    exact ⟨none, 0, rfl, Nat.le_refl _, by decide, fun h => absurd h (by decide)⟩
set_option maxHeartbeats 3200000 in
set_option maxRecDepth 100000 in
theorem planCheckIsSound_calls (rv : Value) (l : List RawD) (gv : Value) (ch : List ChangeD) (sv : Value) (x : SixD) (w : World) (h : Raws w rv l) (hch : Changes w gv ch) (hx : SixV w sv x) :
    Calls Try.prog 10 #[rv, gv, sv] w fun e w' => e = .returned (.bool true) ∧ Ext w w' := by
  have hraw := Lib.hid h
  have hch' := Lib.hid hch
  have hok := Lib.hid h.ok
  obtain ⟨a, b, c, d, e, f⟩ := x
  obtain ⟨rfl, ⟨a0, a1⟩, ⟨b0, b1⟩, ⟨c0, c1⟩, ⟨d0, d1⟩, ⟨e0, e1⟩, ⟨f0, f1⟩⟩ := hx
  dsimp only at a0 a1 b0 b1 c0 c1 d0 d1 e0 e1 f0 f1 ⊢
  have me0 : 0 ≤ e % 4 := by omega
  have me1 : e % 4 ≤ 3 := by omega
  have mf0 : 0 ≤ f % 3 := by omega
  have mf1 : f % 3 ≤ 2 := by omega
  clear h hch
  go_enter Try.func10, Try.ntmps10
  go_upto_region 1 with (fail)
  refine wp_abs (S := fun W => Hid (Ext w W) ∧ Hid (Blk W w.heap.size 75 #[.int .u8 a, .int .u8 b, .int .u8 c, .int .u8 d, .int .u8 e, .int .u8 f])) ?_ ?_
  · exact ⟨Lib.hid (by exact (by repeat' (first | (with_reducible exact Ext.refl _) | (with_reducible assumption) | (with_reducible refine Ext.drewN ?_ _) | (with_reducible refine Ext.drew ?_) | (with_reducible refine Ext.alloc ?_ _) | (with_reducible refine Ext.trans ?_ (by with_reducible assumption))))), Lib.hid (blk_new' rfl rfl)⟩
  rintro W0 ⟨hE0, hX0⟩
  go_wp2_with fail
  refine (sanity_calls _).mono ?_
  rintro e' w1 ⟨rfl, hx1⟩
  have hx1' := Lib.hid (hE0.out.trans hx1)
  have hX1 := Lib.hid ((Keep.of_ext (X := fun _ => False) hx1).blk hX0.out id)
  clear hx1 hE0 hX0
  go_wp2_with fail
  refine (made_calls rv l w1 (hraw.out.ext hx1'.out)).mono ?_
  rintro e' w2 ⟨tv, rfl, ht, hx2⟩
  obtain ⟨t, ht0⟩ : ∃ t, Hid (madeT l = t) := ⟨_, rfl⟩
  have hv : Hid (validT t = 0) := by rw [← ht0.out]; exact made_valid hok.out
  have hm : Hid (treeMax t ≤ 65536) := by rw [← ht0.out]; exact Nat.le_trans (made_tree hok.out) (by decide)
  have ho : Hid (∀ x ∈ t, 0 < x.opts.length) := by rw [← ht0.out]; exact fun x hx => (made_opts hok.out hx).1
  have ho4 : Hid (∀ x ∈ t, x.opts.length ≤ 4) := by rw [← ht0.out]; exact fun x hx => (made_opts hok.out hx).2.1
  have hlen : t.length ≤ 4 := by rw [← ht0.out]; exact made_len.2
  rw [ht0.out] at ht
  clear ht0
  have ht' := Lib.hid ht.read
  obtain ⟨ta, tc, rfl⟩ := ht.read.form
  have hx2' := Lib.hid (hx1'.out.trans hx2)
  have hX2 := Lib.hid ((Keep.of_ext (X := fun _ => False) hx2).blk hX1.out id)
  clear ht hx2 hx1' hX1
  go_wp2_with fail
  refine (best_calls _ t _ (ht'.out.ext (by exact (by repeat' (first | (with_reducible exact Ext.refl _) | (with_reducible assumption) | (with_reducible refine Ext.drewN ?_ _) | (with_reducible refine Ext.drew ?_) | (with_reducible refine Ext.alloc ?_ _) | (with_reducible refine Ext.trans ?_ (by with_reducible assumption)))))) (fun _ => hm.out)).mono ?_
  intro e' w3 hb
  have hcase : ∃ pa pl pc q cv er c0, e' = .returned (.tuple #[.agg #[.slice pa pl pc, .int .i64 q], cv, .int .i64 er]) ∧ Hid (Ext (w2.alloc (.cells #[.slice ta t.length tc] 26)) w3) ∧ 0 ≤ q ∧ q ≤ 512000000 ∧ Hid (Nodes w3 cv c0) ∧ Hid (KidsB c0) ∧ c0.length ≤ 65536 := by
    rcases best_out hv.out hb with ⟨hn, rfl, hx5⟩ | ⟨pv, cv, p, q, hq, rfl, hx5, hp, hc⟩
    · exact ⟨none, 0, 0, 0, _, _, [], rfl, Lib.hid hx5, by omega, by omega, Lib.hid ⟨fun _ => .slice none 0 0, ⟨none, 0, rfl, Nat.le_refl _, by unfold maxLen; omega, fun h => by simp at h⟩, fun i hi => by simp at hi⟩, (by intro n hn; cases hn), by simp⟩
    · have hqb := bestOf_bd hv.out hq
      obtain ⟨pa, pc, rfl⟩ := hp.form
      refine ⟨pa, _, pc, q, _, _, _, rfl, Lib.hid hx5, hqb.1, hqb.2, Lib.hid hc, fun n hn => ?_, Nat.le_trans (growL_len t q t [] 0 0) hm.out⟩
      have := growL_kids t q 4 t ho4.out [] 0 0 n hn
      omega
  obtain ⟨pa, pl, pc, q, cv, er, cn, rfl, hx3, q0, q1, hc0, hkb0, hcl0⟩ := hcase
  have tb3 : w3.cell? ⟨w2.heap.size, 0, none⟩ = some (.slice ta t.length tc) := hx3.out.cell (by simp)
  have ht3 := Lib.hid ((ht'.out.ext ((Ext.refl w2).alloc _)).ext hx3.out)
  have hx3' := Lib.hid ((hx2'.out.trans (Ext.alloc (Ext.refl w2) _)).trans hx3.out)
  have hX3 := Lib.hid ((Keep.of_ext (X := fun _ => False) (((Ext.refl w2).alloc _).trans hx3.out)).blk hX2.out id)
  clear hb hx3 hx2' hX2 ht'
  obtain ⟨B, hB⟩ : ∃ B, Hid (q + e % 4 - f % 3 = B) := ⟨_, rfl⟩
  by_cases her : er = 0
  · have hne : (er != 0) = false := by simpa using her
    go_upto_region 6 with (fail)
    refine wp_abs (S := fun W => Hid (Ext w3 W) ∧ Hid (Blk W w3.heap.size 30 #[.slice pa pl pc, .int .i64 q])) ?_ ?_
    · exact ⟨Lib.hid (by exact (by repeat' (first | (with_reducible exact Ext.refl _) | (with_reducible assumption) | (with_reducible refine Ext.drewN ?_ _) | (with_reducible refine Ext.drew ?_) | (with_reducible refine Ext.alloc ?_ _) | (with_reducible refine Ext.trans ?_ (by with_reducible assumption))))), Lib.hid (blk_new' rfl rfl)⟩
    rintro W ⟨hW, bp⟩
    have hN4 := Lib.hid (hc0.out.ext hW.out)
    have hkb4 := hkb0
    have hcl4 := hcl0
    clear her
    have hT4 := Lib.hid (ht3.out.ext hW.out)
    have tb4 := hW.out.cell tb3
    have hch4 := Lib.hid (hch'.out.ext (hx3'.out.trans hW.out))
    have hX4 := Lib.hid ((Keep.of_ext (X := fun _ => False) hW.out).blk hX3.out id)
    have p1 : W.cell? ⟨w3.heap.size, 1, none⟩ = some (.int .i64 q) := bp.out.cell 1
    have xe : W.cell? ⟨w.heap.size, 4, none⟩ = some (.int .u8 e) := hX4.out.cell 4
    have xf : W.cell? ⟨w.heap.size, 5, none⟩ = some (.int .u8 f) := hX4.out.cell 5
    have hx4' := Lib.hid (hx3'.out.trans hW.out)
    clear hW bp
    go_upto_region 7 with (fail)
    rw [hB.out]
    clear p1 xe xf
    have hchc : Hid (∀ X, Ext W X → Calls Try.prog 20 #[cv, gv] X fun e' w' => ∃ v c', e' = .returned v ∧ NodesS X w' v c' ∧ KidsB c') := fun X hX => changed_calls cv cn gv ch X (hN4.out.ext hX) hkb4.out hcl4 (hch4.out.ext hX)
    go_region_with (first | (go_at_call 20; refine (hchc.out _ (by exact (by repeat' (first | (with_reducible exact Ext.refl _) | (with_reducible assumption) | (with_reducible refine Ext.drewN ?_ _) | (with_reducible refine Ext.drew ?_) | (with_reducible refine Ext.alloc ?_ _) | (with_reducible refine Ext.trans ?_ (by with_reducible assumption)))))).mono ?_; rintro e' w5 ⟨nv, c5, rfl, hS5, hK5⟩; have tb5 := hS5.ext.cell tb4) | (go_at_call 19; refine (check_calls _ _ t B c5 _ (hT4.out.ext (Ext.trans (by exact (by repeat' (first | (with_reducible exact Ext.refl _) | (with_reducible assumption) | (with_reducible refine Ext.drewN ?_ _) | (with_reducible refine Ext.drew ?_) | (with_reducible refine Ext.alloc ?_ _) | (with_reducible refine Ext.trans ?_ (by with_reducible assumption))))) hS5.ext)) hS5.read hK5).mono ?_; rintro e' w6 ⟨rfl, hx6⟩))
    all_goals
      have hE6 := Lib.hid (((Ext.refl W).drew.trans hS5.ext).trans hx6)
      obtain ⟨ck, hck⟩ : ∃ ck, Hid (checkT t B c5 = ck) := ⟨_, rfl⟩
      rw [hck.out]
      clear hS5 hK5 tb5 hx6 hchc
      by_cases hc0' : ck = 0
      · have hcb : (ck != 0) = false := by simpa using hc0'
        have hsound : Hid (∀ p, lawfulB t p = true → B ≤ sumH t p) := fun p hp => check_sound (hck.out.trans hc0') hp
        have tb6 := hE6.out.cell tb4
        have hT6 := Lib.hid (hT4.out.ext hE6.out)
        have hX6 := Lib.hid ((Keep.of_ext (X := fun _ => False) hE6.out).blk hX4.out id)
        clear hc0' hck tb4
        simp only [List.getElem_toArray, List.getElem_cons_succ, List.getElem_cons_zero, Act.put, List.setIfInBounds_toArray, List.set_cons_succ, List.set_cons_zero]
        go_wp2_with fail
        have z0 := After.cell tb6
        refine wp_region_tail 2 (by kernel_rfl) (by kernel_rfl) ?_
        simp only [List.take_succ_cons, List.take_zero, List.drop_succ_cons, List.drop_zero]
        repeat (go_big_quiet_step (fail))
        refine wpQuiet_nil ?_
        rintro _ ⟨u, rfl⟩
        have hV := u.ext
        generalize u.world = V at hV ⊢
        have tbV := hV.cell tb6
        have hTV := Lib.hid (hT6.out.ext hV)
        have hXV := Lib.hid ((Keep.of_ext (X := fun _ => False) hV).blk hX6.out id)
        have hxV := Lib.hid ((hx4'.out.trans hE6.out).trans hV)
        have hby : Hid (Bytes V (.slice (some ⟨w.heap.size, 0, none⟩) 4 6) [a, b, c, d]) := by
          refine ⟨⟨_, 6, rfl, by simp, by decide, fun _ => ⟨w.heap.size, 0, rfl, hXV.out.lt, fun i hi j hj => ?_⟩⟩, ?_⟩
          · obtain rfl : j = 0 := by omega
            rw [hXV.out.cell]
            match i, hi with
            | 0, _ => rfl
            | 1, _ => rfl
            | 2, _ => rfl
            | 3, _ => rfl
          · intro y hy
            simp at hy
            rcases hy with rfl | rfl | rfl | rfl <;> exact ⟨by assumption, by assumption⟩
        clear z0 tb6 hV
        go_wp2_with fail
        refine (choice_calls _ _ t [a, b, c, d] V hTV.out hby.out ho.out (by omega)).mono ?_
        rintro e' w7 ⟨kv, rfl, hk, hx7⟩
        obtain ⟨pick, hpk⟩ : ∃ pick, Hid (choiceT t [a, b, c, d] = pick) := ⟨_, rfl⟩
        have hcb' : Hid (choiceB t pick = true) := by rw [← hpk.out]; exact choiceT_ok ho.out
        rw [hpk.out] at hk
        obtain ⟨ka, kc, rfl⟩ := hk.read.form
        have hk7 := Lib.hid hk.read
        have tb7 := hx7.cell tbV
        have hT7 := Lib.hid (hTV.out.ext hx7)
        have hx7' := Lib.hid (hxV.out.trans hx7)
        obtain ⟨n, hn⟩ : ∃ n, Hid (sumH t pick = n) := ⟨_, rfl⟩
        have hH : Hid (harmT t pick = (n, 0)) := by
          show _ = _
          simp only [harmT]
          rw [if_pos hv.out, if_pos hcb'.out, hn.out]
        clear hk hx7 tbV hpk
        go_wp2_with fail
        refine (harm_calls _ _ t pick w7 hT7.out hk7.out).mono ?_
        rw [hH.out]
        rintro e' w8 ⟨rfl, hx8⟩
        have tb8 := hx8.cell tb7
        have hT8 := Lib.hid (hT7.out.ext hx8)
        have hk8 := Lib.hid (hk7.out.ext hx8)
        have hx8' := Lib.hid (hx7'.out.trans hx8)
        clear hx8 tb7
        obtain ⟨lb, hlb⟩ : ∃ lb, Hid (lawfulB t pick = lb) := ⟨_, rfl⟩
        have hLw : Hid (∀ X, Ext w8 X → Calls Try.prog 29 #[.agg #[.slice ta t.length tc], .slice ka pick.length kc] X fun e w' => e = .returned (.bool lb) ∧ Ext X w') := fun X hX => by
          have := lawful_calls (.slice ta t.length tc) (.slice ka pick.length kc) t pick X (hT8.out.ext hX) (hk8.out.ext hX)
          rwa [hlb.out] at this
        have hge : Hid (lb = true → B ≤ n) := fun h => by rw [← hn.out]; exact hsound.out pick (hlb.out.trans h)
        cases lb with
        | false =>
          go_wp2_with fail
          refine (hLw.out _ (by exact (by repeat' (first | (with_reducible exact Ext.refl _) | (with_reducible assumption) | (with_reducible refine Ext.drewN ?_ _) | (with_reducible refine Ext.drew ?_) | (with_reducible refine Ext.alloc ?_ _) | (with_reducible refine Ext.trans ?_ (by with_reducible assumption)))))).mono ?_
          rintro e' w9 ⟨rfl, hx9⟩
          have hx9' := Lib.hid (hx8'.out.trans hx9)
          clear hx9
          go_wp2
          go_ret
          exact ⟨rfl, hx9'.out⟩
        | true =>
          have hle := hge.out rfl
          have hdle : decide (B ≤ n) = true := by simpa using hle
          go_wp2_with fail
          refine (hLw.out _ (by exact (by repeat' (first | (with_reducible exact Ext.refl _) | (with_reducible assumption) | (with_reducible refine Ext.drewN ?_ _) | (with_reducible refine Ext.drew ?_) | (with_reducible refine Ext.alloc ?_ _) | (with_reducible refine Ext.trans ?_ (by with_reducible assumption)))))).mono ?_
          rintro e' w9 ⟨rfl, hx9⟩
          have hx9' := Lib.hid (hx8'.out.trans hx9)
          clear hx9
          go_wp2
          go_ret
          exact ⟨rfl, hx9'.out⟩
      · have hcb : (ck != 0) = true := by simpa using hc0'
        clear hc0' hck
        go_wp2
        go_ret
        exact ⟨rfl, hx4'.out.trans hE6.out⟩
  · have hne : (er != 0) = true := by simpa using her
    clear her
    go_upto_region 6 with (fail)
    refine wp_abs (S := fun W => Hid (Ext w3 W) ∧ Hid (Blk W w3.heap.size 30 #[.slice pa pl pc, .int .i64 q]) ∧ Hid (Blk W (w3.heap.size + 1) 49 #[.int .i64 (-1), .slice none 0 0, .int .i64 (-1), .int .i64 0])) ?_ ?_
    · exact ⟨Lib.hid (by exact (by repeat' (first | (with_reducible exact Ext.refl _) | (with_reducible assumption) | (with_reducible refine Ext.drewN ?_ _) | (with_reducible refine Ext.drew ?_) | (with_reducible refine Ext.alloc ?_ _) | (with_reducible refine Ext.trans ?_ (by with_reducible assumption))))), Lib.hid (Blk.alloc (blk_new' rfl rfl) _), Lib.hid (blk_new' (by simp only [World.size_alloc]) rfl)⟩
    rintro W ⟨hW, bp, bo⟩
    have hN4 : Hid (Nodes W (.slice (some ⟨w3.heap.size + 1, 0, none⟩) 1 1) [⟨-1, [], -1, 0⟩]) := Lib.hid (one_node bo.out)
    have hkb4 : Hid (KidsB [⟨-1, [], -1, 0⟩]) := by intro n hn; simp at hn; subst hn; simp
    have hcl4 : ([⟨-1, [], -1, 0⟩] : List NodeD).length ≤ 65536 := by simp
    clear bo
    have hT4 := Lib.hid (ht3.out.ext hW.out)
    have tb4 := hW.out.cell tb3
    have hch4 := Lib.hid (hch'.out.ext (hx3'.out.trans hW.out))
    have hX4 := Lib.hid ((Keep.of_ext (X := fun _ => False) hW.out).blk hX3.out id)
    have p1 : W.cell? ⟨w3.heap.size, 1, none⟩ = some (.int .i64 q) := bp.out.cell 1
    have xe : W.cell? ⟨w.heap.size, 4, none⟩ = some (.int .u8 e) := hX4.out.cell 4
    have xf : W.cell? ⟨w.heap.size, 5, none⟩ = some (.int .u8 f) := hX4.out.cell 5
    have hx4' := Lib.hid (hx3'.out.trans hW.out)
    clear hW bp
    go_upto_region 7 with (fail)
    rw [hB.out]
    clear p1 xe xf
    have hchc : Hid (∀ X, Ext W X → Calls Try.prog 20 #[(.slice (some ⟨w3.heap.size + 1, 0, none⟩) 1 1), gv] X fun e' w' => ∃ v c', e' = .returned v ∧ NodesS X w' v c' ∧ KidsB c') := fun X hX => changed_calls (.slice (some ⟨w3.heap.size + 1, 0, none⟩) 1 1) [⟨-1, [], -1, 0⟩] gv ch X (hN4.out.ext hX) hkb4.out hcl4 (hch4.out.ext hX)
    go_region_with (first | (go_at_call 20; refine (hchc.out _ (by exact (by repeat' (first | (with_reducible exact Ext.refl _) | (with_reducible assumption) | (with_reducible refine Ext.drewN ?_ _) | (with_reducible refine Ext.drew ?_) | (with_reducible refine Ext.alloc ?_ _) | (with_reducible refine Ext.trans ?_ (by with_reducible assumption)))))).mono ?_; rintro e' w5 ⟨nv, c5, rfl, hS5, hK5⟩; have tb5 := hS5.ext.cell tb4) | (go_at_call 19; refine (check_calls _ _ t B c5 _ (hT4.out.ext (Ext.trans (by exact (by repeat' (first | (with_reducible exact Ext.refl _) | (with_reducible assumption) | (with_reducible refine Ext.drewN ?_ _) | (with_reducible refine Ext.drew ?_) | (with_reducible refine Ext.alloc ?_ _) | (with_reducible refine Ext.trans ?_ (by with_reducible assumption))))) hS5.ext)) hS5.read hK5).mono ?_; rintro e' w6 ⟨rfl, hx6⟩))
    all_goals
      have hE6 := Lib.hid (((Ext.refl W).drew.trans hS5.ext).trans hx6)
      obtain ⟨ck, hck⟩ : ∃ ck, Hid (checkT t B c5 = ck) := ⟨_, rfl⟩
      rw [hck.out]
      clear hS5 hK5 tb5 hx6 hchc
      by_cases hc0' : ck = 0
      · have hcb : (ck != 0) = false := by simpa using hc0'
        have hsound : Hid (∀ p, lawfulB t p = true → B ≤ sumH t p) := fun p hp => check_sound (hck.out.trans hc0') hp
        have tb6 := hE6.out.cell tb4
        have hT6 := Lib.hid (hT4.out.ext hE6.out)
        have hX6 := Lib.hid ((Keep.of_ext (X := fun _ => False) hE6.out).blk hX4.out id)
        clear hc0' hck tb4
        simp only [List.getElem_toArray, List.getElem_cons_succ, List.getElem_cons_zero, Act.put, List.setIfInBounds_toArray, List.set_cons_succ, List.set_cons_zero]
        go_wp2_with fail
        have z0 := After.cell tb6
        refine wp_region_tail 2 (by kernel_rfl) (by kernel_rfl) ?_
        simp only [List.take_succ_cons, List.take_zero, List.drop_succ_cons, List.drop_zero]
        repeat (go_big_quiet_step (fail))
        refine wpQuiet_nil ?_
        rintro _ ⟨u, rfl⟩
        have hV := u.ext
        generalize u.world = V at hV ⊢
        have tbV := hV.cell tb6
        have hTV := Lib.hid (hT6.out.ext hV)
        have hXV := Lib.hid ((Keep.of_ext (X := fun _ => False) hV).blk hX6.out id)
        have hxV := Lib.hid ((hx4'.out.trans hE6.out).trans hV)
        have hby : Hid (Bytes V (.slice (some ⟨w.heap.size, 0, none⟩) 4 6) [a, b, c, d]) := by
          refine ⟨⟨_, 6, rfl, by simp, by decide, fun _ => ⟨w.heap.size, 0, rfl, hXV.out.lt, fun i hi j hj => ?_⟩⟩, ?_⟩
          · obtain rfl : j = 0 := by omega
            rw [hXV.out.cell]
            match i, hi with
            | 0, _ => rfl
            | 1, _ => rfl
            | 2, _ => rfl
            | 3, _ => rfl
          · intro y hy
            simp at hy
            rcases hy with rfl | rfl | rfl | rfl <;> exact ⟨by assumption, by assumption⟩
        clear z0 tb6 hV
        go_wp2_with fail
        refine (choice_calls _ _ t [a, b, c, d] V hTV.out hby.out ho.out (by omega)).mono ?_
        rintro e' w7 ⟨kv, rfl, hk, hx7⟩
        obtain ⟨pick, hpk⟩ : ∃ pick, Hid (choiceT t [a, b, c, d] = pick) := ⟨_, rfl⟩
        have hcb' : Hid (choiceB t pick = true) := by rw [← hpk.out]; exact choiceT_ok ho.out
        rw [hpk.out] at hk
        obtain ⟨ka, kc, rfl⟩ := hk.read.form
        have hk7 := Lib.hid hk.read
        have tb7 := hx7.cell tbV
        have hT7 := Lib.hid (hTV.out.ext hx7)
        have hx7' := Lib.hid (hxV.out.trans hx7)
        obtain ⟨n, hn⟩ : ∃ n, Hid (sumH t pick = n) := ⟨_, rfl⟩
        have hH : Hid (harmT t pick = (n, 0)) := by
          show _ = _
          simp only [harmT]
          rw [if_pos hv.out, if_pos hcb'.out, hn.out]
        clear hk hx7 tbV hpk
        go_wp2_with fail
        refine (harm_calls _ _ t pick w7 hT7.out hk7.out).mono ?_
        rw [hH.out]
        rintro e' w8 ⟨rfl, hx8⟩
        have tb8 := hx8.cell tb7
        have hT8 := Lib.hid (hT7.out.ext hx8)
        have hk8 := Lib.hid (hk7.out.ext hx8)
        have hx8' := Lib.hid (hx7'.out.trans hx8)
        clear hx8 tb7
        obtain ⟨lb, hlb⟩ : ∃ lb, Hid (lawfulB t pick = lb) := ⟨_, rfl⟩
        have hLw : Hid (∀ X, Ext w8 X → Calls Try.prog 29 #[.agg #[.slice ta t.length tc], .slice ka pick.length kc] X fun e w' => e = .returned (.bool lb) ∧ Ext X w') := fun X hX => by
          have := lawful_calls (.slice ta t.length tc) (.slice ka pick.length kc) t pick X (hT8.out.ext hX) (hk8.out.ext hX)
          rwa [hlb.out] at this
        have hge : Hid (lb = true → B ≤ n) := fun h => by rw [← hn.out]; exact hsound.out pick (hlb.out.trans h)
        cases lb with
        | false =>
          go_wp2_with fail
          refine (hLw.out _ (by exact (by repeat' (first | (with_reducible exact Ext.refl _) | (with_reducible assumption) | (with_reducible refine Ext.drewN ?_ _) | (with_reducible refine Ext.drew ?_) | (with_reducible refine Ext.alloc ?_ _) | (with_reducible refine Ext.trans ?_ (by with_reducible assumption)))))).mono ?_
          rintro e' w9 ⟨rfl, hx9⟩
          have hx9' := Lib.hid (hx8'.out.trans hx9)
          clear hx9
          go_wp2
          go_ret
          exact ⟨rfl, hx9'.out⟩
        | true =>
          have hle := hge.out rfl
          have hdle : decide (B ≤ n) = true := by simpa using hle
          go_wp2_with fail
          refine (hLw.out _ (by exact (by repeat' (first | (with_reducible exact Ext.refl _) | (with_reducible assumption) | (with_reducible refine Ext.drewN ?_ _) | (with_reducible refine Ext.drew ?_) | (with_reducible refine Ext.alloc ?_ _) | (with_reducible refine Ext.trans ?_ (by with_reducible assumption)))))).mono ?_
          rintro e' w9 ⟨rfl, hx9⟩
          have hx9' := Lib.hid (hx8'.out.trans hx9)
          clear hx9
          go_wp2
          go_ret
          exact ⟨rfl, hx9'.out⟩
      · have hcb : (ck != 0) = true := by simpa using hc0'
        clear hc0' hck
        go_wp2
        go_ret
        exact ⟨rfl, hx4'.out.trans hE6.out⟩
end Go.Proofs.Ytonmlmkemliefaa
