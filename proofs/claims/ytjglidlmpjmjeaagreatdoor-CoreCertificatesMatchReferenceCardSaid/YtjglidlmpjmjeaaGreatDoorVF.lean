/- The law CoreCertificatesMatchReference, walked: true for every list of raw wishes, every number and every certificate. -/
import Derived.Test.YtjglidlmpjmjeaaGreatDoorUG
import Derived.Test.YtjglidlmpjmjeaaGreatDoorUD
import Derived.Test.YtjglidlmpjmjeaaGreatDoorVAR
import Derived.Test.YtjglidlmpjmjeaaGreatDoorVE
import Derived.Test.YtjglidlmpjmjeaaGreatDoorVSD
import Derived.Test.YtjglidlmpjmjeaaGreatDoorChangedA
namespace Go.Proofs.YtjglidlmpjmjeaaGreatDoor
open Go.RowKit Go.Shelf List

/-! ### nodes that are read to be copied -/
theorem nodesK_of {w0 W : World} : ∀ {c : List NodeD} {xs : List Value}, xs.length = c.length * 4 →
  (∀ i n, c[i]? = some n → ∃ kv, xs[i * 4]? = some (.int .i64 n.wish) ∧ xs[i * 4 + 1]? = some kv ∧ xs[i * 4 + 2]? = some (.int .i64 n.clA) ∧ xs[i * 4 + 3]? = some (.int .i64 n.clB) ∧ KidsS w0 W kv n.kids) → NodesK w0 W c xs
 | [], xs, hl, _ => by
  have : xs = [] := List.length_eq_zero_iff.1 (by simpa using hl)
  exact this
 | n :: r, xs, hl, h => by
  obtain ⟨kv, h0, h1, h2, h3, hk⟩ := h 0 n rfl
  rcases xs with _ | ⟨a, _ | ⟨b, _ | ⟨e, _ | ⟨d, rest⟩⟩⟩⟩ <;> simp at hl
  ·omega
  ·omega
  ·omega
  ·simp at h0 h1 h2 h3
   subst h0 h1 h2 h3
   refine ⟨_, rest, rfl, hk, nodesK_of (by omega) fun i m hm => ?_⟩
   have := h (i + 1) m (by simpa using hm)
   have e4 : ∀ q, (i + 1) * 4 + q = (i * 4 + q) + 1 + 1 + 1 + 1 := fun q => by omega
   rw [e4 1, e4 2, e4 3, show (i + 1) * 4 = i * 4 + 1 + 1 + 1 + 1 by omega] at this
   simpa using this
theorem NodesK.one {w0 W : World} : ∀ {c : List NodeD} {xs : List Value}, NodesK w0 W c xs → ∀ u ∈ xs, u.oneCell' = true
 | [], _, h, u, hu => by rw [show _ = [] from h] at hu; cases hu
 | n :: r, _, ⟨kv, ys, e, hk, h2⟩, u, hu => by
  have hkv : kv.oneCell' = true := by
   rcases hk with h | h
   ·obtain ⟨a, c, rfl⟩ := h.form
    rfl
   ·obtain ⟨a, c, rfl⟩ := owns_form h
    rfl
  rw [e] at hu
  simp only [List.mem_cons] at hu
  rcases hu with rfl | rfl | rfl | rfl | hu
  ·rfl
  ·exact hkv
  ·rfl
  ·rfl
  ·exact NodesK.one h2 u hu
theorem nodes_reads {W : World} {a : Option Addr} {cap : Nat} {c : List NodeD} (h : Nodes W (.slice a c.length cap) c) : ∃ xs, Reads W W.heap.size 4 a c.length xs ∧ (∀ V, NodesK W V c xs) ∧ ∀ u ∈ xs, u.oneCell' = true := by
 obtain ⟨K, ⟨a', c', e, _, _, h⟩, hk⟩ := h
 cases e
 obtain ⟨F, hF⟩ : ∃ F : Nat → Nat → Value, F = fun i j => if j = 0 then Value.int .i64 (c[i]?.getD default).wish else if j = 1 then K i else if j = 2 then .int .i64 (c[i]?.getD default).clA else .int .i64 (c[i]?.getD default).clB := ⟨_, rfl⟩
 have hat : ∀ i j, i < c.length → j < 4 → ((List.range (c.length * 4)).map fun q => F (q / 4) (q % 4))[i * 4 + j]? = some (F i j) := fun i j hi hj => by
  rw [List.getElem?_map, List.getElem?_range (by omega)]
  simp only [Option.map_some]
  rw [show (i * 4 + j) / 4 = i by omega, show (i * 4 + j) % 4 = j by omega]
 have hNK : ∀ V, NodesK W V c ((List.range (c.length * 4)).map fun q => F (q / 4) (q % 4)) := fun V => by
  refine nodesK_of (by simp) fun i n hn => ?_
  have hi := (List.getElem?_eq_some_iff.1 hn).1
  have hk2 := hk i hi
  rw [hn, Option.getD_some] at hk2
  refine ⟨K i, ?_, ?_, ?_, ?_, Or.inl hk2⟩
  ·have := hat i 0 hi (by omega)
   rw [Nat.add_zero] at this
   rw [this, hF]
   simp [hn]
  ·rw [hat i 1 hi (by omega), hF]; rfl
  ·rw [hat i 2 hi (by omega), hF]; simp [hn]
  ·rw [hat i 3 hi (by omega), hF]; simp [hn]
 refine ⟨_, ⟨by simp, fun h0 => ?_⟩, hNK, (hNK W).one⟩
 obtain ⟨b, off, rfl, hb, hc⟩ := h h0
 refine ⟨_, rfl, hb, fun q u hu => ?_⟩
 have hq : q < c.length * 4 := by simpa using (List.getElem?_eq_some_iff.1 hu).1
 have h2 := hat (q / 4) (q % 4) (by omega) (by omega)
 rw [show q / 4 * 4 + q % 4 = q by omega, hu] at h2
 have h3 := hc (q / 4) (by omega) (q % 4) (by omega)
 have e : (⟨b, off, none⟩ : Addr).add q = ⟨b, off + q / 4 * 4 + q % 4, none⟩ := by
  have : off + q / 4 * 4 + q % 4 = off + q := by omega
  rw [this]
  unfold Addr.add
  split <;> simp_all
 rw [e, h3, h2, hF]

/-! ### what Show returns -/
theorem room_sel9 {t : List WishD} (hs : SmallT t) (hv : validT t = 0) {l : List Int} (hl : l <+ upI t.length) : ShowRoom t l := fun _ hne hst => by
 rw [hs.stands hl] at hst
 have h : selSt t l = false := congrArg Prod.fst hst
 exact ⟨hs.tree (up_idx hl) (Nat.le_trans (up_len hl) hs.len), grow_opens h _, grow_ests (subT_valid hv hl fun e => hne (by rw [e]; rfl))⟩
theorem show_small {t : List WishD} (hs : SmallT t) {l : List Int} (hl : l <+ upI t.length) : (showT t l).1.length ≤ 65536 ∧ ∀ n ∈ (showT t l).1, n.kids.length ≤ 17592186044416 := by
 have h : (showT t l).1 = [] ∨ (showT t l).1 = (growL (subT t l) 1000000000 (subT t l) [] 0 0).nodes := by
  unfold showT
  repeat' split
  all_goals first
   | exact Or.inl rfl
   | exact Or.inr rfl
 rcases h with h | h
 ·rw [h]
  exact ⟨by simp, fun n hn => by cases hn⟩
 ·rw [h]
  refine ⟨Nat.le_trans (growL_len _ _ _ _ _ _) (hs.tree (up_idx hl) (Nat.le_trans (up_len hl) hs.len)), fun n hn => ?_⟩
  have := growL_kids (subT t l) 1000000000 5 (subT t l) (fun x hx => (hs.opts x (subT_mem (up_idx hl) hx)).2) [] 0 0 n hn
  omega
theorem rCheckC_calls (wv lv cv : Value) (t : List WishD) (l : List Int) (c : List NodeD) (w : World) (h : Wishes w wv t) (hl : Ints w lv l) (hc : Nodes w cv c) (ho : ∀ x ∈ subT t l, 0 < x.opts.length) (hk : ∀ n ∈ c, n.kids.length ≤ 17592186044416) :
  Calls Tryz.prog 23 #[.agg #[wv], lv, cv] w fun e w' => e = .returned (.int .i64 (coreCheckT t l c)) ∧ Ext w w' := by
 have hN := Lib.hid hc
 obtain ⟨ca, cc, rfl, _⟩ := hc.open
 exact rCheckH_calls wv lv ca c.length cc t l c w h hl fun W v hW hWs => rCheck_calls v (.slice ca c.length cc) (subT t l) 1000000000 c W hWs (hN.out.ext hW) ho hk
set_option maxHeartbeats 12800000 in
set_option maxRecDepth 100000 in
theorem coreCertificatesMatchReference_calls (va : Value) (l : List RawD) (n : Int) (hn0 : 0 ≤ n) (hn1 : n ≤ 255) (vc : Value) (c : List NodeD) (w : World) (hl : Raws w va l) (hc : NodesW w vc c) (hTab : Tab10 w) :
  Calls Tryz.prog 4 #[va, .int .u8 n, vc] w fun e w' => e = .returned (.bool true) ∧ Ext w w' := by
 have hok := hl.ok
 obtain ⟨T, hTd⟩ : ∃ T, Hid (made34 l = T) := ⟨_, rfl⟩
 have hs : SmallT T := hTd.out ▸ made34_small hok
 have hv : validT T = 0 := hTd.out ▸ made34_valid hok
 have hlen : 0 < T.length ∧ T.length ≤ 6 := hTd.out ▸ made34_len (l := l)
 obtain ⟨hlen0, hlen6⟩ := hlen
 have hs' := Lib.hid hs
 have hv' := Lib.hid hv
 have hRw := Lib.hid hl
 have hTb := Lib.hid hTab
 obtain ⟨lA, lC, rfl, _, _, _⟩ := hl.open
 obtain ⟨S, hSd⟩ : ∃ S, Hid (peopleTo n T.length = S) := ⟨_, rfl⟩
 have hSs : Hid (S <+ upI T.length) := Lib.hid (hSd.out ▸ peopleTo_sub n T.length)
 have hroomS : Hid (ShowRoom T S) := Lib.hid (room_sel9 hs hv hSs.out)
 obtain ⟨nl, e0, hsh⟩ : ∃ nl e0, Hid (showT T S = (nl, e0)) := ⟨_, _, rfl⟩
 have hsm := show_small hs hSs.out
 rw [hsh.out] at hsm
 obtain ⟨hnl, hnk0⟩ := hsm
 dsimp only at hnl hnk0
 have hnk := Lib.hid hnk0
 have hop : Hid (∀ x ∈ subT T S, 0 < x.opts.length) := Lib.hid fun x hx => (hs.opts x (subT_mem (up_idx hSs.out) hx)).1
 obtain ⟨k1, hk1⟩ : ∃ k, Hid (coreCheckT T S c = k) := ⟨_, rfl⟩
 obtain ⟨k2, hk2⟩ : ∃ k, Hid (coreCheckT T S nl = k) := ⟨_, rfl⟩
 obtain ⟨hc0, hck0⟩ := hc
 have hck := Lib.hid hck0
 have hC := Lib.hid hc0
 obtain ⟨ca, cc, rfl, _⟩ := hc0.open
 obtain ⟨i0, hi0, hz0, hz1, hz2⟩ := info_parts node_info
 clear hok hl hTab hs hv hnk0 hck0 hc0
 by_cases h30 : 30 < c.length
 ·have d30 : decide ((30 : Int) < (c.length : Int)) = true := decide_eq_true (by omega)
  clear h30
  go_enter Tryz.func4, Tryz.ntmps4
  go_wp2_with fail
  refine (sanity34_calls _ (hTb.out.ext (by exact (by with_reducible repeat' (first | exact Ext.refl _ | assumption | refine Ext.drewN ?_ _ | refine Ext.drew ?_ | refine Ext.alloc ?_ _ | refine Ext.trans ?_ (by with_reducible assumption)))))).mono ?_
  rintro e w1 ⟨rfl, hx⟩
  have hE := Lib.hid (show Ext w w1 from Ext.trans (by exact (by with_reducible repeat' (first | exact Ext.refl _ | assumption | refine Ext.drewN ?_ _ | refine Ext.drew ?_ | refine Ext.alloc ?_ _ | refine Ext.trans ?_ (by with_reducible assumption)))) hx)
  replace hTb := Lib.hid (hTb.out.ext hE.out)
  replace hRw := Lib.hid (hRw.out.ext hE.out)
  replace hC := Lib.hid (hC.out.ext hE.out)
  clear hx
  go_wp2
  go_ret
  exact ⟨rfl, hE.out⟩
 ·have d30 : decide ((30 : Int) < (c.length : Int)) = false := decide_eq_false (by omega)
  go_enter Tryz.func4, Tryz.ntmps4
  go_wp2_with fail
  refine (sanity34_calls _ (hTb.out.ext (by exact (by with_reducible repeat' (first | exact Ext.refl _ | assumption | refine Ext.drewN ?_ _ | refine Ext.drew ?_ | refine Ext.alloc ?_ _ | refine Ext.trans ?_ (by with_reducible assumption)))))).mono ?_
  rintro e w1 ⟨rfl, hx⟩
  have hE := Lib.hid (show Ext w w1 from Ext.trans (by exact (by with_reducible repeat' (first | exact Ext.refl _ | assumption | refine Ext.drewN ?_ _ | refine Ext.drew ?_ | refine Ext.alloc ?_ _ | refine Ext.trans ?_ (by with_reducible assumption)))) hx)
  replace hTb := Lib.hid (hTb.out.ext hE.out)
  replace hRw := Lib.hid (hRw.out.ext hE.out)
  replace hC := Lib.hid (hC.out.ext hE.out)
  clear hx
  go_wp2_with fail
  refine (made34_calls _ l w1 hRw.out).mono ?_
  rw [hTd.out]
  rintro e w2 ⟨tv, rfl, ht, hq⟩
  have ht2 := ht.read
  obtain ⟨ta, tc, rfl⟩ := ht2.form
  have hTw := Lib.hid ht2
  replace hTb := Lib.hid (hTb.out.ext hq)
  replace hC := Lib.hid (hC.out.ext hq)
  replace hE := Lib.hid (hE.out.trans hq)
  clear ht ht2 hq hRw
  go_wp2_with fail
  have hq0 := Lib.hid ((Ext.refl w2).alloc (.cells #[.slice ta T.length tc] 27))
  refine (selection_calls (.slice ta T.length tc) T n _ (hTw.out.ext hq0.out) ⟨hn0, hn1⟩ hlen6).mono ?_
  rw [hSd.out]
  rintro e w3 ⟨sv, rfl, hsv, hx⟩
  obtain ⟨sa, sc, rfl⟩ := owns_form hsv
  have hS := Lib.hid hsv.read
  have hB : Hid (Blk w3 w2.heap.size 27 #[.slice ta T.length tc]) := Lib.hid ((Keep.of_ext (X := fun _ => False) hx).blk (blk_new' rfl rfl) id)
  have hq := hq0.out.trans hx
  clear hsv hx hq0
  replace hTw := Lib.hid (hTw.out.ext hq)
  replace hTb := Lib.hid (hTb.out.ext hq)
  replace hC := Lib.hid (hC.out.ext hq)
  replace hE := Lib.hid (hE.out.trans hq)
  clear hq
  have b0 : w3.cell? ⟨w2.heap.size, 0, none⟩ = some (.slice ta T.length tc) := hB.out.cell 0
  have bl := hB.out.lt
  go_wp2_with fail
  refine (show_calls (.slice ta T.length tc) (.slice sa S.length sc) T S w3 hTw.out hS.out hroomS.out).mono ?_
  rw [hsh.out]
  rintro e w4 ⟨av, rfl, hav, hq⟩
  obtain ⟨aa, ac, rfl, _⟩ := hav.open
  clear b0 bl
  (try replace hRw := Lib.hid (hRw.out.ext hq))
  (try replace hTw := Lib.hid (hTw.out.ext hq))
  (try replace hL := Lib.hid (hL.out.ext hq))
  (try replace hS := Lib.hid (hS.out.ext hq))
  (try replace hS2 := Lib.hid (hS2.out.ext hq))
  (try replace hA := Lib.hid (hA.out.ext hq))
  (try replace hC := Lib.hid (hC.out.ext hq))
  (try replace hN := Lib.hid (hN.out.ext hq))
  (try replace hTb := Lib.hid (hTb.out.ext hq))
  (try replace hB := Lib.hid ((Keep.of_ext (X := fun _ => False) hq).blk hB.out id))
  (try replace hX := Lib.hid ((Keep.of_ext (X := fun _ => False) hq).blk hX.out id))
  replace hE := Lib.hid (hE.out.trans hq)
  clear hq
  have hN := Lib.hid hav
  clear hav
  have b0 : w4.cell? ⟨w2.heap.size, 0, none⟩ = some (.slice ta T.length tc) := hB.out.cell 0
  have bl := hB.out.lt
  go_wp2_with fail
  refine (rShow_calls (.slice ta T.length tc) (.slice sa S.length sc) T S w4 hTw.out hS.out hroomS.out).mono ?_
  rw [hsh.out]
  rintro e w5 ⟨bv, rfl, hbv, hq⟩
  obtain ⟨ba, bc, rfl, _⟩ := hbv.open
  clear b0 bl
  (try replace hRw := Lib.hid (hRw.out.ext hq))
  (try replace hTw := Lib.hid (hTw.out.ext hq))
  (try replace hL := Lib.hid (hL.out.ext hq))
  (try replace hS := Lib.hid (hS.out.ext hq))
  (try replace hS2 := Lib.hid (hS2.out.ext hq))
  (try replace hA := Lib.hid (hA.out.ext hq))
  (try replace hC := Lib.hid (hC.out.ext hq))
  (try replace hN := Lib.hid (hN.out.ext hq))
  (try replace hTb := Lib.hid (hTb.out.ext hq))
  (try replace hB := Lib.hid ((Keep.of_ext (X := fun _ => False) hq).blk hB.out id))
  (try replace hX := Lib.hid ((Keep.of_ext (X := fun _ => False) hq).blk hX.out id))
  replace hE := Lib.hid (hE.out.trans hq)
  clear hq
  have hA := Lib.hid hbv
  clear hbv hroomS hsh
  have hcl0 : Hid (∀ W, Ext w5 W → Calls Tryz.prog 21 #[.slice aa nl.length ac, .slice ba nl.length bc] W fun e w' => e = .returned (.bool true) ∧ Ext W w') := Lib.hid fun W hW => rSame_calls _ _ nl W (hN.out.ext hW) (hA.out.ext hW)
  have hcl1 : Hid (∀ W, Ext w5 W → Calls Tryz.prog 22 #[.agg #[.slice ta T.length tc], .slice sa S.length sc, .slice ca c.length cc] W fun e w' => e = .returned (.int .i64 k1) ∧ Ext W w') := Lib.hid fun W hW => hk1.out ▸ coreCheck_calls _ _ _ T S c W (hTw.out.ext hW) (hS.out.ext hW) (hC.out.ext hW) hck.out
  have hcl2 : Hid (∀ W, Ext w5 W → Calls Tryz.prog 23 #[.agg #[.slice ta T.length tc], .slice sa S.length sc, .slice ca c.length cc] W fun e w' => e = .returned (.int .i64 k1) ∧ Ext W w') := Lib.hid fun W hW => hk1.out ▸ rCheckC_calls _ _ _ T S c W (hTw.out.ext hW) (hS.out.ext hW) (hC.out.ext hW) hop.out hck.out
  have hcl3 : Hid (∀ W, Ext w5 W → Calls Tryz.prog 22 #[.agg #[.slice ta T.length tc], .slice sa S.length sc, .slice ba nl.length bc] W fun e w' => e = .returned (.int .i64 k2) ∧ Ext W w') := Lib.hid fun W hW => hk2.out ▸ coreCheck_calls _ _ _ T S nl W (hTw.out.ext hW) (hS.out.ext hW) (hA.out.ext hW) hnk.out
  have hcl4 : Hid (∀ W, Ext w5 W → Calls Tryz.prog 23 #[.agg #[.slice ta T.length tc], .slice sa S.length sc, .slice ba nl.length bc] W fun e w' => e = .returned (.int .i64 k2) ∧ Ext W w') := Lib.hid fun W hW => hk2.out ▸ rCheckC_calls _ _ _ T S nl W (hTw.out.ext hW) (hS.out.ext hW) (hA.out.ext hW) hop.out hnk.out
  have z0 := After.cell (show w5.cell? ⟨w2.heap.size, 0, none⟩ = some (.slice ta T.length tc) from hB.out.cell 0)
  clear hk1 hk2
  go_upto_region 8 with (fail)
  refine wp_region_after (by kernel_rfl) (by kernel_rfl) ?_
  repeat (go_big_quiet_step (first | (with_reducible exact After.call _ (hcl0.out _ (After.ext _))) | (with_reducible exact After.call _ (hcl1.out _ (After.ext _))) | (with_reducible exact After.call _ (hcl2.out _ (After.ext _))) | (with_reducible exact After.call _ (hcl3.out _ (After.ext _))) | (with_reducible exact After.call _ (hcl4.out _ (After.ext _)))))
  refine wpQuiet_nil ?_
  rintro _ ⟨u, rfl⟩
  have hq := u.ext
  generalize u.world = w6 at hq ⊢
  clear z0 hcl0 hcl1 hcl2 hcl3 hcl4
  (try replace hRw := Lib.hid (hRw.out.ext hq))
  (try replace hTw := Lib.hid (hTw.out.ext hq))
  (try replace hL := Lib.hid (hL.out.ext hq))
  (try replace hS := Lib.hid (hS.out.ext hq))
  (try replace hS2 := Lib.hid (hS2.out.ext hq))
  (try replace hA := Lib.hid (hA.out.ext hq))
  (try replace hC := Lib.hid (hC.out.ext hq))
  (try replace hN := Lib.hid (hN.out.ext hq))
  (try replace hTb := Lib.hid (hTb.out.ext hq))
  (try replace hB := Lib.hid ((Keep.of_ext (X := fun _ => False) hq).blk hB.out id))
  (try replace hX := Lib.hid ((Keep.of_ext (X := fun _ => False) hq).blk hX.out id))
  replace hE := Lib.hid (hE.out.trans hq)
  clear hq
  clear hN
  go_wp2_with fail
  go_loopw [14, 15] (fun vi _ wr => ∃ i : Nat, i ≤ nl.length ∧ i ≤ 6 ∧ vi = .int .i64 i ∧ Hid (Ext w6 wr)) (fun vi _ _ => nl.length - (intOf vi).toNat)
  case atStart => exact ⟨0, Nat.zero_le _, Nat.zero_le _, rfl, Lib.hid (Ext.refl _)⟩
  case round =>
   obtain ⟨i, hi, hi6, rfl, hx⟩ := hrel
   by_cases h1 : i < nl.length
   ·by_cases h6 : i < 6
    ·have d6 : decide ((i : Int) < 6) = true := decide_eq_true (by omega)
     obtain ⟨xs, hrd0, hNK0, hone0⟩ := nodes_reads (hA.out.ext hx.out)
     have hrd := Lib.hid hrd0
     have hNK := Lib.hid hNK0
     have hone := Lib.hid hone0
     clear hrd0 hNK0 hone0
     go_upto_region 14 with (at_builtin; refine wpList_append_any _ rfl (.tmp 79) (.tmp 80) _ rfl wr.heap.size 48 i0 _ 4 48 Tryz.underlying42 hi0 hz0 hz1 hz2 rfl (by decide) (.slice (some ⟨wr.heap.size, 0, none⟩) 0 0) 0 [] rfl (World.ownsRow_made wr #[] 0 (Nat.le_refl _) (by unfold maxLen; omega) rfl) wr.heap.size ba nl.length bc xs rfl (hrd.out.alloc (Nat.le_refl _) _) hone.out (by unfold maxLen; omega) (by omega) (by rw [World.size_alloc]; omega) ?_; intro v1 w7 hown1 hg1 hat1; rw [Nat.zero_add, List.nil_append] at hown1; obtain ⟨g1, c1, rfl⟩ := owns_pos hown1 (by omega); have hE7 := Lib.hid (((Ext.refl wr).alloc (.cells #[] 48)).grown hg1 (by intro k hk; simp [Value.ownBlock] at hk; omega)); have hown7 := Lib.hid hown1; clear hown1 hg1 hat1)
     refine wp_abs (S := fun V => Hid (NodesS wr V (.slice (some ⟨g1, 0, none⟩) nl.length c1) nl)) ?_ ?_
     ·exact Lib.hid ⟨hE7.out, xs, hown7.out, hNK.out _⟩
     rintro V hSV
     clear hE7 hown7 hrd hNK hone d6
     obtain ⟨x, hxx⟩ : ∃ x, Hid (nl[i]? = some x) := ⟨_, Lib.hid (List.getElem?_eq_getElem h1)⟩
     obtain ⟨_, _, ys, e9, hgb, hgl, hcap1, hcap2, hrow, hK⟩ := hSV.out.open_ (by omega)
     cases e9
     obtain ⟨kv, _, _, _, e3, _⟩ := hK.at_ i x hxx.out
     have c3 := hrow.cellAt (i * 4 + 3) (by omega)
     rw [e3] at c3
     have f3 := hrow.frozenAt (i * 4 + 3)
     have hrow' := Lib.hid hrow
     have hK' := Lib.hid hK
     clear e3 hrow hK
     go_upto_region 15 with (fail)
     obtain ⟨z, hz⟩ : ∃ z, Hid (wrap64 (x.clB + 1) = z) := ⟨_, rfl⟩
     rw [hz.out]
     obtain ⟨D, hD⟩ : ∃ D, Hid (nl.set i { x with clB := z } = D) := ⟨_, rfl⟩
     have hDl : Hid (D.length = nl.length) := Lib.hid (by rw [← hD.out]; simp)
     refine wp_abs (S := fun V' => Hid (NodesS wr V' (.slice (some ⟨g1, 0, none⟩) nl.length c1) D)) ?_ ?_
     ·have := NodesS.stored (c' := D) hSV.out.ext hrow'.out hDl.out (hD.out ▸ (hK'.out.set_ i x hxx.out).2.2.1 z)
      rw [hDl.out] at this
      exact Lib.hid this
     rintro V2 hS2
     clear hz hSV hrow' hK' c3 f3
     by_cases hic : i < c.length
     ·obtain ⟨y, hy⟩ : ∃ y, Hid (c[i]? = some y) := ⟨_, Lib.hid (List.getElem?_eq_getElem hic)⟩
      have d15 : decide ((i : Int) < (c.length : Int)) = true := decide_eq_true (by omega)
      obtain ⟨_, _, ec, _, _, hcat⟩ := hC.out.open
      cases ec
      obtain ⟨b2, o2, y', ka, kc, rfl, hb2, _, ey, p0, p1, p2, p3, hkk⟩ := hcat i hic wr hx.out
      obtain rfl : y = y' := Option.some.inj (hy.out.symm.trans ey.out)
      have hkk' := Lib.hid hkk
      replace p0 := hS2.out.ext.cell p0
      replace p1 := hS2.out.ext.cell p1
      replace p2 := hS2.out.ext.cell p2
      replace p3 := hS2.out.ext.cell p3
      have hb3 : b2 < V2.heap.size := Nat.lt_of_lt_of_le hb2 hS2.out.ext.size
      obtain ⟨_, _, ys2, e9, _, hgl2, _, _, hrow, hK⟩ := hS2.out.open_ (by rw [hDl.out]; omega)
      rw [hDl.out] at e9 hrow
      cases e9
      obtain ⟨kv2, e0, e1, e2, e3, _⟩ := hK.at_ i { x with clB := z } (by rw [← hD.out, List.getElem?_set_self h1])
      have c0 := hrow.cellAt (i * 4) (by omega)
      rw [e0] at c0
      have c1' := hrow.cellAt (i * 4 + 1) (by omega)
      rw [e1] at c1'
      have c2 := hrow.cellAt (i * 4 + 2) (by omega)
      rw [e2] at c2
      have c3 := hrow.cellAt (i * 4 + 3) (by omega)
      rw [e3] at c3
      have f0 := hrow.frozenAt (i * 4)
      have f1 := hrow.frozenAt (i * 4 + 1)
      have f2 := hrow.frozenAt (i * 4 + 2)
      have f3 := hrow.frozenAt (i * 4 + 3)
      rw [← hDl.out] at hrow
      have hrow' := Lib.hid hrow
      have hK' := Lib.hid hK
      obtain ⟨D2, hD2⟩ : ∃ D2, Hid (D.set i y = D2) := ⟨_, rfl⟩
      have hkD : ∀ n ∈ D2, n.kids.length ≤ 17592186044416 := fun m hm => by
       rw [← hD2.out] at hm
       rcases List.mem_or_eq_of_mem_set hm with h | rfl
       ·rw [← hD.out] at h
        rcases List.mem_or_eq_of_mem_set h with h | rfl
        ·exact hnk.out m h
        ·exact hnk.out x (List.mem_of_getElem? hxx.out)
       ·exact hck.out m (List.mem_of_getElem? hy.out)
      have hkD' := Lib.hid hkD
      have hiD : i < D.length := by rw [hDl.out]; exact h1
      have hiD' := Lib.hid hiD
      clear e0 e1 e2 e3 hrow hK hcat hkk hkD ey hiD hb2
      go_upto_region 17 with (fail)
      refine wp_abs (S := fun V' => Hid (NodesS wr V' (.slice (some ⟨g1, 0, none⟩) nl.length c1) D2)) ?_ ?_
      ·have := NodesS.stored4 (n := y) (kv := .slice ka y.kids.length kc) (Or.inl hkk'.out) hS2.out.ext hrow'.out hK'.out hiD'.out
       rw [hDl.out, hD2.out] at this
       exact Lib.hid this
      rintro V3 hS3
      have hq9 := Lib.hid (hx.out.trans hS3.out.ext)
      clear hrow' hK' c0 c1' c2 c3 f0 f1 f2 f3 p0 p1 p2 p3 hS2
      obtain ⟨k9, hk9⟩ : ∃ k, Hid (coreCheckT T S D2 = k) := ⟨_, rfl⟩
      have hcl1 : Hid (∀ W, Ext V3 W → Calls Tryz.prog 22 #[.agg #[.slice ta T.length tc], .slice sa S.length sc, .slice (some ⟨g1, 0, none⟩) nl.length c1] W fun e w' => e = .returned (.int .i64 k9) ∧ Ext W w') := Lib.hid fun W hW => hk9.out ▸ coreCheck_calls _ _ _ T S D2 W (hTw.out.ext (hq9.out.trans hW)) (hS.out.ext (hq9.out.trans hW)) (hS3.out.read.ext hW) hkD'.out
      have hcl2 : Hid (∀ W, Ext V3 W → Calls Tryz.prog 23 #[.agg #[.slice ta T.length tc], .slice sa S.length sc, .slice (some ⟨g1, 0, none⟩) nl.length c1] W fun e w' => e = .returned (.int .i64 k9) ∧ Ext W w') := Lib.hid fun W hW => hk9.out ▸ rCheckC_calls _ _ _ T S D2 W (hTw.out.ext (hq9.out.trans hW)) (hS.out.ext (hq9.out.trans hW)) (hS3.out.read.ext hW) hop.out hkD'.out
      have z0 := After.cell (show V3.cell? ⟨w2.heap.size, 0, none⟩ = some (.slice ta T.length tc) from ((Keep.of_ext (X := fun _ => False) hq9.out).blk hB.out id).cell 0)
      clear hk9
      go_upto_region 17 with (fail)
      refine wp_region_after (by kernel_rfl) (by kernel_rfl) ?_
      repeat (go_big_quiet_step (first | (with_reducible exact After.call _ (hcl1.out _ (After.ext _))) | (with_reducible exact After.call _ (hcl2.out _ (After.ext _)))))
      refine wpQuiet_nil ?_
      rintro _ ⟨u, rfl⟩
      have hx9 := Lib.hid (hq9.out.trans u.ext)
      generalize u.world = U at hx9 ⊢
      clear z0 hcl1 hcl2
      go_wp2
      go_roundw
      case rel => first | exact ⟨i + 1, by omega, by omega, by go_num, hx9⟩ | ((repeat apply Exists.intro); exact ⟨⟨i + 1, by omega, by omega, by go_num, hx9⟩, rfl⟩)
      case measure => simp [intOf]; omega
     ·have d15 : decide ((i : Int) < (c.length : Int)) = false := decide_eq_false (by omega)
      have hq9 := Lib.hid (hx.out.trans hS2.out.ext)
      have hkD : ∀ n ∈ D, n.kids.length ≤ 17592186044416 := fun m hm => by
       rw [← hD.out] at hm
       rcases List.mem_or_eq_of_mem_set hm with h | rfl
       ·exact hnk.out m h
       ·exact hnk.out x (List.mem_of_getElem? hxx.out)
      obtain ⟨k9, hk9⟩ : ∃ k, Hid (coreCheckT T S D = k) := ⟨_, rfl⟩
      have hcl1 : Hid (∀ W, Ext V2 W → Calls Tryz.prog 22 #[.agg #[.slice ta T.length tc], .slice sa S.length sc, .slice (some ⟨g1, 0, none⟩) nl.length c1] W fun e w' => e = .returned (.int .i64 k9) ∧ Ext W w') := Lib.hid fun W hW => hk9.out ▸ coreCheck_calls _ _ _ T S D W (hTw.out.ext (hq9.out.trans hW)) (hS.out.ext (hq9.out.trans hW)) (hS2.out.read.ext hW) hkD
      have hcl2 : Hid (∀ W, Ext V2 W → Calls Tryz.prog 23 #[.agg #[.slice ta T.length tc], .slice sa S.length sc, .slice (some ⟨g1, 0, none⟩) nl.length c1] W fun e w' => e = .returned (.int .i64 k9) ∧ Ext W w') := Lib.hid fun W hW => hk9.out ▸ rCheckC_calls _ _ _ T S D W (hTw.out.ext (hq9.out.trans hW)) (hS.out.ext (hq9.out.trans hW)) (hS2.out.read.ext hW) hop.out hkD
      have z0 := After.cell (show V2.cell? ⟨w2.heap.size, 0, none⟩ = some (.slice ta T.length tc) from ((Keep.of_ext (X := fun _ => False) hq9.out).blk hB.out id).cell 0)
      clear hk9
      go_upto_region 17 with (fail)
      refine wp_region_after (by kernel_rfl) (by kernel_rfl) ?_
      repeat (go_big_quiet_step (first | (with_reducible exact After.call _ (hcl1.out _ (After.ext _))) | (with_reducible exact After.call _ (hcl2.out _ (After.ext _)))))
      refine wpQuiet_nil ?_
      rintro _ ⟨u, rfl⟩
      have hx9 := Lib.hid (hq9.out.trans u.ext)
      generalize u.world = U at hx9 ⊢
      clear z0 hcl1 hcl2
      go_wp2
      go_roundw
      case rel => first | exact ⟨i + 1, by omega, by omega, by go_num, hx9⟩ | ((repeat apply Exists.intro); exact ⟨⟨i + 1, by omega, by omega, by go_num, hx9⟩, rfl⟩)
      case measure => simp [intOf]; omega
    ·have d6 : decide ((i : Int) < 6) = false := decide_eq_false (by omega)
     have hE9 := Lib.hid (hE.out.trans hx.out)
     go_wp2
     go_ret
     exact ⟨rfl, hE9.out⟩
   ·have hE9 := Lib.hid (hE.out.trans hx.out)
    go_wp2
    go_ret
    exact ⟨rfl, hE9.out⟩
end Go.Proofs.YtjglidlmpjmjeaaGreatDoor
