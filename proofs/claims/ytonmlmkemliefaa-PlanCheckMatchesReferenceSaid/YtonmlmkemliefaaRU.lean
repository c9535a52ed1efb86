/- Walks of the reference of plans: Grow. -/
import Derived.Test.YtonmlmkemliefaaRT
import Derived.Deep.Cut
import Derived.Deep.RegionHeld3
import Derived.IntWalk
namespace Go.Proofs.Ytonmlmkemliefaa
open Go.RowKit

structure GIn (Z : Nat → Prop) (w0 w : World) (S : Nat) (ta : Option Addr) (tc : Nat) (B O : Int) (nv pv : Value) (t : List WishD) (nodes : List NodeD) (pre : List Int) (harm : Int) : Prop where
  zlt : ∀ g, Z g → g < w.heap.size
  tr : Tr Z w0 w S (.slice ta t.length tc) B O nv nodes
  wishes : Wishes w0 (.slice ta t.length tc) t
  picks : IntsO w w0.heap.size pv pre
  valid : validT t = 0
  ne : ∀ x ∈ t, 0 < x.opts.length
  harms : ∀ x ∈ t, ∀ o ∈ x.opts, 0 ≤ o.harm ∧ o.harm ≤ 1000000
  len : pre.length ≤ t.length
  few : t.length ≤ 512
  opts : ∀ j, j < pre.length → (optOf t pre j).isSome
  h0 : 0 ≤ harm
  h1 : harm ≤ 1000000 * pre.length
  room : nodes.length + treeMax (t.drop pre.length) ≤ 65536
def NvOk (w : World) (nv nv' : Value) : Prop := nv'.ownBlock = nv.ownBlock ∨ ∃ g, nv'.ownBlock = some g ∧ w.heap.size ≤ g
def GOut (Z : Nat → Prop) (w0 w : World) (S : Nat) (tv : Value) (B : Int) (nv : Value) (nodes ns : List NodeD) (e : Ending) (w' : World) : Prop :=
  ∃ nv' O', e = .returned (.int .i64 nodes.length) ∧ Tr Z w0 w' S tv B O' nv' (nodes ++ ns) ∧ Keep (TS S nv) w w' ∧ NvOk w nv nv'
theorem NvOk.trans {w w1 : World} {a b c : Value} (hw : w.heap.size ≤ w1.heap.size) (h : NvOk w a b) (h' : NvOk w1 b c) : NvOk w a c := nvs_chain hw h h'
theorem ts_chain {w w1 w2 : World} {S : Nat} {a b : Value} (h : Keep (TS S a) w w1) (hb : NvOk w a b) (k : Keep (TS S b) w1 w2) : Keep (TS S a) w w2 := by
  refine h.trans' k fun i hi hx => ?_
  rcases hx with hx | hx
  · exact Or.inl hx
  · rcases hb with hb | ⟨g, hg, hge⟩
    · exact Or.inr (hb ▸ hx)
    · rw [hg] at hx; cases hx; omega
def growN (t : List WishD) (b : Int) (l : List WishD) (pre : List Int) (harm : Int) (N : Nat) : List NodeD := (growL t b l pre harm N).nodes
theorem growN_clash {t : List WishD} {b : Int} {l : List WishD} {pre : List Int} {harm : Int} {N : Nat} (h : 0 ≤ lastClash t pre) : growN t b l pre harm N = [⟨-1, [], lastClash t pre, (pre.length : Int) - 1⟩] := by
  unfold growN; cases l <;> rw [growL, if_pos h]
theorem growN_bound {t : List WishD} {b : Int} {l : List WishD} {pre : List Int} {harm : Int} {N : Nat} (h : ¬ 0 ≤ lastClash t pre) (hb : b ≤ harm + leastSum l) : growN t b l pre harm N = [leafN] := by
  unfold growN; cases l with
  | nil => rw [growL, if_neg h, if_pos (by simpa [leastSum] using hb)]
  | cons x r => rw [growL, if_neg h, if_pos hb]
theorem growN_end {t : List WishD} {b : Int} {pre : List Int} {harm : Int} {N : Nat} (h : ¬ 0 ≤ lastClash t pre) (hb : ¬ b ≤ harm) : growN t b [] pre harm N = [leafN] := by
  unfold growN; rw [growL, if_neg h, if_neg hb]
theorem growN_node {t : List WishD} {b : Int} {x : WishD} {r : List WishD} {pre : List Int} {harm : Int} {N : Nat} (h : ¬ 0 ≤ lastClash t pre) (hb : ¬ b ≤ harm + leastSum (x :: r)) :
    growN t b (x :: r) pre harm N = ⟨(pre.length : Int), (kidsG (growF t b r pre harm) x.opts 0 (N + 1)).kids, 0, 0⟩ :: (kidsG (growF t b r pre harm) x.opts 0 (N + 1)).nodes := by
  unfold growN; rw [growL, if_neg h, if_neg hb]; rfl
theorem at_dst {P : Program} {ops : Array Oper} {o : Oper} {a : Act} {w : World} {K : Act → World → Prop} {Q : Exit → Act → World → Prop} {E : Prop} (n : Nat) (_ : o.dst = some n)
    (h : if Region.wanted o (yielded ops a.tmps) = true then Oper.wp P o a w K Q else E) : if Region.wanted o (yielded ops a.tmps) = true then Oper.wp P o a w K Q else E := h
theorem GIn.kid {Z : Nat → Prop} {w0 w W wr : World} {S : Nat} {ta : Option Addr} {tc : Nat} {B O O' harm : Int} {nv nv' pv v kv : Value} {t : List WishD} {nodes ks : List NodeD} {pre : List Int} {x : WishD} {o : OptD} {k : Nat}
    (H : GIn Z w0 w S ta tc B O nv pv t nodes pre harm) (hT : Tr (ZK Z kv) w0 W S (.slice ta t.length tc) B O' nv' ks) (hZ : ∀ g, ZK Z kv g → g < W.heap.size) (hq : IntsO W wr.heap.size v (pre ++ [(k : Int)])) (hb : w0.heap.size ≤ wr.heap.size)
    (hx : t[pre.length]? = some x) (ho : x.opts[k]? = some o) (hroom : ks.length + treeMax (t.drop (pre.length + 1)) ≤ 65536) :
    GIn (ZK Z kv) w0 W S ta tc B O' nv' v t ks (pre ++ [(k : Int)]) (harm + o.harm) := by
  have hlt : pre.length < t.length := (List.getElem?_eq_some_iff.1 hx).1
  have hh := H.harms x (List.mem_of_getElem? hx) o (List.mem_of_getElem? ho)
  refine ⟨hZ, hT, H.wishes, hq.base hb, H.valid, H.ne, H.harms, by simp; omega, H.few, ?_, by have := H.h0; omega, ?_, by simpa using hroom⟩
  · intro j hj
    simp only [List.length_append, List.length_singleton] at hj
    by_cases e : j = pre.length
    · subst e
      have hk : k < x.opts.length := (List.getElem?_eq_some_iff.1 ho).1
      simp [optOf, hx, hk]
    · have := H.opts j (by omega)
      have e2 : optOf t (pre ++ [(k : Int)]) j = optOf t pre j := by simp only [optOf]; rw [List.getElem?_append_left (by omega)]
      rw [e2]; exact this
  · have := H.h1
    simp only [List.length_append, List.length_singleton]
    omega
theorem Tr.kid {Z : Nat → Prop} {w0 w7 w8 : World} {S b : Nat} {B O : Int} {tv nv kv v8 : Value} {nodes : List NodeD} {kids : List Int} {o : Obj} (h : Tr (ZK Z kv) w0 w7 S tv B O nv nodes) (hR : IntsO w7 b kv kids) (hb : w0.heap.size ≤ b)
    (hg : (w7.alloc o).grownBy w8 kv.ownBlock) (hat : v8.ownBlock = kv.ownBlock ∨ v8.ownBlock = some (w7.alloc o).heap.size) : Tr (ZK Z v8) w0 w8 S tv B O nv nodes := by
  have h1 : Tr (ZK Z kv) w0 (w7.alloc o) S tv B O nv nodes := h.toExt ((Ext.refl _).alloc _)
  have h2 : Tr (fun g => ZK Z kv g ∨ v8.ownBlock = some g) w0 (w7.alloc o) S tv B O nv nodes := h1.more fun g hgl h => by
    rcases h with h | h
    · exact h
    · rcases hat with e | e
      · rw [e] at h; exact Or.inr h
      · rw [e] at h; cases h; omega
  have kk : Keep (fun g => kv.ownBlock = some g) (w7.alloc o) w8 := Keep.grown (X := fun g => kv.ownBlock = some g) (Keep.refl _ _) hg (fun g h => Or.inl h)
  refine (h2.row kk fun g hkg => ⟨Or.inl (Or.inr hkg), ?_, ?_⟩).less (fun g h => ?_)
  · have := (World.ownsRow.lt hR g hkg).1; omega
  · obtain ⟨cs, hc⟩ := owns_block hR hkg
    exact ⟨cs, hc.alloc _⟩
  · rcases h with h | h
    · exact Or.inl (Or.inl h)
    · exact Or.inr h
set_option maxHeartbeats 6400000 in
set_option maxRecDepth 100000 in
theorem rGrow_step (Z : Nat → Prop) (w0 w : World) (S : Nat) (ta : Option Addr) (tc : Nat) (B O : Int) (nv pv : Value) (t : List WishD) (nodes : List NodeD) (pre : List Int) (harm : Int)
    (H : GIn Z w0 w S ta tc B O nv pv t nodes pre harm)
    (ih : ∀ x, t[pre.length]? = some x → ∀ (Z : Nat → Prop) (w : World) (O : Int) (nv pv : Value) (nodes : List NodeD) (i : Nat) (o : OptD), x.opts[i]? = some o →
      GIn Z w0 w S ta tc B O nv pv t nodes (pre ++ [(i : Int)]) (harm + o.harm) →
      Calls Try.prog 40 #[.pointer (some ⟨S, 0, none⟩), pv, .int .i64 (harm + o.harm)] w (GOut Z w0 w S (.slice ta t.length tc) B nv nodes (growN t B (t.drop (pre.length + 1)) (pre ++ [(i : Int)]) (harm + o.harm) nodes.length))) :
    Calls Try.prog 40 #[.pointer (some ⟨S, 0, none⟩), pv, .int .i64 harm] w (GOut Z w0 w S (.slice ta t.length tc) B nv nodes (growN t B (t.drop pre.length) pre harm nodes.length)) := by
  obtain ⟨i0, hi0, hz0, hz1, hz2⟩ := info_parts node_info
  obtain ⟨j0, hj0, jz0, jz1, jz2⟩ := info_parts int_info
  have hH := Lib.hid H
  have ih' := Lib.hid ih
  have hroom := H.room
  have htm := treeMax_pos (t.drop pre.length)
  have hlen := H.len
  have hfew := H.few
  have hh0 := H.h0
  have hh1 := H.h1
  have ho0 := H.tr.o0
  have ho1 := H.tr.o1
  have hS := Lib.hid H.tr.blk
  obtain ⟨xs, o1, o2⟩ := H.tr.owns
  obtain ⟨pa, pc, rfl⟩ := owns_form H.picks
  obtain ⟨A, c, rfl⟩ := owns_form o1
  have hown := Lib.hid o1
  have hnc := Lib.hid o2
  have hne := Lib.hid (own_blk_ne o1 hS.out (by decide))
  have c2 : w.cell? ⟨S, 2, none⟩ = some (.slice A nodes.length c) := hS.out.cell 2
  have hw0 := H.tr.ext.size
  have hn6 : nodes.length < 65536 := by omega
  have h63 : nodes.length + 1 ≤ maxLen := by unfold maxLen; omega
  have hby : (nodes.length + 1) * 48 ≤ 140737488355328 := by omega
  clear H ih o1 o2
  go_enter Try.func40, Try.ntmps40
  have h1' : Hid (∀ u ∈ [Value.int .i64 (-1), .slice none 0 0, .int .i64 (-1), .int .i64 0], u.oneCell' = true) := Lib.hid (by intro u hu; simp at hu; rcases hu with rfl | rfl | rfl | rfl <;> rfl)
  go_upto_region 3 with (at_builtin; refine wpList_append_any _ rfl (.tmp 24) (.tmp 26) _ rfl w0.heap.size 49 i0 _ 4 48 Try.underlying31 hi0 hz0 hz1 hz2 rfl (by decide) (.slice A nodes.length c) nodes.length xs rfl (hown.out.alloc _) (w.heap.size + 1) (some ⟨w.heap.size, 0, none⟩) 1 1 [.int .i64 (-1), .slice none 0 0, .int .i64 (-1), .int .i64 0] rfl (reads_last _ #[_, _, _, _] _ 4 1 _ _ (by simp) (by omega) rfl) h1'.out h63 hby (by simp; omega) ?_; intro v' w' hown1 hg1 hat1; obtain ⟨A', c', rfl⟩ := owns_form hown1; have hown' := Lib.hid hown1; have hg' := Lib.hid hg1; have hat' := Lib.hid hat1; have hS' := Lib.hid (((hS.out.alloc (.cells #[.int .i64 (-1), .slice none 0 0, .int .i64 (-1), .int .i64 0] 49))).grown hg'.out hne.out.symm); have c2' : w'.cell? ⟨S, 2, none⟩ = some (.slice A nodes.length c) := hS'.out.cell 2; have fr2' := hS'.out.frozen 2; clear hown1 hg1 hat1 c2)
  refine wp_abs (S := fun V => Hid (Tr Z w0 V S (.slice ta t.length tc) B O (.slice A' (nodes.length + 1) c') (nodes ++ [leafN])) ∧ Hid (Keep (TS S (.slice A nodes.length c)) w V) ∧ Hid (NvOk w (.slice A nodes.length c) (.slice A' (nodes.length + 1) c')) ∧ Hid (IntsO V w0.heap.size (.slice pa pre.length pc) pre)) ?_ ?_
  · have hK1 : Keep (TS S (.slice A nodes.length c)) w w' := ((Keep.refl _ _).alloc _).grown hg'.out (fun g e => Or.inl (Or.inr e))
    have hK2 := Keep.setCell (p := ⟨S, 2, none⟩) hK1 (Or.inl (Or.inl rfl)) (.slice A' (nodes.length + 1) c')
    have own2 : (w'.setCell ⟨S, 2, none⟩ (.slice A' (nodes.length + 1) c')).ownsRow w0.heap.size 49 4 (.slice A' (nodes.length + 1) c') (nodes.length + 1) (xs ++ [.int .i64 (-1), .slice none 0 0, .int .i64 (-1), .int .i64 0]) := by
      have hn' := own_blk_ne hown'.out hS'.out (by decide)
      exact (Keep.setCell (X := fun k => k = S) (Keep.refl _ _) (Or.inl rfl) _).owns hown'.out (fun g e h => hn' (by rw [e, h]))
    refine ⟨Lib.hid (hH.out.tr.added (n := leafN) rfl (hS'.out.set_ 2 _) hnc.out own2 hK2), Lib.hid hK2, Lib.hid ?_, Lib.hid (hH.out.tr.ints hK2 hH.out.picks)⟩
    rcases hat'.out with h | h
    · exact Or.inl h
    · exact Or.inr ⟨_, h, by simp⟩
  rintro V ⟨hT, hK, hN, hP⟩
  clear hS' c2' fr2' hown' hg' hat' hown hnc hne hS h1'
  have hwV := Lib.hid ((hH.out.wishes).ext hT.out.ext)
  go_wp2_with fail
  refine (rLast_calls S ta tc B O _ _ t pre V hT.out.blk hwV.out hP.out.read hH.out.valid hH.out.opts (by omega)).mono ?_
  obtain ⟨lc, hlc⟩ : ∃ lc, Hid (lastClash t pre = lc) := ⟨_, rfl⟩
  rw [hlc.out]
  rintro e V2 ⟨rfl, hx2⟩
  have hT2 := Lib.hid (hT.out.toExt hx2)
  have hK2 := Lib.hid (hK.out.trans (Keep.of_ext hx2))
  have hP2 := Lib.hid (hP.out.ext hx2)
  clear hwV hx2 hT hK hP
  by_cases q1 : 0 ≤ lc
  · have hg5 : Hid (growN t B (t.drop pre.length) pre harm nodes.length = [⟨-1, [], lc, (pre.length : Int) - 1⟩]) := Lib.hid (by rw [growN_clash (by rw [hlc.out]; exact q1), hlc.out])
    obtain ⟨g, c8, k0, e8, hg0, hfr, z0, z1, z2, z3, hT3, hK3⟩ := hT2.out.setNode (i := nodes.length) (n := leafN) (m := ⟨-1, [], lc, (pre.length : Int) - 1⟩) (kv := .slice none 0 0) (by simp) ⟨World.ownsRow_nil _ _ _ _, by simp [Value.ownBlock]⟩
    obtain ⟨rfl, rfl⟩ : A' = some ⟨g, 0, none⟩ ∧ c' = c8 := by injection e8 with e1 e2 e3; exact ⟨e1, e3⟩
    have f0 := hfr (nodes.length * 4)
    have f1 := hfr (nodes.length * 4 + 1)
    have f2 := hfr (nodes.length * 4 + 2)
    have f3 := hfr (nodes.length * 4 + 3)
    have e9 : (nodes ++ [leafN]).set nodes.length ⟨-1, [], lc, (pre.length : Int) - 1⟩ = nodes ++ [⟨-1, [], lc, (pre.length : Int) - 1⟩] := by simp
    rw [e9] at hT3
    have hT4 := Lib.hid hT3
    have hK4 := Lib.hid (ts_chain hK2.out hN.out hK3)
    have c2 : V2.cell? ⟨S, 2, none⟩ = some (.slice (some ⟨g, 0, none⟩) (nodes.length + 1) c') := hT2.out.blk.cell 2
    have z1' : ∃ k0, V2.cell? ⟨g, nodes.length * 4 + 1, none⟩ = some k0 := ⟨_, z1⟩
    clear hT2 hT3 hK3 hK2 hP2 hfr e8 e9 ih'
    go_wp2
    go_ret
    exact ⟨_, _, rfl, by rw [hg5.out]; exact hT4.out, hK4.out, hN.out⟩
  · have hl0 : ¬ 0 ≤ lastClash t pre := by rw [hlc.out]; exact q1
    have hl0' := Lib.hid hl0
    have hlb := leastSum_bd (t.drop pre.length) (fun y hy o ho => (hH.out.harms y (List.mem_of_mem_drop hy) o ho).1)
    obtain ⟨L, hL⟩ : ∃ L, Hid (leastSum (t.drop pre.length) = L) := ⟨_, rfl⟩
    rw [hL.out] at hlb
    have l0 := hlb.1
    have l1 : L ≤ 512000000 := by have := hlb.2; rw [List.length_drop] at this; omega
    have hcl : Hid (∀ W, Ext V2 W → Calls Try.prog 61 #[.pointer (some ⟨S, 0, none⟩), .int .i64 (pre.length : Int)] W fun e w' => e = .returned (.int .i64 L) ∧ Ext W w') := fun W hW => by
      have := rRest_calls S ta tc B O _ t pre.length W (hT2.out.toExt hW).blk ((hH.out.wishes).ext (hT2.out.toExt hW).ext) hH.out.ne hH.out.harms hfew hlen
      rw [hL.out] at this
      exact this
    have c1 : V2.cell? ⟨S, 1, none⟩ = some (.int .i64 B) := hT2.out.blk.cell 1
    clear hlb hl0
    go_wp2_with fail
    have z0 := After.cell c1
    refine wp_region_after (by kernel_rfl) (by kernel_rfl) ?_
    repeat (go_big_quiet_step (exact After.call _ (hcl.out _ (After.ext _))))
    refine wpQuiet_nil ?_
    rintro _ ⟨u, rfl⟩
    have hu := u.ext
    have hT := Lib.hid (hT2.out.toExt hu)
    have hK := Lib.hid (hK2.out.trans (Keep.of_ext hu))
    have hP := Lib.hid (hP2.out.ext hu)
    generalize u.world = V3 at hu hT hK hP ⊢
    clear z0 c1 hcl hu hT2 hK2 hP2
    by_cases q2 : B ≤ harm + L
    · have hg5 : Hid (growN t B (t.drop pre.length) pre harm nodes.length = [leafN]) := Lib.hid (growN_bound (Int.not_le.2 hl0'.out) (by rw [hL.out]; exact q2))
      rw [decide_eq_true q2]
      clear ih'
      go_wp2
      go_ret
      exact ⟨_, _, rfl, by rw [hg5.out]; exact hT.out, hK.out, hN.out⟩
    · rw [decide_eq_false q2]
      have c0 : V3.cell? ⟨S, 0, none⟩ = some (.slice ta t.length tc) := hT.out.blk.cell 0
      have c3 : V3.cell? ⟨S, 3, none⟩ = some (.int .i64 O) := hT.out.blk.cell 3
      have f3 := hT.out.blk.frozen 3
      by_cases q3 : pre.length = t.length
      · have hd : t.drop pre.length = [] := List.drop_of_length_le (by omega)
        have hg5 : Hid (growN t B (t.drop pre.length) pre harm nodes.length = [leafN]) := Lib.hid (by
          have hL' := hL.out
          rw [hd] at hL' ⊢
          simp only [leastSum] at hL'
          exact growN_end (Int.not_le.2 hl0'.out) (by omega))
        have hT4 := Lib.hid (hT.out.setO (O' := O + 1) (by omega) (by simp; omega))
        have hK4 := Lib.hid (hK.out.setCell (p := ⟨S, 3, none⟩) (Or.inl (Or.inl rfl)) (.int .i64 (O + 1)))
        have q3' : ((pre.length : Int) == (t.length : Int)) = true := by rw [beq_iff_eq]; omega
        have hO5 : O ≤ 65536 := by omega
        clear hT hK hP ih' hd q3
        go_wp2
        go_ret
        exact ⟨_, _, rfl, by rw [hg5.out]; exact hT4.out, hK4.out, hN.out⟩
      · have q3' : ((pre.length : Int) == (t.length : Int)) = false := by rw [beq_eq_false_iff_ne]; omega
        have hlt : pre.length < t.length := by omega
        have hatw := hH.out.wishes.at_.1
        obtain ⟨b1, o1, x, xa, xc, oa, oc, rfl, hb1, _, ex, g1, g2, g3, _, gopt⟩ := hatw pre.length hlt w0 (Ext.refl _)
        have hlo := gopt.len
        have oat := gopt.at_.1
        obtain ⟨r, hr⟩ : ∃ r, Hid (t.drop (pre.length + 1) = r) := ⟨_, rfl⟩
        have hdr : Hid (t.drop pre.length = x :: r) := Lib.hid (by
          rw [List.drop_eq_getElem_cons hlt, hr.out]
          have := List.getElem?_eq_getElem hlt
          rw [ex.out] at this
          rw [Option.some.inj this.symm])
        obtain ⟨F, hF⟩ : ∃ F, Hid (growF t B r pre harm = F) := ⟨_, rfl⟩
        have hFl : Hid (∀ i o N, (F i o N).nodes.length ≤ treeMax r) := Lib.hid (by rw [← hF.out]; intro i o N; exact growL_len t B r _ _ _)
        have hgo : Hid (growN t B (t.drop pre.length) pre harm nodes.length = ⟨(pre.length : Int), (kidsG F x.opts 0 (nodes.length + 1)).kids, 0, 0⟩ :: (kidsG F x.opts 0 (nodes.length + 1)).nodes) := Lib.hid (by
          rw [hdr.out, ← hF.out]
          refine growN_node (Int.not_le.2 hl0'.out) ?_
          rw [← hdr.out, hL.out]
          exact q2)
        have hroom' : Hid (nodes.length + (1 + x.opts.length * treeMax r) ≤ 65536) := Lib.hid (by have := hroom; rw [hdr.out] at this; exact this)
        have hxn := hH.out.ne x (List.mem_of_getElem? ex.out)
        have hw3 := hT.out.ext.size
        have hmV : Hid (w.heap.size ≤ V3.heap.size) := Lib.hid hK.out.size
        have htm' := treeMax_pos r
        clear c3 f3 q3 hatw gopt g1 g2 htm hroom
        go_wp2_with fail
        go_loopw [10, 11, 12] (fun v10 v11 _ wr => ∃ (k : Nat) (nv' : Value) (O' : Int), k ≤ x.opts.length ∧ v11 = .int .i64 k ∧
          Hid (Tr (ZK Z v10) w0 wr S (.slice (some ⟨b1, o1, none⟩) t.length tc) B O' nv' (nodes ++ [leafN] ++ (kidsG F (x.opts.take k) 0 (nodes.length + 1)).nodes)) ∧ Hid (Keep (TS S (.slice A nodes.length c)) w wr) ∧ Hid (NvOk w (.slice A nodes.length c) nv') ∧ Hid (IntsO wr w0.heap.size (.slice pa pre.length pc) pre) ∧
          Hid (V3.heap.size ≤ wr.heap.size) ∧ Hid (IntsO wr V3.heap.size v10 (kidsG F (x.opts.take k) 0 (nodes.length + 1)).kids)) (fun _ v11 _ _ => x.opts.length - (intOf v11).toNat)
        case atStart =>
          have e1 : V3.heap.size ≤ V3.heap.size := Nat.le_refl _
          have hTx := hT.out.toExt ((Ext.refl V3).alloc (.cells #[] 3))
          refine ⟨0, _, O, by omega, rfl, Lib.hid ?_, Lib.hid (hK.out.alloc _), hN, Lib.hid (hP.out.ext ((Ext.refl V3).alloc _)), Lib.hid (by rw [World.size_alloc]; omega), Lib.hid ?_⟩
          · rw [List.take_zero]
            simp only [kidsG, List.append_nil]
            obtain ⟨ys, y1, y2⟩ := hT.out.owns
            obtain ⟨y3, y4, y5, y6, y7, y8⟩ := hTx
            refine ⟨y3, y4, y5, y6, y7, ⟨ys, y1.alloc _, ?_⟩⟩
            have hmm : NodesC V3 w0.heap.size (ZK Z (.slice (some ⟨V3.heap.size, 0, none⟩) 0 0)) (nodes ++ [leafN]) ys := y2.more (fun g hg h => by
              rcases h with h | h
              · exact h
              · simp [Value.ownBlock] at h; omega)
            exact hmm.keep (Keep.of_ext (X := fun _ => False) ((Ext.refl V3).alloc _)) no_x
          · rw [List.take_zero]
            exact World.ownsRow_made V3 #[] 0 (Nat.le_refl _) (by unfold maxLen; omega) rfl
        case round =>
          clear hT hK hP hN c0 hn6 ho0 ho1 h63 hby
          obtain ⟨k, nv', O', hk, rfl, hT, hK, hN, hP, hV, hR⟩ := hrel
          obtain ⟨K, hKe⟩ : ∃ K, Hid (kidsG F (x.opts.take k) 0 (nodes.length + 1) = K) := ⟨_, rfl⟩
          rw [hKe.out] at hT hR
          obtain ⟨ka, kc, rfl⟩ := owns_form hR.out
          have hnf : ∃ na nc, nv' = .slice na (nodes ++ [leafN] ++ K.nodes).length nc := by obtain ⟨ys, y1, _⟩ := hT.out.owns; exact owns_form y1
          obtain ⟨na, nc, rfl⟩ := hnf
          have c0 : wr.cell? ⟨S, 0, none⟩ = some (.slice (some ⟨b1, o1, none⟩) t.length tc) := hT.out.blk.cell 0
          have g3r := hT.out.ext.cell g3
          by_cases q4 : k < x.opts.length
          · obtain ⟨b2, o2, o, sa, sc, rfl, hb2, _, eo, kw0, _, _, _⟩ := oat k q4 w0 (Ext.refl _)
            have k1 := hT.out.ext.cell kw0
            have hob := hH.out.harms x (List.mem_of_getElem? ex.out) o (List.mem_of_getElem? eo.out)
            have hob0 := hob.1
            have hob1 := hob.2
            have hprd := Lib.hid (Ints.reads hP.out.read)
            obtain ⟨pcs, hpown⟩ : ∃ l : List Int, Hid (pre = l) := ⟨_, rfl⟩
            clear hob
            go_upto_region 17 with (at_builtin; refine wpList_append_any _ rfl (.tmp 88) (.tmp 89) _ rfl wr.heap.size 3 j0 _ 1 8 Try.underlying28 hj0 jz0 jz1 jz2 rfl (by decide) (.slice (some ⟨wr.heap.size, 0, none⟩) 0 0) 0 [] rfl (World.ownsRow_made wr #[] 0 (Nat.le_refl _) (by unfold maxLen; omega) rfl) wr.heap.size pa pre.length pc (pre.map (Value.int .i64)) rfl (hprd.out.alloc (Nat.le_refl _) _) (by intro u hu; simp at hu; obtain ⟨y, _, rfl⟩ := hu; rfl) (by unfold maxLen; omega) (by omega) (by rw [World.size_alloc]; omega) ?_; intro v5 w5 hown5 hg5 hat5; rw [Nat.zero_add, List.nil_append] at hown5; obtain ⟨ga, gc, rfl⟩ := owns_form hown5; have hq := Lib.hid hown5; have hx5 := Lib.hid (((Ext.refl wr).alloc (.cells #[] 3)).grown hg5 (by intro k hk; simp [Value.ownBlock] at hk; omega)); clear hown5 hg5 hat5)
            have c05 := hx5.out.cell c0
            have g35 := hx5.out.cell g3r
            have k15 := hx5.out.cell k1
            have ls := World.block_lt_of_cell? _ _ c05
            have lb1 := World.block_lt_of_cell? _ _ g35
            have lb2 := World.block_lt_of_cell? _ _ k15
            have hln : K.nodes.length ≤ k * treeMax r := by
              have h1 := kidsG_len hFl.out (x.opts.take k) 0 (nodes.length + 1)
              rw [hKe.out, List.length_take, Nat.min_eq_left hk] at h1
              exact h1
            have hkl : Hid (K.kids.length = k) := Lib.hid (by
              have h1 := kidsG_kids_len F (x.opts.take k) 0 (nodes.length + 1)
              rw [hKe.out, List.length_take, Nat.min_eq_left hk] at h1
              exact h1)
            obtain ⟨K', hK'⟩ : ∃ K', Hid (kidsG F (x.opts.take (k + 1)) 0 (nodes.length + 1) = K') := ⟨_, rfl⟩
            obtain ⟨IX, hIX⟩ : ∃ IX, Hid ((nodes ++ [leafN] ++ K.nodes).length = IX) := ⟨_, rfl⟩
            have hIX1 : IX = nodes.length + 1 + K.nodes.length := by rw [← hIX.out]; simp only [List.length_append, List.length_cons, List.length_nil]
            have hKs := kidsG_step F x.opts k o eo.out 0 (nodes.length + 1)
            rw [hKe.out, hK'.out, ← hIX1] at hKs
            have hKn : Hid (nodes ++ [leafN] ++ K.nodes ++ growN t B (t.drop (pre.length + 1)) (pre ++ [(k : Int)]) (harm + o.harm) IX = nodes ++ [leafN] ++ K'.nodes) := Lib.hid (by
              rw [hKs]
              simp only [← hF.out, growF, growN, hr.out, List.append_assoc, Int.zero_add])
            have hKk : Hid (K'.kids = K.kids ++ [(IX : Int)]) := Lib.hid (by rw [hKs])
            have hrm : Hid ((nodes ++ [leafN] ++ K.nodes).length + treeMax (t.drop (pre.length + 1)) ≤ 65536) := Lib.hid (by
              have h2 := hroom'.out
              have h3 : k * treeMax r + treeMax r ≤ x.opts.length * treeMax r := by rw [← Nat.succ_mul]; exact Nat.mul_le_mul_right _ q4
              rw [hIX.out, hr.out, hIX1]
              omega)
            have hIXb : IX ≤ 65536 := by have := hrm.out; rw [hIX.out] at this; omega
            have hkb : k ≤ 65536 := by
              have h2 := hroom'.out
              have h3 : x.opts.length * 1 ≤ x.opts.length * treeMax r := Nat.mul_le_mul_left _ htm'
              omega
            have hxw := hT.out.ext.size
            have hs5 := hx5.out.size
            have hv3 := hV.out
            have hcall : Hid (∀ (W : World) (v : Value), Ext wr W → IntsO W wr.heap.size v (pre ++ [(k : Int)]) → Calls Try.prog 40 #[.pointer (some ⟨S, 0, none⟩), v, .int .i64 (IntKind.i64.wrap (harm + o.harm))] W (GOut (ZK Z (.slice ka K.kids.length kc)) w0 W S (.slice (some ⟨b1, o1, none⟩) t.length tc) B (.slice na (nodes ++ [leafN] ++ K.nodes).length nc) (nodes ++ [leafN] ++ K.nodes) (growN t B (t.drop (pre.length + 1)) (pre ++ [(k : Int)]) (harm + o.harm) (nodes ++ [leafN] ++ K.nodes).length))) := Lib.hid fun W v hW hv => by
              rw [IntWalk.i64_in (harm + o.harm) (by omega)]
              exact ih'.out x ex.out _ W O' _ v _ k o eo.out (hH.out.kid (hT.out.toExt hW) (fun g hg => by
                rcases hg with hg | hg
                · have := hH.out.zlt g hg; have := hK.out.size; have := hW.size; omega
                · have := (World.ownsRow.lt hR.out g hg).2; have := hW.size; omega) hv hxw ex.out eo.out hrm.out)
            have hc0 := Lib.hid c0
            have hg3 := Lib.hid g3r
            have hk1 := Lib.hid k1
            clear hKs ih' hlen c0 g3r k1 hprd hpown hIX1
            have hTi0 := hT.out
            rw [hIX.out] at hTi0
            have hTi := Lib.hid hTi0
            have hNi0 := hN.out
            rw [hIX.out] at hNi0
            have hNi := Lib.hid hNi0
            clear hTi0 hNi0
            have hone : Hid (∀ u ∈ [Value.int .i64 (IX : Int)], u.oneCell' = true) := Lib.hid (by intro u hu; simp at hu; subst hu; rfl)
            have hcall2 : Hid (∀ (W : World) (v : Value), Ext wr W → IntsO W wr.heap.size v (pre ++ [(k : Int)]) → Calls Try.prog 40 #[.pointer (some ⟨S, 0, none⟩), v, .int .i64 (IntKind.i64.wrap (harm + o.harm))] W (fun e w' => ∃ nv2 O2, e = .returned (.int .i64 (IX : Int)) ∧ Tr (ZK Z (.slice ka K.kids.length kc)) w0 w' S (.slice (some ⟨b1, o1, none⟩) t.length tc) B O2 nv2 (nodes ++ [leafN] ++ K'.nodes) ∧ Keep (TS S (.slice na IX nc)) W w' ∧ NvOk W (.slice na IX nc) nv2)) := Lib.hid fun W v hW hv => by
              refine (hcall.out W v hW hv).mono ?_
              rintro e w' ⟨nv2, O2, he, ha, hb, hc⟩
              rw [hIX.out] at he ha hb hc
              rw [hKn.out] at ha
              exact ⟨nv2, O2, he, ha, hb, hc⟩
            clear hcall
            have hkw := Lib.hid kw0
            have hg0 := Lib.hid g3
            go_region_held3 (fun W' => W'.cell? ⟨S, 0, none⟩ = some (.slice (some ⟨b1, o1, none⟩) t.length tc) ∧ W'.cell? ⟨b1, o1 + pre.length * 3 + 2, none⟩ = some (.slice (some ⟨b2, o2, none⟩) x.opts.length oc) ∧ W'.cell? ⟨b2, o2 + k * 3, none⟩ = some (.int .i64 o.harm))
              (first | exact ⟨c05, g35, k15⟩ | exact ⟨((Ext.refl w5).drew.alloc _).cell c05, ((Ext.refl w5).drew.alloc _).cell g35, ((Ext.refl w5).drew.alloc _).cell k15⟩ | exact ⟨c06, g36, k16⟩ | exact ⟨c07, g37, k17⟩ | exact ⟨((Ext.refl w7).alloc _).cell c07, ((Ext.refl w7).alloc _).cell g37, ((Ext.refl w7).alloc _).cell k17⟩ | exact ⟨c08, g38, k18⟩)
              (first
              | (refine at_dst 96 rfl ?_; refine step_append_any _ (by rfl) (.tmp 93) (.tmp 95) _ (by rfl) wr.heap.size 3 j0 _ 1 8 Try.underlying28 hj0 jz0 jz1 jz2 (by rfl) (by decide) (.slice ga pre.length gc) pre.length (pre.map (Value.int .i64)) (by rfl) ((hq.out.drew).alloc _) (w5.heap.size + 1) (some ⟨w5.heap.size, 0, none⟩) 1 1 [.int .i64 (k : Int)] (by rfl) (reads_last _ #[_] _ 1 1 _ _ (by simp) (by omega) rfl) (by simp [Value.oneCell']) (by unfold maxLen; omega) (by omega) (by show _ ≤ (w5.alloc _).heap.size; rw [World.size_alloc]; omega) ?_; intro v6 w6 hown6 hg6 hat6; obtain ⟨g6, c6, rfl⟩ := owns_pos hown6 (by omega); have hx6 := Lib.hid (((hx5.out.alloc (.cells #[.int .i64 (k : Int)] 3)).drew).grown hg6 (by intro g hg; exact (World.ownsRow.lt hq.out g hg).1)); have hq6 : Hid (IntsO w6 wr.heap.size (.slice (some ⟨g6, 0, none⟩) (pre.length + 1) c6) (pre ++ [(k : Int)])) := Lib.hid (by unfold IntsO; simpa using hown6); have c06 := hx6.out.cell hc0.out; have g36 := hx6.out.cell hg3.out; have k16 := hx6.out.cell hk1.out; clear hown6 hg6 hat6)
              | (refine at_dst 114 rfl ?_; refine step_append_any _ (by rfl) (.tmp 91) (.tmp 113) _ (by rfl) V3.heap.size 3 j0 _ 1 8 Try.underlying28 hj0 jz0 jz1 jz2 (by rfl) (by decide) (.slice ka K.kids.length kc) K.kids.length (K.kids.map (Value.int .i64)) (by rfl) (World.ownsRow.alloc hR7.out _) (w7.heap.size + 1) (some ⟨w7.heap.size, 0, none⟩) 1 1 [.int .i64 (IX : Int)] (by rfl) (reads_last w7 #[.int .i64 (IX : Int)] 3 1 1 w7.heap.size (w7.heap.size + 1) rfl (Nat.lt_succ_self _) rfl) hone.out (by unfold maxLen; rw [hkl.out]; omega) (by rw [hkl.out]; omega) (by show _ ≤ (w7.alloc _).heap.size; rw [World.size_alloc]; omega) ?_; intro v8 w8 hown8 hg8 hat8; obtain ⟨g8, c8, rfl⟩ := owns_pos hown8 (by omega); have hT8 := Lib.hid (hT7'.out.kid hR7.out hw3 hg8 hat8); have c08 : w8.cell? ⟨S, 0, none⟩ = some (.slice (some ⟨b1, o1, none⟩) t.length tc) := hT8.out.blk.cell 0; have g38 := hT8.out.ext.cell hg0.out; have k18 := hT8.out.ext.cell hkw.out; have hown8' := Lib.hid hown8; have hg8' := Lib.hid hg8; have hat8' := Lib.hid hat8; clear hown8 hg8 hat8)
              | (go_at_call 40; refine (hcall2.out w6 (.slice (some ⟨g6, 0, none⟩) (pre.length + 1) c6) hx6.out hq6.out).mono ?_; rintro e w7 ⟨nv2, O2, rfl, hT7, hK7, hN7⟩; have hR7 := Lib.hid ((hTi.out.toExt hx6.out).ints hK7 (hR.out.ext hx6.out)); have hP7 := Lib.hid ((hTi.out.toExt hx6.out).ints hK7 (hP.out.ext hx6.out)); have hs7 := Lib.hid hK7.size; have hs6 := hx6.out.size; have hs8 := hK7.size; have c07 : w7.cell? ⟨S, 0, none⟩ = some (.slice (some ⟨b1, o1, none⟩) t.length tc) := hT7.blk.cell 0; have g37 := hT7.ext.cell hg0.out; have k17 := hT7.ext.cell hkw.out; have hT7' := Lib.hid hT7; have hK7' := Lib.hid hK7; have hN7' := Lib.hid hN7; clear hT7 hK7 hN7))
            all_goals
              have hkk := Lib.hid ((Keep.grown (X := fun g => Value.ownBlock (.slice ka K.kids.length kc) = some g) ((Keep.refl _ w7).alloc _) hg8'.out (fun g h => Or.inl h)))
              have hK8 := Lib.hid ((((ts_chain (hK.out.trans (Keep.of_ext hx6.out)) hNi.out hK7'.out)).alloc _).grown hg8'.out (fun g hg => Or.inr (by have := (World.ownsRow.lt hR7.out g hg).1; have := hmV.out; omega)))
              have hN8 := Lib.hid (NvOk.trans (w1 := w6) (by have := hK.out.size; omega) hNi.out hN7'.out)
              have hP8 := Lib.hid (show IntsO w8 w0.heap.size (.slice pa pre.length pc) pre from hkk.out.owns hP7.out (fun g hg hx => by
                have h1 := (World.ownsRow.lt hR7.out g hx).1
                have h2 := (World.ownsRow.lt hH.out.picks g hg).2
                have := hmV.out
                omega))
              have hR8 : Hid (IntsO w8 V3.heap.size (.slice (some ⟨g8, 0, none⟩) (K.kids.length + 1) c8) K'.kids) := Lib.hid (by
                rw [hKk.out]
                unfold IntsO
                simpa using hown8'.out)
              go_wp2
              go_roundw
              case rel => exact ⟨k + 1, nv2, O2, by omega, by go_num, by rw [hK'.out]; exact hT8, hK8, hN8, hP8, Lib.hid (by have := hK.out.size; have := hs7.out; have := hg8'.out.size; simp only [World.size_alloc] at this; omega), by rw [hK'.out]; exact hR8⟩
              case measure => simp [intOf]; omega
          · have hKx : Hid (kidsG F x.opts 0 (nodes.length + 1) = K) := Lib.hid (by rw [← hKe.out, List.take_of_length_le (by omega)])
            have hT' := Lib.hid (hT.out.less (Z' := Z) (fun g h => Or.inl h))
            obtain ⟨LN, hLN⟩ : ∃ LN, Hid ((nodes ++ [leafN] ++ K.nodes).length = LN) := ⟨_, rfl⟩
            have hln : nodes.length < LN := by rw [← hLN.out]; simp only [List.length_append, List.length_cons, List.length_nil]; omega
            have hlm : LN ≤ 65536 := by
              have h1 := kidsG_len hFl.out x.opts 0 (nodes.length + 1)
              rw [hKx.out] at h1
              have h2 := hroom'.out
              rw [← hLN.out]
              simp only [List.length_append, List.length_cons, List.length_nil]
              omega
            obtain ⟨g, c8, k0, e8, hg0, hfr, z0, z1, z2, z3, hT3, hK3⟩ := hT'.out.setNode (i := nodes.length) (n := leafN) (m := ⟨(pre.length : Int), K.kids, 0, 0⟩) (kv := .slice ka K.kids.length kc) (by simp) ⟨owns_base hR.out hw3, fun g hg hz => by have := (World.ownsRow.lt hR.out g hg).1; have := hH.out.zlt g hz; have := hmV.out; omega⟩
            obtain ⟨rfl, rfl⟩ : na = some ⟨g, 0, none⟩ ∧ nc = c8 := by injection e8 with e1 e2 e3; exact ⟨e1, e3⟩
            have f0 := hfr (nodes.length * 4)
            have f1 := hfr (nodes.length * 4 + 1)
            have f2 := hfr (nodes.length * 4 + 2)
            have f3 := hfr (nodes.length * 4 + 3)
            have e9 : (nodes ++ [leafN] ++ K.nodes).set nodes.length ⟨(pre.length : Int), K.kids, 0, 0⟩ = nodes ++ (⟨(pre.length : Int), K.kids, 0, 0⟩ :: K.nodes) := by simp
            rw [e9] at hT3
            have hT4 := Lib.hid hT3
            have hK4 := Lib.hid (ts_chain hK.out hN.out hK3)
            have c2 : wr.cell? ⟨S, 2, none⟩ = some (.slice (some ⟨g, 0, none⟩) LN nc) := by rw [← hLN.out]; exact hT.out.blk.cell 2
            clear hT' hT hT3 hK3 hK hP hR hfr e8 e9 ih'
            go_wp2
            go_ret
            exact ⟨_, _, rfl, by rw [hgo.out, hKx.out]; exact hT4.out, hK4.out, hN.out⟩
end Go.Proofs.Ytonmlmkemliefaa
