/- Walks of the reference of plans: next. -/
import Derived.Test.YtkicielleiafgaaRP
import Derived.Test.YtkicielleiafgaaHE
import Derived.Deep.Cut
namespace Go.Proofs.Ytkicielleiafgaa
open Go.RowKit

def curL (t : List WishD) (p : List Int) (m : Nat) : List Int := p.take m ++ zerosT (t.drop m)
theorem curL_len {t : List WishD} {p : List Int} {m : Nat} (hl : p.length = t.length) (hm : m ≤ t.length) : (curL t p m).length = t.length := by simp [curL, zerosT]; omega
theorem curL_get {t : List WishD} {p : List Int} {k : Nat} {y : Int} (hy : p[k]? = some y) : (curL t p (k + 1))[k]? = some y := by
  have hk := (List.getElem?_eq_some_iff.1 hy).1
  rw [curL, List.getElem?_append_left (by simp; omega), List.getElem?_take_of_lt (by omega), hy]
theorem curL_set {t : List WishD} {p : List Int} {k : Nat} (hk : k < p.length) (y : Int) : (curL t p (k + 1)).set k y = p.take k ++ y :: zerosT (t.drop (k + 1)) := by
  have h1 : (p.take (k + 1)).length = k + 1 := by simp; omega
  rw [curL, List.set_append_left _ _ (by omega), List.take_add_one, List.getElem?_eq_getElem hk, Option.toList_some, List.set_append_right _ _ (by simp; omega)]
  have h2 : k - (p.take k).length = 0 := by simp; omega
  rw [h2]
  simp
theorem curL_low {t : List WishD} {p : List Int} {k : Nat} (hk : k < t.length) : p.take k ++ 0 :: zerosT (t.drop (k + 1)) = curL t p k := by
  rw [curL, zerosT_drop hk]
theorem choiceB_at : ∀ {t : List WishD} {p : List Int} {i : Nat} {x : WishD} {y : Int}, choiceB t p = true → t[i]? = some x → p[i]? = some y → ∃ n : Nat, y = n ∧ n < x.opts.length
  | [], _, _, _, _, _, h, _ => by simp at h
  | _ :: _, [], _, _, _, h, _, _ => by simp [choiceB] at h
  | x :: t, k :: p, 0, _, _, h, hx, hy => by
    simp only [choiceB, Bool.and_eq_true] at h
    simp at hx hy
    subst hx hy
    exact idxB_nat h.1
  | _ :: t, _ :: p, i + 1, _, _, h, hx, hy => by
    simp only [choiceB, Bool.and_eq_true] at h
    exact choiceB_at h.2 (by simpa using hx) (by simpa using hy)
def NextPost (t : List WishD) (p : List Int) (w : World) (e : Ending) (w' : World) : Prop :=
  ∃ v q b, e = .returned (.tuple #[v, .bool b]) ∧ IntsO w' w.heap.size v q ∧ Ext w w' ∧ match nextL t p with | some q' => b = true ∧ q = q' | none => b = false
set_option maxHeartbeats 3200000 in
set_option maxRecDepth 100000 in
theorem rNext_calls (wv pv : Value) (t : List WishD) (p : List Int) (w : World) (h : Wishes w wv t) (hp : Ints w pv p) (hc : choiceB t p = true) (h0 : 0 < t.length) (h512 : t.length ≤ 512) :
    Calls Try.prog 86 #[.agg #[wv], pv] w (NextPost t p w) := by
  obtain ⟨ta, tc, rfl, hn, htc, hat⟩ := h.open
  have hlen := choiceB_len hc
  obtain ⟨pa, pc, rfl, hpn, hpc, _⟩ := hp.open
  obtain ⟨j0, hj0, jz0, jz1, jz2⟩ := info_parts int_info
  have hat' := Lib.hid hat
  have hc' := Lib.hid hc
  have hrd := Lib.hid hp.reads
  have hlen' := Lib.hid hlen
  rw [hlen] at hpn hrd ⊢
  clear h hp hc hlen hat
  go_enter Try.func86, Try.ntmps86
  go_upto_region 2 with (at_builtin; refine wpList_append_any _ rfl (.tmp 8) (.tmp 9) _ rfl w.heap.size 3 j0 _ 1 8 Try.underlying29 hj0 jz0 jz1 jz2 rfl (by decide) (.slice (some ⟨w.heap.size + 1, 0, none⟩) 0 0) 0 [] rfl (by have := World.ownsRow_made (base := w.heap.size) (e := 3) (size := 1) (w.alloc (.cells #[.slice ta t.length tc] 27)) #[] 0 (by rw [World.size_alloc]; omega) (by unfold maxLen; omega) rfl; rw [World.size_alloc] at this; exact this) w.heap.size pa t.length pc (p.map (Value.int .i64)) rfl ((hrd.out.alloc (Nat.le_refl _) _).alloc (by rw [World.size_alloc]; omega) _) (by intro u hu; simp at hu; obtain ⟨y, _, rfl⟩ := hu; rfl) (by unfold maxLen; omega) (by omega) (by rw [World.size_alloc, World.size_alloc]; omega) ?_; intro v1 w1 hown1 hg1 hat1; rw [Nat.zero_add, List.nil_append] at hown1; obtain ⟨g, c1, rfl⟩ : ∃ g c, v1 = .slice (some ⟨g, 0, none⟩) t.length c := (by rcases hown1.2 with ⟨_, h1⟩ | ⟨g1, c1, cur, e, _⟩; (omega); exact ⟨g1, c1, e⟩); have hown := Lib.hid hown1; have hE := Lib.hid ((((Ext.refl w).alloc (.cells #[.slice ta t.length tc] 27)).alloc (.cells #[] 3)).grown hg1 (by intro k hk; simp [Value.ownBlock] at hk; omega)); have hB := Lib.hid ((Blk.alloc (blk_new' (w := w) (g := w.heap.size) (t := 27) (cs := #[.slice ta t.length tc]) rfl rfl) (.cells #[] 3)).grown hg1 (by simp [Value.ownBlock])); clear hown1 hg1 hat1)
  go_wp2_with fail
  go_loopg [7] t.length (fun gm vi wr => ∃ z : Int, vi = .int .i64 z ∧ gm ≤ t.length ∧ Hid (z = (gm : Int) - 1) ∧ Hid (Ext w wr) ∧ Hid (Blk wr w.heap.size 27 #[.slice ta t.length tc]) ∧ Hid (wr.ownsRow w.heap.size 3 1 (.slice (some ⟨g, 0, none⟩) t.length c1) t.length ((curL t p gm).map (Value.int .i64))) ∧ Hid (nextL (t.drop gm) (p.drop gm) = none))
  case atStart => exact ⟨_, rfl, by omega, rfl, hE, hB, by show World.ownsRow _ _ _ _ _ _ _; rw [curL, List.take_of_length_le (by rw [hlen'.out]; omega), List.drop_of_length_le (by omega)]; simpa [zerosT] using hown.out, by show _ = _; rw [List.drop_of_length_le (by omega)]; rfl⟩
  case round =>
    clear hE hB hown
    obtain ⟨z, rfl, hm, hz, hE, hB, hown, hN⟩ := hrel
    rcases Nat.eq_zero_or_pos gk with hk0 | hk0
    · subst hk0
      obtain rfl : z = -1 := by have := hz.out; simpa using this
      have R : Hid (nextL t p = none) := by simpa using hN
      have hown2 : IntsO wr w.heap.size (.slice (some ⟨g, 0, none⟩) t.length c1) (curL t p 0) := by unfold IntsO; rw [curL_len hlen'.out (by omega)]; exact hown.out
      have hown2' := Lib.hid hown2
      have hE' := Lib.hid hE.out
      clear hown hown2
      go_wp2
      go_ret2
      exact ⟨_, _, _, rfl, hown2'.out, hE'.out, by rw [R.out]⟩
    · obtain ⟨k, rfl⟩ : ∃ k, gk = k + 1 := ⟨gk - 1, by omega⟩
      obtain rfl : z = (k : Int) := by have := hz.out; omega
      obtain ⟨b1, o1, x, _, _, oa, oc, rfl, hb1, _, ex, _, _, k2, _, ho⟩ := hat'.out k (by omega) wr hE.out
      have hkp : k < p.length := by have := hlen'.out; omega
      obtain ⟨y, ey⟩ : ∃ y, Hid (p[k]? = some y) := ⟨_, Lib.hid (List.getElem?_eq_getElem hkp)⟩
      obtain ⟨n, rfl, hny⟩ := choiceB_at hc'.out ex.out ey.out
      have hol := ho.len
      have c0 : wr.cell? ⟨w.heap.size, 0, none⟩ = some (.slice (some ⟨b1, o1, none⟩) t.length tc) := hB.out.cell 0
      have cg := curL_get (t := t) ey.out
      have c1k : wr.cell? ⟨g, k, none⟩ = some (.int .i64 (n : Int)) := by rw [hown.out.cellAt k (by omega), List.getElem?_map, cg]; rfl
      have f1k := hown.out.frozenAt k
      obtain ⟨cs', hblk⟩ := owns_block hown.out rfl
      have hgB : w.heap.size ≤ g := (hown.out.lt g rfl).1
      have hgne : g ≠ w.heap.size := by rintro rfl; exact absurd (blk_type hblk hB.out) (by decide)
      have hNk := Lib.hid (next_here ex.out ey.out hN.out)
      have hst := Lib.hid (hown.out.stored k (.int .i64 ((n : Int) + 1))).1
      go_upto_region 6 with fail
      refine wp_abs (S := fun V => Hid (Ext wr V ∨ True) ∧ Hid (Ext w V) ∧ Hid (Blk V w.heap.size 27 #[.slice (some ⟨b1, o1, none⟩) t.length tc]) ∧ Hid (V.ownsRow w.heap.size 3 1 (.slice (some ⟨g, 0, none⟩) t.length c1) t.length (((curL t p (k + 1)).map (Value.int .i64)).set k (.int .i64 ((n : Int) + 1))))) ?_ ?_
      · exact ⟨Lib.hid (Or.inr trivial), Lib.hid (hE.out.setCell hgB _), Lib.hid (hB.out.far hgne.symm _), hst⟩
      rintro V ⟨_, hEV, hBV, hoV⟩
      clear hst hB hown hblk hN c0 c1k f1k k2 hE ho
      obtain ⟨b2, o2, x2, _, _, oa, oc, e2, hb2, _, ex2, _, _, k2, _, ho⟩ := hat'.out k (by omega) V hEV.out
      cases e2
      obtain rfl : x = x2 := Option.some.inj (ex.out.symm.trans ex2.out)
      have c0 : V.cell? ⟨w.heap.size, 0, none⟩ = some (.slice (some ⟨b1, o1, none⟩) t.length tc) := hBV.out.cell 0
      have c1k : V.cell? ⟨g, k, none⟩ = some (.int .i64 ((n : Int) + 1)) := by
        rw [hoV.out.cellAt k (by omega), List.getElem?_set_self (by rw [List.length_map, curL_len hlen'.out (by omega)]; omega)]
      have f1k := hoV.out.frozenAt k
      have z0 := After.cell c0
      have z1 := After.cell c1k
      have z2 := After.cell k2
      have hplen := hlen'.out
      refine wp_region_after (by kernel_rfl) (by kernel_rfl) ?_
      repeat (go_big_quiet_step (fail))
      refine wpQuiet_nil ?_
      rintro _ ⟨u, rfl⟩
      have hu := u.ext
      have hou := Lib.hid (owns_ext hoV.out hu)
      have hBu := Lib.hid (hBV.out.below hu hBV.out.lt)
      have hEu := Lib.hid (hEV.out.trans hu)
      have f1u := hou.out.frozenAt k
      have c1u := hu.cell c1k
      generalize u.world = U at hu hou hBu hEu f1u c1u ⊢
      have hku : (p.take k).length = k := by simp; omega
      have hol2 : ((p.take k) ++ ((n : Int) + 1) :: zerosT (t.drop (k + 1))).length = t.length := by have := zerosT_len (t.drop (k + 1)); simp at this ⊢; omega
      have heq : ((curL t p (k + 1)).map (Value.int .i64)).set k (.int .i64 ((n : Int) + 1)) = ((p.take k) ++ ((n : Int) + 1) :: zerosT (t.drop (k + 1))).map (Value.int .i64) := by rw [← curL_set hkp, List.map_set]
      by_cases q : n + 1 < x.opts.length
      · rw [decide_eq_true (p := (n : Int) + 1 < (x.opts.length : Int)) (by omega)]
        have hR : Hid (nextL t p = some ((p.take k) ++ ((n : Int) + 1) :: zerosT (t.drop (k + 1)))) := Lib.hid (next_from (by rw [hNk.out, if_pos (by omega)]) (by omega))
        have hO : Hid (IntsO U w.heap.size (.slice (some ⟨g, 0, none⟩) t.length c1) ((p.take k) ++ ((n : Int) + 1) :: zerosT (t.drop (k + 1)))) := Lib.hid (by unfold IntsO; rw [hol2, ← heq]; exact hou.out)
        clear z0 z1 z2 c0 c1k f1k k2 hu hou hBu hat' hEV hBV hoV hNk hol2 heq hb2 ho ex ex2 f1u c1u
        go_wp2
        go_ret2
        exact ⟨_, _, _, rfl, hO.out, hEu.out, by rw [hR.out]; exact ⟨rfl, rfl⟩⟩
      · rw [decide_eq_false (p := (n : Int) + 1 < (x.opts.length : Int)) (by omega)]
        have hst := Lib.hid (hou.out.stored k (.int .i64 0)).1
        have hS : ((((curL t p (k + 1)).map (Value.int .i64)).set k (.int .i64 ((n : Int) + 1))).set k (.int .i64 0)) = (curL t p k).map (Value.int .i64) := by
          rw [List.set_set, ← List.map_set, curL_set hkp, curL_low (by omega)]
        rw [hS] at hst
        have hBs := Lib.hid (hBu.out.far (p := ⟨g, k, none⟩) hgne.symm (.int .i64 0))
        have hEs := Lib.hid (hEu.out.setCell (p := ⟨g, k, none⟩) hgB (.int .i64 0))
        have hNn : Hid (nextL (t.drop k) (p.drop k) = none) := Lib.hid (by rw [hNk.out, if_neg (by omega)])
        clear z0 z1 z2 c0 c1k f1k k2 hu hou hBu hat' hEV hBV hoV hNk hol2 heq hb2 ho ex ex2 hS hEu
        go_wp2
        go_roundg k
        · exact ⟨_, rfl, by omega, Lib.hid rfl, hEs, hBs, hst, hNn⟩
        · omega
end Go.Proofs.Ytkicielleiafgaa
