/- The law's cut, walked. -/
import Derived.Test.YtonmlmkemliefaaRL
import Derived.Test.YtonmlmkemliefaaHE
import Derived.Test.YtonmlmkemliefaaChangedA
import Derived.Deep.Cut
namespace Go.Proofs.Ytonmlmkemliefaa
open Go.RowKit

/-- options of the call's own in a row from block B on, whose spans lie in the memory that came in -/
def OptsY (z W : World) (B : Nat) (v : Value) (l : List OptD) : Prop := ∃ ys, W.ownsRow B 59 3 v l.length ys ∧ OptsC z l ys
theorem Spans.take {w : World} {a : Option Addr} {n c m : Nat} {l : List (Int × Int)} (h : Spans w (.slice a n c) l) (hm : m ≤ n) : Spans w (.slice a m c) (l.take m) := by
  obtain ⟨a', c', e, h1, h2, h3⟩ := h
  have en : n = l.length := by cases e; rfl
  cases e
  have hl : (l.take m).length = m := by simp; omega
  refine ⟨a, c, by rw [hl], by rw [hl]; omega, h2, fun h0 => ?_⟩
  obtain ⟨b, off, e1, e2, e3⟩ := h3 (by omega)
  refine ⟨b, off, e1, e2, fun i hi j hj => ?_⟩
  rw [hl] at hi
  rw [e3 i (by omega) j hj]
  simp only [List.getElem?_take_of_lt hi]
def WishesY (z W : World) (B : Nat) (v : Value) (l : List WishD) : Prop := ∃ xs, W.ownsRow B 56 3 v l.length xs ∧ WishesCX z W l xs
theorem WishesY.keep {z W W' : World} {B : Nat} {v : Value} {X : Nat → Prop} {T : TypeId} {l : List WishD} (h : WishesY z W B v l) (k : Keep X W W') (hX : TX W X T) (hT : 59 ≠ T) (hT2 : 56 ≠ T) : WishesY z W' B v l :=
  let ⟨xs, a, b⟩ := h
  ⟨xs, owns_keepT a k hX hT2, b.keep k hX hT⟩
structure CutAt (z w W : World) (tv v : Value) (acc : List WishD) : Prop where
  ext : Ext w W
  task : Blk W w.heap.size 26 #[tv]
  res : Blk W (w.heap.size + 1) 26 #[.slice none 0 0]
  out : Blk W (w.heap.size + 1 + 1) 26 #[v]
  own : WishesY z W w.heap.size v acc
structure CutIn (z w0 W : World) (m : Int) (pv ov fv : Value) (acc : List OptD) : Prop where
  ext : Ext w0 W
  var : Blk W w0.heap.size 56 #[.int .i64 m, pv, ov]
  own : OptsY z W w0.heap.size fv acc
section
variable {z w w0 W W1 : World} {tv v pv ov fv : Value} {acc : List WishD} {ac : List OptD} {m : Int}
theorem OptsY.ext {B : Nat} {l : List OptD} (h : OptsY z W B v l) (e : Ext W W1) : OptsY z W1 B v l := let ⟨ys, a, b⟩ := h; ⟨ys, owns_ext a e, b⟩
theorem CutAt.toExt (h : CutAt z w W tv v acc) (e : Ext W W1) : CutAt z w W1 tv v acc :=
  ⟨h.ext.trans e, (Keep.of_ext (X := fun _ => False) e).blk h.task id, (Keep.of_ext (X := fun _ => False) e).blk h.res id, (Keep.of_ext (X := fun _ => False) e).blk h.out id, h.own.keep (T := 26) (Keep.of_ext (X := fun _ => False) e) (TX.no _ _) (by decide) (by decide)⟩
theorem CutIn.toExt (h : CutIn z w0 W m pv ov fv ac) (e : Ext W W1) : CutIn z w0 W1 m pv ov fv ac :=
  ⟨h.ext.trans e, (Keep.of_ext (X := fun _ => False) e).blk h.var id, h.own.ext e⟩
theorem CutIn.push {w1 : World} {v1 sv : Value} {o : OptD} {n : Nat} {ys : List Value} (h : CutIn z w0 W m pv ov fv ac) (hn : n = ac.length) (hrow : W.ownsRow w0.heap.size 59 3 fv n ys) (hys : OptsC z ac ys) (hs : Spans z sv o.spans)
    (e : Ext W W1) (hown : w1.ownsRow w0.heap.size 59 3 v1 (n + 1) (ys ++ [.int .i64 o.harm, .int .i64 o.room, sv])) (hg : W1.grownBy w1 fv.ownBlock) : CutIn z w0 w1 m pv ov v1 (ac ++ [o]) := by
  have h1 := h.toExt e
  refine ⟨h1.ext.grown hg fun k hk => (World.ownsRow.lt hrow k hk).1, h1.var.grown hg (Ne.symm (own_blk_ne hrow h.var (by decide))), _, ?_, OptsC.snoc hs hys⟩
  rw [List.length_append, ← hn]
  exact hown
theorem CutAt.push {w1 : World} {v1 : Value} {x : WishD} {n : Nat} {xs : List Value} (h : CutAt z w W tv v acc) (hn : n = acc.length) (hrow : W.ownsRow w.heap.size 56 3 v n xs) (hxs : WishesCX z W acc xs) (hp : Ints z pv x.people) (ho : OptsX z W1 ov x.opts)
    (e : Ext W W1) (hown : w1.ownsRow w.heap.size 56 3 v1 (n + 1) (xs ++ [.int .i64 x.meeting, pv, ov])) (hg : W1.grownBy w1 v.ownBlock) : CutAt z w (w1.setCell ⟨w.heap.size + 1 + 1, 0, none⟩ v1) tv v1 (acc ++ [x]) := by
  have h1 := h.toExt e
  have hrow1 := owns_ext hrow e
  have t1 := TX.row hrow1
  have k1 : Keep (fun g => v.ownBlock = some g) W1 w1 := (Keep.refl _ W1).grown hg (fun g e => Or.inl e)
  have b0 := h1.task.grown hg (Ne.symm (own_blk_ne hrow h.task (by decide)))
  have b1 := h1.res.grown hg (Ne.symm (own_blk_ne hrow h.res (by decide)))
  have b2 := h1.out.grown hg (Ne.symm (own_blk_ne hrow h.out (by decide)))
  have k2 : Keep (fun g => g = w.heap.size + 1 + 1) w1 (w1.setCell ⟨w.heap.size + 1 + 1, 0, none⟩ v1) := keep_set _ _ _ _
  have t2 := TX.one b2
  refine ⟨?_, b0.far (by dsimp only; omega) _, b1.far (by dsimp only; omega) _, b2.set_ 0 v1, ?_⟩
  · refine (h1.ext.keep k1 fun j hj hx => ?_).keep k2 fun j hj hx => ?_
    · have := (World.ownsRow.lt hrow1 j hx).1; omega
    · omega
  · have c1 := WishesCX.snoc (x := x) ⟨hp, (ho.keep k1 t1 (by decide)).keep k2 t2 (by decide)⟩ (WishesCX.keep k2 t2 (by decide) (WishesCX.keep k1 t1 (by decide) (WishesCX.keep (T := 26) (Keep.of_ext (X := fun _ => False) e) (TX.no _ _) (by decide) hxs)))
    refine ⟨_, ?_, c1⟩
    have := owns_keepT hown k2 t2 (by decide)
    rw [List.length_append, ← hn]
    exact this
end
set_option maxHeartbeats 3200000 in
set_option maxRecDepth 100000 in
theorem cut_calls (tv : Value) (t : List WishD) (z w : World) (h : Wishes z tv t) (hz : Ext z w) :
    Calls Try.prog 22 #[.agg #[tv]] w fun e w' => ∃ v, e = .returned (.agg #[v]) ∧ WishesX z w' v (cutT t) ∧ Ext w w' := by
  obtain ⟨ta, tc, rfl, hn, hc, hat⟩ := h.open
  obtain ⟨m0, hm0, mz0, mz1, mz2⟩ := info_parts wish_info
  obtain ⟨k0, hk0, kz0, kz1, kz2⟩ := info_parts option_info
  have hat' := Lib.hid hat
  clear h hat
  go_enter Try.func22, Try.ntmps22
  go_wp2_with fail
  refine wp_abs (S := fun W => Hid (CutAt z w W (.slice ta t.length tc) (.slice none 0 0) [])) ?_ ?_
  · exact Lib.hid ⟨by exact (by repeat' (first | (with_reducible exact Ext.refl _) | (with_reducible assumption) | (with_reducible refine Ext.drewN ?_ _) | (with_reducible refine Ext.drew ?_) | (with_reducible refine Ext.alloc ?_ _) | (with_reducible refine Ext.trans ?_ (by with_reducible assumption)))), (Blk.alloc (Blk.alloc (blk_new' rfl rfl) _) _), Blk.alloc (blk_new' (by simp only [World.size_alloc]) rfl) _, blk_new' (by simp only [World.size_alloc]) rfl, [], World.ownsRow_nil _ _ _ _, rfl⟩
  intro W1 hS1
  go_loopw [4] (fun vi wr => ∃ (i : Nat) (v : Value), i ≤ 5 ∧ i ≤ t.length ∧ vi = .int .i64 i ∧ Hid (CutAt z w wr (.slice ta t.length tc) v ((t.take i).map cutW))) (fun vi _ => t.length - (intOf vi).toNat)
  case atStart => exact ⟨0, _, by omega, by omega, rfl, hS1⟩
  case round =>
    clear hS1
    obtain ⟨i, v, hi5, hi, rfl, hC⟩ := hrel
    have c0 : wr.cell? ⟨w.heap.size, 0, none⟩ = some (.slice ta t.length tc) := hC.out.task.cell 0
    by_cases h1 : i < t.length
    · by_cases h2 : i < 5
      · have hd5 : decide ((i : Int) < 5) = true := by simp; omega
        obtain ⟨b1, o1, x, pa, pc, oa, oc, rfl, hb1, _, hx, g0, g1, g2, gp, go⟩ := hat'.out i h1 z (Ext.refl _)
        replace g0 := (hz.trans hC.out.ext).cell g0
        replace g1 := (hz.trans hC.out.ext).cell g1
        replace g2 := (hz.trans hC.out.ext).cell g2
        obtain ⟨_, _, ep, hpn, hpc, _⟩ := gp.open
        cases ep
        have gp' := Lib.hid gp
        have go' := Lib.hid go
        obtain ⟨w0, hw0⟩ : ∃ w0 : World, Hid (wr = w0) := ⟨_, rfl⟩
        rw [hw0.out] at hC g0 g1 g2 c0
        rw [hw0.out]
        clear hw0 gp go
        go_upto_region 6 with (fail)
        go_upto_region 7 with (fail)
        obtain ⟨km, hkm⟩ : ∃ km : Nat, Hid ((if 8 < (x.people.length : Int) then (8 : Int) else (x.people.length : Int)).toNat = km) := ⟨_, rfl⟩
        have hkm1 : km = min 8 x.people.length := by rw [← hkm.out]; split <;> omega
        rw [hkm.out]
        clear hkm
        generalize (if 8 < (x.people.length : Int) then (8 : Int) else (x.people.length : Int)) = kz
        have hP : Hid (Ints z (.slice pa km pc) (x.people.take 8)) := by
          have := gp'.out.take (m := km) (by omega)
          have e : x.people.take km = x.people.take 8 := by rw [List.take_eq_take_iff]; omega
          show Ints _ _ _
          rwa [e] at this
        clear hkm1 gp'
        go_wp2_with fail
        refine wp_abs (S := fun W => Hid (CutIn z w0 W x.meeting (.slice pa km pc) (.slice oa x.opts.length oc) (.slice (some ⟨w0.heap.size + 1, 0, none⟩) 0 0) [])) ?_ ?_
        · refine Lib.hid ⟨by exact (by repeat' (first | (with_reducible exact Ext.refl _) | (with_reducible assumption) | (with_reducible refine Ext.drewN ?_ _) | (with_reducible refine Ext.drew ?_) | (with_reducible refine Ext.alloc ?_ _) | (with_reducible refine Ext.trans ?_ (by with_reducible assumption)))), Blk.alloc (blk_new' rfl rfl) _, [], ?_, rfl⟩
          have := World.ownsRow_made (base := w0.heap.size) (e := 59) (size := 3) (w0.alloc (.cells #[.int .i64 x.meeting, .slice pa km pc, .slice oa x.opts.length oc] 56)) #[] 0 (by rw [World.size_alloc]; omega) (by unfold maxLen; omega) rfl
          rw [World.size_alloc] at this
          exact this
        intro W2 hS2
        go_loopw [6, 7] (fun vo vk wk => ∃ k : Nat, k ≤ 17 ∧ k ≤ x.opts.length ∧ vk = .int .i64 k ∧ Hid (CutIn z w0 wk x.meeting (.slice pa km pc) (.slice oa x.opts.length oc) vo ((x.opts.take k).map cutO))) (fun _ vk _ => x.opts.length - (intOf vk).toNat)
        case atStart => exact ⟨0, by omega, by omega, rfl, hS2⟩
        case round =>
          clear hS2
          obtain ⟨k, hk17, hk, rfl, hI⟩ := hrel
          have d2 : wr.cell? ⟨w0.heap.size, 2, none⟩ = some (.slice oa x.opts.length oc) := hI.out.var.cell 2
          by_cases q1 : k < x.opts.length
          · by_cases q2 : k < 17
            · have hd17 : decide ((k : Int) < 17) = true := by simp; omega
              obtain ⟨_, _, eo, _, _, hoat⟩ := go'.out.open
              cases eo
              obtain ⟨b2, o2, o, sa, sc, rfl, hb2, _, ho, r0, r1, r2, hs⟩ := hoat k q1 z (Ext.refl _)
              have eww := (hz.trans hC.out.ext).trans hI.out.ext
              replace r0 := eww.cell r0
              replace r1 := eww.cell r1
              replace r2 := eww.cell r2
              obtain ⟨_, _, es, hsn, hsc, _⟩ := hs.open
              cases es
              obtain ⟨sm, hsm⟩ : ∃ sm : Nat, Hid ((if 5 < (o.spans.length : Int) then (5 : Int) else (o.spans.length : Int)).toNat = sm) := ⟨_, rfl⟩
              have hsm1 : sm = min 5 o.spans.length := by rw [← hsm.out]; split <;> omega
              have hS : Hid (Spans z (.slice sa sm sc) (cutO o).spans) := by
                have := hs.take (m := sm) (by omega)
                have e : o.spans.take sm = (cutO o).spans := by show _ = o.spans.take 5; rw [List.take_eq_take_iff]; omega
                show Spans _ _ _
                rwa [e] at this
              have hlen : ((x.opts.take k).map cutO).length = k := by simp; omega
              obtain ⟨ys, hrow, hys⟩ := hI.out.own
              rw [hlen] at hrow
              obtain ⟨fA, fC, rfl⟩ := owns_form hrow
              have hrow' := Lib.hid hrow
              have hys' := Lib.hid hys
              have hlen' := Lib.hid hlen.symm
              have lwr := hI.out.ext.size
              clear eww hoat hs hrow hys hlen hsm1
              go_upto_region 13 with (fail)
              rw [hsm.out]
              clear hsm
              generalize (if 5 < (o.spans.length : Int) then (5 : Int) else (o.spans.length : Int)) = sz
              clear r0 r1 r2 d2
              go_wp2_with (at_builtin; refine wpList_append_any _ rfl (.tmp 59) (.tmp 61) _ rfl w0.heap.size 59 k0 _ 3 40 Try.underlying54 hk0 kz0 kz1 kz2 rfl (by decide) (.slice fA k fC) k ys rfl ((hrow'.out.alloc _).alloc _) (wr.heap.size + 1 + 1) (some ⟨wr.heap.size + 1, 0, none⟩) 1 1 [.int .i64 o.harm, .int .i64 o.room, .slice sa sm sc] rfl (reads_last _ #[_, _, _] _ 3 1 _ _ (by simp) (by omega) rfl) (by simp [Value.oneCell']) (by unfold maxLen; omega) (by omega) (by rw [World.size_alloc, World.size_alloc]; omega) ?_; intro v1 w1 hown1 hg1 hat1; obtain ⟨A1, C1, rfl⟩ := owns_form hown1; have hN := Lib.hid (hI.out.push (o := cutO o) hlen'.out hrow'.out hys'.out hS.out (((Ext.refl wr).alloc (.cells #[.int .i64 o.harm, .int .i64 o.room, .slice sa sm sc] 59)).alloc (.cells #[.int .i64 o.harm, .int .i64 o.room, .slice sa sm sc] 59)) hown1 hg1); clear hown1 hg1 hat1)
              go_roundw
              case rel => exact ⟨k + 1, by omega, by omega, by go_num, by rw [cutO_step ho.out]; exact hN⟩
              case measure => simp [intOf]; omega
            · have hd17 : decide ((k : Int) < 17) = false := by simp; omega
              have hacc : Hid ((x.opts.take k).map cutO = (cutW x).opts) := by
                show _ = (x.opts.take 17).map cutO
                rw [show x.opts.take k = x.opts.take 17 by rw [List.take_eq_take_iff]; omega]
              obtain ⟨ys, hrow, hys⟩ := hI.out.own
              obtain ⟨fA, fC, rfl⟩ := owns_form hrow
              obtain ⟨fn, hfn⟩ : ∃ fn, Hid (((x.opts.take k).map cutO).length = fn) := ⟨_, rfl⟩
              rw [hfn.out] at hI
              have hvar := hI.out.var
              have u0 : wr.cell? ⟨w0.heap.size, 0, none⟩ = some (.int .i64 x.meeting) := hvar.cell 0
              have u1 : wr.cell? ⟨w0.heap.size, 1, none⟩ = some (.slice pa km pc) := hvar.cell 1
              have fr2 := hvar.frozen 2
              clear hrow hys hvar
              rw [hfn.out]
              go_upto_region 15 with (fail)
              refine wp_abs (S := fun W => Hid (Ext w0 W) ∧ Hid (Blk W w0.heap.size 56 #[.int .i64 x.meeting, .slice pa km pc, .slice fA fn fC]) ∧ Hid (OptsX z W (.slice fA fn fC) (cutW x).opts)) ?_ ?_
              · have k2 := keep_set wr w0.heap.size 2 (.slice fA fn fC)
                obtain ⟨ys, hrow, hys⟩ := hI.out.own
                exact ⟨Lib.hid (hI.out.ext.setCell (p := ⟨w0.heap.size, 2, none⟩) (Nat.le_refl _) _), Lib.hid (hI.out.var.set_ 2 _), Lib.hid (by rw [← hacc.out]; exact ⟨ys, owns_base (owns_keepT hrow k2 (TX.one hI.out.var) (by decide)) (hz.trans hC.out.ext).size, hys⟩)⟩
              clear u0 u1 fr2 d2 hI
              rintro W3 ⟨hE3, hV3, hO3⟩
              have u0 : W3.cell? ⟨w0.heap.size, 0, none⟩ = some (.int .i64 x.meeting) := hV3.out.cell 0
              have u1 : W3.cell? ⟨w0.heap.size, 1, none⟩ = some (.slice pa km pc) := hV3.out.cell 1
              have u2 : W3.cell? ⟨w0.heap.size, 2, none⟩ = some (.slice fA fn fC) := hV3.out.cell 2
              have hlen : ((t.take i).map cutW).length = i := by simp; omega
              obtain ⟨xs, hrow, hxs⟩ := hC.out.own
              rw [hlen] at hrow
              obtain ⟨vA, vC, rfl⟩ := owns_form hrow
              have hC3 := hC.out.toExt hE3.out
              have o0 : W3.cell? ⟨w.heap.size + 1 + 1, 0, none⟩ = some (.slice vA i vC) := hC3.out.cell 0
              have fo := hC3.out.frozen 0
              have lw3 := hE3.out.size
              have lww := hC.out.ext.size
              have lo := hC3.out.lt
              have hrow' := Lib.hid hrow
              have hxs' := Lib.hid hxs
              have hlen' := Lib.hid hlen.symm
              clear hrow hxs hlen hC3
              go_wp2_with (at_builtin; refine wpList_append_any _ rfl (.tmp 66) (.tmp 68) _ rfl w.heap.size 56 m0 _ 3 56 Try.underlying24 hm0 mz0 mz1 mz2 rfl (by decide) (.slice vA i vC) i xs rfl ((owns_ext hrow'.out hE3.out).alloc _) (W3.heap.size + 1) (some ⟨W3.heap.size, 0, none⟩) 1 1 [.int .i64 x.meeting, .slice pa km pc, .slice fA fn fC] rfl (reads_last _ #[_, _, _] _ 3 1 _ _ (by simp) (by omega) rfl) (by simp [Value.oneCell']) (by unfold maxLen; omega) (by omega) (by rw [World.size_alloc]; omega) ?_; intro v1 w1 hown1 hg1 hat1; obtain ⟨A1, C1, rfl⟩ := owns_form hown1; have hN := Lib.hid (hC.out.push (x := cutW x) hlen'.out hrow'.out hxs'.out hP.out (hO3.out.keep (T := 26) (Keep.of_ext (X := fun _ => False) ((Ext.refl W3).alloc (.cells #[.int .i64 x.meeting, .slice pa km pc, .slice fA fn fC] 56))) (TX.no _ _) (by decide)) (hE3.out.alloc (.cells #[.int .i64 x.meeting, .slice pa km pc, .slice fA fn fC] 56)) hown1 hg1); have hb1 := ((hC.out.toExt (hE3.out.alloc (.cells #[.int .i64 x.meeting, .slice pa km pc, .slice fA fn fC] 56))).out).grown hg1 (Ne.symm (own_blk_ne hrow'.out hC.out.out (by decide))); have c1' : w1.cell? ⟨w.heap.size + 1 + 1, 0, none⟩ = some (.slice vA i vC) := hb1.cell 0; have f1' := hb1.frozen 0; clear hg1 hat1 hown1 hb1)
              go_roundw
              case rel => exact ⟨i + 1, _, by omega, by omega, by go_num, by rw [cutT_step hx.out]; exact hN⟩
              case measure => simp [intOf]; omega
          ·
            have hacc : Hid ((x.opts.take k).map cutO = (cutW x).opts) := by
              show _ = (x.opts.take 17).map cutO
              rw [show x.opts.take k = x.opts.take 17 by rw [List.take_eq_take_iff]; omega]
            obtain ⟨ys, hrow, hys⟩ := hI.out.own
            obtain ⟨fA, fC, rfl⟩ := owns_form hrow
            obtain ⟨fn, hfn⟩ : ∃ fn, Hid (((x.opts.take k).map cutO).length = fn) := ⟨_, rfl⟩
            rw [hfn.out] at hI
            have hvar := hI.out.var
            have u0 : wr.cell? ⟨w0.heap.size, 0, none⟩ = some (.int .i64 x.meeting) := hvar.cell 0
            have u1 : wr.cell? ⟨w0.heap.size, 1, none⟩ = some (.slice pa km pc) := hvar.cell 1
            have fr2 := hvar.frozen 2
            clear hrow hys hvar
            rw [hfn.out]
            go_upto_region 15 with (fail)
            refine wp_abs (S := fun W => Hid (Ext w0 W) ∧ Hid (Blk W w0.heap.size 56 #[.int .i64 x.meeting, .slice pa km pc, .slice fA fn fC]) ∧ Hid (OptsX z W (.slice fA fn fC) (cutW x).opts)) ?_ ?_
            · have k2 := keep_set wr w0.heap.size 2 (.slice fA fn fC)
              obtain ⟨ys, hrow, hys⟩ := hI.out.own
              exact ⟨Lib.hid (hI.out.ext.setCell (p := ⟨w0.heap.size, 2, none⟩) (Nat.le_refl _) _), Lib.hid (hI.out.var.set_ 2 _), Lib.hid (by rw [← hacc.out]; exact ⟨ys, owns_base (owns_keepT hrow k2 (TX.one hI.out.var) (by decide)) (hz.trans hC.out.ext).size, hys⟩)⟩
            clear u0 u1 fr2 d2 hI
            rintro W3 ⟨hE3, hV3, hO3⟩
            have u0 : W3.cell? ⟨w0.heap.size, 0, none⟩ = some (.int .i64 x.meeting) := hV3.out.cell 0
            have u1 : W3.cell? ⟨w0.heap.size, 1, none⟩ = some (.slice pa km pc) := hV3.out.cell 1
            have u2 : W3.cell? ⟨w0.heap.size, 2, none⟩ = some (.slice fA fn fC) := hV3.out.cell 2
            have hlen : ((t.take i).map cutW).length = i := by simp; omega
            obtain ⟨xs, hrow, hxs⟩ := hC.out.own
            rw [hlen] at hrow
            obtain ⟨vA, vC, rfl⟩ := owns_form hrow
            have hC3 := hC.out.toExt hE3.out
            have o0 : W3.cell? ⟨w.heap.size + 1 + 1, 0, none⟩ = some (.slice vA i vC) := hC3.out.cell 0
            have fo := hC3.out.frozen 0
            have lw3 := hE3.out.size
            have lww := hC.out.ext.size
            have lo := hC3.out.lt
            have hrow' := Lib.hid hrow
            have hxs' := Lib.hid hxs
            have hlen' := Lib.hid hlen.symm
            clear hrow hxs hlen hC3
            go_wp2_with (at_builtin; refine wpList_append_any _ rfl (.tmp 66) (.tmp 68) _ rfl w.heap.size 56 m0 _ 3 56 Try.underlying24 hm0 mz0 mz1 mz2 rfl (by decide) (.slice vA i vC) i xs rfl ((owns_ext hrow'.out hE3.out).alloc _) (W3.heap.size + 1) (some ⟨W3.heap.size, 0, none⟩) 1 1 [.int .i64 x.meeting, .slice pa km pc, .slice fA fn fC] rfl (reads_last _ #[_, _, _] _ 3 1 _ _ (by simp) (by omega) rfl) (by simp [Value.oneCell']) (by unfold maxLen; omega) (by omega) (by rw [World.size_alloc]; omega) ?_; intro v1 w1 hown1 hg1 hat1; obtain ⟨A1, C1, rfl⟩ := owns_form hown1; have hN := Lib.hid (hC.out.push (x := cutW x) hlen'.out hrow'.out hxs'.out hP.out (hO3.out.keep (T := 26) (Keep.of_ext (X := fun _ => False) ((Ext.refl W3).alloc (.cells #[.int .i64 x.meeting, .slice pa km pc, .slice fA fn fC] 56))) (TX.no _ _) (by decide)) (hE3.out.alloc (.cells #[.int .i64 x.meeting, .slice pa km pc, .slice fA fn fC] 56)) hown1 hg1); have hb1 := ((hC.out.toExt (hE3.out.alloc (.cells #[.int .i64 x.meeting, .slice pa km pc, .slice fA fn fC] 56))).out).grown hg1 (Ne.symm (own_blk_ne hrow'.out hC.out.out (by decide))); have c1' : w1.cell? ⟨w.heap.size + 1 + 1, 0, none⟩ = some (.slice vA i vC) := hb1.cell 0; have f1' := hb1.frozen 0; clear hg1 hat1 hown1 hb1)
            go_roundw
            case rel => exact ⟨i + 1, _, by omega, by omega, by go_num, by rw [cutT_step hx.out]; exact hN⟩
            case measure => simp [intOf]; omega
      · have hd5 : decide ((i : Int) < 5) = false := by simp; omega
        have hT : Hid ((t.take i).map cutW = cutT t) := by
          show _ = (t.take 5).map cutW
          rw [show t.take i = t.take 5 by rw [List.take_eq_take_iff]; omega]
        have hlen : ((t.take i).map cutW).length = i := by simp; omega
        obtain ⟨xs, hrow, hxs⟩ := hC.out.own
        rw [hlen] at hrow
        obtain ⟨vA, vC, rfl⟩ := owns_form hrow
        have o0 : wr.cell? ⟨w.heap.size + 1 + 1, 0, none⟩ = some (.slice vA i vC) := hC.out.out.cell 0
        have r0 : wr.cell? ⟨w.heap.size + 1, 0, none⟩ = some (.slice none 0 0) := hC.out.res.cell 0
        have fr := hC.out.res.frozen 0
        clear hrow hxs
        go_wp2
        have k2 : Keep (fun g => g = w.heap.size + 1) wr (wr.setCell ⟨w.heap.size + 1, 0, none⟩ (.slice vA i vC)) := keep_set _ _ _ _
        have b2 := hC.out.res.set_ 0 (.slice vA i vC)
        have v0 : (wr.setCell ⟨w.heap.size + 1, 0, none⟩ (.slice vA i vC)).cell? ⟨w.heap.size + 1, 0, none⟩ = some (.slice vA i vC) := b2.cell 0
        have ee := hC.out.ext.keep k2 (by intro j hj h; omega)
        refine bodyPost_ret (v := .agg #[.slice vA i vC]) (by simp [results, Try.results22, go_sem, v0]) rfl ⟨_, rfl, ?_, ee⟩
        obtain ⟨xs, hr, hx⟩ := hC.out.own.keep k2 (TX.one hC.out.res) (by decide) (by decide)
        rw [← hT.out]
        exact ⟨xs, owns_base hr hz.size, hx⟩
    ·
      have hT : Hid ((t.take i).map cutW = cutT t) := by
        show _ = (t.take 5).map cutW
        rw [show t.take i = t.take 5 by rw [List.take_eq_take_iff]; omega]
      have hlen : ((t.take i).map cutW).length = i := by simp; omega
      obtain ⟨xs, hrow, hxs⟩ := hC.out.own
      rw [hlen] at hrow
      obtain ⟨vA, vC, rfl⟩ := owns_form hrow
      have o0 : wr.cell? ⟨w.heap.size + 1 + 1, 0, none⟩ = some (.slice vA i vC) := hC.out.out.cell 0
      have r0 : wr.cell? ⟨w.heap.size + 1, 0, none⟩ = some (.slice none 0 0) := hC.out.res.cell 0
      have fr := hC.out.res.frozen 0
      clear hrow hxs
      go_wp2
      have k2 : Keep (fun g => g = w.heap.size + 1) wr (wr.setCell ⟨w.heap.size + 1, 0, none⟩ (.slice vA i vC)) := keep_set _ _ _ _
      have b2 := hC.out.res.set_ 0 (.slice vA i vC)
      have v0 : (wr.setCell ⟨w.heap.size + 1, 0, none⟩ (.slice vA i vC)).cell? ⟨w.heap.size + 1, 0, none⟩ = some (.slice vA i vC) := b2.cell 0
      have ee := hC.out.ext.keep k2 (by intro j hj h; omega)
      refine bodyPost_ret (v := .agg #[.slice vA i vC]) (by simp [results, Try.results22, go_sem, v0]) rfl ⟨_, rfl, ?_, ee⟩
      obtain ⟨xs, hr, hx⟩ := hC.out.own.keep k2 (TX.one hC.out.res) (by decide) (by decide)
      rw [← hT.out]
      exact ⟨xs, owns_base hr hz.size, hx⟩
end Go.Proofs.Ytonmlmkemliefaa
