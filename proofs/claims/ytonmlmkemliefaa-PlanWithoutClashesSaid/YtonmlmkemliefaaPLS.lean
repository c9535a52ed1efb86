/- The reference's maker of tasks once more: the rows of the options of two wishes lie apart. -/
import Derived.Test.YtonmlmkemliefaaPL
namespace Go.Proofs.Ytonmlmkemliefaa
open Go.RowKit

def optBlock (xs : List Value) (i : Nat) : Option Nat := (xs[i * 3 + 2]?).bind Value.ownBlock
/-- the rows of options lie apart -/
def OptSep (xs : List Value) : Prop := ∀ i j g, i < j → optBlock xs i = some g → optBlock xs j ≠ some g
def WishesS (w : World) (B : Nat) (v : Value) (l : List WishD) : Prop := ∃ xs, w.ownsRow B 56 3 v l.length xs ∧ WishesCO w B l xs ∧ OptSep xs
section
variable {w w' : World} {B : Nat} {v : Value}
theorem WishesS.toO {l : List WishD} (h : WishesS w B v l) : WishesO w B v l := let ⟨xs, a, b, _⟩ := h; ⟨xs, a, b⟩
theorem WishesS.nil (w : World) (B : Nat) : WishesS w B (.slice none 0 0) [] := ⟨[], World.ownsRow_nil _ _ _ _, rfl, fun i j g _ h => by simp [optBlock] at h⟩
theorem WishesS.keepT {X : Nat → Prop} {T : TypeId} {l : List WishD} (h : WishesS w B v l) (k : Keep X w w') (hX : TX w X T) (h1 : 79 ≠ T) (h2 : 59 ≠ T) (h3 : 3 ≠ T) (h4 : 56 ≠ T) : WishesS w' B v l :=
  let ⟨xs, a, b, c⟩ := h
  ⟨xs, owns_keepT a k hX h4, b.keepT k hX h1 h2 h3, c⟩
theorem WishesS.ext {l : List WishD} (h : WishesS w B v l) (k : Ext w w') : WishesS w' B v l := let ⟨xs, a, b, c⟩ := h; ⟨xs, owns_ext a k, WishesCO.ext k b, c⟩
theorem OptsO.ge {l : List OptD} (h : OptsO w B v l) {g : Nat} (hg : v.ownBlock = some g) : B ≤ g ∧ g < w.heap.size := let ⟨_, a, _⟩ := h; World.ownsRow.lt a g hg
theorem WishesCO.len : ∀ {l : List WishD} {xs : List Value}, WishesCO w B l xs → xs.length = l.length * 3
  | [], _, h => by cases h; rfl
  | _ :: _, _, ⟨_, _, _, e, _, h⟩ => by rw [e]; have := WishesCO.len h; simp; omega
theorem WishesCO.atO : ∀ {l : List WishD} {xs : List Value}, WishesCO w B l xs → ∀ i x, l[i]? = some x → ∃ pv ov, xs[i * 3]? = some (.int .i64 x.meeting) ∧ xs[i * 3 + 1]? = some pv ∧ xs[i * 3 + 2]? = some ov ∧ IntsO w B pv x.people ∧ OptsO w B ov x.opts
  | [], _, _, i, o, h => by simp at h
  | x :: r, _, ⟨pv, ov, ys, e, h1, h2⟩, 0, o, h => by simp at h; subst h; exact ⟨pv, ov, by rw [e]; rfl, by rw [e]; rfl, by rw [e]; rfl, h1⟩
  | x :: r, _, ⟨pv, ov, ys, e, h1, h2⟩, i + 1, o, h => by
    obtain ⟨pv', ov', a, b, c, d⟩ := WishesCO.atO h2 i o (by simpa using h)
    have e3 : ∀ j, (i + 1) * 3 + j = (i * 3 + j) + 1 + 1 + 1 := fun j => by omega
    refine ⟨pv', ov', ?_, ?_, ?_, d⟩
    · rw [e, show (i + 1) * 3 = i * 3 + 1 + 1 + 1 by omega]; exact a
    · rw [e, e3]; exact b
    · rw [e, e3]; exact c
theorem WishesCO.optLt {l : List WishD} {xs : List Value} (h : WishesCO w B l xs) {i g : Nat} (hg : optBlock xs i = some g) : g < w.heap.size := by
  unfold optBlock at hg
  have hl := h.len
  by_cases hi : i < l.length
  · obtain ⟨_, ov, _, _, e, _, ho⟩ := h.atO i _ (List.getElem?_eq_getElem hi)
    rw [e] at hg
    exact (ho.ge (by simpa using hg)).2
  · rw [List.getElem?_eq_none (by omega)] at hg
    cases hg
theorem OptSep.snoc {l : List WishD} {xs : List Value} {a b ov : Value} (hs : OptSep xs) (h : WishesCO w B l xs) (hov : ∀ g, ov.ownBlock = some g → w.heap.size ≤ g) : OptSep (xs ++ [a, b, ov]) := by
  have hl := h.len
  have low : ∀ i, i < l.length → optBlock (xs ++ [a, b, ov]) i = optBlock xs i := fun i hi => by
    unfold optBlock; rw [List.getElem?_append_left (by omega)]
  have at_ : optBlock (xs ++ [a, b, ov]) l.length = ov.ownBlock := by
    unfold optBlock; rw [List.getElem?_append_right (by omega), show l.length * 3 + 2 - xs.length = 2 by omega]; rfl
  have high : ∀ i, l.length < i → optBlock (xs ++ [a, b, ov]) i = none := fun i hi => by
    unfold optBlock; rw [List.getElem?_eq_none (by simp; omega)]; rfl
  intro i j g hij hi hj
  rcases Nat.lt_trichotomy j l.length with h1 | h1 | h1
  · rw [low i (by omega)] at hi; rw [low j h1] at hj; exact hs i j g hij hi hj
  · subst h1
    rw [low i hij] at hi
    rw [at_] at hj
    have := h.optLt hi
    have := hov g hj
    omega
  · rw [high j h1] at hj; cases hj
end
/-- the state of Made between two wishes -/
structure MadeS (w W : World) (l : List RawD) (i : Nat) (v : Value) (acc : List WishD) : Prop where
  ext : Ext w W
  res : Blk W w.heap.size 26 #[.slice none 0 0]
  task : Blk W (w.heap.size + 1) 26 #[v]
  own : WishesS W w.heap.size v acc
  len : acc.length = i
  go : acc ++ madeFrom i (l.drop i) = madeFrom 0 l
/-- the wish is done: appended -/
theorem MadeS.wish {w w0 W w1 : World} {l : List RawD} {i : Nat} {v : Value} {acc : List WishD} {x : RawD} {pv ov v1 : Value} {n : Nat} {xs : List Value}
    (hM : MadeS w w0 l i v acc) (hx : l.drop i = x :: l.drop (i + 1)) (hi : i < 4) (e : Ext w0 W) (hp : IntsO W w.heap.size pv (wishT i x).people) (ho : OptsO W w.heap.size ov (wishT i x).opts)
    (hn : n = acc.length) (hxs : WishesCO w0 w.heap.size acc xs) (hrow : w0.ownsRow w.heap.size 56 3 v n xs)
    (hsep : OptSep xs) (hov : ∀ g, ov.ownBlock = some g → w0.heap.size ≤ g) (hown : w1.ownsRow w.heap.size 56 3 v1 (n + 1) (xs ++ [.int .i64 (10 + (i : Int)), pv, ov])) (hg : W.grownBy w1 v.ownBlock) :
    MadeS w (w1.setCell ⟨w.heap.size + 1, 0, none⟩ v1) l (i + 1) v1 (acc ++ [wishT i x]) := by
  have k0 : Keep (fun _ => False) w0 W := Keep.of_ext e
  have hrow1 := owns_ext hrow e
  have t1 := TX.row hrow1
  have k1 : Keep (fun g => v.ownBlock = some g) W w1 := (Keep.refl _ W).grown hg (fun g e => Or.inl e)
  have b0 := (k0.blk hM.res id).grown hg (Ne.symm (own_blk_ne hrow hM.res (by decide)))
  have b1 := (k0.blk hM.task id).grown hg (Ne.symm (own_blk_ne hrow hM.task (by decide)))
  have k2 : Keep (fun g => g = w.heap.size + 1) w1 (w1.setCell ⟨w.heap.size + 1, 0, none⟩ v1) := keep_set _ _ _ _
  have t2 := TX.one b1
  refine ⟨?_, b0.far (by dsimp only; omega) _, b1.set_ 0 v1, ?_, by rw [List.length_append, hM.len]; rfl, ?_⟩
  · refine ((hM.ext.trans e).keep k1 fun j hj hx => ?_).keep k2 fun j hj hx => ?_
    · have := (World.ownsRow.lt hrow1 j hx).1; omega
    · omega
  · have c1 := WishesCO.snoc (x := wishT i x) ⟨(hp.keepT k1 t1 (by decide)).keepT k2 t2 (by decide), (ho.keepT k1 t1 (by decide) (by decide)).keepT k2 t2 (by decide) (by decide)⟩
      (WishesCO.keepT k2 t2 (by decide) (by decide) (by decide) (WishesCO.keepT k1 t1 (by decide) (by decide) (by decide) (WishesCO.ext e hxs)))
    refine ⟨_, ?_, c1, hsep.snoc hxs hov⟩
    have := owns_keepT hown k2 t2 (by decide)
    rw [List.length_append, ← hn]
    exact this
  · have := hM.go
    rw [hx, madeFrom_step hi] at this
    rw [← this]
    simp
set_option maxHeartbeats 3200000 in
set_option maxRecDepth 100000 in
theorem madeS_calls (rv : Value) (l : List RawD) (w : World) (h : Raws w rv l) :
    Calls Try.prog 13 #[rv] w fun e w' => ∃ tv, e = .returned (.agg #[tv]) ∧ WishesS w' w.heap.size tv (madeT l) ∧ Ext w w' := by
  obtain ⟨ra, rc, rfl, hn, hc, hat⟩ := h.open
  obtain ⟨j0, hj0, jz0, jz1, jz2⟩ := info_parts int_info
  obtain ⟨k0, hk0, kz0, kz1, kz2⟩ := info_parts option_info
  obtain ⟨m0, hm0, mz0, mz1, mz2⟩ := info_parts wish_info
  have hat' := Lib.hid hat
  clear h hat
  go_enter Try.func13, Try.ntmps13
  go_wp2_with fail
  go_loopw [4] (fun vi wr => ∃ (i : Nat) (v : Value) (acc : List WishD), i ≤ 4 ∧ i ≤ l.length ∧ vi = .int .i64 i ∧ Hid (MadeS w wr l i v acc)) (fun vi _ => 4 - (intOf vi).toNat)
  case atStart =>
    refine ⟨0, .slice none 0 0, [], by omega, by omega, rfl, Lib.hid ⟨by exact (by repeat' (first | (with_reducible exact Ext.refl _) | (with_reducible assumption) | (with_reducible refine Ext.drewN ?_ _) | (with_reducible refine Ext.drew ?_) | (with_reducible refine Ext.alloc ?_ _) | (with_reducible refine Ext.trans ?_ (by with_reducible assumption)))), ?_, ?_, WishesS.nil _ _, rfl, by simp⟩⟩
    · exact (blk_new' rfl rfl).alloc _
    · exact blk_new' (by simp only [World.size_alloc]) rfl
  case round =>
    obtain ⟨i, v, acc, hi4, hil, rfl, hM⟩ := hrel
    by_cases h1 : i < l.length
    · by_cases h2 : i < 4
      · obtain ⟨b1, o1, x, sa, sc, rfl, hb1, dx, ex, hbyte, g0, g1, go⟩ := hat'.out i h1 wr hM.out.ext
        have go' := Lib.hid go
        clear go
        have hd4 : decide ((i : Int) < 4) = true := by simp; omega
        obtain ⟨w0, hw0⟩ : ∃ w0 : World, Hid (wr = w0) := ⟨_, rfl⟩
        rw [hw0.out] at hM g0 g1 go' hb1
        go_wp2_with fail
        rw [hw0.out]
        clear hw0
        refine wp_abs (S := fun W => Hid (WishAt w0 W i x (.slice none 0 0) (.slice none 0 0) 0 0)) ?_ ?_
        · refine Lib.hid ⟨by exact (by repeat' (first | (with_reducible exact Ext.refl _) | (with_reducible assumption) | (with_reducible refine Ext.drewN ?_ _) | (with_reducible refine Ext.drew ?_) | (with_reducible refine Ext.alloc ?_ _) | (with_reducible refine Ext.trans ?_ (by with_reducible assumption)))), blk_new' rfl rfl, IntsO.nil _ _, by simpa using OptsO.nil _ _⟩
        intro W0 hW0
        go_loopw [6] (fun vp wp => ∃ (p : Nat) (pv : Value), p ≤ 5 ∧ vp = .int .i64 p ∧ Hid (WishAt w0 wp i x pv (.slice none 0 0) p 0)) (fun vp _ => 5 - (intOf vp).toNat)
        case atStart => exact ⟨0, _, by omega, rfl, hW0⟩
        case round =>
          clear hW0
          obtain ⟨p, pv, hp5, rfl, hP⟩ := hrel
          by_cases hp : p < 5
          · have g0p := hP.out.ext.cell g0
            have lw := hP.out.ext.size
            have hlen := peopleTo_len x.people p
            cases hb : bitB x.people p with
            | false =>
              have htest := (bit_walk hbyte.out.1 p).trans hb
              have hN := Lib.hid (hP.out.noPerson hb)
              clear hb
              go_wp2_with fail
              go_roundw
              case rel => exact ⟨p + 1, pv, by omega, by go_num, hN⟩
              case measure => simp [intOf]; omega
            | true =>
              have htest := (bit_walk hbyte.out.1 p).trans hb
              have hown0 := hP.out.people
              obtain ⟨pA, pC, rfl⟩ := owns_form hown0
              have c1 : wr.cell? ⟨w0.heap.size, 1, none⟩ = some (.slice pA (peopleTo x.people p).length pC) := hP.out.var.cell 1
              obtain ⟨pn, hpn⟩ : ∃ n, Hid ((peopleTo x.people p).length = n) := ⟨_, rfl⟩
              have hb' := Lib.hid hb
              rw [hpn.out] at c1 hlen
              unfold IntsO at hown0
              rw [hpn.out] at hP hown0
              have hown' := Lib.hid hown0
              clear hb hown0
              go_wp2_with (at_builtin; refine wpList_append_any _ rfl (.tmp 36) (.tmp 38) _ rfl w0.heap.size 3 j0 _ 1 8 Try.underlying28 hj0 jz0 jz1 jz2 rfl (by decide) (.slice pA pn pC) pn _ rfl (hown'.out.alloc _) (wr.heap.size + 1) (some ⟨wr.heap.size, 0, none⟩) 1 1 [.int .i64 p] rfl (reads_last _ #[_] _ 1 1 _ _ (by simp) (by omega) rfl) (one_int _) (by unfold maxLen; omega) (by omega) (by simp; omega) ?_; intro v1 w1 hown1 hg1 hat1; obtain ⟨A1, C1, rfl⟩ := owns_form hown1; have hE := (Ext.refl wr).alloc (.cells #[.int .i64 p] 3); have hv1 := hP.out.varPeople hE hg1; have c1' : w1.cell? ⟨w0.heap.size, 1, none⟩ = some (.slice pA pn pC) := hv1.cell 1; have f1' := hv1.frozen 1; have hN := Lib.hid (hP.out.person hb'.out hE hpn.out.symm hown1 hg1); clear hg1 hat1 hown1 hE hv1)
              go_roundw
              case rel => exact ⟨p + 1, _, by omega, by go_num, hN⟩
              case measure => simp [intOf]; omega
          · have hpe : Hid (p = 5) := by show _ = _; omega
            rw [hpe.out] at hP
            obtain ⟨w2, hw2⟩ : ∃ w2 : World, Hid (wr = w2) := ⟨_, rfl⟩
            rw [hw2.out] at hP
            go_wp2_with fail
            rw [hw2.out]
            clear hw2 hp5
            go_loopw [7] (fun vk wp => ∃ (k : Nat) (ov : Value), k ≤ 4 ∧ k ≤ x.opts.length ∧ vk = .int .i64 k ∧ Hid (WishAt w0 wp i x pv ov 5 k)) (fun vk _ => 4 - (intOf vk).toNat)
            case atStart => exact ⟨0, _, by omega, by omega, rfl, hP⟩
            case round =>
              clear hP
              obtain ⟨k, ov, hk4, hkl, rfl, hP⟩ := hrel
              have g1p := hP.out.ext.cell g1
              by_cases q1 : k < x.opts.length
              · by_cases q2 : k < 4
                · have hdk : decide ((k : Int) < 4) = true := by simp; omega
                  obtain ⟨sa', sc', e, _, _, goat⟩ := go'.out.open
                  cases e
                  obtain ⟨b3, o3, y, rfl, hb3, dy, ey, hok, t0, t1, t2, t3⟩ := goat k q1 w0 (Ext.refl _)
                  have s0 := hP.out.ext.cell t0
                  have s1 := hP.out.ext.cell t1
                  have s2 := hP.out.ext.cell t2
                  have s3 := hP.out.ext.cell t3
                  clear goat
                  obtain ⟨xs, hrow, hxs⟩ := hP.out.opts
                  obtain ⟨oA, oC, rfl⟩ := owns_form hrow
                  have hlen : ((x.opts.take k).map optT).length = k := by simp; omega
                  rw [hlen] at hrow hP
                  have hlen' := Lib.hid hlen.symm
                  have hrow' := Lib.hid hrow
                  have hxs' := Lib.hid hxs
                  have c2 : wr.cell? ⟨w0.heap.size, 2, none⟩ = some (.slice oA k oC) := hP.out.var.cell 2
                  have hopt : Hid (∀ W, Calls Try.prog 34 #[.agg #[.int .u8 y.a, .int .u8 y.b, .int .u8 y.c, .int .u8 y.d]] W fun e w' => ∃ sv, e = .returned (.agg #[.int .i64 (optT y).harm, .int .i64 (optT y).room, sv]) ∧ SpansO w' W.heap.size sv (optT y).spans ∧ Ext W w') := fun W => option_calls y hok.out W
                  have z1 : (0 : Int) ≤ (k : Int) := by omega
                  have z2 : (k : Int) < (x.opts.length : Int) := by omega
                  have z3 : (0 : Int) ≤ (i : Int) := by omega
                  have z4 : (i : Int) < (l.length : Int) := by omega
                  have lw := hP.out.ext.size
                  clear hlen hrow hxs
                  go_wp2_with fail
                  go_region_law (first | (refine step_append_any _ (by rfl) (.tmp 56) (.tmp 66) _ (by rfl) w0.heap.size 59 k0 _ 3 40 Try.underlying54 hk0 kz0 kz1 kz2 (by rfl) (by decide) (.slice oA k oC) k xs (by rfl) ((owns_ext hrow'.out (((Ext.refl wr).drew).trans hx4)).alloc _) (w4.heap.size + 1) (some ⟨w4.heap.size, 0, none⟩) 1 1 [.int .i64 (optT y).harm, .int .i64 (optT y).room, sv] (by rfl) (reads_last _ #[_, _, _] _ 3 1 _ _ (by simp) (by omega) rfl) (opt_one hsv) (by unfold maxLen; omega) (by omega) (by rw [World.size_alloc]; omega) ?_; intro v1 w1 hown1 hg1 hat1; obtain ⟨A1, C1, rfl⟩ := owns_form hown1; have hE := (((Ext.refl wr).drew).trans hx4).alloc (.cells #[.int .i64 (optT y).harm, .int .i64 (optT y).room, sv] 59); have hv1 := hP.out.varOpts hE hg1; have c1' : w1.cell? ⟨w0.heap.size, 2, none⟩ = some (.slice oA k oC) := hv1.cell 2; have f1' := hv1.frozen 2) | (go_simp; go_at_call 34; refine (hopt.out _).mono ?_; rintro e w4 ⟨sv, rfl, hsv, hx4⟩; have hs4 : wr.heap.size ≤ w4.heap.size := hx4.size; have c2' := hx4.cell c2; have c2a : (w4.alloc (.cells #[.int .i64 (optT y).harm, .int .i64 (optT y).room, sv] 59)).cell? ⟨w0.heap.size, 2, none⟩ = some (.slice oA k oC) := Ext.cell ((Ext.refl w4).alloc _) c2'))
                  all_goals
                    have hN := Lib.hid (hP.out.option ey.out hE hlen'.out hxs'.out ((hsv.base lw).ext ((Ext.refl w4).alloc _)) hrow'.out hown1 hg1)
                    clear hown1 hg1 hat1 hE hv1 c1' f1' c2a c2' hsv hx4
                    go_wp2
                    go_roundw
                    case rel => exact ⟨k + 1, _, by omega, by omega, by go_num, hN⟩
                    case measure => simp [intOf]; omega
                · have hke : Hid (k = 4) := by show _ = _; omega
                  have hdk : decide ((k : Int) < 4) = false := by simp; omega
                  have hkb : ((k : Int) == 0) = false := by simp; omega
                  have hopts : Hid ((x.opts.take k).map optT = (wishT i x).opts) := by
                    show _ = _
                    simp only [wishT]
                    rw [if_neg (by omega)]
                    rw [hke.out]
                  obtain ⟨oA, oC, rfl⟩ := owns_form (Classical.choose_spec hP.out.opts).1
                  have hlen : ((x.opts.take k).map optT).length = k := by simp; omega
                  rw [hlen] at hP
                  obtain ⟨pA, pC, rfl⟩ := owns_form hP.out.people
                  have hvar := hP.out.var
                  obtain ⟨pn, hpn⟩ : ∃ n, Hid ((peopleTo x.people 5).length = n) := ⟨_, rfl⟩
                  rw [hpn.out] at hvar hP
                  have u0 : wr.cell? ⟨w0.heap.size, 0, none⟩ = some (.int .i64 (10 + (i : Int))) := hvar.cell 0
                  have u1 : wr.cell? ⟨w0.heap.size, 1, none⟩ = some (.slice pA pn pC) := hvar.cell 1
                  have u2 : wr.cell? ⟨w0.heap.size, 2, none⟩ = some (.slice oA k oC) := hvar.cell 2
                  have fr2 := hvar.frozen 2
                  obtain ⟨xs, hrow, hxs, hsep⟩ := hM.out.own
                  rw [hM.out.len] at hrow
                  obtain ⟨vA, vC, rfl⟩ := owns_form hrow
                  have lw0 := hM.out.ext.size
                  have lw := hP.out.ext.size
                  have t0 : w0.cell? ⟨w.heap.size + 1, 0, none⟩ = some (.slice vA i vC) := hM.out.task.cell 0
                  have t0' : wr.cell? ⟨w.heap.size + 1, 0, none⟩ = some (.slice vA i vC) := hP.out.ext.cell t0
                  have hrow' := Lib.hid hrow
                  have hxs' := Lib.hid hxs
                  have hsep' := Lib.hid hsep
                  have hov' : Hid (∀ g, Value.ownBlock (.slice oA k oC) = some g → w0.heap.size ≤ g) := Lib.hid fun g hg => (hP.out.opts.ge hg).1
                  clear hrow hxs hlen hvar t0 hsep
                  go_wp2_with (at_builtin; refine wpList_append_any _ rfl (.tmp 80) (.tmp 82) _ rfl w.heap.size 56 m0 _ 3 56 Try.underlying24 hm0 mz0 mz1 mz2 rfl (by decide) (.slice vA i vC) i xs rfl ((owns_ext hrow'.out hP.out.ext).alloc _) (wr.heap.size + 1) (some ⟨wr.heap.size, 0, none⟩) 1 1 [.int .i64 (10 + (i : Int)), .slice pA pn pC, .slice oA k oC] rfl (reads_last _ #[_, _, _] _ 3 1 _ _ (by simp) (by omega) rfl) (by simp [Value.oneCell']) (by unfold maxLen; omega) (by omega) (by rw [World.size_alloc]; omega) ?_; intro v1 w1 hown1 hg1 hat1; obtain ⟨A1, C1, rfl⟩ := owns_form hown1; have hE := hP.out.ext.alloc (.cells #[.int .i64 (10 + (i : Int)), .slice pA pn pC, .slice oA k oC] 56); have hE1 := (Ext.refl wr).alloc (.cells #[.int .i64 (10 + (i : Int)), .slice pA pn pC, .slice oA k oC] 56); have hN := Lib.hid (hM.out.wish dx.out h2 hE ((hP.out.people.base lw0).ext hE1) (by rw [← hopts.out]; exact ((hP.out.opts.base lw0).ext hE1)) hM.out.len.symm hxs'.out hrow'.out hsep'.out hov'.out hown1 hg1); have hb1 := (Blk.alloc ((Keep.of_ext (X := fun _ => False) hP.out.ext).blk hM.out.task id) (.cells #[.int .i64 (10 + (i : Int)), .slice pA pn pC, .slice oA k oC] 56)).grown hg1 (Ne.symm (own_blk_ne hrow'.out hM.out.task (by decide))); have c1' : w1.cell? ⟨w.heap.size + 1, 0, none⟩ = some (.slice vA i vC) := hb1.cell 0; have f1' := hb1.frozen 0; clear hg1 hat1 hown1 hE hE1 hb1)
                  go_roundw
                  case rel => exact ⟨i + 1, _, _, by omega, by omega, by go_num, hN⟩
                  case measure => simp [intOf]; omega
              · have hke : Hid (k = x.opts.length) := by show _ = _; omega
                by_cases hk0 : k = 0
                · have hkb : ((k : Int) == 0) = true := by simp; omega
                  have hi0 : 0 ≤ (i : Int) := by omega
                  have hi1 : (i : Int) ≤ 3 := by omega
                  have hopts : Hid ((wishT i x).opts = [optT ⟨0, 1, i, 3⟩]) := by
                    show _ = _
                    simp only [wishT]
                    rw [if_pos (by omega)]
                  have hok : OctOk ⟨0, 1, i, 3⟩ := by constructor <;> constructor <;> dsimp only <;> omega
                  have hopt : Hid (∀ W, Calls Try.prog 34 #[.agg #[.int .u8 0, .int .u8 1, .int .u8 i, .int .u8 3]] W fun e w' => ∃ sv, e = .returned (.agg #[.int .i64 (optT ⟨0, 1, i, 3⟩).harm, .int .i64 (optT ⟨0, 1, i, 3⟩).room, sv]) ∧ SpansO w' W.heap.size sv (optT ⟨0, 1, i, 3⟩).spans ∧ Ext W w') := fun W => option_calls ⟨0, 1, i, 3⟩ hok W
                  obtain ⟨oA, oC, rfl⟩ := owns_form (Classical.choose_spec hP.out.opts).1
                  have hlen : ((x.opts.take k).map optT).length = k := by simp; omega
                  rw [hlen] at hP
                  obtain ⟨pA, pC, rfl⟩ := owns_form hP.out.people
                  have hvar := hP.out.var
                  obtain ⟨pn, hpn⟩ : ∃ n, Hid ((peopleTo x.people 5).length = n) := ⟨_, rfl⟩
                  rw [hpn.out] at hvar hP
                  have u0 : wr.cell? ⟨w0.heap.size, 0, none⟩ = some (.int .i64 (10 + (i : Int))) := hvar.cell 0
                  have u1 : wr.cell? ⟨w0.heap.size, 1, none⟩ = some (.slice pA pn pC) := hvar.cell 1
                  have u2 : wr.cell? ⟨w0.heap.size, 2, none⟩ = some (.slice oA k oC) := hvar.cell 2
                  have fr2 := hvar.frozen 2
                  obtain ⟨xs, hrow, hxs, hsep⟩ := hM.out.own
                  rw [hM.out.len] at hrow
                  obtain ⟨vA, vC, rfl⟩ := owns_form hrow
                  have lw0 := hM.out.ext.size
                  have lw := hP.out.ext.size
                  have t0 : w0.cell? ⟨w.heap.size + 1, 0, none⟩ = some (.slice vA i vC) := hM.out.task.cell 0
                  have t0' : wr.cell? ⟨w.heap.size + 1, 0, none⟩ = some (.slice vA i vC) := hP.out.ext.cell t0
                  have hrow' := Lib.hid hrow
                  have hxs' := Lib.hid hxs
                  have hsep' := Lib.hid hsep
                  have hov' : Hid (∀ g, Value.ownBlock (.slice oA k oC) = some g → w0.heap.size ≤ g) := Lib.hid fun g hg => (hP.out.opts.ge hg).1
                  clear hrow hxs hlen hvar t0 hsep
                  generalize optT ⟨0, 1, i, 3⟩ = ot at hopt hopts
                  go_wp2_with fail
                  refine (hopt.out _).mono ?_
                  rintro e w4 ⟨sv, rfl, hsv, hx4⟩
                  have hx4' := Lib.hid hx4
                  have hsv' := Lib.hid hsv
                  have hv4 := (Keep.of_ext (X := fun _ => False) hx4).blk hP.out.var id
                  have u2 : w4.cell? ⟨w0.heap.size, 2, none⟩ = some (.slice oA k oC) := hv4.cell 2
                  have fr2 := hv4.frozen 2
                  have lw4 := hx4.size
                  have ltv4 := hv4.lt
                  clear hx4 hsv
                  go_upto_region 17 with (fail)
                  refine wp_abs (S := fun W => Hid (Ext w0 W) ∧ Blk W w0.heap.size 56 #[.int .i64 (10 + (i : Int)), .slice pA pn pC, .slice (some ⟨w4.heap.size, 0, none⟩) 1 1] ∧ OptsO W w.heap.size (.slice (some ⟨w4.heap.size, 0, none⟩) 1 1) [ot] ∧ IntsO W w.heap.size (.slice pA pn pC) (peopleTo x.people 5)) ?_ ?_
                  · have k2 : Keep (fun g => g = w0.heap.size) w4 (w4.setCell ⟨w0.heap.size, 2, none⟩ (.slice (some ⟨w4.heap.size, 0, none⟩) 1 1)) := keep_set _ _ _ _
                    have hv5 := hv4.set_ 2 (.slice (some ⟨w4.heap.size, 0, none⟩) 1 1)
                    have hl := World.ownsRow_lit (base := w.heap.size) (e := 59) (size := 3) (w4.setCell ⟨w0.heap.size, 2, none⟩ (.slice (some ⟨w4.heap.size, 0, none⟩) 1 1)) #[.int .i64 ot.harm, .int .i64 ot.room, sv] 1 (by rw [World.size_setCell]; omega) (by decide) rfl
                    rw [World.size_setCell] at hl
                    have hs5 := ((hsv'.out.base (show w.heap.size ≤ wr.heap.size by omega)).keepT k2 (TX.one hv4) (by decide)).ext ((Ext.refl _).alloc (.cells #[.int .i64 ot.harm, .int .i64 ot.room, sv] 59))
                    refine ⟨Lib.hid (((hP.out.ext.trans hx4'.out).keep k2 (by intro j hj h; omega)).alloc _), hv5.alloc _, ⟨_, hl, sv, [], rfl, hs5, rfl⟩, ?_⟩
                    exact (((hP.out.people.base lw0).ext hx4'.out).keepT k2 (TX.one hv4) (by decide)).ext ((Ext.refl _).alloc _)
                  clear hx4' hsv' hv4 u0 u1 u2 fr2 t0'
                  rintro W5 ⟨hx5, hv5, ho5, hp5⟩
                  have u0 : W5.cell? ⟨w0.heap.size, 0, none⟩ = some (.int .i64 (10 + (i : Int))) := hv5.cell 0
                  have u1 : W5.cell? ⟨w0.heap.size, 1, none⟩ = some (.slice pA pn pC) := hv5.cell 1
                  have u2 : W5.cell? ⟨w0.heap.size, 2, none⟩ = some (.slice (some ⟨w4.heap.size, 0, none⟩) 1 1) := hv5.cell 2
                  have t0' : W5.cell? ⟨w.heap.size + 1, 0, none⟩ = some (.slice vA i vC) := hx5.out.cell (hM.out.task.cell 0)
                  have lw5 := hx5.out.size
                  have ho' := Lib.hid ho5
                  have hp' := Lib.hid hp5
                  have hov' : Hid (∀ g, Value.ownBlock (.slice (some ⟨w4.heap.size, 0, none⟩) 1 1) = some g → w0.heap.size ≤ g) := Lib.hid fun g hg => (by simp [Value.ownBlock] at hg; omega)
                  clear hv5 ho5 hp5
                  go_wp2_with (at_builtin; refine wpList_append_any _ rfl (.tmp 80) (.tmp 82) _ rfl w.heap.size 56 m0 _ 3 56 Try.underlying24 hm0 mz0 mz1 mz2 rfl (by decide) (.slice vA i vC) i xs rfl ((owns_ext hrow'.out hx5.out).alloc _) (W5.heap.size + 1) (some ⟨W5.heap.size, 0, none⟩) 1 1 [.int .i64 (10 + (i : Int)), .slice pA pn pC, .slice (some ⟨w4.heap.size, 0, none⟩) 1 1] rfl (reads_last _ #[_, _, _] _ 3 1 _ _ (by simp) (by omega) rfl) (by simp [Value.oneCell']) (by unfold maxLen; omega) (by omega) (by rw [World.size_alloc]; omega) ?_; intro v1 w1 hown1 hg1 hat1; obtain ⟨A1, C1, rfl⟩ := owns_form hown1; have hE := hx5.out.alloc (.cells #[.int .i64 (10 + (i : Int)), .slice pA pn pC, .slice (some ⟨w4.heap.size, 0, none⟩) 1 1] 56); have hE1 := (Ext.refl W5).alloc (.cells #[.int .i64 (10 + (i : Int)), .slice pA pn pC, .slice (some ⟨w4.heap.size, 0, none⟩) 1 1] 56); have hN := Lib.hid (hM.out.wish dx.out h2 hE (hp'.out.ext hE1) (by rw [hopts.out]; exact ho'.out.ext hE1) hM.out.len.symm hxs'.out hrow'.out hsep'.out hov'.out hown1 hg1); have hb1 := (Blk.alloc ((Keep.of_ext (X := fun _ => False) hx5.out).blk hM.out.task id) (.cells #[.int .i64 (10 + (i : Int)), .slice pA pn pC, .slice (some ⟨w4.heap.size, 0, none⟩) 1 1] 56)).grown hg1 (Ne.symm (own_blk_ne hrow'.out hM.out.task (by decide))); have c1' : w1.cell? ⟨w.heap.size + 1, 0, none⟩ = some (.slice vA i vC) := hb1.cell 0; have f1' := hb1.frozen 0; clear hg1 hat1 hown1 hE hE1 hb1)
                  go_roundw
                  case rel => exact ⟨i + 1, _, _, by omega, by omega, by go_num, hN⟩
                  case measure => simp [intOf]; omega
                ·
                  have hkb : ((k : Int) == 0) = false := by simp; omega
                  have hopts : Hid ((x.opts.take k).map optT = (wishT i x).opts) := by
                    show _ = _
                    simp only [wishT]
                    rw [if_neg (by omega)]
                    rw [List.take_of_length_le (by omega), List.take_of_length_le (by omega)]
                  obtain ⟨oA, oC, rfl⟩ := owns_form (Classical.choose_spec hP.out.opts).1
                  have hlen : ((x.opts.take k).map optT).length = k := by simp; omega
                  rw [hlen] at hP
                  obtain ⟨pA, pC, rfl⟩ := owns_form hP.out.people
                  have hvar := hP.out.var
                  obtain ⟨pn, hpn⟩ : ∃ n, Hid ((peopleTo x.people 5).length = n) := ⟨_, rfl⟩
                  rw [hpn.out] at hvar hP
                  have u0 : wr.cell? ⟨w0.heap.size, 0, none⟩ = some (.int .i64 (10 + (i : Int))) := hvar.cell 0
                  have u1 : wr.cell? ⟨w0.heap.size, 1, none⟩ = some (.slice pA pn pC) := hvar.cell 1
                  have u2 : wr.cell? ⟨w0.heap.size, 2, none⟩ = some (.slice oA k oC) := hvar.cell 2
                  have fr2 := hvar.frozen 2
                  obtain ⟨xs, hrow, hxs, hsep⟩ := hM.out.own
                  rw [hM.out.len] at hrow
                  obtain ⟨vA, vC, rfl⟩ := owns_form hrow
                  have lw0 := hM.out.ext.size
                  have lw := hP.out.ext.size
                  have t0 : w0.cell? ⟨w.heap.size + 1, 0, none⟩ = some (.slice vA i vC) := hM.out.task.cell 0
                  have t0' : wr.cell? ⟨w.heap.size + 1, 0, none⟩ = some (.slice vA i vC) := hP.out.ext.cell t0
                  have hrow' := Lib.hid hrow
                  have hxs' := Lib.hid hxs
                  have hsep' := Lib.hid hsep
                  have hov' : Hid (∀ g, Value.ownBlock (.slice oA k oC) = some g → w0.heap.size ≤ g) := Lib.hid fun g hg => (hP.out.opts.ge hg).1
                  clear hrow hxs hlen hvar t0 hsep
                  go_wp2_with (at_builtin; refine wpList_append_any _ rfl (.tmp 80) (.tmp 82) _ rfl w.heap.size 56 m0 _ 3 56 Try.underlying24 hm0 mz0 mz1 mz2 rfl (by decide) (.slice vA i vC) i xs rfl ((owns_ext hrow'.out hP.out.ext).alloc _) (wr.heap.size + 1) (some ⟨wr.heap.size, 0, none⟩) 1 1 [.int .i64 (10 + (i : Int)), .slice pA pn pC, .slice oA k oC] rfl (reads_last _ #[_, _, _] _ 3 1 _ _ (by simp) (by omega) rfl) (by simp [Value.oneCell']) (by unfold maxLen; omega) (by omega) (by rw [World.size_alloc]; omega) ?_; intro v1 w1 hown1 hg1 hat1; obtain ⟨A1, C1, rfl⟩ := owns_form hown1; have hE := hP.out.ext.alloc (.cells #[.int .i64 (10 + (i : Int)), .slice pA pn pC, .slice oA k oC] 56); have hE1 := (Ext.refl wr).alloc (.cells #[.int .i64 (10 + (i : Int)), .slice pA pn pC, .slice oA k oC] 56); have hN := Lib.hid (hM.out.wish dx.out h2 hE ((hP.out.people.base lw0).ext hE1) (by rw [← hopts.out]; exact ((hP.out.opts.base lw0).ext hE1)) hM.out.len.symm hxs'.out hrow'.out hsep'.out hov'.out hown1 hg1); have hb1 := (Blk.alloc ((Keep.of_ext (X := fun _ => False) hP.out.ext).blk hM.out.task id) (.cells #[.int .i64 (10 + (i : Int)), .slice pA pn pC, .slice oA k oC] 56)).grown hg1 (Ne.symm (own_blk_ne hrow'.out hM.out.task (by decide))); have c1' : w1.cell? ⟨w.heap.size + 1, 0, none⟩ = some (.slice vA i vC) := hb1.cell 0; have f1' := hb1.frozen 0; clear hg1 hat1 hown1 hE hE1 hb1)
                  go_roundw
                  case rel => exact ⟨i + 1, _, _, by omega, by omega, by go_num, hN⟩
                  case measure => simp [intOf]; omega
      · have hd4 : decide ((i : Int) < 4) = false := by simp; omega
        have hT : Hid (acc = madeT l) := by
          show _ = _
          have := hM.out.go
          rw [madeFrom_stop h2, List.append_nil] at this
          rw [this, madeT, if_neg (by omega)]
        have hz : ((i : Int) == 0) = false := by simp; omega
        obtain ⟨vA, vC, rfl⟩ := owns_form (Classical.choose_spec hM.out.own).1
        have hres := hM.out.res
        have htask := hM.out.task
        rw [hM.out.len] at htask
        have t0 : wr.cell? ⟨w.heap.size + 1, 0, none⟩ = some (.slice vA i vC) := htask.cell 0
        have r0 : wr.cell? ⟨w.heap.size, 0, none⟩ = some (.slice none 0 0) := hres.cell 0
        have f0 := hres.frozen 0
        have hres' := Lib.hid hres
        clear hres htask
        go_wp2
        have k2 : Keep (fun g => g = w.heap.size) wr (wr.setCell ⟨w.heap.size, 0, none⟩ (.slice vA i vC)) := keep_set _ _ _ _
        have b2 := hres'.out.set_ 0 (.slice vA i vC)
        have v0 : (wr.setCell ⟨w.heap.size, 0, none⟩ (.slice vA i vC)).cell? ⟨w.heap.size, 0, none⟩ = some (.slice vA i vC) := b2.cell 0
        refine bodyPost_ret (v := .agg #[.slice vA i vC]) (by simp [results, Try.results13, go_sem, v0]) rfl ⟨_, rfl, ?_, hM.out.ext.keep k2 (by intro j hj h; omega)⟩
        rw [← hT.out, ← hM.out.len]
        have := hM.out.own
        rw [hM.out.len] at this
        rw [hM.out.len]
        exact this.keepT k2 (TX.one hres'.out) (by decide) (by decide) (by decide) (by decide)
    · by_cases h0 : l.length = 0
      · have hT : Hid (madeT l = [⟨1, [], [⟨0, 0, []⟩]⟩]) := by show _ = _; rw [madeT, if_pos h0]
        have hz : ((i : Int) == 0) = true := by simp; omega
        obtain ⟨vA, vC, rfl⟩ := owns_form (Classical.choose_spec hM.out.own).1
        have hres := hM.out.res
        have htask := hM.out.task
        rw [hM.out.len] at htask
        have t0 : wr.cell? ⟨w.heap.size + 1, 0, none⟩ = some (.slice vA i vC) := htask.cell 0
        have r0 : wr.cell? ⟨w.heap.size, 0, none⟩ = some (.slice none 0 0) := hres.cell 0
        have f0 := hres.frozen 0
        have f1 := htask.frozen 0
        have lt1 := htask.lt
        have lt0 := hres.lt
        have hres' := Lib.hid hres
        have htask' := Lib.hid htask
        have hx' := Lib.hid hM.out.ext
        clear hres htask hM
        go_wp2
        have b1 := (hres'.out.far (p := ⟨w.heap.size + 1, 0, none⟩) (by dsimp only; omega) (.slice (some ⟨wr.heap.size + 1, 0, none⟩) 1 1)).set_ 0 (.slice (some ⟨wr.heap.size + 1, 0, none⟩) 1 1)
        have kk := ((Keep.refl (fun g => g = w.heap.size + 1 ∨ g = w.heap.size) wr).setCell (p := ⟨w.heap.size + 1, 0, none⟩) (Or.inl (Or.inl rfl)) (.slice (some ⟨wr.heap.size + 1, 0, none⟩) 1 1)).setCell (p := ⟨w.heap.size, 0, none⟩) (Or.inl (Or.inr rfl)) (.slice (some ⟨wr.heap.size + 1, 0, none⟩) 1 1)
        have hsz : ((wr.setCell ⟨w.heap.size + 1, 0, none⟩ (.slice (some ⟨wr.heap.size + 1, 0, none⟩) 1 1)).setCell ⟨w.heap.size, 0, none⟩ (.slice (some ⟨wr.heap.size + 1, 0, none⟩) 1 1)).heap.size = wr.heap.size := by rw [World.size_setCell, World.size_setCell]
        have hext := hx'.out.keep kk (by intro j hj h; omega)
        generalize ((wr.setCell ⟨w.heap.size + 1, 0, none⟩ (.slice (some ⟨wr.heap.size + 1, 0, none⟩) 1 1)).setCell ⟨w.heap.size, 0, none⟩ (.slice (some ⟨wr.heap.size + 1, 0, none⟩) 1 1)) = s at b1 kk hsz hext ⊢
        have hl1 := World.ownsRow_lit (base := w.heap.size) (e := 59) (size := 3) s #[.int .i64 0, .int .i64 0, .slice none 0 0] 1 (by omega) (by decide) rfl
        have hl2 := World.ownsRow_lit (base := w.heap.size) (e := 56) (size := 3) (s.alloc (.cells #[.int .i64 0, .int .i64 0, .slice none 0 0] 59)) #[.int .i64 1, .slice none 0 0, .slice (some ⟨wr.heap.size, 0, none⟩) 1 1] 1 (by rw [World.size_alloc]; omega) (by decide) rfl
        rw [World.size_alloc] at hl2
        rw [hsz] at hl1 hl2
        have b2 := (b1.alloc (.cells #[.int .i64 0, .int .i64 0, .slice none 0 0] 59)).alloc (.cells #[.int .i64 1, .slice none 0 0, .slice (some ⟨wr.heap.size, 0, none⟩) 1 1] 56)
        have v0 := b2.cell 0
        simp only [List.getElem?_toArray, Array.getElem?_setIfInBounds, List.getElem?_cons_zero] at v0
        refine bodyPost_ret (v := .agg #[.slice (some ⟨wr.heap.size + 1, 0, none⟩) 1 1]) (by simp [results, Try.results13, go_sem, v0]) rfl ⟨_, rfl, ?_, (hext.alloc _).alloc _⟩
        rw [hT.out]
        exact ⟨_, hl2, ⟨.slice none 0 0, .slice (some ⟨wr.heap.size, 0, none⟩) 1 1, [], rfl, ⟨IntsO.nil _ _, ⟨_, hl1.alloc _, .slice none 0 0, [], rfl, SpansO.nil _ _, rfl⟩⟩, rfl⟩, fun i j g hij hi hj => (by have : optBlock [.int .i64 1, .slice none 0 0, .slice (some ⟨wr.heap.size, 0, none⟩) 1 1] j = none := (by unfold optBlock; rw [List.getElem?_eq_none (by simp; omega)]; rfl); rw [show (#[Value.int .i64 1, .slice none 0 0, .slice (some ⟨wr.heap.size, 0, none⟩) 1 1] : Array Value).toList = [.int .i64 1, .slice none 0 0, .slice (some ⟨wr.heap.size, 0, none⟩) 1 1] from rfl, this] at hj; cases hj)⟩
      ·
        have hT : Hid (acc = madeT l) := by
          show _ = _
          have := hM.out.go
          rw [List.drop_of_length_le (by omega), madeFrom, List.append_nil] at this
          rw [this, madeT, if_neg (by omega)]
        have hz : ((i : Int) == 0) = false := by simp; omega
        obtain ⟨vA, vC, rfl⟩ := owns_form (Classical.choose_spec hM.out.own).1
        have hres := hM.out.res
        have htask := hM.out.task
        rw [hM.out.len] at htask
        have t0 : wr.cell? ⟨w.heap.size + 1, 0, none⟩ = some (.slice vA i vC) := htask.cell 0
        have r0 : wr.cell? ⟨w.heap.size, 0, none⟩ = some (.slice none 0 0) := hres.cell 0
        have f0 := hres.frozen 0
        have hres' := Lib.hid hres
        clear hres htask
        go_wp2
        have k2 : Keep (fun g => g = w.heap.size) wr (wr.setCell ⟨w.heap.size, 0, none⟩ (.slice vA i vC)) := keep_set _ _ _ _
        have b2 := hres'.out.set_ 0 (.slice vA i vC)
        have v0 : (wr.setCell ⟨w.heap.size, 0, none⟩ (.slice vA i vC)).cell? ⟨w.heap.size, 0, none⟩ = some (.slice vA i vC) := b2.cell 0
        refine bodyPost_ret (v := .agg #[.slice vA i vC]) (by simp [results, Try.results13, go_sem, v0]) rfl ⟨_, rfl, ?_, hM.out.ext.keep k2 (by intro j hj h; omega)⟩
        rw [← hT.out, ← hM.out.len]
        have := hM.out.own
        rw [hM.out.len] at this
        rw [hM.out.len]
        exact this.keepT k2 (TX.one hres'.out) (by decide) (by decide) (by decide) (by decide)
end Go.Proofs.Ytonmlmkemliefaa
