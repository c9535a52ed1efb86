/- The law PlanMonotone, walked: true for every task that Made makes, every further option and every place. -/
import Derived.Test.YtonmlmkemliefaaMonoP
import Derived.Test.YtonmlmkemliefaaSanLaw
import Derived.Test.YtonmlmkemliefaaHE
import Derived.Deep.Cut
namespace Go.Proofs.Ytonmlmkemliefaa
open Go.RowKit

def RawV (w : World) (v : Value) (x : RawD) : Prop := ∃ sv, v = .agg #[.int .u8 x.people, sv] ∧ Octs w sv x.opts ∧ byteB x.people

theorem raws_one {W : World} {g : Nat} {sv : Value} {more : RawD} (hB : Blk W g 53 #[.int .u8 more.people, sv]) (ho : Octs W sv more.opts) (hp : byteB more.people) : Raws W (.slice (some ⟨g, 0, none⟩) 1 1) [more] := by
  refine ⟨fun _ => sv, ⟨_, _, rfl, Nat.le_refl _, by decide, fun _ => ⟨g, 0, rfl, hB.lt, fun i hi j hj => ?_⟩⟩, fun i hi => ?_⟩
  · obtain rfl : i = 0 := by simpa using hi
    rw [show 0 + 0 * 2 + j = j by omega, hB.cell]
    match j, hj with
    | 0, _ => rfl
    | 1, _ => rfl
  · obtain rfl : i = 0 := by simpa using hi
    exact ⟨ho, hp⟩
theorem WishesCO.one {W : World} {B : Nat} : ∀ {l : List WishD} {xs : List Value}, WishesCO W B l xs → ∀ u ∈ xs, u.oneCell' = true
  | [], _, h => by cases h; intro u hu; cases hu
  | x :: r, _, ⟨pv, ov, ys, e, h4, h5⟩ => by
    obtain ⟨pA, pC, rfl⟩ := h4.1.read.form
    obtain ⟨oA, oC, rfl⟩ := h4.2.read.form
    rw [e]
    intro u hu
    simp only [List.mem_cons] at hu
    rcases hu with rfl | rfl | rfl | hu
    · rfl
    · rfl
    · rfl
    · exact WishesCO.one h5 u hu
theorem WishesCO.at_ {W : World} {B : Nat} : ∀ {l : List WishD} {xs : List Value}, WishesCO W B l xs → ∀ i x, l[i]? = some x → ∃ pv ov, xs[i * 3]? = some (.int .i64 x.meeting) ∧ xs[i * 3 + 1]? = some pv ∧ xs[i * 3 + 2]? = some ov ∧ IntsO W B pv x.people ∧ OptsO W B ov x.opts
  | [], _, _, i, o, h => by simp at h
  | x :: r, _, ⟨pv, ov, ys, e, h1, h2⟩, 0, o, h => by simp at h; subst h; exact ⟨pv, ov, by rw [e]; rfl, by rw [e]; rfl, by rw [e]; rfl, h1⟩
  | x :: r, _, ⟨pv, ov, ys, e, h1, h2⟩, i + 1, o, h => by
    obtain ⟨pv', ov', a, b, c, d⟩ := WishesCO.at_ h2 i o (by simpa using h)
    have e3 : ∀ j, (i + 1) * 3 + j = (i * 3 + j) + 1 + 1 + 1 := fun j => by omega
    refine ⟨pv', ov', ?_, ?_, ?_, d⟩
    · rw [e, show (i + 1) * 3 = i * 3 + 1 + 1 + 1 by omega]; exact a
    · rw [e, e3]; exact b
    · rw [e, e3]; exact c
theorem owns_pos {W : World} {B : Nat} {e : TypeId} {size n : Nat} {v : Value} {xs : List Value} (h : W.ownsRow B e size v n xs) (hn : 0 < n) : ∃ g c, v = .slice (some ⟨g, 0, none⟩) n c := by
  rcases h.2 with ⟨_, h0⟩ | ⟨g1, c1, cur, e, _⟩
  · omega
  · exact ⟨g1, c1, e⟩
theorem OptsCO.one {W : World} {B : Nat} : ∀ {l : List OptD} {xs : List Value}, OptsCO W B l xs → ∀ u ∈ xs, u.oneCell' = true
  | [], _, h => by cases h; intro u hu; cases hu
  | x :: r, _, ⟨sv, ys, e, h4, h5⟩ => by
    obtain ⟨pA, pC, rfl⟩ := h4.read.form
    rw [e]
    intro u hu
    simp only [List.mem_cons] at hu
    rcases hu with rfl | rfl | rfl | hu
    · rfl
    · rfl
    · rfl
    · exact OptsCO.one h5 u hu
theorem opts_of_row {W : World} {B : Nat} {v : Value} {l : List OptD} {ys : List Value} (a : W.ownsRow B 59 3 v l.length ys) (b : OptsC W l ys) : Opts W v l := by
  have hat := b.at_
  refine ⟨fun i => ys[i * 3 + 2]?.getD undef, sl_of_owns a fun i hi j hj => ?_, fun i hi => ?_⟩
  · obtain ⟨sv, c0, c1, c2, d⟩ := hat i l[i] (List.getElem?_eq_getElem hi)
    rcases j with _ | _ | _ | j
    · rw [Nat.add_zero, c0]; simp [hi]
    · rw [c1]; simp [hi]
    · rw [c2]; simp [c2]
    · omega
  · obtain ⟨sv, c0, c1, c2, d⟩ := hat i l[i] (List.getElem?_eq_getElem hi)
    simp only [c2, List.getElem?_eq_getElem hi, Option.getD_some]
    exact d
theorem wishes_of_row {W : World} {B : Nat} {v : Value} {l : List WishD} {xs : List Value} (a : W.ownsRow B 56 3 v l.length xs) (b : WishesC W l xs) : Wishes W v l := by
  have hat := b.at_
  refine ⟨fun i => xs[i * 3 + 1]?.getD undef, fun i => xs[i * 3 + 2]?.getD undef, sl_of_owns a fun i hi j hj => ?_, fun i hi => ?_⟩
  · obtain ⟨pv, ov, c0, c1, c2, d⟩ := hat i l[i] (List.getElem?_eq_getElem hi)
    rcases j with _ | _ | _ | j
    · rw [Nat.add_zero, c0]; simp [hi]
    · rw [c1]; simp [c1]
    · rw [c2]; simp [c2]
    · omega
  · obtain ⟨pv, ov, c0, c1, c2, d⟩ := hat i l[i] (List.getElem?_eq_getElem hi)
    simp only [c1, c2, List.getElem?_eq_getElem hi, Option.getD_some]
    exact d
theorem WishesC.set_ {W : World} {y : WishD} {pv ov : Value} : ∀ {l : List WishD} {xs : List Value} {m : Nat}, WishesC W l xs → m < l.length → Ints W pv y.people → Opts W ov y.opts →
    WishesC W (l.set m y) (((xs.set (m * 3) (.int .i64 y.meeting)).set (m * 3 + 1) pv).set (m * 3 + 2) ov)
  | [], _, _, _, hm, _, _ => by simp at hm
  | x :: r, _, 0, ⟨pv', ov', ys, e, h1, h2⟩, _, hp, ho => by rw [e]; exact ⟨pv, ov, ys, rfl, ⟨hp, ho⟩, h2⟩
  | x :: r, _, m + 1, ⟨pv', ov', ys, e, h1, h2⟩, hm, hp, ho => by
    have ih := WishesC.set_ (m := m) h2 (by simpa using hm) hp ho
    have e3 : ∀ j, (m + 1) * 3 + j = (m * 3 + j) + 1 + 1 + 1 := fun j => by omega
    refine ⟨pv', ov', _, ?_, h1, ih⟩
    rw [e, e3 1, e3 2, show (m + 1) * 3 = m * 3 + 1 + 1 + 1 by omega]
    rfl
def fiveTree : Nat → Nat
  | 0 => 1
  | n + 1 => 1 + 5 * fiveTree n
theorem treeMax_five : ∀ (l : List WishD), (∀ x ∈ l, x.opts.length ≤ 5) → treeMax l ≤ fiveTree l.length
  | [], _ => Nat.le_refl _
  | x :: r, h => by
    have ih := treeMax_five r fun y hy => h y (List.mem_cons_of_mem _ hy)
    have := Nat.mul_le_mul (h x List.mem_cons_self) ih
    simp only [treeMax, List.length_cons, fiveTree]
    omega
theorem moreOpt_tree {t : List WishD} {m : Nat} {o : OptD} (h : ∀ x ∈ t, x.opts.length ≤ 4) (hl : t.length ≤ 4) (hm : m < t.length) : treeMax (moreOpt t m o) ≤ 65536 := by
  have h1 := treeMax_five (moreOpt t m o) fun x hx => by
    rcases List.mem_or_eq_of_mem_set hx with h4 | h4
    · have := h x h4; omega
    · subst h4
      have hx' : t[m]? = some t[m] := List.getElem?_eq_getElem hm
      have := h _ (List.getElem_mem hm)
      simp only [hx', Option.getD_some, List.length_append, List.length_cons, List.length_nil]
      omega
  have h2 : (moreOpt t m o).length ≤ 4 := by unfold moreOpt; rw [List.length_set]; exact hl
  have : ∀ n, n ≤ 4 → fiveTree n ≤ 65536 := by decide
  have := this _ h2
  omega
theorem Wishes.take {w : World} {a : Option Addr} {n c m : Nat} {l : List WishD} (h : Wishes w (.slice a n c) l) (hm : m ≤ n) : Wishes w (.slice a m c) (l.take m) := by
  obtain ⟨Pp, O, ⟨a', c', e, h1, h2, h3⟩, h4⟩ := h
  have en : n = l.length := by cases e; rfl
  cases e
  have hl : (l.take m).length = m := by simp; omega
  refine ⟨Pp, O, ⟨a, c, by rw [hl], by rw [hl]; omega, h2, fun h0 => ?_⟩, fun i hi => ?_⟩
  · obtain ⟨b, off, e1, e2, e3⟩ := h3 (by omega)
    refine ⟨b, off, e1, e2, fun i hi j hj => ?_⟩
    rw [hl] at hi
    rw [e3 i (by omega) j hj]
    simp only [List.getElem?_take_of_lt hi]
  · rw [hl] at hi
    have := h4 i (by omega)
    simpa only [List.getElem?_take_of_lt hi] using this
def MonoCon (w : World) (l : List RawD) (more : RawD) (k : Nat) (v : Value) (W : World) : Prop :=
  (k = 1 → ∃ tv, v = .agg #[tv] ∧ WishesO W w.heap.size tv (madeT l)) ∧ (k = 4 → ∃ tv, v = .agg #[tv] ∧ WishesO W w.heap.size tv (madeT [more]))

theorem MonoCon.ext {w : World} {l : List RawD} {more : RawD} {k : Nat} {v : Value} {W W' : World} (h : MonoCon w l more k v W) (e : Ext W W') : MonoCon w l more k v W' :=
  ⟨fun hk => let ⟨tv, a, b⟩ := h.1 hk; ⟨tv, a, b.ext e⟩, fun hk => let ⟨tv, a, b⟩ := h.2 hk; ⟨tv, a, b.ext e⟩⟩

set_option maxHeartbeats 3200000 in
set_option maxRecDepth 100000 in
theorem planMonotone_calls (rv : Value) (l : List RawD) (mv : Value) (more : RawD) (at_ : Int) (hat0 : 0 ≤ at_) (hat1 : at_ ≤ 255) (w : World) (h : Raws w rv l) (hmv : RawV w mv more) :
    Calls Try.prog 6 #[rv, mv, .int .u8 at_] w fun e w' => e = .returned (.bool true) ∧ Ext w w' := by
  have hraw := Lib.hid h
  have hok := Lib.hid h.ok
  obtain ⟨sv, rfl, hoc, hpb⟩ := hmv
  have hoc' := Lib.hid hoc
  obtain ⟨sa, sc, rfl, _⟩ := hoc.open
  clear h hoc
  go_enter Try.func6, Try.ntmps6
  go_upto_region 1 with (fail)
  refine wp_abs (S := fun W => Hid (Ext w W) ∧ Hid (Blk W w.heap.size 53 #[.int .u8 more.people, .slice sa more.opts.length sc])) ?_ ?_
  · exact ⟨Lib.hid (by exact (by repeat' (first | (with_reducible exact Ext.refl _) | (with_reducible assumption) | (with_reducible refine Ext.drewN ?_ _) | (with_reducible refine Ext.drew ?_) | (with_reducible refine Ext.alloc ?_ _) | (with_reducible refine Ext.trans ?_ (by with_reducible assumption))))), Lib.hid (blk_new' rfl rfl)⟩
  rintro W0 ⟨hE0, hX0⟩
  go_wp2_with fail
  refine (sanity_calls _).mono ?_
  rintro e' w1 ⟨rfl, hx1⟩
  have hx1' := Lib.hid (hE0.out.trans hx1)
  have hX1 := Lib.hid ((Keep.of_ext (X := fun _ => False) hx1).blk hX0.out id)
  have m0 : w1.cell? ⟨w.heap.size, 0, none⟩ = some (.int .u8 more.people) := hX1.out.cell 0
  have m1 : w1.cell? ⟨w.heap.size, 1, none⟩ = some (.slice sa more.opts.length sc) := hX1.out.cell 1
  clear hx1 hE0 hX0
  have hmade : Hid (∀ X, Ext w1 X → Calls Try.prog 13 #[rv] X fun e w' => ∃ tv, e = .returned (.agg #[tv]) ∧ WishesO w' X.heap.size tv (madeT l) ∧ Ext X w') := fun X hX => made_calls rv l X (hraw.out.ext (hx1'.out.trans hX))
  go_upto_region 2 with (fail)
  refine wp_region_held 7 (MonoCon w l more) (by kernel_rfl) (by kernel_rfl) ?_
  (refine held_quiet 1 0 6 (by kernel_rfl) (of_decide_eq_true (by kernel_rfl)) _ ?_; simp only [List.drop, List.take]; (repeat (go_big_quiet_step (fail))); with_reducible refine wpQuiet_nil ?_)
  (refine held_call 1 5 rfl (by kernel_rfl) 13 (#[rv]) (fun W => by kernel_rfl) rfl ?_ ?_ ?_)
  · exact fun W W' v e h => h.ext e
  · refine fun W hW _ => (made_calls rv l W (hraw.out.ext (hx1'.out.trans hW))).mono ?_
    rintro e W' ⟨tv, rfl, ht, hx⟩
    exact ⟨_, rfl, hx, fun _ => ⟨_, rfl, ht.base (hx1'.out.trans hW).size⟩, fun h => by cases h⟩
  rintro v ⟨Y, hY, hC⟩
  obtain ⟨tv, rfl, hD⟩ := hC.1 rfl
  obtain ⟨tA, tC, rfl⟩ := hD.read.form
  clear hC hD hY Y
  simp only [Act.put, List.setIfInBounds_toArray, List.set_cons_succ, List.set_cons_zero]
  have z0 := After.cell m0
  have z1 := After.cell m1
  (refine held_quiet 1 2 4 (by kernel_rfl) (of_decide_eq_true (by kernel_rfl)) _ ?_; simp only [List.drop, List.take]; (repeat (go_big_quiet_step (fail))); with_reducible refine wpQuiet_nil ?_)
  (refine held_made 3 3 rfl (by kernel_rfl) (fun g => .slice (some ⟨g, 0, none⟩) 1 1) (.cells #[.int .u8 more.people, .slice sa more.opts.length sc] 53) (fun W => by kernel_rfl) (fun g g2 e => by cases e; rfl) (fun g => rfl) ?_)
  intro g
  simp only [Act.put, List.setIfInBounds_toArray, List.set_cons_succ, List.set_cons_zero]
  (refine held_call 4 2 rfl (by kernel_rfl) 13 (#[.slice (some ⟨g, 0, none⟩) 1 1]) (fun W => by kernel_rfl) rfl ?_ ?_ ?_)
  · exact fun W W' v e h => h.ext e
  · refine fun W hW hD => ?_
    have hB : Blk W g 53 #[.int .u8 more.people, .slice sa more.opts.length sc] := ((hD 3 (dep_of 3 4 3 (by kernel_rfl))).2 rfl).1
    refine (made_calls _ [more] W ?_).mono ?_
    · exact raws_one hB (hoc'.out.ext (hx1'.out.trans hW)) hpb
    rintro e W' ⟨tv, rfl, ht, hx⟩
    exact ⟨_, rfl, hx, fun h => (by cases h), fun _ => ⟨_, rfl, ht.base (hx1'.out.trans hW).size⟩⟩
  rintro v ⟨Y, hY, hC⟩
  obtain ⟨uv, rfl, hD⟩ := hC.2 rfl
  obtain ⟨uA, uC, rfl⟩ := hD.read.form
  clear hC hD hY Y
  simp only [Act.put, List.setIfInBounds_toArray, List.set_cons_succ, List.set_cons_zero]
  (refine held_made 5 1 rfl (by kernel_rfl) (fun g => .pointer (some ⟨g, 0, none⟩)) (.cells #[.slice none 0 0] 26) (fun W => by kernel_rfl) (fun g g2 e => by cases e; rfl) (fun g => rfl) ?_)
  intro g5
  simp only [Act.put, List.setIfInBounds_toArray, List.set_cons_succ, List.set_cons_zero]
  (refine held_made 6 0 rfl (by kernel_rfl) (fun g => .pointer (some ⟨g, 0, none⟩)) (.cells #[.slice none 0 0] 26) (fun W => by kernel_rfl) (fun g g2 e => by cases e; rfl) (fun g => rfl) ?_)
  intro g6
  simp only [Act.put, List.setIfInBounds_toArray, List.set_cons_succ, List.set_cons_zero]
  intro W hW hf ht
  have hne := ht.ne' (k := 5) (l := 6) (g := g5) (g' := g6) rfl rfl (by decide)
  have h1 := (hf 1).1.1.1.1.2 rfl
  have h4 := (hf 4).1.1.2 rfl
  have h5 := (hf 5).1.2 rfl
  have h6 := (hf 6).2 rfl
  simp only [List.drop]
  obtain ⟨_, e1, hT⟩ := h1.1 rfl
  cases e1
  obtain ⟨_, e1, hU⟩ := h4.2 rfl
  cases e1
  have hT' := Lib.hid hT
  have hU' := Lib.hid hU
  have b5 : Blk W g5 26 #[.slice none 0 0] := h5.1
  have b6 : Blk W g6 26 #[.slice none 0 0] := h6.1
  have hg5 : w.heap.size ≤ g5 := Nat.le_trans hx1'.out.size h5.2
  have hg6 : w.heap.size ≤ g6 := Nat.le_trans hx1'.out.size h6.2
  have b5' := Lib.hid b5
  have b6' := Lib.hid b6
  have c5 : W.cell? ⟨g5, 0, none⟩ = some (.slice none 0 0) := b5.cell 0
  have c6 : W.cell? ⟨g6, 0, none⟩ = some (.slice none 0 0) := b6.cell 0
  have f5 := b5.frozen 0
  have f6 := b6.frozen 0
  have hne' : g6 ≠ g5 := Ne.symm hne
  have hxW := Lib.hid (hx1'.out.trans hW)
  clear hf ht h1 h4 h5 h6 hT hU z0 z1 hmade b5 b6 m0 m1
  go_upto_region 3 with (fail)
  obtain ⟨t, ht0⟩ : ∃ t, Hid (madeT l = t) := ⟨_, rfl⟩
  have hv : Hid (validT t = 0) := by rw [← ht0.out]; exact made_valid hok.out
  have hm : Hid (treeMax t ≤ 65536) := by rw [← ht0.out]; exact Nat.le_trans (made_tree hok.out) (by decide)
  have ho : Hid (∀ x ∈ t, 0 < x.opts.length ∧ x.opts.length ≤ 4 ∧ x.people.length ≤ 5 ∧ ∀ o ∈ x.opts, o.spans.length ≤ 2 ∧ o.harm ≤ 5) := by rw [← ht0.out]; exact fun x hx => made_opts hok.out hx
  have hlen : 0 < t.length ∧ t.length ≤ 4 := by rw [← ht0.out]; exact made_len
  have hokm : RawsOk [more] := by intro x hx; simp at hx; subst hx; exact ⟨hpb, hoc'.out.2⟩
  obtain ⟨tu, hu0⟩ : ∃ t, Hid (madeT [more] = t) := ⟨_, rfl⟩
  have hvu : Hid (validT tu = 0) := by rw [← hu0.out]; exact made_valid hokm
  have hou : Hid (∀ x ∈ tu, 0 < x.opts.length ∧ x.opts.length ≤ 4 ∧ x.people.length ≤ 5 ∧ ∀ o ∈ x.opts, o.spans.length ≤ 2 ∧ o.harm ≤ 5) := by rw [← hu0.out]; exact fun x hx => made_opts hokm hx
  have hlenu : 0 < tu.length ∧ tu.length ≤ 4 := by rw [← hu0.out]; exact made_len
  rw [ht0.out] at hT' ⊢
  rw [hu0.out] at hU' ⊢
  clear ht0 hu0 hokm
  refine wp_abs (S := fun V => Hid (Ext w V) ∧ Hid (WishesO V w.heap.size (.slice tA t.length tC) t) ∧ Hid (WishesO V w.heap.size (.slice uA tu.length uC) tu) ∧ Hid (Blk V g5 26 #[.slice tA t.length tC]) ∧ Hid (Blk V g6 26 #[.slice uA tu.length uC])) ?_ ?_
  · have k1 := keep_set W g5 0 (.slice tA t.length tC)
    have q5 := b5'.out.set_ 0 (.slice tA t.length tC)
    have q6 := b6'.out.far (p := ⟨g5, 0, none⟩) (fun e => hne e.symm) (.slice tA t.length tC)
    have k2 := keep_set (W.setCell ⟨g5, 0, none⟩ (.slice tA t.length tC)) g6 0 (.slice uA tu.length uC)
    have t1 := TX.one b5'.out
    have t2 := TX.one q6
    refine ⟨Lib.hid ((hxW.out.keep k1 (by rintro j hj rfl; omega)).keep k2 (by rintro j hj rfl; omega)), Lib.hid ?_, Lib.hid ?_, Lib.hid (q5.far (p := ⟨g6, 0, none⟩) hne _), Lib.hid (q6.set_ 0 _)⟩
    · exact (hT'.out.keepT k1 t1 (by decide) (by decide) (by decide) (by decide)).keepT k2 t2 (by decide) (by decide) (by decide) (by decide)
    · exact (hU'.out.keepT k1 t1 (by decide) (by decide) (by decide) (by decide)).keepT k2 t2 (by decide) (by decide) (by decide) (by decide)
  clear hT' hU' b5' b6' c5 c6 f5 f6 hxW hW hX1
  rintro V ⟨hE, hT, hU, q5, q6⟩
  have c5 : V.cell? ⟨g5, 0, none⟩ = some (.slice tA t.length tC) := q5.out.cell 0
  go_wp2_with fail
  refine (best_calls _ t _ (hT.out.read) (fun _ => hm.out)).mono ?_
  intro e' w3 hb
  rcases best_out hv.out hb with ⟨hn, rfl, hx3⟩ | ⟨pv, cv, p, q, hq, rfl, hx3, hp, hc⟩
  · have hx3' := Lib.hid (hE.out.trans hx3)
    clear hx3 hb
    go_wp2
    go_ret
    exact ⟨rfl, hx3'.out.alloc _⟩
  have hqb := bestOf_bd hv.out hq
  obtain ⟨pa, pc, rfl⟩ := hp.form
  have hq' := Lib.hid hq
  have hE3 := Lib.hid (hE.out.trans hx3)
  have hT3 := Lib.hid (hT.out.ext hx3)
  have hU3 := Lib.hid (hU.out.ext hx3)
  have q53 := Lib.hid ((Keep.of_ext (X := fun _ => False) hx3).blk q5.out id)
  have q63 := Lib.hid ((Keep.of_ext (X := fun _ => False) hx3).blk q6.out id)
  clear hE hT hU q5 q6 c5 hx3 hp hc hq hb
  have c5 : w3.cell? ⟨g5, 0, none⟩ = some (.slice tA t.length tC) := q53.out.cell 0
  go_upto_region 6 with (fail)
  obtain ⟨gp, hgp⟩ : ∃ gp, Hid (w3.heap.size = gp) := ⟨_, rfl⟩
  rw [hgp.out]
  refine wp_abs (S := fun V => Hid (Ext w V) ∧ Hid (WishesO V w.heap.size (.slice tA t.length tC) t) ∧ Hid (WishesO V w.heap.size (.slice uA tu.length uC) tu) ∧ Hid (Blk V g5 26 #[.slice tA t.length tC]) ∧ Hid (Blk V g6 26 #[.slice uA tu.length uC]) ∧ Hid (Blk V gp 30 #[.slice pa p.length pc, .int .i64 q])) ?_ ?_
  · exact ⟨Lib.hid (hE3.out.alloc _), Lib.hid (hT3.out.ext ((Ext.refl _).alloc _)), Lib.hid (hU3.out.ext ((Ext.refl _).alloc _)), Lib.hid (q53.out.alloc _), Lib.hid (q63.out.alloc _), Lib.hid (blk_new' hgp.out.symm rfl)⟩
  clear hE3 hT3 hU3 q53 q63 c5 hgp
  rintro V4 ⟨hE, hT, hU, q5, q6, qp⟩
  have c5 : V4.cell? ⟨g5, 0, none⟩ = some (.slice tA t.length tC) := q5.out.cell 0
  obtain ⟨m0, hm0, mz0, mz1, mz2⟩ := info_parts wish_info
  obtain ⟨k0, hk0, kz0, kz1, kz2⟩ := info_parts option_info
  obtain ⟨xs, hrow, hxs⟩ := hT.out
  have hone := Lib.hid hxs.one
  have hrd := Lib.hid (Reads.of_own hrow)
  have hxs' := Lib.hid hxs
  have lw4 := hE.out.size
  have l5 := q5.out.lt
  clear hrow hxs
  go_upto_region 7 with (at_builtin; refine wpList_append_any _ rfl (.tmp 40) (.tmp 42) _ rfl V4.heap.size 56 m0 _ 3 56 Try.underlying24 hm0 mz0 mz1 mz2 rfl (by decide) (.slice (some ⟨V4.heap.size, 0, none⟩) 0 0) 0 [] rfl (World.ownsRow_made V4 #[] 0 (Nat.le_refl _) (by unfold maxLen; omega) rfl) V4.heap.size tA t.length tC xs rfl (hrd.out.alloc (Nat.le_refl _) _) hone.out (by unfold maxLen; omega) (by omega) (by rw [World.size_alloc]; omega) ?_; intro v1 w5 hown1 hg1 hat1; rw [Nat.zero_add, List.nil_append] at hown1; obtain ⟨g1, c1, rfl⟩ := owns_pos hown1 hlen.1; have hE5 := Lib.hid (((Ext.refl V4).alloc (.cells #[] 56)).grown hg1 (by intro k hk; simp [Value.ownBlock] at hk; omega)); have hown5 := Lib.hid hown1; clear hown1 hg1 hat1)
  obtain ⟨gu, hgu⟩ : ∃ gu, Hid (w5.heap.size = gu) := ⟨_, rfl⟩
  rw [hgu.out]
  refine wp_abs (S := fun V => Hid (Ext V4 V) ∧ Hid (V.ownsRow V4.heap.size 56 3 (.slice (some ⟨g1, 0, none⟩) t.length c1) t.length xs) ∧ Hid (Blk V gu 26 #[.slice (some ⟨g1, 0, none⟩) t.length c1]) ∧ V4.heap.size ≤ gu) ?_ ?_
  · have e6 := hE5.out.alloc (.cells #[.slice (some ⟨g1, 0, none⟩) t.length c1] 26)
    exact ⟨Lib.hid e6, Lib.hid (hown5.out.alloc _), Lib.hid (blk_new' hgu.out.symm rfl), by rw [← hgu.out]; exact hE5.out.size⟩
  clear hown5 hgu hE5 c5 hrd hone
  rintro V6 ⟨hE6, hrow, qu, lgu⟩
  obtain ⟨m, hmod⟩ : ∃ m : Nat, at_ % (t.length : Int) = (m : Int) := ⟨(at_ % (t.length : Int)).toNat, by have := Int.emod_nonneg at_ (show (t.length : Int) ≠ 0 by omega); omega⟩
  have hmn : m < t.length := by have := Int.emod_lt_of_pos at_ (show (0 : Int) < (t.length : Int) by omega); omega
  have hx := Lib.hid (List.getElem?_eq_getElem hmn)
  have hxo := Lib.hid (ho.out _ (List.getElem_mem hmn))
  generalize t[m] = x at hx hxo
  have cu : V6.cell? ⟨gu, 0, none⟩ = some (.slice (some ⟨g1, 0, none⟩) t.length c1) := qu.out.cell 0
  have d0 := hrow.out.cellAt (m * 3) (by omega)
  have d1 := hrow.out.cellAt (m * 3 + 1) (by omega)
  have d2 := hrow.out.cellAt (m * 3 + 2) (by omega)
  obtain ⟨pv, ov, e0, e1, e2, e3⟩ := hxs'.out.at_ m x hx.out
  rw [e0] at d0
  rw [e1] at d1
  rw [e2] at d2
  obtain ⟨xa, xc, rfl⟩ := e3.1.read.form
  obtain ⟨xo, xoc, rfl⟩ := e3.2.read.form
  have e3' := Lib.hid e3
  clear e0 e1 e2 e3
  have z0 := After.cell cu
  have z1 := After.cell d0
  have z2 := After.cell d1
  have z3 := After.cell d2
  refine wp_region_held 11 (fun _ _ _ => True) (by kernel_rfl) (by kernel_rfl) ?_
  (refine held_quiet 8 0 3 (by kernel_rfl) (of_decide_eq_true (by kernel_rfl)) _ ?_; simp only [List.drop, List.take]; (repeat (go_big_quiet_step (fail))); with_reducible refine wpQuiet_nil ?_)
  rw [hmod]
  (refine held_quiet 2 8 1 (by kernel_rfl) (of_decide_eq_true (by kernel_rfl)) _ ?_; simp only [List.drop, List.take]; (repeat (go_big_quiet_step (fail))); with_reducible refine wpQuiet_nil ?_)
  (refine held_made 10 0 rfl (by kernel_rfl) (fun g => .pointer (some ⟨g, 0, none⟩)) (.cells #[.int .i64 0, .slice none 0 0, .slice none 0 0] 56) (fun W => by kernel_rfl) (fun g g2 e => by cases e; rfl) (fun g => rfl) ?_)
  intro gw
  simp only [Act.put, List.setIfInBounds_toArray, List.set_cons_succ, List.set_cons_zero]
  intro V7 hx7 hf ht
  have h7 := (hf 10).2 rfl
  have b7 : Blk V7 gw 56 #[.int .i64 0, .slice none 0 0, .slice none 0 0] := h7.1
  have hgw : V6.heap.size ≤ gw := h7.2
  have c7 : V7.cell? ⟨gw, 0, none⟩ = some (.int .i64 0) := b7.cell 0
  have c8 : V7.cell? ⟨gw, 1, none⟩ = some (.slice none 0 0) := b7.cell 1
  have c9 : V7.cell? ⟨gw, 2, none⟩ = some (.slice none 0 0) := b7.cell 2
  have f7 := b7.frozen 0
  have f8 := b7.frozen 1
  have f9 := b7.frozen 2
  have b7' := Lib.hid b7
  have hx7' := Lib.hid hx7
  clear hf ht h7 b7 z0 z1 z2 z3 cu d0 d1 d2 hx7
  simp only [List.drop]
  go_upto_region 8 with (fail)
  refine wp_abs (S := fun V => Hid (Ext V6 V) ∧ Hid (Blk V gw 56 #[.int .i64 x.meeting, .slice xa x.people.length xc, .slice xo x.opts.length xoc])) ?_ ?_
  · exact ⟨Lib.hid (((hx7'.out.setCell (p := ⟨gw, 0, none⟩) hgw _).setCell (p := ⟨gw, 1, none⟩) hgw _).setCell (p := ⟨gw, 2, none⟩) hgw _), Lib.hid (((b7'.out.set_ 0 _).set_ 1 _).set_ 2 _)⟩
  clear c7 c8 c9 f7 f8 f9 b7' hx7'
  rintro V8 ⟨hx8, b8⟩
  obtain ⟨ys, hrowo, hys⟩ := e3'.out.2
  have honeo := Lib.hid hys.one
  have hrdo := Lib.hid ((Reads.of_own hrowo).below (hE6.out.trans hx8.out))
  have hys' := Lib.hid hys
  have c9 : V8.cell? ⟨gw, 2, none⟩ = some (.slice xo x.opts.length xoc) := b8.out.cell 2
  have lw8 := hE6.out.size
  have l8 := b8.out.lt
  have s68 := hx8.out.size
  have hxl : 0 < x.opts.length ∧ x.opts.length ≤ 4 := ⟨hxo.out.1, hxo.out.2.1⟩
  clear hrowo hys
  go_upto_region 9 with (at_builtin; refine wpList_append_any _ rfl (.tmp 55) (.tmp 57) _ rfl V6.heap.size 59 k0 _ 3 40 Try.underlying54 hk0 kz0 kz1 kz2 rfl (by decide) (.slice (some ⟨V8.heap.size, 0, none⟩) 0 0) 0 [] rfl (World.ownsRow_made V8 #[] 0 s68 (by unfold maxLen; omega) rfl) V4.heap.size xo x.opts.length xoc ys rfl (hrdo.out.alloc (by omega) _) honeo.out (by unfold maxLen; omega) (by omega) (by rw [World.size_alloc]; omega) ?_; intro v1 w9 hown1 hg1 hat1; rw [Nat.zero_add, List.nil_append] at hown1; obtain ⟨g2, c2, rfl⟩ := owns_pos hown1 hxl.1; have hE9 := Lib.hid (((Ext.refl V8).alloc (.cells #[] 59)).grown hg1 (by intro k hk; simp [Value.ownBlock] at hk; omega)); have hown9 := Lib.hid hown1; have b9 := (Keep.of_ext (X := fun _ => False) hE9.out).blk b8.out id; have b9' := Lib.hid b9; have c10 : w9.cell? ⟨gw, 2, none⟩ = some (.slice xo x.opts.length xoc) := b9.cell 2; have f10 := b9.frozen 2; clear hown1 hg1 hat1 b9)
  refine wp_abs (S := fun V => Hid (Ext V6 V) ∧ Hid (Blk V gw 56 #[.int .i64 x.meeting, .slice xa x.people.length xc, .slice (some ⟨g2, 0, none⟩) x.opts.length c2]) ∧ Hid (V.ownsRow V6.heap.size 59 3 (.slice (some ⟨g2, 0, none⟩) x.opts.length c2) x.opts.length ys)) ?_ ?_
  · have k2 := keep_set w9 gw 2 (.slice (some ⟨g2, 0, none⟩) x.opts.length c2)
    exact ⟨Lib.hid ((hx8.out.trans hE9.out).setCell (p := ⟨gw, 2, none⟩) hgw _), Lib.hid (b9'.out.set_ 2 _), Lib.hid (owns_keepT hown9.out k2 (TX.one b9'.out) (by decide))⟩
  clear c9 c10 f10 b9' hown9 hE9 lw8 l8 s68 hrdo honeo hx8 b8
  rintro V9 ⟨hx9, b9, hrow9⟩
  obtain ⟨_, _, eU, _, _, hUat⟩ := hU.out.read.open
  cases eU
  obtain ⟨bu, ou, y, ya, yc, yo, yoc, rfl, hbu, _, hy, _, _, v2, _, hyo⟩ := hUat 0 hlenu.1 V4 (Ext.refl _)
  have hyu := Lib.hid (hou.out y (List.mem_of_getElem? hy.out))
  obtain ⟨_, _, eO, _, _, hOat⟩ := hyo.open
  cases eO
  have hyl : 0 < y.opts.length ∧ y.opts.length ≤ 4 := ⟨hyu.out.1, hyu.out.2.1⟩
  obtain ⟨bo, oo, o, oa, oc, rfl, hbo, _, hoo, r0, r1, r2, hos⟩ := hOat 0 hyl.1 V4 (Ext.refl _)
  have hos' := Lib.hid hos
  simp only [Nat.zero_mul, Nat.add_zero] at v2 r0 r1 r2
  have v0 : V4.cell? ⟨g6, 0, none⟩ = some (.slice (some ⟨bu, ou, none⟩) tu.length uC) := q6.out.cell 0
  have w0' := (hE6.out.trans hx9.out).cell v0
  have w2' := (hE6.out.trans hx9.out).cell v2
  have s0 := (hE6.out.trans hx9.out).cell r0
  have s1 := (hE6.out.trans hx9.out).cell r1
  have s2 := (hE6.out.trans hx9.out).cell r2
  have n2 : V9.cell? ⟨gw, 2, none⟩ = some (.slice (some ⟨g2, 0, none⟩) x.opts.length c2) := b9.out.cell 2
  have fn2 := b9.out.frozen 2
  have ln := b9.out.lt
  have lw9 := hx9.out.size
  have hv0 := Lib.hid v0
  have hv2 := Lib.hid v2
  have hr0 := Lib.hid r0
  have hr1 := Lib.hid r1
  have hr2 := Lib.hid r2
  clear hOat hUat hyo hos v0 v2 r0 r1 r2
  obtain ⟨V9', hV9⟩ : ∃ V : World, Hid (V9 = V) := ⟨_, rfl⟩
  go_cut [14] from 60 (fun p14 wx => p14 = .pointer (some ⟨gw, 0, none⟩) ∧ ∃ g3 c3 : Nat, Hid (Ext V6 wx) ∧ Hid (Blk wx gw 56 #[.int .i64 x.meeting, .slice xa x.people.length xc, .slice (some ⟨g3, 0, none⟩) (x.opts.length + 1) c3]) ∧ Hid (wx.ownsRow V6.heap.size 59 3 (.slice (some ⟨g3, 0, none⟩) (x.opts.length + 1) c3) (x.opts.length + 1) (ys ++ [.int .i64 o.harm, .int .i64 o.room, .slice oa o.spans.length oc])))
  case first =>
    go_region_law (first | (refine step_append_any _ (by rfl) (.tmp 61) (.tmp 69) _ (by rfl) V6.heap.size 59 k0 _ 3 40 Try.underlying54 hk0 kz0 kz1 kz2 (by rfl) (by decide) (.slice (some ⟨g2, 0, none⟩) x.opts.length c2) x.opts.length ys (by rfl) ((hrow9.out.drew).alloc _) (V9.heap.size + 1) (some ⟨V9.heap.size, 0, none⟩) 1 1 [.int .i64 o.harm, .int .i64 o.room, .slice oa o.spans.length oc] (by rfl) (reads_last _ #[_, _, _] _ 3 1 _ _ (by simp) (by omega) rfl) (by simp [Value.oneCell']) (by unfold maxLen; omega) (by omega) (by show _ ≤ (V9.alloc _).heap.size; rw [World.size_alloc]; omega) ?_; intro v1 w1 hown1 hg1 hat1; obtain ⟨g3, c3, rfl⟩ := owns_pos hown1 (by omega); have hE1 := Lib.hid (((hx9.out.alloc (.cells #[.int .i64 o.harm, .int .i64 o.room, .slice oa o.spans.length oc] 59)).drew).grown hg1 (by intro k hk; simp [Value.ownBlock] at hk; subst hk; exact (hrow9.out.lt g2 rfl).1)); have b10 := Lib.hid (((b9.out.alloc (.cells #[.int .i64 o.harm, .int .i64 o.room, .slice oa o.spans.length oc] 59)).drew).grown hg1 (Ne.symm (own_blk_ne hrow9.out b9.out (by decide)))); have hown10 := Lib.hid hown1; have y0 := (hE6.out.trans hE1.out).cell hv0.out; have y1 := (hE6.out.trans hE1.out).cell hv2.out; have y2 := (hE6.out.trans hE1.out).cell hr0.out; have y3 := (hE6.out.trans hE1.out).cell hr1.out; have y4 := (hE6.out.trans hE1.out).cell hr2.out; have y5 : w1.cell? ⟨gw, 2, none⟩ = some (.slice (some ⟨g2, 0, none⟩) x.opts.length c2) := b10.out.cell 2; have y6 := b10.out.frozen 2; clear hg1 hat1 hown1))
    all_goals
      go_wp2_with fail
      go_meet
      have k2 := keep_set w1 gw 2 (.slice (some ⟨g3, 0, none⟩) (x.opts.length + 1) c3)
      exact ⟨rfl, g3, c3, Lib.hid (hE1.out.setCell (p := ⟨gw, 2, none⟩) hgw _), Lib.hid (b10.out.set_ 2 _), Lib.hid (owns_keepT hown10.out k2 (TX.one b10.out) (by decide))⟩
  case rest =>
  obtain ⟨rfl, g3, c3, hx10, b10, hrow10⟩ := hcut
  have hE10 := Lib.hid (hE6.out.trans hx10.out)
  have hrow1 := Lib.hid (owns_ext hrow.out hx10.out)
  have qu1 := (Keep.of_ext (X := fun _ => False) hx10.out).blk qu.out id
  have cu1 : wc.cell? ⟨gu, 0, none⟩ = some (.slice (some ⟨g1, 0, none⟩) t.length c1) := qu1.cell 0
  have d0 := hrow1.out.cellAt (m * 3) (by omega)
  have d1 := hrow1.out.cellAt (m * 3 + 1) (by omega)
  have d2 := hrow1.out.cellAt (m * 3 + 2) (by omega)
  have e0 := hrow1.out.frozenAt (m * 3)
  have e1 := hrow1.out.frozenAt (m * 3 + 1)
  have e2 := hrow1.out.frozenAt (m * 3 + 2)
  obtain ⟨_, _, i0, i1, i2, _⟩ := hxs'.out.at_ m x hx.out
  rw [i0] at d0
  rw [i1] at d1
  rw [i2] at d2
  have z0 := After.cell cu1
  have z4 := After.cell (b10.out.cell 0)
  have z5 := After.cell (b10.out.cell 1)
  have z6 := After.cell (b10.out.cell 2)
  have qu1' := Lib.hid qu1
  clear w0' w2' s0 s1 s2 n2 fn2 ln i0 i1 i2 cu1 qu1
  obtain ⟨wc', hwc⟩ : ∃ V : World, Hid (wc = V) := ⟨_, rfl⟩
  go_upto_region 10 with (fail)
  refine wp_region_held 10 (fun _ _ _ => True) (by kernel_rfl) (by kernel_rfl) ?_
  (refine held_quiet 8 0 2 (by kernel_rfl) (of_decide_eq_true (by kernel_rfl)) _ ?_; simp only [List.drop, List.take]; (repeat (go_big_quiet_step (fail))); with_reducible refine wpQuiet_nil ?_)
  rw [hmod]
  (refine held_quiet 2 8 0 (by kernel_rfl) (of_decide_eq_true (by kernel_rfl)) _ ?_; simp only [List.drop, List.take]; (repeat (go_big_quiet_step (fail))); with_reducible refine wpQuiet_nil ?_)
  intro V10 hx hf ht
  have hrow2 := Lib.hid (owns_ext hrow1.out hx)
  replace d0 := hx.cell d0
  replace d1 := hx.cell d1
  replace d2 := hx.cell d2
  replace e0 := hrow2.out.frozenAt (m * 3)
  replace e1 := hrow2.out.frozenAt (m * 3 + 1)
  replace e2 := hrow2.out.frozenAt (m * 3 + 2)
  have qu2 := Lib.hid ((Keep.of_ext (X := fun _ => False) hx).blk qu1'.out id)
  have hE11 := Lib.hid (hE10.out.trans hx)
  have hro3 := Lib.hid (owns_ext hrow10.out hx)
  simp only [List.drop]
  clear hf ht hx z0 z4 z5 z6 hrow1 hE10
  go_upto_region 11 with (fail)
  refine wp_abs (S := fun V => Hid (Ext V4 V) ∧ Hid (Wishes V (.slice (some ⟨g1, 0, none⟩) t.length c1) (moreOpt t m o)) ∧ Hid (Blk V gu 26 #[.slice (some ⟨g1, 0, none⟩) t.length c1])) ?_ ?_
  · have hg1 : V4.heap.size ≤ g1 := (hrow2.out.lt g1 rfl).1
    have hgu1 : gu ≠ g1 := fun e => own_blk_ne hrow2.out qu2.out (by decide) (by rw [e]; rfl)
    have r1 := (hrow2.out.stored (m * 3) (.int .i64 x.meeting)).1
    have r2 := (r1.stored (m * 3 + 1) (.slice xa x.people.length xc)).1
    have r3 := (r2.stored (m * 3 + 2) (.slice (some ⟨g3, 0, none⟩) (x.opts.length + 1) c3)).1
    have ee := ((hE11.out.setCell (p := ⟨g1, m * 3, none⟩) hg1 (.int .i64 x.meeting)).setCell (p := ⟨g1, m * 3 + 1, none⟩) hg1 (.slice xa x.people.length xc)).setCell (p := ⟨g1, m * 3 + 2, none⟩) hg1 (.slice (some ⟨g3, 0, none⟩) (x.opts.length + 1) c3)
    have kk := ((Keep.refl (fun g => g = g1) V10).setCell (p := ⟨g1, m * 3, none⟩) (Or.inl rfl) (.int .i64 x.meeting)).setCell (p := ⟨g1, m * 3 + 1, none⟩) (Or.inl rfl) (.slice xa x.people.length xc) |>.setCell (p := ⟨g1, m * 3 + 2, none⟩) (Or.inl rfl) (.slice (some ⟨g3, 0, none⟩) (x.opts.length + 1) c3)
    have ho3 := owns_keepT hro3.out kk (T := 56) (by rintro _ rfl _; exact owns_block hrow2.out rfl) (by decide)
    have bu' := ((qu2.out.far (p := ⟨g1, m * 3, none⟩) hgu1 (.int .i64 x.meeting)).far (p := ⟨g1, m * 3 + 1, none⟩) hgu1 (.slice xa x.people.length xc)).far (p := ⟨g1, m * 3 + 2, none⟩) hgu1 (.slice (some ⟨g3, 0, none⟩) (x.opts.length + 1) c3)
    refine ⟨Lib.hid ee, Lib.hid ?_, Lib.hid bu'⟩
    have hO : Opts _ (.slice (some ⟨g3, 0, none⟩) (x.opts.length + 1) c3) (x.opts ++ [o]) := opts_of_row (by rw [List.length_append]; exact ho3) (OptsC.snoc (hos'.out.ext ee) (hys'.out.read.ext ee))
    have hP : Ints _ (.slice xa x.people.length xc) x.people := e3'.out.1.read.ext ee
    have := wishes_of_row (l := t.set m { x with opts := x.opts ++ [o] }) (by rw [List.length_set]; exact r3) (WishesC.set_ (y := { x with opts := x.opts ++ [o] }) ((WishesCO.read hxs'.out).ext ee) hmn hP hO)
    unfold moreOpt
    rw [hx.out]
    exact this
  clear d0 d1 d2 e0 e1 e2 hrow2 qu2 hE11 hro3 hrow10 hx10 b10
  rintro V11 ⟨hE11, hW11, q11⟩
  have hmo : o ∈ y.opts := List.mem_of_getElem? hoo.out
  have hoy : o.spans.length ≤ 64 := by have := (hyu.out.2.2.2 o hmo).1; omega
  have hook : optOkB o = true := by
    have := (validT_ok hvu.out).2.1 y (List.mem_of_getElem? hy.out)
    simp only [wishOkB, Bool.and_eq_true, List.all_eq_true] at this
    exact this.2 o hmo
  have h16 : ∀ x ∈ t, x.opts.length ≤ 15 := fun x hx => by have := (ho.out x hx).2.1; omega
  obtain ⟨p2, q2, hb2, hle2⟩ := moreOpt_best hv.out hmn hook hoy h16 hq'.out
  have hv2' := Lib.hid (moreOpt_valid hv.out hmn hook hoy h16)
  have hm2 := Lib.hid (moreOpt_tree (o := o) (fun x hx => (ho.out x hx).2.1) hlen.2 hmn)
  have hb2' := Lib.hid hb2
  clear hb2 h16 hook
  have lenu : (moreOpt t m o).length = t.length := by unfold moreOpt; rw [List.length_set]
  have cu : V11.cell? ⟨gu, 0, none⟩ = some (.slice (some ⟨g1, 0, none⟩) t.length c1) := q11.out.cell 0
  go_wp2_with fail
  refine (best_calls _ (moreOpt t m o) _ hW11.out (fun _ => hm2.out)).mono ?_
  intro e' w12 hb
  rcases best_out hv2'.out hb with ⟨hn, _, _⟩ | ⟨pv2, cv2, p2', q2', hq2, rfl, hx12, hp2, _⟩
  · have := hb2'.out
    rw [bestOf, hn] at this
    cases this
  obtain ⟨rfl, rfl⟩ : p2' = p2 ∧ q2' = q2 := by have := hq2.symm.trans hb2'.out; cases this; exact ⟨rfl, rfl⟩
  obtain ⟨pa2, pc2, rfl⟩ := hp2.form
  have hE12 := Lib.hid (hE11.out.trans hx12)
  have cp : w12.cell? ⟨gp, 1, none⟩ = some (.int .i64 q) := hE12.out.cell (qp.out.cell 1)
  have c5 : w12.cell? ⟨g5, 0, none⟩ = some (.slice tA t.length tC) := hE12.out.cell (q5.out.cell 0)
  have lgp : gp < w12.heap.size := Nat.lt_of_lt_of_le qp.out.lt hE12.out.size
  have lg5 : g5 < w12.heap.size := Nat.lt_of_lt_of_le q5.out.lt hE12.out.size
  have hd2 : decide (q < q2') = false := by simp; omega
  clear hb hq2 hx12 hp2 cu lenu
  by_cases h1 : t.length = 1
  · have h1' : ((t.length : Int) == 1) = true := by rw [h1]; rfl
    clear h1
    go_wp2
    go_ret
    exact ⟨rfl, (hE.out.trans hE12.out).alloc _⟩
  have h1' : ((t.length : Int) == 1) = false := by rw [beq_eq_false_iff_ne]; omega
  obtain ⟨k, hk⟩ : ∃ k : Nat, t.length = k + 1 := ⟨t.length - 1, by omega⟩
  obtain ⟨p3, q3, hb3, hle3⟩ := take_best (n := k) hv.out (by omega) hq'.out
  have hv3 := Lib.hid (take_valid (n := k) hv.out (by omega))
  have hb3' := Lib.hid hb3
  have hm3 : Hid (treeMax (t.take k) ≤ 65536) := Nat.le_trans (tree_four (fun x hx => (ho.out x (List.mem_of_mem_take hx)).2.1) (by simp; omega)) (by decide)
  have hT3 := Lib.hid ((hT.out.read.ext hE12.out).take (m := k) (by omega))
  have hi1 : ((t.length : Int) - 1) = (k : Int) := by omega
  obtain ⟨_, _, eT, hcap, hcap2, _⟩ := hT.out.read.open
  cases eT
  have hkc : k ≤ tC := by omega
  have hkt : k ≤ t.length := by omega
  have hk' := Lib.hid hk
  have hlen3 : (t.take k).length = k := by simp; omega
  have hle3' : decide (q3 ≤ q) = true := by simp; omega
  clear hb3 h1 hk
  go_wp2_with fail
  refine (best_calls _ (t.take k) _ (hT3.out.ext (by exact (by repeat' (first | (with_reducible exact Ext.refl _) | (with_reducible assumption) | (with_reducible refine Ext.drewN ?_ _) | (with_reducible refine Ext.drew ?_) | (with_reducible refine Ext.alloc ?_ _) | (with_reducible refine Ext.trans ?_ (by with_reducible assumption)))))) (fun _ => hm3.out)).mono ?_
  intro e' w13 hb
  rcases best_out hv3.out hb with ⟨hn, _, _⟩ | ⟨pv2, cv2, p3', q3', hq3, rfl, hx13, hp3, _⟩
  · have := hb3'.out
    rw [bestOf, hn] at this
    cases this
  obtain ⟨rfl, rfl⟩ : p3' = p3 ∧ q3' = q3 := by have := hq3.symm.trans hb3'.out; cases this; exact ⟨rfl, rfl⟩
  obtain ⟨pa3, pc3, rfl⟩ := hp3.form
  have hE13 := Lib.hid ((hE12.out.alloc (.cells #[.slice pa2 p2'.length pc2, .int .i64 q2'] 30)).trans hx13)
  have cp : w13.cell? ⟨gp, 1, none⟩ = some (.int .i64 q) := hE13.out.cell (qp.out.cell 1)
  have lgp : gp < w13.heap.size := Nat.lt_of_lt_of_le qp.out.lt hE13.out.size
  clear hb hq3 hx13 hp3 hlen3
  go_wp2
  go_ret
  exact ⟨rfl, (hE.out.trans hE13.out).alloc _⟩
end Go.Proofs.Ytonmlmkemliefaa
