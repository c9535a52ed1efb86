/- Walk of task35. -/
import Derived.Test.YtepcdhpikpmepaaGreatTTQ
import Derived.Test.YtepcdhpikpmepaaGreatPLQ
import Derived.Test.YtepcdhpikpmepaaGreatHEQ
import Derived.Deep.Cut
import Derived.Laws.ResultCell
import Derived.ArgAppend
import Derived.Deep.Upon
import Derived.Lib.AppendZeros
namespace Go.Proofs.YtepcdhpikpmepaaGreat
open Go.RowKit Go.Shelf
attribute [local go_sem] Oper.semAt_some

theorem wishes_of_rowS {W : World} {B : Nat} {v : Value} {l : List WishD} {xs : List Value} (a : W.ownsRow B 67 3 v l.length xs) (b : WishesC W l xs) : Wishes W v l := by
 have hat := b.at_
 refine ⟨fun i => xs[i * 3 + 1]?.getD undef, fun i => xs[i * 3 + 2]?.getD undef, sl_of_owns a fun i hi j hj => ?_, fun i hi => ?_⟩
 ·obtain ⟨pv, ov, c0, c1, c2, d⟩ := hat i l[i] (List.getElem?_eq_getElem hi)
  rcases j with _ | _ | _ | j
  ·rw [Nat.add_zero, c0]; simp [hi]
  ·rw [c1]; simp [c1]
  ·rw [c2]; simp [c2]
  ·omega
 ·obtain ⟨pv, ov, c0, c1, c2, d⟩ := hat i l[i] (List.getElem?_eq_getElem hi)
  simp only [c1, c2, List.getElem?_eq_getElem hi, Option.getD_some]
  exact d

/-! ### rows of options whose spans are results of Meet -/
def OptsCR (w : World) (B : Nat) : List OptD → List Value → Prop
 | [], xs => xs = []
 | o :: r, xs => ∃ sv ys, xs = .int .i64 o.harm :: .int .i64 o.room :: sv :: ys ∧ SpansR w B sv o.spans ∧ OptsCR w B r ys
def OptsRw (w : World) (B : Nat) (v : Value) (l : List OptD) : Prop := ∃ xs, w.ownsRow B 64 3 v l.length xs ∧ OptsCR w B l xs
def WishesCR (w : World) (B : Nat) : List WishD → List Value → Prop
 | [], xs => xs = []
 | x :: r, xs => ∃ ov ys, xs = .int .i64 x.meeting :: .slice none 0 0 :: ov :: ys ∧ (x.people = [] ∧ OptsRw w B ov x.opts) ∧ WishesCR w B r ys
section
variable {w w' : World} {B B' : Nat} {v : Value} {X : Nat → Prop} {T : TypeId}
theorem SpansR.keepT {l : List (Int × Int)} (h : SpansR w B v l) (k : Keep X w w') (hX : TX w X T) (h1 : 102 ≠ T) : SpansR w' B v l := by
 rcases h with ⟨g, c, cs, rfl, hn, hc, hB, hb, hr⟩ | h
 ·refine Or.inl ⟨g, c, cs, rfl, hn, hc, hB, k.blk hb (fun hx => ?_), hr⟩
  obtain ⟨cs', hb'⟩ := hX g hx hb.lt
  exact h1 (blk_type hb hb')
 ·exact Or.inr h
theorem OptsCR.keepT (k : Keep X w w') (hX : TX w X T) (h1 : 102 ≠ T) : ∀ {l : List OptD} {xs : List Value}, OptsCR w B l xs → OptsCR w' B l xs
 | [], _, h => h
 | _ :: _, _, ⟨sv, ys, e, h2, h3⟩ => ⟨sv, ys, e, h2.keepT k hX h1, OptsCR.keepT k hX h1 h3⟩
theorem OptsRw.keepT {l : List OptD} (h : OptsRw w B v l) (k : Keep X w w') (hX : TX w X T) (h1 : 102 ≠ T) (h2 : 64 ≠ T) : OptsRw w' B v l :=
 let ⟨xs, a, b⟩ := h
 ⟨xs, owns_keepT a k hX h2, b.keepT k hX h1⟩
theorem WishesCR.keepT (k : Keep X w w') (hX : TX w X T) (h1 : 102 ≠ T) (h2 : 64 ≠ T) : ∀ {l : List WishD} {xs : List Value}, WishesCR w B l xs → WishesCR w' B l xs
 | [], _, h => h
 | _ :: _, _, ⟨ov, ys, e, h4, h5⟩ => ⟨ov, ys, e, ⟨h4.1, h4.2.keepT k hX h1 h2⟩, WishesCR.keepT k hX h1 h2 h5⟩
theorem OptsCR.ext {l : List OptD} {xs : List Value} (h : OptsCR w B l xs) (k : Ext w w') : OptsCR w' B l xs := OptsCR.keepT (T := 102 + 1) (Keep.of_ext k) (TX.no _ _) (by decide) h
theorem OptsRw.ext {l : List OptD} (h : OptsRw w B v l) (k : Ext w w') : OptsRw w' B v l := let ⟨xs, a, b⟩ := h; ⟨xs, owns_ext a k, b.ext k⟩
theorem WishesCR.ext (k : Ext w w') : ∀ {l : List WishD} {xs : List Value}, WishesCR w B l xs → WishesCR w' B l xs
 | [], _, h => h
 | _ :: _, _, ⟨ov, ys, e, h4, h5⟩ => ⟨ov, ys, e, ⟨h4.1, h4.2.ext k⟩, WishesCR.ext k h5⟩
theorem OptsCR.snoc {o : OptD} {sv : Value} (hs : SpansR w B sv o.spans) : ∀ {l : List OptD} {xs : List Value}, OptsCR w B l xs → OptsCR w B (l ++ [o]) (xs ++ [.int .i64 o.harm, .int .i64 o.room, sv])
 | [], _, h => by subst h; exact ⟨sv, [], rfl, hs, rfl⟩
 | _ :: _, _, ⟨sv', ys, e, h1, h2⟩ => ⟨sv', _, by rw [e]; rfl, h1, OptsCR.snoc hs h2⟩
theorem WishesCR.snoc {x : WishD} {ov : Value} (hp : x.people = []) (hs : OptsRw w B ov x.opts) : ∀ {l : List WishD} {xs : List Value}, WishesCR w B l xs → WishesCR w B (l ++ [x]) (xs ++ [.int .i64 x.meeting, .slice none 0 0, ov])
 | [], _, h => by subst h; exact ⟨ov, [], rfl, ⟨hp, hs⟩, rfl⟩
 | _ :: _, _, ⟨ov', ys, e, h1, h2⟩ => ⟨ov', _, by rw [e]; rfl, h1, WishesCR.snoc hp hs h2⟩
theorem OptsCR.read : ∀ {l : List OptD} {xs : List Value}, OptsCR w B l xs → OptsC w l xs
 | [], _, h => h
 | _ :: _, _, ⟨sv, ys, e, h2, h3⟩ => ⟨sv, ys, e, h2.read, OptsCR.read h3⟩
theorem OptsRw.read {l : List OptD} (h : OptsRw w B v l) : Opts w v l := by
 obtain ⟨xs, a, b⟩ := h
 have hat := b.read.at_
 refine ⟨fun i => xs[i * 3 + 2]?.getD undef, sl_of_owns a fun i hi j hj => ?_, fun i hi => ?_⟩
 ·obtain ⟨sv, a, b, c, d⟩ := hat i l[i] (List.getElem?_eq_getElem hi)
  rcases j with _ | _ | _ | j
  ·rw [Nat.add_zero, a]; simp [hi]
  ·rw [b]; simp [hi]
  ·rw [c]; simp [c]
  ·omega
 ·obtain ⟨sv, a, b, c, d⟩ := hat i l[i] (List.getElem?_eq_getElem hi)
  simp only [c, List.getElem?_eq_getElem hi, Option.getD_some]
  exact d
theorem WishesCR.read : ∀ {l : List WishD} {xs : List Value}, WishesCR w B l xs → WishesC w l xs
 | [], _, h => h
 | _ :: _, _, ⟨ov, ys, e, h4, h5⟩ => ⟨_, ov, ys, e, ⟨by rw [h4.1]; exact (IntsO.nil w 0).read, h4.2.read⟩, WishesCR.read h5⟩
end
/-! ### the task -/
def optsTo (room : Int) (sp : List (Int × Int)) : Nat → List OptD
 | 0 => [⟨0, room, sp⟩]
 | k + 1 => optsTo room sp k ++ (if (k : Int) = room then [] else [⟨3, (k : Int), sp⟩])
def optsS (room : Int) (sp : List (Int × Int)) : List OptD := optsTo room sp 3 ++ [⟨40, -1, []⟩]
def wishS (i : Nat) (x : StandD) : WishD := ⟨(i : Int) + 1, [], optsS x.room (spansS x.stream)⟩
def taskTo (l : List StandD) : Nat → List WishD
 | 0 => []
 | i + 1 => taskTo l i ++ [wishS i (l[i]?.getD default)]
def taskS (l : List StandD) : List WishD := taskTo l l.length
theorem optsTo_len (room : Int) (sp : List (Int × Int)) : ∀ k, (optsTo room sp k).length ≤ k + 1
 | 0 => Nat.le_refl _
 | k + 1 => by
  have := optsTo_len room sp k
  unfold optsTo
  split <;> simp <;> omega
theorem taskTo_len (l : List StandD) : ∀ k, (taskTo l k).length = k
 | 0 => rfl
 | k + 1 => by rw [taskTo, List.length_append, taskTo_len l k]; rfl
theorem WishesCR.ext' {w w' : World} {B : Nat} {l : List WishD} {xs : List Value} (h : WishesCR w B l xs) (k : Ext w w') : WishesCR w' B l xs := WishesCR.ext k h
structure StandOk (x : StandD) : Prop where
 stream : StreamOk x.stream
 few : x.stream.extra.length ≤ 3
 room0 : 0 ≤ x.room
 room1 : x.room ≤ 2
theorem task_results {tmps : Array Value} {w : World} {g : Nat} {x : Value} {b : Bool} (hp : tmps.getD 4 undef = .pointer (some ⟨g, 0, none⟩)) (hq : tmps.getD 5 undef = .bool b) (hb : Blk w g 28 #[x]) :
  (results Tryz.f6 tmps).run Tryz.prog w = .ok (.tuple #[.agg #[x], .bool b]) w := by
 have hp' : tmps[4]?.getD undef = .pointer (some ⟨g, 0, none⟩) := by simpa using hp
 have hq' : tmps[5]?.getD undef = .bool b := by simpa using hq
 rw [results_cell_tmp Tryz.results6]
 simp [hp', hq', asAddr, run_loadVar_row w g 28 28 #[x] (0, 0) _ hb Tryz.underlying28 rfl (by kernel_rfl), Result.andThen]
theorem OptsCR.push {u W1 W w5 : World} {B wb : Nat} {A A5 : Option Addr} {n C n5 C5 : Nat} {l : List OptD} {xs : List Value} {o : OptD} {sv v5 : Value} {cs : Array Value} {spv : Value} {sp : List (Int × Int)} (hu : Ext u W) (hlow : u.heap.size ≤ wb)
  (hx : Ext W W1) (hO : W1.ownsRow u.heap.size 64 3 (.slice A n C) n xs) (hown : w5.ownsRow u.heap.size 64 3 (.slice A5 n5 C5) n5 (xs ++ [.int .i64 o.harm, .int .i64 o.room, sv])) (hg : W1.grownBy w5 (Value.ownBlock (.slice A n C)))
  (hb : Blk W wb 67 cs) (hC : OptsCR W B l xs) (hs : SpansR W1 B sv o.spans) (hsp : SpansR W B spv sp) :
  Ext u (w5.setCell ⟨wb, 2, none⟩ v5) ∧ Blk (w5.setCell ⟨wb, 2, none⟩ v5) wb 67 (cs.setIfInBounds 2 v5) ∧ (w5.setCell ⟨wb, 2, none⟩ v5).ownsRow u.heap.size 64 3 (.slice A5 n5 C5) n5 (xs ++ [.int .i64 o.harm, .int .i64 o.room, sv]) ∧
   OptsCR (w5.setCell ⟨wb, 2, none⟩ v5) B (l ++ [o]) (xs ++ [.int .i64 o.harm, .int .i64 o.room, sv]) ∧ SpansR (w5.setCell ⟨wb, 2, none⟩ v5) B spv sp := by
 have k1 : Keep (fun g => Value.ownBlock (.slice A n C) = some g) W1 w5 := (Keep.refl _ W1).grown hg (fun g e => Or.inl e)
 have t1 := TX.row hO
 have hb1 := (Keep.of_ext (X := fun _ => False) hx).blk hb id
 have hb5 : Blk w5 wb 67 cs := hb1.grown hg (Ne.symm (own_blk_ne hO hb1 (by decide)))
 have k2 : Keep (fun g => g = wb) w5 (w5.setCell ⟨wb, 2, none⟩ v5) := keep_set _ _ _ _
 have t2 := TX.one hb5
 refine ⟨?_, hb5.set_ 2 v5, owns_keepT hown k2 t2 (by decide), ?_, ?_⟩
 ·refine ((hu.trans hx).keep k1 fun j hj hx => ?_).keep k2 fun j hj hx => ?_
  ·have := (World.ownsRow.lt hO j hx).1; omega
  ·omega
 ·exact OptsCR.snoc ((hs.keepT k1 t1 (by decide)).keepT k2 t2 (by decide)) (((hC.ext hx).keepT k1 t1 (by decide)).keepT k2 t2 (by decide))
 ·exact ((SpansR.ext hsp hx).keepT k1 t1 (by decide)).keepT k2 t2 (by decide)
theorem WishesCR.push {u W1 W w5 : World} {rb tb : Nat} {A A5 : Option Addr} {n C n5 C5 : Nat} {l : List WishD} {xs : List Value} {x : WishD} {ov v5 : Value} {cs cs' : Array Value} (hu : Ext u W) (hlow : u.heap.size ≤ tb) (hne : rb ≠ tb)
  (hx : Ext W W1) (hO : W1.ownsRow u.heap.size 67 3 (.slice A n C) n xs) (hown : w5.ownsRow u.heap.size 67 3 (.slice A5 n5 C5) n5 (xs ++ [.int .i64 x.meeting, .slice none 0 0, ov])) (hg : W1.grownBy w5 (Value.ownBlock (.slice A n C)))
  (hb : Blk W tb 28 cs) (hr : Blk W rb 28 cs') (hC : WishesCR W u.heap.size l xs) (hp : x.people = []) (hs : OptsRw W u.heap.size ov x.opts) :
  Ext u (w5.setCell ⟨tb, 0, none⟩ v5) ∧ Blk (w5.setCell ⟨tb, 0, none⟩ v5) tb 28 (cs.setIfInBounds 0 v5) ∧ Blk (w5.setCell ⟨tb, 0, none⟩ v5) rb 28 cs' ∧ (w5.setCell ⟨tb, 0, none⟩ v5).ownsRow u.heap.size 67 3 (.slice A5 n5 C5) n5 (xs ++ [.int .i64 x.meeting, .slice none 0 0, ov]) ∧
   WishesCR (w5.setCell ⟨tb, 0, none⟩ v5) u.heap.size (l ++ [x]) (xs ++ [.int .i64 x.meeting, .slice none 0 0, ov]) := by
 have k1 : Keep (fun g => Value.ownBlock (.slice A n C) = some g) W1 w5 := (Keep.refl _ W1).grown hg (fun g e => Or.inl e)
 have t1 := TX.row hO
 have hb1 := (Keep.of_ext (X := fun _ => False) hx).blk hb id
 have hr1 := (Keep.of_ext (X := fun _ => False) hx).blk hr id
 have hb5 : Blk w5 tb 28 cs := hb1.grown hg (Ne.symm (own_blk_ne hO hb1 (by decide)))
 have hr5 : Blk w5 rb 28 cs' := hr1.grown hg (Ne.symm (own_blk_ne hO hr1 (by decide)))
 have k2 : Keep (fun g => g = tb) w5 (w5.setCell ⟨tb, 0, none⟩ v5) := keep_set _ _ _ _
 have t2 := TX.one hb5
 refine ⟨?_, hb5.set_ 0 v5, k2.blk hr5 hne, owns_keepT hown k2 t2 (by decide), ?_⟩
 ·refine ((hu.trans hx).keep k1 fun j hj hx => ?_).keep k2 fun j hj hx => ?_
  ·have := (World.ownsRow.lt hO j hx).1; omega
  ·omega
 ·exact WishesCR.snoc hp ((((OptsRw.ext hs hx).keepT k1 t1 (by decide) (by decide))).keepT k2 t2 (by decide) (by decide)) (((WishesCR.ext hx hC).keepT k1 t1 (by decide) (by decide)).keepT k2 t2 (by decide) (by decide))
set_option maxHeartbeats 6400000 in
set_option maxRecDepth 100000 in
theorem task35_calls (v : Value) (l : List StandD) (w : World) (h : StandsL w v l) (hok : ∀ x ∈ l, StandOk x) (hl : l.length ≤ 4) :
  Calls Tryz.prog 6 #[v, .bool true] w fun e w' => ∃ tv, e = .returned (.tuple #[.agg #[tv], .bool true]) ∧ Wishes w' tv (taskS l) ∧ Ext w w' := by
 obtain ⟨la, lc, rfl, _, _, hat⟩ := h.open
 have hat' := Lib.hid hat
 have hok' := Lib.hid hok
 obtain ⟨j0, hj0, jz0, jz1, jz2⟩ := info_parts wish_info
 obtain ⟨k0, hk0, kz0, kz1, kz2⟩ := info_parts option_info
 clear h hat hok
 go_enter Tryz.func6, Tryz.ntmps6
 go_upto_region 2 with (fail)
 refine wp_abs (S := fun W => Hid (Ext w W) ∧ Hid (Blk W w.heap.size 28 #[.slice none 0 0]) ∧ Hid (Blk W (w.heap.size + 1) 28 #[.slice none 0 0])) ?_ ?_
 ·exact ⟨Lib.hid (by exact (by with_reducible repeat' (first | exact Ext.refl _ | assumption | refine Ext.drewN ?_ _ | refine Ext.drew ?_ | refine Ext.alloc ?_ _ | refine Ext.trans ?_ (by with_reducible assumption)))), Lib.hid (Blk.alloc (blk_new' rfl rfl) _), Lib.hid (blk_new' (by simp) rfl)⟩
 rintro W1 ⟨hE1, hR1, hT1⟩
 go_wp2_with fail
 go_loopw [7] (fun v7 wr => ∃ (i C : Nat) (A : Option Addr) (xs : List Value), i ≤ l.length ∧ v7 = .int .i64 i ∧ Hid (Ext w wr) ∧ Hid (Blk wr w.heap.size 28 #[.slice none 0 0]) ∧ Hid (Blk wr (w.heap.size + 1) 28 #[.slice A i C]) ∧ Hid (wr.ownsRow w.heap.size 67 3 (.slice A i C) i xs) ∧ Hid (WishesCR wr w.heap.size (taskTo l i) xs)) (fun v7 _ => l.length - (intOf v7).toNat)
 case atStart => exact ⟨0, 0, none, [], by omega, rfl, hE1, hR1, hT1, Lib.hid (World.ownsRow_nil _ _ _ _), Lib.hid rfl⟩
 case round =>
  clear hE1 hR1 hT1
  obtain ⟨i, tC, tA, ts, hi, rfl, hE, hR, hT, hTO, hTC⟩ := hrel
  by_cases h1 : i < l.length
  ·obtain ⟨b, o, x, ca, cc, ea, ec, rfl, hb, ex, g0, g1, g2, g3, g4, g5, g6, hcl, hin⟩ := hat'.out i h1 wr hE.out
   have hsx := hok'.out x (List.mem_of_getElem? ex.out)
   have hsp := Lib.hid (spans35_calls (.agg #[.slice ca x.stream.classes.length cc, .int .i64 x.stream.len, .slice ea x.stream.extra.length ec]) x.stream wr ⟨_, _, rfl, hcl, hin⟩ hsx.stream hsx.few)
   have hnext : Hid (taskTo l (i + 1) = taskTo l i ++ [⟨(i : Int) + 1, [], optsS x.room (spansS x.stream)⟩]) := Lib.hid (by rw [taskTo, ex.out]; rfl)
   obtain ⟨sp, hspd⟩ : ∃ sp, Hid (spansS x.stream = sp) := ⟨_, rfl⟩
   obtain ⟨room, hroom⟩ : ∃ r, Hid (x.room = r) := ⟨_, rfl⟩
   obtain ⟨n1, hn1⟩ : ∃ n, Hid (x.stream.classes.length = n) := ⟨_, rfl⟩
   obtain ⟨n2, hn2⟩ : ∃ n, Hid (x.stream.extra.length = n) := ⟨_, rfl⟩
   obtain ⟨len, hlen⟩ : ∃ n, Hid (x.stream.len = n) := ⟨_, rfl⟩
   have hr0 := hsx.room0
   have hr1 := hsx.room1
   rw [hspd.out, hroom.out] at hnext
   rw [hroom.out] at g1 hr0 hr1
   rw [hn1.out, hlen.out, hn2.out] at hsp
   rw [hn1.out] at g4
   rw [hlen.out] at g5
   rw [hn2.out] at g6
   clear g0 g2 g3 hcl hin hsx ex
   go_wp2_with fail
   refine hsp.out.mono ?_
   rintro e W2 ⟨sv, rfl, hsv, hx2⟩
   rw [hspd.out] at hsv
   obtain ⟨sa, sc, rfl⟩ := hsv.read.form
   obtain ⟨sn, hsn⟩ : ∃ sn, Hid (sp.length = sn) := ⟨_, rfl⟩
   rw [hsn.out] at hsv ⊢
   have hS2 := Lib.hid (hsv.base hE.out.size)
   have hx2' := Lib.hid hx2
   have r1 : W2.cell? ⟨b, o + i * 7 + 1, none⟩ = some (.int .i64 room) := hx2.cell g1
   have hb2 : b < W2.heap.size := Nat.lt_of_lt_of_le hb hx2.size
   have hi1 : (i : Int) + 1 ≤ 5 := by omega
   clear hsv hx2 hsp g4 g5 g6
   go_upto_region 9 with (fail)
   refine wp_abs (S := fun W => Hid (Ext wr W) ∧ Hid (Blk W (W2.heap.size + 1) 67 #[.int .i64 ((i : Int) + 1), .slice none 0 0, .slice (some ⟨W2.heap.size, 0, none⟩) 1 1]) ∧ Hid (W.ownsRow wr.heap.size 64 3 (.slice (some ⟨W2.heap.size, 0, none⟩) 1 1) 1 [.int .i64 0, .int .i64 room, .slice sa sn sc]) ∧ Hid (OptsCR W w.heap.size (optsTo room sp 0) [.int .i64 0, .int .i64 room, .slice sa sn sc]) ∧ Hid (SpansR W w.heap.size (.slice sa sn sc) sp)) ?_ ?_
   ·have hq := hx2'.out.trans (((Ext.refl W2).alloc (.cells #[.int .i64 0, .int .i64 room, .slice sa sn sc] 64)).alloc (.cells #[.int .i64 ((i : Int) + 1), .slice none 0 0, .slice (some ⟨W2.heap.size, 0, none⟩) 1 1] 67))
    have hs9 := hS2.out.ext (((Ext.refl W2).alloc (.cells #[.int .i64 0, .int .i64 room, .slice sa sn sc] 64)).alloc (.cells #[.int .i64 ((i : Int) + 1), .slice none 0 0, .slice (some ⟨W2.heap.size, 0, none⟩) 1 1] 67))
    refine ⟨Lib.hid hq, Lib.hid (blk_new' (by simp) rfl), Lib.hid ((World.ownsRow_lit (e := 64) (size := 3) W2 #[.int .i64 0, .int .i64 room, .slice sa sn sc] 1 hx2'.out.size (by unfold maxLen; omega) rfl).alloc _), Lib.hid ⟨_, [], rfl, hs9, rfl⟩, Lib.hid hs9⟩
   obtain ⟨wb, hwb⟩ : ∃ g, Hid (W2.heap.size + 1 = g) := ⟨_, rfl⟩
   rintro W3 ⟨hE3, hB3, hO3, hC3, hS3⟩
   have hWB : Hid (wr.heap.size < wb) := Lib.hid (by have := hx2'.out.size; rw [← hwb.out]; omega)
   rw [hwb.out] at hB3 ⊢
   obtain ⟨m1, hm1⟩ : ∃ m : Int, Hid ((i : Int) + 1 = m) := ⟨_, rfl⟩
   rw [hm1.out] at hB3 ⊢
   obtain ⟨g9, hg9⟩ : ∃ g, Hid (W2.heap.size = g) := ⟨_, rfl⟩
   rw [hg9.out] at hB3 hO3 ⊢
   clear hS2 hx2' r1 hb2 hi1
   go_wp2_with fail
   go_loopw [11] (fun v11 wr2 => ∃ (r n C : Nat) (A : Option Addr) (xs : List Value), r ≤ 3 ∧ v11 = .int .i64 r ∧ n ≤ r + 1 ∧ Hid (n = (optsTo room sp r).length) ∧ Hid (Ext wr wr2) ∧ Hid (Blk wr2 wb 67 #[.int .i64 m1, .slice none 0 0, .slice A n C]) ∧ Hid (wr2.ownsRow wr.heap.size 64 3 (.slice A n C) n xs) ∧ Hid (OptsCR wr2 w.heap.size (optsTo room sp r) xs) ∧ Hid (SpansR wr2 w.heap.size (.slice sa sn sc) sp)) (fun v11 _ => 3 - (intOf v11).toNat)
   case atStart => exact ⟨0, 1, 1, _, _, by omega, rfl, by omega, Lib.hid rfl, hE3, hB3, hO3, hC3, hS3⟩
   case round =>
    clear hE3 hB3 hO3 hC3 hS3
    obtain ⟨r, n, C, A, xs, hr, rfl, hnr, hn, hx, hB, hO, hC, hS⟩ := hrel
    rename World => wq
    have r1 : wq.cell? ⟨b, o + i * 7 + 1, none⟩ = some (.int .i64 room) := hx.out.cell g1
    have hb2 : b < wq.heap.size := Nat.lt_of_lt_of_le hb hx.out.size
    have hwl := hB.out.lt
    by_cases h2 : r < 3
    ·have d2 : decide ((r : Int) < 3) = true := decide_eq_true (by omega)
     have hnx : Hid (optsTo room sp (r + 1) = optsTo room sp r ++ (if (r : Int) = room then [] else [⟨3, (r : Int), sp⟩])) := Lib.hid rfl
     by_cases h3 : (r : Int) = room
     ·have d3 : ((r : Int) != room) = false := by simp [h3]
      rw [if_pos h3, List.append_nil] at hnx
      rw [← hnx.out] at hn hC
      clear h3
      go_wp2
      go_roundw
      case rel => exact ⟨r + 1, n, C, A, xs, by omega, by go_num, by omega, hn, hx, hB, hO, hC, hS⟩
      case measure => simp [intOf]; omega
     ·have d3 : ((r : Int) != room) = true := by simp [h3]
      rw [if_neg h3] at hnx
      have m2 : wq.cell? ⟨wb, 2, none⟩ = some (.slice A n C) := hB.out.cell 2
      have hszq := hx.out.size
      have hBq := Lib.hid (Blk.alloc hB.out (.cells #[.int .i64 3, .int .i64 (r : Int), .slice sa sn sc] 64))
      have hne := Lib.hid (Ne.symm (own_blk_ne hO.out hB.out (by decide)))
      clear h3
      go_wp2_with (at_builtin; go_loud (refine wpList_append_any _ rfl (.tmp 54) (.tmp 58) _ rfl wr.heap.size 64 k0 _ 3 40 Tryz.underlying65 hk0 kz0 kz1 kz2 rfl (by decide) (.slice A n C) n xs rfl (hO.out.alloc _) (wq.heap.size + 1) (some ⟨wq.heap.size, 0, none⟩) 1 1 [.int .i64 3, .int .i64 (r : Int), .slice sa sn sc] rfl (reads_last wq #[.int .i64 3, .int .i64 (r : Int), .slice sa sn sc] 64 3 1 wq.heap.size (wq.heap.size + 1) rfl (by omega) rfl) (by simp [Value.oneCell']) (by unfold maxLen; omega) (by omega) (by rw [World.size_alloc]; omega) ?_; intro v5 w5 hown5 hg5 hat5; obtain ⟨A5, C5, rfl⟩ := owns_form hown5; have hb5 : Blk w5 wb 67 #[.int .i64 m1, .slice none 0 0, .slice A n C] := hBq.out.grown hg5 hne.out; have y5 : w5.cell? ⟨wb, 2, none⟩ = some (.slice A n C) := hb5.cell 2; have f5 := hb5.frozen 2; have l5 := hb5.lt))
      obtain ⟨q1, q2, q3, q4, q5⟩ := OptsCR.push (o := ⟨3, (r : Int), sp⟩) (v5 := .slice A5 (n + 1) C5) hx.out (by have := hWB.out; omega) ((Ext.refl wq).alloc (.cells #[.int .i64 3, .int .i64 (r : Int), .slice sa sn sc] 64)) (hO.out.alloc _) hown5 hg5 hB.out hC.out (SpansR.ext hS.out ((Ext.refl wq).alloc _)) hS.out
      have q1' := Lib.hid q1
      have q2' := Lib.hid q2
      have q3' := Lib.hid q3
      have q5' := Lib.hid q5
      rw [← hnx.out] at q4
      have q4' := Lib.hid q4
      have hn' : Hid (n + 1 = (optsTo room sp (r + 1)).length) := Lib.hid (by rw [hnx.out, List.length_append, ← hn.out]; rfl)
      clear q1 q2 q3 q4 q5 hown5 hg5 hat5 hb5 hx hB hO hC hS hn hnx m2 y5 f5 l5
      first
      | (go_roundw; case rel => exact ⟨r + 1, n + 1, C5, A5, _, by omega, by go_num, by omega, hn', q1', q2', q3', q4', q5'⟩
         case measure => simp [intOf]; omega)
      | (refine ⟨⟨r + 1, n + 1, C5, A5, _, by omega, by go_num, by omega, hn', q1', q2', q3', q4', q5'⟩, ?_⟩; simp [intOf]; omega)
      | (refine ⟨?_, ?_⟩
         · ((repeat apply Exists.intro); exact ⟨⟨r + 1, n + 1, C5, A5, _, by omega, by go_num, by omega, hn', q1', q2', q3', q4', q5'⟩, rfl⟩)
         · simp [intOf]; omega)
    ·obtain rfl : r = 3 := by omega
     have d2 : decide (((3 : Nat) : Int) < 3) = false := rfl
     have m2 : wq.cell? ⟨wb, 2, none⟩ = some (.slice A n C) := hB.out.cell 2
     have hszq := hx.out.size
     have hnx : Hid (optsS room sp = optsTo room sp 3 ++ [⟨40, -1, []⟩]) := Lib.hid rfl
     have hBq := Lib.hid (Blk.alloc hB.out (.cells #[.int .i64 40, .int .i64 (-1), .slice none 0 0] 64))
     have hne := Lib.hid (Ne.symm (own_blk_ne hO.out hB.out (by decide)))
     go_upto_region 16 with (at_builtin; go_loud (refine wpList_append_any _ rfl (.tmp 63) (.tmp 65) _ rfl wr.heap.size 64 k0 _ 3 40 Tryz.underlying65 hk0 kz0 kz1 kz2 rfl (by decide) (.slice A n C) n xs rfl (hO.out.alloc _) (wq.heap.size + 1) (some ⟨wq.heap.size, 0, none⟩) 1 1 [.int .i64 40, .int .i64 (-1), .slice none 0 0] rfl (reads_last wq #[.int .i64 40, .int .i64 (-1), .slice none 0 0] 64 3 1 wq.heap.size (wq.heap.size + 1) rfl (by omega) rfl) (by simp [Value.oneCell']) (by unfold maxLen; omega) (by omega) (by rw [World.size_alloc]; omega) ?_; intro v5 w5 hown5 hg5 hat5; obtain ⟨A5, C5, rfl⟩ := owns_form hown5; have hb5 : Blk w5 wb 67 #[.int .i64 m1, .slice none 0 0, .slice A n C] := hBq.out.grown hg5 hne.out; have y5 : w5.cell? ⟨wb, 2, none⟩ = some (.slice A n C) := hb5.cell 2; have f5 := hb5.frozen 2; have l5 := hb5.lt))
     refine wp_abs (S := fun W => Hid (Ext wr W) ∧ Hid (Blk W wb 67 #[.int .i64 m1, .slice none 0 0, .slice A5 (n + 1) C5]) ∧ Hid (OptsRw W w.heap.size (.slice A5 (n + 1) C5) (optsS room sp))) ?_ ?_
     ·skip
      obtain ⟨q1, q2, q3, q4, q5⟩ := OptsCR.push (o := ⟨40, (-1), []⟩) (v5 := .slice A5 (n + 1) C5) hx.out (by have := hWB.out; omega) ((Ext.refl wq).alloc (.cells #[.int .i64 40, .int .i64 (-1), .slice none 0 0] 64)) (hO.out.alloc _) hown5 hg5 hB.out hC.out (Or.inr ⟨rfl, rfl⟩) hS.out
      refine ⟨Lib.hid q1, Lib.hid q2, Lib.hid ⟨_, ?_, by rw [hnx.out]; exact q4⟩⟩
      rw [show (optsS room sp).length = n + 1 from by rw [hnx.out, List.length_append, ← hn.out]; rfl]
      exact owns_base q3 hE.out.size
     clear hown5 hg5 hat5 hb5 hx hB hO hC hS hn m2 y5 f5 l5 hwl hszq hb2 r1
     rintro W6 ⟨hE6, hB6, hO6⟩
     have kx := Keep.of_ext (X := fun _ => False) hE6.out
     have hT6 := Lib.hid (kx.blk hT.out id)
     have hR6 := Lib.hid (kx.blk hR.out id)
     have hTO6 := Lib.hid (owns_ext hTO.out hE6.out)
     have hTC6 := Lib.hid (hTC.out.ext' hE6.out)
     have hEx6 := Lib.hid (hE.out.trans hE6.out)
     have b0 : W6.cell? ⟨wb, 0, none⟩ = some (.int .i64 m1) := hB6.out.cell 0
     have b1 : W6.cell? ⟨wb, 1, none⟩ = some (.slice none 0 0) := hB6.out.cell 1
     have b2 : W6.cell? ⟨wb, 2, none⟩ = some (.slice A5 (n + 1) C5) := hB6.out.cell 2
     have bl := hB6.out.lt
     have t0 : W6.cell? ⟨w.heap.size + 1, 0, none⟩ = some (.slice tA i tC) := hT6.out.cell 0
     have tl := hT6.out.lt
     have hTq := Lib.hid (Blk.alloc hT6.out (.cells #[.int .i64 m1, .slice none 0 0, .slice A5 (n + 1) C5] 67))
     have hne := Lib.hid (Ne.symm (own_blk_ne hTO6.out hT6.out (by decide)))
     obtain ⟨n6, hn6⟩ : ∃ k, Hid (n + 1 = k) := ⟨_, rfl⟩
     rw [hn6.out] at hO6 b2 hTq ⊢
     have hsz6 := hEx6.out.size
     have hi4 : i ≤ 4 := by omega
     clear kx hT hR hTO hTC hE hB6 hnr hr g1 hwb hg9 hroom
     go_wp2_with (at_builtin; go_loud (refine wpList_append_any _ rfl (.tmp 69) (.tmp 71) _ rfl w.heap.size 67 j0 _ 3 56 Tryz.underlying26 hj0 jz0 jz1 jz2 rfl (by decide) (.slice tA i tC) i ts rfl (hTO6.out.alloc _) (W6.heap.size + 1) (some ⟨W6.heap.size, 0, none⟩) 1 1 [.int .i64 m1, .slice none 0 0, .slice A5 n6 C5] rfl (reads_last W6 #[.int .i64 m1, .slice none 0 0, .slice A5 n6 C5] 67 3 1 W6.heap.size (W6.heap.size + 1) rfl (by omega) rfl) (by simp [Value.oneCell']) (by unfold maxLen; omega) (by omega) (by rw [World.size_alloc]; omega) ?_; intro v5 w5 hown5 hg5 hat5; obtain ⟨A7, C7, rfl⟩ := owns_form hown5; have ht5 : Blk w5 (w.heap.size + 1) 28 #[.slice tA i tC] := hTq.out.grown hg5 hne.out; have y5 : w5.cell? ⟨w.heap.size + 1, 0, none⟩ = some (.slice tA i tC) := ht5.cell 0; have f5 := ht5.frozen 0; have l5 := ht5.lt))
     obtain ⟨q1, q2, q3, q4, q5⟩ := WishesCR.push (x := ⟨m1, [], optsS room sp⟩) (v5 := .slice A7 (i + 1) C7) hEx6.out (by omega) (show w.heap.size ≠ w.heap.size + 1 by omega) ((Ext.refl W6).alloc (.cells #[.int .i64 m1, .slice none 0 0, .slice A5 n6 C5] 67)) (hTO6.out.alloc _) hown5 hg5 hT6.out hR6.out hTC6.out rfl hO6.out
     rw [hm1.out] at hnext
     rw [← hnext.out] at q5
     have q1' := Lib.hid q1
     have q2' := Lib.hid q2
     have q3' := Lib.hid q3
     have q4' := Lib.hid q4
     have q5' := Lib.hid q5
     clear q1 q2 q3 q4 q5 hown5 hg5 hat5 ht5 y5 f5 l5 hT6 hR6 hTO6 hTC6 hEx6 hE6 hO6
     first
     | (go_roundw; case rel => exact ⟨i + 1, C7, A7, _, by omega, by go_num, q1', q3', q2', q4', q5'⟩
        case measure => simp [intOf]; omega)
     | (refine ⟨⟨i + 1, C7, A7, _, by omega, by go_num, q1', q3', q2', q4', q5'⟩, ?_⟩; simp [intOf]; omega)
     | (refine ⟨?_, ?_⟩
        · ((repeat apply Exists.intro); exact ⟨⟨i + 1, C7, A7, _, by omega, by go_num, q1', q3', q2', q4', q5'⟩, rfl⟩)
        · simp [intOf]; omega)
  ·obtain rfl : i = l.length := by omega
   have t0 : wr.cell? ⟨w.heap.size + 1, 0, none⟩ = some (.slice tA l.length tC) := hT.out.cell 0
   have tl := hT.out.lt
   have r0 : wr.cell? ⟨w.heap.size, 0, none⟩ = some (.slice none 0 0) := hR.out.cell 0
   have rf := hR.out.frozen 0
   have rl := hR.out.lt
   go_wp2
   refine bodyPost_ret (task_results rfl rfl (hR.out.set_ 0 _)) rfl ?_
   have k2 := keep_set wr w.heap.size 0 (.slice tA l.length tC)
   have t2 := TX.one hR.out
   have o9 := owns_keepT hTO.out k2 t2 (by decide)
   have c9 := WishesCR.keepT k2 t2 (by decide) (by decide) hTC.out
   refine ⟨_, rfl, wishes_of_rowS (l := taskS l) (B := w.heap.size) (by rw [taskS, taskTo_len]; exact o9) (WishesCR.read c9), hE.out.keep k2 fun g hg e => by omega⟩
end Go.Proofs.YtepcdhpikpmepaaGreat
