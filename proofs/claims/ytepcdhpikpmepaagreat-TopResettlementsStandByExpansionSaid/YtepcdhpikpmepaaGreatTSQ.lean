/- Walk of the reference's MadeStand. -/
import Derived.Test.YtepcdhpikpmepaaGreatTRQ
import Derived.Test.YtepcdhpikpmepaaGreatHEQ
namespace Go.Proofs.YtepcdhpikpmepaaGreat
open Go.RowKit Go.Shelf
attribute [local go_sem] Oper.semAt_some

structure RawS where
 meeting : Int
 room : Int
 team : Int
 size : Int
 from_ : Int
 period : Int
 cycle : Int
 minute : Int
 length : Int
 extra : List Int
instance : Inhabited RawS := ⟨⟨0, 0, 0, 0, 0, 0, 0, 0, 0, []⟩⟩
structure RawSOk (x : RawS) : Prop where
 meeting : byteB x.meeting
 room : byteB x.room
 team : byteB x.team
 size : byteB x.size
 from_ : byteB x.from_
 period : byteB x.period
 cycle : byteB x.cycle
 minute : byteB x.minute
 length : byteB x.length
 extra : ∀ y ∈ x.extra, byteB y
def RawSV (w : World) (v : Value) (x : RawS) : Prop :=
 ∃ ev, v = .agg #[.int .u8 x.meeting, .int .u8 x.room, .int .u8 x.team, .int .u8 x.size, .int .u8 x.from_, .int .u8 x.period, .int .u8 x.cycle, .int .u8 x.minute, .int .u8 x.length, ev] ∧ Bytes w ev x.extra ∧ RawSOk x
def perTab : List Int := [7, 7, 2, 3, 4, 6, 1, 7]
def cycTo (c : Int) : Nat → List Int
 | 0 => []
 | k + 1 => cycTo c k ++ (if c / 2 ^ k % 2 = 1 then [(k : Int)] else [])
def cycL (x : RawS) : List Int := cycTo x.cycle (perTab[(x.period % 8).toNat]?.getD 0).toNat
def perS (x : RawS) : PerD := ⟨[], x.from_ % 9, perTab[(x.period % 8).toNat]?.getD 0, cycL x⟩
def lenS (x : RawS) : Int := 15 * (1 + x.length % 12)
def extX (len e : Int) : InstD := (e % 14, e % 14 * 1440 + 90 + 15 * (e / 4), e % 14 * 1440 + 90 + 15 * (e / 4) + len)
def extTo (len : Int) (xe : List Int) : Nat → List InstD
 | 0 => []
 | i + 1 => insR (extX len (xe[i]?.getD 0)) (extTo len xe i)
def standT (x : RawS) : StandD :=
 ⟨1 + x.meeting % 6, x.room % 3, x.team % 3, 1 + x.size % 12, ⟨if (cycL x).length = 0 then [] else [⟨perS x, 60 + 15 * (x.minute % 80)⟩], lenS x, extTo (lenS x) x.extra (min x.extra.length 3)⟩⟩
def StandV (w : World) (v : Value) (x : StandD) : Prop :=
 ∃ cv ev, v = .agg #[.int .i64 x.meeting, .int .i64 x.room, .int .i64 x.team, .int .i64 x.size, cv, .int .i64 x.stream.len, ev] ∧ Classes w cv x.stream.classes ∧ Insts w ev x.stream.extra
theorem StandV.ext {w w' : World} {v : Value} {x : StandD} (h : StandV w v x) (e : Ext w w') : StandV w' v x := let ⟨a, b, c, d, f⟩ := h; ⟨a, b, c, d.ext e, f.ext e⟩
theorem cycTo_rising (c : Int) : ∀ (k : Nat) (P : Int), (k : Int) ≤ P → risingP (-1) P (cycTo c k) = true ∧ (∀ y ∈ cycTo c k, 0 ≤ y ∧ y < k) ∧ (cycTo c k).length ≤ k
 | 0, _, _ => ⟨rfl, fun y h => (by cases h), Nat.le_refl _⟩
 | k + 1, P, h => by
  obtain ⟨h1, h2, h3⟩ := cycTo_rising c k P (by omega)
  unfold cycTo
  split
  ·refine ⟨?_, fun y hy => ?_, by rw [List.length_append]; simp; omega⟩
   ·have app : ∀ (l : List Int) (low x : Int), risingP low P l = true → (∀ y ∈ l, y < x) → low < x → x < P → risingP low P (l ++ [x]) = true := by
     intro l
     induction l with
     | nil =>
      intro low x _ _ h1 h2
      simp only [List.nil_append, risingP]
      rw [if_neg (by omega)]
     | cons a r ih =>
      intro low x hr hm h1 h2
      simp only [List.cons_append]
      unfold risingP at hr ⊢
      split at hr
      ·cases hr
      ·next hc =>
       rw [if_neg hc]
       exact ih a x hr (fun y hy => hm y (List.mem_cons_of_mem _ hy)) (hm a List.mem_cons_self) h2
    exact app _ _ _ h1 (fun y hy => (h2 y hy).2) (by omega) (by omega)
   ·rcases List.mem_append.1 hy with hy | hy
    ·have := h2 y hy; omega
    ·simp at hy; omega
  ·rw [List.append_nil]
   exact ⟨h1, fun y hy => by have := h2 y hy; omega, by omega⟩
theorem perS_ok {x : RawS} (h : RawSOk x) : PerOk0 (perS x) := by
 obtain ⟨p0, p1⟩ := h.period
 obtain ⟨f0, f1⟩ := h.from_
 have hlt : (x.period % 8).toNat < 8 := by omega
 obtain ⟨pi, hpi⟩ : ∃ pi, (x.period % 8).toNat = pi := ⟨_, rfl⟩
 rw [hpi] at hlt
 have hp : 1 ≤ perTab[pi]?.getD 0 ∧ perTab[pi]?.getD 0 ≤ 7 := by
  have : ∀ pi, pi < 8 → 1 ≤ perTab[pi]?.getD 0 ∧ perTab[pi]?.getD 0 ≤ 7 := by decide
  exact this pi hlt
 obtain ⟨h1, _, h3⟩ := cycTo_rising x.cycle (perTab[pi]?.getD 0).toNat (perTab[pi]?.getD 0) (by omega)
 unfold PerOk0 perS cycL
 rw [hpi]
 dsimp only
 exact ⟨rfl, by omega, by omega, by omega, by omega, by omega, h1⟩
theorem insR_len (x : InstD) (l : List InstD) : (insR x l).length ≤ l.length + 1 := by
 unfold insR
 split
 ·omega
 ·rw [(insI_perm x l).length_eq]; simp
theorem extTo_len (len : Int) (xe : List Int) : ∀ i, (extTo len xe i).length ≤ i
 | 0 => Nat.le_refl _
 | i + 1 => by
  have := extTo_len len xe i
  have := insR_len (extX len (xe[i]?.getD 0)) (extTo len xe i)
  unfold extTo
  omega
theorem classes_nil (W : World) : Classes W (.slice none 0 0) [] := ⟨fun _ => .slice none 0 0, ⟨none, 0, rfl, Nat.le_refl _, by unfold maxLen; omega, fun h => absurd h (by simp)⟩, fun i hi => by simp at hi⟩
theorem madeStand_results {tmps : Array Value} {w : World} {g : Nat} {a b c d f : Int} {cv ev : Value} (hp : tmps.getD 2 undef = .pointer (some ⟨g, 0, none⟩)) (hb : Blk w g 52 #[.int .i64 a, .int .i64 b, .int .i64 c, .int .i64 d, cv, .int .i64 f, ev]) :
  (results Tryz.f13 tmps).run Tryz.prog w = .ok (.agg #[.int .i64 a, .int .i64 b, .int .i64 c, .int .i64 d, cv, .int .i64 f, ev]) w :=
 results_cell_row Tryz.results13 tmps w g 52 _ (0, 0) _ hp hb Tryz.underlying52 rfl (by kernel_rfl)
theorem Sl.keepX {w w' : World} {k n N C : Nat} {A : Option Addr} {F : Nat → Nat → Value} {X : Nat → Prop} (h : Sl w k (.slice A n C) N F) (hk : Keep X w w') (hA : ∀ a, A = some a → ¬ X a.block) : Sl w' k (.slice A n C) N F := by
 obtain ⟨a, c, e, hn, hc, h3⟩ := h
 cases e
 refine ⟨_, _, rfl, hn, hc, fun hp => ?_⟩
 obtain ⟨b, off, e1, e2, e3⟩ := h3 hp
 exact ⟨b, off, e1, Nat.lt_of_lt_of_le e2 hk.size, fun i hi j hj => hk.cell (e3 i hi j hj) (fun hx => hA _ e1 hx)⟩
theorem classes1_of {W : World} {g1 g2 g3 : Nat} {hv cv : Value} {p : PerD} {m : Int} (h1 : Blk W g1 107 #[hv, .int .i64 p.from_, .int .i64 p.period, cv]) (hh : Ints W hv p.head) (hc : Ints W cv p.cycle)
  (h2 : Blk W g2 108 #[.slice (some ⟨g1, 0, none⟩) 1 1]) (h3 : Blk W g3 113 #[.slice (some ⟨g2, 0, none⟩) 1 1, .int .i64 m]) : Classes W (.slice (some ⟨g3, 0, none⟩) 1 1) [⟨p, m⟩] := by
 refine ⟨fun _ => .slice (some ⟨g2, 0, none⟩) 1 1, sl_of_blk (n := 1) (c := 1) h3 (Nat.le_refl _) (by unfold maxLen; omega) (fun i hi j hj => ?_), fun i hi => ?_⟩
 ·obtain rfl : i = 0 := by omega
  obtain rfl | rfl : j = 0 ∨ j = 1 := by omega
  ·rfl
  ·rfl
 ·obtain rfl : i = 0 := by simpa using hi
  refine ⟨fun _ => .slice (some ⟨g1, 0, none⟩) 1 1, sl_of_blk (n := 1) (c := 1) h2 (Nat.le_refl _) (by unfold maxLen; omega) (fun i hi j hj => ?_), fun i hi => ?_⟩
  ·obtain rfl : i = 0 := by omega
   obtain rfl : j = 0 := by omega
   rfl
  ·obtain rfl : i = 0 := by simpa using hi
   refine ⟨fun _ => hv, fun _ => cv, sl_of_blk (n := 1) (c := 1) h1 (Nat.le_refl _) (by unfold maxLen; omega) (fun i hi j hj => ?_), fun i hi => ?_⟩
   ·obtain rfl : i = 0 := by omega
    obtain rfl | rfl | rfl | rfl : j = 0 ∨ j = 1 ∨ j = 2 ∨ j = 3 := by omega
    ·rfl
    ·rfl
    ·rfl
    ·rfl
   ·obtain rfl : i = 0 := by simpa using hi
    exact ⟨hh, hc⟩
theorem standV_mk {W : World} {x : RawS} {me ro te si fr per mi le : Int} {pi k i : Nat} {pD : PerD} {cv ev : Value} (hD : 1 + x.meeting % 6 = me ∧ x.room % 3 = ro ∧ x.team % 3 = te ∧ 1 + x.size % 12 = si ∧ x.period % 8 = (pi : Int) ∧ perTab[pi]? = some per)
  (hfr : x.from_ % 9 = fr) (hk : k = per.toNat) (hpD : ⟨[], fr, per, cycTo x.cycle k⟩ = pD) (hmi : 60 + 15 * (x.minute % 80) = mi) (hle : 15 * (1 + x.length % 12) = le)
  (hcv : Classes W cv (if pD.cycle.length = 0 then [] else [⟨pD, mi⟩])) (hi : i = min x.extra.length 3) (hev : Insts W ev (extTo le x.extra i)) :
  StandV W (.agg #[.int .i64 me, .int .i64 ro, .int .i64 te, .int .i64 si, cv, .int .i64 le, ev]) (standT x) := by
 obtain ⟨h1, h2, h3, h4, h5, h6⟩ := hD
 have hpt : perTab[(x.period % 8).toNat]?.getD 0 = per := by rw [h5, show ((pi : Int)).toNat = pi from by omega, h6]; rfl
 have hcy : cycL x = cycTo x.cycle k := by unfold cycL; rw [hpt, ← hk]
 have hps : perS x = pD := by unfold perS; rw [hpt, hcy, hfr]; exact hpD
 have hlen : lenS x = le := hle
 have hst : standT x = ⟨me, ro, te, si, ⟨if pD.cycle.length = 0 then [] else [⟨pD, mi⟩], le, extTo le x.extra i⟩⟩ := by
  unfold standT
  rw [h1, h2, h3, h4, hcy, hps, hlen, hmi, hi, ← hpD]
 rw [hst]
 exact ⟨cv, ev, rfl, hcv, hev⟩
theorem keep7 (W : World) (g : Nat) (v0 v1 v2 v3 v4 v5 v6 : Value) : Keep (fun x => x = g) W (((((((W.setCell ⟨g, 0, none⟩ v0).setCell ⟨g, 1, none⟩ v1).setCell ⟨g, 2, none⟩ v2).setCell ⟨g, 3, none⟩ v3).setCell ⟨g, 4, none⟩ v4).setCell ⟨g, 5, none⟩ v5).setCell ⟨g, 6, none⟩ v6) := by
 have k0 := Keep.setCell (X := fun x => x = g) (p := ⟨g, 0, none⟩) (Keep.refl _ W) (Or.inl rfl) v0
 have k1 := k0.setCell (p := ⟨g, 1, none⟩) (Or.inl rfl) v1
 have k2 := k1.setCell (p := ⟨g, 2, none⟩) (Or.inl rfl) v2
 have k3 := k2.setCell (p := ⟨g, 3, none⟩) (Or.inl rfl) v3
 have k4 := k3.setCell (p := ⟨g, 4, none⟩) (Or.inl rfl) v4
 have k5 := k4.setCell (p := ⟨g, 5, none⟩) (Or.inl rfl) v5
 exact k5.setCell (p := ⟨g, 6, none⟩) (Or.inl rfl) v6
set_option maxHeartbeats 6400000 in
set_option maxRecDepth 100000 in
theorem madeStand_calls (v : Value) (x : RawS) (w : World) (h : RawSV w v x) :
  Calls Tryz.prog 13 #[v] w fun e w' => ∃ v', e = .returned v' ∧ StandV w' v' (standT x) ∧ Ext w w' := by
 obtain ⟨ev, rfl, hb, hok⟩ := h
 obtain ⟨xm, xr, xt, xs, xf, xp, xc, xi, xl, xe⟩ := x
 dsimp only at hb ⊢
 have hbb := Lib.hid hb
 obtain ⟨ea, ec, rfl, hen, hec, eat⟩ := hb.open
 have eat' := Lib.hid eat
 obtain ⟨⟨m0, m1⟩, ⟨r0, r1⟩, ⟨t0, t1⟩, ⟨s0, s1⟩, ⟨f0, f1⟩, ⟨p0, p1⟩, ⟨c0, c1⟩, ⟨i0, i1⟩, ⟨l0, l1⟩, hxe⟩ := hok
 dsimp only at m0 m1 r0 r1 t0 t1 s0 s1 f0 f1 p0 p1 c0 c1 i0 i1 l0 l1 hxe
 have hxe' := Lib.hid hxe
 clear hb eat hxe
 obtain ⟨j0, hj0, jz0, jz1, jz2⟩ := info_parts int_info
 go_enter Tryz.func13, Tryz.ntmps13
 go_upto_region 2 with (fail)
 obtain ⟨pi, hpi, hpi8⟩ : ∃ pi : Nat, xp % 8 = (pi : Int) ∧ pi < 8 := ⟨(xp % 8).toNat, by omega, by omega⟩
 obtain ⟨per, hper⟩ : ∃ per, perTab[pi]? = some per := ⟨_, List.getElem?_eq_getElem (by unfold perTab; simpa using hpi8)⟩
 have hperB : 1 ≤ per ∧ per ≤ 7 := by
  have := List.mem_of_getElem? hper
  unfold perTab at this
  simp at this
  omega
 obtain ⟨me, hme⟩ : ∃ me, 1 + xm % 6 = me := ⟨_, rfl⟩
 obtain ⟨ro, hro⟩ : ∃ ro, xr % 3 = ro := ⟨_, rfl⟩
 obtain ⟨te, hte⟩ : ∃ te, xt % 3 = te := ⟨_, rfl⟩
 obtain ⟨si, hsi⟩ : ∃ si, 1 + xs % 12 = si := ⟨_, rfl⟩
 rw [hme, hro, hte, hsi]
 have hD := Lib.hid (And.intro hme (And.intro hro (And.intro hte (And.intro hsi (And.intro hpi hper)))))
 have hperB' := Lib.hid hperB
 have hfB := Lib.hid (show 0 ≤ xf % 9 ∧ xf % 9 ≤ 8 by omega)
 clear hme hro hte hsi m0 m1 r0 r1 t0 t1 s0 s1 hperB
 refine wp_abs (S := fun W => Hid (Ext w W) ∧ Hid (Blk W w.heap.size 57 #[.int .u8 xm, .int .u8 xr, .int .u8 xt, .int .u8 xs, .int .u8 xf, .int .u8 xp, .int .u8 xc, .int .u8 xi, .int .u8 xl, .slice ea xe.length ec]) ∧
  Hid (Blk W (w.heap.size + 1) 52 #[.int .i64 0, .int .i64 0, .int .i64 0, .int .i64 0, .slice none 0 0, .int .i64 0, .slice none 0 0]) ∧ Hid (Blk W (w.heap.size + 1 + 1) 52 #[.int .i64 me, .int .i64 ro, .int .i64 te, .int .i64 si, .slice none 0 0, .int .i64 0, .slice none 0 0])) ?_ ?_
 ·exact ⟨Lib.hid (by exact (by with_reducible repeat' (first | exact Ext.refl _ | assumption | refine Ext.drewN ?_ _ | refine Ext.drew ?_ | refine Ext.alloc ?_ _ | refine Ext.trans ?_ (by with_reducible assumption)))), Lib.hid (Blk.alloc (Blk.alloc (blk_new' rfl rfl) _) _), Lib.hid (Blk.alloc (blk_new' (by simp) rfl) _), Lib.hid (blk_new' (by simp) rfl)⟩
 rintro W1 ⟨hE1, hR1, hB1, hS1⟩
 have z0 := After.cell (show W1.cell? ⟨w.heap.size, 4, none⟩ = some (.int .u8 xf) from hR1.out.cell 4)
 have z1 := After.cell (show W1.cell? ⟨w.heap.size, 5, none⟩ = some (.int .u8 xp) from hR1.out.cell 5)
 (refine wp_region_held [] [0, 1, 2, 3, 5, 6, 7, 4, 8, 9, 10, 11] [12] (fun _ _ _ => True) (by kernel_rfl) (by kernel_rfl) ?_; simp only [pickL]; with_reducible refine wpQuiet_nil ?_)
 (refine held_quiet [0, 1, 2, 3, 5, 6, 7] [4, 8, 9, 10, 11] (by kernel_rfl) (by kernel_rfl) ?_; simp only [pickL, List.drop]; (repeat (go_big_quiet_step (fail))); with_reducible refine wpQuiet_nil ?_)
 (refine held_made 4 [8, 9, 10, 11] rfl (by kernel_rfl) (fun g => .slice (some ⟨g, 0, none⟩) 8 8) (.cells #[.int .i64 7, .int .i64 7, .int .i64 2, .int .i64 3, .int .i64 4, .int .i64 6, .int .i64 1, .int .i64 7] 3) (fun W => by kernel_rfl) (fun g g2 e => by cases e; rfl) (fun g => rfl) ?_)
 intro gs
 simp only [Act.put, List.setIfInBounds_toArray, List.set_cons_succ, List.set_cons_zero]
 (refine held_quiet [8] [9, 10, 11] (by kernel_rfl) (by kernel_rfl) ?_; simp only [pickL, List.drop]; (repeat (go_big_quiet_step (fail))); with_reducible refine wpQuiet_nil ?_)
 refine held_val heldPost_anti 9 [10, 11] rfl (by kernel_rfl) (.int .i64 per) rfl (fun W hW hD9 => ?_) ?_
 ·have hb : Blk W gs 3 #[.int .i64 7, .int .i64 7, .int .i64 2, .int .i64 3, .int .i64 4, .int .i64 6, .int .i64 1, .int .i64 7] := ((hD9 4 (dep_of 2 9 4 (by kernel_rfl))).2 rfl).1
  have g0 : W.cell? ⟨gs, pi, none⟩ = some (.int .i64 per) := by
   rw [hb.cell pi, show (#[Value.int .i64 7, .int .i64 7, .int .i64 2, .int .i64 3, .int .i64 4, .int .i64 6, .int .i64 1, .int .i64 7] : Array Value) = (perTab.map (Value.int .i64)).toArray from rfl]
   simp [hper]
  have gl := hb.lt
  clear hb hD9
  go_simp
 simp only [Act.put, List.setIfInBounds_toArray, List.set_cons_succ, List.set_cons_zero]
 (refine held_quiet [10] [11] (by kernel_rfl) (by kernel_rfl) ?_; simp only [pickL, List.drop]; (repeat (go_big_quiet_step (fail))); with_reducible refine wpQuiet_nil ?_)
 (refine held_made 11 [] rfl (by kernel_rfl) (fun g => .pointer (some ⟨g, 0, none⟩)) (.cells #[.slice none 0 0, .int .i64 0, .int .i64 0, .slice none 0 0] 107) (fun W => by kernel_rfl) (fun g g2 e => by cases e; rfl) (fun g => rfl) ?_)
 intro gp
 simp only [Act.put, List.setIfInBounds_toArray, List.set_cons_succ, List.set_cons_zero]
 intro U hxv hfc ht Q0 hQ0
 have h11 := (hfc 11).2 rfl
 have hP : Hid (Blk U gp 107 #[.slice none 0 0, .int .i64 0, .int .i64 0, .slice none 0 0]) := Lib.hid h11.1
 have hgp : W1.heap.size ≤ gp := h11.2
 simp only [pickL, List.drop]
 clear hfc ht h11 z0 z1
 have y0 : U.cell? ⟨gp, 0, none⟩ = some (.slice none 0 0) := hP.out.cell 0
 have y1 : U.cell? ⟨gp, 1, none⟩ = some (.int .i64 0) := hP.out.cell 1
 have y2 : U.cell? ⟨gp, 2, none⟩ = some (.int .i64 0) := hP.out.cell 2
 have y3 : U.cell? ⟨gp, 3, none⟩ = some (.slice none 0 0) := hP.out.cell 3
 have e0 := hP.out.frozen 0
 have e1 := hP.out.frozen 1
 have e2 := hP.out.frozen 2
 have e3 := hP.out.frozen 3
 have yl := hP.out.lt
 have hlt1 := hS1.out.lt
 obtain ⟨fr, hfr⟩ : ∃ fr, Hid (xf % 9 = fr) := ⟨_, rfl⟩
 rw [hfr.out] at hfB ⊢
 have kx := Keep.of_ext (X := fun _ => False) hxv
 have hE2 := Lib.hid (hE1.out.trans hxv)
 have hR2 := Lib.hid (kx.blk hR1.out id)
 have hB2 := Lib.hid (kx.blk hB1.out id)
 have hS2 := Lib.hid (kx.blk hS1.out id)
 have hwg := Lib.hid (show w.heap.size + 1 + 1 < gp by omega)
 clear hxv kx hE1 hR1 hB1 hS1 hgp hlt1
 go_upto_region 3 with (fail)
 refine wp_abs (S := fun W => Hid (Ext w W) ∧ Hid (Blk W w.heap.size 57 #[.int .u8 xm, .int .u8 xr, .int .u8 xt, .int .u8 xs, .int .u8 xf, .int .u8 xp, .int .u8 xc, .int .u8 xi, .int .u8 xl, .slice ea xe.length ec]) ∧
  Hid (Blk W (w.heap.size + 1) 52 #[.int .i64 0, .int .i64 0, .int .i64 0, .int .i64 0, .slice none 0 0, .int .i64 0, .slice none 0 0]) ∧ Hid (Blk W (w.heap.size + 1 + 1) 52 #[.int .i64 me, .int .i64 ro, .int .i64 te, .int .i64 si, .slice none 0 0, .int .i64 0, .slice none 0 0]) ∧
  Hid (Blk W gp 107 #[.slice none 0 0, .int .i64 fr, .int .i64 per, .slice none 0 0])) ?_ ?_
 ·have hwg' := hwg.out
  have k4 := (((Keep.setCell (X := fun g => g = gp) (p := ⟨gp, 0, none⟩) (Keep.refl _ U) (Or.inl rfl) (.slice none 0 0)).setCell (p := ⟨gp, 1, none⟩) (Or.inl rfl) (.int .i64 fr)).setCell (p := ⟨gp, 2, none⟩) (Or.inl rfl) (.int .i64 per)).setCell (p := ⟨gp, 3, none⟩) (Or.inl rfl) (.slice none 0 0)
  exact ⟨Lib.hid (hE2.out.keep k4 (fun i hi e => by omega)), Lib.hid (k4.blk hR2.out (by omega)), Lib.hid (k4.blk hB2.out (by omega)), Lib.hid (k4.blk hS2.out (by omega)), Lib.hid ((((hP.out.set_ 0 _).set_ 1 _).set_ 2 _).set_ 3 _)⟩
 clear y0 y1 y2 y3 e0 e1 e2 e3 yl hE2 hR2 hB2 hS2 hP hpi hpi8 hper f0 f1 p0 p1
 rintro W2 ⟨hE, hR, hB, hS, hP⟩
 have hgl := hP.out.lt
 go_wp2_with fail
 go_loopw [5] (fun v5 wr => ∃ (k n C : Nat) (A : Option Addr), (k : Int) ≤ per ∧ v5 = .int .i64 k ∧ n ≤ k ∧ Hid (n = (cycTo xc k).length) ∧ Hid (Ext w wr) ∧ Hid (Keep (fun g => g = gp) W2 wr) ∧ Hid (Blk wr gp 107 #[.slice none 0 0, .int .i64 fr, .int .i64 per, .slice A n C]) ∧ Hid (wr.ownsRow W2.heap.size 3 1 (.slice A n C) n ((cycTo xc k).map (Value.int .i64)))) (fun v5 _ => (per - intOf v5).toNat)
 case atStart => exact ⟨0, 0, 0, none, by have := hperB'.out; omega, rfl, by omega, Lib.hid rfl, hE, Lib.hid (Keep.refl _ _), hP, Lib.hid (World.ownsRow_nil _ _ _ _)⟩
 case round =>
  obtain ⟨k, n, C, A, hk, rfl, hnk, hn, hx, hK, hP2, hO⟩ := hrel
  have hR2 := Lib.hid (hK.out.blk hR.out (fun e => by have := hwg.out; omega))
  have y2 : wr.cell? ⟨gp, 2, none⟩ = some (.int .i64 per) := hP2.out.cell 2
  have yl := hP2.out.lt
  have x6 : wr.cell? ⟨w.heap.size, 6, none⟩ = some (.int .u8 xc) := hR2.out.cell 6
  have xl6 := hR2.out.lt
  by_cases h1 : (k : Int) < per
  ·have dk : decide ((k : Int) < per) = true := decide_eq_true h1
   have hk6 : k ≤ 6 := by have := hperB'.out; omega
   have hq0 : 0 ≤ xc / 2 ^ k := Int.ediv_nonneg c0 (Int.pow_nonneg (by decide))
   have hnext : Hid (cycTo xc (k + 1) = cycTo xc k ++ (if xc / 2 ^ k % 2 = 1 then [(k : Int)] else [])) := Lib.hid rfl
   by_cases hb2 : xc / 2 ^ k % 2 = 1
   ·have dq : ((xc / 2 ^ k).tmod 2 == 1) = true := by rw [Int.tmod_eq_emod_of_nonneg hq0, hb2]; rfl
    rw [if_pos hb2] at hnext
    have y3 : wr.cell? ⟨gp, 3, none⟩ = some (.slice A n C) := hP2.out.cell 3
    clear hb2 hq0
    go_wp2_with (at_builtin; go_loud (refine wpList_append_any _ rfl (.tmp 53) (.tmp 55) _ rfl W2.heap.size 3 j0 _ 1 8 Tryz.underlying31 hj0 jz0 jz1 jz2 rfl (by decide) (.slice A n C) n _ rfl (owns_ext hO.out ((Ext.refl _).alloc _)) (wr.heap.size + 1) (some ⟨wr.heap.size, 0, none⟩) 1 1 [.int .i64 (k : Int)] rfl (reads_last wr #[.int .i64 (k : Int)] 3 1 1 wr.heap.size (wr.heap.size + 1) rfl (by omega) rfl) (one_int _) (by unfold maxLen; omega) (by omega) (by rw [World.size_alloc]; have := hK.out.size; omega) ?_; intro v5 w5 hown5 hg5 hat5; obtain ⟨A5, C5, rfl⟩ := owns_form hown5; have hlow := (owns_ext hO.out ((Ext.refl wr).alloc (.cells #[.int .i64 (k : Int)] 3))).lt; have hP5 : Blk w5 gp 107 #[.slice none 0 0, .int .i64 fr, .int .i64 per, .slice A n C] := (Blk.alloc hP2.out _).grown hg5 (fun e => by have := (hlow _ e.symm).1; omega); have y35 : w5.cell? ⟨gp, 3, none⟩ = some (.slice A n C) := hP5.cell 3; have e35 := hP5.frozen 3; have yl5 := hP5.lt))
    have hwg' := hwg.out
    have hn5 : Hid (n + 1 = (cycTo xc (k + 1)).length) := Lib.hid (by rw [hnext.out, List.length_append, ← hn.out]; rfl)
    have hx5 := Lib.hid (((hx.out.alloc (.cells #[.int .i64 (k : Int)] 3)).grown hg5 (fun g e => by have := (hlow g e).1; omega)).setCell (p := ⟨gp, 3, none⟩) (by dsimp only; omega) (.slice A5 (n + 1) C5))
    have hK5 : Hid (Keep (fun g => g = gp) W2 (w5.setCell ⟨gp, 3, none⟩ (.slice A5 (n + 1) C5))) := Lib.hid ((((hK.out.alloc (.cells #[.int .i64 (k : Int)] 3)).grown hg5 (fun g e => Or.inr (hlow g e).1))).setCell (p := ⟨gp, 3, none⟩) (Or.inl rfl) _)
    have hP6 := Lib.hid (hP5.set_ 3 (.slice A5 (n + 1) C5))
    have hO6 : Hid ((w5.setCell ⟨gp, 3, none⟩ (.slice A5 (n + 1) C5)).ownsRow W2.heap.size 3 1 (.slice A5 (n + 1) C5) (n + 1) ((cycTo xc (k + 1)).map (Value.int .i64))) := Lib.hid (by
     rw [hnext.out, List.map_append]
     exact (keep_set w5 gp 3 _).owns hown5 (fun g e h => by have := (hown5.lt g e).1; omega))
    clear hown5 hg5 hat5 hP5 hlow hO hP2 hK hx hn hnext
    first
    | (go_roundw; case rel => exact ⟨k + 1, n + 1, C5, A5, by omega, by go_num, by omega, hn5, hx5, hK5, hP6, hO6⟩
       case measure => simp [intOf]; omega)
    | (refine ⟨⟨k + 1, n + 1, C5, A5, by omega, by go_num, by omega, hn5, hx5, hK5, hP6, hO6⟩, ?_⟩; simp [intOf]; omega)
    | (refine ⟨?_, ?_⟩
       · ((repeat apply Exists.intro); exact ⟨⟨k + 1, n + 1, C5, A5, by omega, by go_num, by omega, hn5, hx5, hK5, hP6, hO6⟩, rfl⟩)
       · simp [intOf]; omega)
   ·have dq : ((xc / 2 ^ k).tmod 2 == 1) = false := by rw [Int.tmod_eq_emod_of_nonneg hq0, beq_eq_false_iff_ne]; exact hb2
    rw [if_neg hb2, List.append_nil] at hnext
    rw [← hnext.out] at hn hO
    clear hb2 hq0
    go_wp2
    go_roundw
    case rel => exact ⟨k + 1, n, C, A, by omega, by go_num, by omega, hn, hx, hK, hP2, hO⟩
    case measure => simp [intOf]; omega
  ·obtain ⟨mi, hmi⟩ : ∃ mi, Hid (60 + 15 * (xi % 80) = mi) := ⟨_, rfl⟩
   obtain ⟨le, hle⟩ : ∃ le, Hid (15 * (1 + xl % 12) = le) := ⟨_, rfl⟩
   have hB2 := Lib.hid (hK.out.blk hB.out (fun e => by have := hwg.out; omega))
   have hS2 := Lib.hid (hK.out.blk hS.out (fun e => by have := hwg.out; omega))
   have x7 : wr.cell? ⟨w.heap.size, 7, none⟩ = some (.int .u8 xi) := hR2.out.cell 7
   have x8 : wr.cell? ⟨w.heap.size, 8, none⟩ = some (.int .u8 xl) := hR2.out.cell 8
   have v1 : wr.cell? ⟨w.heap.size + 1 + 1, 5, none⟩ = some (.int .i64 0) := hS2.out.cell 5
   have vf5 := hS2.out.frozen 5
   have vl := hS2.out.lt
   go_upto_region 10 with (fail)
   rw [hmi.out, hle.out]
   have hleB : Hid (15 ≤ le ∧ le ≤ 180) := Lib.hid (by rw [← hle.out]; omega)
   refine wp_abs (S := fun W => Hid (Ext w W) ∧ Hid (Blk W w.heap.size 57 #[.int .u8 xm, .int .u8 xr, .int .u8 xt, .int .u8 xs, .int .u8 xf, .int .u8 xp, .int .u8 xc, .int .u8 xi, .int .u8 xl, .slice ea xe.length ec]) ∧
    Hid (Blk W (w.heap.size + 1) 52 #[.int .i64 0, .int .i64 0, .int .i64 0, .int .i64 0, .slice none 0 0, .int .i64 0, .slice none 0 0]) ∧ Hid (Blk W (w.heap.size + 1 + 1) 52 #[.int .i64 me, .int .i64 ro, .int .i64 te, .int .i64 si, .slice none 0 0, .int .i64 le, .slice none 0 0]) ∧
    Hid (Blk W gp 107 #[.slice none 0 0, .int .i64 fr, .int .i64 per, .slice A n C]) ∧ Hid (W.ownsRow W2.heap.size 3 1 (.slice A n C) n ((cycTo xc k).map (Value.int .i64)))) ?_ ?_
   ·have hwg' := hwg.out
    have k4 := Keep.setCell (X := fun g => g = w.heap.size + 1 + 1) (p := ⟨w.heap.size + 1 + 1, 5, none⟩) (Keep.refl _ wr) (Or.inl rfl) (.int .i64 le)
    refine ⟨Lib.hid (hx.out.keep k4 (fun i hi e => by omega)), Lib.hid (k4.blk hR2.out (by omega)), Lib.hid (k4.blk hB2.out (by omega)), Lib.hid (hS2.out.set_ 5 _), Lib.hid (k4.blk hP2.out (by omega)), Lib.hid (k4.owns hO.out (fun g e h => by have := (hO.out.lt g e).1; omega))⟩
   have hkp : Hid (k = per.toNat) := Lib.hid (by omega)
   clear x7 x8 v1 vf5 vl hx hR2 hB2 hS2 hP2 hO hK hB hR hS hP y2 yl x6 xl6
   rintro W3 ⟨hE3, hR3, hB3, hS3, hP3, hI3⟩
   have y0 : W3.cell? ⟨gp, 0, none⟩ = some (.slice none 0 0) := hP3.out.cell 0
   have y1 : W3.cell? ⟨gp, 1, none⟩ = some (.int .i64 fr) := hP3.out.cell 1
   have y2 : W3.cell? ⟨gp, 2, none⟩ = some (.int .i64 per) := hP3.out.cell 2
   have y3 : W3.cell? ⟨gp, 3, none⟩ = some (.slice A n C) := hP3.out.cell 3
   have yl := hP3.out.lt
   have hS4 := Lib.hid (Blk.alloc (Blk.alloc (Blk.alloc hS3.out (.cells #[.slice none 0 0, .int .i64 fr, .int .i64 per, .slice A n C] 107)) (.cells #[.slice (some ⟨W3.heap.size, 0, none⟩) 1 1] 108)) (.cells #[.slice (some ⟨W3.heap.size + 1, 0, none⟩) 1 1, .int .i64 mi] 113))
   have v4 := show World.cell? _ ⟨w.heap.size + 1 + 1, 4, none⟩ = some (.slice none 0 0) from hS4.out.cell 4
   have vf4 := hS4.out.frozen 4
   have vl := hS4.out.lt
   go_upto_region 11 with (fail)
   obtain ⟨g1, hg1⟩ : ∃ g1, Hid (W3.heap.size = g1) := ⟨_, rfl⟩
   rw [hg1.out] at hS4 ⊢
   obtain ⟨pD, hpD⟩ : ∃ pD : PerD, Hid (⟨[], fr, per, cycTo xc k⟩ = pD) := ⟨_, rfl⟩
   refine wp_abs (S := fun W => Hid (Ext w W) ∧ Hid (Blk W w.heap.size 57 #[.int .u8 xm, .int .u8 xr, .int .u8 xt, .int .u8 xs, .int .u8 xf, .int .u8 xp, .int .u8 xc, .int .u8 xi, .int .u8 xl, .slice ea xe.length ec]) ∧
    Hid (Blk W (w.heap.size + 1) 52 #[.int .i64 0, .int .i64 0, .int .i64 0, .int .i64 0, .slice none 0 0, .int .i64 0, .slice none 0 0]) ∧ Hid (Blk W (w.heap.size + 1 + 1) 52 #[.int .i64 me, .int .i64 ro, .int .i64 te, .int .i64 si, .slice (some ⟨g1 + 1 + 1, 0, none⟩) 1 1, .int .i64 le, .slice none 0 0]) ∧
    Hid (Blk W gp 107 #[.slice none 0 0, .int .i64 fr, .int .i64 per, .slice A n C]) ∧ Hid (PerV W (.agg #[.slice none 0 0, .int .i64 fr, .int .i64 per, .slice A n C]) pD) ∧ Hid (∀ W', Keep (fun g => g = w.heap.size + 1 ∨ g = w.heap.size + 1 + 1) W W' → Classes W' (.slice (some ⟨g1 + 1 + 1, 0, none⟩) 1 1) [⟨pD, mi⟩])) ?_ ?_
   ·obtain ⟨W4, hW4⟩ : ∃ W4, Hid (((W3.alloc (.cells #[.slice none 0 0, .int .i64 fr, .int .i64 per, .slice A n C] 107)).alloc (.cells #[.slice (some ⟨g1, 0, none⟩) 1 1] 108)).alloc (.cells #[.slice (some ⟨g1 + 1, 0, none⟩) 1 1, .int .i64 mi] 113) = W4) := ⟨_, rfl⟩
    have hb1 : Blk W4 g1 107 #[.slice none 0 0, .int .i64 fr, .int .i64 per, .slice A n C] := by rw [← hW4.out]; exact Blk.alloc (Blk.alloc (blk_new' hg1.out.symm rfl) _) _
    have hb2 : Blk W4 (g1 + 1) 108 #[.slice (some ⟨g1, 0, none⟩) 1 1] := by rw [← hW4.out]; exact Blk.alloc (blk_new' (by rw [World.size_alloc, hg1.out]) rfl) _
    have hb3 : Blk W4 (g1 + 1 + 1) 113 #[.slice (some ⟨g1 + 1, 0, none⟩) 1 1, .int .i64 mi] := by rw [← hW4.out]; exact blk_new' (by rw [World.size_alloc, World.size_alloc, hg1.out]) rfl
    have hx4 : Ext W3 W4 := by rw [← hW4.out]; exact (((Ext.refl _).alloc _).alloc _).alloc _
    rw [hW4.out] at hS4 ⊢
    have hwg' := hwg.out
    have hlt := hS3.out.lt
    rw [hg1.out] at hlt
    have k4 := Keep.setCell (X := fun g => g = w.heap.size + 1 + 1) (p := ⟨w.heap.size + 1 + 1, 4, none⟩) (Keep.refl _ W4) (Or.inl rfl) (.slice (some ⟨g1 + 1 + 1, 0, none⟩) 1 1)
    have kx := Keep.of_ext (X := fun _ => False) hx4
    have hE4 := (hE3.out.trans hx4).keep k4 (fun i hi e => by omega)
    have hO4 := k4.owns (owns_ext hI3.out hx4) (fun g e h => by have := (hI3.out.lt g e).1; omega)
    have rd : ∀ W', W'.ownsRow W2.heap.size 3 1 (.slice A n C) n ((cycTo xc k).map (Value.int .i64)) → Ints W' (.slice A n C) (cycTo xc k) := fun W' h => by
     rw [hn.out] at h ⊢
     exact ints_of_owns h
    refine ⟨Lib.hid hE4, Lib.hid (k4.blk (kx.blk hR3.out id) (by omega)), Lib.hid (k4.blk (kx.blk hB3.out id) (by omega)), Lib.hid (hS4.out.set_ 4 _), Lib.hid (k4.blk (kx.blk hP3.out id) (by omega)), Lib.hid ?_, Lib.hid ?_⟩
    ·rw [← hpD.out]
     exact ⟨_, _, rfl, (IntsO.nil _ 0).read, rd _ hO4⟩
    ·intro W' k'
     rw [← hpD.out]
     exact classes1_of (k'.blk (k4.blk hb1 (by omega)) (by omega)) (IntsO.nil _ 0).read (rd _ (k'.owns hO4 (fun g e h => by have := (hI3.out.lt g e).1; omega))) (k'.blk (k4.blk hb2 (by omega)) (by omega)) (k'.blk (k4.blk hb3 (by omega)) (by omega))
   clear y0 y1 y2 y3 yl hS4 v4 vf4 vl hE3 hR3 hB3 hS3 hP3 hI3 hg1
   rintro W5 ⟨hE, hR, hB, hS, hP, hV, hC⟩
   have hpok : Hid (PerOk0 pD) := Lib.hid (by
    obtain ⟨q1, _, q3⟩ := cycTo_rising xc k per (by have := hperB'.out; rw [hkp.out]; omega)
    have := hperB'.out
    have := hfB.out
    rw [← hpD.out]
    exact ⟨rfl, by dsimp only; omega, by dsimp only; omega, by dsimp only; omega, by dsimp only; omega, by dsimp only; rw [hkp.out] at q3 ⊢; omega, q1⟩)
   have y0 : W5.cell? ⟨gp, 0, none⟩ = some (.slice none 0 0) := hP.out.cell 0
   have y1 : W5.cell? ⟨gp, 1, none⟩ = some (.int .i64 fr) := hP.out.cell 1
   have y2 : W5.cell? ⟨gp, 2, none⟩ = some (.int .i64 per) := hP.out.cell 2
   have y3 : W5.cell? ⟨gp, 3, none⟩ = some (.slice A n C) := hP.out.cell 3
   have yl := hP.out.lt
   go_wp2_with fail
   refine (per4Empty_calls _ pD W5 hV.out hpok.out).mono ?_
   rintro e W6 ⟨rfl, hx6⟩
   have k6 := Keep.of_ext (X := fun _ => False) hx6
   have hE6 := Lib.hid (hE.out.trans hx6)
   have hR6 := Lib.hid (k6.blk hR.out id)
   have hB6 := Lib.hid (k6.blk hB.out id)
   have hS6 := Lib.hid (k6.blk hS.out id)
   have hC6 : Hid (∀ W', Keep (fun g => g = w.heap.size + 1 ∨ g = w.heap.size + 1 + 1) W6 W' → Classes W' (.slice (some ⟨g1 + 1 + 1, 0, none⟩) 1 1) [⟨pD, mi⟩]) := Lib.hid (fun W' k' => hC.out W' ((Keep.of_ext hx6).trans k'))
   have v4 : W6.cell? ⟨w.heap.size + 1 + 1, 4, none⟩ = some (.slice (some ⟨g1 + 1 + 1, 0, none⟩) 1 1) := hS6.out.cell 4
   have vf4 := hS6.out.frozen 4
   have vl := hS6.out.lt
   obtain ⟨q, hq⟩ : ∃ q, Hid (decide (pD.cycle.length = 0) = q) := ⟨_, rfl⟩
   rw [hq.out]
   clear hx6 k6 hE hR hB hS hC y0 y1 y2 y3 yl hP hV hpok
   cases q with
   | false =>
    have hlc : Hid (¬ pD.cycle.length = 0) := Lib.hid (of_decide_eq_false hq.out)
    go_wp2_with fail
    refine wp_abs (S := fun W => Hid (Ext w W) ∧ Hid (Blk W w.heap.size 57 #[.int .u8 xm, .int .u8 xr, .int .u8 xt, .int .u8 xs, .int .u8 xf, .int .u8 xp, .int .u8 xc, .int .u8 xi, .int .u8 xl, .slice ea xe.length ec]) ∧
     Hid (Blk W (w.heap.size + 1) 52 #[.int .i64 0, .int .i64 0, .int .i64 0, .int .i64 0, .slice none 0 0, .int .i64 0, .slice none 0 0]) ∧ Hid (Blk W (w.heap.size + 1 + 1) 52 #[.int .i64 me, .int .i64 ro, .int .i64 te, .int .i64 si, .slice (some ⟨g1 + 1 + 1, 0, none⟩) 1 1, .int .i64 le, .slice none 0 0]) ∧
     Hid (∀ W', Keep (fun g => g = w.heap.size + 1 ∨ g = w.heap.size + 1 + 1) W W' → Classes W' (.slice (some ⟨g1 + 1 + 1, 0, none⟩) 1 1) [⟨pD, mi⟩])) ⟨hE6, hR6, hB6, hS6, hC6⟩ ?_
    clear hE6 hR6 hB6 hS6 hC6 v4 vf4 vl hq
    rintro W7 ⟨hE7, hR7, hB7, hS7, hC7⟩
    go_loopw [7, 8, 9] (fun v7 _ _ wr => ∃ (i en' ec' : Nat) (ea' : Option Addr), i ≤ min xe.length 3 ∧ v7 = .int .i64 i ∧ Hid (Ext w wr) ∧ Hid (Keep (fun g => g = w.heap.size + 1 + 1) W7 wr) ∧
     Hid (Blk wr (w.heap.size + 1 + 1) 52 #[.int .i64 me, .int .i64 ro, .int .i64 te, .int .i64 si, .slice (some ⟨g1 + 1 + 1, 0, none⟩) 1 1, .int .i64 le, .slice ea' en' ec']) ∧ Hid (Insts wr (.slice ea' en' ec') (extTo le xe i)) ∧ Hid (∀ a, ea' = some a → w.heap.size + 1 + 1 < a.block)) (fun v7 _ _ _ => min xe.length 3 - (intOf v7).toNat)
    case atStart => exact ⟨0, 0, 0, none, by omega, rfl, hE7, Lib.hid (Keep.refl _ _), hS7, Lib.hid ⟨none, 0, rfl, Nat.le_refl _, by unfold maxLen; omega, fun h => absurd h (by simp [extTo])⟩, Lib.hid (fun a e => by cases e)⟩
    case round =>
     obtain ⟨i, en', ec', ea', hi, rfl, hx, hK, hS8, hN, hA⟩ := hrel
     rename World => wq
     have hR8 := Lib.hid (hK.out.blk hR7.out (by omega))
     have x9 : wq.cell? ⟨w.heap.size, 9, none⟩ = some (.slice ea xe.length ec) := hR8.out.cell 9
     have xl9 := hR8.out.lt
     have hlx := extTo_len le xe i
     by_cases h1 : i < min xe.length 3
     ·have h1a : i < xe.length := by omega
      have d3 : decide ((i : Int) < 3) = true := decide_eq_true (by omega)
      obtain ⟨b3, o3, y, rfl, hb3, ey, y0, y1, g3⟩ := eat'.out i h1a wq hx.out
      have v5 : wq.cell? ⟨w.heap.size + 1 + 1, 5, none⟩ = some (.int .i64 le) := hS8.out.cell 5
      have v6 : wq.cell? ⟨w.heap.size + 1 + 1, 6, none⟩ = some (.slice ea' en' ec') := hS8.out.cell 6
      have vl := hS8.out.lt
      have hle1 := hleB.out
      have hnx : Hid (extTo le xe (i + 1) = insR (extX le y) (extTo le xe i)) := Lib.hid (by rw [extTo, ey.out]; rfl)
      clear ey
      go_wp2_with fail
      refine (insert_calls (.slice ea' en' ec') (extTo le xe i) (extX le y) wq hN.out (by omega)).mono ?_
      rintro e W8 ⟨v, rfl, hN8, hx8, hvA⟩
      obtain ⟨a8, c8, rfl⟩ := hN8.form
      obtain ⟨n8, hn8⟩ : ∃ n8, (insR (extX le y) (extTo le xe i)).length = n8 := ⟨_, rfl⟩
      rw [hn8] at hN8 hvA ⊢
      have hA9 : Hid (∀ a, a8 = some a → w.heap.size + 1 + 1 < a.block) := Lib.hid (fun a e => by
       rcases hvA with h | h
       ·cases h
        exact hA.out a e
       ·have := h a _ _ (by rw [e])
        omega)
      have hS9 := Lib.hid ((Keep.of_ext (X := fun _ => False) hx8).blk hS8.out id)
      have v60 : W8.cell? ⟨w.heap.size + 1 + 1, 6, none⟩ = some (.slice ea' en' ec') := hS9.out.cell 6
      have vf6 := hS9.out.frozen 6
      have vl6 := hS9.out.lt
      have hx9 := Lib.hid ((hx.out.trans hx8).setCell (p := ⟨w.heap.size + 1 + 1, 6, none⟩) (by dsimp only; omega) (.slice a8 n8 c8))
      have hK9 := Lib.hid ((hK.out.trans (Keep.of_ext hx8)).setCell (p := ⟨w.heap.size + 1 + 1, 6, none⟩) (Or.inl rfl) (.slice a8 n8 c8))
      have hS10 := Lib.hid (hS9.out.set_ 6 (.slice a8 n8 c8))
      have hN9 : Hid (Insts (W8.setCell ⟨w.heap.size + 1 + 1, 6, none⟩ (.slice a8 n8 c8)) (.slice a8 n8 c8) (extTo le xe (i + 1))) := Lib.hid (by
       rw [hnx.out]
       exact Sl.far hN8 (fun a e => by have := hA9.out a e; dsimp only; omega))
      clear hx8 hN8 hvA hS9 hN hA hK hx hS8 hR8 hn8 x9 xl9 v5 v6 vl g3 hb3
      go_wp2_with fail
      first
      | (refine ⟨⟨i + 1, n8, c8, a8, by omega, by go_num, hx9, hK9, hS10, hN9, hA9⟩, ?_⟩; simp [intOf]; omega)
      | (refine ⟨?_, ?_⟩
         · ((repeat apply Exists.intro); exact ⟨⟨i + 1, n8, c8, a8, by omega, by go_num, hx9, hK9, hS10, hN9, hA9⟩, rfl⟩)
         · simp [intOf]; omega)
     ·have hi3 : Hid (i = min xe.length 3) := Lib.hid (by omega)
      have d3 : (decide (i < xe.length) && decide ((i : Int) < 3)) = false := by
       rw [Bool.and_eq_false_iff]
       rcases Nat.lt_or_ge i xe.length with h | h
       ·exact Or.inr (decide_eq_false (by omega))
       ·exact Or.inl (decide_eq_false (by omega))
      have hB8 := Lib.hid (hK.out.blk hB7.out (by omega))
      have s0 : wq.cell? ⟨w.heap.size + 1 + 1, 0, none⟩ = some (.int .i64 me) := hS8.out.cell 0
      have s1 : wq.cell? ⟨w.heap.size + 1 + 1, 1, none⟩ = some (.int .i64 ro) := hS8.out.cell 1
      have s2 : wq.cell? ⟨w.heap.size + 1 + 1, 2, none⟩ = some (.int .i64 te) := hS8.out.cell 2
      have s3 : wq.cell? ⟨w.heap.size + 1 + 1, 3, none⟩ = some (.int .i64 si) := hS8.out.cell 3
      have s4 : wq.cell? ⟨w.heap.size + 1 + 1, 4, none⟩ = some (.slice (some ⟨g1 + 1 + 1, 0, none⟩) 1 1) := hS8.out.cell 4
      have s5 : wq.cell? ⟨w.heap.size + 1 + 1, 5, none⟩ = some (.int .i64 le) := hS8.out.cell 5
      have s6 : wq.cell? ⟨w.heap.size + 1 + 1, 6, none⟩ = some (.slice ea' en' ec') := hS8.out.cell 6
      have sl := hS8.out.lt
      have r0 : wq.cell? ⟨w.heap.size + 1, 0, none⟩ = some (.int .i64 0) := hB8.out.cell 0
      have r1 : wq.cell? ⟨w.heap.size + 1, 1, none⟩ = some (.int .i64 0) := hB8.out.cell 1
      have r2 : wq.cell? ⟨w.heap.size + 1, 2, none⟩ = some (.int .i64 0) := hB8.out.cell 2
      have r3 : wq.cell? ⟨w.heap.size + 1, 3, none⟩ = some (.int .i64 0) := hB8.out.cell 3
      have r4 : wq.cell? ⟨w.heap.size + 1, 4, none⟩ = some (.slice none 0 0) := hB8.out.cell 4
      have r5 : wq.cell? ⟨w.heap.size + 1, 5, none⟩ = some (.int .i64 0) := hB8.out.cell 5
      have r6 : wq.cell? ⟨w.heap.size + 1, 6, none⟩ = some (.slice none 0 0) := hB8.out.cell 6
      have f0 := hB8.out.frozen 0
      have f1 := hB8.out.frozen 1
      have f2 := hB8.out.frozen 2
      have f3 := hB8.out.frozen 3
      have f4 := hB8.out.frozen 4
      have f5 := hB8.out.frozen 5
      have f6 := hB8.out.frozen 6
      have rl := hB8.out.lt
      clear hlx
      go_wp2_with fail
      all_goals
       refine bodyPost_ret (madeStand_results rfl (((((((hB8.out.set_ 0 _).set_ 1 _).set_ 2 _).set_ 3 _).set_ 4 _).set_ 5 _).set_ 6 _)) rfl ?_
       have kq := keep7 wq (w.heap.size + 1) (.int .i64 me) (.int .i64 ro) (.int .i64 te) (.int .i64 si) (.slice (some ⟨g1 + 1 + 1, 0, none⟩) 1 1) (.int .i64 le) (.slice ea' en' ec')
       revert kq
       generalize ((((((wq.setCell ⟨w.heap.size + 1, 0, none⟩ (.int .i64 me)).setCell ⟨w.heap.size + 1, 1, none⟩ (.int .i64 ro)).setCell ⟨w.heap.size + 1, 2, none⟩ (.int .i64 te)).setCell ⟨w.heap.size + 1, 3, none⟩ (.int .i64 si)).setCell ⟨w.heap.size + 1, 4, none⟩ (.slice (some ⟨g1 + 1 + 1, 0, none⟩) 1 1)).setCell ⟨w.heap.size + 1, 5, none⟩ (.int .i64 le)).setCell ⟨w.heap.size + 1, 6, none⟩ (.slice ea' en' ec') = kR
       intro kq
       refine ⟨_, rfl, standV_mk hD.out hfr.out hkp.out hpD.out hmi.out hle.out ?_ hi3.out (Sl.keepX hN.out kq (fun a e hx => by have := hA.out a e; omega)), hx.out.keep kq (fun g hg e => by omega)⟩
       rw [if_neg hlc.out]
       exact hC7.out kR ((hK.out.mono (fun g _ e => Or.inr e)).trans (kq.mono (fun g _ e => Or.inl e)))
   | true =>
    have hlc : Hid (pD.cycle.length = 0) := Lib.hid (of_decide_eq_true hq.out)
    go_wp2_with fail
    refine wp_abs (S := fun W => Hid (Ext w W) ∧ Hid (Blk W w.heap.size 57 #[.int .u8 xm, .int .u8 xr, .int .u8 xt, .int .u8 xs, .int .u8 xf, .int .u8 xp, .int .u8 xc, .int .u8 xi, .int .u8 xl, .slice ea xe.length ec]) ∧
     Hid (Blk W (w.heap.size + 1) 52 #[.int .i64 0, .int .i64 0, .int .i64 0, .int .i64 0, .slice none 0 0, .int .i64 0, .slice none 0 0]) ∧ Hid (Blk W (w.heap.size + 1 + 1) 52 #[.int .i64 me, .int .i64 ro, .int .i64 te, .int .i64 si, .slice none 0 0, .int .i64 le, .slice none 0 0]) ∧
     Hid (∀ W', Keep (fun g => g = w.heap.size + 1 ∨ g = w.heap.size + 1 + 1) W W' → Classes W' (.slice none 0 0) [])) ⟨Lib.hid (hE6.out.setCell (p := ⟨w.heap.size + 1 + 1, 4, none⟩) (by dsimp only; omega) _), Lib.hid (hR6.out.far (p := ⟨w.heap.size + 1 + 1, 4, none⟩) (by dsimp only; omega) _), Lib.hid (hB6.out.far (p := ⟨w.heap.size + 1 + 1, 4, none⟩) (by dsimp only; omega) _), Lib.hid (hS6.out.set_ 4 _), Lib.hid (fun W' _ => classes_nil W')⟩ ?_
    clear hE6 hR6 hB6 hS6 hC6 v4 vf4 vl hq
    rintro W7 ⟨hE7, hR7, hB7, hS7, hC7⟩
    go_loopw [7, 8, 9] (fun v7 _ _ wr => ∃ (i en' ec' : Nat) (ea' : Option Addr), i ≤ min xe.length 3 ∧ v7 = .int .i64 i ∧ Hid (Ext w wr) ∧ Hid (Keep (fun g => g = w.heap.size + 1 + 1) W7 wr) ∧
     Hid (Blk wr (w.heap.size + 1 + 1) 52 #[.int .i64 me, .int .i64 ro, .int .i64 te, .int .i64 si, .slice none 0 0, .int .i64 le, .slice ea' en' ec']) ∧ Hid (Insts wr (.slice ea' en' ec') (extTo le xe i)) ∧ Hid (∀ a, ea' = some a → w.heap.size + 1 + 1 < a.block)) (fun v7 _ _ _ => min xe.length 3 - (intOf v7).toNat)
    case atStart => exact ⟨0, 0, 0, none, by omega, rfl, hE7, Lib.hid (Keep.refl _ _), hS7, Lib.hid ⟨none, 0, rfl, Nat.le_refl _, by unfold maxLen; omega, fun h => absurd h (by simp [extTo])⟩, Lib.hid (fun a e => by cases e)⟩
    case round =>
     obtain ⟨i, en', ec', ea', hi, rfl, hx, hK, hS8, hN, hA⟩ := hrel
     rename World => wq
     have hR8 := Lib.hid (hK.out.blk hR7.out (by omega))
     have x9 : wq.cell? ⟨w.heap.size, 9, none⟩ = some (.slice ea xe.length ec) := hR8.out.cell 9
     have xl9 := hR8.out.lt
     have hlx := extTo_len le xe i
     by_cases h1 : i < min xe.length 3
     ·have h1a : i < xe.length := by omega
      have d3 : decide ((i : Int) < 3) = true := decide_eq_true (by omega)
      obtain ⟨b3, o3, y, rfl, hb3, ey, y0, y1, g3⟩ := eat'.out i h1a wq hx.out
      have v5 : wq.cell? ⟨w.heap.size + 1 + 1, 5, none⟩ = some (.int .i64 le) := hS8.out.cell 5
      have v6 : wq.cell? ⟨w.heap.size + 1 + 1, 6, none⟩ = some (.slice ea' en' ec') := hS8.out.cell 6
      have vl := hS8.out.lt
      have hle1 := hleB.out
      have hnx : Hid (extTo le xe (i + 1) = insR (extX le y) (extTo le xe i)) := Lib.hid (by rw [extTo, ey.out]; rfl)
      clear ey
      go_wp2_with fail
      refine (insert_calls (.slice ea' en' ec') (extTo le xe i) (extX le y) wq hN.out (by omega)).mono ?_
      rintro e W8 ⟨v, rfl, hN8, hx8, hvA⟩
      obtain ⟨a8, c8, rfl⟩ := hN8.form
      obtain ⟨n8, hn8⟩ : ∃ n8, (insR (extX le y) (extTo le xe i)).length = n8 := ⟨_, rfl⟩
      rw [hn8] at hN8 hvA ⊢
      have hA9 : Hid (∀ a, a8 = some a → w.heap.size + 1 + 1 < a.block) := Lib.hid (fun a e => by
       rcases hvA with h | h
       ·cases h
        exact hA.out a e
       ·have := h a _ _ (by rw [e])
        omega)
      have hS9 := Lib.hid ((Keep.of_ext (X := fun _ => False) hx8).blk hS8.out id)
      have v60 : W8.cell? ⟨w.heap.size + 1 + 1, 6, none⟩ = some (.slice ea' en' ec') := hS9.out.cell 6
      have vf6 := hS9.out.frozen 6
      have vl6 := hS9.out.lt
      have hx9 := Lib.hid ((hx.out.trans hx8).setCell (p := ⟨w.heap.size + 1 + 1, 6, none⟩) (by dsimp only; omega) (.slice a8 n8 c8))
      have hK9 := Lib.hid ((hK.out.trans (Keep.of_ext hx8)).setCell (p := ⟨w.heap.size + 1 + 1, 6, none⟩) (Or.inl rfl) (.slice a8 n8 c8))
      have hS10 := Lib.hid (hS9.out.set_ 6 (.slice a8 n8 c8))
      have hN9 : Hid (Insts (W8.setCell ⟨w.heap.size + 1 + 1, 6, none⟩ (.slice a8 n8 c8)) (.slice a8 n8 c8) (extTo le xe (i + 1))) := Lib.hid (by
       rw [hnx.out]
       exact Sl.far hN8 (fun a e => by have := hA9.out a e; dsimp only; omega))
      clear hx8 hN8 hvA hS9 hN hA hK hx hS8 hR8 hn8 x9 xl9 v5 v6 vl g3 hb3
      go_wp2_with fail
      first
      | (refine ⟨⟨i + 1, n8, c8, a8, by omega, by go_num, hx9, hK9, hS10, hN9, hA9⟩, ?_⟩; simp [intOf]; omega)
      | (refine ⟨?_, ?_⟩
         · ((repeat apply Exists.intro); exact ⟨⟨i + 1, n8, c8, a8, by omega, by go_num, hx9, hK9, hS10, hN9, hA9⟩, rfl⟩)
         · simp [intOf]; omega)
     ·have hi3 : Hid (i = min xe.length 3) := Lib.hid (by omega)
      have d3 : (decide (i < xe.length) && decide ((i : Int) < 3)) = false := by
       rw [Bool.and_eq_false_iff]
       rcases Nat.lt_or_ge i xe.length with h | h
       ·exact Or.inr (decide_eq_false (by omega))
       ·exact Or.inl (decide_eq_false (by omega))
      have hB8 := Lib.hid (hK.out.blk hB7.out (by omega))
      have s0 : wq.cell? ⟨w.heap.size + 1 + 1, 0, none⟩ = some (.int .i64 me) := hS8.out.cell 0
      have s1 : wq.cell? ⟨w.heap.size + 1 + 1, 1, none⟩ = some (.int .i64 ro) := hS8.out.cell 1
      have s2 : wq.cell? ⟨w.heap.size + 1 + 1, 2, none⟩ = some (.int .i64 te) := hS8.out.cell 2
      have s3 : wq.cell? ⟨w.heap.size + 1 + 1, 3, none⟩ = some (.int .i64 si) := hS8.out.cell 3
      have s4 : wq.cell? ⟨w.heap.size + 1 + 1, 4, none⟩ = some (.slice none 0 0) := hS8.out.cell 4
      have s5 : wq.cell? ⟨w.heap.size + 1 + 1, 5, none⟩ = some (.int .i64 le) := hS8.out.cell 5
      have s6 : wq.cell? ⟨w.heap.size + 1 + 1, 6, none⟩ = some (.slice ea' en' ec') := hS8.out.cell 6
      have sl := hS8.out.lt
      have r0 : wq.cell? ⟨w.heap.size + 1, 0, none⟩ = some (.int .i64 0) := hB8.out.cell 0
      have r1 : wq.cell? ⟨w.heap.size + 1, 1, none⟩ = some (.int .i64 0) := hB8.out.cell 1
      have r2 : wq.cell? ⟨w.heap.size + 1, 2, none⟩ = some (.int .i64 0) := hB8.out.cell 2
      have r3 : wq.cell? ⟨w.heap.size + 1, 3, none⟩ = some (.int .i64 0) := hB8.out.cell 3
      have r4 : wq.cell? ⟨w.heap.size + 1, 4, none⟩ = some (.slice none 0 0) := hB8.out.cell 4
      have r5 : wq.cell? ⟨w.heap.size + 1, 5, none⟩ = some (.int .i64 0) := hB8.out.cell 5
      have r6 : wq.cell? ⟨w.heap.size + 1, 6, none⟩ = some (.slice none 0 0) := hB8.out.cell 6
      have f0 := hB8.out.frozen 0
      have f1 := hB8.out.frozen 1
      have f2 := hB8.out.frozen 2
      have f3 := hB8.out.frozen 3
      have f4 := hB8.out.frozen 4
      have f5 := hB8.out.frozen 5
      have f6 := hB8.out.frozen 6
      have rl := hB8.out.lt
      clear hlx
      go_wp2_with fail
      all_goals
       refine bodyPost_ret (madeStand_results rfl (((((((hB8.out.set_ 0 _).set_ 1 _).set_ 2 _).set_ 3 _).set_ 4 _).set_ 5 _).set_ 6 _)) rfl ?_
       have kq := keep7 wq (w.heap.size + 1) (.int .i64 me) (.int .i64 ro) (.int .i64 te) (.int .i64 si) (.slice none 0 0) (.int .i64 le) (.slice ea' en' ec')
       revert kq
       generalize ((((((wq.setCell ⟨w.heap.size + 1, 0, none⟩ (.int .i64 me)).setCell ⟨w.heap.size + 1, 1, none⟩ (.int .i64 ro)).setCell ⟨w.heap.size + 1, 2, none⟩ (.int .i64 te)).setCell ⟨w.heap.size + 1, 3, none⟩ (.int .i64 si)).setCell ⟨w.heap.size + 1, 4, none⟩ (.slice none 0 0)).setCell ⟨w.heap.size + 1, 5, none⟩ (.int .i64 le)).setCell ⟨w.heap.size + 1, 6, none⟩ (.slice ea' en' ec') = kR
       intro kq
       refine ⟨_, rfl, standV_mk hD.out hfr.out hkp.out hpD.out hmi.out hle.out ?_ hi3.out (Sl.keepX hN.out kq (fun a e hx => by have := hA.out a e; omega)), hx.out.keep kq (fun g hg e => by omega)⟩
       rw [if_pos hlc.out]
       exact hC7.out kR ((hK.out.mono (fun g _ e => Or.inr e)).trans (kq.mono (fun g _ e => Or.inl e)))
end Go.Proofs.YtepcdhpikpmepaaGreat
