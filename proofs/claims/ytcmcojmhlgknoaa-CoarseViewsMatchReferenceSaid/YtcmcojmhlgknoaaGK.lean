/- Walks: the reference's Made. -/
import Derived.Test.YtcmcojmhlgknoaaGJ
namespace Go.Proofs.Ytcmcojmhlgknoaa
open Go.RowKit

abbrev T16 := Int × Int × Int
def t16Ok (s : T16) : Prop := (0 ≤ s.1 ∧ s.1 ≤ 65535) ∧ (0 ≤ s.2.1 ∧ s.2.1 ≤ 65535) ∧ 0 ≤ s.2.2 ∧ s.2.2 ≤ 65535
/-- a slice of arrays of three numbers of 16 bits that reads as l -/
def Tri16 (w : World) (v : Value) (l : List T16) : Prop :=
  Sl w 3 v l.length (fun i j => .int .u16 (if j = 0 then (l[i]?.getD default).1 else if j = 1 then (l[i]?.getD default).2.1 else (l[i]?.getD default).2.2)) ∧ ∀ s ∈ l, t16Ok s
theorem Tri16.ext {w w' : World} {v : Value} {l : List T16} (h : Tri16 w v l) (e : Ext w w') : Tri16 w' v l := ⟨Sl.ext h.1 e, h.2⟩
def Tri16At (a : Option Addr) (w : World) (l : List T16) : Prop :=
  ∀ i, i < l.length → ∀ W, Ext w W → ∃ b off x y z, a = some ⟨b, off, none⟩ ∧ Hid (l[i]? = some (x, y, z)) ∧ (0 ≤ x ∧ x ≤ 65535) ∧ (0 ≤ y ∧ y ≤ 65535) ∧ (0 ≤ z ∧ z ≤ 65535) ∧ b < W.heap.size ∧
    W.cell? ⟨b, off + i * 3, none⟩ = some (.int .u16 x) ∧ W.cell? ⟨b, off + i * 3 + 1, none⟩ = some (.int .u16 y) ∧ W.cell? ⟨b, off + i * 3 + 2, none⟩ = some (.int .u16 z)
theorem Tri16.open {w : World} {v : Value} {l : List T16} (h : Tri16 w v l) :
    ∃ a c, v = .slice a l.length c ∧ l.length ≤ c ∧ c ≤ 9223372036854775807 ∧ Tri16At a w l := by
  obtain ⟨a, c, hv, hn, hc, h1⟩ := Sl.open h.1
  refine ⟨a, c, hv, hn, hc, fun i hi W e => ?_⟩
  obtain ⟨b, off, ha, hb, h2⟩ := h1 i hi
  have ex : l[i]? = some l[i] := by simp [hi]
  have hk := h.2 _ (List.mem_of_getElem? ex)
  generalize l[i] = s at ex hk
  obtain ⟨x, y, z⟩ := s
  refine ⟨b, off, x, y, z, ha, Lib.hid ex, hk.1, hk.2.1, hk.2.2, Nat.lt_of_lt_of_le hb e.size, ?_, ?_, ?_⟩
  · have := h2 W e 0 (by omega)
    simpa [ex] using this
  · have := h2 W e 1 (by omega)
    simpa [ex] using this
  · have := h2 W e 2 (by omega)
    simpa [ex] using this
theorem Tri16.form {w : World} {v : Value} {l : List T16} (h : Tri16 w v l) : ∃ a c, v = .slice a l.length c := let ⟨a, c, e, _⟩ := h.open; ⟨a, c, e⟩
def madeM (s : T16) : MarkD := ⟨s.1 % 2880 - 60, s.1 % 2880 - 60 + 1 + s.2.1 % 400, 1 + s.2.2 % 8⟩
def madeL (l : List T16) : List MarkD := (l.take 6).map madeM
theorem made_mark (s : T16) : markB (madeM s) = true := by
  rw [mark_iff, window_iff]
  unfold madeM
  dsimp only
  omega
theorem made_all (l : List T16) : (madeL l).all markB = true := List.all_eq_true.2 fun m hm => by
  obtain ⟨s, _, rfl⟩ := List.mem_map.1 hm
  exact made_mark s
theorem made_len (l : List T16) : (madeL l).length ≤ 6 := by simp [madeL]; omega
theorem made_range (l : List T16) : ∀ m ∈ madeL l, -60 ≤ m.f ∧ m.f ≤ 2819 ∧ m.f < m.t ∧ m.t ≤ m.f + 400 ∧ 1 ≤ m.k ∧ m.k ≤ 8 := fun m hm => by
  obtain ⟨s, _, rfl⟩ := List.mem_map.1 hm
  unfold madeM
  dsimp only
  omega
theorem reads_blkM {w : World} {g : Nat} {t : TypeId} {cs : Array Value} {size m : Nat} (h : Blk w g t cs) (hs : cs.size = m * size) : Reads w w.heap.size size (some ⟨g, 0, none⟩) m cs.toList :=
  ⟨by simp [hs], fun _ => ⟨⟨g, 0, none⟩, rfl, h.lt, fun j u hu => by
    have h1 := h.cell j
    rw [show (⟨g, 0, none⟩ : Addr).add j = ⟨g, j, none⟩ by unfold Addr.add; split <;> simp_all, h1]
    simpa using hu⟩⟩
set_option maxHeartbeats 3200000 in
set_option maxRecDepth 100000 in
theorem rMade_calls (va : Value) (l : List T16) (w : World) (h : Tri16 w va l) :
    Calls Try.prog 21 #[va] w fun e w' => ∃ v, e = .returned v ∧ MarksO w' w.heap.size v (madeL l) ∧ Ext w w' := by
  obtain ⟨a, c, rfl, hn, hc, hat⟩ := h.open
  have hat' := Lib.hid hat
  clear h hat
  obtain ⟨j0, hj0, jz0, jz1, jz2⟩ := info_parts mark_info
  go_enter Try.func21, Try.ntmps21
  go_wp2_with fail
  go_loopw [3, 4] (fun v3 vi wr => ∃ (i : Nat) (A : Option Addr) (C : Nat), i ≤ 6 ∧ i ≤ l.length ∧ v3 = .slice A i C ∧ vi = .int .i64 i ∧ Hid (Ext w wr) ∧ Hid (wr.ownsRow w.heap.size 47 3 (.slice A i C) i (markCells ((l.take i).map madeM)))) (fun _ vi _ => 6 - (intOf vi).toNat)
  case atStart => exact ⟨0, _, _, by omega, by omega, rfl, rfl, Lib.hid (by exact (by repeat' (first | (with_reducible exact Ext.refl _) | (with_reducible assumption) | (with_reducible refine Ext.drewN ?_ _) | (with_reducible refine Ext.drew ?_) | (with_reducible refine Ext.alloc ?_ _) | (with_reducible refine Ext.trans ?_ (by with_reducible assumption))))), Lib.hid (World.ownsRow_made w #[] 0 (Nat.le_refl _) (by unfold maxLen; omega) rfl)⟩
  case round =>
    obtain ⟨i, A, C, hi6, hi, rfl, rfl, hx, hO⟩ := hrel
    by_cases h1 : i < l.length
    · by_cases h2 : i < 6
      · obtain ⟨b, off, x, y, z, rfl, hxyz, hx1, hy1, hz1, hb, g0, g1, g2⟩ := hat'.out i h1 wr hx.out
        obtain ⟨hx0, hx1⟩ := hx1
        obtain ⟨hy0, hy1⟩ := hy1
        obtain ⟨hz0, hz1⟩ := hz1
        have e1 : x.tmod 2880 = x % 2880 := Int.tmod_eq_emod_of_nonneg hx0
        have e2 : y.tmod 400 = y % 400 := Int.tmod_eq_emod_of_nonneg hy0
        have e3 : z.tmod 8 = z % 8 := Int.tmod_eq_emod_of_nonneg hz0
        have hnext : Hid (markCells ((l.take (i + 1)).map madeM) = markCells ((l.take i).map madeM) ++ [.int .i64 (x % 2880 - 60), .int .i64 (x % 2880 - 60 + 1 + y % 400), .int .i64 (1 + z % 8)]) := by
          show _ = _
          rw [takeStep hxyz.out, List.map_append, markCells_app]
          rfl
        have z0 := After.cell g0
        have z1 := After.cell g1
        have z2 := After.cell g2
        clear hxyz
        go_upto_region 6 with (fail)
        clear g0 g1 g2
        obtain ⟨f, hf⟩ : ∃ f, x % 2880 - 60 = f := ⟨_, rfl⟩
        have hf1 : -60 ≤ f := by omega
        have hf2 : f ≤ 2819 := by omega
        rw [hf] at hnext ⊢
        clear hf
        (refine wp_region_held [] [0, 1, 2, 3, 4, 5, 6, 7, 8, 9, 10, 11, 12, 13, 14, 15, 16, 17, 18, 19, 20, 21, 22] [23, 24] (fun _ _ _ => True) (by kernel_rfl) (by kernel_rfl) ?_; simp only [pickL]; with_reducible refine wpQuiet_nil ?_)
        (refine held_quiet [0, 1, 2, 3, 4, 5, 6, 7, 8, 9, 10, 11, 12, 13, 14, 15, 16, 17, 18, 19, 20, 21] [22] (by kernel_rfl) (by kernel_rfl) ?_; simp only [pickL, List.drop]; (repeat (go_big_quiet_step (fail))); with_reducible refine wpQuiet_nil ?_)
        (refine held_made 22 [] rfl (by kernel_rfl) (fun g => .slice (some ⟨g, 0, none⟩) 1 1) (.cells #[.int .i64 f, .int .i64 (f + 1 + y % 400), .int .i64 (1 + z % 8)] 47) (fun W => by kernel_rfl) (fun g g2 e => by cases e; rfl) (fun g => rfl) ?_)
        intro gs
        simp only [Act.put, List.setIfInBounds_toArray, List.set_cons_succ, List.set_cons_zero]
        intro V hxv hfc ht Q0 hQ0
        have h7 := (hfc 22).2 rfl
        have b7 : Blk V gs 47 #[.int .i64 f, .int .i64 (f + 1 + y % 400), .int .i64 (1 + z % 8)] := h7.1
        have hsrc := Lib.hid (reads_blkM (size := 3) (m := 1) b7 rfl)
        have hOV := Lib.hid (owns_ext hO.out hxv)
        have hXV := Lib.hid (hx.out.trans hxv)
        have hsz : w.heap.size ≤ V.heap.size := hXV.out.size
        simp only [pickL, List.drop]
        clear hfc ht h7 b7 z0 z1 z2 hO hx hxv
        go_wp2_with (at_builtin; refine wpList_append_any _ rfl (.tmp 25) (.tmp 47) _ rfl w.heap.size 47 j0 _ 3 24 Try.underlying37 hj0 jz0 jz1 jz2 rfl (by decide) (.slice A i C) i _ rfl hOV.out V.heap.size (some ⟨gs, 0, none⟩) 1 1 _ rfl hsrc.out (three_ints _ _ _) (by unfold maxLen; omega) (by omega) hsz ?_; intro v5 w5 hown5 hg5 hat5; obtain ⟨A5, C5, rfl⟩ := owns_form hown5)
        have hO5 : Hid (w5.ownsRow w.heap.size 47 3 (.slice A5 (i + 1) C5) (i + 1) (markCells ((l.take (i + 1)).map madeM))) := by rw [hnext.out]; exact Lib.hid hown5
        have hx5 := Lib.hid (hXV.out.grown hg5 (fun k e => (hOV.out.lt k e).1))
        clear hown5 hg5 hat5 hOV hXV hnext
        go_wp2
        go_roundw
        case rel => first | exact ⟨i + 1, A5, C5, by omega, h1, rfl, by go_num, hx5, hO5⟩ | ((repeat apply Exists.intro); exact ⟨⟨i + 1, A5, C5, by omega, h1, rfl, by go_num, hx5, hO5⟩, rfl⟩)
        case measure => simp [intOf]; omega
      · have htk : l.take 6 = l.take i := by rw [show i = 6 by omega]
        go_wp2
        go_ret
        refine ⟨_, rfl, ?_, hx.out⟩
        have h9 := hO.out
        have e9 : madeL l = (l.take i).map madeM := by unfold madeL; rw [htk]
        have e8 : (madeL l).length = i := by rw [e9, List.length_map, List.length_take]; omega
        unfold MarksO
        rw [e8, e9]
        exact h9
    · have htk : l.take 6 = l.take i := by rw [List.take_of_length_le (by omega), List.take_of_length_le (by omega)]
      go_wp2
      go_ret
      refine ⟨_, rfl, ?_, hx.out⟩
      have h9 := hO.out
      have e9 : madeL l = (l.take i).map madeM := by unfold madeL; rw [htk]
      have e8 : (madeL l).length = i := by rw [e9, List.length_map, List.length_take]; omega
      unfold MarksO
      rw [e8, e9]
      exact h9

/-! ### two, sees -/
def twoL : List MarkD := [⟨10, 40, 1⟩, ⟨1400, 1500, 3⟩]
theorem marks_of_blk {w : World} {g : Nat} {l : List MarkD} (h : Blk w g 47 (markCells l).toArray) (hl : l.length ≤ maxLen) : Marks w (.slice (some ⟨g, 0, none⟩) l.length l.length) l := by
  refine ⟨_, l.length, rfl, Nat.le_refl _, hl, fun _ => ⟨g, 0, rfl, h.lt, fun i hi j hj => ?_⟩⟩
  rw [h.cell, Nat.zero_add]
  have := markCells_at l i hi j hj
  simpa using this
theorem two_calls (w : World) : Calls Try.prog 32 #[] w fun e w' => ∃ v, e = .returned v ∧ Marks w' v twoL ∧ Ext w w' := by
  go_enter Try.func32, Try.ntmps32
  go_wp2
  go_ret
  exact ⟨_, rfl, marks_of_blk (l := twoL) (blk_new' rfl rfl) (by decide), (by repeat' (first | (with_reducible exact Ext.refl _) | (with_reducible assumption) | (with_reducible refine Ext.drewN ?_ _) | (with_reducible refine Ext.drew ?_) | (with_reducible refine Ext.alloc ?_ _) | (with_reducible refine Ext.trans ?_ (by with_reducible assumption))))⟩
theorem sees_calls (g f t : Int) (vb : Value) (l : List Nat) (w : World) (hb : Nums w vb l) (hv : viewG twoL g f t = (l, 0)) :
    Calls Try.prog 33 #[.int .i64 g, .int .i64 f, .int .i64 t, vb] w fun e w' => e = .returned (.bool true) ∧ Ext w w' := by
  have hB := Lib.hid hb
  obtain ⟨bA, bC, rfl⟩ := hb.form
  have hview : Hid (∀ (v : Value) (W : World), Marks W v twoL → Calls Try.prog 25 #[v, .int .i64 g, .agg #[.int .i64 f, .int .i64 t]] W fun e w' => ∃ u, e = .returned (.tuple #[u, .int .i64 0]) ∧ Nums w' u l ∧ Ext W w') := fun v W hm => by
    have := view_calls v twoL g f t W hm
    rwa [hv] at this
  clear hb hv
  go_enter Try.func33, Try.ntmps33
  go_wp2_with fail
  refine (two_calls _).mono ?_
  rintro e w1 ⟨v1, rfl, hm1, hx1⟩
  obtain ⟨mA, mC, rfl⟩ := hm1.form
  have hM := Lib.hid hm1
  clear hm1
  go_wp2_with fail
  refine (hview.out _ _ hM.out).mono ?_
  rintro e w2 ⟨u, rfl, hu, hx2⟩
  obtain ⟨uA, uC, rfl⟩ := hu.form
  have hU := Lib.hid hu
  have hE := Lib.hid (hx1.trans hx2)
  clear hu hM hview hx1 hx2
  go_wp2_with fail
  refine (rNumbers_calls _ _ l l _ hU.out (hB.out.ext hE.out)).mono ?_
  rintro e w3 ⟨rfl, hx3⟩
  rw [show decide (l = l) = true by simp]
  go_wp2
  go_ret
  exact ⟨rfl, hE.out.trans hx3⟩
end Go.Proofs.Ytcmcojmhlgknoaa
