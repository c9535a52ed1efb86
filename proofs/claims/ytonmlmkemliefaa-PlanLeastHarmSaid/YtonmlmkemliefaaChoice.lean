/- The reference's makers: Choice. -/
import Derived.Test.YtonmlmkemliefaaMadeB
namespace Go.Proofs.Ytonmlmkemliefaa
open Go.RowKit

/-- A slice of bytes. -/
def Bytes (w : World) (v : Value) (l : List Int) : Prop := Sl w 1 v l.length (fun i _ => .int .u8 (l[i]?.getD 0)) ∧ ∀ x ∈ l, byteB x
theorem Bytes.ext {w w' : World} {v : Value} {l : List Int} (h : Bytes w v l) (e : Ext w w') : Bytes w' v l := ⟨Sl.ext h.1 e, h.2⟩
def BytesAt (a : Option Addr) (w : World) (l : List Int) : Prop :=
  ∀ i, i < l.length → ∀ W, Ext w W → ∃ b off x, a = some ⟨b, off, none⟩ ∧ b < W.heap.size ∧ Hid (l[i]? = some x) ∧ 0 ≤ x ∧ x ≤ 255 ∧ W.cell? ⟨b, off + i, none⟩ = some (.int .u8 x)
theorem Bytes.open {w : World} {v : Value} {l : List Int} (h : Bytes w v l) :
    ∃ a c, v = .slice a l.length c ∧ l.length ≤ c ∧ c ≤ 9223372036854775807 ∧ BytesAt a w l := by
  obtain ⟨h, hb⟩ := h
  obtain ⟨a, c, hv, hn, hc, h⟩ := Sl.open h
  refine ⟨a, c, hv, hn, hc, fun i hi W e => ?_⟩
  obtain ⟨b, off, ha, hbl, h⟩ := h i hi
  have ex : l[i]? = some l[i] := List.getElem?_eq_getElem hi
  have hx := hb l[i] (List.getElem_mem hi)
  refine ⟨b, off, l[i], ha, Nat.lt_of_lt_of_le hbl e.size, ex, hx.1, hx.2, ?_⟩
  have := h W e 0 (by omega)
  simpa [ex] using this

def choiceAt (t : List WishD) (x : List Int) (i : Nat) : Int := if i < x.length then x[i]?.getD 0 % ((t[i]?.getD default).opts.length : Int) else 0
def choiceTo (t : List WishD) (x : List Int) (i : Nat) : List Int := (List.range i).map (choiceAt t x)
def choiceT (t : List WishD) (x : List Int) : List Int := choiceTo t x t.length
theorem choiceTo_step (t : List WishD) (x : List Int) (i : Nat) : choiceTo t x (i + 1) = choiceTo t x i ++ [choiceAt t x i] := by simp [choiceTo, List.range_succ]
theorem choiceTo_len (t : List WishD) (x : List Int) (i : Nat) : (choiceTo t x i).length = i := by simp [choiceTo]

theorem IntsO.push {w w1 : World} {v v1 : Value} {l : List Int} {x : Int} {n B : Nat} (_ : IntsO w B v l) (hn : n = l.length) (hown : w1.ownsRow B 3 1 v1 (n + 1) (l.map (Value.int .i64) ++ [.int .i64 x])) : IntsO w1 B v1 (l ++ [x]) := by
  unfold IntsO
  rw [List.length_append, ← hn, List.map_append]
  exact hown
/-- a row of its own, appended to: nothing old has turned -/
theorem Ext.push {w W w1 : World} {e : TypeId} {size n : Nat} {v : Value} {xs : List Value} (h : Ext w W) (ho : W.ownsRow w.heap.size e size v n xs) (o : Obj) (hg : (W.alloc o).grownBy w1 v.ownBlock) : Ext w w1 :=
  (h.alloc o).grown hg fun g e => (ho.lt g e).1

set_option maxHeartbeats 1600000 in
set_option maxRecDepth 100000 in
theorem choice_calls (tv xv : Value) (t : List WishD) (x : List Int) (w : World) (h : Wishes w tv t) (hx : Bytes w xv x) (hne : ∀ y ∈ t, 0 < y.opts.length) (hfew : t.length ≤ 1000) :
    Calls Try.prog 31 #[.agg #[tv], xv] w fun e w' => ∃ v, e = .returned v ∧ IntsO w' w.heap.size v (choiceT t x) ∧ Ext w w' := by
  obtain ⟨ta, tc, rfl, hn, hc, hat⟩ := h.open
  obtain ⟨xa, xc, rfl, hxn, hxc, hxat⟩ := hx.open
  obtain ⟨j0, hj0, jz0, jz1, jz2⟩ := info_parts int_info
  have hat' := Lib.hid hat
  have hxat' := Lib.hid hxat
  have hne' := Lib.hid hne
  clear h hx hat hxat hne
  go_enter Try.func31, Try.ntmps31
  go_wp2_with fail
  refine wp_abs (S := fun W => Hid (Ext w W) ∧ Hid (Blk W w.heap.size 26 #[.slice ta t.length tc]) ∧ IntsO W w.heap.size (.slice (some ⟨w.heap.size + 1, 0, none⟩) 0 0) []) ?_ ?_
  · refine ⟨Lib.hid (by exact (by repeat' (first | (with_reducible exact Ext.refl _) | (with_reducible assumption) | (with_reducible refine Ext.drewN ?_ _) | (with_reducible refine Ext.drew ?_) | (with_reducible refine Ext.alloc ?_ _) | (with_reducible refine Ext.trans ?_ (by with_reducible assumption))))), Lib.hid (Blk.alloc (blk_new' rfl rfl) _), ?_⟩
    have := World.ownsRow_made (base := w.heap.size) (e := 3) (size := 1) (w.alloc (.cells #[.slice ta t.length tc] 26)) #[] 0 (by rw [World.size_alloc]; omega) (by unfold maxLen; omega) rfl
    rw [World.size_alloc] at this
    exact this
  rintro W1 ⟨hx1, hB1, ho1⟩
  have ho1' := Lib.hid ho1
  clear ho1
  go_loopw [5, 6] (fun vo vi wr => ∃ (i : Nat), i ≤ t.length ∧ vi = .int .i64 i ∧ Hid (Ext w wr) ∧ Hid (Blk wr w.heap.size 26 #[.slice ta t.length tc]) ∧ Hid (IntsO wr w.heap.size vo (choiceTo t x i))) (fun _ vi _ => t.length - (intOf vi).toNat)
  case atStart => exact ⟨0, by omega, rfl, hx1, hB1, ho1'⟩
  case round =>
    clear hx1 hB1 ho1'
    obtain ⟨i, hi, rfl, hxw, hB, hO⟩ := hrel
    have d0 : wr.cell? ⟨w.heap.size, 0, none⟩ = some (.slice ta t.length tc) := hB.out.cell 0
    have hcl := choiceTo_len t x i
    have hrow := hO.out
    unfold IntsO at hrow
    rw [hcl] at hrow
    obtain ⟨A, C, rfl⟩ := owns_form hrow
    have hrow' := Lib.hid hrow
    have hcl' := Lib.hid hcl.symm
    have lw := hxw.out.size
    clear hcl hrow
    by_cases h1 : i < t.length
    · obtain ⟨b1, o1, y, pa, pc, oa, oc, rfl, hb1, dy, ey, g0, g1, g2, gp, go⟩ := hat'.out i h1 wr hxw.out
      have hol := go.len
      clear gp go
      have hy0 := hne'.out y (List.mem_of_getElem? ey.out)
      by_cases h2 : i < x.length
      · obtain ⟨b2, o2, z, rfl, hb2, ez, z0, z1, k0⟩ := hxat'.out i h2 wr hxw.out
        have hm0 : 0 ≤ z % (y.opts.length : Int) := Int.emod_nonneg _ (by omega)
        have hm1 : z % (y.opts.length : Int) < (y.opts.length : Int) := Int.emod_lt_of_pos _ (by omega)
        go_wp2_with fail
        have q0 := After.cell d0
        have q1 := After.cell g2
        have q2 := After.cell k0
        clear d0 g0 g1 g2 k0
        refine wp_region_after (by kernel_rfl) (by kernel_rfl) ?_
        repeat (go_big_quiet_step (fail))
        refine wpQuiet_nil ?_
        rintro _ ⟨u, rfl⟩
        have hxv := u.ext
        generalize u.world = V at hxv ⊢
        clear q0 q1 q2
        have hstep : Hid (choiceTo t x (i + 1) = choiceTo t x i ++ [(z % (y.opts.length : Int))]) := by
          show _ = _
          rw [choiceTo_step]
          simp only [choiceAt]
          rw [if_pos h2, ez.out, ey.out]; rfl
        have hW := Lib.hid hxv
        have hrowV := Lib.hid (owns_ext hrow'.out hxv)
        have hsz := hxv.size
        clear hxv
        go_wp2_with (at_builtin; refine wpList_append_any _ rfl (.tmp 33) (.tmp 35) _ rfl w.heap.size 3 j0 _ 1 8 Try.underlying28 hj0 jz0 jz1 jz2 rfl (by decide) (.slice A i C) i _ rfl (hrowV.out.alloc _) (V.heap.size + 1) (some ⟨V.heap.size, 0, none⟩) 1 1 [.int .i64 (z % (y.opts.length : Int))] rfl (reads_last _ #[_] _ 1 1 _ _ (by simp) (by omega) rfl) (one_int _) (by unfold maxLen; omega) (by omega) (by rw [World.size_alloc]; omega) ?_; intro v1 w1 hown1 hg1 hat1; have hN := Lib.hid (IntsO.push hO.out hcl'.out hown1); have hE := Lib.hid (Ext.push (hxw.out.trans hW.out) hrowV.out _ hg1); have hB2 := Lib.hid ((Blk.alloc ((Keep.of_ext (X := fun _ => False) hW.out).blk hB.out id) _).grown hg1 (Ne.symm (own_blk_ne hrow'.out hB.out (by decide)))); clear hg1 hat1 hown1)
        rw [← hstep.out] at hN
        go_roundw
        case rel => exact ⟨i + 1, by omega, by go_num, hE, hB2, hN⟩
        case measure => simp [intOf]; omega
      · have hxv := Ext.refl wr
        have hstep : Hid (choiceTo t x (i + 1) = choiceTo t x i ++ [0]) := by
          show _ = _
          rw [choiceTo_step]
          simp only [choiceAt]
          rw [if_neg h2]
        have hW := Lib.hid hxv
        have hrowV := Lib.hid (owns_ext hrow'.out hxv)
        have hsz := hxv.size
        clear hxv
        go_wp2_with (at_builtin; refine wpList_append_any _ rfl (.tmp 33) (.tmp 35) _ rfl w.heap.size 3 j0 _ 1 8 Try.underlying28 hj0 jz0 jz1 jz2 rfl (by decide) (.slice A i C) i _ rfl (hrowV.out.alloc _) (wr.heap.size + 1) (some ⟨wr.heap.size, 0, none⟩) 1 1 [.int .i64 0] rfl (reads_last _ #[_] _ 1 1 _ _ (by simp) (by omega) rfl) (one_int _) (by unfold maxLen; omega) (by omega) (by rw [World.size_alloc]; omega) ?_; intro v1 w1 hown1 hg1 hat1; have hN := Lib.hid (IntsO.push hO.out hcl'.out hown1); have hE := Lib.hid (Ext.push (hxw.out.trans hW.out) hrowV.out _ hg1); have hB2 := Lib.hid ((Blk.alloc ((Keep.of_ext (X := fun _ => False) hW.out).blk hB.out id) _).grown hg1 (Ne.symm (own_blk_ne hrow'.out hB.out (by decide)))); clear hg1 hat1 hown1)
        rw [← hstep.out] at hN
        go_roundw
        case rel => exact ⟨i + 1, by omega, by go_num, hE, hB2, hN⟩
        case measure => simp [intOf]; omega
    · obtain rfl : i = t.length := by omega
      go_wp2
      go_ret
      exact ⟨_, rfl, hO.out, hxw.out⟩
end Go.Proofs.Ytonmlmkemliefaa
