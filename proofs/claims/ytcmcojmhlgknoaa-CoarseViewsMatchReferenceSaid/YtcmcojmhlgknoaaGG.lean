/- Walks of package coarse: possible, Witness. -/
import Derived.Test.YtcmcojmhlgknoaaGF
namespace Go.Proofs.Ytcmcojmhlgknoaa
open Go.RowKit

set_option maxHeartbeats 400000 in
theorem indexFunc_intC_calls (va q : Value) (l : List Int) (g : Nat) (hg : ∀ (x : Array Value) (W : World), (callFunc g x).run Try.prog W = .ok (.enter g x) W) (p : Int → Bool) (w : World) (h : Ints w va l)
    (hf : ∀ s ∈ l, ∀ W, Ext w W → Calls Try.prog g #[.int .i64 s, q] W fun e w' => e = .returned (.bool (p s)) ∧ Ext W w') :
    Calls Try.prog 63 #[va, .func (.func g) #[] #[q]] w fun e w' => e = .returned (.int .i64 (findI p l)) ∧ Ext w w' := by
  obtain ⟨a, c, rfl, hn, hc, hat⟩ := h.open
  clear h
  have hf' := Lib.hid hf
  clear hf
  go_enter Try.func63, Try.ntmps63
  go_wp2_with fail
  go_loopw [8] (fun vi wr => ∃ i : Nat, i ≤ l.length ∧ vi = .int .i64 i ∧ Ext w wr ∧ Hid (FindAt p l i)) (fun vi _ => l.length - (intOf vi).toNat)
  case atStart => exact ⟨0, by omega, rfl, Ext.refl _, FindAt.zero _ _⟩
  case round =>
    obtain ⟨i, hi, rfl, hx, hF⟩ := hrel
    by_cases h1 : i < l.length
    · obtain ⟨b1, o1, x, rfl, hb1, dx, ex, g1⟩ := hat i h1 wr hx
      have hm : x ∈ l := List.mem_of_getElem? ex.out
      have hcall := Lib.hid (hf'.out x hm wr hx)
      cases hp : p x with
      | true =>
        have R := Lib.hid (hF.out.hit ex.out hp)
        have hp' := Lib.hid hp
        clear hp
        go_wp2_with fail
        refine hcall.out.mono ?_
        rintro e w1 ⟨rfl, hx1⟩
        rw [hp'.out]
        go_wp2
        go_ret
        rw [R.out]
        exact ⟨rfl, hx.trans hx1⟩
      | false =>
        have R := Lib.hid (hF.out.miss ex.out hp)
        have hp' := Lib.hid hp
        clear hp
        go_wp2_with fail
        refine hcall.out.mono ?_
        rintro e w1 ⟨rfl, hx1⟩
        rw [hp'.out]
        go_wp2
        go_roundw
        case rel => exact ⟨i + 1, by omega, by go_num, hx.trans hx1, R⟩
        case measure => simp [intOf]; omega
    · have R := Lib.hid (hF.out.none (by omega))
      go_wp2
      go_ret
      rw [R.out]
      exact ⟨rfl, hx⟩

theorem containsFunc_intC_calls (va q : Value) (l : List Int) (g : Nat) (hg : ∀ (x : Array Value) (W : World), (callFunc g x).run Try.prog W = .ok (.enter g x) W) (p : Int → Bool) (w : World) (h : Ints w va l)
    (hf : ∀ s ∈ l, ∀ W, Ext w W → Calls Try.prog g #[.int .i64 s, q] W fun e w' => e = .returned (.bool (p s)) ∧ Ext W w') :
    Calls Try.prog 53 #[va, .func (.func g) #[] #[q]] w fun e w' => e = .returned (.bool (l.any p)) ∧ Ext w w' := by
  have hc := Lib.hid (indexFunc_intC_calls va q l g hg p w h hf)
  have R := Lib.hid (findI_ge p l)
  clear hf h
  go_enter Try.func53, Try.ntmps53
  go_wp2_with fail
  refine hc.out.mono ?_
  rintro e w1 ⟨rfl, hx1⟩
  go_wp2
  go_ret
  rw [R.out]
  exact ⟨rfl, hx1⟩


/-! ### possible -/
def mostG (g : Int) : Int := if 3 ≤ g then 255 else 1
def badX (most x : Int) : Bool := decide (x < 0) || decide (most < x)
def possB (view : List Int) (g n : Int) : Bool := decide ((view.length : Int) = n) && !view.any (badX (mostG g))
theorem possible1_calls (b : Nat) (most x : Int) (w : World) (h : w.cell? ⟨b, 0, none⟩ = some (.int .i64 most)) :
    Calls Try.prog 54 #[.int .i64 x, .pointer (some ⟨b, 0, none⟩)] w fun e w' => e = .returned (.bool (badX most x)) ∧ Ext w w' := by
  by_cases h1 : x < 0
  · have d1 : decide (x < 0) = true := decide_eq_true h1
    have R : Hid (badX most x = true) := by show _ = _; unfold badX; rw [d1]; rfl
    go_enter Try.func54, Try.ntmps54
    go_wp2
    go_ret
    rw [R.out]
    exact ⟨rfl, Ext.refl _⟩
  · have d1 : decide (x < 0) = false := decide_eq_false h1
    have R : Hid (badX most x = decide (most < x)) := by show _ = _; unfold badX; rw [d1]; rfl
    go_enter Try.func54, Try.ntmps54
    go_wp2
    go_ret
    rw [R.out]
    exact ⟨rfl, Ext.refl _⟩
set_option maxHeartbeats 800000 in
theorem possible_calls (va : Value) (view : List Int) (g n : Int) (w : World) (h : Ints w va view) :
    Calls Try.prog 35 #[va, .int .i64 g, .int .i64 n] w fun e w' => e = .returned (.bool (possB view g n)) ∧ Ext w w' := by
  have hI := Lib.hid h
  obtain ⟨a, c, rfl, _⟩ := h.open
  clear h
  obtain ⟨q, hq⟩ : ∃ q, Hid (view.any (badX (mostG g)) = q) := ⟨_, rfl⟩
  have hcall : Hid (∀ (b : Nat) (W : World), Ext w W → W.cell? ⟨b, 0, none⟩ = some (.int .i64 (mostG g)) → Calls Try.prog 53 #[.slice a view.length c, .func (.func 54) #[] #[.pointer (some ⟨b, 0, none⟩)]] W fun e w' => e = .returned (.bool q) ∧ Ext W w') := fun b W hW hb => by
    rw [← hq.out]
    exact containsFunc_intC_calls _ _ view 54 (fun _ _ => by kernel_rfl) _ W (hI.out.ext hW) (fun s _ W' hW' => possible1_calls b _ s W' (hW'.cell hb))
  obtain ⟨d, hd⟩ : ∃ d, (decide ((view.length : Int) = n)) = d := ⟨_, rfl⟩
  have hd' : ((view.length : Int) == n) = d := by rw [← hd, Bool.eq_iff_iff, beq_iff_eq, decide_eq_true_iff]
  have R : Hid (possB view g n = (d && !q)) := by show _ = _; unfold possB; rw [hd, hq.out]
  clear hd hq
  by_cases h3 : 3 ≤ g
  · have d3 : decide (3 ≤ g) = true := decide_eq_true h3
    have hm : mostG g = 255 := if_pos h3
    cases d with
    | false =>
      clear hcall
      go_enter Try.func35, Try.ntmps35
      go_wp2
      go_ret
      rw [R.out]
      exact ⟨rfl, (by repeat' (first | (with_reducible exact Ext.refl _) | (with_reducible assumption) | (with_reducible refine Ext.drewN ?_ _) | (with_reducible refine Ext.drew ?_) | (with_reducible refine Ext.alloc ?_ _) | (with_reducible refine Ext.trans ?_ (by with_reducible assumption))))⟩
    | true =>
      go_enter Try.func35, Try.ntmps35
      go_wp2_with fail
      refine (hcall.out _ _ (by repeat' (first | (with_reducible exact Ext.refl _) | (with_reducible assumption) | (with_reducible refine Ext.drewN ?_ _) | (with_reducible refine Ext.drew ?_) | (with_reducible refine Ext.alloc ?_ _) | (with_reducible refine Ext.trans ?_ (by with_reducible assumption)))) (by rw [hm]; simp)).mono ?_
      rintro e w1 ⟨rfl, hx1⟩
      go_wp2
      go_ret
      rw [R.out]
      exact ⟨by simp, ((Ext.refl w).alloc _).trans hx1⟩
  · have d3 : decide (3 ≤ g) = false := decide_eq_false h3
    have hm : mostG g = 1 := if_neg h3
    cases d with
    | false =>
      clear hcall
      go_enter Try.func35, Try.ntmps35
      go_wp2
      go_ret
      rw [R.out]
      exact ⟨rfl, (by repeat' (first | (with_reducible exact Ext.refl _) | (with_reducible assumption) | (with_reducible refine Ext.drewN ?_ _) | (with_reducible refine Ext.drew ?_) | (with_reducible refine Ext.alloc ?_ _) | (with_reducible refine Ext.trans ?_ (by with_reducible assumption))))⟩
    | true =>
      go_enter Try.func35, Try.ntmps35
      go_wp2_with fail
      refine (hcall.out _ _ (by repeat' (first | (with_reducible exact Ext.refl _) | (with_reducible assumption) | (with_reducible refine Ext.drewN ?_ _) | (with_reducible refine Ext.drew ?_) | (with_reducible refine Ext.alloc ?_ _) | (with_reducible refine Ext.trans ?_ (by with_reducible assumption)))) (by rw [hm]; simp)).mono ?_
      rintro e w1 ⟨rfl, hx1⟩
      go_wp2
      go_ret
      rw [R.out]
      exact ⟨by simp, ((Ext.refl w).alloc _).trans hx1⟩

/-! ### Witness -/
def bitB (x : Int) (k : Nat) : Bool := decide (x / 2 ^ k % 2 = 1)
def cellM (g f : Int) (i : Nat) (x : Int) (n : Nat) : List MarkD := (List.range n).filterMap fun k => if bitB x k then some ⟨f + i * sizeG g, f + (i + 1) * sizeG g, (k : Int) + 1⟩ else none
def witL (g f : Int) (view : List Int) (n : Nat) : List MarkD := (List.range n).flatMap fun j => cellM g f j (view[j]?.getD 0) 8
def witG (view : List Int) (g f t : Int) : List MarkD × Int :=
  if (cellsG g f t).2 = 0 then (if possB view g (cellsG g f t).1 then (witL g f view view.length, 0) else ([], 1)) else ([], (cellsG g f t).2)
theorem witL_succ {g f : Int} {view : List Int} {i : Nat} {x : Int} (h : view[i]? = some x) : witL g f view (i + 1) = witL g f view i ++ cellM g f i x 8 := by
  simp [witL, List.range_succ, h]
theorem cellM_yes {g f : Int} {i : Nat} {x : Int} {k : Nat} (h : bitB x k = true) : cellM g f i x (k + 1) = cellM g f i x k ++ [⟨f + i * sizeG g, f + (i + 1) * sizeG g, (k : Int) + 1⟩] := by
  simp [cellM, List.range_succ, h]
theorem cellM_no {g f : Int} {i : Nat} {x : Int} {k : Nat} (h : bitB x k = false) : cellM g f i x (k + 1) = cellM g f i x k := by
  simp [cellM, List.range_succ, h]
/-- marks in memory of the call's own -/
def markCells (l : List MarkD) : List Value := l.flatMap fun m => [.int .i64 m.f, .int .i64 m.t, .int .i64 m.k]
theorem markCells_app (a b : List MarkD) : markCells (a ++ b) = markCells a ++ markCells b := by simp [markCells]
theorem markCells_len (l : List MarkD) : (markCells l).length = l.length * 3 := by
  induction l with
  | nil => rfl
  | cons m l ih => simp only [markCells, List.flatMap_cons, List.length_append, List.length_cons, List.length_nil] at ih ⊢; omega
theorem markCells_at : ∀ (l : List MarkD) (i : Nat), i < l.length → ∀ j, j < 3 → (markCells l)[i * 3 + j]? = some (.int .i64 (markCell (l[i]?.getD default) j))
  | [], _, h, _, _ => absurd h (Nat.not_lt_zero _)
  | m :: l, 0, _, j, hj => by
    rcases j with _ | _ | _ | j
    · rfl
    · rfl
    · rfl
    · omega
  | m :: l, i + 1, h, j, hj => by
    have ih := markCells_at l i (by simpa using h) j hj
    have e : (i + 1) * 3 + j = (i * 3 + j) + 3 := by omega
    rw [e]
    simpa [markCells] using ih
def MarksO (w : World) (B : Nat) (v : Value) (l : List MarkD) : Prop := w.ownsRow B 47 3 v l.length (markCells l)
theorem MarksO.read {w : World} {B : Nat} {v : Value} {l : List MarkD} (h : MarksO w B v l) : Marks w v l := sl_of_owns h fun i hi j hj => markCells_at l i hi j hj
theorem MarksO.nil (w : World) (B : Nat) : MarksO w B (.slice none 0 0) [] := World.ownsRow_nil _ _ _ _
theorem MarksO.ext {w w' : World} {B : Nat} {v : Value} {l : List MarkD} (h : MarksO w B v l) (e : Ext w w') : MarksO w' B v l := owns_ext h e
theorem mark_info : (Try.prog.info? 47).map (fun i => (i.zero, i.size, i.bytes)) = some (some (.agg #[.int .i64 0, .int .i64 0, .int .i64 0]), 3, 24) := by kernel_rfl
theorem three_ints (x y z : Int) : ∀ u ∈ [Value.int .i64 x, .int .i64 y, .int .i64 z], u.oneCell' = true := by simp [Value.oneCell']
theorem poss_at {view : List Int} {g n : Int} (h : possB view g n = true) {i : Nat} {x : Int} (hx : view[i]? = some x) : 0 ≤ x ∧ x ≤ 255 := by
  simp only [possB, Bool.and_eq_true, Bool.not_eq_true', Bool.eq_false_iff] at h
  have hb : badX (mostG g) x = false := Bool.eq_false_iff.2 fun hb => h.2 (List.any_eq_true.2 ⟨x, List.mem_of_getElem? hx, hb⟩)
  have hm : mostG g ≤ 255 := by unfold mostG; split <;> omega
  simp only [badX, Bool.or_eq_false_iff, decide_eq_false_iff_not] at hb
  omega
theorem and_one {y : Int} (h0 : 0 ≤ y) (h1 : y < 2 ^ 8) : bits .and .i64 y 1 = y % 2 :=
  bits_mask .i64 8 (by decide) (fun n h0 h1 => by rw [IntKind.wrap_i64]; omega) 1 (by decide) y h0 h1
def SizeCon (s : Int) (k : Nat) (v : Value) (_ : World) : Prop := k = 4 ∨ k = 12 → v = .int .i64 s
set_option maxHeartbeats 6400000 in
set_option maxRecDepth 100000 in
theorem witness_calls (va : Value) (view : List Int) (g f t : Int) (w : World) (h : Ints w va view) :
    Calls Try.prog 17 #[va, .int .i64 g, .agg #[.int .i64 f, .int .i64 t]] w fun e w' => ∃ v, e = .returned (.tuple #[v, .int .i64 (witG view g f t).2]) ∧ MarksO w' w.heap.size v (witG view g f t).1 ∧ Ext w w' := by
  have hI := Lib.hid h
  obtain ⟨a, c, rfl, hn, hc, hat⟩ := h.open
  have hat' := Lib.hid hat
  clear h hat
  obtain ⟨j0, hj0, jz0, jz1, jz2⟩ := info_parts mark_info
  obtain ⟨n0, e0, hce⟩ : ∃ n0 e0, Hid (cellsG g f t = (n0, e0)) := ⟨_, _, rfl⟩
  have hcel : Hid (∀ W, Calls Try.prog 28 #[.int .i64 g, .agg #[.int .i64 f, .int .i64 t]] W fun e w' => e = .returned (.tuple #[.int .i64 n0, .int .i64 e0]) ∧ Ext W w') := fun W => by
    have := cells_calls g f t W
    rw [hce.out] at this
    exact this
  obtain ⟨p, hp⟩ : ∃ p, Hid (possB view g n0 = p) := ⟨_, rfl⟩
  have hpos : Hid (∀ W, Ext w W → Calls Try.prog 35 #[.slice a view.length c, .int .i64 g, .int .i64 n0] W fun e w' => e = .returned (.bool p) ∧ Ext W w') := fun W hW => hp.out ▸ possible_calls _ view g n0 W (hI.out.ext hW)
  by_cases h0 : e0 = 0
  · have hz0 : (e0 != 0) = false := by simp [h0]
    have hce0 : (cellsG g f t).2 = 0 := by rw [hce.out]; exact h0
    cases p with
    | false =>
      have R : Hid (witG view g f t = ([], 1)) := by show _ = _; unfold witG; rw [if_pos hce0, hce.out, hp.out]; rfl
      clear hce hp h0 hce0
      go_enter Try.func17, Try.ntmps17
      go_wp2_with fail
      refine (hcel.out _).mono ?_
      rintro e w1 ⟨rfl, hx1⟩
      have hB1 : Hid (Blk w1 w.heap.size 28 #[.int .i64 f, .int .i64 t]) := Lib.hid ((Keep.of_ext (X := fun _ => False) hx1).blk (blk_new' rfl rfl) id)
      have hE1 := Lib.hid (((Ext.refl w).alloc (.cells #[.int .i64 f, .int .i64 t] 28)).trans hx1)
      clear hx1 hcel
      go_wp2_with fail
      refine (hpos.out _ hE1.out).mono ?_
      rintro e w2 ⟨rfl, hx2⟩
      go_wp2
      go_ret2
      rw [R.out]
      exact ⟨_, rfl, MarksO.nil _ _, hE1.out.trans hx2⟩
    | true =>
      have R : Hid (witG view g f t = (witL g f view view.length, 0)) := by show _ = _; unfold witG; rw [if_pos hce0, hce.out, hp.out]; rfl
      obtain ⟨hg4, hwin, hcl⟩ := cells_ok hce0
      clear hcl
      obtain ⟨n, hn1, hn2, hn3⟩ := cells_num hce0
      have hwn := window_iff.1 hwin
      have hlen : view.length = n := by
        have h1 := hp.out
        rw [hce.out] at hn1
        simp only [possB, Bool.and_eq_true, decide_eq_true_eq] at h1
        have h2 := h1.1
        dsimp only at hn1
        omega
      have hlen2 : view.length ≤ 65536 := by omega
      clear hlen hn1 hn2 hn3 hwin hce h0 hce0
      obtain ⟨s, hs⟩ : ∃ s, Hid (sizeG g = s) := ⟨_, rfl⟩
      have hs1 : 1 ≤ s := by rw [← hs.out]; exact (size_pos g).1
      have hs2 : s ≤ 1440 := by rw [← hs.out]; exact (size_pos g).2
      have hsz : Hid (∀ W, Calls Try.prog 38 #[.int .i64 g] W fun e w' => e = .returned (.int .i64 s) ∧ Ext W w') := fun W => hs.out ▸ size_calls g hg4 W
      go_enter Try.func17, Try.ntmps17
      go_wp2_with fail
      refine (hcel.out _).mono ?_
      rintro e w1 ⟨rfl, hx1⟩
      have hB1 : Hid (Blk w1 w.heap.size 28 #[.int .i64 f, .int .i64 t]) := Lib.hid ((Keep.of_ext (X := fun _ => False) hx1).blk (blk_new' rfl rfl) id)
      have hE1 := Lib.hid (((Ext.refl w).alloc (.cells #[.int .i64 f, .int .i64 t] 28)).trans hx1)
      clear hx1 hcel
      go_wp2_with fail
      refine (hpos.out _ hE1.out).mono ?_
      rintro e w2 ⟨rfl, hx2⟩
      have hB2 : Hid (Blk w2 w.heap.size 28 #[.int .i64 f, .int .i64 t]) := Lib.hid ((Keep.of_ext (X := fun _ => False) hx2).blk hB1.out id)
      have hE2 := Lib.hid (hE1.out.trans hx2)
      clear hx2 hE1 hB1 hpos
      go_wp2_with fail
      go_loopw [10, 31] (fun v10 vi wr => ∃ (i m : Nat) (A : Option Addr) (C : Nat) (out : List MarkD), i ≤ view.length ∧ m ≤ 8 * i ∧ v10 = .slice A m C ∧ vi = .int .i64 i ∧ Hid (m = out.length) ∧ Hid (out = witL g f view i) ∧ Hid (Blk wr w.heap.size 28 #[.int .i64 f, .int .i64 t]) ∧ Hid (Ext w wr) ∧ Hid (wr.ownsRow (w.heap.size + 1) 47 3 (.slice A m C) m (markCells out))) (fun _ vi _ => view.length - (intOf vi).toNat)
      case atStart => exact ⟨0, 0, none, 0, [], by omega, by omega, rfl, rfl, Lib.hid rfl, Lib.hid rfl, hB2, hE2, Lib.hid (World.ownsRow_nil _ _ _ _)⟩
      case round =>
        clear hB2 hE2
        obtain ⟨i, m, A, C, out, hi, hm8, rfl, rfl, hm, hout, hB, hx, hO⟩ := hrel
        by_cases h1 : i < view.length
        · obtain ⟨b1, o1, x, rfl, hb1, _, ex, g1⟩ := hat'.out i h1 wr hx.out
          obtain ⟨hx0, hx255⟩ := poss_at hp.out ex.out
          have hb0 : 0 ≤ (i : Int) * s := Int.mul_nonneg (by omega) (by omega)
          have hb2 : (i : Int) * s ≤ 94371840 := by
            have := Int.mul_le_mul (show (i : Int) ≤ 65536 by omega) hs2 (by omega) (by omega)
            omega
          have hb3 : ((i : Int) + 1) * s = (i : Int) * s + s := by rw [Int.add_mul, Int.one_mul]
          go_upto_region 10 with (fail)
          have z0 := After.cell (hB.out.cell 0)
          have z1 := After.cell (hB.out.cell 1)
          (refine wp_region_held [] [0, 1, 2, 3, 4, 5, 6, 7, 8, 9, 10, 11, 12, 13, 14, 15, 16] [17] (SizeCon s) (by kernel_rfl) (by kernel_rfl) ?_; simp only [pickL]; with_reducible refine wpQuiet_nil ?_)
          (refine held_quiet [0, 1, 2, 3] [4, 5, 6, 7, 8, 9, 10, 11, 12, 13, 14, 15, 16] (by kernel_rfl) (by kernel_rfl) ?_; simp only [pickL, List.drop]; (repeat (go_big_quiet_step (fail))); with_reducible refine wpQuiet_nil ?_)
          (refine held_call 4 [5, 6, 7, 8, 9, 10, 11, 12, 13, 14, 15, 16] rfl (by kernel_rfl) 38 (#[.int .i64 g]) (fun W => by kernel_rfl) rfl ?_ ?_ ?_)
          · exact fun W W' v e hh => hh
          · refine fun W hW _ => (hsz.out W).mono ?_
            rintro e W' ⟨rfl, hxx⟩
            exact ⟨_, rfl, hxx, fun _ => rfl⟩
          rintro v ⟨Y, hY, hC⟩
          obtain rfl := hC (Or.inl rfl)
          clear hC hY Y
          simp only [Act.put, List.setIfInBounds_toArray, List.set_cons_succ, List.set_cons_zero]
          (refine held_quiet [5, 6, 7, 8, 9, 10, 11] [12, 13, 14, 15, 16] (by kernel_rfl) (by kernel_rfl) ?_; simp only [pickL, List.drop]; (repeat (go_big_quiet_step (fail))); with_reducible refine wpQuiet_nil ?_)
          (refine held_call 12 [13, 14, 15, 16] rfl (by kernel_rfl) 38 (#[.int .i64 g]) (fun W => by kernel_rfl) rfl ?_ ?_ ?_)
          · exact fun W W' v e hh => hh
          · refine fun W hW _ => (hsz.out W).mono ?_
            rintro e W' ⟨rfl, hxx⟩
            exact ⟨_, rfl, hxx, fun _ => rfl⟩
          rintro v ⟨Y, hY, hC⟩
          obtain rfl := hC (Or.inr rfl)
          clear hC hY Y
          simp only [Act.put, List.setIfInBounds_toArray, List.set_cons_succ, List.set_cons_zero]
          (refine held_quiet [13, 14, 15] [16] (by kernel_rfl) (by kernel_rfl) ?_; simp only [pickL, List.drop]; (repeat (go_big_quiet_step (fail))); with_reducible refine wpQuiet_nil ?_)
          (refine held_made 16 [] rfl (by kernel_rfl) (fun g => .pointer (some ⟨g, 0, none⟩)) (.cells #[.int .i64 0, .int .i64 0] 28) (fun W => by kernel_rfl) (fun g g2 e => by cases e; rfl) (fun g => rfl) ?_)
          intro gc
          simp only [Act.put, List.setIfInBounds_toArray, List.set_cons_succ, List.set_cons_zero]
          intro V hxv hf ht Q0 hQ0
          have h7 := (hf 16).2 rfl
          have b7 : Blk V gc 28 #[.int .i64 0, .int .i64 0] := h7.1
          have hgc : wr.heap.size ≤ gc := h7.2
          have c7 : V.cell? ⟨gc, 0, none⟩ = some (.int .i64 0) := b7.cell 0
          have c8 : V.cell? ⟨gc, 1, none⟩ = some (.int .i64 0) := b7.cell 1
          have f7 := b7.frozen 0
          have f8 := b7.frozen 1
          have hsw := hx.out.size
          have hblt := hB.out.lt
          have b7' := Lib.hid b7
          have hBV := Lib.hid ((Keep.of_ext (X := fun _ => False) hxv).blk hB.out id)
          have hxV := Lib.hid (hx.out.trans hxv)
          have hOV := Lib.hid (owns_ext hO.out hxv)
          simp only [pickL, List.drop]
          clear hf ht h7 b7 z0 z1 hB hx hO hxv
          go_upto_region 11 with (fail)
          obtain ⟨y1, hy1⟩ : ∃ y1, Hid (f + (i : Int) * s = y1) := ⟨_, rfl⟩
          obtain ⟨y2, hy2⟩ : ∃ y2, Hid (f + ((i : Int) * s + s) = y2) := ⟨_, rfl⟩
          rw [hy1.out, hy2.out]
          refine wp_abs (S := fun V2 => Hid (Blk V2 w.heap.size 28 #[.int .i64 f, .int .i64 t]) ∧ Hid (Blk V2 gc 28 #[.int .i64 y1, .int .i64 y2]) ∧ Hid (Ext w V2) ∧ Hid (V2.ownsRow (w.heap.size + 1) 47 3 (.slice A m C) m (markCells out))) ?_ ?_
          · have k1 := keep_set V gc 0 (.int .i64 y1)
            have e1 := hxV.out.setCell (p := ⟨gc, 0, none⟩) (by dsimp only; omega) (.int .i64 y1)
            have b1 := b7'.out.set_ 0 (.int .i64 y1)
            have o1 := k1.owns hOV.out (fun g e h => own_blk_ne hOV.out b7'.out (by decide) (e.trans (congrArg some h)))
            have k2 := keep_set (V.setCell ⟨gc, 0, none⟩ (.int .i64 y1)) gc 1 (.int .i64 y2)
            have e2 := e1.setCell (p := ⟨gc, 1, none⟩) (by dsimp only; omega) (.int .i64 y2)
            exact ⟨Lib.hid (Blk.far (Blk.far hBV.out (by dsimp only; omega) _) (by dsimp only; omega) _), Lib.hid (b1.set_ 1 _), Lib.hid e2, Lib.hid (k2.owns o1 (fun g e h => own_blk_ne o1 b1 (by decide) (e.trans (congrArg some h))))⟩
          clear b7' hBV hxV hOV c7 c8 f7 f8 hgc
          rintro V2 ⟨hBV, hGV, hxV, hOV⟩
          go_wp2_with fail
          go_loopw [10, 52] (fun v10 vk wq => ∃ (k m : Nat) (A : Option Addr) (C : Nat) (out : List MarkD), k ≤ 8 ∧ m ≤ 8 * i + k ∧ v10 = .slice A m C ∧ vk = .int .i64 k ∧ Hid (m = out.length) ∧ Hid (out = witL g f view i ++ cellM g f i x k) ∧ Hid (Blk wq w.heap.size 28 #[.int .i64 f, .int .i64 t]) ∧ Hid (Blk wq gc 28 #[.int .i64 y1, .int .i64 y2]) ∧ Hid (Ext w wq) ∧ Hid (wq.ownsRow (w.heap.size + 1) 47 3 (.slice A m C) m (markCells out))) (fun _ vk _ => 8 - (intOf vk).toNat)
          case atStart => exact ⟨0, m, A, C, out, by omega, by omega, rfl, rfl, hm, Lib.hid (by rw [hout.out]; simp [cellM]), hBV, hGV, hxV, hOV⟩
          case round =>
            clear hBV hGV hxV hOV hm hout
            rename World => wq
            have hm8i := hm8
            clear hm8
            obtain ⟨k, m, A, C, out, hk, hm8, rfl, rfl, hm, hout, hB, hG, hx, hO⟩ := hrel
            by_cases hk8 : k < 8
            · have hbt : (bits .and .i64 (x / 2 ^ k) 1 == 1) = bitB x k := by
                have h0 : 0 ≤ x / 2 ^ k := Int.ediv_nonneg hx0 (Int.pow_nonneg (by decide))
                have h2 := Int.ediv_le_self (2 ^ k : Int) hx0
                rw [and_one h0 (by omega), Bool.eq_iff_iff, beq_iff_eq]
                unfold bitB
                rw [decide_eq_true_iff]
              have d0 : wq.cell? ⟨gc, 0, none⟩ = some (.int .i64 y1) := hG.out.cell 0
              have d1 : wq.cell? ⟨gc, 1, none⟩ = some (.int .i64 y2) := hG.out.cell 1
              have hsq := hx.out.size
              cases hbk : bitB x k with
              | true =>
                rw [hbk] at hbt
                have hout5 : Hid (out ++ [⟨y1, y2, (k : Int) + 1⟩] = witL g f view i ++ cellM g f i x (k + 1)) := by
                  show _ = _
                  rw [cellM_yes hbk, hout.out, hs.out, hb3, hy1.out, hy2.out, List.append_assoc]
                have hm5 : Hid (m + 1 = (out ++ [(⟨y1, y2, (k : Int) + 1⟩ : MarkD)]).length) := by show _ = _; rw [List.length_append, ← hm.out]; rfl
                clear hm hout hbk hm8i
                go_wp2_with (at_builtin; refine wpList_append_any _ rfl (.tmp 60) (.tmp 65) _ rfl (w.heap.size + 1) 47 j0 _ 3 24 Try.underlying37 hj0 jz0 jz1 jz2 rfl (by decide) (.slice A m C) m (markCells out) rfl (hO.out.alloc _) (wq.heap.size + 1) (some ⟨wq.heap.size, 0, none⟩) 1 1 [.int .i64 y1, .int .i64 y2, .int .i64 ((k : Int) + 1)] rfl (reads_last _ #[_, _, _] _ 3 1 _ _ rfl (by omega) rfl) (three_ints _ _ _) (by unfold maxLen; omega) (by omega) (by rw [World.size_alloc]; omega) ?_; intro v5 w5 hown5 hg5 hat5; obtain ⟨A5, C5, rfl⟩ := owns_form hown5)
                have hO5 : Hid (w5.ownsRow (w.heap.size + 1) 47 3 (.slice A5 (m + 1) C5) (m + 1) (markCells (out ++ [⟨y1, y2, (k : Int) + 1⟩]))) := Lib.hid (by rw [markCells_app]; exact hown5)
                have hx5 := Lib.hid ((hx.out.alloc (.cells #[.int .i64 y1, .int .i64 y2, .int .i64 ((k : Int) + 1)] 47)).grown hg5 (fun k e => Nat.le_of_succ_le (hO.out.lt k e).1))
                have hB5 := Lib.hid ((Blk.alloc hB.out _).grown hg5 (fun e => own_blk_ne hO.out hB.out (by decide) e.symm))
                have hG5 := Lib.hid ((Blk.alloc hG.out _).grown hg5 (fun e => own_blk_ne hO.out hG.out (by decide) e.symm))
                clear hown5 hg5 hat5 hO hx hB hG d0 d1
                go_wp2
                go_roundw
                case rel => first | exact ⟨k + 1, m + 1, A5, C5, _, by omega, by omega, rfl, by go_num, hm5, hout5, hB5, hG5, hx5, hO5⟩ | ((repeat apply Exists.intro); exact ⟨⟨k + 1, m + 1, A5, C5, _, by omega, by omega, rfl, by go_num, hm5, hout5, hB5, hG5, hx5, hO5⟩, rfl⟩)
                case measure => simp [intOf]; omega
              | false =>
                rw [hbk] at hbt
                have hout5 : Hid (out = witL g f view i ++ cellM g f i x (k + 1)) := by show _ = _; rw [cellM_no hbk, hout.out]
                clear hout hbk hm8i
                go_wp2
                go_roundw
                case rel => first | exact ⟨k + 1, m, A, C, out, by omega, by omega, rfl, by go_num, hm, hout5, hB, hG, hx, hO⟩ | ((repeat apply Exists.intro); exact ⟨⟨k + 1, m, A, C, out, by omega, by omega, rfl, by go_num, hm, hout5, hB, hG, hx, hO⟩, rfl⟩)
                case measure => simp [intOf]; omega
            · obtain rfl : k = 8 := by omega
              have hout5 : Hid (out = witL g f view (i + 1)) := by show _ = _; rw [witL_succ ex.out, hout.out]
              clear hout hG
              go_wp2
              go_roundw
              case rel => first | exact ⟨i + 1, m, A, C, out, h1, by omega, rfl, by go_num, hm, hout5, hB, hx, hO⟩ | ((repeat apply Exists.intro); exact ⟨⟨i + 1, m, A, C, out, h1, by omega, rfl, by go_num, hm, hout5, hB, hx, hO⟩, rfl⟩)
              case measure => simp [intOf]; omega
        · obtain rfl : i = view.length := by omega
          go_wp2
          go_ret2
          rw [R.out]
          refine ⟨_, rfl, ?_, hx.out⟩
          have hmm := hm.out
          rw [hout.out] at hmm
          subst hmm
          have := hO.out
          rw [hout.out] at this
          exact owns_base this (Nat.le_succ _)
  · have hz0 : (e0 != 0) = true := by simp [h0]
    have R : Hid (witG view g f t = ([], e0)) := by show _ = _; unfold witG; rw [hce.out, if_neg h0]
    clear hce hp h0
    go_enter Try.func17, Try.ntmps17
    go_wp2_with fail
    refine (hcel.out _).mono ?_
    rintro e w1 ⟨rfl, hx1⟩
    have hB1 : Hid (Blk w1 w.heap.size 28 #[.int .i64 f, .int .i64 t]) := Lib.hid ((Keep.of_ext (X := fun _ => False) hx1).blk (blk_new' rfl rfl) id)
    have hE1 := Lib.hid (((Ext.refl w).alloc (.cells #[.int .i64 f, .int .i64 t] 28)).trans hx1)
    clear hx1 hcel
    go_wp2
    go_ret2
    rw [R.out]
    exact ⟨_, rfl, MarksO.nil _ _, hE1.out⟩
end Go.Proofs.Ytcmcojmhlgknoaa
