/- Walks of package coarse: join, slices.Chunk. -/
import Derived.Test.YtcmcojmhlgknoaaGG
namespace Go.Proofs.Ytcmcojmhlgknoaa
open Go.RowKit Go.Shelf

/-! ### join -/
def bitN (to : Int) (x : Nat) : Nat := if to ≤ 2 then min x 1 else x
def joinN (to : Int) (l : List Nat) : Nat := l.foldl (fun o x => o ||| bitN to x) 0
theorem bitN_lt {to : Int} {x : Nat} (h : x < 2 ^ 8) : bitN to x < 2 ^ 8 := by unfold bitN; split <;> omega
theorem foldJ_lt {to : Int} : ∀ {l : List Nat} {o : Nat}, (∀ x ∈ l, x < 2 ^ 8) → o < 2 ^ 8 → l.foldl (fun o x => o ||| bitN to x) o < 2 ^ 8
  | [], _, _, h => h
  | x :: l, _, hl, h => foldJ_lt (l := l) (fun y hy => hl y (List.mem_cons_of_mem _ hy)) (Nat.or_lt_two_pow h (bitN_lt (hl x List.mem_cons_self)))
theorem joinN_lt {to : Int} {l : List Nat} (h : ∀ x ∈ l, x < 2 ^ 8) : joinN to l < 2 ^ 8 := foldJ_lt h (by decide)
theorem joinN_snoc (to : Int) (l : List Nat) (x : Nat) : joinN to (l ++ [x]) = joinN to l ||| bitN to x := by simp [joinN]
theorem coarser1_calls (b : Nat) (to : Int) (x : Nat) (hx : x < 2 ^ 8) (w : World) (h : w.cell? ⟨b, 0, none⟩ = some (.int .i64 to)) :
    Calls Try.prog 36 #[.int .i64 (x : Int), .pointer (some ⟨b, 0, none⟩)] w fun e w' => e = .returned (.int .i64 (bitN to x : Int)) ∧ Ext w w' := by
  by_cases h1 : to ≤ 2
  · have d1 : decide (to ≤ 2) = true := decide_eq_true h1
    have R : Hid ((bitN to x : Int) = min (x : Int) 1) := by show _ = _; unfold bitN; rw [if_pos h1]; omega
    clear h1
    go_enter Try.func36, Try.ntmps36
    go_wp2
    go_ret
    rw [R.out]
    exact ⟨by rfl, Ext.refl _⟩
  · have d1 : decide (to ≤ 2) = false := decide_eq_false h1
    have R : Hid ((bitN to x : Int) = (x : Int)) := by show _ = _; unfold bitN; rw [if_neg h1]
    clear h1
    go_enter Try.func36, Try.ntmps36
    go_wp2
    go_ret
    rw [R.out]
    exact ⟨rfl, Ext.refl _⟩
set_option maxHeartbeats 800000 in
theorem join_calls (va : Value) (l : List Nat) (b : Nat) (to : Int) (w : World) (h : Nums w va l) (hl : ∀ x ∈ l, x < 2 ^ 8) (hb : w.cell? ⟨b, 0, none⟩ = some (.int .i64 to)) :
    Calls Try.prog 39 #[va, .func (.func 36) #[] #[.pointer (some ⟨b, 0, none⟩)]] w fun e w' => e = .returned (.int .i64 (joinN to l : Int)) ∧ Ext w w' := by
  obtain ⟨a, c, rfl, hn, hc, hat⟩ := Ints.open h
  rw [List.length_map] at hn ⊢
  have hat' := Lib.hid hat
  have hb' := Lib.hid hb
  have hl' := Lib.hid hl
  clear h hat hb hl
  have hcode : ∀ (x : Array Value) (W : World), (callFunc 36 x).run Try.prog W = .ok (.enter 36 x) W := fun _ _ => by kernel_rfl
  go_enter Try.func39, Try.ntmps39
  go_wp2_with fail
  go_loopw [5, 10] (fun v5 vi wr => ∃ i o : Nat, i ≤ l.length ∧ v5 = .int .i64 o ∧ vi = .int .i64 i ∧ o < 256 ∧ Hid (o = joinN to (l.take i)) ∧ Hid (Ext w wr)) (fun _ vi _ => l.length - (intOf vi).toNat)
  case atStart => exact ⟨0, 0, by omega, rfl, rfl, by omega, Lib.hid (by simp [joinN]), Lib.hid (Ext.refl _)⟩
  case round =>
    obtain ⟨i, o, hi, rfl, rfl, ho, hO, hx⟩ := hrel
    by_cases h1 : i < l.length
    · obtain ⟨b1, o1, y, rfl, hb1, _, ey, g0⟩ := hat'.out i (by rw [List.length_map]; exact h1) wr hx.out
      obtain ⟨x, hxl⟩ : ∃ x, Hid (l[i]? = some x) := ⟨l[i], Lib.hid (by simp [h1])⟩
      have hyx : y = (x : Int) := by
        have := ey.out
        rw [List.getElem?_map, hxl.out] at this
        exact (Option.some.inj this).symm
      subst hyx
      have hx8 : x < 2 ^ 8 := hl'.out x (List.mem_of_getElem? hxl.out)
      have hcall := Lib.hid (coarser1_calls b to x hx8 wr (hx.out.cell hb'.out))
      obtain ⟨q, hq⟩ : ∃ q, Hid (bitN to x = q) := ⟨_, rfl⟩
      have hq8 : q < 2 ^ 8 := by rw [← hq.out]; exact bitN_lt hx8
      rw [hq.out] at hcall
      have hor : bits .or .i64 (o : Int) (q : Int) = ((o ||| q : Nat) : Int) := or_nat o q ho hq8
      have hoq : o ||| q < 256 := Nat.or_lt_two_pow (n := 8) ho hq8
      have R : Hid (o ||| q = joinN to (l.take (i + 1))) := by show _ = _; rw [takeStep hxl.out, joinN_snoc, ← hO.out, hq.out]
      clear hq ey hxl hx8 hq8
      go_wp2_with fail
      refine hcall.out.mono ?_
      rintro e w1 ⟨rfl, hx1⟩
      have hE := Lib.hid (hx.out.trans hx1)
      clear hcall hx hx1 hO
      go_wp2
      go_roundw
      case rel => exact ⟨i + 1, o ||| q, h1, by first | rfl | rw [hor], by go_num, hoq, R, hE⟩
      case measure => simp [intOf]; omega
    · have R : Hid (o = joinN to l) := by have := hO.out; rwa [List.take_of_length_le (by omega)] at this
      go_wp2
      go_ret
      rw [← R.out]
      exact ⟨rfl, hx.out⟩

/-! ### slices.Chunk -/
def ChunkC (B : Nat) (v : Value) (r : Nat) (W : World) : Prop := W.cell? ⟨B, 0, none⟩ = some v ∧ W.cell? ⟨B + 1, 0, none⟩ = some (.int .i64 r)
theorem ChunkC.ext {B : Nat} {v : Value} {r : Nat} {W W' : World} (h : ChunkC B v r W) (e : Ext W W') : ChunkC B v r W' := ⟨e.cell h.1, e.cell h.2⟩
theorem chunk_calls (v : Value) (r : Nat) (hr : 1 ≤ r) (hr2 : r ≤ 1440) (w : World) (a : Option Addr) (n c : Nat) (hv : v = .slice a n c) :
    Calls Try.prog 37 #[v, .int .i64 r] w fun e w' =>
      e = .returned (.func (.func 55) #[] #[.pointer (some ⟨w.heap.size, 0, none⟩), .pointer (some ⟨w.heap.size + 1, 0, none⟩)]) ∧ Ext w w' ∧ ChunkC w.heap.size v r w' := by
  subst hv
  go_enter Try.func37, Try.ntmps37
  go_wp2
  go_ret
  have h0 : Blk ((w.alloc (.cells #[.slice a n c] 22)).alloc (.cells #[.int .i64 (r : Int)] 3)) w.heap.size 22 #[.slice a n c] := Blk.alloc (blk_new' rfl rfl) _
  have h1 : Blk ((w.alloc (.cells #[.slice a n c] 22)).alloc (.cells #[.int .i64 (r : Int)] 3)) (w.heap.size + 1) 3 #[.int .i64 (r : Int)] := blk_new' (by rw [World.size_alloc]) rfl
  exact ⟨rfl, (by repeat' (first | (with_reducible exact Ext.refl _) | (with_reducible assumption) | (with_reducible refine Ext.drewN ?_ _) | (with_reducible refine Ext.drew ?_) | (with_reducible refine Ext.alloc ?_ _) | (with_reducible refine Ext.trans ?_ (by with_reducible assumption)))), h0.cell 0, h1.cell 0⟩
set_option maxHeartbeats 1600000 in
set_option maxRecDepth 100000 in
theorem chunk_iter (B b off n c r N : Nat) (a : Option Addr) (hn : n = N * r) (hnc : n ≤ c) (hn2 : n ≤ 65536) (hr1 : 1 ≤ r) (hr2 : r ≤ 1440) (ha : 0 < N → a = some ⟨b, off, none⟩) :
    IterOk 55 #[.pointer (some ⟨B, 0, none⟩), .pointer (some ⟨B + 1, 0, none⟩)] N (fun j => .slice (some ⟨b, off + j * r, none⟩) r r) (ChunkC B (.slice a n c) r) := by
  have hn' := Lib.hid hn
  have ha' := Lib.hid ha
  clear hn ha
  intro nn l W J Jx hn1 hC hJ h00 hY
  have hJ' := Lib.hid hJ
  have hY' := Lib.hid hY
  have h00' := Lib.hid h00
  have hCh := Lib.hid hC
  clear hY h00 hJ hC
  have ea : #[Value.func (.yield l) #[] #[]] ++ #[Value.pointer (some ⟨B, 0, none⟩), .pointer (some ⟨B + 1, 0, none⟩)] = #[.func (.yield l) #[] #[], .pointer (some ⟨B, 0, none⟩), .pointer (some ⟨B + 1, 0, none⟩)] := rfl
  rw [ea]
  clear ea
  refine callsIn_of_wp Try.func55 rfl trivial ?_ rfl
  simp only [Try.ntmps55, List.size_toArray, List.length_cons, List.length_nil, Nat.reduceAdd, Nat.reduceSub, Array.replicate_succ, Array.replicate_zero, List.push_toArray, List.append_toArray, List.nil_append, List.cons_append]
  gi_wp2
  gi_loopw [4] (fun vi wr => ∃ p j : Nat, j ≤ N ∧ vi = .int .i64 p ∧ Hid (p = j * r) ∧ Hid (J j wr) ∧ Hid (ChunkC B (.slice a n c) r wr)) (fun vi _ => n + 1 - (intOf vi).toNat)
  case atStart => exact ⟨0, 0, by omega, rfl, Lib.hid (by simp), h00', hCh⟩
  case round =>
    clear h00' hCh
    obtain ⟨p, j, hj, rfl, hp, hJj, hC⟩ := hrel
    obtain ⟨c0, c1⟩ := hC.out
    by_cases h1 : j < N
    · have hpr : p + r ≤ n := by
        rw [hn'.out, hp.out]
        have := Nat.mul_le_mul_right r (show j + 1 ≤ N from h1)
        rw [Nat.add_mul, Nat.one_mul] at this
        exact this
      obtain rfl := ha'.out (by omega)
      have hcp : ¬ c = p := by omega
      gi_wp2_with fail
      have z0 := After.cell c0
      have z1 := After.cell c1
      refine wpIn_wide.2 (wp_region_after (by kernel_rfl) (by kernel_rfl) ?_)
      repeat (go_big_quiet_step (fail))
      refine wpQuiet_nil ?_
      rintro W1 ⟨u, e⟩
      have hx1 : Ext wr W1 := by rw [e]; exact u.ext
      have hJ1 := Lib.hid (hJ'.out j _ _ hJj.out hx1)
      have hC1 := Lib.hid (hC.out.ext hx1)
      clear z0 z1 c0 c1 e u hx1 hJj hC
      have hmin : min (r : Int) ((n - p : Nat) : Int) = (r : Int) := by omega
      rw [hmin]
      clear hmin ha'
      obtain ⟨c0, c1⟩ := hC1.out
      obtain ⟨fn, tmps, assign, body, hy, hR⟩ := hY'.out j W1 h1 hJ1.out hC1.out
      rw [← hp.out] at hy
      have hR' := Lib.hid hR
      clear hR
      gi_wp2_with fail
      refine hR'.out.mono ?_
      rintro e W3 (⟨rfl, hJ3, hC3⟩ | ⟨rfl, hJx⟩)
      · have hJ3' := Lib.hid hJ3
        have hC3' := Lib.hid hC3
        have hp3 : Hid (p + r = (j + 1) * r) := by show _ = _; rw [Nat.add_mul, Nat.one_mul, ← hp.out]
        obtain ⟨c2, c3⟩ := hC3
        clear hJ3 hy hR' hp hJ1 hC1 c0 c1
        gi_wp2
        go_roundw
        case rel => first | exact ⟨p + r, j + 1, h1, by go_num, hp3, hJ3', hC3'⟩ | ((repeat apply Exists.intro); exact ⟨⟨p + r, j + 1, h1, by go_num, hp3, hJ3', hC3'⟩, rfl⟩)
        case measure => simp [intOf]; omega
      · gi_wp2
        refine bodyPost_ret (results_none rfl _ _ _) rfl ?_
        exact ⟨⟨_, rfl⟩, .inr hJx⟩
    · obtain rfl : j = N := by omega
      have hpn : p = n := by rw [hp.out, hn'.out]
      subst hpn
      clear hp
      gi_wp2
      go_end0
      exact ⟨⟨_, rfl⟩, .inl hJj.out⟩

/-! ### Coarser, plain -/
def ratioG (g to : Int) : Nat := (sizeG to / sizeG g).toNat
def coarsL (to : Int) (r : Nat) (l : List Nat) (m : Nat) : List Nat := (List.range m).map fun j => joinN to ((l.drop (j * r)).take r)
def coarserG (view : List Int) (g to f t : Int) : List Nat × Int :=
  if (cellsG g f t).2 = 0 then
    (if possB view g (cellsG g f t).1 && (decide (0 ≤ to) && decide (to ≤ g)) then
      (if (cellsG to f t).2 = 0 then (coarsL to (ratioG g to) (view.map Int.toNat) (cellsG to f t).1.toNat, 0) else ([], (cellsG to f t).2)) else ([], 1))
  else ([], (cellsG g f t).2)
theorem ratio_is {g to : Int} (h1 : 1 ≤ to) (h2 : to ≤ g) (h3 : g ≤ 4) : sizeG to = ratioG g to * sizeG g ∧ 1 ≤ ratioG g to ∧ ratioG g to ≤ 1440 := by
  have hg : g = 1 ∨ g = 2 ∨ g = 3 ∨ g = 4 := by omega
  have ht : to = 1 ∨ to = 2 ∨ to = 3 ∨ to = 4 := by omega
  rcases hg with rfl | rfl | rfl | rfl <;> rcases ht with rfl | rfl | rfl | rfl <;> first | omega | decide
theorem cells_ratio {g to f t : Int} (hg : (cellsG g f t).2 = 0) (ht : (cellsG to f t).2 = 0) (hle : to ≤ g) {n m : Nat} (hn : (cellsG g f t).1 = n) (hm : (cellsG to f t).1 = m) : n = m * ratioG g to := by
  obtain ⟨hg4, _⟩ := cells_ok hg
  obtain ⟨ht4, _⟩ := cells_ok ht
  obtain ⟨n', e1, _, e2⟩ := cells_num hg
  obtain ⟨m', e3, _, e4⟩ := cells_num ht
  have hs := size_pos g
  obtain ⟨hr, _⟩ := ratio_is ht4.1 hle hg4.2
  obtain rfl : n' = n := by omega
  obtain rfl : m' = m := by omega
  rw [hr] at e4
  have e5 : (n' : Int) * sizeG g = (m' * ratioG g to : Nat) * sizeG g := by
    rw [Int.natCast_mul, Int.mul_assoc]
    omega
  have := Int.eq_of_mul_eq_mul_right (by omega) e5
  omega
theorem coarsL_succ (to : Int) (r : Nat) (l : List Nat) (m : Nat) : coarsL to r l (m + 1) = coarsL to r l m ++ [joinN to ((l.drop (m * r)).take r)] := by simp [coarsL, List.range_succ]
theorem coarsL_len (to : Int) (r : Nat) (l : List Nat) (m : Nat) : (coarsL to r l m).length = m := by simp [coarsL]
/-- a part of a slice -/
theorem nums_part {w : World} {a : Option Addr} {c i m : Nat} {b off : Nat} {l : List Nat} (h : Nums w (.slice a l.length c) l) (ha : a = some ⟨b, off, none⟩) (hm : i + m ≤ l.length) (h0 : 0 < m) :
    Nums w (.slice (some ⟨b, off + i, none⟩) m m) ((l.drop i).take m) := by
  obtain ⟨a', c', e, h1, h2, h3⟩ := h
  rw [List.length_map] at e h1 h3
  cases e
  subst ha
  have hl : (((l.drop i).take m).map fun n : Nat => (n : Int)).length = m := by simp; omega
  obtain ⟨b', off', e1, e2, e3⟩ := h3 (by omega)
  cases e1
  refine ⟨_, m, by rw [hl], by rw [hl]; omega, by unfold maxLen at *; omega, fun _ => ⟨b, off + i, rfl, e2, fun k hk j hj => ?_⟩⟩
  rw [hl] at hk
  have := e3 (i + k) (by omega) j hj
  rw [show off + (i + k) * 1 + j = off + i + k * 1 + j by omega] at this
  rw [this]
  simp [List.getElem?_take_of_lt hk, List.getElem?_drop]
end Go.Proofs.Ytcmcojmhlgknoaa
