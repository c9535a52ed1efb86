/- Walks of package span: bounds. -/
import Derived.Test.YtepcdhpikpmepaaGreatYAQ
namespace Go.Proofs.YtepcdhpikpmepaaGreat
open Go.RowKit

theorem bdsL_len (j : Int) : ∀ l : List (Int × Int), (bdsL j l).length ≤ 2 * l.length
 | [] => by simp [bdsL]
 | s :: r => by
  have := bdsL_len j r
  unfold bdsL at *
  rw [List.flatMap_cons, List.length_append, List.length_cons]
  split <;> simp only [List.length_cons, List.length_nil] <;> omega
theorem bdsL_take {j : Int} {l : List (Int × Int)} {i : Nat} {x y : Int} (h : l[i]? = some (x, y)) : bdsL j (l.take (i + 1)) = bdsL j (l.take i) ++ (if x < y then [⟨x, j, 1⟩, ⟨y, j, -1⟩] else []) := by
 rw [List.take_add_one, h]
 simp [bdsL]
theorem BdsO.push {w1 : World} {B n : Nat} {v1 : Value} {l : List BdD} {p q : BdD} (hn : n = l.length) (hown : w1.ownsRow B 190 3 v1 (n + 2) (bdCells l ++ [.int .i64 p.at_, .int .i64 p.lst, .int .i64 p.by_, .int .i64 q.at_, .int .i64 q.lst, .int .i64 q.by_])) : BdsO w1 B v1 (l ++ [p, q]) := by
 unfold BdsO
 rw [List.length_append, bdCells_app, ← hn]
 exact hown
set_option maxHeartbeats 3200000 in
set_option maxRecDepth 100000 in
theorem bounds_calls (va vb : Value) (a b : List (Int × Int)) (w : World) (ha : Spans w va a) (hb : Spans w vb b) (hla : a.length ≤ 100000) (hlb : b.length ≤ 100000) :
  Calls Tryz.prog 109 #[va, vb] w fun e w' => ∃ v all, e = .returned v ∧ BdsO w' w.heap.size v all ∧ Ext w w' ∧ all.Perm (bdsL 0 a ++ bdsL 1 b) ∧ SortedB all := by
 have ha' := Lib.hid ha
 have hb' := Lib.hid hb
 obtain ⟨aa, ac, rfl⟩ := ha.form
 obtain ⟨ba, bc, rfl⟩ := hb.form
 obtain ⟨j0, hj0, jz0, jz1, jz2⟩ := info_parts bd_info
 clear ha hb
 go_enter Tryz.func109, Tryz.ntmps109
 go_wp2_with fail
 refine wp_abs (S := fun W => Hid (Ext w W) ∧ Hid (Blk W w.heap.size 60 #[.slice aa a.length ac, .slice ba b.length bc])) ?_ ?_
 ·exact ⟨Lib.hid (by exact (by with_reducible repeat' (first | exact Ext.refl _ | assumption | refine Ext.drewN ?_ _ | refine Ext.drew ?_ | refine Ext.alloc ?_ _ | refine Ext.trans ?_ (by with_reducible assumption)))), Lib.hid (blk_new' rfl rfl)⟩
 rintro W1 ⟨hx1, hB1⟩
 go_loopw [5, 14] (fun vo vi wr => ∃ (i : Nat) (acc : List BdD), i ≤ 2 ∧ vi = .int .i64 i ∧ Hid (Ext w wr) ∧ Hid (Blk wr w.heap.size 60 #[.slice aa a.length ac, .slice ba b.length bc]) ∧ Hid (BdsO wr w.heap.size vo acc) ∧ Hid (acc = (if i = 0 then [] else bdsL 0 a) ++ (if i = 2 then bdsL 1 b else []))) (fun _ vi _ => 2 - (intOf vi).toNat)
 case atStart => exact ⟨0, [], by omega, rfl, hx1, hB1, BdsO.nil _ _, rfl⟩
 case round =>
  clear hx1 hB1
  obtain ⟨i, acc, hi, rfl, hx, hB, hO, hA⟩ := hrel
  by_cases h1 : i < 2
  ·obtain ⟨la, ln, lc, l, hl, hlen, hcell, hacc, hnext⟩ : ∃ (la : Option Addr) (ln lc : Nat) (l : List (Int × Int)), Hid (Spans w (.slice la ln lc) l) ∧ ln = l.length ∧ wr.cell? ⟨w.heap.size, i, none⟩ = some (.slice la ln lc) ∧ Hid (acc.length + 2 * l.length ≤ 400000) ∧
       Hid (acc ++ bdsL (i : Int) l = (if i + 1 = 0 then [] else bdsL 0 a) ++ (if i + 1 = 2 then bdsL 1 b else [])) := by
    rcases Nat.lt_or_ge 0 i with h0 | h0
    ·obtain rfl : i = 1 := by omega
     refine ⟨ba, b.length, bc, b, hb', rfl, hB.out.cell 1, ?_, ?_⟩
     ·show _ ≤ _
      have := bdsL_len 0 a
      rw [hA.out]
      simp
      omega
     ·show _ = _
      rw [hA.out]; simp
    ·obtain rfl : i = 0 := by omega
     refine ⟨aa, a.length, ac, a, ha', rfl, hB.out.cell 0, ?_, ?_⟩
     ·show _ ≤ _
      rw [hA.out]
      simp
      omega
     ·show _ = _
      rw [hA.out]; simp
   subst hlen
   obtain ⟨hlat, _⟩ := hl.out.at_
   have hlat' := Lib.hid hlat
   have hlt := hB.out.lt
   have hll : l.length ≤ 200000 := by have := hacc.out; omega
   clear hA hlat hl
   go_wp2_with fail
   obtain ⟨acc0, hacc0⟩ : ∃ acc0 : List BdD, Hid (acc = acc0) := ⟨_, rfl⟩
   rw [hacc0.out] at hO hacc hnext
   go_loopw [5, 21] (fun vo vj wr2 => ∃ (j : Nat) (acc2 : List BdD), j ≤ l.length ∧ vj = .int .i64 j ∧ Hid (Ext w wr2) ∧ Hid (Blk wr2 w.heap.size 60 #[.slice aa a.length ac, .slice ba b.length bc]) ∧ Hid (BdsO wr2 w.heap.size vo acc2) ∧ Hid (acc2 = acc0 ++ bdsL (i : Int) (l.take j))) (fun _ vj _ => l.length - (intOf vj).toNat)
   case atStart => exact ⟨0, acc0, by omega, rfl, hx, hB, hO, Lib.hid (by simp [bdsL])⟩
   case round =>
    clear hx hB hO hcell hlt
    obtain ⟨j, acc2, hj, rfl, hx, hB, hO, hA⟩ := hrel
    by_cases h2 : j < l.length
    ·obtain ⟨b1, o1, x, y, rfl, hb1, _, ex, g0, g1⟩ := hlat'.out j h2 wr hx.out
     have hst := Lib.hid (bdsL_take (j := (i : Int)) ex.out)
     by_cases hxy : x < y
     ·have hN : Hid (acc2 ++ [⟨x, (i : Int), 1⟩, ⟨y, (i : Int), -1⟩] = acc0 ++ bdsL (i : Int) (l.take (j + 1))) := by
       show _ = _
       rw [hst.out, if_pos hxy, hA.out, List.append_assoc]
      have hd : decide (x < y) = true := by simpa using hxy
      have hal : acc2.length ≤ 400000 := by
       have h1 := bdsL_len (i : Int) (l.take j)
       have h2 := hacc.out
       rw [List.length_take] at h1
       rw [hA.out, List.length_append]
       omega
      obtain ⟨n, hn⟩ : ∃ n, Hid (n = acc2.length) := ⟨_, rfl⟩
      have hO2 : Hid (wr.ownsRow w.heap.size 190 3 u5 n (bdCells acc2)) := by
       have := hO.out
       unfold BdsO at this
       rw [← hn.out] at this
       exact this
      rw [← hn.out] at hal
      obtain ⟨oA, oC, rfl⟩ := owns_form hO2.out
      have lw := hx.out.size
      have hone : ∀ u ∈ [Value.int .i64 x, .int .i64 (i : Int), .int .i64 1, .int .i64 y, .int .i64 (i : Int), .int .i64 (-1)], u.oneCell' = true := by simp [Value.oneCell']
      have hone' := Lib.hid hone
      clear hst hO hA hone hxy
      go_wp2_with (at_builtin; refine wpList_append_any _ rfl (.tmp 30) (.tmp 39) _ rfl w.heap.size 190 j0 _ 3 24 Tryz.underlying186 hj0 jz0 jz1 jz2 rfl (by decide) (.slice oA n oC) n _ rfl ((hO2.out.alloc _).alloc _) (wr.heap.size + 2) (some ⟨wr.heap.size + 1, 0, none⟩) 2 2 [.int .i64 x, .int .i64 (i : Int), .int .i64 1, .int .i64 y, .int .i64 (i : Int), .int .i64 (-1)] rfl (reads_last _ #[_, _, _, _, _, _] _ 3 2 _ _ (by simp only [World.size_alloc]) (by omega) rfl) hone'.out (by unfold maxLen; omega) (by omega) (by rw [World.size_alloc, World.size_alloc]; omega) ?_; intro v1 w1 hown1 hg1 hat1)
      have hO3 : Hid (BdsO w1 w.heap.size v1 (acc2 ++ [⟨x, (i : Int), 1⟩, ⟨y, (i : Int), -1⟩])) := Lib.hid (BdsO.push (p := ⟨x, (i : Int), 1⟩) (q := ⟨y, (i : Int), -1⟩) hn.out hown1)
      have hx3 := Lib.hid (((hx.out.alloc (.cells #[.int .i64 x, .int .i64 y] 102)).alloc (.cells #[.int .i64 x, .int .i64 (i : Int), .int .i64 1, .int .i64 y, .int .i64 (i : Int), .int .i64 (-1)] 190)).grown hg1 (fun k e => (hO2.out.lt k e).1))
      have hB3 := Lib.hid (((hB.out.alloc (.cells #[.int .i64 x, .int .i64 y] 102)).alloc (.cells #[.int .i64 x, .int .i64 (i : Int), .int .i64 1, .int .i64 y, .int .i64 (i : Int), .int .i64 (-1)] 190)).grown hg1 (fun e => own_blk_ne hO2.out hB.out (by decide) e.symm))
      clear hown1 hg1 hat1 hO2
      go_wp2
      go_roundw
      case rel => exact ⟨j + 1, _, by omega, by go_num, hx3, hB3, hO3, hN⟩
      case measure => simp [intOf]; omega
     ·have hN : Hid (acc2 = acc0 ++ bdsL (i : Int) (l.take (j + 1))) := by
       show _ = _
       rw [hst.out, if_neg hxy, List.append_nil, hA.out]
      have hd : decide (x < y) = false := by simpa using hxy
      have hx3 := Lib.hid (hx.out.alloc (.cells #[.int .i64 x, .int .i64 y] 102))
      have hB3 := Lib.hid (hB.out.alloc (.cells #[.int .i64 x, .int .i64 y] 102))
      have hO3 := Lib.hid (hO.out.ext ((Ext.refl wr).alloc (.cells #[.int .i64 x, .int .i64 y] 102)))
      clear hst hA hO hx hB
      go_wp2
      go_roundw
      case rel => exact ⟨j + 1, acc2, by omega, by go_num, hx3, hB3, hO3, hN⟩
      case measure => simp [intOf]; omega
    ·have hN : Hid (acc2 = (if i + 1 = 0 then [] else bdsL 0 a) ++ (if i + 1 = 2 then bdsL 1 b else [])) := by
      show _ = _
      rw [hA.out, List.take_of_length_le (by omega), hnext.out]
     clear hA hnext
     go_wp2
     go_roundw
     case rel => exact ⟨i + 1, acc2, by omega, by go_num, hx, hB, hO, hN⟩
     case measure => simp [intOf]; omega
  ·have hN : Hid (acc = bdsL 0 a ++ bdsL 1 b) := by
    show _ = _
    rw [hA.out, if_neg (by omega), if_pos (by omega)]
   have hal : acc.length ≤ 1000000 := by
    have h1 := bdsL_len 0 a
    have h2 := bdsL_len 1 b
    rw [hN.out, List.length_append]
    omega
   have hc := Lib.hid (sortBd_calls wr w.heap.size _ acc hO.out hal)
   clear hA hal
   go_wp2_with fail
   refine hc.out.mono ?_
   rintro e w3 ⟨rfl, l', hp, hs, hO3, hK⟩
   have hx3 : Hid (Ext w w3) := by
    rcases hK with ⟨_, rfl⟩ | ⟨g, hg, hk⟩
    ·exact hx
    ·exact Lib.hid (hx.out.keep hk (by intro k hk1 hk2; have := (hO.out.lt g hg).1; omega))
   have hp' := Lib.hid (hN.out ▸ hp)
   have hs' := Lib.hid hs
   have hO3' := Lib.hid hO3
   clear hp hs hO3 hK hc
   go_wp2
   go_ret
   exact ⟨_, l', rfl, hO3'.out, hx3.out, hp'.out, hs'.out⟩
end Go.Proofs.YtepcdhpikpmepaaGreat
