/- Merged parts: FormA, FormB, ClosedA, ClosedB. -/
import Derived.Test.YtepcdhpikpmepaaGreatPGQ
import Derived.Test.YtepcdhpikpmepaaGreatPFQ
import Derived.Test.YtepcdhpikpmepaaGreatPEQ
import Derived.Test.YtepcdhpikpmepaaGreatPDQ
/- Walks of the check: formed. -/
namespace Go.Proofs.YtepcdhpikpmepaaGreat
open Go.RowKit

set_option maxHeartbeats 400000 in
theorem indexFunc_int_calls (va : Value) (l : List Int) (g : Nat) (hg : ∀ (x : Array Value) (W : World), (callFunc g x).run Tryz.prog W = .ok (.enter g x) W) (p : Int → Bool) (w : World) (h : Ints w va l)
  (hf : ∀ s ∈ l, ∀ W, Ext w W → Calls Tryz.prog g #[.int .i64 s] W fun e w' => e = .returned (.bool (p s)) ∧ Ext W w') :
  Calls Tryz.prog 69 #[va, .func (.func g) #[] #[]] w fun e w' => e = .returned (.int .i64 (findI p l)) ∧ Ext w w' := by
 obtain ⟨a, c, rfl, hn, hc, hat⟩ := h.open
 clear h
 have hf' := Lib.hid hf
 clear hf
 go_enter Tryz.func69, Tryz.ntmps69
 go_wp2_with fail
 go_loopw [8] (fun vi wr => ∃ i : Nat, i ≤ l.length ∧ vi = .int .i64 i ∧ Ext w wr ∧ Hid (FindAt p l i)) (fun vi _ => l.length - (intOf vi).toNat)
 case atStart => exact ⟨0, by omega, rfl, Ext.refl _, FindAt.zero _ _⟩
 case round =>
  obtain ⟨i, hi, rfl, hx, hF⟩ := hrel
  by_cases h1 : i < l.length
  ·obtain ⟨b1, o1, x, rfl, hb1, dx, ex, g1⟩ := hat i h1 wr hx
   have hm : x ∈ l := List.mem_of_getElem? ex.out
   have hcall := Lib.hid (hf'.out x hm wr hx)
   cases hp : p x with
   | true =>
    have R := Lib.hid (hF.out.hit ex.out hp)
    have hp' := Lib.hid hp
    clear hp
    go_wp2_with fail
    refine hcall.out.mono ?_
    rintro e w1 ⟨rfl, hx1⟩
    rw [hp'.out]
    go_wp2
    go_ret
    rw [R.out]
    exact ⟨rfl, hx.trans hx1⟩
   | false =>
    have R := Lib.hid (hF.out.miss ex.out hp)
    have hp' := Lib.hid hp
    clear hp
    go_wp2_with fail
    refine hcall.out.mono ?_
    rintro e w1 ⟨rfl, hx1⟩
    rw [hp'.out]
    go_wp2
    go_roundw
    case rel => exact ⟨i + 1, by omega, by go_num, hx.trans hx1, R⟩
    case measure => simp [intOf]; omega
  ·have R := Lib.hid (hF.out.none (by omega))
   go_wp2
   go_ret
   rw [R.out]
   exact ⟨rfl, hx⟩

theorem containsFunc_int_calls (va : Value) (l : List Int) (g : Nat) (hg : ∀ (x : Array Value) (W : World), (callFunc g x).run Tryz.prog W = .ok (.enter g x) W) (p : Int → Bool) (w : World) (h : Ints w va l)
  (hf : ∀ s ∈ l, ∀ W, Ext w W → Calls Tryz.prog g #[.int .i64 s] W fun e w' => e = .returned (.bool (p s)) ∧ Ext W w') :
  Calls Tryz.prog 41 #[va, .func (.func g) #[] #[]] w fun e w' => e = .returned (.bool (l.any p)) ∧ Ext w w' := by
 have hc := Lib.hid (indexFunc_int_calls va l g hg p w h hf)
 have R := Lib.hid (findI_ge p l)
 clear hf h
 go_enter Tryz.func41, Tryz.ntmps41
 go_wp2_with fail
 refine hc.out.mono ?_
 rintro e w1 ⟨rfl, hx1⟩
 go_wp2
 go_ret
 rw [R.out]
 exact ⟨rfl, hx1⟩

theorem formed1_calls (x : Int) (w : World) : Calls Tryz.prog 42 #[.int .i64 x] w fun e w' => e = .returned (.bool (!(x == 1))) ∧ Ext w w' := by
 go_enter Tryz.func42, Tryz.ntmps42
 go_wp2
 go_ret
 exact ⟨rfl, Ext.refl _⟩

/-! ### the counts of the parents -/
def tickKids (n i : Int) : List Int → List Int → Option (List Int)
 | [], ps => some ps
 | k :: r, ps => if k ≤ i ∨ n ≤ k then none else tickKids n i r (ps.set k.toNat (ps[k.toNat]?.getD 0 + 1))
def tickAll (n : Int) : List NodeD → Int → List Int → Option (List Int)
 | [], _, ps => some ps
 | x :: r, i, ps => match tickKids n i x.kids ps with | none => none | some ps' => tickAll n r (i + 1) ps'
def tickOk : Option (List Int) → Bool
 | none => false
 | some ps => !(ps.drop 1).any (fun x => !(x == 1))
def formedB (c : List NodeD) : Bool := if c.length = 0 ∨ 65536 < c.length then false else tickOk (tickAll c.length c 0 (zerosL c.length))

end Go.Proofs.YtepcdhpikpmepaaGreat

/- Walks of the check: formed. -/
namespace Go.Proofs.YtepcdhpikpmepaaGreat
open Go.RowKit

theorem tickKids_len {n i : Int} : ∀ {l ps qs : List Int}, tickKids n i l ps = some qs → qs.length = ps.length
 | [], ps, qs, h => by cases h; rfl
 | k :: r, ps, qs, h => by
  simp only [tickKids] at h
  split at h
  ·cases h
  ·have := tickKids_len h; simpa using this
def TickAt (n i : Int) (l : List Int) (ps0 : List Int) (j : Nat) (ps : List Int) : Prop := tickKids n i l ps0 = tickKids n i (l.drop j) ps
def AllAt (n : Int) (c : List NodeD) (ps0 : List Int) (i : Nat) (ps : List Int) : Prop := tickAll n c 0 ps0 = tickAll n (c.drop i) i ps
def Small (m : Nat) (ps : List Int) : Prop := ∀ x ∈ ps, 0 ≤ x ∧ x ≤ m
theorem Small.mono {m m' : Nat} {ps : List Int} (h : Small m ps) (hm : m ≤ m') : Small m' ps := fun x hx => by have := h x hx; omega
theorem Small.tick {m : Nat} {ps : List Int} (h : Small m ps) (k : Nat) (hk : k < ps.length) : Small (m + 1) (ps.set k (ps[k]?.getD 0 + 1)) := by
 intro x hx
 rcases List.mem_or_eq_of_mem_set hx with h1 | h1
 ·have := h x h1; omega
 ·have := h (ps[k]) (List.getElem_mem hk)
  rw [List.getElem?_eq_getElem hk] at h1
  simp at h1
  omega

set_option maxHeartbeats 3200000 in
set_option maxRecDepth 100000 in
theorem formed_calls (cv : Value) (c : List NodeD) (w : World) (h : Nodes w cv c) (hk : ∀ n ∈ c, n.kids.length ≤ 17592186044416) :
  Calls Tryz.prog 21 #[cv] w fun e w' => e = .returned (.bool (formedB c)) ∧ Ext w w' := by
 have hkk := Lib.hid hk
 obtain ⟨a, cc, rfl, hn, hc, hat⟩ := h.open
 clear h hk
 by_cases h0 : c.length = 0
 ·have e : Hid (formedB c = false) := by show _ = _; simp [formedB, h0]
  go_enter Tryz.func21, Tryz.ntmps21
  go_wp2
  go_ret
  rw [e.out]
  exact ⟨rfl, Ext.refl _⟩
 by_cases h1 : 65536 < c.length
 ·have e : Hid (formedB c = false) := by show _ = _; simp [formedB, h1]
  go_enter Tryz.func21, Tryz.ntmps21
  go_wp2
  go_ret
  rw [e.out]
  exact ⟨rfl, Ext.refl _⟩
 have hmk := run_make_ints c.length (by omega)
 have hF : Hid (formedB c = tickOk (tickAll c.length c 0 (zerosL c.length))) := by
  show _ = _
  unfold formedB
  rw [if_neg (by omega)]
 have hb0 : ((c.length : Int) == 0) = false := by simpa using h0
 go_enter Tryz.func21, Tryz.ntmps21
 go_wp2_with fail
 go_loopw [21] (fun vi wr => ∃ (i : Nat) (ps : List Int), i ≤ c.length ∧ vi = .int .i64 i ∧ Hid (Ext w wr) ∧ Hid (Blk wr w.heap.size 3 (ps.map (Value.int .i64)).toArray) ∧ ps.length = c.length ∧ Hid (AllAt c.length c (zerosL c.length) i ps) ∧ Hid (Small (i * 17592186044416) ps)) (fun vi _ => c.length - (intOf vi).toNat)
 case atStart =>
  refine ⟨0, zerosL c.length, by omega, rfl, Lib.hid (by exact (by with_reducible repeat' (first | exact Ext.refl _ | assumption | refine Ext.drewN ?_ _ | refine Ext.drew ?_ | refine Ext.alloc ?_ _ | refine Ext.trans ?_ (by with_reducible assumption)))), Lib.hid (by exact blk_new' rfl rfl), zerosL_len _, rfl, ?_⟩
  intro x hx
  simp [zerosL] at hx
  omega
 case round =>
  obtain ⟨i, ps, hi, rfl, hx, hP, hpl, hA, hS⟩ := hrel
  by_cases h2 : i < c.length
  ·obtain ⟨b1, o1, x, ka, kc, rfl, hb1, dx, ex, g0, g1, g2, g3, gk⟩ := hat i h2 w (Ext.refl _)
   have hxk := hkk.out x (List.mem_of_getElem? ex.out)
   have q0 := hx.out.cell g0
   have q1 := hx.out.cell g1
   have q2 := hx.out.cell g2
   have q3 := hx.out.cell g3
   have gat := gk.at_.1
   clear hat gk g0 g1 g2 g3
   have hPlt : w.heap.size < wr.heap.size := hP.out.lt
   have hb1' : b1 < wr.heap.size := by omega
   go_wp2_with fail
   go_loopw [29] (fun vj wr2 => ∃ (j : Nat) (ps2 : List Int), j ≤ x.kids.length ∧ vj = .int .i64 j ∧ Hid (Ext w wr2) ∧ Hid (Blk wr2 w.heap.size 3 (ps2.map (Value.int .i64)).toArray) ∧ ps2.length = c.length ∧ Hid (TickAt c.length i x.kids ps j ps2) ∧ Hid (Small (i * 17592186044416 + j) ps2)) (fun vj _ => x.kids.length - (intOf vj).toNat)
   case atStart =>
    exact ⟨0, ps, by omega, rfl, Lib.hid (hx.out.trans (by exact (by with_reducible repeat' (first | exact Ext.refl _ | assumption | refine Ext.drewN ?_ _ | refine Ext.drew ?_ | refine Ext.alloc ?_ _ | refine Ext.trans ?_ (by with_reducible assumption))))), Lib.hid (hP.out.alloc _), hpl, rfl, by simpa using hS⟩
   case round =>
    obtain ⟨j, ps2, hj, rfl, hx2, hP2, hpl2, hT, hS2⟩ := hrel
    by_cases h3 : j < x.kids.length
    ·obtain ⟨b2, o2, k, rfl, hb2, dk, ek, k1⟩ := gat j h3 wr hx2.out
     have hT' := hT.out
     unfold TickAt at hT'
     rw [dk.out] at hT'
     by_cases hk1 : k ≤ (i : Int)
     ·have R : Hid (formedB c = false) := by
       show _ = _
       rw [hF.out, hA.out, dx.out]
       simp only [tickAll]
       rw [hT']
       simp [tickKids, hk1, tickOk]
      clear hT' hT
      go_wp2
      go_ret
      rw [R.out]
      exact ⟨rfl, hx2.out⟩
     by_cases hk2 : (c.length : Int) ≤ k
     ·have R : Hid (formedB c = false) := by
       show _ = _
       rw [hF.out, hA.out, dx.out]
       simp only [tickAll]
       rw [hT']
       simp [tickKids, hk2, tickOk]
      clear hT' hT
      go_wp2
      go_ret
      rw [R.out]
      exact ⟨rfl, hx2.out⟩
     obtain ⟨kn, rfl⟩ : ∃ kn : Nat, k = kn := ⟨k.toNat, by omega⟩
     have hkl : kn < ps2.length := by omega
     have hTn : Hid (TickAt c.length i x.kids ps (j + 1) (ps2.set kn (ps2[kn]?.getD 0 + 1))) := by
      show _ = _
      rw [hT']
      simp only [tickKids]
      rw [if_neg (by omega)]
      rfl
     have hSn : Hid (Small (i * 17592186044416 + (j + 1)) (ps2.set kn (ps2[kn]?.getD 0 + 1))) := by
      have := hS2.out.tick kn hkl
      rw [Nat.add_assoc] at this
      exact this
     have hPn : Hid (Blk (wr.setCell ⟨w.heap.size, kn, none⟩ (.int .i64 (ps2[kn]?.getD 0 + 1))) w.heap.size 3 ((ps2.set kn (ps2[kn]?.getD 0 + 1)).map (Value.int .i64)).toArray) := by
      have hpk := hP2.out.set_ kn (.int .i64 (ps2[kn]?.getD 0 + 1))
      have e : (ps2.map (Value.int .i64)).toArray.setIfInBounds kn (.int .i64 (ps2[kn]?.getD 0 + 1)) = ((ps2.set kn (ps2[kn]?.getD 0 + 1)).map (Value.int .i64)).toArray := by simp [List.map_set]
      rw [e] at hpk
      exact hpk
     have hold : 0 ≤ ps2[kn]?.getD 0 ∧ ps2[kn]?.getD 0 ≤ 1152921504606846976 := by
      have := hS2.out ps2[kn] (List.getElem_mem hkl)
      rw [List.getElem?_eq_getElem hkl]
      simp only [Option.getD_some]
      omega
     have m1 : wr.cell? ⟨w.heap.size, kn, none⟩ = some (.int .i64 (ps2[kn]?.getD 0)) := by
      have := hP2.out.cell kn
      rw [this]
      simp [hkl]
     have m2 : wr.frozen? ⟨w.heap.size, kn, none⟩ = false := hP2.out.frozen _
     have ol := hold.1
     have oh := hold.2
     have hpn : (ps2.set kn (ps2[kn]?.getD 0 + 1)).length = c.length := by rw [List.length_set]; exact hpl2
     have hxn : Hid (Ext w (wr.setCell ⟨w.heap.size, kn, none⟩ (.int .i64 (ps2[kn]?.getD 0 + 1)))) := Ext.setCell hx2.out (Nat.le_refl _) _
     clear hT' hT hold hS2
     generalize ps2.set kn (ps2[kn]?.getD 0 + 1) = ps3 at *
     generalize ps2[kn]?.getD 0 = old at *
     go_wp2
     go_roundw
     case rel => exact ⟨j + 1, ps3, by omega, by go_num, hxn, hPn, hpn, hTn, hSn⟩
     case measure => simp [intOf]; omega
    ·have hTe : Hid (tickKids c.length i x.kids ps = some ps2) := by
      show _ = _
      have := hT.out
      unfold TickAt at this
      rw [List.drop_eq_nil_of_le (by omega)] at this
      exact this
     have hAn : Hid (AllAt c.length c (zerosL c.length) (i + 1) ps2) := by
      have := hA.out
      unfold AllAt at this
      rw [dx.out] at this
      show _ = _
      rw [this]
      simp only [tickAll, hTe.out]
      rfl
     have hSn : Hid (Small ((i + 1) * 17592186044416) ps2) := hS2.out.mono (by omega)
     clear hT hTe
     go_wp2
     go_roundw
     case rel => exact ⟨i + 1, ps2, by omega, by go_num, hx2, hP2, hpl2, hAn, hSn⟩
     case measure => simp [intOf]; omega
  ·have R : Hid (formedB c = !(ps.drop 1).any (fun x => !(x == 1))) := by
    show _ = _
    have := hA.out
    unfold AllAt at this
    rw [List.drop_eq_nil_of_le (by omega)] at this
    rw [hF.out, this]
    rfl
   clear hat hA hF
   have hints : Hid (Ints wr (.slice (if c.length = 1 then some ⟨w.heap.size, 0, none⟩ else some ⟨w.heap.size, 1, none⟩) (c.length - 1) (c.length - 1)) (ps.drop 1)) := by
    refine ⟨_, _, by rw [List.length_drop, hpl], by simp [hpl], by unfold maxLen; omega, fun h0 => ⟨w.heap.size, 1, ?_, hP.out.lt, fun k hk j hj => ?_⟩⟩
    ·rw [if_neg (by rw [List.length_drop] at h0; omega)]
    ·obtain rfl : j = 0 := by omega
     rw [hP.out.cell]
     rw [List.length_drop] at hk
     have e1 : 1 + k * 1 + 0 = k + 1 := by omega
     rw [e1]
     simp [show k + 1 < ps.length by omega]
   obtain ⟨B, hB⟩ : ∃ B, Hid ((ps.drop 1).any (fun x => !(x == 1)) = B) := ⟨_, rfl⟩
   rw [hB.out] at R
   by_cases hone : c.length = 1
   ·rw [if_pos hone] at hints
    have hcc := Lib.hid (containsFunc_int_calls _ _ 42 (fun _ _ => by kernel_rfl) (fun x => !(x == 1)) wr hints.out (fun s _ W _ => formed1_calls s W))
    rw [hB.out, show c.length - 1 = 0 by omega] at hcc
    go_wp2_with fail
    refine hcc.out.mono ?_
    rintro e w1 ⟨rfl, hx1⟩
    go_wp2
    go_ret
    rw [R.out]
    exact ⟨rfl, hx.out.trans hx1⟩
   ·rw [if_neg hone] at hints
    have hcc := Lib.hid (containsFunc_int_calls _ _ 42 (fun _ _ => by kernel_rfl) (fun x => !(x == 1)) wr hints.out (fun s _ W _ => formed1_calls s W))
    rw [hB.out] at hcc
    go_wp2_with fail
    refine hcc.out.mono ?_
    rintro e w1 ⟨rfl, hx1⟩
    go_wp2
    go_ret
    rw [R.out]
    exact ⟨rfl, hx.out.trans hx1⟩
end Go.Proofs.YtepcdhpikpmepaaGreat

/- Walks of the check: the checker's memory; closed. -/
namespace Go.Proofs.YtepcdhpikpmepaaGreat
open Go.RowKit

structure Chk (w0 w : World) (K D : Nat) (tv cv : Value) (t : List WishD) (bound : Int) (c : List NodeD) (dec : List Int) (lst : Int) : Prop where
 ext : Ext w0 w
 wishes : Wishes w0 tv t
 nodes : Nodes w0 cv c
 bK : w0.heap.size ≤ K
 bD : w0.heap.size ≤ D
 blk : Blk w K 81 #[tv, .int .i64 bound, cv, .slice (some ⟨D, 0, none⟩) dec.length dec.length, .int .i64 lst]
 db : Blk w D 3 (dec.map (Value.int .i64)).toArray
def DecOk (t : List WishD) (dec : List Int) : Prop := dec.length = t.length ∧ ∀ (i : Nat) (x : WishD) (d : Int), t[i]? = some x → dec[i]? = some d → -1 ≤ d ∧ d < x.opts.length

section
variable {w0 w w' : World} {K D : Nat} {tv cv : Value} {t : List WishD} {bound : Int} {c : List NodeD} {dec : List Int} {lst : Int}
theorem Chk.toExt (h : Chk w0 w K D tv cv t bound c dec lst) (e : Ext w w') : Chk w0 w' K D tv cv t bound c dec lst := by
 have k : Keep (fun _ => False) w w' := Keep.of_ext e
 exact ⟨h.ext.trans e, h.wishes, h.nodes, h.bK, h.bD, k.blk h.blk id, k.blk h.db id⟩
theorem Chk.ne (h : Chk w0 w K D tv cv t bound c dec lst) : K ≠ D := Blk.ne_ h.blk h.db (by decide)
theorem Chk.setLst (h : Chk w0 w K D tv cv t bound c dec lst) (l : Int) : Chk w0 (w.setCell ⟨K, 4, none⟩ (.int .i64 l)) K D tv cv t bound c dec l :=
 ⟨h.ext.setCell h.bK _, h.wishes, h.nodes, h.bK, h.bD, h.blk.set_ 4 _, h.db.far h.ne.symm _⟩
theorem Chk.setDec (h : Chk w0 w K D tv cv t bound c dec lst) (i : Nat) (d : Int) : Chk w0 (w.setCell ⟨D, i, none⟩ (.int .i64 d)) K D tv cv t bound c (dec.set i d) lst := by
 have hpk := h.db.set_ i (.int .i64 d)
 have e : (dec.map (Value.int .i64)).toArray.setIfInBounds i (.int .i64 d) = ((dec.set i d).map (Value.int .i64)).toArray := by simp [List.map_set]
 rw [e] at hpk
 refine ⟨h.ext.setCell h.bD _, h.wishes, h.nodes, h.bK, h.bD, ?_, hpk⟩
 rw [List.length_set]
 exact h.blk.far h.ne _
end

def decAt (dec : List Int) (a : Int) : Int := dec[a.toNat]?.getD 0
def closedB (t : List WishD) (bound : Int) (dec : List Int) (lst clA clB harm : Int) : Bool :=
 if clA = -1 then (clB == 0) && decide (bound ≤ harm + lst)
 else if idxB clA t.length = false ∨ idxB clB t.length = false ∨ clA = clB then false
 else decide (0 ≤ decAt dec clA) && decide (0 ≤ decAt dec clB) && clashAt t dec clA.toNat clB.toNat



set_option maxHeartbeats 1600000 in
set_option maxRecDepth 100000 in
theorem closed_open (w0 w : World) (K D : Nat) (tv cv : Value) (t : List WishD) (bound : Int) (c : List NodeD) (dec : List Int) (lst wish clA clB harm : Int) (kv : Value)
  (H : Chk w0 w K D tv cv t bound c dec lst) (hd : DecOk t dec) (ht : TaskIn t) (_h1 : -1000000000000 ≤ harm + lst) (_h2 : harm + lst ≤ 2000000000000) (hA : clA = -1) :
  Calls Tryz.prog 43 #[.pointer (some ⟨K, 0, none⟩), .agg #[.int .i64 wish, kv, .int .i64 clA, .int .i64 clB], .int .i64 harm] w fun e w' =>
   e = .returned (.bool (closedB t bound dec lst clA clB harm)) ∧ Ext w w' := by
 have hH := Lib.hid H
 have hdd := Lib.hid hd
 have htt := Lib.hid ht
 obtain ⟨ta, tc, rfl, hn, hc, hat⟩ := H.wishes.open
 have k0 : w.cell? ⟨K, 0, none⟩ = some (.slice ta t.length tc) := H.blk.cell 0
 have k1 : w.cell? ⟨K, 1, none⟩ = some (.int .i64 bound) := H.blk.cell 1
 have k3 : w.cell? ⟨K, 3, none⟩ = some (.slice (some ⟨D, 0, none⟩) dec.length dec.length) := H.blk.cell 3
 have k4 : w.cell? ⟨K, 4, none⟩ = some (.int .i64 lst) := H.blk.cell 4
 clear H hd ht
 clear hat
 subst hA
 by_cases hB : clB = 0
 ·subst hB
  have R : Hid (closedB t bound dec lst (-1) 0 harm = decide (bound ≤ harm + lst)) := by show _ = _; simp [closedB]
  go_enter Tryz.func43, Tryz.ntmps43
  go_wp2_with fail
  refine wp_abs (S := fun W => Ext w W ∧ W.cell? ⟨w.heap.size, 2, none⟩ = some (.int .i64 (-1)) ∧ W.cell? ⟨w.heap.size, 3, none⟩ = some (.int .i64 0)) ⟨by exact (by with_reducible repeat' (first | exact Ext.refl _ | assumption | refine Ext.drewN ?_ _ | refine Ext.drew ?_ | refine Ext.alloc ?_ _ | refine Ext.trans ?_ (by with_reducible assumption))), by simp, by simp⟩ ?_
  rintro W ⟨hx, c2, c3⟩
  have d2 := After.cell c2
  have d3 := After.cell c3
  have d4 := After.cell (hx.cell k4)
  have d1 := After.cell (hx.cell k1)
  have d0 := After.cell (hx.cell k0)
  have d5 := After.cell (hx.cell k3)
  go_wp2_with fail
  refine wp_region_after (by kernel_rfl) (by kernel_rfl) ?_
  repeat (go_big_quiet_step (exact After.call _ (by first | (with_reducible exact hI1.out _) | (with_reducible exact hI2.out _) | exact hcl.out _ (After.ext _))))
  refine wpQuiet_nil ?_
  rintro _ ⟨z, rfl⟩
  go_wp2
  go_ret
  rw [R.out]
  exact ⟨rfl, hx.trans z.ext⟩
 ·have R : Hid (closedB t bound dec lst (-1) clB harm = false) := by show _ = _; simp [closedB, hB]
  have hB' : (clB == 0) = false := by simpa using hB
  go_enter Tryz.func43, Tryz.ntmps43
  go_wp2_with fail
  refine wp_abs (S := fun W => Ext w W ∧ W.cell? ⟨w.heap.size, 2, none⟩ = some (.int .i64 (-1)) ∧ W.cell? ⟨w.heap.size, 3, none⟩ = some (.int .i64 clB)) ⟨by exact (by with_reducible repeat' (first | exact Ext.refl _ | assumption | refine Ext.drewN ?_ _ | refine Ext.drew ?_ | refine Ext.alloc ?_ _ | refine Ext.trans ?_ (by with_reducible assumption))), by simp, by simp⟩ ?_
  rintro W ⟨hx, c2, c3⟩
  have d2 := After.cell c2
  have d3 := After.cell c3
  have d4 := After.cell (hx.cell k4)
  have d1 := After.cell (hx.cell k1)
  have d0 := After.cell (hx.cell k0)
  have d5 := After.cell (hx.cell k3)
  go_wp2_with fail
  refine wp_region_after (by kernel_rfl) (by kernel_rfl) ?_
  repeat (go_big_quiet_step (exact After.call _ (by first | (with_reducible exact hI1.out _) | (with_reducible exact hI2.out _) | exact hcl.out _ (After.ext _))))
  refine wpQuiet_nil ?_
  rintro _ ⟨z, rfl⟩
  go_wp2
  go_ret
  rw [R.out]
  exact ⟨rfl, hx.trans z.ext⟩

set_option maxHeartbeats 1600000 in
set_option maxRecDepth 100000 in
theorem closed_badA (w0 w : World) (K D : Nat) (tv cv : Value) (t : List WishD) (bound : Int) (c : List NodeD) (dec : List Int) (lst wish clA clB harm : Int) (kv : Value)
  (H : Chk w0 w K D tv cv t bound c dec lst) (hd : DecOk t dec) (ht : TaskIn t) (_h1 : -1000000000000 ≤ harm + lst) (_h2 : harm + lst ≤ 2000000000000) (hA : clA ≠ -1) (hI : idxB clA t.length = false) :
  Calls Tryz.prog 43 #[.pointer (some ⟨K, 0, none⟩), .agg #[.int .i64 wish, kv, .int .i64 clA, .int .i64 clB], .int .i64 harm] w fun e w' =>
   e = .returned (.bool (closedB t bound dec lst clA clB harm)) ∧ Ext w w' := by
 have hH := Lib.hid H
 have hdd := Lib.hid hd
 have htt := Lib.hid ht
 obtain ⟨ta, tc, rfl, hn, hc, hat⟩ := H.wishes.open
 have k0 : w.cell? ⟨K, 0, none⟩ = some (.slice ta t.length tc) := H.blk.cell 0
 have k1 : w.cell? ⟨K, 1, none⟩ = some (.int .i64 bound) := H.blk.cell 1
 have k3 : w.cell? ⟨K, 3, none⟩ = some (.slice (some ⟨D, 0, none⟩) dec.length dec.length) := H.blk.cell 3
 have k4 : w.cell? ⟨K, 4, none⟩ = some (.int .i64 lst) := H.blk.cell 4
 clear H hd ht
 clear hat
 have hA' : (clA == -1) = false := by simpa using hA
 have R : Hid (closedB t bound dec lst clA clB harm = false) := by show _ = _; simp [closedB, hA, hI]
 have hI1 : Hid (∀ W, Calls Tryz.prog 44 #[.int .i64 clA, .int .i64 t.length] W fun e w' => e = .returned (.bool false) ∧ Ext W w') := fun W => by have := index_calls clA t.length W; rwa [hI] at this
 clear hI hA
 go_enter Tryz.func43, Tryz.ntmps43
 go_wp2_with fail
 refine wp_abs (S := fun W => Ext w W ∧ W.cell? ⟨w.heap.size, 2, none⟩ = some (.int .i64 clA) ∧ W.cell? ⟨w.heap.size, 3, none⟩ = some (.int .i64 clB)) ⟨by exact (by with_reducible repeat' (first | exact Ext.refl _ | assumption | refine Ext.drewN ?_ _ | refine Ext.drew ?_ | refine Ext.alloc ?_ _ | refine Ext.trans ?_ (by with_reducible assumption))), by simp, by simp⟩ ?_
 rintro W ⟨hx, c2, c3⟩
 have d2 := After.cell c2
 have d3 := After.cell c3
 have d4 := After.cell (hx.cell k4)
 have d1 := After.cell (hx.cell k1)
 have d0 := After.cell (hx.cell k0)
 have d5 := After.cell (hx.cell k3)
 go_wp2_with fail
 refine wp_region_after (by kernel_rfl) (by kernel_rfl) ?_
 repeat (go_big_quiet_step (exact After.call _ (by first | (with_reducible exact hI1.out _) | (with_reducible exact hI2.out _) | exact hcl.out _ (After.ext _))))
 refine wpQuiet_nil ?_
 rintro _ ⟨z, rfl⟩
 go_wp2
 go_ret
 rw [R.out]
 exact ⟨rfl, hx.trans z.ext⟩

set_option maxHeartbeats 1600000 in
set_option maxRecDepth 100000 in
theorem closed_badB (w0 w : World) (K D : Nat) (tv cv : Value) (t : List WishD) (bound : Int) (c : List NodeD) (dec : List Int) (lst wish clA clB harm : Int) (kv : Value)
  (H : Chk w0 w K D tv cv t bound c dec lst) (hd : DecOk t dec) (ht : TaskIn t) (_h1 : -1000000000000 ≤ harm + lst) (_h2 : harm + lst ≤ 2000000000000) (hA : clA ≠ -1) (hI : idxB clA t.length = true) (hJ : idxB clB t.length = false) :
  Calls Tryz.prog 43 #[.pointer (some ⟨K, 0, none⟩), .agg #[.int .i64 wish, kv, .int .i64 clA, .int .i64 clB], .int .i64 harm] w fun e w' =>
   e = .returned (.bool (closedB t bound dec lst clA clB harm)) ∧ Ext w w' := by
 have hH := Lib.hid H
 have hdd := Lib.hid hd
 have htt := Lib.hid ht
 obtain ⟨ta, tc, rfl, hn, hc, hat⟩ := H.wishes.open
 have k0 : w.cell? ⟨K, 0, none⟩ = some (.slice ta t.length tc) := H.blk.cell 0
 have k1 : w.cell? ⟨K, 1, none⟩ = some (.int .i64 bound) := H.blk.cell 1
 have k3 : w.cell? ⟨K, 3, none⟩ = some (.slice (some ⟨D, 0, none⟩) dec.length dec.length) := H.blk.cell 3
 have k4 : w.cell? ⟨K, 4, none⟩ = some (.int .i64 lst) := H.blk.cell 4
 clear H hd ht
 clear hat
 have hA' : (clA == -1) = false := by simpa using hA
 have R : Hid (closedB t bound dec lst clA clB harm = false) := by show _ = _; simp [closedB, hA, hI, hJ]
 have hI1 : Hid (∀ W, Calls Tryz.prog 44 #[.int .i64 clA, .int .i64 t.length] W fun e w' => e = .returned (.bool true) ∧ Ext W w') := fun W => by have := index_calls clA t.length W; rwa [hI] at this
 have hI2 : Hid (∀ W, Calls Tryz.prog 44 #[.int .i64 clB, .int .i64 t.length] W fun e w' => e = .returned (.bool false) ∧ Ext W w') := fun W => by have := index_calls clB t.length W; rwa [hJ] at this
 clear hI hA hJ
 go_enter Tryz.func43, Tryz.ntmps43
 go_wp2_with fail
 refine wp_abs (S := fun W => Ext w W ∧ W.cell? ⟨w.heap.size, 2, none⟩ = some (.int .i64 clA) ∧ W.cell? ⟨w.heap.size, 3, none⟩ = some (.int .i64 clB)) ⟨by exact (by with_reducible repeat' (first | exact Ext.refl _ | assumption | refine Ext.drewN ?_ _ | refine Ext.drew ?_ | refine Ext.alloc ?_ _ | refine Ext.trans ?_ (by with_reducible assumption))), by simp, by simp⟩ ?_
 rintro W ⟨hx, c2, c3⟩
 have d2 := After.cell c2
 have d3 := After.cell c3
 have d4 := After.cell (hx.cell k4)
 have d1 := After.cell (hx.cell k1)
 have d0 := After.cell (hx.cell k0)
 have d5 := After.cell (hx.cell k3)
 go_wp2_with fail
 refine wp_region_after (by kernel_rfl) (by kernel_rfl) ?_
 repeat (go_big_quiet_step (exact After.call _ (by first | (with_reducible exact hI1.out _) | (with_reducible exact hI2.out _) | exact hcl.out _ (After.ext _))))
 refine wpQuiet_nil ?_
 rintro _ ⟨z, rfl⟩
 go_wp2
 go_ret
 rw [R.out]
 exact ⟨rfl, hx.trans z.ext⟩

set_option maxHeartbeats 1600000 in
set_option maxRecDepth 100000 in
theorem closed_same (w0 w : World) (K D : Nat) (tv cv : Value) (t : List WishD) (bound : Int) (c : List NodeD) (dec : List Int) (lst wish clA clB harm : Int) (kv : Value)
  (H : Chk w0 w K D tv cv t bound c dec lst) (hd : DecOk t dec) (ht : TaskIn t) (_h1 : -1000000000000 ≤ harm + lst) (_h2 : harm + lst ≤ 2000000000000) (hA : clA ≠ -1) (hI : idxB clA t.length = true) (hE : clA = clB) :
  Calls Tryz.prog 43 #[.pointer (some ⟨K, 0, none⟩), .agg #[.int .i64 wish, kv, .int .i64 clA, .int .i64 clB], .int .i64 harm] w fun e w' =>
   e = .returned (.bool (closedB t bound dec lst clA clB harm)) ∧ Ext w w' := by
 have hH := Lib.hid H
 have hdd := Lib.hid hd
 have htt := Lib.hid ht
 obtain ⟨ta, tc, rfl, hn, hc, hat⟩ := H.wishes.open
 have k0 : w.cell? ⟨K, 0, none⟩ = some (.slice ta t.length tc) := H.blk.cell 0
 have k1 : w.cell? ⟨K, 1, none⟩ = some (.int .i64 bound) := H.blk.cell 1
 have k3 : w.cell? ⟨K, 3, none⟩ = some (.slice (some ⟨D, 0, none⟩) dec.length dec.length) := H.blk.cell 3
 have k4 : w.cell? ⟨K, 4, none⟩ = some (.int .i64 lst) := H.blk.cell 4
 clear H hd ht
 clear hat
 subst hE
 have hA' : (clA == -1) = false := by simpa using hA
 have R : Hid (closedB t bound dec lst clA clA harm = false) := by show _ = _; simp [closedB, hA]
 have hI1 : Hid (∀ W, Calls Tryz.prog 44 #[.int .i64 clA, .int .i64 t.length] W fun e w' => e = .returned (.bool true) ∧ Ext W w') := fun W => by have := index_calls clA t.length W; rwa [hI] at this
 have hE' : (clA == clA) = true := by simp
 clear hI hA
 go_enter Tryz.func43, Tryz.ntmps43
 go_wp2_with fail
 refine wp_abs (S := fun W => Ext w W ∧ W.cell? ⟨w.heap.size, 2, none⟩ = some (.int .i64 clA) ∧ W.cell? ⟨w.heap.size, 3, none⟩ = some (.int .i64 clA)) ⟨by exact (by with_reducible repeat' (first | exact Ext.refl _ | assumption | refine Ext.drewN ?_ _ | refine Ext.drew ?_ | refine Ext.alloc ?_ _ | refine Ext.trans ?_ (by with_reducible assumption))), by simp, by simp⟩ ?_
 rintro W ⟨hx, c2, c3⟩
 have d2 := After.cell c2
 have d3 := After.cell c3
 have d4 := After.cell (hx.cell k4)
 have d1 := After.cell (hx.cell k1)
 have d0 := After.cell (hx.cell k0)
 have d5 := After.cell (hx.cell k3)
 go_wp2_with fail
 refine wp_region_after (by kernel_rfl) (by kernel_rfl) ?_
 repeat (go_big_quiet_step (exact After.call _ (by first | (with_reducible exact hI1.out _) | (with_reducible exact hI2.out _) | exact hcl.out _ (After.ext _))))
 refine wpQuiet_nil ?_
 rintro _ ⟨z, rfl⟩
 go_wp2
 go_ret
 rw [R.out]
 exact ⟨rfl, hx.trans z.ext⟩
end Go.Proofs.YtepcdhpikpmepaaGreat

/- Walks of the check: closed, whole. -/
namespace Go.Proofs.YtepcdhpikpmepaaGreat
open Go.RowKit



set_option maxHeartbeats 1600000 in
set_option maxRecDepth 100000 in
theorem closed_undecA (w0 w : World) (K D : Nat) (tv cv : Value) (t : List WishD) (bound : Int) (c : List NodeD) (dec : List Int) (lst wish clA clB harm : Int) (kv : Value)
  (H : Chk w0 w K D tv cv t bound c dec lst) (hd : DecOk t dec) (ht : TaskIn t) (_h1 : -1000000000000 ≤ harm + lst) (_h2 : harm + lst ≤ 2000000000000) (hA : clA ≠ -1) (hI : idxB clA t.length = true) (hJ : idxB clB t.length = true) (hE : clA ≠ clB) (hu : decAt dec clA < 0) :
  Calls Tryz.prog 43 #[.pointer (some ⟨K, 0, none⟩), .agg #[.int .i64 wish, kv, .int .i64 clA, .int .i64 clB], .int .i64 harm] w fun e w' =>
   e = .returned (.bool (closedB t bound dec lst clA clB harm)) ∧ Ext w w' := by
 have hH := Lib.hid H
 have hdd := Lib.hid hd
 have htt := Lib.hid ht
 obtain ⟨ta, tc, rfl, hn, hc, hat⟩ := H.wishes.open
 have k0 : w.cell? ⟨K, 0, none⟩ = some (.slice ta t.length tc) := H.blk.cell 0
 have k1 : w.cell? ⟨K, 1, none⟩ = some (.int .i64 bound) := H.blk.cell 1
 have k3 : w.cell? ⟨K, 3, none⟩ = some (.slice (some ⟨D, 0, none⟩) dec.length dec.length) := H.blk.cell 3
 have k4 : w.cell? ⟨K, 4, none⟩ = some (.int .i64 lst) := H.blk.cell 4
 clear H hd ht
 have hat' := Lib.hid hat
 clear hat
 have hA' : (clA == -1) = false := by simpa using hA
 have hI1 : Hid (∀ W, Calls Tryz.prog 44 #[.int .i64 clA, .int .i64 t.length] W fun e w' => e = .returned (.bool true) ∧ Ext W w') := fun W => by have := index_calls clA t.length W; rwa [hI] at this
 have hI2 : Hid (∀ W, Calls Tryz.prog 44 #[.int .i64 clB, .int .i64 t.length] W fun e w' => e = .returned (.bool true) ∧ Ext W w') := fun W => by have := index_calls clB t.length W; rwa [hJ] at this
 have hE' : (clA == clB) = false := by simpa using hE
 obtain ⟨a, rfl, ha⟩ := idxB_nat hI
 obtain ⟨b, rfl, hb⟩ := idxB_nat hJ
 have R0 : Hid (closedB t bound dec lst a b harm = (decide (0 ≤ decAt dec a) && decide (0 ≤ decAt dec b) && clashAt t dec a b)) := by
  show _ = _
  unfold closedB
  rw [if_neg hA, if_neg (by simp [hI, hJ]; omega)]
  rfl
 have hdl := hdd.out.1
 obtain ⟨da, hda⟩ : ∃ d, dec[a]? = some d := ⟨dec[a], List.getElem?_eq_getElem (by omega)⟩
 obtain ⟨db, hdb⟩ : ∃ d, dec[b]? = some d := ⟨dec[b], List.getElem?_eq_getElem (by omega)⟩
 have hR1 : decAt dec a = da := by simp [decAt, hda]
 have hR2 : decAt dec b = db := by simp [decAt, hdb]
 rw [hR1, hR2] at R0
 have l0 : w.cell? ⟨D, a, none⟩ = some (.int .i64 da) := by
  rw [hH.out.db.cell a]; simp [hda]
 have l1 : w.cell? ⟨D, b, none⟩ = some (.int .i64 db) := by
  rw [hH.out.db.cell b]; simp [hdb]
 have hal : a < dec.length := by omega
 have hbl : b < dec.length := by omega
 have hHda := Lib.hid hda
 have hHdb := Lib.hid hdb
 clear hI hJ hA hE hR1 hR2 hda hdb
 have hu1 : da < 0 := by have := hu; simp only [decAt, Int.toNat_natCast, hHda.out, Option.getD_some] at this; exact this
 have hu2 : decide (0 ≤ da) = false := by simpa using hu1
 rw [hu2] at R0
 simp only [Bool.false_and] at R0
 clear hu
 go_enter Tryz.func43, Tryz.ntmps43
 go_wp2_with fail
 refine wp_abs (S := fun W => Ext w W ∧ W.cell? ⟨w.heap.size, 2, none⟩ = some (.int .i64 a) ∧ W.cell? ⟨w.heap.size, 3, none⟩ = some (.int .i64 b)) ⟨by exact (by with_reducible repeat' (first | exact Ext.refl _ | assumption | refine Ext.drewN ?_ _ | refine Ext.drew ?_ | refine Ext.alloc ?_ _ | refine Ext.trans ?_ (by with_reducible assumption))), by simp, by simp⟩ ?_
 rintro W ⟨hx, c2, c3⟩
 have d2 := After.cell c2
 have d3 := After.cell c3
 have d4 := After.cell (hx.cell k4)
 have d1 := After.cell (hx.cell k1)
 have d0 := After.cell (hx.cell k0)
 have d5 := After.cell (hx.cell k3)
 go_wp2_with fail
 refine wp_region_after (by kernel_rfl) (by kernel_rfl) ?_
 repeat (go_big_quiet_step (exact After.call _ (by first | (with_reducible exact hI1.out _) | (with_reducible exact hI2.out _) | exact hcl.out _ (After.ext _))))
 refine wpQuiet_nil ?_
 rintro _ ⟨z, rfl⟩
 go_step; go_step
 refine wp_abs (S := fun W' => Ext W W') z.ext ?_
 clear z
 intro W2 hx2
 have f2 := After.cell (hx2.cell c2)
 have f3 := After.cell (hx2.cell c3)
 have f5 := After.cell (hx2.cell (hx.cell k3))
 have g0 := After.cell (hx2.cell (hx.cell l0))
 have g1 := After.cell (hx2.cell (hx.cell l1))
 go_wp2_with fail
 refine wp_region_after (by kernel_rfl) (by kernel_rfl) ?_
 repeat (go_big_quiet_step (exact After.call _ (by first | (with_reducible exact hI1.out _) | (with_reducible exact hI2.out _) | exact hcl.out _ (After.ext _))))
 refine wpQuiet_nil ?_
 rintro _ ⟨z, rfl⟩
 go_step; go_step
 refine wp_abs (S := fun W' => Ext W2 W') z.ext ?_
 clear z
 intro W3 hx3
 have f2' := After.cell (hx3.cell (hx2.cell c2))
 have f3' := After.cell (hx3.cell (hx2.cell c3))
 have f0' := After.cell (hx3.cell (hx2.cell (hx.cell k0)))
 go_wp2_with fail
 refine wp_region_after (by kernel_rfl) (by kernel_rfl) ?_
 repeat (go_big_quiet_step (exact After.call _ (by first | (with_reducible exact hI1.out _) | (with_reducible exact hI2.out _) | exact hcl.out _ (After.ext _))))
 refine wpQuiet_nil ?_
 rintro _ ⟨z, rfl⟩
 go_wp2
 go_ret
 rw [R0.out]
 exact ⟨rfl, ((hx.trans hx2).trans hx3).trans z.ext⟩

set_option maxHeartbeats 1600000 in
set_option maxRecDepth 100000 in
theorem closed_undecB (w0 w : World) (K D : Nat) (tv cv : Value) (t : List WishD) (bound : Int) (c : List NodeD) (dec : List Int) (lst wish clA clB harm : Int) (kv : Value)
  (H : Chk w0 w K D tv cv t bound c dec lst) (hd : DecOk t dec) (ht : TaskIn t) (_h1 : -1000000000000 ≤ harm + lst) (_h2 : harm + lst ≤ 2000000000000) (hA : clA ≠ -1) (hI : idxB clA t.length = true) (hJ : idxB clB t.length = true) (hE : clA ≠ clB) (hu : 0 ≤ decAt dec clA) (hv : decAt dec clB < 0) :
  Calls Tryz.prog 43 #[.pointer (some ⟨K, 0, none⟩), .agg #[.int .i64 wish, kv, .int .i64 clA, .int .i64 clB], .int .i64 harm] w fun e w' =>
   e = .returned (.bool (closedB t bound dec lst clA clB harm)) ∧ Ext w w' := by
 have hH := Lib.hid H
 have hdd := Lib.hid hd
 have htt := Lib.hid ht
 obtain ⟨ta, tc, rfl, hn, hc, hat⟩ := H.wishes.open
 have k0 : w.cell? ⟨K, 0, none⟩ = some (.slice ta t.length tc) := H.blk.cell 0
 have k1 : w.cell? ⟨K, 1, none⟩ = some (.int .i64 bound) := H.blk.cell 1
 have k3 : w.cell? ⟨K, 3, none⟩ = some (.slice (some ⟨D, 0, none⟩) dec.length dec.length) := H.blk.cell 3
 have k4 : w.cell? ⟨K, 4, none⟩ = some (.int .i64 lst) := H.blk.cell 4
 clear H hd ht
 have hat' := Lib.hid hat
 clear hat
 have hA' : (clA == -1) = false := by simpa using hA
 have hI1 : Hid (∀ W, Calls Tryz.prog 44 #[.int .i64 clA, .int .i64 t.length] W fun e w' => e = .returned (.bool true) ∧ Ext W w') := fun W => by have := index_calls clA t.length W; rwa [hI] at this
 have hI2 : Hid (∀ W, Calls Tryz.prog 44 #[.int .i64 clB, .int .i64 t.length] W fun e w' => e = .returned (.bool true) ∧ Ext W w') := fun W => by have := index_calls clB t.length W; rwa [hJ] at this
 have hE' : (clA == clB) = false := by simpa using hE
 obtain ⟨a, rfl, ha⟩ := idxB_nat hI
 obtain ⟨b, rfl, hb⟩ := idxB_nat hJ
 have R0 : Hid (closedB t bound dec lst a b harm = (decide (0 ≤ decAt dec a) && decide (0 ≤ decAt dec b) && clashAt t dec a b)) := by
  show _ = _
  unfold closedB
  rw [if_neg hA, if_neg (by simp [hI, hJ]; omega)]
  rfl
 have hdl := hdd.out.1
 obtain ⟨da, hda⟩ : ∃ d, dec[a]? = some d := ⟨dec[a], List.getElem?_eq_getElem (by omega)⟩
 obtain ⟨db, hdb⟩ : ∃ d, dec[b]? = some d := ⟨dec[b], List.getElem?_eq_getElem (by omega)⟩
 have hR1 : decAt dec a = da := by simp [decAt, hda]
 have hR2 : decAt dec b = db := by simp [decAt, hdb]
 rw [hR1, hR2] at R0
 have l0 : w.cell? ⟨D, a, none⟩ = some (.int .i64 da) := by
  rw [hH.out.db.cell a]; simp [hda]
 have l1 : w.cell? ⟨D, b, none⟩ = some (.int .i64 db) := by
  rw [hH.out.db.cell b]; simp [hdb]
 have hal : a < dec.length := by omega
 have hbl : b < dec.length := by omega
 have hHda := Lib.hid hda
 have hHdb := Lib.hid hdb
 clear hI hJ hA hE hR1 hR2 hda hdb
 have hu1 : 0 ≤ da := by have := hu; simp only [decAt, Int.toNat_natCast, hHda.out, Option.getD_some] at this; exact this
 have hu2 : decide (0 ≤ da) = true := by simpa using hu1
 have hv1 : db < 0 := by have := hv; simp only [decAt, Int.toNat_natCast, hHdb.out, Option.getD_some] at this; exact this
 have hv2 : decide (0 ≤ db) = false := by simpa using hv1
 rw [hv2] at R0
 simp only [Bool.and_false, Bool.false_and] at R0
 clear hu hv
 go_enter Tryz.func43, Tryz.ntmps43
 go_wp2_with fail
 refine wp_abs (S := fun W => Ext w W ∧ W.cell? ⟨w.heap.size, 2, none⟩ = some (.int .i64 a) ∧ W.cell? ⟨w.heap.size, 3, none⟩ = some (.int .i64 b)) ⟨by exact (by with_reducible repeat' (first | exact Ext.refl _ | assumption | refine Ext.drewN ?_ _ | refine Ext.drew ?_ | refine Ext.alloc ?_ _ | refine Ext.trans ?_ (by with_reducible assumption))), by simp, by simp⟩ ?_
 rintro W ⟨hx, c2, c3⟩
 have d2 := After.cell c2
 have d3 := After.cell c3
 have d4 := After.cell (hx.cell k4)
 have d1 := After.cell (hx.cell k1)
 have d0 := After.cell (hx.cell k0)
 have d5 := After.cell (hx.cell k3)
 go_wp2_with fail
 refine wp_region_after (by kernel_rfl) (by kernel_rfl) ?_
 repeat (go_big_quiet_step (exact After.call _ (by first | (with_reducible exact hI1.out _) | (with_reducible exact hI2.out _) | exact hcl.out _ (After.ext _))))
 refine wpQuiet_nil ?_
 rintro _ ⟨z, rfl⟩
 go_step; go_step
 refine wp_abs (S := fun W' => Ext W W') z.ext ?_
 clear z
 intro W2 hx2
 have f2 := After.cell (hx2.cell c2)
 have f3 := After.cell (hx2.cell c3)
 have f5 := After.cell (hx2.cell (hx.cell k3))
 have g0 := After.cell (hx2.cell (hx.cell l0))
 have g1 := After.cell (hx2.cell (hx.cell l1))
 go_wp2_with fail
 refine wp_region_after (by kernel_rfl) (by kernel_rfl) ?_
 repeat (go_big_quiet_step (exact After.call _ (by first | (with_reducible exact hI1.out _) | (with_reducible exact hI2.out _) | exact hcl.out _ (After.ext _))))
 refine wpQuiet_nil ?_
 rintro _ ⟨z, rfl⟩
 go_step; go_step
 refine wp_abs (S := fun W' => Ext W2 W') z.ext ?_
 clear z
 intro W3 hx3
 have f2' := After.cell (hx3.cell (hx2.cell c2))
 have f3' := After.cell (hx3.cell (hx2.cell c3))
 have f0' := After.cell (hx3.cell (hx2.cell (hx.cell k0)))
 go_wp2_with fail
 refine wp_region_after (by kernel_rfl) (by kernel_rfl) ?_
 repeat (go_big_quiet_step (exact After.call _ (by first | (with_reducible exact hI1.out _) | (with_reducible exact hI2.out _) | exact hcl.out _ (After.ext _))))
 refine wpQuiet_nil ?_
 rintro _ ⟨z, rfl⟩
 go_wp2
 go_ret
 rw [R0.out]
 exact ⟨rfl, ((hx.trans hx2).trans hx3).trans z.ext⟩

set_option maxHeartbeats 1600000 in
set_option maxRecDepth 100000 in
theorem closed_good (w0 w : World) (K D : Nat) (tv cv : Value) (t : List WishD) (bound : Int) (c : List NodeD) (dec : List Int) (lst wish clA clB harm : Int) (kv : Value)
  (H : Chk w0 w K D tv cv t bound c dec lst) (hd : DecOk t dec) (ht : TaskIn t) (_h1 : -1000000000000 ≤ harm + lst) (_h2 : harm + lst ≤ 2000000000000) (hA : clA ≠ -1) (hI : idxB clA t.length = true) (hJ : idxB clB t.length = true) (hE : clA ≠ clB) (hu : 0 ≤ decAt dec clA) (hv : 0 ≤ decAt dec clB) :
  Calls Tryz.prog 43 #[.pointer (some ⟨K, 0, none⟩), .agg #[.int .i64 wish, kv, .int .i64 clA, .int .i64 clB], .int .i64 harm] w fun e w' =>
   e = .returned (.bool (closedB t bound dec lst clA clB harm)) ∧ Ext w w' := by
 have hH := Lib.hid H
 have hdd := Lib.hid hd
 have htt := Lib.hid ht
 obtain ⟨ta, tc, rfl, hn, hc, hat⟩ := H.wishes.open
 have k0 : w.cell? ⟨K, 0, none⟩ = some (.slice ta t.length tc) := H.blk.cell 0
 have k1 : w.cell? ⟨K, 1, none⟩ = some (.int .i64 bound) := H.blk.cell 1
 have k3 : w.cell? ⟨K, 3, none⟩ = some (.slice (some ⟨D, 0, none⟩) dec.length dec.length) := H.blk.cell 3
 have k4 : w.cell? ⟨K, 4, none⟩ = some (.int .i64 lst) := H.blk.cell 4
 clear H hd ht
 have hat' := Lib.hid hat
 clear hat
 have hA' : (clA == -1) = false := by simpa using hA
 have hI1 : Hid (∀ W, Calls Tryz.prog 44 #[.int .i64 clA, .int .i64 t.length] W fun e w' => e = .returned (.bool true) ∧ Ext W w') := fun W => by have := index_calls clA t.length W; rwa [hI] at this
 have hI2 : Hid (∀ W, Calls Tryz.prog 44 #[.int .i64 clB, .int .i64 t.length] W fun e w' => e = .returned (.bool true) ∧ Ext W w') := fun W => by have := index_calls clB t.length W; rwa [hJ] at this
 have hE' : (clA == clB) = false := by simpa using hE
 obtain ⟨a, rfl, ha⟩ := idxB_nat hI
 obtain ⟨b, rfl, hb⟩ := idxB_nat hJ
 have R0 : Hid (closedB t bound dec lst a b harm = (decide (0 ≤ decAt dec a) && decide (0 ≤ decAt dec b) && clashAt t dec a b)) := by
  show _ = _
  unfold closedB
  rw [if_neg hA, if_neg (by simp [hI, hJ]; omega)]
  rfl
 have hdl := hdd.out.1
 obtain ⟨da, hda⟩ : ∃ d, dec[a]? = some d := ⟨dec[a], List.getElem?_eq_getElem (by omega)⟩
 obtain ⟨db, hdb⟩ : ∃ d, dec[b]? = some d := ⟨dec[b], List.getElem?_eq_getElem (by omega)⟩
 have hR1 : decAt dec a = da := by simp [decAt, hda]
 have hR2 : decAt dec b = db := by simp [decAt, hdb]
 rw [hR1, hR2] at R0
 have l0 : w.cell? ⟨D, a, none⟩ = some (.int .i64 da) := by
  rw [hH.out.db.cell a]; simp [hda]
 have l1 : w.cell? ⟨D, b, none⟩ = some (.int .i64 db) := by
  rw [hH.out.db.cell b]; simp [hdb]
 have hal : a < dec.length := by omega
 have hbl : b < dec.length := by omega
 have hHda := Lib.hid hda
 have hHdb := Lib.hid hdb
 clear hI hJ hA hE hR1 hR2 hda hdb
 have hu1 : 0 ≤ da := by have := hu; simp only [decAt, Int.toNat_natCast, hHda.out, Option.getD_some] at this; exact this
 have hv1 : 0 ≤ db := by have := hv; simp only [decAt, Int.toNat_natCast, hHdb.out, Option.getD_some] at this; exact this
 obtain ⟨m, rfl⟩ : ∃ m : Nat, da = m := ⟨da.toNat, by omega⟩
 obtain ⟨n, rfl⟩ : ∃ n : Nat, db = n := ⟨db.toNat, by omega⟩
 have hu2 : decide (0 ≤ (m : Int)) = true := by simp
 have hv2 : decide (0 ≤ (n : Int)) = true := by simp
 rw [hu2, hv2] at R0
 simp only [Bool.true_and] at R0
 clear hu hv hu1 hv1
 go_enter Tryz.func43, Tryz.ntmps43
 go_wp2_with fail
 refine wp_abs (S := fun W => Ext w W ∧ W.cell? ⟨w.heap.size, 2, none⟩ = some (.int .i64 a) ∧ W.cell? ⟨w.heap.size, 3, none⟩ = some (.int .i64 b)) ⟨by exact (by with_reducible repeat' (first | exact Ext.refl _ | assumption | refine Ext.drewN ?_ _ | refine Ext.drew ?_ | refine Ext.alloc ?_ _ | refine Ext.trans ?_ (by with_reducible assumption))), by simp, by simp⟩ ?_
 rintro W ⟨hx, c2, c3⟩
 have d2 := After.cell c2
 have d3 := After.cell c3
 have d4 := After.cell (hx.cell k4)
 have d1 := After.cell (hx.cell k1)
 have d0 := After.cell (hx.cell k0)
 have d5 := After.cell (hx.cell k3)
 go_wp2_with fail
 refine wp_region_after (by kernel_rfl) (by kernel_rfl) ?_
 repeat (go_big_quiet_step (exact After.call _ (by first | (with_reducible exact hI1.out _) | (with_reducible exact hI2.out _) | exact hcl.out _ (After.ext _))))
 refine wpQuiet_nil ?_
 rintro _ ⟨z, rfl⟩
 go_step; go_step
 refine wp_abs (S := fun W' => Ext W W') z.ext ?_
 clear z
 intro W2 hx2
 have f2 := After.cell (hx2.cell c2)
 have f3 := After.cell (hx2.cell c3)
 have f5 := After.cell (hx2.cell (hx.cell k3))
 have g0 := After.cell (hx2.cell (hx.cell l0))
 have g1 := After.cell (hx2.cell (hx.cell l1))
 go_wp2_with fail
 refine wp_region_after (by kernel_rfl) (by kernel_rfl) ?_
 repeat (go_big_quiet_step (exact After.call _ (by first | (with_reducible exact hI1.out _) | (with_reducible exact hI2.out _) | exact hcl.out _ (After.ext _))))
 refine wpQuiet_nil ?_
 rintro _ ⟨z, rfl⟩
 go_step; go_step
 refine wp_abs (S := fun W' => Ext W2 W') z.ext ?_
 clear z
 intro W3 hx3
 have f2' := After.cell (hx3.cell (hx2.cell c2))
 have f3' := After.cell (hx3.cell (hx2.cell c3))
 have f0' := After.cell (hx3.cell (hx2.cell (hx.cell k0)))
 have hxx := (hx.trans hx2).trans hx3
 have hx0 := hH.out.ext.trans hxx
 obtain ⟨b1, o1, x, xa, xc, oa, oc, rfl, hb1, _, ex, q1, q2, q3, gp, go⟩ := hat'.out a ha W3 hx0
 obtain ⟨b1', o1', y, xa', xc', oa', oc', e1, hb1', _, ey, q1', q2', q3', gp', go'⟩ := hat'.out b hb W3 hx0
 cases e1
 obtain ⟨o, ho⟩ : ∃ o, x.opts[m]? = some o := by
  have := (hdd.out.2 a x m ex.out hHda.out).2
  exact ⟨x.opts[m], List.getElem?_eq_getElem (by omega)⟩
 obtain ⟨p, hp⟩ : ∃ p, y.opts[n]? = some p := by
  have := (hdd.out.2 b y n ey.out hHdb.out).2
  exact ⟨y.opts[n], List.getElem?_eq_getElem (by omega)⟩
 have hcl : Hid (∀ W, Ext W3 W → Calls Tryz.prog 68 #[.agg #[.int .i64 x.meeting, .slice xa x.people.length xc, .slice oa x.opts.length oc], .agg #[.int .i64 y.meeting, .slice xa' y.people.length xc', .slice oa' y.opts.length oc'], .int .i64 m, .int .i64 n] W
   fun e w' => e = .returned (.bool (clashB x y o p)) ∧ Ext W w') := fun W hW =>
  clash_calls _ _ x y m n o p W ⟨_, _, rfl, gp.ext hW, go.ext hW⟩ ⟨_, _, rfl, gp'.ext hW, go'.ext hW⟩ (htt.out x (List.mem_of_getElem? ex.out)) (htt.out y (List.mem_of_getElem? ey.out)) ho hp
 have hcv : clashAt t dec a b = clashB x y o p := by
  have e1 : optOf t dec a = some (x, o) := by simp [optOf, ex.out, hHda.out, ho]
  have e2 : optOf t dec b = some (y, p) := by simp [optOf, ey.out, hHdb.out, hp]
  simp only [clashAt, e1, e2]
 rw [hcv] at R0
 have r1 := After.cell q1
 have r2 := After.cell q2
 have r3 := After.cell q3
 have r1' := After.cell q1'
 have r2' := After.cell q2'
 have r3' := After.cell q3'
 clear gp go gp' go' q1 q2 q3 q1' q2' q3' ho hp hcv
 generalize clashB x y o p = cb at *
 have hxx' := Lib.hid hxx
 clear hxx hx0 hx hx2 hx3 c2 c3
 go_wp2_with fail
 refine wp_region_after (by kernel_rfl) (by kernel_rfl) ?_
 repeat (go_big_quiet_step (exact After.call _ (by first | (with_reducible exact hI1.out _) | (with_reducible exact hI2.out _) | exact hcl.out _ (After.ext _))))
 refine wpQuiet_nil ?_
 rintro _ ⟨z, rfl⟩
 go_wp2
 go_ret
 rw [R0.out]
 exact ⟨rfl, hxx'.out.trans z.ext⟩

theorem closed_calls (w0 w : World) (K D : Nat) (tv cv : Value) (t : List WishD) (bound : Int) (c : List NodeD) (dec : List Int) (lst wish clA clB harm : Int) (kv : Value)
  (H : Chk w0 w K D tv cv t bound c dec lst) (hd : DecOk t dec) (ht : TaskIn t) (h1 : -1000000000000 ≤ harm + lst) (h2 : harm + lst ≤ 2000000000000) :
  Calls Tryz.prog 43 #[.pointer (some ⟨K, 0, none⟩), .agg #[.int .i64 wish, kv, .int .i64 clA, .int .i64 clB], .int .i64 harm] w fun e w' =>
   e = .returned (.bool (closedB t bound dec lst clA clB harm)) ∧ Ext w w' := by
 by_cases hA : clA = -1
 ·exact closed_open w0 w K D tv cv t bound c dec lst wish clA clB harm kv H hd ht h1 h2 hA
 cases hI : idxB clA t.length with
 | false => exact closed_badA w0 w K D tv cv t bound c dec lst wish clA clB harm kv H hd ht h1 h2 hA hI
 | true =>
 cases hJ : idxB clB t.length with
 | false => exact closed_badB w0 w K D tv cv t bound c dec lst wish clA clB harm kv H hd ht h1 h2 hA hI hJ
 | true =>
 by_cases hE : clA = clB
 ·exact closed_same w0 w K D tv cv t bound c dec lst wish clA clB harm kv H hd ht h1 h2 hA hI hE
 rcases Int.lt_or_le (decAt dec clA) 0 with hu | hu
 ·exact closed_undecA w0 w K D tv cv t bound c dec lst wish clA clB harm kv H hd ht h1 h2 hA hI hJ hE hu
 rcases Int.lt_or_le (decAt dec clB) 0 with hv | hv
 ·exact closed_undecB w0 w K D tv cv t bound c dec lst wish clA clB harm kv H hd ht h1 h2 hA hI hJ hE hu hv
 exact closed_good w0 w K D tv cv t bound c dec lst wish clA clB harm kv H hd ht h1 h2 hA hI hJ hE hu hv
end Go.Proofs.YtepcdhpikpmepaaGreat
