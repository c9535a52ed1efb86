import Derived.Test.YtepcdhpikpmepaaGreatCAQ
import Derived.Maps.Own
import Derived.WalkArith
import Derived.Maps.OwnOps
import Derived.WideKeyArr2
import Derived.Laws.ResultCell
namespace Go.Proofs.YtepcdhpikpmepaaGreat
open Go.RowKit Go.WideMaps Go.Maps

abbrev FourI := Int × Int × Int × Int
def fourV (q : FourI) : Value := .agg #[.int .i64 q.1, .int .i64 q.2.1, .int .i64 q.2.2.1, .int .i64 q.2.2.2]
def Fits (q : FourI) : Prop := (Lit.int .i64 q.1).wf = true ∧ (Lit.int .i64 q.2.1).wf = true ∧ (Lit.int .i64 q.2.2.1).wf = true ∧ (Lit.int .i64 q.2.2.2).wf = true
theorem fourV_inj {a b : FourI} (h : fourV a = fourV b) : a = b := by
 obtain ⟨a1, a2, a3, a4⟩ := a
 obtain ⟨b1, b2, b3, b4⟩ := b
 simp [fourV] at h
 simp [h]
theorem four_arr : ArrKey Tryz.prog 127 3 4 := ⟨Tryz.underlying127, by kernel_rfl, by kernel_rfl, by kernel_rfl⟩
theorem four_law : KeyLaw Tryz.prog 127 := four_arr.law
theorem four_key {q : FourI} (h : Fits q) : ∃ l, keyOf Tryz.prog 127 (fourV q) = some l := by
 obtain ⟨a, b, c, d⟩ := q
 obtain ⟨h1, h2, h3, h4⟩ := h
 dsimp only at h1 h2 h3 h4
 obtain ⟨m, hm⟩ : ∃ m, Tryz.prog.types.size = m + 1 := ⟨Tryz.prog.types.size - 1, by have : 0 < Tryz.prog.types.size := of_decide_eq_true (by kernel_rfl); omega⟩
 have hkt := four_arr.keyType ⟨m, hm⟩
 have hc1 := four_arr.one
 have hc2 := four_arr.size
 unfold keyOf
 simp only [Tryz.underlying127]
 rw [if_pos (by simp [hkt, Value.formed, Tryz.underlying127, hc2, fourV]), hm]
 have hl : ∀ x : Int, (Lit.int .i64 x).wf = true → Program.keyLits Tryz.prog (m + 1) 3 [.int .i64 x] = some [.int .i64 x] := fun x hx => by
  unfold Program.keyLits
  simp [Tryz.underlying3, hx]
 unfold Program.keyLits
 simp [Tryz.underlying127, Value.cells, fourV, hc1, hc2, List.range, List.range.loop, hl, h1, h2, h3, h4]

def Flags (w : World) (b m : Nat) (S : FourI → Bool) : Prop :=
 ∃ es clock, w.heap[b]? = some (.map es clock) ∧ es.size ≤ m ∧ (∀ e ∈ es.toList, ∃ q, Fits q ∧ S q = true ∧ e.key = fourV q ∧ e.val = .bool true) ∧ ∀ q, Fits q → S q = true → ∃ e ∈ es.toList, e.key = fourV q
section
variable {w w' : World} {b m : Nat} {S : FourI → Bool}
theorem Flags.new (w : World) : Flags (w.alloc (.map #[] 0)) w.heap.size 0 (fun _ => false) :=
 ⟨#[], 0, (MapKept.heap_alloc w _).1, Nat.le_refl _, by simp, fun _ _ h => by cases h⟩
theorem Flags.lt (h : Flags w b m S) : b < w.heap.size := by
 obtain ⟨es, clock, hb, _⟩ := h
 exact (Array.getElem?_eq_some_iff.1 hb).1
theorem Flags.keep {X : Nat → Prop} (h : Flags w b m S) (k : Keep X w w') (hX : ¬ X b) : Flags w' b m S := by
 have hlt := h.lt
 obtain ⟨es, clock, hb, r⟩ := h
 exact ⟨es, clock, (k.block b hlt hX).trans hb, r⟩
theorem Flags.ext (h : Flags w b m S) (k : Ext w w') : Flags w' b m S := h.keep (Keep.of_ext (X := fun _ => False) k) id
theorem Flags.mono (h : Flags w b m S) {n : Nat} (hn : m ≤ n) : Flags w b n S := by
 obtain ⟨es, clock, hb, h1, r⟩ := h
 exact ⟨es, clock, hb, Nat.le_trans h1 hn, r⟩
theorem Flags.same {S' : FourI → Bool} (h : Flags w b m S) (hS : ∀ q, Fits q → S q = S' q) : Flags w b m S' := by
 obtain ⟨es, clock, hb, h1, h2, h3⟩ := h
 exact ⟨es, clock, hb, h1, fun e he => by obtain ⟨q, f, s, r⟩ := h2 e he; exact ⟨q, f, (hS q f) ▸ s, r⟩, fun q f s => h3 q f ((hS q f).symm ▸ s)⟩
theorem Flags.keys {es : Array MapEntry} (h2 : ∀ e ∈ es.toList, ∃ q, Fits q ∧ S q = true ∧ e.key = fourV q ∧ e.val = .bool true) : ∀ e ∈ es.toList, ∃ l, keyOf Tryz.prog 127 e.key = some l := fun e he => by
 obtain ⟨q, f, _, k, _⟩ := h2 e he
 rw [k]
 exact four_key f
theorem Flags.look (h : Flags w b m S) {q : FourI} (hq : Fits q) : (Instr.lookup 86 (.map (some b)) (fourV q) false).run Tryz.prog w = .ok (.bool (S q)) w := by
 obtain ⟨l, hkey⟩ := four_key hq
 obtain ⟨es, clock, hb, h1, h2, h3⟩ := h
 have ht := Tryz.underlying86
 rcases four_law.find w hkey es.toList (Flags.keys h2) with ⟨g1, g2⟩ | ⟨j, e0, g1, g2, g3⟩
 ·have : S q = false := by
   cases hS : S q with
   | false => rfl
   | true => obtain ⟨e, he, hk⟩ := h3 q hq hS; exact absurd hk (g2 e he)
  rw [this]
  simp [Instr.lookup, run_underlying ht, MapKept.run_getObj_map hb, four_law.check w _ hkey, g1, Result.andThen]
 ·obtain ⟨q', f', s', k', v'⟩ := h2 e0 (List.mem_of_getElem? g2)
  obtain rfl : q' = q := fourV_inj (k'.symm.trans g3)
  rw [s']
  simp [Instr.lookup, run_underlying ht, MapKept.run_getObj_map hb, four_law.check w _ hkey, g1, v', Result.andThen]
theorem Flags.put (h : Flags w b m S) {q : FourI} (hq : Fits q) : ∃ w', (Instr.mapUpdate 86 (.map (some b)) (fourV q) (.bool true)).run Tryz.prog w = .ok () w' ∧ Flags w' b (m + 1) (fun x => S x || decide (x = q)) ∧ w.grownBy w' (some b) := by
 obtain ⟨l, hkey⟩ := four_key hq
 obtain ⟨es, clock, hb, h1, h2, h3⟩ := h
 have ht := Tryz.underlying86
 have hgr : ∀ o, w.grownBy (ChangeMaps.setBlock w b o) (some b) := fun o => ⟨rfl, rfl, rfl, by simp [ChangeMaps.setBlock], fun i _ hi => ChangeMaps.heap_setBlock_other hb _ (fun e => hi (by rw [e]))⟩
 rcases four_law.find w hkey es.toList (Flags.keys h2) with ⟨g1, g2⟩ | ⟨j, e0, g1, g2, g3⟩
 ·refine ⟨ChangeMaps.setBlock w b (.map (es.push ⟨fourV q, .bool true, clock⟩) (clock + 1)), ?_, ⟨_, _, ChangeMaps.heap_setBlock_same hb _, by simp; omega, ?_, ?_⟩, hgr _⟩
  ·simp [Instr.mapUpdate, run_underlying ht, MapKept.run_getObj_map hb, four_law.check w false hkey, g1, MapKept.run_setObj_map _ hb, Result.andThen, ChangeMaps.setBlock]
  ·intro e he
   simp only [Array.toList_push, List.mem_append, List.mem_singleton] at he
   rcases he with he | rfl
   ·obtain ⟨q', f', s', r⟩ := h2 e he
    exact ⟨q', f', by simp [s'], r⟩
   ·exact ⟨q, hq, by simp, rfl, rfl⟩
  ·intro q' f' s'
   simp only [Bool.or_eq_true, decide_eq_true_eq] at s'
   simp only [Array.toList_push, List.mem_append, List.mem_singleton]
   rcases s' with s' | rfl
   ·obtain ⟨e, he, k⟩ := h3 q' f' s'
    exact ⟨e, Or.inl he, k⟩
   ·exact ⟨_, Or.inr rfl, rfl⟩
 ·have hj : es[j]? = some e0 := by simpa using g2
  obtain ⟨q', f', s', k', v'⟩ := h2 e0 (List.mem_of_getElem? g2)
  obtain rfl : q' = q := fourV_inj (k'.symm.trans g3)
  have hlist : ∀ f : MapEntry → MapEntry, (es.modify j f).toList = es.toList.set j (f e0) := fun f => by rw [Array.toList_modify, Go.ChangeMaps.modify_eq_set _ _ _ _ g2]
  refine ⟨ChangeMaps.setBlock w b (.map (es.modify j fun e' => { e' with key := fourV q', val := .bool true }) clock), ?_, ⟨_, _, ChangeMaps.heap_setBlock_same hb _, by simp; omega, ?_, ?_⟩, hgr _⟩
  ·simp [Instr.mapUpdate, run_underlying ht, MapKept.run_getObj_map hb, four_law.check w false hkey, g1, hj, g3, four_law.stays w hkey, MapKept.run_setObj_map _ hb, Result.andThen, ChangeMaps.setBlock]
  ·intro e he
   rw [hlist] at he
   rcases List.mem_or_eq_of_mem_set he with he | rfl
   ·obtain ⟨q2, f2, s2, r⟩ := h2 e he
    exact ⟨q2, f2, by simp [s2], r⟩
   ·exact ⟨q', hq, by simp, rfl, rfl⟩
  ·intro q2 f2 s2
   simp only [Bool.or_eq_true, decide_eq_true_eq] at s2
   have s3 : S q2 = true := by
    rcases s2 with s | rfl
    ·exact s
    ·exact s'
   obtain ⟨e, he, k⟩ := h3 q2 f2 s3
   rw [hlist]
   obtain ⟨i, hi⟩ := List.mem_iff_getElem?.1 he
   by_cases hij : j = i
   ·subst hij
    rw [g2] at hi
    cases hi
    refine ⟨_, List.mem_iff_getElem?.2 ⟨j, by rw [List.getElem?_set_self (List.getElem?_eq_some_iff.1 g2).1]⟩, ?_⟩
    rw [← k, k']
   ·exact ⟨e, List.mem_iff_getElem?.2 ⟨i, by rw [List.getElem?_set_ne hij]; exact hi⟩, k⟩
end

def tabB (t : List WishD) (q : FourI) : Bool := clashT t q.1 q.2.1 q.2.2.1 q.2.2.2
def Tab (w : World) (b : Nat) (t : List WishD) : Prop := ∃ m, Flags w b m (tabB t)
theorem Tab.ext {w w' : World} {b : Nat} {t : List WishD} (h : Tab w b t) (k : Ext w w') : Tab w' b t := let ⟨m, h⟩ := h; ⟨m, h.ext k⟩
theorem Tab.lt {w : World} {b : Nat} {t : List WishD} (h : Tab w b t) : b < w.heap.size := let ⟨_, h⟩ := h; h.lt
theorem Tab.keep {w w' : World} {b : Nat} {t : List WishD} {X : Nat → Prop} (h : Tab w b t) (k : Keep X w w') (hX : ¬ X b) : Tab w' b t := let ⟨m, h⟩ := h; ⟨m, h.keep k hX⟩
theorem Tab.look {w : World} {b : Nat} {t : List WishD} (h : Tab w b t) {a i c k : Int} (hq : Fits (a, i, c, k)) :
  (Instr.lookup 86 (.map (some b)) (.agg #[.int .i64 a, .int .i64 i, .int .i64 c, .int .i64 k]) false).run Tryz.prog w = .ok (.bool (clashT t a i c k)) w := by
 obtain ⟨m, h⟩ := h
 have := h.look hq
 simp only [fourV, tabB] at this
 exact this

/-! ### quiet -/
def InRange (l : List Int) : Prop := ∀ x ∈ l, -9223372036854775808 ≤ x ∧ x ≤ 9223372036854775807
theorem InRange.at_ {l : List Int} (h : InRange l) {i : Nat} (hi : i < l.length) : (Lit.int .i64 (atI l i)).wf = true := by
 exact WalkArith.wf_i64 (h (atI l i) (List.mem_of_getElem? (get_atI hi)))
theorem wf_nat {n : Nat} (h : n ≤ 9223372036854775807) : (Lit.int .i64 (n : Int)).wf = true := WalkArith.wf_i64 ⟨by omega, by omega⟩
def QuietTo (t : List WishD) (st : List Int) (i k : Nat) : Prop := ∀ j, j < k → busyB t st i j = false

set_option maxHeartbeats 1600000 in
set_option maxRecDepth 100000 in
theorem quiet_calls (b : Nat) (sv : Value) (t : List WishD) (st : List Int) (i : Nat) (w : World) (hb : Tab w b t) (hs : Ints w sv st) (hr : InRange st) (hi : i < st.length) :
  Calls Tryz.prog 28 #[.map (some b), sv, .int .i64 i] w fun e w' => e = .returned (.bool (quietB t st i)) ∧ Ext w w' := by
 obtain ⟨sa, sc, rfl, hsn, hsc, sat⟩ := hs.open
 have hb' := Lib.hid hb
 have hr' := Lib.hid hr
 have sat' := Lib.hid sat
 clear hs hb hr sat
 go_enter Tryz.func28, Tryz.ntmps28
 go_wp2_with fail
 go_loopw [11] (fun vk wr => ∃ k : Nat, k ≤ st.length ∧ vk = .int .i64 k ∧ Hid (Ext w wr) ∧ Hid (QuietTo t st i k)) (fun vk _ => st.length - (intOf vk).toNat)
 case atStart => exact ⟨0, by omega, rfl, Lib.hid (Ext.refl _), fun j h => by omega⟩
 case round =>
  obtain ⟨k, hk, rfl, hx, hF⟩ := hrel
  by_cases h1 : k < st.length
  ·obtain ⟨b1, o1, x, e1, hb1, _, ex, g0⟩ := sat'.out k h1 wr hx.out
   obtain ⟨b2, o2, y, rfl, hb2, _, ey, g1⟩ := sat'.out i hi wr hx.out
   cases e1
   have e2 : atI st k = x := atI_some ex.out
   have e3 : atI st i = y := atI_some ey.out
   obtain ⟨z, hz⟩ : ∃ z, Hid (clashT t i y k x = z) := ⟨_, rfl⟩
   have hlook := (hb'.out.ext hx.out).look (a := i) (i := y) (c := k) (k := x) ⟨wf_nat (by omega), e3 ▸ hr'.out.at_ hi, wf_nat (by omega), e2 ▸ hr'.out.at_ h1⟩
   rw [hz.out] at hlook
   have hbz : Hid (busyB t st i k = ((!(x == 0) || !(y == 0)) && z)) := by
    show _ = _
    unfold busyB
    rw [e2, e3, hz.out]
    congr 1
    by_cases q1 : x = 0 <;> by_cases q2 : y = 0 <;> simp [q1, q2]
   clear e2 e3 hz ex ey
   cases hx0 : (x == 0) with
   | true =>
    have hn0 : (x != 0) = false := by simp [bne, hx0]
    cases hy0 : (y == 0) with
    | true =>
     have hn1 : (y != 0) = false := by simp [bne, hy0]
     have R : Hid (QuietTo t st i (k + 1)) := fun j hj => by
      rcases Nat.lt_succ_iff_lt_or_eq.1 hj with h | rfl
      ·exact hF.out j h
      ·rw [hbz.out]; simp [hx0, hy0]
     clear hF hbz
     go_wp2
     go_roundw
     case rel => exact ⟨k + 1, by omega, by go_num, hx, R⟩
     case measure => simp [intOf]; omega
    | false =>
     have hn1 : (y != 0) = true := by simp [bne, hy0]
     cases z with
     | true =>
      have R : Hid (quietB t st i = false) := by
       show _ = _
       cases hq : quietB t st i with
       | false => rfl
       | true => have := quiet_iff.1 hq k h1; rw [hbz.out] at this; simp [hx0, hy0] at this
      clear hF hbz
      go_wp2
      go_ret
      rw [R.out]
      exact ⟨rfl, hx.out⟩
     | false =>
      have R : Hid (QuietTo t st i (k + 1)) := fun j hj => by
       rcases Nat.lt_succ_iff_lt_or_eq.1 hj with h | rfl
       ·exact hF.out j h
       ·rw [hbz.out]; simp [hx0, hy0]
      clear hF hbz
      go_wp2
      go_roundw
      case rel => exact ⟨k + 1, by omega, by go_num, hx, R⟩
      case measure => simp [intOf]; omega
   | false =>
    have hn0 : (x != 0) = true := by simp [bne, hx0]
    cases z with
    | true =>
     have R : Hid (quietB t st i = false) := by
      show _ = _
      cases hq : quietB t st i with
      | false => rfl
      | true => have := quiet_iff.1 hq k h1; rw [hbz.out] at this; simp [hx0] at this
     clear hF hbz
     go_wp2
     go_ret
     rw [R.out]
     exact ⟨rfl, hx.out⟩
    | false =>
     have R : Hid (QuietTo t st i (k + 1)) := fun j hj => by
      rcases Nat.lt_succ_iff_lt_or_eq.1 hj with h | rfl
      ·exact hF.out j h
      ·rw [hbz.out]; simp [hx0]
     clear hF hbz
     go_wp2
     go_roundw
     case rel => exact ⟨k + 1, by omega, by go_num, hx, R⟩
     case measure => simp [intOf]; omega
  ·have R : Hid (quietB t st i = true) := quiet_iff.2 fun j hj => hF.out j (by omega)
   go_wp2
   go_ret
   rw [R.out]
   exact ⟨rfl, hx.out⟩
end Go.Proofs.YtepcdhpikpmepaaGreat
namespace Go.Proofs.YtepcdhpikpmepaaGreat
open Go.RowKit

def PartT (w : World) (B : Nat) (t : List WishD) (D : Nat → Nat → Nat → Nat → Prop) : Prop :=
 ∃ S m, Flags w B m S ∧ (∀ q, S q = true → tabB t q = true) ∧ ∀ a i b k : Nat, D a i b k → clashT t a i b k = true → S ((a : Int), (i : Int), (b : Int), (k : Int)) = true ∧ S ((b : Int), (k : Int), (a : Int), (i : Int)) = true
theorem PartT.ext {w w' : World} {B : Nat} {t : List WishD} {D : Nat → Nat → Nat → Nat → Prop} (h : PartT w B t D) (e : Ext w w') : PartT w' B t D := by
 obtain ⟨S, m, h1, h2⟩ := h
 exact ⟨S, m, h1.ext e, h2⟩
theorem PartT.turn {w : World} {B : Nat} {t : List WishD} {D D' : Nat → Nat → Nat → Nat → Prop} (h : PartT w B t D) (hD : ∀ a i b k : Nat, clashT t a i b k = true → D' a i b k → D a i b k) : PartT w B t D' := by
 obtain ⟨S, m, h1, h2, h3⟩ := h
 exact ⟨S, m, h1, h2, fun a i b k d c => h3 a i b k (hD a i b k c d) c⟩
theorem clashT_in {t : List WishD} {a i b k : Int} (h : clashT t a i b k = true) : a ≠ b ∧ ∃ n m p q : Nat, a = n ∧ i = m ∧ b = p ∧ k = q ∧ n < t.length ∧ p < t.length ∧ m < (t[n]?.getD default).opts.length ∧ q < (t[p]?.getD default).opts.length := by
 have hne : a ≠ b := fun e => by rw [e, clashT_same] at h; cases h
 refine ⟨hne, ?_⟩
 have ha : idxB a t.length = true := by
  cases hc : idxB a t.length with
  | true => rfl
  | false => rw [clashT_a hc] at h; cases h
 have hb : idxB b t.length = true := by
  cases hc : idxB b t.length with
  | true => rfl
  | false => rw [clashT_b hc] at h; cases h
 obtain ⟨n, rfl, hn⟩ := idxB_nat ha
 obtain ⟨p, rfl, hp⟩ := idxB_nat hb
 have hx : t[n]? = some t[n] := by simp [hn]
 have hy : t[p]? = some t[p] := by simp [hp]
 have hi : idxB i t[n].opts.length = true := by
  cases hc : idxB i t[n].opts.length with
  | true => rfl
  | false => rw [clashT_i hx hc] at h; cases h
 have hk : idxB k t[p].opts.length = true := by
  cases hc : idxB k t[p].opts.length with
  | true => rfl
  | false => rw [clashT_k hy hc] at h; cases h
 obtain ⟨m, rfl, hm⟩ := idxB_nat hi
 obtain ⟨q, rfl, hq⟩ := idxB_nat hk
 exact ⟨n, m, p, q, rfl, rfl, rfl, rfl, hn, hp, by rw [hx]; exact hm, by rw [hy]; exact hq⟩
theorem clashT_lt {t : List WishD} {a i b k : Nat} (h : clashT t a i b k = true) : i < (t[a]?.getD default).opts.length ∧ k < (t[b]?.getD default).opts.length := by
 obtain ⟨_, n, m, p, q, e1, e2, e3, e4, _, _, h1, h2⟩ := clashT_in h
 obtain rfl : a = n := by omega
 obtain rfl : i = m := by omega
 obtain rfl : b = p := by omega
 obtain rfl : k = q := by omega
 exact ⟨h1, h2⟩
theorem PartT.all {w : World} {B : Nat} {t : List WishD} (h : PartT w B t fun a _ b _ => b < a) : Tab w B t := by
 obtain ⟨S, m, h1, h2, h3⟩ := h
 refine ⟨m, h1.same fun q _ => ?_⟩
 rw [Bool.eq_iff_iff]
 refine ⟨h2 q, fun hc => ?_⟩
 obtain ⟨a, i, b, k⟩ := q
 have hc' : clashT t a i b k = true := hc
 obtain ⟨hne, n, m, p, q, rfl, rfl, rfl, rfl, _⟩ := clashT_in hc'
 rcases Nat.lt_trichotomy p n with e | e | e
 ·exact (h3 n m p q e hc').1
 ·omega
 ·rw [clashT_comm] at hc'
  exact (h3 p q n m e hc').2
theorem PartT.begin (w : World) (t : List WishD) {D : Nat → Nat → Nat → Nat → Prop} (hD : ∀ a i b k, ¬ D a i b k) : PartT (w.alloc (.map #[] 0)) w.heap.size t D :=
 ⟨_, _, Flags.new w, fun _ h => (by cases h), fun a i b k d => (hD a i b k d).elim⟩
theorem PartT.put {w : World} {B : Nat} {t : List WishD} {D : Nat → Nat → Nat → Nat → Prop} (h : PartT w B t D) {a i b k : Nat} (hc : clashT t a i b k = true) (f1 : Fits ((a : Int), (i : Int), (b : Int), (k : Int))) :
  ∃ w1 w2, (Instr.mapUpdate 86 (.map (some B)) (.agg #[.int .i64 a, .int .i64 i, .int .i64 b, .int .i64 k]) (.bool true)).run Tryz.prog w = .ok () w1 ∧
   (Instr.mapUpdate 86 (.map (some B)) (.agg #[.int .i64 b, .int .i64 k, .int .i64 a, .int .i64 i]) (.bool true)).run Tryz.prog w1 = .ok () w2 ∧
   w.grownBy w1 (some B) ∧ w1.grownBy w2 (some B) ∧ PartT w2 B t fun a' i' b' k' => D a' i' b' k' ∨ (a' = a ∧ i' = i ∧ b' = b ∧ k' = k) := by
 obtain ⟨S, m, h1, h2, h3⟩ := h
 have f2 : Fits ((b : Int), (k : Int), (a : Int), (i : Int)) := ⟨f1.2.2.1, f1.2.2.2, f1.1, f1.2.1⟩
 obtain ⟨w1, r1, g1, k1⟩ := h1.put f1
 obtain ⟨w2, r2, g2, k2⟩ := g1.put f2
 simp only [fourV] at r1 r2
 refine ⟨w1, w2, r1, r2, k1, k2, _, _, g2, fun q hq => ?_, fun a' i' b' k' d c => ?_⟩
 ·simp only [Bool.or_eq_true, decide_eq_true_eq] at hq
  rcases hq with (hq | rfl) | rfl
  ·exact h2 q hq
  ·exact hc
  ·show clashT t _ _ _ _ = true
   rw [clashT_comm]; exact hc
 ·rcases d with d | ⟨rfl, rfl, rfl, rfl⟩
  ·obtain ⟨s1, s2⟩ := h3 a' i' b' k' d c
   simp [s1, s2]
  ·simp

set_option maxHeartbeats 3200000 in
set_option maxRecDepth 100000 in
theorem clashes_calls (wv : Value) (t : List WishD) (w : World) (h : Wishes w wv t) (hv : validT t = 0) :
  Calls Tryz.prog 25 #[.agg #[wv]] w fun e w' => ∃ b, e = .returned (.map (some b)) ∧ Tab w' b t ∧ w.heap.size ≤ b ∧ Ext w w' := by
 have hT := Lib.hid h
 obtain ⟨ta, tc, rfl, hn, hcc, wat⟩ := h.open
 have wat' := Lib.hid wat
 obtain ⟨ht0, ht1⟩ := stepsT_bd hv
 obtain ⟨b1, o1, _, _, _, _, _, rfl, hb1, _⟩ := wat 0 ht0 w (Ext.refl _)
 clear h wat hv
 have hmm := @run_makeMap Tryz.prog
 go_enter Tryz.func25, Tryz.ntmps25
 go_upto_region 3 with (fail)
 refine wp_abs (S := fun W => Hid (Ext w W) ∧ Hid (Blk W w.heap.size 28 #[.slice (some ⟨b1, o1, none⟩) t.length tc]) ∧ Hid (PartT W (w.heap.size + 1) t fun a _ b _ => a < 0 ∧ b < a)) ?_ ?_
 ·exact ⟨Lib.hid (by exact (by with_reducible repeat' (first | exact Ext.refl _ | assumption | refine Ext.drewN ?_ _ | refine Ext.drew ?_ | refine Ext.alloc ?_ _ | refine Ext.trans ?_ (by with_reducible assumption)))), Lib.hid ((blk_new' rfl rfl).alloc _), Lib.hid (by have := PartT.begin (w.alloc (.cells #[.slice (some ⟨b1, o1, none⟩) t.length tc] 28)) t (D := fun a _ b _ => a < 0 ∧ b < a) (fun a _ _ _ h => by omega); rwa [World.size_alloc] at this)⟩
 rintro W ⟨hx0, hB0, hP0⟩
 clear hmm
 go_loopw [12] (fun va wr => ∃ a : Nat, a ≤ t.length ∧ va = .int .i64 a ∧ Hid (Ext w wr) ∧ Hid (Blk wr w.heap.size 28 #[.slice (some ⟨b1, o1, none⟩) t.length tc]) ∧ Hid (PartT wr (w.heap.size + 1) t fun a' _ b _ => a' < a ∧ b < a')) (fun va _ => t.length - (intOf va).toNat)
 case atStart => exact ⟨0, by omega, rfl, hx0, hB0, hP0⟩
 case round =>
  clear hx0 hB0 hP0
  obtain ⟨a, ha, rfl, hx1, hB1, hP1⟩ := hrel
  by_cases q1 : a < t.length
  ·obtain ⟨wA, hwA⟩ : ∃ wA : World, Hid (wr = wA) := ⟨_, rfl⟩
   go_wp2_with fail
   rw [hwA.out] at hx1 hB1 hP1
   rw [hwA.out]
   clear hwA
   go_loopw [16] (fun vb wr => ∃ b : Nat, b ≤ a ∧ vb = .int .i64 b ∧ Hid (Ext w wr) ∧ Hid (Blk wr w.heap.size 28 #[.slice (some ⟨b1, o1, none⟩) t.length tc]) ∧ Hid (PartT wr (w.heap.size + 1) t fun a' _ b' _ => (a' < a ∧ b' < a') ∨ (a' = a ∧ b' < b))) (fun vb _ => a - (intOf vb).toNat)
   case atStart => exact ⟨0, by omega, rfl, hx1, hB1, Lib.hid (hP1.out.turn fun a' i b k _ d => by omega)⟩
   case round =>
    clear hx1 hB1 hP1
    obtain ⟨b, hb, rfl, hx2, hB2, hP2⟩ := hrel
    by_cases q2 : b < a
    ·obtain ⟨b2, o2, x, _, _, oa, oc, e1, _, _, ex, _, _, gx, _⟩ := wat'.out a q1 wr hx2.out
     cases e1
     have hlx : x.opts.length ≤ 9223372036854775807 := by
      obtain ⟨_, _, _, _, _, _, _, _, _, _, ex2, _, _, _, _, go⟩ := wat'.out a q1 w (Ext.refl _)
      obtain rfl := Option.some.inj (ex.out.symm.trans ex2.out)
      exact go.len
     have hgx : Hid ((t[a]?.getD default).opts.length = x.opts.length) := by show _ = _; rw [ex.out]; rfl
     have c2 : wr.cell? ⟨w.heap.size, 0, none⟩ = some (.slice (some ⟨b1, o1, none⟩) t.length tc) := hB2.out.cell 0
     have hblt := hB2.out.lt
     obtain ⟨wB, hwB⟩ : ∃ wB : World, Hid (wr = wB) := ⟨_, rfl⟩
     go_wp2_with fail
     rw [hwB.out] at hx2 hB2 hP2
     rw [hwB.out]
     clear hwB c2 gx
     go_loopw [26] (fun vi wr => ∃ i : Nat, i ≤ x.opts.length ∧ vi = .int .i64 i ∧ Hid (Ext w wr) ∧ Hid (Blk wr w.heap.size 28 #[.slice (some ⟨b1, o1, none⟩) t.length tc]) ∧ Hid (PartT wr (w.heap.size + 1) t fun a' i' b' _ => (a' < a ∧ b' < a') ∨ (a' = a ∧ b' < b) ∨ (a' = a ∧ b' = b ∧ i' < i))) (fun vi _ => x.opts.length - (intOf vi).toNat)
     case atStart => exact ⟨0, by omega, rfl, hx2, hB2, Lib.hid (hP2.out.turn fun a' i b k _ d => by omega)⟩
     case round =>
      clear hx2 hB2 hP2
      obtain ⟨i, hi, rfl, hx3, hB3, hP3⟩ := hrel
      by_cases q3 : i < x.opts.length
      ·obtain ⟨b3, o3, y, _, _, pa, pc, e1, _, _, ey, _, _, gy, _⟩ := wat'.out b (by omega) wr hx3.out
       cases e1
       have hly : y.opts.length ≤ 9223372036854775807 := by
        obtain ⟨_, _, _, _, _, _, _, _, _, _, ey2, _, _, _, _, go⟩ := wat'.out b (by omega) w (Ext.refl _)
        obtain rfl := Option.some.inj (ey.out.symm.trans ey2.out)
        exact go.len
       have hgy : Hid ((t[b]?.getD default).opts.length = y.opts.length) := by show _ = _; rw [ey.out]; rfl
       have c3 : wr.cell? ⟨w.heap.size, 0, none⟩ = some (.slice (some ⟨b1, o1, none⟩) t.length tc) := hB3.out.cell 0
       have hblt3 := hB3.out.lt
       obtain ⟨wC, hwC⟩ : ∃ wC : World, Hid (wr = wC) := ⟨_, rfl⟩
       go_wp2_with fail
       rw [hwC.out] at hx3 hB3 hP3
       rw [hwC.out]
       clear hwC c3 gy
       go_loopw [36] (fun vk wr => ∃ k : Nat, k ≤ y.opts.length ∧ vk = .int .i64 k ∧ Hid (Ext w wr) ∧ Hid (Blk wr w.heap.size 28 #[.slice (some ⟨b1, o1, none⟩) t.length tc]) ∧ Hid (PartT wr (w.heap.size + 1) t fun a' i' b' k' => (a' < a ∧ b' < a') ∨ (a' = a ∧ b' < b) ∨ (a' = a ∧ b' = b ∧ i' < i) ∨ (a' = a ∧ b' = b ∧ i' = i ∧ k' < k))) (fun vk _ => y.opts.length - (intOf vk).toNat)
       case atStart => exact ⟨0, by omega, rfl, hx3, hB3, Lib.hid (hP3.out.turn fun a' i b k _ d => by omega)⟩
       case round =>
        clear hx3 hB3 hP3
        obtain ⟨k, hk, rfl, hx4, hB4, hP4⟩ := hrel
        by_cases q4 : k < y.opts.length
        ·have c4 : wr.cell? ⟨w.heap.size, 0, none⟩ = some (.slice (some ⟨b1, o1, none⟩) t.length tc) := hB4.out.cell 0
         have hblt4 := hB4.out.lt
         obtain ⟨z, hz⟩ : ∃ z, Hid (clashT t a i b k = z) := ⟨_, rfl⟩
         have hcl : Hid (Calls Tryz.prog 46 #[.agg #[.slice (some ⟨b1, o1, none⟩) t.length tc], .int .i64 a, .int .i64 i, .int .i64 b, .int .i64 k] wr fun e w' => e = .returned (.bool z) ∧ Ext wr w') := hz.out ▸ clashP_calls _ t a i b k wr (hT.out.ext hx4.out)
         go_wp2_with fail
         refine hcl.out.mono ?_
         rintro e w3 ⟨rfl, hx5⟩
         have hx6 := Lib.hid (hx4.out.trans hx5)
         have hB6 : Hid (Blk w3 w.heap.size 28 #[.slice (some ⟨b1, o1, none⟩) t.length tc]) := Lib.hid ((Keep.of_ext (X := fun _ => False) hx5).blk hB4.out id)
         have hP6 := Lib.hid (hP4.out.ext hx5)
         clear hx4 hB4 hP4 hx5 c4 hcl hblt4
         cases z with
         | true =>
          have hxs := hx6.out.size
          obtain ⟨w4, w5, r1, r2, g1, g2, hPn⟩ := hP6.out.put hz.out ⟨wf_nat (by omega), wf_nat (by omega), wf_nat (by omega), wf_nat (by omega)⟩
          have hx7 := Lib.hid ((hx6.out.grown g1 (fun j e => by cases e; omega)).grown g2 (fun j e => by cases e; omega))
          have hB7 := Lib.hid ((hB6.out.grown g1 (fun e => by simp at e)).grown g2 (fun e => by simp at e))
          have hP7 := Lib.hid (hPn.turn (D' := fun a' i' b' k' => (a' < a ∧ b' < a') ∨ (a' = a ∧ b' < b) ∨ (a' = a ∧ b' = b ∧ i' < i) ∨ (a' = a ∧ b' = b ∧ i' = i ∧ k' < k + 1)) fun a' i' b' k' _ d => by omega)
          clear hx6 hB6 hP6 hz g1 g2 hPn
          go_wp2
          go_roundw
          case rel => exact ⟨k + 1, by omega, by go_num, hx7, hB7, hP7⟩
          case measure => simp [intOf]; omega
         | false =>
          have hP7 := Lib.hid (hP6.out.turn (D' := fun a' i' b' k' => (a' < a ∧ b' < a') ∨ (a' = a ∧ b' < b) ∨ (a' = a ∧ b' = b ∧ i' < i) ∨ (a' = a ∧ b' = b ∧ i' = i ∧ k' < k + 1)) fun a' i' b' k' c d => by
           by_cases e : a' = a ∧ b' = b ∧ i' = i ∧ k' = k
           ·obtain ⟨rfl, rfl, rfl, rfl⟩ := e
            rw [hz.out] at c
            cases c
           ·omega)
          clear hP6 hz
          go_wp2
          go_roundw
          case rel => exact ⟨k + 1, by omega, by go_num, hx6, hB6, hP7⟩
          case measure => simp [intOf]; omega
        ·have hP5 := Lib.hid (hP4.out.turn (D' := fun a' i' b' _ => (a' < a ∧ b' < a') ∨ (a' = a ∧ b' < b) ∨ (a' = a ∧ b' = b ∧ i' < i + 1)) fun a' i' b' k' c d => by
          by_cases e : a' = a ∧ b' = b ∧ i' = i
          ·obtain ⟨rfl, rfl, rfl⟩ := e
           have := (clashT_lt c).2
           rw [hgy.out] at this
           omega
          ·omega)
         clear hP4
         go_wp2
         go_roundw
         case rel => exact ⟨i + 1, by omega, by go_num, hx4, hB4, hP5⟩
         case measure => simp [intOf]; omega
      ·have hP4 := Lib.hid (hP3.out.turn (D' := fun a' _ b' _ => (a' < a ∧ b' < a') ∨ (a' = a ∧ b' < b + 1)) fun a' i' b' k' c d => by
        by_cases e : a' = a ∧ b' = b
        ·obtain ⟨rfl, rfl⟩ := e
         have := (clashT_lt c).1
         rw [hgx.out] at this
         omega
        ·omega)
       clear hP3
       go_wp2
       go_roundw
       case rel => exact ⟨b + 1, by omega, by go_num, hx3, hB3, hP4⟩
       case measure => simp [intOf]; omega
    ·have hP3 := Lib.hid (hP2.out.turn (D' := fun a' _ b' _ => a' < a + 1 ∧ b' < a') fun a' i' b' k' c d => by omega)
     clear hP2
     go_wp2
     go_roundw
     case rel => exact ⟨a + 1, by omega, by go_num, hx2, hB2, hP3⟩
     case measure => simp [intOf]; omega
  ·have hall : Hid (Tab wr (w.heap.size + 1) t) := (hP1.out.turn (D' := fun a' _ b' _ => b' < a') fun a' i' b' k' c d => by
    obtain ⟨_, n, m, p, q, e1, _, _, _, h1, _⟩ := clashT_in c
    omega).all
   clear hP1
   go_wp2
   go_ret
   exact ⟨_, rfl, hall.out, by omega, hx1.out⟩
end Go.Proofs.YtepcdhpikpmepaaGreat
namespace Go.Proofs.YtepcdhpikpmepaaGreat
open Go.RowKit

/-! ### a row of integers of the call's own, written -/
theorem IntsO.lt_ {w : World} {B g c n : Nat} {xs : List Value} {e : TypeId} {size : Nat} (h : w.ownsRow B e size (.slice (some ⟨g, 0, none⟩) n c) n xs) : B ≤ g ∧ g < w.heap.size := ⟨(h.lt g rfl).1, (h.lt g rfl).2⟩
theorem IntsO.blk {w : World} {B g c : Nat} {l : List Int} (h : IntsO w B (.slice (some ⟨g, 0, none⟩) l.length c) l) : ∃ cs, Blk w g 3 cs ∧ cs.toList.take l.length = l.map (Value.int .i64) ∧ l.length ≤ c ∧ c ≤ maxLen ∧ cs.size = c ∧ B ≤ g := by
 rcases h.2 with ⟨h', _⟩ | ⟨g', cap, cur, h', hb, hg, hn, hcap, hcs, htake⟩
 ·cases h'
 ·cases h'
  exact ⟨cur, hg, by simpa using htake, hn, hcap, by simpa using hcs, hb⟩
theorem IntsO.cell {w : World} {B g c : Nat} {l : List Int} (h : IntsO w B (.slice (some ⟨g, 0, none⟩) l.length c) l) {i : Nat} (hi : i < l.length) : w.cell? ⟨g, i, none⟩ = some (.int .i64 (atI l i)) := by
 obtain ⟨cs, hb, ht, hn, _, hs, _⟩ := h.blk
 rw [hb.cell]
 have := congrArg (fun x => x[i]?) ht
 simp only [List.getElem?_take, if_pos hi, List.getElem?_map, get_atI hi, Option.map_some] at this
 simpa using this
theorem IntsO.frozen {w : World} {B g c : Nat} {l : List Int} (h : IntsO w B (.slice (some ⟨g, 0, none⟩) l.length c) l) (i : Nat) : w.frozen? ⟨g, i, none⟩ = false := by
 obtain ⟨cs, hb, _⟩ := h.blk
 exact hb.frozen i
theorem IntsO.set_ {w : World} {B g c : Nat} {l : List Int} (h : IntsO w B (.slice (some ⟨g, 0, none⟩) l.length c) l) {i : Nat} (v : Int) : IntsO (w.setCell ⟨g, i, none⟩ (.int .i64 v)) B (.slice (some ⟨g, 0, none⟩) (l.set i v).length c) (l.set i v) := by
 obtain ⟨cs, hb, ht, hn, hc, hs, hB⟩ := h.blk
 have hb' := hb.set_ i (.int .i64 v)
 unfold IntsO
 rw [List.length_set]
 refine ⟨by simp, Or.inr ⟨g, c, _, rfl, hB, hb', hn, hc, by simpa using hs, ?_⟩⟩
 rw [Array.toList_setIfInBounds, Nat.mul_one, List.take_set, ht, List.map_set]
theorem IntsO.pos {w : World} {B : Nat} {v : Value} {l : List Int} (h : IntsO w B v l) (h0 : 0 < l.length) : ∃ g c, v = .slice (some ⟨g, 0, none⟩) l.length c := by
 rcases h.2 with ⟨h', hn⟩ | ⟨g', cap, cur, h', _⟩
 ·omega
 ·exact ⟨g', cap, h'⟩
theorem InRange.set_ {l : List Int} (h : InRange l) (i : Nat) {v : Int} (hv : -9223372036854775808 ≤ v ∧ v ≤ 9223372036854775807) : InRange (l.set i v) := fun x hx => by
 rcases List.mem_or_eq_of_mem_set hx with h1 | rfl
 ·exact h x h1
 ·exact hv

/-! ### the closure of Order -/
set_option maxHeartbeats 1600000 in
set_option maxRecDepth 100000 in
theorem can_calls (bs bp bt S b n : Nat) (pv : Value) (t : List WishD) (pick st : List Int) (i : Nat) (w : World) (h1 : w.cell? ⟨bs, 0, none⟩ = some (.slice (some ⟨S, 0, none⟩) n n)) (hn : n = st.length) (hS : St w S st)
  (h2 : w.cell? ⟨bp, 0, none⟩ = some pv) (hp : Ints w pv pick) (h3 : w.cell? ⟨bt, 0, none⟩ = some (.map (some b))) (hb : Tab w b t) (hr : InRange pick) (hrs : InRange st) (hl : pick.length = st.length) (hi : i < st.length) (h512 : st.length ≤ 512) :
  Calls Tryz.prog 26 #[.int .i64 i, .pointer (some ⟨bs, 0, none⟩), .pointer (some ⟨bp, 0, none⟩), .pointer (some ⟨bt, 0, none⟩)] w fun e w' => e = .returned (.bool (canB t pick st i)) ∧ Ext w w' := by
 subst hn
 have hS' := Lib.hid hS
 have hP := Lib.hid hp
 have hb' := Lib.hid hb
 have hr' := Lib.hid hr
 have hrs' := Lib.hid hrs
 obtain ⟨pa, pc, rfl, _, _, pat⟩ := hp.open
 obtain ⟨b2, o2, y, rfl, hb2, _, ey, g1⟩ := pat i (by omega) w (Ext.refl _)
 have ey2 : atI pick i = y := atI_some ey.out
 have hyr : -9223372036854775808 ≤ y ∧ y ≤ 9223372036854775807 := hr y (List.mem_of_getElem? ey.out)
 have g0 := hS.cell hi
 have l1 := World.block_lt_of_cell? _ _ h1
 have l2 := World.block_lt_of_cell? _ _ h2
 have l3 := World.block_lt_of_cell? _ _ h3
 have lS := hS.lt
 obtain ⟨x, hx⟩ : ∃ x, Hid (atI st i = x) := ⟨_, rfl⟩
 rw [hx.out] at g0
 clear hS hp hb hr hrs pat
 cases hxy : (x == y) with
 | true =>
  have R : Hid (canB t pick st i = false) := by
   show _ = _
   unfold canB
   rw [hx.out, ey2]
   simp at hxy
   simp [hxy]
  clear ey2 hx
  go_enter Tryz.func26, Tryz.ntmps26
  go_upto_region 1 with (fail)
  have z1 := After.cell h1
  have z2 := After.cell h2
  have z3 := After.cell g0
  have z4 := After.cell g1
  clear h1 h2 h3 g0 g1
  refine wp_region_after (by kernel_rfl) (by kernel_rfl) ?_
  repeat (go_big_quiet_step (fail))
  refine wpQuiet_nil ?_
  rintro _ ⟨u, rfl⟩
  go_wp2
  go_ret
  rw [R.out]
  exact ⟨rfl, u.ext⟩
 | false =>
  have R : Hid (canB t pick st i = quietB t (st.set i y) i) := by
   show _ = _
   unfold canB
   rw [hx.out, ey2]
   simp at hxy
   simp [hxy]
  clear hx
  go_enter Tryz.func26, Tryz.ntmps26
  go_upto_region 1 with (fail)
  have z1 := After.cell h1
  have z2 := After.cell h2
  have z3 := After.cell g0
  have z4 := After.cell g1
  clear g0 g1
  refine wp_region_after (by kernel_rfl) (by kernel_rfl) ?_
  repeat (go_big_quiet_step (fail))
  refine wpQuiet_nil ?_
  rintro _ ⟨u, rfl⟩
  have hu := Lib.hid u.ext
  generalize u.world = W at hu ⊢
  clear z1 z2 z3 z4
  have k1 := hu.out.cell h1
  have k2 := hu.out.cell h2
  clear h1 h2
  go_wp2_with fail
  refine (clone_int_calls _ st W ((hS'.out.ext hu.out).read (by unfold maxLen; omega)) (by omega)).mono ?_
  rintro e w1 ⟨v, rfl, hv, hx1⟩
  have hvO : IntsO w1 W.heap.size v st := hv
  obtain ⟨g, c, rfl⟩ := hvO.pos (by omega)
  have hbnd := IntsO.lt_ hv
  have hux := hu.out.size
  have m1 := hvO.cell hi
  have m2 := hvO.frozen i
  have c2 := hx1.cell k2
  have c3 := (hu.out.trans hx1).cell h3
  obtain ⟨b3, o3, y2, e2, hb3, _, ey3, c4⟩ := (hP.out.at_.1) i (by omega) w1 (hu.out.trans hx1)
  cases e2
  obtain rfl : y2 = y := Option.some.inj (ey3.out.symm.trans ey.out)
  have hset := Lib.hid (hvO.set_ (i := i) y2)
  have hxW := Lib.hid ((hu.out.trans hx1).setCell (p := ⟨g, i, none⟩) (by dsimp only; omega) (.int .i64 y2))
  have c3b : (w1.setCell ⟨g, i, none⟩ (.int .i64 y2)).cell? ⟨bt, 0, none⟩ = some (.map (some b)) := hxW.out.cell h3
  have hlen : (st.set i y2).length = st.length := List.length_set
  have hcall := Lib.hid (quiet_calls b _ t (st.set i y2) i _ (hb'.out.ext hxW.out) hset.out.read (hrs'.out.set_ i hyr) (by rw [hlen]; exact hi))
  rw [hlen] at hcall
  clear hv hvO hx1 hset k1 k2 h3 ey ey3 hyr
  go_wp2_with fail
  refine hcall.out.mono ?_
  rintro e w3 ⟨rfl, hx3⟩
  go_wp2
  go_ret
  rw [R.out]
  exact ⟨rfl, hxW.out.trans hx3⟩

/-! ### next -/
def nextV (s : Option StepD) : Int × Int := s.getD (0, 0)
theorem next_results {tmps : Array Value} {w : World} {g : Nat} {x y : Int} (hp : tmps.getD 6 undef = .pointer (some ⟨g, 0, none⟩)) (hb : Blk w g 92 #[.int .i64 x, .int .i64 y]) :
  (results Tryz.f29 tmps).run Tryz.prog w = .ok (.tuple #[.agg #[.int .i64 x, .int .i64 y], tmps.getD 7 undef]) w := by
 have hp' : tmps[6]?.getD undef = .pointer (some ⟨g, 0, none⟩) := by simpa using hp
 rw [results_cell_tmp Tryz.results29]
 simp [hp', asAddr, run_loadVar_row w g 92 92 #[.int .i64 x, .int .i64 y] (0, 0) _ hb Tryz.underlying92 rfl (by kernel_rfl), Result.andThen]
theorem find_hit {p : Nat → Bool} {n i : Nat} (hi : i < n) (h : p i = true) (hF : ∀ j, j < i → p j = false) : (List.range n).find? p = some i := by
 rw [List.find?_range_eq_some]
 exact ⟨h, by simpa using hi, fun j hj => by simp [hF j hj]⟩
theorem find_none {p : Nat → Bool} {n : Nat} (hF : ∀ j, j < n → p j = false) : (List.range n).find? p = none := by
 rw [List.find?_range_eq_none]
 intro i hi
 simp [hF i hi]

set_option maxHeartbeats 3200000 in
set_option maxRecDepth 100000 in
theorem next_calls (sv pv : Value) (f : Nat) (q1 q2 q3 : Value) (hg : ∀ (x : Array Value) (W : World), (callFunc f x).run Tryz.prog W = .ok (.enter f x) W) (t : List WishD) (pick st : List Int) (w : World) (hs : Ints w sv st) (hp : Ints w pv pick) (hl : pick.length = st.length)
  (hf : ∀ i, i < st.length → ∀ W, Ext w W → Calls Tryz.prog f #[.int .i64 i, q1, q2, q3] W fun e w' => e = .returned (.bool (canB t pick st i)) ∧ Ext W w') :
  Calls Tryz.prog 29 #[sv, pv, .func (.func f) #[] #[q1, q2, q3]] w fun e w' => e = .returned (.tuple #[.agg #[.int .i64 (nextV (goS t pick st)).1, .int .i64 (nextV (goS t pick st)).2], .bool (goS t pick st).isSome]) ∧ Ext w w' := by
 obtain ⟨sa, sc, rfl, hsn, hsc, sat⟩ := hs.open
 obtain ⟨pa, pc, rfl, hpn, hpc, pat⟩ := hp.open
 have sat' := Lib.hid sat
 have pat' := Lib.hid pat
 have hf' := Lib.hid hf
 have hl1 : pick.length ≤ st.length := Nat.le_of_eq hl
 have hl2 : st.length ≤ pick.length := Nat.le_of_eq hl.symm
 clear hs hp sat pat hf hl
 go_enter Tryz.func29, Tryz.ntmps29
 go_upto_region 1 with (fail)
 refine wp_abs (S := fun W => Hid (Ext w W) ∧ Hid (Blk W w.heap.size 92 #[.int .i64 0, .int .i64 0])) ?_ ?_
 ·exact ⟨Lib.hid (by exact (by with_reducible repeat' (first | exact Ext.refl _ | assumption | refine Ext.drewN ?_ _ | refine Ext.drew ?_ | refine Ext.alloc ?_ _ | refine Ext.trans ?_ (by with_reducible assumption)))), Lib.hid (blk_new' rfl rfl)⟩
 rintro W0 ⟨hE0, hB0⟩
 (try go_step3)
 go_wp2_with fail
 go_loopw [12] (fun vi wr => ∃ i : Nat, i ≤ st.length ∧ vi = .int .i64 i ∧ Hid (Ext w wr) ∧ Hid (Blk wr w.heap.size 92 #[.int .i64 0, .int .i64 0]) ∧ Hid (∀ j, j < i → canB t pick st j = false)) (fun vi _ => st.length - (intOf vi).toNat)
 case atStart => exact ⟨0, by omega, rfl, hE0, hB0, Lib.hid (fun j h => by omega)⟩
 case round =>
  clear hE0 hB0
  obtain ⟨i, hi, rfl, hx, hB, hF⟩ := hrel
  by_cases h1 : i < st.length
  ·have hcall := Lib.hid (hf'.out i h1)
   obtain ⟨z, hz⟩ : ∃ z, Hid (canB t pick st i = z) := ⟨_, rfl⟩
   rw [hz.out] at hcall
   go_wp2_with fail
   refine (hcall.out _ hx.out).mono ?_
   rintro e w1 ⟨rfl, hx1⟩
   have hx2 := Lib.hid (hx.out.trans hx1)
   have hB2 : Hid (Blk w1 w.heap.size 92 #[.int .i64 0, .int .i64 0]) := Lib.hid ((Keep.of_ext (X := fun _ => False) hx1).blk hB.out id)
   clear hx hx1 hB hcall
   cases z with
   | true =>
    have R : Hid (goS t pick st = some ((i : Int), atI pick i)) := by
     show _ = _
     unfold goS
     rw [find_hit h1 hz.out hF.out]
    obtain ⟨b2, o2, y, rfl, hb2, _, ey, g1⟩ := pat'.out i (by omega) w1 hx2.out
    rw [atI_some ey.out] at R
    have k0 : w1.cell? ⟨w.heap.size, 0, none⟩ = some (.int .i64 0) := hB2.out.cell 0
    have k1 : w1.cell? ⟨w.heap.size, 1, none⟩ = some (.int .i64 0) := hB2.out.cell 1
    have m0 := hB2.out.frozen 0
    have m1 := hB2.out.frozen 1
    have lb := hB2.out.lt
    clear hz hF ey
    go_wp2
    (try simp only [Exit.inBlock, Exit.then])
    (try rw [Exit.noGoto_ret])
    refine bodyPost_ret (next_results (x := (i : Int)) (y := y) rfl (((hB2.out.set_ 0 _).set_ 1 _))) rfl ?_
    rw [R.out]
    exact ⟨rfl, ((hx2.out.setCell (p := ⟨w.heap.size, 0, none⟩) (Nat.le_refl _) _).setCell (p := ⟨w.heap.size, 1, none⟩) (Nat.le_refl _) _)⟩
   | false =>
    have hF2 : Hid (∀ j, j < i + 1 → canB t pick st j = false) := fun j hj => by
     rcases Nat.lt_succ_iff_lt_or_eq.1 hj with h | rfl
     ·exact hF.out j h
     ·exact hz.out
    clear hF hz
    go_wp2
    go_roundw
    case rel => first | exact ⟨i + 1, by omega, by go_num, hx2, hB2, hF2⟩ | ((repeat apply Exists.intro); exact ⟨⟨i + 1, by omega, by go_num, hx2, hB2, hF2⟩, rfl⟩)
    case measure => simp [intOf]; omega
  ·have hnone : Hid ((List.range st.length).find? (canB t pick st) = none) := find_none fun j hj => hF.out j (by omega)
   obtain ⟨wA, hwA⟩ : ∃ wA : World, Hid (wr = wA) := ⟨_, rfl⟩
   clear hF hf'
   go_wp2_with fail
   rw [hwA.out] at hx hB
   rw [hwA.out]
   clear hwA
   go_loopw [27] (fun vi wr => ∃ i : Nat, i ≤ st.length ∧ vi = .int .i64 i ∧ Hid (Ext w wr) ∧ Hid (Blk wr w.heap.size 92 #[.int .i64 0, .int .i64 0]) ∧ Hid (∀ j, j < i → parkB pick st j = false)) (fun vi _ => st.length - (intOf vi).toNat)
   case atStart => exact ⟨0, by omega, rfl, hx, hB, Lib.hid (fun j h => by omega)⟩
   case round =>
    clear hx hB
    obtain ⟨k, hk, rfl, hx, hB, hF⟩ := hrel
    by_cases h2 : k < st.length
    ·obtain ⟨b1, o1, x, rfl, hb1, _, ex, g0⟩ := sat'.out k h2 wr hx.out
     obtain ⟨b2, o2, y, rfl, hb2, _, ey, g1⟩ := pat'.out k (by omega) wr hx.out
     have e1 : atI st k = x := atI_some ex.out
     have e2 : atI pick k = y := atI_some ey.out
     have hpk : Hid (parkB pick st k = (!(x == y) && !(x == -1))) := by
      show _ = _
      unfold parkB
      rw [e1, e2]
      congr 1 <;> (congr 1; exact (Bool.eq_iff_iff.2 (by simp)))
     clear e1 e2 ex ey
     cases hxy : (x == y) with
     | true =>
      have hn0 : (x != y) = false := by simp [bne, hxy]
      have hF2 : Hid (∀ j, j < k + 1 → parkB pick st j = false) := fun j hj => by
       rcases Nat.lt_succ_iff_lt_or_eq.1 hj with h | rfl
       ·exact hF.out j h
       ·rw [hpk.out]; simp [hxy]
      clear hF hpk
      go_upto_region 10 with (fail)
      have z1 := After.cell g0
      have z2 := After.cell g1
      clear g0 g1
      refine wp_region_after (by kernel_rfl) (by kernel_rfl) ?_
      repeat (go_big_quiet_step (fail))
      refine wpQuiet_nil ?_
      rintro _ ⟨u, rfl⟩
      have hu := Lib.hid u.ext
      generalize u.world = W at hu ⊢
      clear z1 z2
      have hxW := Lib.hid (hx.out.trans hu.out)
      have hBW : Hid (Blk W w.heap.size 92 #[.int .i64 0, .int .i64 0]) := Lib.hid ((Keep.of_ext (X := fun _ => False) hu.out).blk hB.out id)
      clear hx hB hu
      go_wp2
      go_roundw
      case rel => exact ⟨k + 1, by omega, by go_num, hxW, hBW, hF2⟩
      case measure => simp [intOf]; omega
     | false =>
      have hn0 : (x != y) = true := by simp [bne, hxy]
      cases hx1 : (x == -1) with
      | true =>
       have hn1 : (x != -1) = false := by simp [bne, hx1]
       have hF2 : Hid (∀ j, j < k + 1 → parkB pick st j = false) := fun j hj => by
        rcases Nat.lt_succ_iff_lt_or_eq.1 hj with h | rfl
        ·exact hF.out j h
        ·rw [hpk.out]; simp [hx1]
       clear hF hpk
       go_upto_region 10 with (fail)
       have z1 := After.cell g0
       have z2 := After.cell g1
       clear g0 g1
       refine wp_region_after (by kernel_rfl) (by kernel_rfl) ?_
       repeat (go_big_quiet_step (fail))
       refine wpQuiet_nil ?_
       rintro _ ⟨u, rfl⟩
       have hu := Lib.hid u.ext
       generalize u.world = W at hu ⊢
       clear z1 z2
       have hxW := Lib.hid (hx.out.trans hu.out)
       have hBW : Hid (Blk W w.heap.size 92 #[.int .i64 0, .int .i64 0]) := Lib.hid ((Keep.of_ext (X := fun _ => False) hu.out).blk hB.out id)
       clear hx hB hu
       go_wp2
       go_roundw
       case rel => exact ⟨k + 1, by omega, by go_num, hxW, hBW, hF2⟩
       case measure => simp [intOf]; omega
      | false =>
       have hn1 : (x != -1) = true := by simp [bne, hx1]
       have R : Hid (goS t pick st = some ((k : Int), -1)) := by
        show _ = _
        unfold goS
        rw [hnone.out, find_hit h2 (by rw [hpk.out, hxy, hx1]; rfl) hF.out]
       clear hF hpk
       go_upto_region 10 with (fail)
       have z1 := After.cell g0
       have z2 := After.cell g1
       clear g0 g1
       refine wp_region_after (by kernel_rfl) (by kernel_rfl) ?_
       repeat (go_big_quiet_step (fail))
       refine wpQuiet_nil ?_
       rintro _ ⟨u, rfl⟩
       have hu := Lib.hid u.ext
       generalize u.world = W at hu ⊢
       clear z1 z2
       have hxW := Lib.hid (hx.out.trans hu.out)
       have hBW : Hid (Blk W w.heap.size 92 #[.int .i64 0, .int .i64 0]) := Lib.hid ((Keep.of_ext (X := fun _ => False) hu.out).blk hB.out id)
       clear hx hB hu
       have k0 : W.cell? ⟨w.heap.size, 0, none⟩ = some (.int .i64 0) := hBW.out.cell 0
       have k1 : W.cell? ⟨w.heap.size, 1, none⟩ = some (.int .i64 0) := hBW.out.cell 1
       have m0 := hBW.out.frozen 0
       have m1 := hBW.out.frozen 1
       have lb := hBW.out.lt
       go_wp2
       (try simp only [Exit.inBlock, Exit.then])
       (try rw [Exit.noGoto_ret])
       refine bodyPost_ret (next_results (x := (k : Int)) (y := -1) rfl (((hBW.out.set_ 0 _).set_ 1 _))) rfl ?_
       rw [R.out]
       exact ⟨rfl, ((hxW.out.setCell (p := ⟨w.heap.size, 0, none⟩) (Nat.le_refl _) _).setCell (p := ⟨w.heap.size, 1, none⟩) (Nat.le_refl _) _)⟩
    ·have R : Hid (goS t pick st = none) := by
      show _ = _
      unfold goS
      rw [hnone.out, find_none fun j hj => hF.out j (by omega)]
     have k0 : wr.cell? ⟨w.heap.size, 0, none⟩ = some (.int .i64 0) := hB.out.cell 0
     have k1 : wr.cell? ⟨w.heap.size, 1, none⟩ = some (.int .i64 0) := hB.out.cell 1
     have m0 := hB.out.frozen 0
     have m1 := hB.out.frozen 1
     have lb := hB.out.lt
     clear hF
     go_wp2
     (try simp only [Exit.inBlock, Exit.then])
     (try rw [Exit.noGoto_ret])
     refine bodyPost_ret (next_results (x := 0) (y := 0) rfl (((hB.out.set_ 0 _).set_ 1 _))) rfl ?_
     rw [R.out]
     exact ⟨rfl, ((hx.out.setCell (p := ⟨w.heap.size, 0, none⟩) (Nat.le_refl _) _).setCell (p := ⟨w.heap.size, 1, none⟩) (Nat.le_refl _) _)⟩
end Go.Proofs.YtepcdhpikpmepaaGreat
