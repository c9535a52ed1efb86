import Derived.Test.YtepcdhpikpmepaaGreatTIBQ
import Derived.Laws.StructEq
namespace Go.Proofs.YtepcdhpikpmepaaGreat
open Go.RowKit

def inEnc (x : InstD) : List Value := [.int .i64 x.1, .int .i64 x.2.1, .int .i64 x.2.2]
def inCells (l : List InstD) : List Value := l.flatMap inEnc
theorem inCells_app (a b : List InstD) : inCells (a ++ b) = inCells a ++ inCells b := by simp [inCells]
theorem inCells_len : ∀ l : List InstD, (inCells l).length = l.length * 3
 | [] => rfl
 | b :: r => by have := inCells_len r; unfold inCells at *; rw [List.flatMap_cons, List.length_append, this, List.length_cons]; simp [inEnc]; omega
theorem inCells_at : ∀ {l : List InstD} (i : Nat) (b : InstD), l[i]? = some b → (inCells l)[i * 3]? = some (.int .i64 b.1) ∧ (inCells l)[i * 3 + 1]? = some (.int .i64 b.2.1) ∧ (inCells l)[i * 3 + 2]? = some (.int .i64 b.2.2)
 | [], i, b, h => by simp at h
 | x :: r, 0, b, h => by simp at h; subst h; exact ⟨rfl, rfl, rfl⟩
 | x :: r, i + 1, b, h => by
  have := inCells_at (l := r) i b (by simpa using h)
  have e : ∀ j, (inCells (x :: r))[(i + 1) * 3 + j]? = (inCells r)[i * 3 + j]? := fun j => by
   rw [show (i + 1) * 3 + j = (i * 3 + j) + 1 + 1 + 1 by omega]; rfl
  exact ⟨(e 0).trans this.1, (e 1).trans this.2.1, (e 2).trans this.2.2⟩
theorem in_info : (Tryz.prog.info? 105).map (fun i => (i.zero, i.size, i.bytes)) = some (some (.agg #[.int .i64 0, .int .i64 0, .int .i64 0]), 3, 24) := by kernel_rfl

/-! ### readings -/
def instCell (x : InstD) (j : Nat) : Int := if j = 0 then x.1 else if j = 1 then x.2.1 else x.2.2
def Insts (w : World) (v : Value) (l : List InstD) : Prop := Sl w 3 v l.length fun i j => .int .i64 (instCell (l[i]?.getD default) j)
theorem Insts.ext {w w' : World} {v : Value} {l : List InstD} (h : Insts w v l) (e : Ext w w') : Insts w' v l := Sl.ext h e
def InstsAt (a : Option Addr) (w : World) (l : List InstD) : Prop :=
 ∀ i, i < l.length → ∀ W, Ext w W → ∃ b off d f t, a = some ⟨b, off, none⟩ ∧ b < W.heap.size ∧ Hid (l.drop i = (d, f, t) :: l.drop (i + 1)) ∧ Hid (l[i]? = some (d, f, t)) ∧
  W.cell? ⟨b, off + i * 3, none⟩ = some (.int .i64 d) ∧ W.cell? ⟨b, off + i * 3 + 1, none⟩ = some (.int .i64 f) ∧ W.cell? ⟨b, off + i * 3 + 2, none⟩ = some (.int .i64 t)
theorem Insts.open {w : World} {v : Value} {l : List InstD} (h : Insts w v l) :
  ∃ a c, v = .slice a l.length c ∧ l.length ≤ c ∧ c ≤ 9223372036854775807 ∧ InstsAt a w l := by
 obtain ⟨a, c, hv, hn, hc, h1⟩ := Sl.open h
 refine ⟨a, c, hv, hn, hc, fun i hi W e => ?_⟩
 obtain ⟨b, off, ha, hb, h2⟩ := h1 i hi
 obtain ⟨⟨d, f, t⟩, dx, ex⟩ := drop_cons l i hi
 refine ⟨b, off, d, f, t, ha, Nat.lt_of_lt_of_le hb e.size, dx, ex, ?_, ?_, ?_⟩
 ·have := h2 W e 0 (by omega)
  simpa [ex, instCell] using this
 ·have := h2 W e 1 (by omega)
  simpa [ex, instCell] using this
 ·have := h2 W e 2 (by omega)
  simpa [ex, instCell] using this
theorem Insts.form {w : World} {v : Value} {l : List InstD} (h : Insts w v l) : ∃ a c, v = .slice a l.length c := let ⟨a, c, e, _⟩ := Insts.open h; ⟨a, c, e⟩
def InstsO (w : World) (B : Nat) (v : Value) (l : List InstD) : Prop := w.ownsRow B 105 3 v l.length (inCells l)
theorem InstsO.nil (w : World) (B : Nat) : InstsO w B (.slice none 0 0) [] := World.ownsRow_nil _ _ _ _
theorem InstsO.ext {w w' : World} {B : Nat} {v : Value} {l : List InstD} (h : InstsO w B v l) (k : Ext w w') : InstsO w' B v l := owns_ext h k
theorem InstsO.base {w : World} {B B' : Nat} {v : Value} {l : List InstD} (h : InstsO w B v l) (hB : B' ≤ B) : InstsO w B' v l := owns_base h hB
theorem InstsO.read {w : World} {B : Nat} {v : Value} {l : List InstD} (h : InstsO w B v l) : Insts w v l :=
 sl_of_owns h fun i hi j hj => by
  have h := inCells_at i l[i] (List.getElem?_eq_getElem hi)
  rcases j with _ | _ | _ | j
  ·rw [Nat.add_zero, h.1]; simp [hi, instCell]
  ·rw [h.2.1]; simp [hi, instCell]
  ·rw [h.2.2]; simp [hi, instCell]
  ·omega
theorem InstsO.push {w1 : World} {B n : Nat} {v1 : Value} {l : List InstD} {x : InstD} (hn : n = l.length) (hown : w1.ownsRow B 105 3 v1 (n + 1) (inCells l ++ [.int .i64 x.1, .int .i64 x.2.1, .int .i64 x.2.2])) : InstsO w1 B v1 (l ++ [x]) := by
 unfold InstsO
 rw [List.length_append, inCells_app, ← hn]
 exact hown

theorem Sl.far {w : World} {k n N C : Nat} {A : Option Addr} {F : Nat → Nat → Value} {p : Addr} {u : Value} (h : Sl w k (.slice A n C) N F) (hA : ∀ a, A = some a → a.block ≠ p.block) : Sl (w.setCell p u) k (.slice A n C) N F := by
 obtain ⟨a, c, e, hn, hc, h3⟩ := h
 cases e
 refine ⟨_, _, rfl, hn, hc, fun hp => ?_⟩
 obtain ⟨b, off, e1, e2, e3⟩ := h3 hp
 refine ⟨b, off, e1, ?_, fun i hi j hj => ?_⟩
 ·exact Nat.lt_of_lt_of_le e2 (Keep.setCell (X := fun q => q = p.block) (Keep.refl _ w) (Or.inl rfl) u).size
 ·exact (Keep.setCell (X := fun q => q = p.block) (Keep.refl _ w) (Or.inl rfl) u).cell (e3 i hi j hj) (fun e => hA _ e1 e)
/-! ### classes -/
def Classes (w : World) (v : Value) (l : List ClassD) : Prop :=
 ∃ R : Nat → Value, Sl w 2 v l.length (fun i j => if j = 0 then R i else .int .i64 (l[i]?.getD default).minute) ∧ ∀ i, i < l.length → Terms w (R i) [[(l[i]?.getD default).days]]
theorem Classes.ext {w w' : World} {v : Value} {l : List ClassD} (h : Classes w v l) (e : Ext w w') : Classes w' v l :=
 let ⟨S, h1, h2⟩ := h
 ⟨S, Sl.ext h1 e, fun i hi => (h2 i hi).ext e⟩
def ClassesAt (a : Option Addr) (w : World) (l : List ClassD) : Prop :=
 ∀ i, i < l.length → ∀ W, Ext w W → ∃ b off x ta tc, a = some ⟨b, off, none⟩ ∧ b < W.heap.size ∧ Hid (l[i]? = some x) ∧ W.cell? ⟨b, off + i * 2, none⟩ = some (.slice ta 1 tc) ∧ W.cell? ⟨b, off + i * 2 + 1, none⟩ = some (.int .i64 x.minute) ∧ Terms W (.slice ta 1 tc) [[x.days]]
theorem Classes.open {w : World} {v : Value} {l : List ClassD} (h : Classes w v l) :
  ∃ a c, v = .slice a l.length c ∧ l.length ≤ c ∧ c ≤ 9223372036854775807 ∧ ClassesAt a w l := by
 obtain ⟨R, h1, h2⟩ := h
 obtain ⟨a, c, hv, hn, hc, h⟩ := Sl.open h1
 refine ⟨a, c, hv, hn, hc, fun i hi W e => ?_⟩
 obtain ⟨b, off, ha, hb, h⟩ := h i hi
 obtain ⟨x, d, ex⟩ := drop_cons l i hi
 have hp := (h2 i hi).ext e
 simp only [ex, Option.getD_some] at hp
 obtain ⟨ta, tc, hP, _⟩ := Terms.open hp
 refine ⟨b, off, x, ta, tc, ha, Nat.lt_of_lt_of_le hb e.size, ex, ?_, ?_, by rw [hP] at hp; exact hp⟩
 ·have := h W e 0 (by omega)
  simpa [ex, hP] using this
 ·have := h W e 1 (by omega)
  simpa [ex] using this
theorem Classes.form {w : World} {v : Value} {l : List ClassD} (h : Classes w v l) : ∃ a c, v = .slice a l.length c := let ⟨a, c, e, _⟩ := h.open; ⟨a, c, e⟩
def StreamV (w : World) (v : Value) (s : StreamD) : Prop := ∃ cv ev, v = .agg #[cv, .int .i64 s.len, ev] ∧ Classes w cv s.classes ∧ Insts w ev s.extra
theorem StreamV.ext {w w' : World} {v : Value} {s : StreamD} (h : StreamV w v s) (e : Ext w w') : StreamV w' v s := let ⟨a, b, c, d, f⟩ := h; ⟨a, b, c, d.ext e, f.ext e⟩

/-! ### stands -/
structure StandD where
 meeting : Int
 room : Int
 team : Int
 size : Int
 stream : StreamD
instance : Inhabited StandD := ⟨⟨0, 0, 0, 0, default⟩⟩
def standCell (x : StandD) (C E : Value) (j : Nat) : Value :=
 if j = 0 then .int .i64 x.meeting else if j = 1 then .int .i64 x.room else if j = 2 then .int .i64 x.team else if j = 3 then .int .i64 x.size else if j = 4 then C else if j = 5 then .int .i64 x.stream.len else E
def StandsL (w : World) (v : Value) (l : List StandD) : Prop :=
 ∃ C E : Nat → Value, Sl w 7 v l.length (fun i j => standCell (l[i]?.getD default) (C i) (E i) j) ∧ ∀ i, i < l.length → Classes w (C i) (l[i]?.getD default).stream.classes ∧ Insts w (E i) (l[i]?.getD default).stream.extra
theorem StandsL.ext {w w' : World} {v : Value} {l : List StandD} (h : StandsL w v l) (e : Ext w w') : StandsL w' v l :=
 let ⟨C, E, h1, h2⟩ := h
 ⟨C, E, Sl.ext h1 e, fun i hi => ⟨(h2 i hi).1.ext e, (h2 i hi).2.ext e⟩⟩
def StandsAt (a : Option Addr) (w : World) (l : List StandD) : Prop :=
 ∀ i, i < l.length → ∀ W, Ext w W → ∃ b off x ca cc ea ec, a = some ⟨b, off, none⟩ ∧ b < W.heap.size ∧ Hid (l[i]? = some x) ∧
  W.cell? ⟨b, off + i * 7, none⟩ = some (.int .i64 x.meeting) ∧ W.cell? ⟨b, off + i * 7 + 1, none⟩ = some (.int .i64 x.room) ∧ W.cell? ⟨b, off + i * 7 + 2, none⟩ = some (.int .i64 x.team) ∧ W.cell? ⟨b, off + i * 7 + 3, none⟩ = some (.int .i64 x.size) ∧
  W.cell? ⟨b, off + i * 7 + 4, none⟩ = some (.slice ca x.stream.classes.length cc) ∧ W.cell? ⟨b, off + i * 7 + 5, none⟩ = some (.int .i64 x.stream.len) ∧ W.cell? ⟨b, off + i * 7 + 6, none⟩ = some (.slice ea x.stream.extra.length ec) ∧
  Classes W (.slice ca x.stream.classes.length cc) x.stream.classes ∧ Insts W (.slice ea x.stream.extra.length ec) x.stream.extra
theorem StandsL.open {w : World} {v : Value} {l : List StandD} (h : StandsL w v l) :
  ∃ a c, v = .slice a l.length c ∧ l.length ≤ c ∧ c ≤ 9223372036854775807 ∧ StandsAt a w l := by
 obtain ⟨C, E, h1, h2⟩ := h
 obtain ⟨a, c, hv, hn, hc, h⟩ := Sl.open h1
 refine ⟨a, c, hv, hn, hc, fun i hi W e => ?_⟩
 obtain ⟨b, off, ha, hb, h⟩ := h i hi
 obtain ⟨x, d, ex⟩ := drop_cons l i hi
 have hp := (h2 i hi).1.ext e
 have hq := (h2 i hi).2.ext e
 simp only [ex, Option.getD_some] at hp hq
 obtain ⟨ca, cc, hP, _⟩ := Classes.open hp
 obtain ⟨ea, ec, hQ, _⟩ := Insts.open hq
 refine ⟨b, off, x, ca, cc, ea, ec, ha, Nat.lt_of_lt_of_le hb e.size, ex, ?_, ?_, ?_, ?_, ?_, ?_, ?_, by rw [← hP]; exact hp, by rw [← hQ]; exact hq⟩
 ·have := h W e 0 (by omega)
  simpa [ex, standCell] using this
 ·have := h W e 1 (by omega)
  simpa [ex, standCell] using this
 ·have := h W e 2 (by omega)
  simpa [ex, standCell] using this
 ·have := h W e 3 (by omega)
  simpa [ex, standCell] using this
 ·have := h W e 4 (by omega)
  rw [← hP]
  simpa [ex, standCell] using this
 ·have := h W e 5 (by omega)
  simpa [ex, standCell] using this
 ·have := h W e 6 (by omega)
  rw [← hQ]
  simpa [ex, standCell] using this
theorem StandsL.form {w : World} {v : Value} {l : List StandD} (h : StandsL w v l) : ∃ a c, v = .slice a l.length c := let ⟨a, c, e, _⟩ := h.open; ⟨a, c, e⟩
end Go.Proofs.YtepcdhpikpmepaaGreat
namespace Go.Proofs.YtepcdhpikpmepaaGreat
open Go.RowKit
attribute [local go_sem] Oper.semAt_some

theorem in_eql (x y : InstD) (w : World) : (binOp .eql 105 (.agg #[.int .i64 x.1, .int .i64 x.2.1, .int .i64 x.2.2]) (.agg #[.int .i64 y.1, .int .i64 y.2.1, .int .i64 y.2.2])).run Tryz.prog w = .ok (.bool (decide (x = y))) w := by
 obtain ⟨a, b, c⟩ := x
 obtain ⟨d, e, f⟩ := y
 dsimp only
 have u3 := Tryz.underlying3
 have a3 := Tryz.isAgg3
 have z3 := Tryz.sizeOf3
 have a4 := Tryz.isAgg102
 have z4 := Tryz.sizeOf102
 have hS : Tryz.prog.underlying 105 = some (.struct (Tryz.prog.fieldsOf 105)) := by kernel_rfl
 have hp : Tryz.prog.stoodInHeld 105 = false := by kernel_rfl
 rw [run_eql_struct, show (10000 : Nat) = 9999 + 1 from rfl, run_equalIn_agg w 9999 105 _ _ hS hp]
 simp only [Program.fieldsOf, Tryz.underlying105]
 go_simp
 by_cases h1 : a = d <;> by_cases h2 : b = e <;> by_cases h3 : c = f <;> simp [h1, h2, h3]
theorem in_neq (x y : InstD) (w : World) : (binOp .neq 105 (.agg #[.int .i64 x.1, .int .i64 x.2.1, .int .i64 x.2.2]) (.agg #[.int .i64 y.1, .int .i64 y.2.1, .int .i64 y.2.2])).run Tryz.prog w = .ok (.bool (!decide (x = y))) w := by
 have h := in_eql x y w
 rw [run_eql_struct] at h
 rw [run_neq_struct]
 generalize (Op.equalIn 10000 105 (.agg #[.int .i64 x.1, .int .i64 x.2.1, .int .i64 x.2.2]) (.agg #[.int .i64 y.1, .int .i64 y.2.1, .int .i64 y.2.2])).run Tryz.prog w = r at h ⊢
 cases r with
 | ok b w1 =>
  simp only [Result.andThen_ok] at h ⊢
  cases h
  rfl
 | _ => simp [Result.andThen] at h
theorem in_guard (op : BinOp) (a b : Operand) (x y : InstD) (w : World) : (eqGuard op 105 a b (.agg #[.int .i64 x.1, .int .i64 x.2.1, .int .i64 x.2.2]) (.agg #[.int .i64 y.1, .int .i64 y.2.1, .int .i64 y.2.2])).run Tryz.prog w = .ok () w :=
 run_eqGuard_agg w op 105 a b #[.int .i64 x.1, .int .i64 x.2.1, .int .i64 x.2.2] #[.int .i64 y.1, .int .i64 y.2.1, .int .i64 y.2.2] (by kernel_rfl)


set_option maxHeartbeats 800000 in
theorem less_callsI (x y : InstD) (w : World) : Calls Tryz.prog 59 #[.agg #[.int .i64 x.1, .int .i64 x.2.1, .int .i64 x.2.2], .agg #[.int .i64 y.1, .int .i64 y.2.1, .int .i64 y.2.2]] w fun e w' => e = .returned (.bool (decide (ltI x y))) ∧ Ext w w' := by
 obtain ⟨a, b, c⟩ := x
 obtain ⟨d, e, f⟩ := y
 dsimp only
 by_cases h1 : b = e
 ·have d1 : (b != e) = false := by simp [h1]
  by_cases h2 : a = d
  ·have d2 : (a != d) = false := by simp [h2]
   have R : Hid (decide (ltI (a, b, c) (d, e, f)) = decide (c < f)) := Lib.hid (by unfold ltI; dsimp only; congr 1; apply propext; omega)
   rw [R.out]
   obtain ⟨q, hq⟩ : ∃ q, decide (c < f) = q := ⟨_, rfl⟩
   rw [hq]
   clear R h1 h2
   go_enter Tryz.func59, Tryz.ntmps59
   go_wp2
   go_ret
   exact ⟨rfl, (by with_reducible repeat' (first | exact Ext.refl _ | assumption | refine Ext.drewN ?_ _ | refine Ext.drew ?_ | refine Ext.alloc ?_ _ | refine Ext.trans ?_ (by with_reducible assumption)))⟩
  ·have d2 : (a != d) = true := by simp [h2]
   have R : Hid (decide (ltI (a, b, c) (d, e, f)) = decide (a < d)) := Lib.hid (by unfold ltI; dsimp only; congr 1; apply propext; omega)
   rw [R.out]
   obtain ⟨q, hq⟩ : ∃ q, decide (a < d) = q := ⟨_, rfl⟩
   rw [hq]
   clear R h1 h2
   go_enter Tryz.func59, Tryz.ntmps59
   go_wp2
   go_ret
   exact ⟨rfl, (by with_reducible repeat' (first | exact Ext.refl _ | assumption | refine Ext.drewN ?_ _ | refine Ext.drew ?_ | refine Ext.alloc ?_ _ | refine Ext.trans ?_ (by with_reducible assumption)))⟩
 ·have d1 : (b != e) = true := by simp [h1]
  have R : Hid (decide (ltI (a, b, c) (d, e, f)) = decide (b < e)) := Lib.hid (by unfold ltI; dsimp only; congr 1; apply propext; omega)
  rw [R.out]
  obtain ⟨q, hq⟩ : ∃ q, decide (b < e) = q := ⟨_, rfl⟩
  rw [hq]
  clear R h1
  go_enter Tryz.func59, Tryz.ntmps59
  go_wp2
  go_ret
  exact ⟨rfl, (by with_reducible repeat' (first | exact Ext.refl _ | assumption | refine Ext.drewN ?_ _ | refine Ext.drew ?_ | refine Ext.alloc ?_ _ | refine Ext.trans ?_ (by with_reducible assumption)))⟩

/-! ### periodic sets of the reference -/
theorem rising_next : ∀ {l : List Int} {low P : Int}, risingP low P l = true → ∀ i x y, l[i]? = some x → l[i + 1]? = some y → x < y
 | [], _, _, _, i, x, y, h, _ => by simp at h
 | a :: r, low, P, h, 0, x, y, hx, hy => by
  unfold risingP at h
  split at h
  ·cases h
  ·simp at hx hy
   subst hx
   exact (rising_mem h y (List.mem_of_getElem? hy)).1
 | a :: r, low, P, h, i + 1, x, y, hx, hy => by
  unfold risingP at h
  split at h
  ·cases h
  ·exact rising_next h i x y (by simpa using hx) (by simpa using hy)
set_option maxHeartbeats 1600000 in
theorem rising4_calls (v : Value) (l : List Int) (lim : Int) (w : World) (h : Ints w v l) (hr : risingP (-1) lim l = true) :
  Calls Tryz.prog 81 #[v, .int .i64 lim] w fun e w' => e = .returned (.bool true) ∧ Ext w w' := by
 obtain ⟨a, c, rfl, hn, hc, hat⟩ := h.open
 have hat' := Lib.hid hat
 have hr' := Lib.hid hr
 clear h hat hr
 go_enter Tryz.func81, Tryz.ntmps81
 go_wp2_with fail
 go_loopw [5] (fun vi wr => ∃ i : Nat, i ≤ l.length ∧ vi = .int .i64 i ∧ Hid (Ext w wr)) (fun vi _ => l.length - (intOf vi).toNat)
 case atStart => exact ⟨0, by omega, rfl, Lib.hid (Ext.refl _)⟩
 case round =>
  obtain ⟨i, hi, rfl, hx⟩ := hrel
  by_cases h1 : i < l.length
  ·obtain ⟨b1, o1, x, rfl, hb1, _, ex, g0⟩ := hat'.out i h1 wr hx.out
   obtain ⟨hx0, hx1⟩ := rising_mem' hr'.out x (List.mem_of_getElem? ex.out)
   have d1 : decide (x < 0) = false := decide_eq_false (by omega)
   have d2 : decide (lim ≤ x) = false := decide_eq_false (by omega)
   have z0 := After.cell g0
   by_cases h0 : i = 0
   ·subst h0
    rw [Nat.add_zero] at z0
    clear hx0 hx1 ex g0
    go_wp2_with fail
    refine wp_region_after (by kernel_rfl) (by kernel_rfl) ?_
    repeat (go_big_quiet_step (fail))
    refine wpQuiet_nil ?_
    rintro _ ⟨y, rfl⟩
    have hy := Lib.hid (hx.out.trans y.ext)
    generalize y.world = Y at hy ⊢
    clear z0 hx
    go_wp2
    go_roundw
    case rel => exact ⟨1, by omega, by go_num, hy⟩
    case measure => simp [intOf]; omega
   ·obtain ⟨b2, o2, y, e2, hb2, _, ey, g1⟩ := hat'.out (i - 1) (by omega) wr hx.out
    cases e2
    have hlt := rising_next hr'.out (i - 1) y x ey.out (by rw [show i - 1 + 1 = i by omega]; exact ex.out)
    have d3 : decide (x ≤ y) = false := decide_eq_false (by omega)
    have d4 : decide (0 < i) = true := decide_eq_true (by omega)
    have z1 := After.cell g1
    clear hx0 hx1 ex ey g0 g1 hlt
    go_wp2_with fail
    refine wp_region_after (by kernel_rfl) (by kernel_rfl) ?_
    repeat (go_big_quiet_step (fail))
    refine wpQuiet_nil ?_
    rintro _ ⟨y, rfl⟩
    have hy := Lib.hid (hx.out.trans y.ext)
    generalize y.world = Y at hy ⊢
    clear z0 z1 hx
    go_wp2
    go_roundw
    case rel => exact ⟨i + 1, by omega, by go_num, hy⟩
    case measure => simp [intOf]; omega
  ·go_wp2
   go_ret
   exact ⟨rfl, hx.out⟩
def PerOk0 (p : PerD) : Prop := p.head = [] ∧ 0 ≤ p.from_ ∧ p.from_ ≤ 1000 ∧ 1 ≤ p.period ∧ p.period ≤ 1000 ∧ p.cycle.length ≤ 1000 ∧ risingP (-1) p.period p.cycle = true
set_option maxHeartbeats 1600000 in
theorem per4Valid_calls (v : Value) (p : PerD) (w : World) (h : PerV w v p) (hok : PerOk0 p) :
  Calls Tryz.prog 58 #[v] w fun e w' => e = .returned (.bool true) ∧ Ext w w' := by
 obtain ⟨hv, cv, rfl, hh, hc⟩ := h
 obtain ⟨e0, f0, f1, q0, q1, hcl, hri⟩ := hok
 obtain ⟨f, fe⟩ : ∃ f, p.from_ = f := ⟨_, rfl⟩
 obtain ⟨q, qe⟩ : ∃ q, p.period = q := ⟨_, rfl⟩
 obtain ⟨cs, ce⟩ : ∃ cs, p.cycle = cs := ⟨_, rfl⟩
 rw [e0] at hh
 rw [ce] at hc hcl
 rw [qe, ce] at hri
 rw [fe] at f0 f1 ⊢
 rw [qe] at q0 q1 ⊢
 clear e0 fe qe ce
 obtain ⟨ha, hcp, rfl⟩ := hh.form
 obtain ⟨ca, cc, rfl⟩ := hc.form
 have hcl1 : Hid (∀ W, Ext w W → Calls Tryz.prog 81 #[.slice ha 0 hcp, .int .i64 f] W fun e w' => e = .returned (.bool true) ∧ Ext W w') := Lib.hid fun W hW => rising4_calls _ [] f W (hh.ext hW) rfl
 have hcl2 : Hid (∀ W, Ext w W → Calls Tryz.prog 81 #[.slice ca cs.length cc, .int .i64 q] W fun e w' => e = .returned (.bool true) ∧ Ext W w') := Lib.hid fun W hW => rising4_calls _ cs q W (hc.ext hW) hri
 have d1 : decide (f < 0) = false := decide_eq_false (by omega)
 have d2 : decide (1099511627776 < f) = false := decide_eq_false (by omega)
 have d3 : decide (q < 1) = false := decide_eq_false (by omega)
 have d4 : decide (1099511627776 < q) = false := decide_eq_false (by omega)
 obtain ⟨k, hk⟩ : ∃ k, Hid (cs.length = k) := ⟨_, rfl⟩
 rw [hk.out] at hcl2 hcl ⊢
 have d5 : decide (1048576 < (k : Int)) = false := decide_eq_false (by omega)
 clear hri hh hc
 go_enter Tryz.func58, Tryz.ntmps58
 go_wp2_with fail
 refine (hcl1.out _ (by with_reducible repeat' (first | exact Ext.refl _ | assumption | refine Ext.drewN ?_ _ | refine Ext.drew ?_ | refine Ext.alloc ?_ _ | refine Ext.trans ?_ (by with_reducible assumption)))).mono ?_
 rintro e w1 ⟨rfl, hx1⟩
 have hB : Hid (Blk w1 w.heap.size 107 #[.slice ha 0 hcp, .int .i64 f, .int .i64 q, .slice ca k cc]) := Lib.hid ((Keep.of_ext (X := fun _ => False) hx1).blk (blk_new' rfl rfl) id)
 have hE := Lib.hid (show Ext w w1 from Ext.trans (by exact (by with_reducible repeat' (first | exact Ext.refl _ | assumption | refine Ext.drewN ?_ _ | refine Ext.drew ?_ | refine Ext.alloc ?_ _ | refine Ext.trans ?_ (by with_reducible assumption)))) hx1)
 have c2 : w1.cell? ⟨w.heap.size, 2, none⟩ = some (.int .i64 q) := hB.out.cell 2
 have c3 : w1.cell? ⟨w.heap.size, 3, none⟩ = some (.slice ca k cc) := hB.out.cell 3
 have l0 := hB.out.lt
 clear hx1 hcl1
 go_wp2_with fail
 refine (hcl2.out _ hE.out).mono ?_
 rintro e w2 ⟨rfl, hx2⟩
 have hE2 := Lib.hid (hE.out.trans hx2)
 clear hx2 c2 c3 l0
 go_wp2
 go_ret
 exact ⟨rfl, hE2.out⟩
set_option maxHeartbeats 1600000 in
theorem per4Empty_calls (v : Value) (p : PerD) (w : World) (h : PerV w v p) (hok : PerOk0 p) :
  Calls Tryz.prog 34 #[v] w fun e w' => e = .returned (.bool (decide (p.cycle.length = 0))) ∧ Ext w w' := by
 have hv : Hid (∀ W, Ext w W → Calls Tryz.prog 58 #[v] W fun e w' => e = .returned (.bool true) ∧ Ext W w') := Lib.hid fun W hW => per4Valid_calls v p W (h.ext hW) hok
 obtain ⟨ha, ca, rfl, hh, hc⟩ := h
 obtain ⟨e0, _, _, _, _, hcl, _⟩ := hok
 rw [e0] at hh
 obtain ⟨a1, c1, rfl⟩ := hh.form
 obtain ⟨a2, c2, rfl⟩ := hc.form
 obtain ⟨k, hk⟩ : ∃ k, Hid (p.cycle.length = k) := ⟨_, rfl⟩
 obtain ⟨f, fe⟩ : ∃ f, p.from_ = f := ⟨_, rfl⟩
 obtain ⟨q, qe⟩ : ∃ q, p.period = q := ⟨_, rfl⟩
 rw [hk.out] at hv hcl ⊢
 rw [fe, qe] at hv ⊢
 rw [List.length_nil] at hv ⊢
 obtain ⟨qb, hqb⟩ : ∃ qb, Hid (decide (k = 0) = qb) := ⟨_, rfl⟩
 rw [hqb.out]
 clear hh hc e0 fe qe
 go_enter Tryz.func34, Tryz.ntmps34
 go_wp2_with fail
 refine (hv.out _ (by with_reducible repeat' (first | exact Ext.refl _ | assumption | refine Ext.drewN ?_ _ | refine Ext.drew ?_ | refine Ext.alloc ?_ _ | refine Ext.trans ?_ (by with_reducible assumption)))).mono ?_
 rintro e w1 ⟨rfl, hx1⟩
 have hB : Hid (Blk w1 w.heap.size 107 #[.slice a1 0 c1, .int .i64 f, .int .i64 q, .slice a2 k c2]) := Lib.hid ((Keep.of_ext (X := fun _ => False) hx1).blk (blk_new' rfl rfl) id)
 have hE := Lib.hid (show Ext w w1 from Ext.trans (by exact (by with_reducible repeat' (first | exact Ext.refl _ | assumption | refine Ext.drewN ?_ _ | refine Ext.drew ?_ | refine Ext.alloc ?_ _ | refine Ext.trans ?_ (by with_reducible assumption)))) hx1)
 have b0 : w1.cell? ⟨w.heap.size, 0, none⟩ = some (.slice a1 0 c1) := hB.out.cell 0
 have b3 : w1.cell? ⟨w.heap.size, 3, none⟩ = some (.slice a2 k c2) := hB.out.cell 3
 have l0 := hB.out.lt
 clear hx1 hv hk
 by_cases h0 : k = 0
 ·have R : Hid (qb = true) := Lib.hid (by rw [← hqb.out]; exact decide_eq_true h0)
  subst h0
  go_wp2
  go_ret
  rw [R.out]
  exact ⟨rfl, hE.out⟩
 ·have d0 : ((k : Int) == 0) = false := by rw [beq_eq_false_iff_ne]; omega
  have R : Hid (qb = false) := Lib.hid (by rw [← hqb.out]; exact decide_eq_false h0)
  clear h0
  go_wp2
  go_ret
  rw [R.out]
  exact ⟨rfl, hE.out⟩
end Go.Proofs.YtepcdhpikpmepaaGreat
