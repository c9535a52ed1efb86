/- TopResettlementsStandByExpansion holds: for every list of raw stands the law answers true. -/
import Derived.Test.YtepcdhpikpmepaaGreatRows
import Derived.Test.YtepcdhpikpmepaaGreatPLQ
import Derived.ProofKit
import Derived.OpenShut
import Derived.ChangeOld
import Derived.Deep.Slices
import Derived.Test.YtepcdhpikpmepaaGreatTYQ
import Derived.Test.YtepcdhpikpmepaaGreatTZQ
/- Merged parts: Args, ArgsB. -/
/- Arguments that came in, read as plain data: slices of structs, of arrays, of integers. -/
namespace Go.Proofs.YtepcdhpikpmepaaGreat
open Go.ChangeShapes Go.WideShapes Go.ChangeAt Go.RowKit

theorem own_knob : ownKnob Tryz.prog.godebug = none := by kernel_rfl
theorem laid_out : laidOutB Tryz.prog = true := by kernel_rfl

section
variable {H : Type} {enc : TypeId × Value → H} {P : Program} {w : World} {base : Nat} {spare : Nat → Bool} {held : Bool}
theorem slice_cells {t e : TypeId} {fuel : Nat} {v : Value} {x : DataW H × List MemPlace} (ht : P.underlying t = some (.slice e)) (hk : 0 < P.cellsOf e) (h : DataW.trod enc P w base spare held fuel t [v] = some x) :
  ∃ (a : Option Addr) (len cap m : Nat) (C : Nat → List Value), v = .slice a len cap ∧ len ≤ cap ∧ cap ≤ maxLen ∧ (a = none → len = 0) ∧
   (0 < len → ∃ b off, a = some ⟨b, off, none⟩ ∧ b < w.heap.size ∧ ∀ i, i < len → ∀ j, j < P.cellsOf e → w.cell? ⟨b, off + i * P.cellsOf e + j, none⟩ = (C i)[j]?) ∧
   ∀ i, i < len → (C i).length = P.cellsOf e ∧ ∃ y, DataW.trod enc P w base spare held m e (C i) = some y := by
 rcases Go.Deep.open_slice ht h with ⟨hcs, _⟩ | ⟨a, len, cap, m, n, D, Pl, hcs, hb, hl, hm, hmm, _, hx⟩
 ·simp at hcs
  exact ⟨none, 0, 0, 0, fun _ => [], hcs, Nat.le_refl _, by unfold maxLen; omega, fun _ => rfl, fun h => absurd h (by omega), fun i hi => absurd hi (by omega)⟩
 ·simp at hcs
  have hlm : len ≤ m := by rw [hmm]; split <;> omega
  obtain ⟨C, hC⟩ := Go.Deep.choose_lt (n := len) (p := fun i cs' => w.cells? base (a.add (i * P.cellsOf e)) (P.cellsOf e) = some cs' ∧ DataW.trod enc P w base spare held n e cs' = some (D i, Pl i)) (fun i hi => hx i (by omega))
  refine ⟨some a, len, cap, n, C, hcs, hl, hm, (fun h => by cases h), fun h0 => ?_, fun i hi => ?_⟩
  ·obtain ⟨b, off, spot⟩ := a
   have c0 := World.cells?_some (hC 0 h0).1
   have c00 := c0.2.2 0 hk
   have hl0 : 0 < (C 0).length := by rw [c0.2.1]; exact hk
   rw [List.getElem?_eq_getElem hl0] at c00
   have hsp : spot = none := by
    have := World.cell?_spot c00
    simpa [Addr.add] using this
   subst hsp
   have hblt := World.block_lt_of_cell? _ _ c00
   refine ⟨b, off, rfl, by simpa [Addr.add] using hblt, fun i hi j hj => ?_⟩
   have ci := (World.cells?_some (hC i hi).1).2.2 j hj
   rw [Go.Deep.add_add] at ci
   have e : (⟨b, off, none⟩ : Addr).add (i * P.cellsOf e + j) = ⟨b, off + i * P.cellsOf e + j, none⟩ := by unfold Addr.add; split <;> simp_all <;> omega
   rw [← e]; exact ci
  ·exact ⟨(World.cells?_some (hC i hi).1).2.1, _, (hC i hi).2⟩
theorem trod_u8 {t : TypeId} {fuel : Nat} {cs : List Value} {x : DataW H × List MemPlace} (ht : P.underlying t = some (.int .u8)) (h : DataW.trod enc P w base spare held fuel t cs = some x) : ∃ n, cs = [.int .u8 n] ∧ byteB n := by
 obtain ⟨n, h1, _, h3⟩ := DataW.trod_int ht h
 refine ⟨n, h1, ?_⟩
 simpa [Lit.wf, IntKind.min, IntKind.max, IntKind.signed, IntKind.bits, byteB] using h3
end

theorem cells_u8 : Tryz.prog.cellsOf 5 = 1 := by kernel_rfl
section
variable {H : Type} {enc : TypeId × Value → H} {w : World} {base base' : Nat} {spare : Nat → Bool} {held : Bool}
end
end Go.Proofs.YtepcdhpikpmepaaGreat

/- Arguments that came in, read as plain data: slices of bytes. -/
namespace Go.Proofs.YtepcdhpikpmepaaGreat
open Go.ChangeShapes Go.WideShapes Go.ChangeAt Go.RowKit

section
variable {H : Type} {enc : TypeId × Value → H} {w : World} {base base' : Nat} {spare : Nat → Bool} {held : Bool}
set_option maxRecDepth 100000 in
theorem bytes_of_trod {r : Reach} {v : Value} {d : DataW H} {ps : List MemPlace} (hv : Value.okWide Tryz.prog w r base 55 v) (h0 : DataW.Trod enc Tryz.prog w base' spare held 55 v d ps) : ∃ l, Bytes w v l := by
 obtain ⟨a0, n0, c0, rfl⟩ := okWide_slice Tryz.underlying55 hv
 obtain ⟨fuel, h⟩ := h0
 obtain ⟨a, len, cap, m, C, e, hl, hm, _, hc, hx⟩ := slice_cells Tryz.underlying55 (by rw [cells_u8]; omega) h
 rw [cells_u8] at hc
 obtain ⟨f, hf⟩ := Go.Deep.choose_lt (n := len) (p := fun i (y : Int) => byteB y ∧ C i = [.int .u8 y]) (fun i hi => let ⟨_, y, hy⟩ := hx i hi; let ⟨n, h1, h2⟩ := trod_u8 Tryz.underlying5 hy; ⟨n, h2, h1⟩)
 refine ⟨(List.range len).map f, ⟨a, cap, by simpa using e, by simpa using hl, hm, fun h0 => ?_⟩, ?_⟩
 ·obtain ⟨b, off, ha, hb, hcell⟩ := hc (by simpa using h0)
  refine ⟨b, off, ha, hb, fun i hi j hj => ?_⟩
  have hi' : i < len := by simpa using hi
  obtain rfl : j = 0 := by omega
  rw [hcell i hi' 0 hj, (hf i hi').2]
  simp [hi']
 ·intro y hy
  rw [List.mem_map] at hy
  obtain ⟨i, hi, rfl⟩ := hy
  exact (hf i (List.mem_range.1 hi)).1
end
end Go.Proofs.YtepcdhpikpmepaaGreat

/- Arguments that came in: two and four bytes by value. -/
namespace Go.Proofs.YtepcdhpikpmepaaGreat
open Go.ChangeShapes Go.WideShapes Go.ChangeAt Go.RowKit

theorem cells_u8' : Tryz.prog.cellsOf 5 = 1 := by kernel_rfl
def Two8V (_ : World) (v : Value) (x : Int × Int) : Prop := v = .agg #[.int .u8 x.1, .int .u8 x.2] ∧ (0 ≤ x.1 ∧ x.1 ≤ 255) ∧ 0 ≤ x.2 ∧ x.2 ≤ 255
def Four8V (_ : World) (v : Value) (x : Oct) : Prop := v = .agg #[.int .u8 x.a, .int .u8 x.b, .int .u8 x.c, .int .u8 x.d] ∧ OctOk x
section
variable {H : Type} {enc : TypeId × Value → H} {w : World} {base base' : Nat} {spare : Nat → Bool} {held : Bool}
set_option maxRecDepth 100000 in
theorem bytesV_of_trod {n : Nat} {t : TypeId} (ht : Tryz.prog.underlying t = some (.array n 5)) (hc : Tryz.prog.cellsOf t = n) {r : Reach} {v : Value} {d : DataW H} {ps : List MemPlace} (hv : Value.okWide Tryz.prog w r base t v) (h0 : DataW.Trod enc Tryz.prog w base' spare held t v d ps) :
  ∃ cl : List Value, v = .agg ⟨cl⟩ ∧ cl.length = n ∧ ∀ i, i < n → ∃ k, (0 ≤ k ∧ k ≤ 255) ∧ (cl.drop i).take 1 = [.int .u8 k] := by
 simp only [Value.okWide, ht] at hv
 obtain ⟨ca, rfl, hsz, _⟩ := hv
 obtain ⟨fuel, h⟩ := h0
 obtain ⟨xs, m, _, _, hl, hn, hx⟩ := DataW.trod_array ht h
 rw [hc] at hl
 obtain ⟨cl⟩ := ca
 have e0 : (Value.agg ⟨cl⟩).cells.toList = cl := rfl
 rw [e0] at hx hl
 refine ⟨cl, rfl, hl, fun i hi => ?_⟩
 have := hx i hi
 rw [cells_u8', Nat.mul_one, List.getElem?_eq_getElem (by omega)] at this
 obtain ⟨k, h1, _, hw⟩ := DataW.trod_int Tryz.underlying5 this
 simp [Lit.wf, IntKind.min, IntKind.max, IntKind.signed, IntKind.bits] at hw
 exact ⟨k, hw, h1⟩
end
end Go.Proofs.YtepcdhpikpmepaaGreat

/- Arguments that came in: nodes whose rows of children are no longer than memory allows. -/
namespace Go.Proofs.YtepcdhpikpmepaaGreat
open Go.ChangeShapes Go.WideShapes Go.ChangeAt Go.RowKit

def NodesW (w : World) (v : Value) (l : List NodeD) : Prop := Nodes w v l ∧ ∀ n ∈ l, n.kids.length ≤ 17592186044416
theorem cells_intK : Tryz.prog.cellsOf 3 = 1 := by kernel_rfl
theorem cells_nodeK : Tryz.prog.cellsOf 123 = 4 := by kernel_rfl
theorem cells_intsK : Tryz.prog.cellsOf 31 = 1 := by kernel_rfl
theorem bytes_intK : Tryz.prog.bytesOf 3 = 8 := by kernel_rfl
theorem weights_at {H : Type} {P : Program} {p : Nat → Bool} : ∀ {ts : List TypeId} {ds : List (DataW H)}, (DataW.weightsEach P ts ds).all p = true → ∀ (j : Nat) (t : TypeId) (d : DataW H), ts[j]? = some t → ds[j]? = some d → (DataW.weights P t d).all p = true
 | [], _, _, j, t, d, ht, _ => by simp at ht
 | _ :: _, [], _, j, t, d, _, hd => by simp at hd
 | t0 :: ts, d0 :: ds, h, j, t, d, ht, hd => by
  simp only [DataW.weightsEach, List.all_append, Bool.and_eq_true] at h
  cases j with
  | zero =>
   simp only [List.getElem?_cons_zero, Option.some.injEq] at ht hd
   subst ht
   subst hd
   exact h.1
  | succ j => exact weights_at h.2 j t d (by simpa using ht) (by simpa using hd)
theorem weightsAll_at {H : Type} {P : Program} {p : Nat → Bool} {e : TypeId} : ∀ {ds : List (DataW H)}, (DataW.weightsAll P e ds).all p = true → ∀ d ∈ ds, (DataW.weights P e d).all p = true
 | [], _, d, hd => by cases hd
 | d0 :: ds, h, d, hd => by
  simp only [DataW.weightsAll, List.all_append, Bool.and_eq_true] at h
  rcases List.mem_cons.1 hd with rfl | hd
  ·exact h.1
  ·exact weightsAll_at h.2 d hd
section
variable {H : Type} {P : Program} {enc : TypeId × Value → H} {w : World} {base base' : Nat} {spare : Nat → Bool} {held : Bool}
theorem slice_cellsD {t e : TypeId} {fuel : Nat} {v : Value} {x : DataW H × List MemPlace} (ht : P.underlying t = some (.slice e)) (hk : 0 < P.cellsOf e) (h : DataW.trod enc P w base spare held fuel t [v] = some x) :
  ∃ (a : Option Addr) (len cap m : Nat) (C : Nat → List Value) (D : Nat → DataW H) (rest : List (DataW H)), v = .slice a len cap ∧ len ≤ cap ∧ cap ≤ maxLen ∧
   (0 < len → ∃ b off, a = some ⟨b, off, none⟩ ∧ b < w.heap.size ∧ ∀ i, i < len → ∀ j, j < P.cellsOf e → w.cell? ⟨b, off + i * P.cellsOf e + j, none⟩ = (C i)[j]?) ∧
   (∀ i, i < len → (C i).length = P.cellsOf e ∧ ∃ pl, DataW.trod enc P w base spare held m e (C i) = some (D i, pl)) ∧ (len = 0 ∨ x.1 = .slice ((List.range len).map D) rest) := by
 rcases Go.Deep.open_slice ht h with ⟨hcs, _⟩ | ⟨a, len, cap, m, n, D, Pl, hcs, hb, hl, hm, hmm, hxx, hx⟩
 ·simp at hcs
  exact ⟨none, 0, 0, 0, fun _ => [], fun _ => .nil, [], hcs, Nat.le_refl _, by unfold maxLen; omega, fun h => absurd h (by omega), fun i hi => absurd hi (by omega), Or.inl rfl⟩
 ·simp at hcs
  have hlm : len ≤ m := by rw [hmm]; split <;> omega
  obtain ⟨C, hC⟩ := Go.Deep.choose_lt (n := len) (p := fun i cs' => w.cells? base (a.add (i * P.cellsOf e)) (P.cellsOf e) = some cs' ∧ DataW.trod enc P w base spare held n e cs' = some (D i, Pl i)) (fun i hi => hx i (by omega))
  refine ⟨some a, len, cap, n, C, D, _, hcs, hl, hm, fun h0 => ?_, fun i hi => ?_, Or.inr (by rw [hxx])⟩
  ·obtain ⟨b, off, spot⟩ := a
   have c0 := World.cells?_some (hC 0 h0).1
   have c00 := c0.2.2 0 hk
   have hl0 : 0 < (C 0).length := by rw [c0.2.1]; exact hk
   rw [List.getElem?_eq_getElem hl0] at c00
   have hsp : spot = none := by
    have := World.cell?_spot c00
    simpa [Addr.add] using this
   subst hsp
   have hblt := World.block_lt_of_cell? _ _ c00
   refine ⟨b, off, rfl, by simpa [Addr.add] using hblt, fun i hi j hj => ?_⟩
   have ci := (World.cells?_some (hC i hi).1).2.2 j hj
   rw [Go.Deep.add_add] at ci
   have e : (⟨b, off, none⟩ : Addr).add (i * P.cellsOf e + j) = ⟨b, off + i * P.cellsOf e + j, none⟩ := by unfold Addr.add; split <;> simp_all <;> omega
   rw [← e]; exact ci
  ·exact ⟨(World.cells?_some (hC i hi).1).2.1, _, (hC i hi).2⟩
end
section
variable {H : Type} {enc : TypeId × Value → H} {w : World} {base base' : Nat} {spare : Nat → Bool} {held : Bool}
set_option maxRecDepth 100000 in
theorem kids_of_cell {fuel : Nat} {v : Value} {x : DataW H × List MemPlace} (h : DataW.trod enc Tryz.prog w base spare held fuel 31 [v] = some x) (hs : (DataW.weights Tryz.prog 31 x.1).all (· ≤ reachBytes) = true) : ∃ l, Ints w v l ∧ l.length ≤ 17592186044416 := by
 obtain ⟨a, len, cap, m, C, D, rest, rfl, hl, hm, hc, hx, hd⟩ := slice_cellsD Tryz.underlying31 (by rw [cells_intK]; omega) h
 rw [cells_intK] at hc
 obtain ⟨f, hf⟩ := Go.Deep.choose_lt (n := len) (p := fun i (y : Int) => C i = [.int .i64 y]) (fun i hi => let ⟨_, y, hy⟩ := hx i hi; let ⟨n, h1, _⟩ := DataW.trod_int Tryz.underlying3 hy; ⟨n, h1⟩)
 refine ⟨(List.range len).map f, ⟨a, cap, by simp, by simpa using hl, hm, fun h0 => ?_⟩, ?_⟩
 ·obtain ⟨b, off, ha, hb, hcell⟩ := hc (by simpa using h0)
  refine ⟨b, off, ha, hb, fun i hi j hj => ?_⟩
  have hi' : i < len := by simpa using hi
  obtain rfl : j = 0 := by omega
  rw [hcell i hi' 0 hj, hf i hi']
  simp [hi']
 ·rw [List.length_map, List.length_range]
  rcases hd with rfl | hd
  ·omega
  ·rw [hd] at hs
   simp only [DataW.weights, Tryz.underlying31, bytes_intK, List.all_cons, Bool.and_eq_true, decide_eq_true_eq, List.length_map, List.length_range] at hs
   have := hs.1
   unfold reachBytes at this
   omega
set_option maxRecDepth 100000 in
theorem node_of_trodK {fuel : Nat} {cs : List Value} {x : DataW H × List MemPlace} (h : DataW.trod enc Tryz.prog w base spare held fuel 123 cs = some x) (hs : (DataW.weights Tryz.prog 123 x.1).all (· ≤ reachBytes) = true) : ∃ (n : NodeD) (kv : Value), (Ints w kv n.kids ∧ n.kids.length ≤ 17592186044416) ∧ cs = [.int .i64 n.wish, kv, .int .i64 n.clA, .int .i64 n.clB] := by
 obtain ⟨xs, n, _, hxx, hl, hn, hx⟩ := DataW.trod_struct Tryz.underlying123 h
 rw [cells_nodeK] at hl
 have hn' : xs.length = 4 := hn
 match cs, hl, xs, hn', hx, hxx with
 | [c0, c1, c2, c3], _, [x0, x1, x2, x3], _, hx, hxx =>
  have h0 : DataW.trod enc Tryz.prog w base spare held n 3 (([c0, c1, c2, c3].drop 0).take (Tryz.prog.cellsOf 3)) = some x0 := hx 0 _ rfl
  have h1 : DataW.trod enc Tryz.prog w base spare held n 31 (([c0, c1, c2, c3].drop 1).take (Tryz.prog.cellsOf 31)) = some x1 := hx 1 _ rfl
  have h2 : DataW.trod enc Tryz.prog w base spare held n 3 (([c0, c1, c2, c3].drop 2).take (Tryz.prog.cellsOf 3)) = some x2 := hx 2 _ rfl
  have h3 : DataW.trod enc Tryz.prog w base spare held n 3 (([c0, c1, c2, c3].drop 3).take (Tryz.prog.cellsOf 3)) = some x3 := hx 3 _ rfl
  simp only [cells_intK, cells_intsK, List.drop_zero, List.take_succ_cons, List.take_zero, List.drop_succ_cons] at h0 h1 h2 h3
  obtain ⟨a, ha, _, _⟩ := DataW.trod_int Tryz.underlying3 h0
  have hs1 : (DataW.weights Tryz.prog 31 x1.1).all (· ≤ reachBytes) = true := by
   rw [hxx] at hs
   simp only [DataW.weights, Tryz.underlying123] at hs
   exact weights_at hs 1 _ _ rfl rfl
  obtain ⟨l, hl⟩ := kids_of_cell h1 hs1
  obtain ⟨b, hb, _, _⟩ := DataW.trod_int Tryz.underlying3 h2
  obtain ⟨c, hc, _, _⟩ := DataW.trod_int Tryz.underlying3 h3
  simp at ha hb hc
  exact ⟨⟨a, l, b, c⟩, c1, hl, by rw [ha, hb, hc]⟩
set_option maxRecDepth 100000 in
theorem nodesW_of_trod {r : Reach} {v : Value} {d : DataW H} {ps : List MemPlace} (hv : Value.okWide Tryz.prog w r base 34 v) (h0 : DataW.Trod enc Tryz.prog w base' spare held 34 v d ps) (hs : (DataW.weights Tryz.prog 34 d).all (· ≤ reachBytes) = true) : ∃ l, NodesW w v l := by
 obtain ⟨a0, n0, c0, rfl⟩ := okWide_slice Tryz.underlying34 hv
 obtain ⟨fuel, h⟩ := h0
 obtain ⟨a, len, cap, m, C, D, rest, e, hl, hm, hc, hx, hd⟩ := slice_cellsD Tryz.underlying34 (by rw [cells_nodeK]; omega) h
 rw [cells_nodeK] at hc
 have hsD : ∀ i, i < len → (DataW.weights Tryz.prog 123 (D i)).all (· ≤ reachBytes) = true := fun i hi => by
  rcases hd with h1 | h1
  ·omega
  ·have hd1 : d = .slice ((List.range len).map D) rest := h1
   rw [hd1] at hs
   simp only [DataW.weights, Tryz.underlying34, List.all_cons, List.all_append, Bool.and_eq_true] at hs
   exact weightsAll_at hs.2.1 _ (List.mem_map.2 ⟨i, List.mem_range.2 hi, rfl⟩)
 obtain ⟨f, hf⟩ := Go.Deep.choose_lt (n := len) (p := fun i (y : NodeD × Value) => (Ints w y.2 y.1.kids ∧ y.1.kids.length ≤ 17592186044416) ∧ C i = [.int .i64 y.1.wish, y.2, .int .i64 y.1.clA, .int .i64 y.1.clB]) (fun i hi => let ⟨_, y, hy⟩ := hx i hi; let ⟨n, kv, h1, h2⟩ := node_of_trodK hy (hsD i hi); ⟨(n, kv), h1, h2⟩)
 refine ⟨(List.range len).map fun i => (f i).1, ⟨fun i => (f i).2, ⟨a, cap, by simpa using e, by simpa using hl, hm, fun h0 => ?_⟩, fun i hi => ?_⟩, fun n hn => ?_⟩
 ·obtain ⟨b, off, ha, hb, hcell⟩ := hc (by simpa using h0)
  refine ⟨b, off, ha, hb, fun i hi j hj => ?_⟩
  have hi' : i < len := by simpa using hi
  rw [hcell i hi' j hj, (hf i hi').2]
  match j, hj with
  | 0, _ => simp [hi']
  | 1, _ => rfl
  | 2, _ => simp [hi']
  | 3, _ => simp [hi']
 ·have hi' : i < len := by simpa using hi
  have h1 := hf i hi'
  simp only [List.getElem?_map, List.getElem?_range hi', Option.map_some, Option.getD_some]
  exact h1.1.1
 ·obtain ⟨i, hi, rfl⟩ := List.mem_map.1 hn
  exact (hf i (List.mem_range.1 hi)).1.2
end
end Go.Proofs.YtepcdhpikpmepaaGreat
namespace Go.Proofs.YtepcdhpikpmepaaGreat
open Go.ChangeShapes Go.WideShapes Go.ChangeAt Go.RowKit

theorem cells_rawS : Tryz.prog.cellsOf 57 = 10 := by kernel_rfl
theorem cells_byS : Tryz.prog.cellsOf 55 = 1 := by kernel_rfl
section
variable {H : Type} {enc : TypeId × Value → H} {w : World} {base base' : Nat} {spare : Nat → Bool} {held : Bool}
set_option maxRecDepth 100000 in
theorem bytes_of_cellS {fuel : Nat} {v : Value} {x : DataW H × List MemPlace} (h : DataW.trod enc Tryz.prog w base spare held fuel 55 [v] = some x) : ∃ l, Bytes w v l := by
 obtain ⟨a, len, cap, m, C, rfl, hl, hm, _, hc, hx⟩ := slice_cells Tryz.underlying55 (by rw [cells_u8]; omega) h
 rw [cells_u8] at hc
 obtain ⟨f, hf⟩ := Go.Deep.choose_lt (n := len) (p := fun i (y : Int) => byteB y ∧ C i = [.int .u8 y]) (fun i hi => let ⟨_, y, hy⟩ := hx i hi; let ⟨n, h1, h2⟩ := trod_u8 Tryz.underlying5 hy; ⟨n, h2, h1⟩)
 refine ⟨(List.range len).map f, ⟨a, cap, by simp, by simpa using hl, hm, fun h0 => ?_⟩, ?_⟩
 ·obtain ⟨b, off, ha, hb, hcell⟩ := hc (by simpa using h0)
  refine ⟨b, off, ha, hb, fun i hi j hj => ?_⟩
  have hi' : i < len := by simpa using hi
  obtain rfl : j = 0 := by omega
  rw [hcell i hi' 0 hj, (hf i hi').2]
  simp [hi']
 ·intro y hy
  rw [List.mem_map] at hy
  obtain ⟨i, hi, rfl⟩ := hy
  exact (hf i (List.mem_range.1 hi)).1
set_option maxRecDepth 100000 in
theorem rawS_of_trod {fuel : Nat} {cs : List Value} {x : DataW H × List MemPlace} (h : DataW.trod enc Tryz.prog w base spare held fuel 57 cs = some x) :
  ∃ (y : RawS) (ev : Value), (Bytes w ev y.extra ∧ RawSOk y) ∧ cs = [.int .u8 y.meeting, .int .u8 y.room, .int .u8 y.team, .int .u8 y.size, .int .u8 y.from_, .int .u8 y.period, .int .u8 y.cycle, .int .u8 y.minute, .int .u8 y.length, ev] := by
 obtain ⟨xs, m, _, _, hl, hn, hx⟩ := DataW.trod_struct Tryz.underlying57 h
 rw [cells_rawS] at hl
 have hn' : xs.length = 10 := hn
 have hb : ∀ i, i < 9 → ∃ n, (cs.drop i).take 1 = [.int .u8 n] ∧ byteB n := by
  intro i hi
  have k : DataW.trod enc Tryz.prog w base spare held m 5 ((cs.drop i).take (Tryz.prog.cellsOf 5)) = xs[i]? := by
   obtain rfl | rfl | rfl | rfl | rfl | rfl | rfl | rfl | rfl : i = 0 ∨ i = 1 ∨ i = 2 ∨ i = 3 ∨ i = 4 ∨ i = 5 ∨ i = 6 ∨ i = 7 ∨ i = 8 := by omega
   ·exact hx 0 _ rfl
   ·exact hx 1 _ rfl
   ·exact hx 2 _ rfl
   ·exact hx 3 _ rfl
   ·exact hx 4 _ rfl
   ·exact hx 5 _ rfl
   ·exact hx 6 _ rfl
   ·exact hx 7 _ rfl
   ·exact hx 8 _ rfl
  rw [cells_u8, List.getElem?_eq_getElem (by omega)] at k
  exact trod_u8 Tryz.underlying5 k
 have he : DataW.trod enc Tryz.prog w base spare held m 55 ((cs.drop 9).take (Tryz.prog.cellsOf 55)) = xs[9]? := hx 9 _ rfl
 rw [cells_byS, List.getElem?_eq_getElem (by omega)] at he
 match cs, hl with
 | [c0, c1, c2, c3, c4, c5, c6, c7, c8, c9], _ =>
  obtain ⟨a0, h0, k0⟩ := hb 0 (by omega)
  obtain ⟨a1, h1, k1⟩ := hb 1 (by omega)
  obtain ⟨a2, h2, k2⟩ := hb 2 (by omega)
  obtain ⟨a3, h3, k3⟩ := hb 3 (by omega)
  obtain ⟨a4, h4, k4⟩ := hb 4 (by omega)
  obtain ⟨a5, h5, k5⟩ := hb 5 (by omega)
  obtain ⟨a6, h6, k6⟩ := hb 6 (by omega)
  obtain ⟨a7, h7, k7⟩ := hb 7 (by omega)
  obtain ⟨a8, h8, k8⟩ := hb 8 (by omega)
  simp only [List.drop_zero, List.take_succ_cons, List.take_zero, List.drop_succ_cons, List.cons.injEq, and_true] at h0 h1 h2 h3 h4 h5 h6 h7 h8 he
  obtain ⟨l, hlv⟩ := bytes_of_cellS he
  exact ⟨⟨a0, a1, a2, a3, a4, a5, a6, a7, a8, l⟩, c9, ⟨hlv, ⟨k0, k1, k2, k3, k4, k5, k6, k7, k8, hlv.2⟩⟩, by rw [h0, h1, h2, h3, h4, h5, h6, h7, h8]⟩
set_option maxRecDepth 100000 in
theorem rawsS_of_trod {r : Reach} {v : Value} {d : DataW H} {ps : List MemPlace} (hv : Value.okWide Tryz.prog w r base 22 v) (h0 : DataW.Trod enc Tryz.prog w base' spare held 22 v d ps) : ∃ l, RawsS w v l := by
 obtain ⟨a0, n0, c0, rfl⟩ := okWide_slice Tryz.underlying22 hv
 obtain ⟨fuel, h⟩ := h0
 obtain ⟨a, len, cap, m, C, e, hl, hm, _, hc, hx⟩ := slice_cells Tryz.underlying22 (by rw [cells_rawS]; omega) h
 rw [cells_rawS] at hc
 obtain ⟨f, hf⟩ := Go.Deep.choose_lt (n := len) (p := fun i (y : RawS × Value) => (Bytes w y.2 y.1.extra ∧ RawSOk y.1) ∧ C i = [.int .u8 y.1.meeting, .int .u8 y.1.room, .int .u8 y.1.team, .int .u8 y.1.size, .int .u8 y.1.from_, .int .u8 y.1.period, .int .u8 y.1.cycle, .int .u8 y.1.minute, .int .u8 y.1.length, y.2])
  (fun i hi => let ⟨_, y, hy⟩ := hx i hi; let ⟨o, ev, h1, h2⟩ := rawS_of_trod hy; ⟨(o, ev), h1, h2⟩)
 refine ⟨(List.range len).map fun i => (f i).1, fun i => (f i).2, ⟨a, cap, by simpa using e, by simpa using hl, hm, fun h0 => ?_⟩, fun i hi => ?_⟩
 ·obtain ⟨b, off, ha, hb, hcell⟩ := hc (by simpa using h0)
  refine ⟨b, off, ha, hb, fun i hi j hj => ?_⟩
  have hi' : i < len := by simpa using hi
  rw [hcell i hi' j hj, (hf i hi').2]
  obtain rfl | rfl | rfl | rfl | rfl | rfl | rfl | rfl | rfl | rfl : j = 0 ∨ j = 1 ∨ j = 2 ∨ j = 3 ∨ j = 4 ∨ j = 5 ∨ j = 6 ∨ j = 7 ∨ j = 8 ∨ j = 9 := by omega
  all_goals simp [hi', rawCell]
 ·have hi' : i < len := by simpa using hi
  simp only [List.getElem?_map, List.getElem?_range hi', Option.map_some, Option.getD_some]
  exact (hf i hi').1
end
end Go.Proofs.YtepcdhpikpmepaaGreat
namespace Go.Proofs.YtepcdhpikpmepaaGreat
open Go.ChangeShapes Go.WideShapes Go.ChangeAt Go.RowKit

set_option maxRecDepth 100000 in
theorem topResettlementsStandByExpansion_lifted (os : Os) (started : os.Started) (H : Type) (enc : TypeId × Value → H) :
  ReturnsInHanded {} Tryz.checked os 3 .any (Rows.topResettlementsStandByExpansionSpec.pre6 enc Tryz.prog Tryz.f3 Rows.topResettlementsStandByExpansionRow.domain false) (Rows.topResettlementsStandByExpansionSpec.post enc Tryz.prog Tryz.f3 false true false false) := by
 refine returnsInHanded_of_change (C := Tryz.checked) own_knob started (by kernel_rfl) Tryz.func3
  (ChangeSpec.witness6 (enc := enc) (C := Tryz.checked) false ⟨#[], #[.slice none 0 0], []⟩ 8 (by kernel_rfl) (by kernel_rfl) (by kernel_rfl) (by kernel_rfl)) ?_
 intro W base args ds gs before hval0 hW hcnd _
 have hval : ∀ (j : Nat) t v, Tryz.f3.params[j]? = some t → args[j]? = some v → Value.okWide Tryz.prog W .any base t v := hval0
 have hW' := hW
 obtain ⟨p, q, hA0, hV, rfl, hfz, hnd⟩ := hW
 have hA : DataW.TrodAll enc Tryz.prog W 0 (fun _ => true) true Tryz.f3.params.toList args.toList ds p := hA0
 rw [Tryz.params3] at hA hval
 obtain ⟨v0, vs0, d0, ds0, p0, q0, hargs, rfl, rfl, h0, r0⟩ := trodAll_cons hA
 obtain ⟨rfl, rfl, rfl⟩ := trodAll_nil r0
 obtain rfl : args = #[v0] := by cases args; simp_all
 obtain ⟨rfl, rfl⟩ := trodVars_none hV
 have k0 := h0
 have lt0 : ∀ x ∈ p0, x.block < W.heap.size := by obtain ⟨m, hm⟩ := k0; exact DataW.trod_lt m _ _ _ hm
 obtain ⟨l0, hl0⟩ : ∃ l, RawsS W v0 l := rawsS_of_trod (hval 0 22 v0 rfl rfl) h0
 clear hA0 hval0
 refine (topResettlementsStandByExpansion_calls v0 l0 W hl0).mono fun e W' ⟨he, bel⟩ => ?_
 subst he
 have bel' : Below W.heap.size W W' := bel
 exact ⟨_, rfl, _, _, _, [], _, [], hW', trodAll_mk1 (shut_bool Tryz.underlying4 _), (trodAll_cons_mk (Below.trod laid_out (by kernel_rfl) (of_decide_eq_true (by kernel_rfl)) k0 bel' lt0) trodAll_mk0), rfl, bel'.frame _, fun h => by cases h⟩

theorem topResettlementsStandByExpansion_holds : Rows.TopResettlementsStandByExpansionSaid :=
 OpenClaim.holds_of_wide 3 Tryz.f3 rfl rfl rfl rfl rfl rfl rfl ⟨rfl, rfl, rfl, rfl, rfl⟩ rfl rfl rfl rfl rfl (by kernel_rfl) Tryz.func3 (by kernel_rfl)
  (of_decide_eq_true (by kernel_rfl)) (by unfold Func.isWrapper; rw [if_neg (of_decide_eq_false (by kernel_rfl))]; exact ⟨rfl, rfl⟩)
  (fun os started H enc _ => topResettlementsStandByExpansion_lifted os started H enc)
end Go.Proofs.YtepcdhpikpmepaaGreat
