/- Arguments that came in: nodes whose rows of children are no longer than memory allows. -/
import Derived.Test.YtcpohkigbaechaaGreatDoorUH
namespace Go.Proofs.YtcpohkigbaechaaGreatDoor
open Go.ChangeShapes Go.WideShapes Go.ChangeAt Go.RowKit

/-- nodes, and how long their rows of children may be -/
def NodesK (w : World) (v : Value) (l : List NodeD) : Prop := Nodes w v l ∧ ∀ n ∈ l, n.kids.length ≤ 17592186044416
theorem cells_intK : Tryz.prog.cellsOf 3 = 1 := by kernel_rfl
theorem cells_nodeK : Tryz.prog.cellsOf 48 = 4 := by kernel_rfl
theorem cells_intsK : Tryz.prog.cellsOf 23 = 1 := by kernel_rfl
theorem bytes_intK : Tryz.prog.bytesOf 3 = 8 := by kernel_rfl
theorem weights_at {H : Type} {P : Program} {p : Nat → Bool} : ∀ {ts : List TypeId} {ds : List (DataW H)}, (DataW.weightsEach P ts ds).all p = true → ∀ (j : Nat) (t : TypeId) (d : DataW H), ts[j]? = some t → ds[j]? = some d → (DataW.weights P t d).all p = true
  | [], _, _, j, t, d, ht, _ => by simp at ht
  | _ :: _, [], _, j, t, d, _, hd => by simp at hd
  | t0 :: ts, d0 :: ds, h, j, t, d, ht, hd => by
    simp only [DataW.weightsEach, List.all_append, Bool.and_eq_true] at h
    cases j with
    | zero =>
      simp only [List.getElem?_cons_zero, Option.some.injEq] at ht hd
      subst ht
      subst hd
      exact h.1
    | succ j => exact weights_at h.2 j t d (by simpa using ht) (by simpa using hd)
theorem weightsAll_at {H : Type} {P : Program} {p : Nat → Bool} {e : TypeId} : ∀ {ds : List (DataW H)}, (DataW.weightsAll P e ds).all p = true → ∀ d ∈ ds, (DataW.weights P e d).all p = true
  | [], _, d, hd => by cases hd
  | d0 :: ds, h, d, hd => by
    simp only [DataW.weightsAll, List.all_append, Bool.and_eq_true] at h
    rcases List.mem_cons.1 hd with rfl | hd
    · exact h.1
    · exact weightsAll_at h.2 d hd
section
variable {H : Type} {P : Program} {enc : TypeId × Value → H} {w : World} {base base' : Nat} {spare : Nat → Bool} {held : Bool}
theorem slice_cellsD {t e : TypeId} {fuel : Nat} {v : Value} {x : DataW H × List MemPlace} (ht : P.underlying t = some (.slice e)) (hk : 0 < P.cellsOf e) (h : DataW.trod enc P w base spare held fuel t [v] = some x) :
    ∃ (a : Option Addr) (len cap m : Nat) (C : Nat → List Value) (D : Nat → DataW H) (rest : List (DataW H)), v = .slice a len cap ∧ len ≤ cap ∧ cap ≤ maxLen ∧
      (0 < len → ∃ b off, a = some ⟨b, off, none⟩ ∧ b < w.heap.size ∧ ∀ i, i < len → ∀ j, j < P.cellsOf e → w.cell? ⟨b, off + i * P.cellsOf e + j, none⟩ = (C i)[j]?) ∧
      (∀ i, i < len → (C i).length = P.cellsOf e ∧ ∃ pl, DataW.trod enc P w base spare held m e (C i) = some (D i, pl)) ∧ (len = 0 ∨ x.1 = .slice ((List.range len).map D) rest) := by
  rcases Go.Deep.open_slice ht h with ⟨hcs, _⟩ | ⟨a, len, cap, m, n, D, Pl, hcs, hb, hl, hm, hmm, hxx, hx⟩
  · simp at hcs
    exact ⟨none, 0, 0, 0, fun _ => [], fun _ => .nil, [], hcs, Nat.le_refl _, by unfold maxLen; omega, fun h => absurd h (by omega), fun i hi => absurd hi (by omega), Or.inl rfl⟩
  · simp at hcs
    have hlm : len ≤ m := by rw [hmm]; split <;> omega
    obtain ⟨C, hC⟩ := Go.Deep.choose_lt (n := len) (p := fun i cs' => w.cells? base (a.add (i * P.cellsOf e)) (P.cellsOf e) = some cs' ∧ DataW.trod enc P w base spare held n e cs' = some (D i, Pl i)) (fun i hi => hx i (by omega))
    refine ⟨some a, len, cap, n, C, D, _, hcs, hl, hm, fun h0 => ?_, fun i hi => ?_, Or.inr (by rw [hxx])⟩
    · obtain ⟨b, off, spot⟩ := a
      have c0 := World.cells?_some (hC 0 h0).1
      have c00 := c0.2.2 0 hk
      have hl0 : 0 < (C 0).length := by rw [c0.2.1]; exact hk
      rw [List.getElem?_eq_getElem hl0] at c00
      have hsp : spot = none := by
        have := World.cell?_spot c00
        simpa [Addr.add] using this
      subst hsp
      have hblt := World.block_lt_of_cell? _ _ c00
      refine ⟨b, off, rfl, by simpa [Addr.add] using hblt, fun i hi j hj => ?_⟩
      have ci := (World.cells?_some (hC i hi).1).2.2 j hj
      rw [Go.Deep.add_add] at ci
      have e : (⟨b, off, none⟩ : Addr).add (i * P.cellsOf e + j) = ⟨b, off + i * P.cellsOf e + j, none⟩ := by unfold Addr.add; split <;> simp_all <;> omega
      rw [← e]; exact ci
    · exact ⟨(World.cells?_some (hC i hi).1).2.1, _, (hC i hi).2⟩
end
section
variable {H : Type} {enc : TypeId × Value → H} {w : World} {base base' : Nat} {spare : Nat → Bool} {held : Bool}
set_option maxRecDepth 100000 in
theorem kids_of_cell {fuel : Nat} {v : Value} {x : DataW H × List MemPlace} (h : DataW.trod enc Tryz.prog w base spare held fuel 23 [v] = some x) (hs : (DataW.weights Tryz.prog 23 x.1).all (· ≤ reachBytes) = true) : ∃ l, Ints w v l ∧ l.length ≤ 17592186044416 := by
  obtain ⟨a, len, cap, m, C, D, rest, rfl, hl, hm, hc, hx, hd⟩ := slice_cellsD Tryz.underlying23 (by rw [cells_intK]; omega) h
  rw [cells_intK] at hc
  obtain ⟨f, hf⟩ := Go.Deep.choose_lt (n := len) (p := fun i (y : Int) => C i = [.int .i64 y]) (fun i hi => let ⟨_, y, hy⟩ := hx i hi; let ⟨n, h1, _⟩ := DataW.trod_int Tryz.underlying3 hy; ⟨n, h1⟩)
  refine ⟨(List.range len).map f, ⟨a, cap, by simp, by simpa using hl, hm, fun h0 => ?_⟩, ?_⟩
  · obtain ⟨b, off, ha, hb, hcell⟩ := hc (by simpa using h0)
    refine ⟨b, off, ha, hb, fun i hi j hj => ?_⟩
    have hi' : i < len := by simpa using hi
    obtain rfl : j = 0 := by omega
    rw [hcell i hi' 0 hj, hf i hi']
    simp [hi']
  · rw [List.length_map, List.length_range]
    rcases hd with rfl | hd
    · omega
    · rw [hd] at hs
      simp only [DataW.weights, Tryz.underlying23, bytes_intK, List.all_cons, Bool.and_eq_true, decide_eq_true_eq, List.length_map, List.length_range] at hs
      have := hs.1
      unfold reachBytes at this
      omega
set_option maxRecDepth 100000 in
theorem node_of_trodK {fuel : Nat} {cs : List Value} {x : DataW H × List MemPlace} (h : DataW.trod enc Tryz.prog w base spare held fuel 48 cs = some x) (hs : (DataW.weights Tryz.prog 48 x.1).all (· ≤ reachBytes) = true) : ∃ (n : NodeD) (kv : Value), (Ints w kv n.kids ∧ n.kids.length ≤ 17592186044416) ∧ cs = [.int .i64 n.wish, kv, .int .i64 n.clA, .int .i64 n.clB] := by
  obtain ⟨xs, n, _, hxx, hl, hn, hx⟩ := DataW.trod_struct Tryz.underlying48 h
  rw [cells_nodeK] at hl
  have hn' : xs.length = 4 := hn
  match cs, hl, xs, hn', hx, hxx with
  | [c0, c1, c2, c3], _, [x0, x1, x2, x3], _, hx, hxx =>
    have h0 : DataW.trod enc Tryz.prog w base spare held n 3 (([c0, c1, c2, c3].drop 0).take (Tryz.prog.cellsOf 3)) = some x0 := hx 0 _ rfl
    have h1 : DataW.trod enc Tryz.prog w base spare held n 23 (([c0, c1, c2, c3].drop 1).take (Tryz.prog.cellsOf 23)) = some x1 := hx 1 _ rfl
    have h2 : DataW.trod enc Tryz.prog w base spare held n 3 (([c0, c1, c2, c3].drop 2).take (Tryz.prog.cellsOf 3)) = some x2 := hx 2 _ rfl
    have h3 : DataW.trod enc Tryz.prog w base spare held n 3 (([c0, c1, c2, c3].drop 3).take (Tryz.prog.cellsOf 3)) = some x3 := hx 3 _ rfl
    simp only [cells_intK, cells_intsK, List.drop_zero, List.take_succ_cons, List.take_zero, List.drop_succ_cons] at h0 h1 h2 h3
    obtain ⟨a, ha, _, _⟩ := DataW.trod_int Tryz.underlying3 h0
    have hs1 : (DataW.weights Tryz.prog 23 x1.1).all (· ≤ reachBytes) = true := by
      rw [hxx] at hs
      simp only [DataW.weights, Tryz.underlying48] at hs
      exact weights_at hs 1 _ _ rfl rfl
    obtain ⟨l, hl⟩ := kids_of_cell h1 hs1
    obtain ⟨b, hb, _, _⟩ := DataW.trod_int Tryz.underlying3 h2
    obtain ⟨c, hc, _, _⟩ := DataW.trod_int Tryz.underlying3 h3
    simp at ha hb hc
    exact ⟨⟨a, l, b, c⟩, c1, hl, by rw [ha, hb, hc]⟩
set_option maxRecDepth 100000 in
theorem nodesK_of_trod {r : Reach} {v : Value} {d : DataW H} {ps : List MemPlace} (hv : Value.okWide Tryz.prog w r base 42 v) (h0 : DataW.Trod enc Tryz.prog w base' spare held 42 v d ps) (hs : (DataW.weights Tryz.prog 42 d).all (· ≤ reachBytes) = true) : ∃ l, NodesK w v l := by
  obtain ⟨a0, n0, c0, rfl⟩ := okWide_slice Tryz.underlying42 hv
  obtain ⟨fuel, h⟩ := h0
  obtain ⟨a, len, cap, m, C, D, rest, e, hl, hm, hc, hx, hd⟩ := slice_cellsD Tryz.underlying42 (by rw [cells_nodeK]; omega) h
  rw [cells_nodeK] at hc
  have hsD : ∀ i, i < len → (DataW.weights Tryz.prog 48 (D i)).all (· ≤ reachBytes) = true := fun i hi => by
    rcases hd with h1 | h1
    · omega
    · have hd1 : d = .slice ((List.range len).map D) rest := h1
      rw [hd1] at hs
      simp only [DataW.weights, Tryz.underlying42, List.all_cons, List.all_append, Bool.and_eq_true] at hs
      exact weightsAll_at hs.2.1 _ (List.mem_map.2 ⟨i, List.mem_range.2 hi, rfl⟩)
  obtain ⟨f, hf⟩ := Go.Deep.choose_lt (n := len) (p := fun i (y : NodeD × Value) => (Ints w y.2 y.1.kids ∧ y.1.kids.length ≤ 17592186044416) ∧ C i = [.int .i64 y.1.wish, y.2, .int .i64 y.1.clA, .int .i64 y.1.clB]) (fun i hi => let ⟨_, y, hy⟩ := hx i hi; let ⟨n, kv, h1, h2⟩ := node_of_trodK hy (hsD i hi); ⟨(n, kv), h1, h2⟩)
  refine ⟨(List.range len).map fun i => (f i).1, ⟨fun i => (f i).2, ⟨a, cap, by simpa using e, by simpa using hl, hm, fun h0 => ?_⟩, fun i hi => ?_⟩, fun n hn => ?_⟩
  · obtain ⟨b, off, ha, hb, hcell⟩ := hc (by simpa using h0)
    refine ⟨b, off, ha, hb, fun i hi j hj => ?_⟩
    have hi' : i < len := by simpa using hi
    rw [hcell i hi' j hj, (hf i hi').2]
    match j, hj with
    | 0, _ => simp [hi']
    | 1, _ => rfl
    | 2, _ => simp [hi']
    | 3, _ => simp [hi']
  · have hi' : i < len := by simpa using hi
    have h1 := hf i hi'
    simp only [List.getElem?_map, List.getElem?_range hi', Option.map_some, Option.getD_some]
    exact h1.1.1
  · obtain ⟨i, hi, rfl⟩ := List.mem_map.1 hn
    exact (hf i (List.mem_range.1 hi)).1.2
end
end Go.Proofs.YtcpohkigbaechaaGreatDoor
