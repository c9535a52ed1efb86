/- A map of four numbers to true, as package carry keeps it: look-up and store; the walk of quiet. -/
import Derived.Test.YtkicielleiafgaaCC
import Derived.Maps.Own
import Derived.WalkArith
import Derived.Maps.OwnOps
import Derived.WideKeyArr2
namespace Go.Proofs.Ytkicielleiafgaa
open Go.RowKit Go.WideMaps Go.Maps

abbrev FourI := Int × Int × Int × Int
def fourV (q : FourI) : Value := .agg #[.int .i64 q.1, .int .i64 q.2.1, .int .i64 q.2.2.1, .int .i64 q.2.2.2]
def Fits (q : FourI) : Prop := (Lit.int .i64 q.1).wf = true ∧ (Lit.int .i64 q.2.1).wf = true ∧ (Lit.int .i64 q.2.2.1).wf = true ∧ (Lit.int .i64 q.2.2.2).wf = true
theorem fourV_inj {a b : FourI} (h : fourV a = fourV b) : a = b := by
  obtain ⟨a1, a2, a3, a4⟩ := a
  obtain ⟨b1, b2, b3, b4⟩ := b
  simp [fourV] at h
  simp [h]
theorem four_arr : ArrKey Try.prog 142 3 4 := ⟨Try.underlying142, by kernel_rfl, by kernel_rfl, by kernel_rfl⟩
theorem four_law : KeyLaw Try.prog 142 := four_arr.law
theorem four_key {q : FourI} (h : Fits q) : ∃ l, keyOf Try.prog 142 (fourV q) = some l := by
  obtain ⟨a, b, c, d⟩ := q
  obtain ⟨h1, h2, h3, h4⟩ := h
  dsimp only at h1 h2 h3 h4
  obtain ⟨m, hm⟩ : ∃ m, Try.prog.types.size = m + 1 := ⟨Try.prog.types.size - 1, by have : 0 < Try.prog.types.size := of_decide_eq_true (by kernel_rfl); omega⟩
  have hkt := four_arr.keyType ⟨m, hm⟩
  have hc1 := four_arr.one
  have hc2 := four_arr.size
  unfold keyOf
  simp only [Try.underlying142]
  rw [if_pos (by simp [hkt, Value.formed, Try.underlying142, hc2, fourV]), hm]
  have hl : ∀ x : Int, (Lit.int .i64 x).wf = true → Program.keyLits Try.prog (m + 1) 3 [.int .i64 x] = some [.int .i64 x] := fun x hx => by
    unfold Program.keyLits
    simp [Try.underlying3, hx]
  unfold Program.keyLits
  simp [Try.underlying142, Value.cells, fourV, hc1, hc2, List.range, List.range.loop, hl, h1, h2, h3, h4]

/-- block b is a map that holds true at just the keys of S -/
def Flags (w : World) (b m : Nat) (S : FourI → Bool) : Prop :=
  ∃ es clock, w.heap[b]? = some (.map es clock) ∧ es.size ≤ m ∧ (∀ e ∈ es.toList, ∃ q, Fits q ∧ S q = true ∧ e.key = fourV q ∧ e.val = .bool true) ∧ ∀ q, Fits q → S q = true → ∃ e ∈ es.toList, e.key = fourV q
section
variable {w w' : World} {b m : Nat} {S : FourI → Bool}
theorem Flags.new (w : World) : Flags (w.alloc (.map #[] 0)) w.heap.size 0 (fun _ => false) :=
  ⟨#[], 0, (MapKept.heap_alloc w _).1, Nat.le_refl _, by simp, fun _ _ h => by cases h⟩
theorem Flags.lt (h : Flags w b m S) : b < w.heap.size := by
  obtain ⟨es, clock, hb, _⟩ := h
  exact (Array.getElem?_eq_some_iff.1 hb).1
theorem Flags.keep {X : Nat → Prop} (h : Flags w b m S) (k : Keep X w w') (hX : ¬ X b) : Flags w' b m S := by
  have hlt := h.lt
  obtain ⟨es, clock, hb, r⟩ := h
  exact ⟨es, clock, (k.block b hlt hX).trans hb, r⟩
theorem Flags.ext (h : Flags w b m S) (k : Ext w w') : Flags w' b m S := h.keep (Keep.of_ext (X := fun _ => False) k) id
theorem Flags.mono (h : Flags w b m S) {n : Nat} (hn : m ≤ n) : Flags w b n S := by
  obtain ⟨es, clock, hb, h1, r⟩ := h
  exact ⟨es, clock, hb, Nat.le_trans h1 hn, r⟩
theorem Flags.same {S' : FourI → Bool} (h : Flags w b m S) (hS : ∀ q, Fits q → S q = S' q) : Flags w b m S' := by
  obtain ⟨es, clock, hb, h1, h2, h3⟩ := h
  exact ⟨es, clock, hb, h1, fun e he => by obtain ⟨q, f, s, r⟩ := h2 e he; exact ⟨q, f, (hS q f) ▸ s, r⟩, fun q f s => h3 q f ((hS q f).symm ▸ s)⟩
theorem Flags.keys {es : Array MapEntry} (h2 : ∀ e ∈ es.toList, ∃ q, Fits q ∧ S q = true ∧ e.key = fourV q ∧ e.val = .bool true) : ∀ e ∈ es.toList, ∃ l, keyOf Try.prog 142 e.key = some l := fun e he => by
  obtain ⟨q, f, _, k, _⟩ := h2 e he
  rw [k]
  exact four_key f
theorem Flags.look (h : Flags w b m S) {q : FourI} (hq : Fits q) : (Instr.lookup 99 (.map (some b)) (fourV q) false).run Try.prog w = .ok (.bool (S q)) w := by
  obtain ⟨l, hkey⟩ := four_key hq
  obtain ⟨es, clock, hb, h1, h2, h3⟩ := h
  have ht := Try.underlying99
  rcases four_law.find w hkey es.toList (Flags.keys h2) with ⟨g1, g2⟩ | ⟨j, e0, g1, g2, g3⟩
  · have : S q = false := by
      cases hS : S q with
      | false => rfl
      | true => obtain ⟨e, he, hk⟩ := h3 q hq hS; exact absurd hk (g2 e he)
    rw [this]
    simp [Instr.lookup, run_underlying ht, MapKept.run_getObj_map hb, four_law.check w _ hkey, g1, Result.andThen]
  · obtain ⟨q', f', s', k', v'⟩ := h2 e0 (List.mem_of_getElem? g2)
    obtain rfl : q' = q := fourV_inj (k'.symm.trans g3)
    rw [s']
    simp [Instr.lookup, run_underlying ht, MapKept.run_getObj_map hb, four_law.check w _ hkey, g1, v', Result.andThen]
theorem Flags.put (h : Flags w b m S) {q : FourI} (hq : Fits q) : ∃ w', (Instr.mapUpdate 99 (.map (some b)) (fourV q) (.bool true)).run Try.prog w = .ok () w' ∧ Flags w' b (m + 1) (fun x => S x || decide (x = q)) ∧ w.grownBy w' (some b) := by
  obtain ⟨l, hkey⟩ := four_key hq
  obtain ⟨es, clock, hb, h1, h2, h3⟩ := h
  have ht := Try.underlying99
  have hgr : ∀ o, w.grownBy (ChangeMaps.setBlock w b o) (some b) := fun o => ⟨rfl, rfl, rfl, by simp [ChangeMaps.setBlock], fun i _ hi => ChangeMaps.heap_setBlock_other hb _ (fun e => hi (by rw [e]))⟩
  rcases four_law.find w hkey es.toList (Flags.keys h2) with ⟨g1, g2⟩ | ⟨j, e0, g1, g2, g3⟩
  · refine ⟨ChangeMaps.setBlock w b (.map (es.push ⟨fourV q, .bool true, clock⟩) (clock + 1)), ?_, ⟨_, _, ChangeMaps.heap_setBlock_same hb _, by simp; omega, ?_, ?_⟩, hgr _⟩
    · simp [Instr.mapUpdate, run_underlying ht, MapKept.run_getObj_map hb, four_law.check w false hkey, g1, MapKept.run_setObj_map _ hb, Result.andThen, ChangeMaps.setBlock]
    · intro e he
      simp only [Array.toList_push, List.mem_append, List.mem_singleton] at he
      rcases he with he | rfl
      · obtain ⟨q', f', s', r⟩ := h2 e he
        exact ⟨q', f', by simp [s'], r⟩
      · exact ⟨q, hq, by simp, rfl, rfl⟩
    · intro q' f' s'
      simp only [Bool.or_eq_true, decide_eq_true_eq] at s'
      simp only [Array.toList_push, List.mem_append, List.mem_singleton]
      rcases s' with s' | rfl
      · obtain ⟨e, he, k⟩ := h3 q' f' s'
        exact ⟨e, Or.inl he, k⟩
      · exact ⟨_, Or.inr rfl, rfl⟩
  · have hj : es[j]? = some e0 := by simpa using g2
    obtain ⟨q', f', s', k', v'⟩ := h2 e0 (List.mem_of_getElem? g2)
    obtain rfl : q' = q := fourV_inj (k'.symm.trans g3)
    have hlist : ∀ f : MapEntry → MapEntry, (es.modify j f).toList = es.toList.set j (f e0) := fun f => by rw [Array.toList_modify, Go.ChangeMaps.modify_eq_set _ _ _ _ g2]
    refine ⟨ChangeMaps.setBlock w b (.map (es.modify j fun e' => { e' with key := fourV q', val := .bool true }) clock), ?_, ⟨_, _, ChangeMaps.heap_setBlock_same hb _, by simp; omega, ?_, ?_⟩, hgr _⟩
    · simp [Instr.mapUpdate, run_underlying ht, MapKept.run_getObj_map hb, four_law.check w false hkey, g1, hj, g3, four_law.stays w hkey, MapKept.run_setObj_map _ hb, Result.andThen, ChangeMaps.setBlock]
    · intro e he
      rw [hlist] at he
      rcases List.mem_or_eq_of_mem_set he with he | rfl
      · obtain ⟨q2, f2, s2, r⟩ := h2 e he
        exact ⟨q2, f2, by simp [s2], r⟩
      · exact ⟨q', hq, by simp, rfl, rfl⟩
    · intro q2 f2 s2
      simp only [Bool.or_eq_true, decide_eq_true_eq] at s2
      have s3 : S q2 = true := by
        rcases s2 with s | rfl
        · exact s
        · exact s'
      obtain ⟨e, he, k⟩ := h3 q2 f2 s3
      rw [hlist]
      obtain ⟨i, hi⟩ := List.mem_iff_getElem?.1 he
      by_cases hij : j = i
      · subst hij
        rw [g2] at hi
        cases hi
        refine ⟨_, List.mem_iff_getElem?.2 ⟨j, by rw [List.getElem?_set_self (List.getElem?_eq_some_iff.1 g2).1]⟩, ?_⟩
        rw [← k, k']
      · exact ⟨e, List.mem_iff_getElem?.2 ⟨i, by rw [List.getElem?_set_ne hij]; exact hi⟩, k⟩
end

/-- the table of a task -/
def tabB (t : List WishD) (q : FourI) : Bool := clashT t q.1 q.2.1 q.2.2.1 q.2.2.2
def Tab (w : World) (b : Nat) (t : List WishD) : Prop := ∃ m, Flags w b m (tabB t)
theorem Tab.ext {w w' : World} {b : Nat} {t : List WishD} (h : Tab w b t) (k : Ext w w') : Tab w' b t := let ⟨m, h⟩ := h; ⟨m, h.ext k⟩
theorem Tab.lt {w : World} {b : Nat} {t : List WishD} (h : Tab w b t) : b < w.heap.size := let ⟨_, h⟩ := h; h.lt
theorem Tab.keep {w w' : World} {b : Nat} {t : List WishD} {X : Nat → Prop} (h : Tab w b t) (k : Keep X w w') (hX : ¬ X b) : Tab w' b t := let ⟨m, h⟩ := h; ⟨m, h.keep k hX⟩
theorem Tab.look {w : World} {b : Nat} {t : List WishD} (h : Tab w b t) {a i c k : Int} (hq : Fits (a, i, c, k)) :
    (Instr.lookup 99 (.map (some b)) (.agg #[.int .i64 a, .int .i64 i, .int .i64 c, .int .i64 k]) false).run Try.prog w = .ok (.bool (clashT t a i c k)) w := by
  obtain ⟨m, h⟩ := h
  have := h.look hq
  simp only [fourV, tabB] at this
  exact this

/-! ### quiet -/
def InRange (l : List Int) : Prop := ∀ x ∈ l, -9223372036854775808 ≤ x ∧ x ≤ 9223372036854775807
theorem InRange.at_ {l : List Int} (h : InRange l) {i : Nat} (hi : i < l.length) : (Lit.int .i64 (atI l i)).wf = true := by
  exact WalkArith.wf_i64 (h (atI l i) (List.mem_of_getElem? (get_atI hi)))
theorem wf_nat {n : Nat} (h : n ≤ 9223372036854775807) : (Lit.int .i64 (n : Int)).wf = true := WalkArith.wf_i64 ⟨by omega, by omega⟩
/-- the first k others are quiet -/
def QuietTo (t : List WishD) (st : List Int) (i k : Nat) : Prop := ∀ j, j < k → busyB t st i j = false

set_option maxHeartbeats 1600000 in
set_option maxRecDepth 100000 in
theorem quiet_calls (b : Nat) (sv : Value) (t : List WishD) (st : List Int) (i : Nat) (w : World) (hb : Tab w b t) (hs : Ints w sv st) (hr : InRange st) (hi : i < st.length) :
    Calls Try.prog 50 #[.map (some b), sv, .int .i64 i] w fun e w' => e = .returned (.bool (quietB t st i)) ∧ Ext w w' := by
  obtain ⟨sa, sc, rfl, hsn, hsc, sat⟩ := hs.open
  have hb' := Lib.hid hb
  have hr' := Lib.hid hr
  have sat' := Lib.hid sat
  clear hs hb hr sat
  go_enter Try.func50, Try.ntmps50
  go_wp2_with fail
  go_loopw [11] (fun vk wr => ∃ k : Nat, k ≤ st.length ∧ vk = .int .i64 k ∧ Hid (Ext w wr) ∧ Hid (QuietTo t st i k)) (fun vk _ => st.length - (intOf vk).toNat)
  case atStart => exact ⟨0, by omega, rfl, Lib.hid (Ext.refl _), fun j h => by omega⟩
  case round =>
    obtain ⟨k, hk, rfl, hx, hF⟩ := hrel
    by_cases h1 : k < st.length
    · obtain ⟨b1, o1, x, e1, hb1, _, ex, g0⟩ := sat'.out k h1 wr hx.out
      obtain ⟨b2, o2, y, rfl, hb2, _, ey, g1⟩ := sat'.out i hi wr hx.out
      cases e1
      have e2 : atI st k = x := atI_some ex.out
      have e3 : atI st i = y := atI_some ey.out
      obtain ⟨z, hz⟩ : ∃ z, Hid (clashT t i y k x = z) := ⟨_, rfl⟩
      have hlook := (hb'.out.ext hx.out).look (a := i) (i := y) (c := k) (k := x) ⟨wf_nat (by omega), e3 ▸ hr'.out.at_ hi, wf_nat (by omega), e2 ▸ hr'.out.at_ h1⟩
      rw [hz.out] at hlook
      have hbz : Hid (busyB t st i k = ((!(x == 0) || !(y == 0)) && z)) := by
        show _ = _
        unfold busyB
        rw [e2, e3, hz.out]
        congr 1
        by_cases q1 : x = 0 <;> by_cases q2 : y = 0 <;> simp [q1, q2]
      clear e2 e3 hz ex ey
      cases hx0 : (x == 0) with
      | true =>
        have hn0 : (x != 0) = false := by simp [bne, hx0]
        cases hy0 : (y == 0) with
        | true =>
          have hn1 : (y != 0) = false := by simp [bne, hy0]
          have R : Hid (QuietTo t st i (k + 1)) := fun j hj => by
            rcases Nat.lt_succ_iff_lt_or_eq.1 hj with h | rfl
            · exact hF.out j h
            · rw [hbz.out]; simp [hx0, hy0]
          clear hF hbz
          go_wp2
          go_roundw
          case rel => exact ⟨k + 1, by omega, by go_num, hx, R⟩
          case measure => simp [intOf]; omega
        | false =>
          have hn1 : (y != 0) = true := by simp [bne, hy0]
          cases z with
          | true =>
            have R : Hid (quietB t st i = false) := by
              show _ = _
              cases hq : quietB t st i with
              | false => rfl
              | true => have := quiet_iff.1 hq k h1; rw [hbz.out] at this; simp [hx0, hy0] at this
            clear hF hbz
            go_wp2
            go_ret
            rw [R.out]
            exact ⟨rfl, hx.out⟩
          | false =>
            have R : Hid (QuietTo t st i (k + 1)) := fun j hj => by
              rcases Nat.lt_succ_iff_lt_or_eq.1 hj with h | rfl
              · exact hF.out j h
              · rw [hbz.out]; simp [hx0, hy0]
            clear hF hbz
            go_wp2
            go_roundw
            case rel => exact ⟨k + 1, by omega, by go_num, hx, R⟩
            case measure => simp [intOf]; omega
      | false =>
        have hn0 : (x != 0) = true := by simp [bne, hx0]
        cases z with
        | true =>
          have R : Hid (quietB t st i = false) := by
            show _ = _
            cases hq : quietB t st i with
            | false => rfl
            | true => have := quiet_iff.1 hq k h1; rw [hbz.out] at this; simp [hx0] at this
          clear hF hbz
          go_wp2
          go_ret
          rw [R.out]
          exact ⟨rfl, hx.out⟩
        | false =>
          have R : Hid (QuietTo t st i (k + 1)) := fun j hj => by
            rcases Nat.lt_succ_iff_lt_or_eq.1 hj with h | rfl
            · exact hF.out j h
            · rw [hbz.out]; simp [hx0]
          clear hF hbz
          go_wp2
          go_roundw
          case rel => exact ⟨k + 1, by omega, by go_num, hx, R⟩
          case measure => simp [intOf]; omega
    · have R : Hid (quietB t st i = true) := quiet_iff.2 fun j hj => hF.out j (by omega)
      go_wp2
      go_ret
      rw [R.out]
      exact ⟨rfl, hx.out⟩
end Go.Proofs.Ytkicielleiafgaa
