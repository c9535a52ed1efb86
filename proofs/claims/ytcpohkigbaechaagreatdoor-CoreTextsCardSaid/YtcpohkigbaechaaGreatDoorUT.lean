/- The plain law of texts: how many lines they have, and that a text tells the meetings. -/
import Derived.Test.YtcpohkigbaechaaGreatDoorUA
import Derived.Test.YtcpohkigbaechaaGreatDoorUC
namespace Go.Proofs.YtcpohkigbaechaaGreatDoor
open Go.RowKit List

theorem digit_ne {u : Nat} (h : u < 10) : UInt8.ofNat (48 + u) ≠ 10 := by
  intro e
  have := congrArg UInt8.toNat e
  simp at this
  omega
theorem dec_no (u : Nat) : ∀ b ∈ Lib.decDigits u, b ≠ 10 := by
  induction u using Nat.strongRecOn with
  | _ u ih =>
    intro b hb
    rw [Lib.decDigits] at hb
    split at hb
    · rename_i h
      rw [List.mem_singleton.1 hb]
      exact digit_ne h
    · rcases List.mem_append.1 hb with hb | hb
      · exact ih (u / 10) (by omega) b hb
      · rw [List.mem_singleton.1 hb]
        exact digit_ne (by omega)
theorem itoa_no (n : Int) : ∀ b ∈ Lib.itoa n, b ≠ 10 := by
  intro b hb
  unfold Lib.itoa at hb
  split at hb
  · rcases List.mem_cons.1 hb with rfl | hb
    · decide
    · exact dec_no _ b hb
  · exact dec_no _ b hb
def NoNl (l : List UInt8) : Prop := ∀ b ∈ l, b ≠ 10
theorem NoNl.app {a b : List UInt8} (ha : NoNl a) (hb : NoNl b) : NoNl (a ++ b) := fun x hx => (List.mem_append.1 hx).elim (ha x) (hb x)
theorem NoNl.flat {α : Type} {f : α → List UInt8} {l : List α} (h : ∀ x, NoNl (f x)) : NoNl (l.flatMap f) := fun b hb => by
  obtain ⟨x, _, hx⟩ := List.mem_flatMap.1 hb
  exact h x b hx
theorem roomT_no (o : OptD) : NoNl (roomT o) := by
  unfold roomT
  split
  · exact NoNl.app (by unfold NoNl txtRoom; decide) (itoa_no _)
  · unfold NoNl txtNoRoom; decide
theorem spanT_no (x : Int × Int) : NoNl (spanT x) :=
  (((show NoNl txtFrom by unfold NoNl txtFrom; decide).app (itoa_no _)).app (show NoNl txtTo by unfold NoNl txtTo; decide)).app (itoa_no _)
theorem optX_no (o : OptD) : NoNl (optX o) := by
  unfold optX
  split
  · exact (roomT_no o).app (by unfold NoNl txtNever; decide)
  · exact (roomT_no o).app (NoNl.flat spanT_no)
theorem peopleX_no (l : List Int) : NoNl (peopleX l) := by
  unfold peopleX
  split
  · exact fun b hb => by cases hb
  · exact NoNl.app (by unfold NoNl txtPeople; decide) (NoNl.flat fun p => NoNl.app (by unfold NoNl; decide) (itoa_no p))
theorem optsX_no (l : List OptD) : NoNl (optsX l) := by
  cases l with
  | nil => exact fun b hb => by cases hb
  | cons o r => exact (NoNl.app (by unfold NoNl txtColon; decide) (optX_no o)).app (NoNl.flat fun o => NoNl.app (by unfold NoNl txtOr; decide) (optX_no o))
def lineX (x : WishD) : List UInt8 := txtMeeting ++ Lib.itoa x.meeting ++ peopleX x.people ++ optsX x.opts
theorem lineX_no (x : WishD) : NoNl (lineX x) := ((NoNl.app (by unfold NoNl txtMeeting; decide) (itoa_no _)).app (peopleX_no _)).app (optsX_no _)
theorem wishX_line (x : WishD) : wishX x = lineX x ++ [10] := rfl
/-- how many lines -/
def nls (l : List UInt8) : Nat := l.countP fun b => b == 10
theorem nls_app (a b : List UInt8) : nls (a ++ b) = nls a + nls b := List.countP_append
theorem nls_no {l : List UInt8} (h : NoNl l) : nls l = 0 := by
  unfold nls
  rw [List.countP_eq_zero]
  intro b hb
  simpa using h b hb
theorem nls_wish (x : WishD) : nls (wishX x) = 1 := by rw [wishX_line, nls_app, nls_no (lineX_no x)]; rfl
theorem nls_flat : ∀ (s : List WishD), nls (s.flatMap wishX) = s.length
  | [] => rfl
  | x :: s => by rw [List.flatMap_cons, nls_app, nls_wish, nls_flat s, List.length_cons]; omega
theorem text_lines {t : List WishD} {l : List Int} (h : checkI t l = 0) (hl : l ≠ []) : nls (textT t l) = l.length + 1 := by
  unfold textT
  rw [if_pos h, if_neg (fun e => hl (List.length_eq_zero_iff.1 e)), nls_app, nls_flat, sub_len, show nls txtHead = 1 by decide]
  omega
theorem line_split : ∀ {a b c d : List UInt8}, NoNl a → NoNl b → a ++ 10 :: c = b ++ 10 :: d → a = b ∧ c = d
  | [], [], c, d, _, _, h => by simpa using h
  | [], x :: b, c, d, _, hb, h => by
    simp only [List.nil_append, List.cons_append, List.cons.injEq] at h
    exact absurd h.1.symm (hb x List.mem_cons_self)
  | x :: a, [], c, d, ha, _, h => by
    simp only [List.nil_append, List.cons_append, List.cons.injEq] at h
    exact absurd h.1 (ha x List.mem_cons_self)
  | x :: a, y :: b, c, d, ha, hb, h => by
    simp only [List.cons_append, List.cons.injEq] at h
    obtain ⟨h1, h2⟩ := line_split (fun z hz => ha z (List.mem_cons_of_mem _ hz)) (fun z hz => hb z (List.mem_cons_of_mem _ hz)) h.2
    exact ⟨by rw [h.1, h1], h2⟩
theorem lines_inj : ∀ {xs ys : List WishD}, xs.flatMap wishX = ys.flatMap wishX → xs.map lineX = ys.map lineX
  | [], [], _ => rfl
  | [], y :: ys, h => by
    have := congrArg nls h
    rw [nls_flat, nls_flat] at this
    simp at this
  | x :: xs, [], h => by
    have := congrArg nls h
    rw [nls_flat, nls_flat] at this
    simp at this
  | x :: xs, y :: ys, h => by
    rw [List.flatMap_cons, List.flatMap_cons, wishX_line, wishX_line, List.append_assoc, List.append_assoc] at h
    obtain ⟨h1, h2⟩ := line_split (lineX_no x) (lineX_no y) h
    rw [List.map_cons, List.map_cons, h1, lines_inj h2]
theorem map_inj {α β : Type} {f : α → β} : ∀ {a b : List α}, (∀ x ∈ a, ∀ y ∈ b, f x = f y → x = y) → a.map f = b.map f → a = b
  | [], [], _, _ => rfl
  | [], _ :: _, _, h => by simp at h
  | _ :: _, [], _, h => by simp at h
  | x :: a, y :: b, hf, h => by
    simp only [List.map_cons, List.cons.injEq] at h
    rw [hf x List.mem_cons_self y List.mem_cons_self h.1, map_inj (fun u hu v hv => hf u (List.mem_cons_of_mem _ hu) v (List.mem_cons_of_mem _ hv)) h.2]
theorem itoa_ten {i : Nat} (hi : i < 10) : Lib.itoa (10 + i) = [49, UInt8.ofNat (48 + i)] := by
  unfold Lib.itoa
  rw [if_neg (by omega), show ((10 : Int) + i).toNat = 10 + i by omega, Lib.decDigits, dif_neg (by omega), show (10 + i) / 10 = 1 by omega, show (10 + i) % 10 = i by omega, Lib.decDigits, dif_pos (by omega)]
  rfl
theorem made34From_at : ∀ {l : List RawD} {i j : Nat} {x : WishD}, (made34From i l)[j]? = some x → x.meeting = 10 + (i : Int) + j ∧ i + j < 6
  | [], _, _, _, h => by simp [made34From] at h
  | y :: r, i, j, x, h => by
    by_cases hi : i < 6
    · rw [made34From_step hi] at h
      cases j with
      | zero =>
        simp only [List.getElem?_cons_zero, Option.some.injEq] at h
        subst h
        exact ⟨by show (10 : Int) + i = _; omega, by omega⟩
      | succ j =>
        simp only [List.getElem?_cons_succ] at h
        have := made34From_at h
        omega
    · rw [made34From_stop hi] at h; simp at h
theorem line_apart {l : List RawD} {i j : Nat} (hi : i < (made34 l).length) (hj : j < (made34 l).length) (h : lineX ((made34 l)[i]?.getD default) = lineX ((made34 l)[j]?.getD default)) : i = j := by
  by_cases h0 : l.length = 0
  · have e : (made34 l).length = 1 := by
      unfold made34
      rw [if_pos h0]
      rfl
    omega
  · have e : made34 l = made34From 0 l := if_neg h0
    rw [e] at hi hj h
    rw [List.getElem?_eq_getElem hi, List.getElem?_eq_getElem hj, Option.getD_some, Option.getD_some] at h
    have m1 := made34From_at (List.getElem?_eq_getElem hi)
    have m2 := made34From_at (List.getElem?_eq_getElem hj)
    unfold lineX at h
    rw [m1.1, m2.1, show (10 : Int) + ((0 : Nat) : Int) + i = 10 + i by omega, show (10 : Int) + ((0 : Nat) : Int) + j = 10 + j by omega, itoa_ten (by omega), itoa_ten (by omega)] at h
    simp only [List.append_assoc, List.append_cancel_left_eq, List.cons_append, List.nil_append, List.cons.injEq, true_and] at h
    have := congrArg UInt8.toNat h.1
    simp at this
    omega
theorem text_same {l : List RawD} (hok : RawsOk l) {a b : List Int} (ha : a <+ upI (made34 l).length) (hb : b <+ upI (made34 l).length) (hne : a ≠ []) : textT (made34 l) a = textT (made34 l) b ↔ a = b := by
  refine ⟨fun h => ?_, fun h => by rw [h]⟩
  have hv := made34_valid hok
  unfold textT at h
  rw [if_pos (checkI_sel hv ha), if_pos (checkI_sel hv hb), if_neg (fun e => hne (List.length_eq_zero_iff.1 e))] at h
  split at h
  · simp [txtHead] at h
  · have h2 := lines_inj (List.append_cancel_left h)
    unfold subT at h2
    rw [List.map_map, List.map_map] at h2
    refine map_inj (fun x hx y hy e => ?_) h2
    obtain ⟨i, rfl, hi⟩ := idxB_nat (up_idx ha x hx)
    obtain ⟨j, rfl, hj⟩ := idxB_nat (up_idx hb y hy)
    simp only [Function.comp, Int.toNat_natCast] at e
    rw [line_apart hi hj e]
end Go.Proofs.YtcpohkigbaechaaGreatDoor
