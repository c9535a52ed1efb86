/- Walks of the check: formed. -/
import Derived.Test.YtonmlmkemliefaaMake
import Derived.Test.YtonmlmkemliefaaBase2
import Derived.Test.YtonmlmkemliefaaSrch
namespace Go.Proofs.Ytonmlmkemliefaa
open Go.RowKit

set_option maxHeartbeats 400000 in
theorem indexFunc_int_calls (va : Value) (l : List Int) (g : Nat) (hg : ∀ (x : Array Value) (W : World), (callFunc g x).run Try.prog W = .ok (.enter g x) W) (p : Int → Bool) (w : World) (h : Ints w va l)
    (hf : ∀ s ∈ l, ∀ W, Ext w W → Calls Try.prog g #[.int .i64 s] W fun e w' => e = .returned (.bool (p s)) ∧ Ext W w') :
    Calls Try.prog 81 #[va, .func (.func g) #[] #[]] w fun e w' => e = .returned (.int .i64 (findI p l)) ∧ Ext w w' := by
  obtain ⟨a, c, rfl, hn, hc, hat⟩ := h.open
  clear h
  have hf' := Lib.hid hf
  clear hf
  go_enter Try.func81, Try.ntmps81
  go_wp2_with fail
  go_loopw [8] (fun vi wr => ∃ i : Nat, i ≤ l.length ∧ vi = .int .i64 i ∧ Ext w wr ∧ Hid (FindAt p l i)) (fun vi _ => l.length - (intOf vi).toNat)
  case atStart => exact ⟨0, by omega, rfl, Ext.refl _, FindAt.zero _ _⟩
  case round =>
    obtain ⟨i, hi, rfl, hx, hF⟩ := hrel
    by_cases h1 : i < l.length
    · obtain ⟨b1, o1, x, rfl, hb1, dx, ex, g1⟩ := hat i h1 wr hx
      have hm : x ∈ l := List.mem_of_getElem? ex.out
      have hcall := Lib.hid (hf'.out x hm wr hx)
      cases hp : p x with
      | true =>
        have R := Lib.hid (hF.out.hit ex.out hp)
        have hp' := Lib.hid hp
        clear hp
        go_wp2_with fail
        refine hcall.out.mono ?_
        rintro e w1 ⟨rfl, hx1⟩
        rw [hp'.out]
        go_wp2
        go_ret
        rw [R.out]
        exact ⟨rfl, hx.trans hx1⟩
      | false =>
        have R := Lib.hid (hF.out.miss ex.out hp)
        have hp' := Lib.hid hp
        clear hp
        go_wp2_with fail
        refine hcall.out.mono ?_
        rintro e w1 ⟨rfl, hx1⟩
        rw [hp'.out]
        go_wp2
        go_roundw
        case rel => exact ⟨i + 1, by omega, by go_num, hx.trans hx1, R⟩
        case measure => simp [intOf]; omega
    · have R := Lib.hid (hF.out.none (by omega))
      go_wp2
      go_ret
      rw [R.out]
      exact ⟨rfl, hx⟩

theorem containsFunc_int_calls (va : Value) (l : List Int) (g : Nat) (hg : ∀ (x : Array Value) (W : World), (callFunc g x).run Try.prog W = .ok (.enter g x) W) (p : Int → Bool) (w : World) (h : Ints w va l)
    (hf : ∀ s ∈ l, ∀ W, Ext w W → Calls Try.prog g #[.int .i64 s] W fun e w' => e = .returned (.bool (p s)) ∧ Ext W w') :
    Calls Try.prog 62 #[va, .func (.func g) #[] #[]] w fun e w' => e = .returned (.bool (l.any p)) ∧ Ext w w' := by
  have hc := Lib.hid (indexFunc_int_calls va l g hg p w h hf)
  have R := Lib.hid (findI_ge p l)
  clear hf h
  go_enter Try.func62, Try.ntmps62
  go_wp2_with fail
  refine hc.out.mono ?_
  rintro e w1 ⟨rfl, hx1⟩
  go_wp2
  go_ret
  rw [R.out]
  exact ⟨rfl, hx1⟩

theorem formed1_calls (x : Int) (w : World) : Calls Try.prog 63 #[.int .i64 x] w fun e w' => e = .returned (.bool (!(x == 1))) ∧ Ext w w' := by
  go_enter Try.func63, Try.ntmps63
  go_wp2
  go_ret
  exact ⟨rfl, Ext.refl _⟩

/-! ### the counts of the parents -/
def tickKids (n i : Int) : List Int → List Int → Option (List Int)
  | [], ps => some ps
  | k :: r, ps => if k ≤ i ∨ n ≤ k then none else tickKids n i r (ps.set k.toNat (ps[k.toNat]?.getD 0 + 1))
def tickAll (n : Int) : List NodeD → Int → List Int → Option (List Int)
  | [], _, ps => some ps
  | x :: r, i, ps => match tickKids n i x.kids ps with | none => none | some ps' => tickAll n r (i + 1) ps'
def tickOk : Option (List Int) → Bool
  | none => false
  | some ps => !(ps.drop 1).any (fun x => !(x == 1))
def formedB (c : List NodeD) : Bool := if c.length = 0 ∨ 65536 < c.length then false else tickOk (tickAll c.length c 0 (zerosL c.length))

end Go.Proofs.Ytonmlmkemliefaa
