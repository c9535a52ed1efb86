/- Walks of the search: grow, where the node is closed by a clash or by the bound. -/
import Derived.Test.YtonmlmkemliefaaSrch
namespace Go.Proofs.Ytonmlmkemliefaa
open Go.RowKit

/-- what the walks of grow are given -/
structure GrowIn (Z : Nat → Prop) (w0 w : World) (S Pk Rb : Nat) (tv nv fv : Value) (t : List WishD) (bound : Int) (rest pick : List Int) (nodes : List NodeD) (found : Option (List Int × Int)) (over : Int) (pre : List Int) (harm : Int) : Prop where
  zlt : ∀ g, Z g → g < w.heap.size
  srch : Srch Z w0 w S Pk Rb tv nv fv t bound rest pick nodes found over
  task : TaskIn t
  few : t.length ≤ 512
  harms : ∀ x ∈ t, ∀ o ∈ x.opts, 0 ≤ o.harm ∧ o.harm ≤ 1000000
  restAt : ∀ d, d ≤ t.length → rest[d]? = some (leastSum (t.drop d))
  restL : rest.length ≤ 513
  plen : pick.length = t.length
  preIs : pick.take pre.length = pre
  len : pre.length ≤ t.length
  opts : ∀ j, j < pre.length → (optOf t pre j).isSome
  h0 : 0 ≤ harm
  h1 : harm ≤ 1000000 * pre.length
  room : nodes.length + treeMax (t.drop pre.length) ≤ 65536

/-- what grow leaves -/
def GrowOut (Z : Nat → Prop) (w0 w : World) (S Pk Rb : Nat) (tv nv : Value) (t : List WishD) (bound : Int) (rest pick : List Int) (nodes : List NodeD) (found : Option (List Int × Int)) (over : Int) (pre : List Int) (R : Res) (e : Ending) (w' : World) : Prop :=
  ∃ nv' fv' pick', e = .returned (.int .i64 nodes.length) ∧ Srch Z w0 w' S Pk Rb tv nv' fv' t bound rest pick' (nodes ++ R.nodes) (foldFound found R.opens) (foldOver over R.ests) ∧
    pick'.length = pick.length ∧ pick'.take pre.length = pre ∧ Keep (SX S Pk nv) w w' ∧ (nv'.ownBlock = nv.ownBlock ∨ ∃ g, nv'.ownBlock = some g ∧ w.heap.size ≤ g)

theorem keep_sx {w w' : World} {S Pk : Nat} {nv : Value} (k : Keep (fun k => k = S ∨ nv.ownBlock = some k) w w') : Keep (SX S Pk nv) w w' :=
  k.mono fun i _ h => by rcases h with h | h; exact Or.inl h; exact Or.inr (Or.inr h)

theorem addS_calls {Z : Nat → Prop} {w0 w : World} {S Pk Rb : Nat} {tv nv fv : Value} {t : List WishD} {bound : Int} {rest pick : List Int} {nodes : List NodeD} {found : Option (List Int × Int)} {over : Int}
    (h : Srch Z w0 w S Pk Rb tv nv fv t bound rest pick nodes found over) (wish clA clB : Int) (hn : nodes.length < 65536) :
    Calls Try.prog 58 #[.pointer (some ⟨S, 0, none⟩), .agg #[.int .i64 wish, .slice none 0 0, .int .i64 clA, .int .i64 clB]] w fun e w' =>
      ∃ nv', e = .returned (.int .i64 nodes.length) ∧ Srch Z w0 w' S Pk Rb tv nv' fv t bound rest pick (nodes ++ [⟨wish, [], clA, clB⟩]) found over ∧ Keep (SX S Pk nv) w w' ∧ (nv'.ownBlock = nv.ownBlock ∨ ∃ g, nv'.ownBlock = some g ∧ w.heap.size ≤ g) := by
  obtain ⟨xs, o1, o2⟩ := h.owns
  refine (add_calls S _ _ _ _ nv _ _ wish clA clB nodes.length xs w0.heap.size w h.blk o1 h.ext.size hn).mono ?_
  rintro e w' ⟨nv', rfl, hb, ho, k, hat⟩
  exact ⟨nv', rfl, h.added (n := ⟨wish, [], clA, clB⟩) rfl hb o2 ho k, keep_sx k, hat⟩

set_option maxHeartbeats 1600000 in
set_option maxRecDepth 100000 in
theorem grow_clash (Z : Nat → Prop) (w0 w : World) (S Pk Rb : Nat) (tv nv fv : Value) (t : List WishD) (bound : Int) (rest pick : List Int) (nodes : List NodeD) (found : Option (List Int × Int)) (over : Int) (pre : List Int) (harm : Int)
    (H : GrowIn Z w0 w S Pk Rb tv nv fv t bound rest pick nodes found over pre harm) (hc : 0 ≤ lastClash t pre) :
    Calls Try.prog 37 #[.pointer (some ⟨S, 0, none⟩), .int .i64 pre.length, .int .i64 harm] w
      (GrowOut Z w0 w S Pk Rb tv nv t bound rest pick nodes found over pre ⟨[⟨-1, [], lastClash t pre, (pre.length : Int) - 1⟩], [], []⟩) := by
  have hpos : 0 < pre.length := by
    rcases Nat.eq_zero_or_pos pre.length with h | h
    · simp [lastClash, h] at hc
    · exact h
  have hlc : lastClash t pre = earlierI t pick (pre.length - 1) := by
    unfold lastClash
    rw [if_neg (by omega)]
    have e := earlierI_take (t := t) (pick := pick) (d := pre.length) (j := pre.length - 1) (by omega)
    rwa [H.preIs] at e
  obtain ⟨ta, tc, rfl⟩ := H.srch.wishes.form
  have hea : Hid (∀ W, Ext w W → Calls Try.prog 55 #[.agg #[.slice ta t.length tc], .slice (some ⟨Pk, 0, none⟩) pick.length pick.length, .int .i64 ((pre.length - 1 : Nat) : Int)] W fun e w' => e = .returned (.int .i64 (lastClash t pre)) ∧ Ext W w') := by
    intro W hW
    rw [hlc]
    have hs := H.srch.toExt hW
    refine earlier_calls _ _ t pick (pre.length - 1) W (hs.wishes.ext hs.ext) ?_ H.task (fun j hj => ?_)
    · refine ints_of_owns (base := 0) ⟨by simp, Or.inr ⟨Pk, pick.length, _, rfl, by omega, hs.pk, Nat.le_refl _, ?_, by simp, by rw [Nat.mul_one, ← List.length_map (f := Value.int .i64), List.take_length]⟩⟩
      have := H.few; have := H.plen; unfold maxLen; omega
    · have := H.opts j (by omega)
      rw [← H.preIs] at this
      rwa [optOf_take (by omega)] at this
  have hS := H.srch
  have c0 := After.cell (show w.cell? ⟨S, 0, none⟩ = some (.slice ta t.length tc) from hS.blk.cell 0)
  have c3 := After.cell (show w.cell? ⟨S, 3, none⟩ = some (.slice (some ⟨Pk, 0, none⟩) pick.length pick.length) from hS.blk.cell 3)
  have hd1 : (pre.length : Int) - 1 = ((pre.length - 1 : Nat) : Int) := by omega
  have hd1' := Lib.hid hd1
  have hS' := Lib.hid hS
  have hroom := H.room
  have htm := treeMax_pos (t.drop pre.length)
  have hlen := H.len
  have hfew := H.few
  have hpre := Lib.hid H.preIs
  clear H hlc hd1 hS
  go_enter Try.func37, Try.ntmps37
  go_wp2_with fail
  refine wp_region_after (by kernel_rfl) (by kernel_rfl) ?_
  repeat (go_big_quiet_step ((rw [hd1'.out]; exact After.call _ (hea.out _ (After.ext _)))))
  refine wpQuiet_nil ?_
  rintro _ ⟨y, rfl⟩
  go_wp2_with fail
  refine (addS_calls (hS'.out.toExt y.ext) (-1) (lastClash t pre) (pre.length - 1) (by omega)).mono ?_
  rintro e w2 ⟨nv', rfl, hs2, k2, hat⟩
  have hat' := Lib.hid hat
  clear hat
  go_wp2
  go_ret
  have hs := y.ext.size
  refine ⟨nv', fv, pick, rfl, hs2, rfl, hpre.out, (Keep.of_ext y.ext).trans k2, ?_⟩
  rcases hat'.out with h | ⟨g, h, hg⟩
  · exact Or.inl h
  · exact Or.inr ⟨g, h, by omega⟩

end Go.Proofs.Ytonmlmkemliefaa
