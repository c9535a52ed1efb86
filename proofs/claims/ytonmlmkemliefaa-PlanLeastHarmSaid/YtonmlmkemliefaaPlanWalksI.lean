/- Walks of package plan: add; slices.Clone at integers. -/
import Derived.Test.YtonmlmkemliefaaMem
import Derived.Test.YtonmlmkemliefaaPlanWalksH
namespace Go.Proofs.Ytonmlmkemliefaa
open Go.RowKit

theorem node_info : (Try.prog.info? 49).map (fun i => (i.zero, i.size, i.bytes)) = some (some (.agg #[.int .i64 0, .slice none 0 0, .int .i64 0, .int .i64 0]), 4, 48) := by kernel_rfl

theorem owns_form {w : World} {base : Nat} {e : TypeId} {size n : Nat} {v : Value} {xs : List Value} (h : w.ownsRow base e size v n xs) : ∃ A c, v = .slice A n c := by
  rcases h.2 with ⟨rfl, rfl⟩ | ⟨g, cap, cur, rfl, _⟩
  · exact ⟨_, _, rfl⟩
  · exact ⟨_, _, rfl⟩
theorem reads_last (w : World) (cs : Array Value) (t : TypeId) (size m g B : Nat) (hg : g = w.heap.size) (hB : g < B) (hs : cs.size = m * size) : Reads (w.alloc (.cells cs t)) B size (some ⟨g, 0, none⟩) m cs.toList := by
  subst hg
  refine ⟨by simpa using hs, fun _ => ⟨_, rfl, hB, fun j u hu => ?_⟩⟩
  have : (⟨w.heap.size, 0, none⟩ : Addr).add j = ⟨w.heap.size, j, none⟩ := by unfold Addr.add; split <;> simp_all
  rw [this, World.cell?_alloc_new]
  simpa using hu

set_option maxHeartbeats 1600000 in
theorem add_calls (S : Nat) (f0 f1 f2 f3 nv f5 f6 : Value) (wish clA clB : Int) (n : Nat) (xs : List Value) (base : Nat) (w : World)
    (hS : Blk w S 90 #[f0, f1, f2, f3, nv, f5, f6]) (hown : w.ownsRow base 49 4 nv n xs) (hbase : base ≤ w.heap.size) (hn : n < 65536) :
    Calls Try.prog 58 #[.pointer (some ⟨S, 0, none⟩), .agg #[.int .i64 wish, .slice none 0 0, .int .i64 clA, .int .i64 clB]] w fun e w' =>
      ∃ nv', e = .returned (.int .i64 n) ∧ Blk w' S 90 #[f0, f1, f2, f3, nv', f5, f6] ∧ w'.ownsRow base 49 4 nv' (n + 1) (xs ++ [.int .i64 wish, .slice none 0 0, .int .i64 clA, .int .i64 clB]) ∧
        Keep (fun k => k = S ∨ nv.ownBlock = some k) w w' ∧ (nv'.ownBlock = nv.ownBlock ∨ ∃ g, nv'.ownBlock = some g ∧ w.heap.size ≤ g) := by
  obtain ⟨i0, hi0, hz0, hz1, hz2⟩ := info_parts node_info
  obtain ⟨A, c, rfl⟩ := owns_form hown
  have hb : ((n : Int) == 65536) = false := by rw [beq_eq_false_iff_ne]; omega
  have c4 : w.cell? ⟨S, 4, none⟩ = some (.slice A n c) := hS.cell 4
  have fr4 : w.frozen? ⟨S, 4, none⟩ = false := hS.frozen 4
  have hlt := hS.lt
  have hne := own_blk_ne hown hS (by decide)
  have hne' := Lib.hid hne
  go_enter Try.func58, Try.ntmps58
  go_wp2_with fail
  have h1 : ∀ u ∈ [Value.int .i64 wish, .slice none 0 0, .int .i64 clA, .int .i64 clB], u.oneCell' = true := by intro u hu; simp at hu; rcases hu with rfl | rfl | rfl | rfl <;> rfl
  have h63 : n + 1 ≤ maxLen := by unfold maxLen; omega
  have hby : (n + 1) * 48 ≤ 140737488355328 := by omega
  have h1' := Lib.hid h1
  clear h1
  go_region_law (refine step_append_any _ rfl (.tmp 17) (.tmp 19) _ rfl base 49 i0 _ 4 48 Try.underlying31 hi0 hz0 hz1 hz2 rfl (by decide) (.slice A n c) n xs rfl ((hown.alloc _).alloc _) (w.heap.size + 2) (some ⟨w.heap.size + 1, 0, none⟩) 1 1 [.int .i64 wish, .slice none 0 0, .int .i64 clA, .int .i64 clB] rfl (reads_last _ #[_, _, _, _] _ 4 1 _ _ (by simp) (by omega) rfl) h1'.out h63 hby (by simp; omega) ?_; intro v' w' hown' hg hat; obtain ⟨A', c', rfl⟩ := owns_form hown'; have hS' := (((hS.alloc _).alloc _).drew).grown hg hne'.out.symm; have c4' : w'.cell? ⟨S, 4, none⟩ = some (.slice A n c) := hS'.cell 4; have fr4' : w'.frozen? ⟨S, 4, none⟩ = false := hS'.frozen 4)
  all_goals
    have hK1 : Keep (fun k => k = S ∨ Value.ownBlock (.slice A n c) = some k) w w' := ((((Keep.refl _ _).alloc _).alloc _).drew).grown hg (fun g e => Or.inl (Or.inr e))
    have hS2 := hS'.set_ 4 (.slice A' (n + 1) c')
    have own2 : (w'.setCell ⟨S, 4, none⟩ (.slice A' (n + 1) c')).ownsRow base 49 4 (.slice A' (n + 1) c') (n + 1) (xs ++ [.int .i64 wish, .slice none 0 0, .int .i64 clA, .int .i64 clB]) := by
      have hn' := own_blk_ne hown' hS' (by decide)
      exact (Keep.setCell (X := fun k => k = S) (Keep.refl _ _) (Or.inl rfl) _).owns hown' (fun g e h => hn' (by rw [e, h]))
    have hK2 : Keep (fun k => k = S ∨ Value.ownBlock (.slice A n c) = some k) w (w'.setCell ⟨S, 4, none⟩ (.slice A' (n + 1) c')) := hK1.setCell (Or.inl (Or.inl rfl)) _
    have c5 : (w'.setCell ⟨S, 4, none⟩ (.slice A' (n + 1) c')).cell? ⟨S, 4, none⟩ = some (.slice A' (n + 1) c') := hS2.cell 4
    have hat' : Hid (Value.ownBlock (.slice A' (n + 1) c') = Value.ownBlock (.slice A n c) ∨ ∃ g, Value.ownBlock (.slice A' (n + 1) c') = some g ∧ w.heap.size ≤ g) := by
      rcases hat with h | h
      · exact Or.inl h
      · exact Or.inr ⟨_, h, by simp; omega⟩
    clear hat hown' hg hS' c4' fr4' hown hS c4 fr4 hK1
    go_wp2
    go_ret
    refine ⟨_, ?_, hS2, own2, hK2, hat'.out⟩
    simp


theorem int_info : (Try.prog.info? 3).map (fun i => (i.zero, i.size, i.bytes)) = some (some (.int .i64 0), 1, 8) := by kernel_rfl
theorem Ints.reads {w : World} {a : Option Addr} {c : Nat} {l : List Int} (h : Ints w (.slice a l.length c) l) : Reads w w.heap.size 1 a l.length (l.map (Value.int .i64)) := by
  refine ⟨by simp, fun h0 => ?_⟩
  obtain ⟨_, _, e, _, _, h⟩ := h
  cases e
  obtain ⟨b, off, rfl, hb, hc⟩ := h h0
  refine ⟨_, rfl, hb, fun j u hu => ?_⟩
  have hj : j < l.length := by simpa using (List.getElem?_eq_some_iff.1 hu).1
  have := hc j hj 0 (by omega)
  have e : (⟨b, off, none⟩ : Addr).add j = ⟨b, off + j * 1 + 0, none⟩ := by unfold Addr.add; split <;> simp_all
  rw [e, this]
  simp [hj] at hu ⊢
  exact hu
theorem ints_of_owns {w : World} {base : Nat} {v : Value} {l : List Int} (h : w.ownsRow base 3 1 v l.length (l.map (Value.int .i64))) : Ints w v l := by
  rcases h.2 with ⟨rfl, h0⟩ | ⟨g, cap, cur, rfl, hb, hg, hn, hcap, hcs, htake⟩
  · exact ⟨none, 0, by rw [h0], by omega, by unfold maxLen; omega, fun hp => by omega⟩
  · refine ⟨_, _, rfl, hn, hcap, fun hp => ⟨g, 0, rfl, (Array.getElem?_eq_some_iff.1 hg).1, fun i hi j hj => ?_⟩⟩
    obtain rfl : j = 0 := by omega
    have := h.cells (g := g) rfl i (.int .i64 (l[i]?.getD 0)) (by simp [hi])
    have e : (⟨g, 0, none⟩ : Addr).add i = ⟨g, 0 + i * 1 + 0, none⟩ := by unfold Addr.add; split <;> simp_all
    rw [← e]; exact this
set_option maxHeartbeats 800000 in
set_option maxRecDepth 100000 in
theorem clone_int_calls (va : Value) (l : List Int) (w : World) (h : Ints w va l) (hl : l.length * 8 ≤ 140737488355328) :
    Calls Try.prog 59 #[va] w fun e w' => ∃ v, e = .returned v ∧ w'.ownsRow w.heap.size 3 1 v l.length (l.map (Value.int .i64)) ∧ Ext w w' := by
  obtain ⟨i0, hi0, hz0, hz1, hz2⟩ := info_parts int_info
  obtain ⟨a, c, rfl, _, _, hat⟩ := h.open
  have hr := h.reads
  have hr' := Lib.hid hr
  have hlen := h.len
  clear hr h
  cases a with
  | none =>
    obtain rfl : l = [] := by
      cases l with
      | nil => rfl
      | cons x r => obtain ⟨b, off, y, e, _⟩ := hat 0 (by simp) w (Ext.refl _); cases e
    have heq := fun (W : World) => Lib.run_eql_slice_nil (P := Try.prog) W 28 3 none 0 c 0 0 Try.underlying28
    go_enter Try.func59, Try.ntmps59
    go_wp2
    go_ret
    exact ⟨_, rfl, World.ownsRow_nil _ _ _ _, Ext.refl _⟩
  | some ad =>
    have heq := fun (W : World) => Lib.run_eql_slice_nil (P := Try.prog) W 28 3 (some ad) l.length c 0 0 Try.underlying28
    have h1 : Hid (∀ u ∈ l.map (Value.int .i64), u.oneCell' = true) := by intro u hu; simp at hu; obtain ⟨x, _, rfl⟩ := hu; rfl
    have h63 : 0 + l.length ≤ maxLen := by unfold maxLen; omega
    have hby : (0 + l.length) * 8 ≤ 140737488355328 := by omega
    clear hat
    go_enter Try.func59, Try.ntmps59
    go_wp2_with (at_builtin; refine wpList_append_any _ rfl (.tmp 5) (.tmp 6) _ rfl w.heap.size 3 i0 _ 1 8 Try.underlying28 hi0 hz0 hz1 hz2 rfl (by decide) (.slice (some ⟨w.heap.size, 0, none⟩) 0 0) 0 [] rfl (World.ownsRow_made w #[] 0 (Nat.le_refl _) (by unfold maxLen; omega) rfl) w.heap.size (some ad) l.length c (l.map (Value.int .i64)) rfl (hr'.out.alloc (Nat.le_refl _) _) h1.out h63 hby (by simp) ?_; intro v1 w1 hown1 hg1 hat1)
    go_ret
    refine ⟨v1, rfl, by simpa using hown1, ?_⟩
    have hx : Ext w w1 := ((Ext.refl w).alloc _).grown hg1 (fun k hk => by simp [Value.ownBlock] at hk; omega)
    exact hx

end Go.Proofs.Ytonmlmkemliefaa
