/- Rows of wishes and options of the call's own: their cells; one wish exchanged. -/
import Derived.Test.YtcpohkigbaechaaGreatDoorKX
import Derived.Test.YtcpohkigbaechaaGreatDoorUA
namespace Go.Proofs.YtcpohkigbaechaaGreatDoor
open Go.RowKit Go.Shelf List

theorem WishesCO.one {W : World} {B : Nat} : ∀ {l : List WishD} {xs : List Value}, WishesCO W B l xs → ∀ u ∈ xs, u.oneCell' = true
  | [], _, h => by cases h; intro u hu; cases hu
  | x :: r, _, ⟨pv, ov, ys, e, h4, h5⟩ => by
    obtain ⟨pA, pC, rfl⟩ := h4.1.read.form
    obtain ⟨oA, oC, rfl⟩ := h4.2.read.form
    rw [e]
    intro u hu
    simp only [List.mem_cons] at hu
    rcases hu with rfl | rfl | rfl | hu
    · rfl
    · rfl
    · rfl
    · exact WishesCO.one h5 u hu
theorem WishesCO.at_ {W : World} {B : Nat} : ∀ {l : List WishD} {xs : List Value}, WishesCO W B l xs → ∀ i x, l[i]? = some x → ∃ pv ov, xs[i * 3]? = some (.int .i64 x.meeting) ∧ xs[i * 3 + 1]? = some pv ∧ xs[i * 3 + 2]? = some ov ∧ IntsO W B pv x.people ∧ OptsO W B ov x.opts
  | [], _, _, i, o, h => by simp at h
  | x :: r, _, ⟨pv, ov, ys, e, h1, h2⟩, 0, o, h => by simp at h; subst h; exact ⟨pv, ov, by rw [e]; rfl, by rw [e]; rfl, by rw [e]; rfl, h1⟩
  | x :: r, _, ⟨pv, ov, ys, e, h1, h2⟩, i + 1, o, h => by
    obtain ⟨pv', ov', a, b, c, d⟩ := WishesCO.at_ h2 i o (by simpa using h)
    have e3 : ∀ j, (i + 1) * 3 + j = (i * 3 + j) + 1 + 1 + 1 := fun j => by omega
    refine ⟨pv', ov', ?_, ?_, ?_, d⟩
    · rw [e, show (i + 1) * 3 = i * 3 + 1 + 1 + 1 by omega]; exact a
    · rw [e, e3]; exact b
    · rw [e, e3]; exact c
theorem OptsCO.one {W : World} {B : Nat} : ∀ {l : List OptD} {xs : List Value}, OptsCO W B l xs → ∀ u ∈ xs, u.oneCell' = true
  | [], _, h => by cases h; intro u hu; cases hu
  | x :: r, _, ⟨sv, ys, e, h4, h5⟩ => by
    obtain ⟨pA, pC, rfl⟩ := h4.read.form
    rw [e]
    intro u hu
    simp only [List.mem_cons] at hu
    rcases hu with rfl | rfl | rfl | hu
    · rfl
    · rfl
    · rfl
    · exact OptsCO.one h5 u hu
theorem opts_of_row {W : World} {B : Nat} {v : Value} {l : List OptD} {ys : List Value} (a : W.ownsRow B 55 3 v l.length ys) (b : OptsC W l ys) : Opts W v l := by
  have hat := b.at_
  refine ⟨fun i => ys[i * 3 + 2]?.getD undef, sl_of_owns a fun i hi j hj => ?_, fun i hi => ?_⟩
  · obtain ⟨sv, c0, c1, c2, d⟩ := hat i l[i] (List.getElem?_eq_getElem hi)
    rcases j with _ | _ | _ | j
    · rw [Nat.add_zero, c0]; simp [hi]
    · rw [c1]; simp [hi]
    · rw [c2]; simp [c2]
    · omega
  · obtain ⟨sv, c0, c1, c2, d⟩ := hat i l[i] (List.getElem?_eq_getElem hi)
    simp only [c2, List.getElem?_eq_getElem hi, Option.getD_some]
    exact d
theorem WishesC.set2 {W : World} {y : WishD} {ov : Value} : ∀ {l : List WishD} {xs : List Value} {m : Nat} {x : WishD}, WishesC W l xs → l[m]? = some x → y.meeting = x.meeting → y.people = x.people → Opts W ov y.opts →
    WishesC W (l.set m y) (xs.set (m * 3 + 2) ov)
  | [], _, _, _, _, hm, _, _, _ => by simp at hm
  | x :: r, _, 0, x', ⟨pv', ov', ys, e, h1, h2⟩, hm, e1, e2, ho => by
    simp only [List.getElem?_cons_zero, Option.some.injEq] at hm
    subst hm
    rw [e]
    refine ⟨pv', ov, ys, ?_, ⟨by rw [e2]; exact h1.1, ho⟩, h2⟩
    rw [e1]
    rfl
  | x :: r, _, m + 1, x', ⟨pv', ov', ys, e, h1, h2⟩, hm, e1, e2, ho => by
    have ih := WishesC.set2 (m := m) h2 (by simpa using hm) e1 e2 ho
    refine ⟨pv', ov', _, ?_, h1, ih⟩
    rw [e, show (m + 1) * 3 + 2 = (m * 3 + 2) + 1 + 1 + 1 by omega]
    rfl
/-- what is known of a row of options that was copied -/
def CopyCon (q n base : Nat) (ys : List Value) (k : Nat) (v : Value) (W : World) : Prop := k = q → ∃ g c, v = .slice (some ⟨g, 0, none⟩) n c ∧ W.ownsRow base 55 3 v n ys
theorem CopyCon.ext {q n base : Nat} {ys : List Value} {k : Nat} {v : Value} {W W' : World} (e : Ext W W') (h : CopyCon q n base ys k v W) : CopyCon q n base ys k v W' := fun hk =>
  let ⟨g, c, a, b⟩ := h hk
  ⟨g, c, a, owns_ext b e⟩
/-- options appended to an empty literal: a copy -/
theorem run_copy_opts {W : World} {o : Oper} {a : Act} (s x : Operand) (ho : o.op = .call { callee := .builtin .append, args := #[s, x], argTypes := #[50, 50] })
    (gq : Nat) (hs : a.eval s = .slice (some ⟨gq, 0, none⟩) 0 0) (bo oo n c : Nat) (ys : List Value) (hx : a.eval x = .slice (some ⟨bo, oo, none⟩) n c) (hn : 0 < n) (hn2 : n ≤ 1000) (hlen : ys.length = n * 3)
    (hc : ∀ j u, ys[j]? = some u → W.cell? ((⟨bo, oo, none⟩ : Addr).add j) = some u) (hone : ∀ u ∈ ys, u.oneCell' = true) (q base : Nat) (hb : base ≤ W.heap.size) :
    ∃ v W', (execOp a.eval o).run Tryz.prog W = .ok (.value v) W' ∧ Ext W W' ∧ CopyCon q n base ys q v W' := by
  obtain ⟨k0, hk0, kz0, kz1, kz2⟩ := info_parts option_info
  obtain ⟨v', V', e1, e2, e3⟩ := run_append_full (P := Tryz.prog) (w := W) (o := o) (a := a) s x 50 ho 55 k0 _ 3 40 Tryz.underlying50 hk0 kz0 kz1 kz2 rfl (by decide) (some ⟨gq, 0, none⟩) 0 0 [] hs (fun h => by cases h) rfl (fun b hb j u h => by simp at h) ⟨bo, oo, none⟩ n c ys hx hlen hc hone (by omega) (by unfold maxLen; omega) (by omega)
  rw [Nat.zero_add, List.nil_append] at e2
  obtain ⟨g, c', rfl⟩ := owns_pos e2 hn
  exact ⟨_, V', e1, (Ext.refl W).grown e3 (by intro q hq; cases hq), fun _ => ⟨g, c', rfl, owns_base e2 hb⟩⟩
end Go.Proofs.YtcpohkigbaechaaGreatDoor
