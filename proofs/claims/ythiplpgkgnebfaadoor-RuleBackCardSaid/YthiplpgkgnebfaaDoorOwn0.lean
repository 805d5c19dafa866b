/- Rules that a row of the program's own memory holds. -/
import Derived.Test.YthiplpgkgnebfaaDoorKnown0
import Derived.Test.YthiplpgkgnebfaaDoorLong0
import Derived.DataElems
namespace Go.Proofs.YthiplpgkgnebfaaDoor
open Go.RowKit Go.Shelf Go.Proofs.YthiplpgkgnebfaaDoorW.PrintWords
set_option linter.unusedSimpArgs false
set_option linter.unusedVariables false

theorem rowsOf_at : ∀ {l : List RuleC} {j : Nat} {x : RuleC}, l[j]? = some x → ∀ i, i < 4 → (rowsOf l)[j * 4 + i]? = (ruleRow x)[i]?
  | a :: l, 0, x, h, i, hi => by
    simp at h; subst h
    show (ruleRow a ++ rowsOf l)[0 * 4 + i]? = _
    rw [Nat.zero_mul, Nat.zero_add, List.getElem?_append_left (by simp [ruleRow]; omega)]
  | a :: l, j + 1, x, h, i, hi => by
    have ih := rowsOf_at (l := l) (j := j) (by simpa using h) i hi
    show (ruleRow a ++ rowsOf l)[(j + 1) * 4 + i]? = _
    rw [List.getElem?_append_right (by simp [ruleRow]; omega)]
    rw [show (j + 1) * 4 + i - (ruleRow a).length = j * 4 + i by simp [ruleRow]; omega]
    exact ih
theorem RowsAt.of_cells {w : World} {ad : Addr} {l : List RuleC} (h : ∀ j u, (rowsOf l)[j]? = some u → w.cell? (ad.add j) = some u) : RowsAt w (some ad) l := fun j x hj => by
  have g0 := h (j * 4 + 0) (.int .i64 x.1) (rowsOf_at hj 0 (by decide))
  have g1 := h (j * 4 + 1) (.string x.2.1) (rowsOf_at hj 1 (by decide))
  have g2 := h (j * 4 + 2) (.string x.2.2.1) (rowsOf_at hj 2 (by decide))
  have g3 := h (j * 4 + 3) (.string x.2.2.2) (rowsOf_at hj 3 (by decide))
  refine ⟨ad, rfl, ?_, ?_, ?_, ?_⟩
  · simpa using g0
  · have e : ad.add (j * 4 + 1) = (ad.add (j * 4)).add 1 := (Addr.add_add ad _ _).symm
    rw [e] at g1; exact g1
  · have e : ad.add (j * 4 + 2) = (ad.add (j * 4)).add 2 := (Addr.add_add ad _ _).symm
    rw [e] at g2; exact g2
  · have e : ad.add (j * 4 + 3) = (ad.add (j * 4)).add 3 := (Addr.add_add ad _ _).symm
    rw [e] at g3; exact g3
theorem RowsAt.cells {w : World} {ad : Addr} {l : List RuleC} (h : RowsAt w (some ad) l) : ∀ j u, (rowsOf l)[j]? = some u → w.cell? (ad.add j) = some u := fun j u hj => by
  have hlt : j < l.length * 4 := by have := (List.getElem?_eq_some_iff.1 hj).1; rwa [rowsOf_len] at this
  have hq : j / 4 < l.length := by omega
  obtain ⟨x, hx⟩ : ∃ x, l[j / 4]? = some x := ⟨l[j / 4], List.getElem?_eq_getElem hq⟩
  obtain ⟨ad', e, g0, g1, g2, g3⟩ := h _ _ hx
  cases e
  have hr := rowsOf_at hx (j % 4) (by omega)
  have e2 : j / 4 * 4 + j % 4 = j := by omega
  rw [e2, hj] at hr
  have e3 : ad.add j = (ad.add (j / 4 * 4)).add (j % 4) := by rw [Addr.add_add, e2]
  rw [e3]
  have h4 : j % 4 < 4 := by omega
  generalize j % 4 = r at hr h4 ⊢
  match r, h4 with
  | 0, _ => rw [Addr.add]; simp [ruleRow] at hr; rw [hr]; exact g0
  | 1, _ => simp [ruleRow] at hr; rw [hr]; exact g1
  | 2, _ => simp [ruleRow] at hr; rw [hr]; exact g2
  | 3, _ => simp [ruleRow] at hr; rw [hr]; exact g3
theorem RowsAt.of_own {w : World} {B c : Nat} {A : Option Addr} {l : List RuleC} (h : w.ownsRow B 35 4 (.slice A l.length c) l.length (rowsOf l)) : RowsAt w A l := by
  rcases h.2 with ⟨hv, hn⟩ | ⟨g, cap, cur, hv, _⟩
  · have e : l = [] := List.eq_nil_of_length_eq_zero hn
    subst e
    exact fun j x hj => by simp at hj
  · cases hv
    exact RowsAt.of_cells (h.cells rfl)
/-- What a good parse hands back, as a slice of rules. -/
theorem ParseRes.rules {B : Nat} {s : List UInt8} {e : Ending} {w : World} {l : List RuleV} (h : ParseRes B s e w) (hp : parseB s = (l, 0)) :
    ∃ rl A c, l = rl.map rvOf ∧ e = .returned (.tuple #[.slice A rl.length c, .int .i64 0]) ∧ rl.length ≤ c ∧ w.ownsRow B 35 4 (.slice A rl.length c) rl.length (rowsOf rl) ∧ RowsAt w A rl := by
  obtain ⟨rl, v, h1, h2, h3⟩ := h.good hp
  obtain ⟨A, c, rfl, hc⟩ := own_shape h3
  exact ⟨rl, A, c, h1, h2, hc, h3, RowsAt.of_own h3⟩
end Go.Proofs.YthiplpgkgnebfaaDoor
