/- quilterlaw11.known: it answers true. -/
import Derived.Test.YthiplpgkgnebfaaDoorParse1
import Derived.Test.YthiplpgkgnebfaaDoorPrint0
namespace Go.Proofs.YthiplpgkgnebfaaDoor
open Go.RowKit Go.Shelf Go.Proofs.YthiplpgkgnebfaaDoorW.PrintWords
set_option linter.unusedSimpArgs false
set_option linter.unusedVariables false

/-- A text that is parsed well: its rules lie there. -/
theorem ParseRes.good {B : Nat} {s : List UInt8} {e : Ending} {w : World} {l : List RuleV} (h : ParseRes B s e w) (hp : parseB s = (l, 0)) :
    ∃ rl v, l = rl.map rvOf ∧ e = .returned (.tuple #[v, .int .i64 0]) ∧ w.ownsRow B 35 4 v rl.length (rowsOf rl) := by
  rcases h with ⟨rl, v, h1, h2, h3⟩ | ⟨k, hk, h1, h2⟩
  · rw [hp] at h1; exact ⟨rl, v, by injection h1, h2, h3⟩
  · rw [hp] at h1; injection h1 with _ h1; exact absurd h1.symm hk
theorem ParseRes.bad {B : Nat} {s : List UInt8} {e : Ending} {w : World} {l : List RuleV} {k : Int} (h : ParseRes B s e w) (hp : parseB s = (l, k)) (hk : k ≠ 0) :
    e = .returned (.tuple #[.slice none 0 0, .int .i64 k]) := by
  rcases h with ⟨rl, v, h1, h2, h3⟩ | ⟨k', hk', h1, h2⟩
  · rw [hp] at h1; injection h1 with _ h1; exact absurd h1 hk
  · rw [hp] at h1; injection h1 with _ h1; rw [h2, h1]
theorem own_shape {w : World} {B n k : Nat} {t : TypeId} {v : Value} {xs : List Value} (h : w.ownsRow B t k v n xs) : ∃ A c, v = .slice A n c ∧ n ≤ c := by
  rcases h.2 with ⟨hv, hn⟩ | ⟨g, cap, cur, hv, _, _, hc, _⟩
  · exact ⟨none, 0, by rw [hv, hn], by omega⟩
  · exact ⟨_, cap, hv, hc⟩

set_option maxRecDepth 100000 in
set_option maxHeartbeats 1000000 in
theorem known_calls (m : Int) (w : World) (hM : w.cell? ⟨2, 0, none⟩ = some (.int .i64 m)) (hE : ErrAt w) :
    Calls Tryd.prog 11 #[] w fun e w' => e = .returned (.bool true) ∧ Below w.heap.size w w' := by
  have hRow : RowsAt (w.alloc (.cells #[.int .i64 1, .string ⟨#[42, 42]⟩, .string ⟨#[97]⟩, .string ⟨#[98]⟩] 35)) (some ⟨w.heap.size, 0, none⟩) [(1, ⟨#[42, 42]⟩, ⟨#[97]⟩, ⟨#[98]⟩)] := by
    intro j x hj
    match j, hj with
    | 0, hj =>
      simp at hj; subst hj
      exact ⟨_, rfl, cell_new w _ _ 0 _ rfl, cell_new w _ _ 1 _ rfl, cell_new w _ _ 2 _ rfl, cell_new w _ _ 3 _ rfl⟩
  have hP : Calls Tryd.prog 22 #[.slice (some ⟨w.heap.size, 0, none⟩) 1 1] (w.alloc (.cells #[.int .i64 1, .string ⟨#[42, 42]⟩, .string ⟨#[97]⟩, .string ⟨#[98]⟩] 35)) fun e w' =>
      e = .returned (.tuple #[.string ⟨#[114, 101, 112, 108, 97, 99, 101, 32, 42, 42, 32, 97, 32, 98, 10]⟩, .int .i64 0]) ∧ Below (w.heap.size + 1) (w.alloc (.cells #[.int .i64 1, .string ⟨#[42, 42]⟩, .string ⟨#[97]⟩, .string ⟨#[98]⟩] 35)) w' := by
    refine (print_calls [(1, ⟨#[42, 42]⟩, ⟨#[97]⟩, ⟨#[98]⟩)] (some ⟨w.heap.size, 0, none⟩) 1 m _ hRow (cell_old _ hM) (by decide)).mono ?_
    rintro e w' ⟨⟨r, he, hr⟩, hb⟩
    have hk := known_print
    have e1 : printB ([((1 : Int), (⟨#[42, 42]⟩ : ByteArray), (⟨#[97]⟩ : ByteArray), (⟨#[98]⟩ : ByteArray))].map rvOf) = ([114, 101, 112, 108, 97, 99, 101, 32, 42, 42, 32, 97, 32, 98, 10], 0) := known_print
    rw [e1] at he hr
    have e2 : r = ⟨#[114, 101, 112, 108, 97, 99, 101, 32, 42, 42, 32, 97, 32, 98, 10]⟩ := bs_inj hr
    rw [World.size_alloc] at hb
    exact ⟨by rw [he, e2], hb⟩
  go_enter Tryd.func11, Tryd.ntmps11
  go_wp2_with (first | (go_at_call 22; (with_reducible refine hP.mono ?_); rintro e w1 ⟨rfl, hb1⟩))
  have hm1 := pw_cell (hb1.mono (by simp) : Below (w.alloc (.cells #[.int .i64 1, .string ⟨#[42, 42]⟩, .string ⟨#[97]⟩, .string ⟨#[98]⟩] 35)).heap.size _ w1) (cell_old _ hM)
  have hbw : Below w.heap.size w w1 := ((Below.refl _ w).alloc (Nat.le_refl _) _).trans (hb1.mono (by omega))
  have hE1 := hE.below hbw
  with_reducible refine (parse_calls ⟨#[114, 101, 112, 108, 97, 99, 101, 32, 42, 42, 32, 97, 32, 98, 10]⟩ m _ hm1 hE1 (by decide)).mono ?_
  rintro e w2 ⟨hr, hb2⟩
  obtain ⟨rl, v, hl, rfl, ho⟩ := hr.good (l := [⟨1, [42, 42], [97], [98]⟩]) known_parse
  obtain ⟨⟨k0, g0, o0, n0⟩, rfl⟩ : ∃ x, rl = [x] := by
    have h1 : rl.length = 1 := by have := congrArg List.length hl; simpa using this.symm
    exact List.length_eq_one_iff.1 h1
  have hn0 : n0 = ⟨#[98]⟩ := bs_inj (by simp [rvOf, rv] at hl; exact hl.2.2.2.symm)
  subst hn0
  obtain ⟨gb, cp, rfl, hcp⟩ : ∃ gb cp, v = .slice (some ⟨gb, 0, none⟩) 1 cp ∧ 1 ≤ cp := by
    rcases ho.2 with ⟨hv, hn⟩ | ⟨g', cap, cur, hv, _, _, hc, _⟩
    · simp at hn
    · exact ⟨g', cap, hv, hc⟩
  have hc3 : w2.cell? ⟨gb, 3, none⟩ = some (.string ⟨#[98]⟩) := ho.cells rfl 3 (.string ⟨#[98]⟩) rfl
  have hm2 := pw_cell hb2 hm1
  have hE2 := hE1.below hb2
  have hbw2 := hbw.trans (hb2.mono hbw.size)
  clear hr ho hl hb1 hb2
  go_wp2_with fail
  with_reducible refine (parse_calls ⟨#[114, 101, 112, 108, 97, 99, 101, 32, 42, 42, 32, 97, 45, 98, 32, 99]⟩ m _ hm2 hE2 (by decide)).mono ?_
  rintro e w3 ⟨hr, hb3⟩
  obtain rfl := hr.bad (l := []) (k := 11) known_wrong (by decide)
  have hc4 := pw_cell hb3 hc3
  have hbw3 := hbw2.trans (hb3.mono hbw2.size)
  clear hr hc3
  go_wp2
  go_ret
  exact ⟨rfl, hbw3⟩
end Go.Proofs.YthiplpgkgnebfaaDoor
