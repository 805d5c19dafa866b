/- rule.short, rule.Right: what they answer. -/
import Derived.Test.YthiplpgkgnebfaaDoorGlob0
namespace Go.Proofs.YthiplpgkgnebfaaDoor
open Go.RowKit Go.Shelf Go.Proofs.YthiplpgkgnebfaaDoorW.PrintWords
set_option linter.unusedSimpArgs false
set_option linter.unusedVariables false

set_option maxRecDepth 100000 in
set_option maxHeartbeats 1000000 in
theorem short_calls (b : Nat) (o n : ByteArray) (w : World) (h0 : w.cell? ⟨b, 0, none⟩ = some (.string o)) (h1 : w.cell? ⟨b, 1, none⟩ = some (.string n)) :
    Calls Tryd.prog 44 #[.slice (some ⟨b, 0, none⟩) 2 2] w fun e w' => e = .returned (.bool (decide ((o.size : Int) ≤ 100) && decide ((n.size : Int) ≤ 100))) ∧ w' = w := by
  go_enter Tryd.func44, Tryd.ntmps44
  go_wp2
  go_loop [7] (fun i => ∃ k : Nat, k ≤ 2 ∧ i = .int .i64 k ∧ Aside0 (0 < k → (o.size : Int) ≤ 100) ∧ Aside0 (1 < k → (n.size : Int) ≤ 100)) (fun i => 2 - (intOf i).toNat)
  case atStart => exact ⟨0, Nat.zero_le _, rfl, ⟨by omega⟩, ⟨by omega⟩⟩
  case round =>
    obtain ⟨k, hk, rfl, HA, HB⟩ := hrel
    rcases Nat.lt_or_ge k 2 with hlt | hge
    · rcases Nat.lt_or_ge k 1 with hlt | hge
      · obtain rfl : k = 0 := by omega
        by_cases hc : (o.size : Int) ≤ 100
        · go_wp2
          go_round
          case rel => exact ⟨1, by omega, by go_num, ⟨fun _ => hc⟩, ⟨by omega⟩⟩
          case measure => simp [intOf]
        · go_wp2
          go_ret
          exact ⟨ret_bool (by rw [decide_eq_false (show ¬ (o.size : Int) ≤ 100 by omega)]; rfl), rfl⟩
      · obtain rfl : k = 1 := by omega
        have ho := HA.out (by omega)
        by_cases hc : (n.size : Int) ≤ 100
        · go_wp2
          go_round
          case rel => exact ⟨2, by omega, by go_num, ⟨fun _ => ho⟩, ⟨fun _ => hc⟩⟩
          case measure => simp [intOf]
        · go_wp2
          go_ret
          exact ⟨ret_bool (by first | rfl | rw [decide_eq_false (show ¬ (n.size : Int) ≤ 100 by omega)]), rfl⟩
    · obtain rfl : k = 2 := by omega
      have ho := HA.out (by omega)
      have hn := HB.out (by omega)
      go_wp2
      go_ret
      exact ⟨ret_bool (by first | rfl | (rw [decide_eq_true ho, decide_eq_true hn]; rfl)), rfl⟩

/-- A rule's value. -/
def rv (k : Int) (g o n : ByteArray) : RuleV := ⟨k, bs g, bs o, bs n⟩
theorem byte_contains (l : List UInt8) (c : UInt8) : decide (0 ≤ Lib.indexByte l c) = l.contains c := by
  induction l with
  | nil => rfl
  | cons b l ih =>
    unfold Lib.indexByte
    by_cases h : b = c
    · subst h; simp
    · have h2 : (b == c) = false := by simpa using h
      simp only [List.contains_cons]
      rw [← ih]
      have h3 : (c == b) = false := by rw [beq_eq_false_iff_ne]; exact fun e => h e.symm
      rw [h3]
      simp only [h2, Bool.false_or, Bool.false_eq_true, if_false]
      have hge : -1 ≤ Lib.indexByte l c := by have := Lib.index_ge l [c]; rwa [Lib.index_one] at this
      by_cases h4 : Lib.indexByte l c = -1
      · simp [h4]
      · have e1 : (0 ≤ Lib.indexByte l c + 1) = (0 ≤ Lib.indexByte l c) := propext ⟨fun _ => by omega, fun _ => by omega⟩
        simp [h4, e1]
theorem bs_app (a b : ByteArray) : bs (a ++ b) = bs a ++ bs b := by simp [bs, ByteArray.data_append]

set_option maxRecDepth 100000 in
set_option maxHeartbeats 4000000 in
theorem rright_ren (g o n : ByteArray) (m : Int) (w : World) (hm : w.cell? ⟨2, 0, none⟩ = some (.int .i64 m)) (hg : g.size < 4294967281) (ho : o.size < 4294967281) (hn : n.size < 4294967281) (hO : o.size ≤ 9223372036854775807)
    (HG : Aside0 (globB (bs g) = true)) (HS : Aside0 ((decide ((o.size : Int) ≤ 100) && decide ((n.size : Int) ≤ 100)) = true)) (HR : Aside0 (rightB (rv 4 g o n) = (pathRight (bs o) && pathRight (bs n)))) :
    Calls Tryd.prog 24 #[.agg #[.int .i64 4, .string g, .string o, .string n]] w fun e w' => e = .returned (.bool (rightB (rv 4 g o n))) ∧ Below w.heap.size w w' := by
  cases hp : pathRight (bs o) with
  | false =>
    have HP := Lib.hid hp
    clear hp
    go_enter Tryd.func24, Tryd.ntmps24
    go_wp2_with (first | (go_at_call 43; refine (glob_calls g _ m (cell_old _ hm) hg).mono ?_; rintro e w' ⟨rfl, hb⟩; rw [HG.out]; have c0 := pw_cell hb (cell_new _ _ _ 0 _ rfl); have c1 := pw_cell hb (cell_new _ _ _ 1 _ rfl); have c2 := pw_cell hb (cell_new _ _ _ 2 _ rfl); have c3 := pw_cell hb (cell_new _ _ _ 3 _ rfl); have hbw : Below w.heap.size w w' := ((Below.refl _ w).alloc (Nat.le_refl _) _).trans (hb.mono (by simp)); have hsz := hb.size; rw [World.size_alloc] at hsz) | (go_at_call 44; refine (short_calls _ o n _ (cell_new _ _ _ 0 _ rfl) (cell_new _ _ _ 1 _ rfl)).mono ?_; rintro e w2 ⟨rfl, rfl⟩; rw [HS.out]; have d0 := cell_old (.cells #[.string o, .string n] 9) c0; have d1 := cell_old (.cells #[.string o, .string n] 9) c1; have d2 := cell_old (.cells #[.string o, .string n] 9) c2; have d3 := cell_old (.cells #[.string o, .string n] 9) c3; have hbs : Below w.heap.size w (w'.alloc (.cells #[.string o, .string n] 9)) := hbw.alloc (by omega) _; have hb2 : w.heap.size + 1 ≤ (w'.alloc (.cells #[.string o, .string n] 9)).heap.size := by rw [World.size_alloc]; omega))
    refine (right_calls o _ (by omega)).mono ?_
    rintro e w3 ⟨rfl, hb3⟩
    rw [HP.out]
    go_wp2_with fail
    go_ret
    exact ⟨ret_bool (by rw [HR.out, HP.out]; rfl), hbs.trans (hb3.mono (by omega))⟩
  | true =>
    have HP := Lib.hid hp
    clear hp
    go_enter Tryd.func24, Tryd.ntmps24
    go_wp2_with (first | (go_at_call 43; refine (glob_calls g _ m (cell_old _ hm) hg).mono ?_; rintro e w' ⟨rfl, hb⟩; rw [HG.out]; have c0 := pw_cell hb (cell_new _ _ _ 0 _ rfl); have c1 := pw_cell hb (cell_new _ _ _ 1 _ rfl); have c2 := pw_cell hb (cell_new _ _ _ 2 _ rfl); have c3 := pw_cell hb (cell_new _ _ _ 3 _ rfl); have hbw : Below w.heap.size w w' := ((Below.refl _ w).alloc (Nat.le_refl _) _).trans (hb.mono (by simp)); have hsz := hb.size; rw [World.size_alloc] at hsz) | (go_at_call 44; refine (short_calls _ o n _ (cell_new _ _ _ 0 _ rfl) (cell_new _ _ _ 1 _ rfl)).mono ?_; rintro e w2 ⟨rfl, rfl⟩; rw [HS.out]; have d0 := cell_old (.cells #[.string o, .string n] 9) c0; have d1 := cell_old (.cells #[.string o, .string n] 9) c1; have d2 := cell_old (.cells #[.string o, .string n] 9) c2; have d3 := cell_old (.cells #[.string o, .string n] 9) c3; have hbs : Below w.heap.size w (w'.alloc (.cells #[.string o, .string n] 9)) := hbw.alloc (by omega) _; have hb2 : w.heap.size + 1 ≤ (w'.alloc (.cells #[.string o, .string n] 9)).heap.size := by rw [World.size_alloc]; omega))
    refine (right_calls o _ (by omega)).mono ?_
    rintro e w3 ⟨rfl, hb3⟩
    rw [HP.out]
    have d3 := pw_cell hb3 d3
    go_wp2_with fail
    refine (right_calls n _ (by omega)).mono ?_
    rintro e w4 ⟨rfl, hb4⟩
    go_wp2_with fail
    go_ret
    exact ⟨ret_bool (by rw [HR.out, HP.out]; rfl), (hbs.trans (hb3.mono (by omega))).trans (hb4.mono (by have := hb3.size; omega))⟩

set_option maxRecDepth 100000 in
set_option maxHeartbeats 4000000 in
theorem rright_calls (k : Int) (g o n : ByteArray) (m : Int) (w : World) (hm : w.cell? ⟨2, 0, none⟩ = some (.int .i64 m)) (hg : g.size < 4294967281) (ho : o.size < 4294967281) (hn : n.size < 4294967281) :
    Calls Tryd.prog 24 #[.agg #[.int .i64 k, .string g, .string o, .string n]] w fun e w' => e = .returned (.bool (rightB (rv k g o n))) ∧ Below w.heap.size w w' := by
  have hGe := Aside0.mk (show globB (bs g) = globB (rv k g o n).glob from rfl)
  cases hG : globB (bs g) with
  | false =>
    have HG := Lib.hid hG
    clear hG
    go_enter Tryd.func24, Tryd.ntmps24
    go_wp2_with (go_at_call 43; refine (glob_calls g _ m (cell_old _ hm) hg).mono ?_; rintro e w' ⟨rfl, hb⟩; rw [HG.out])
    go_ret
    exact ⟨ret_bool (by unfold rightB; rw [show globB (rv k g o n).glob = false from HG.out]; rfl), ((Below.refl _ w).alloc (Nat.le_refl _) _).trans (hb.mono (by simp))⟩
  | true =>
    have HG := Lib.hid hG
    clear hG
    have hO : o.size ≤ 9223372036854775807 := by omega
    by_cases hS : (decide ((o.size : Int) ≤ 100) && decide ((n.size : Int) ≤ 100)) = true
    · have HS := Lib.hid hS
      clear hS
      have HR := Aside0.mk (show rightB (rv k g o n) = (if k = 1 then tokenB (bs o) else if k = 2 then !((bs o).contains 10) && !((bs n).contains 10) else if k = 3 then !((bs o).contains 10) && (bs n == []) else if k = 4 then pathRight (bs o) && pathRight (bs n) else if k = 5 then (bs o == []) && (bs n == []) else false) by
        have h1 := HS.out
        rw [Bool.and_eq_true, decide_eq_true_eq, decide_eq_true_eq] at h1
        unfold rightB
        rw [show globB (rv k g o n).glob = true from HG.out, decide_eq_true (show (rv k g o n).old.length ≤ 100 by simp [rv, bs]; omega), decide_eq_true (show (rv k g o n).new.length ≤ 100 by simp [rv, bs]; omega)]
        rfl)
      by_cases h1 : k = 1
      · subst h1
        go_enter Tryd.func24, Tryd.ntmps24
        go_wp2_with (first | (go_at_call 43; refine (glob_calls g _ m (cell_old _ hm) hg).mono ?_; rintro e w' ⟨rfl, hb⟩; rw [HG.out]; have c0 := pw_cell hb (cell_new _ _ _ 0 _ rfl); have c1 := pw_cell hb (cell_new _ _ _ 1 _ rfl); have c2 := pw_cell hb (cell_new _ _ _ 2 _ rfl); have c3 := pw_cell hb (cell_new _ _ _ 3 _ rfl); have hbw : Below w.heap.size w w' := ((Below.refl _ w).alloc (Nat.le_refl _) _).trans (hb.mono (by simp)); have hsz := hb.size; rw [World.size_alloc] at hsz) | (go_at_call 44; refine (short_calls _ o n _ (cell_new _ _ _ 0 _ rfl) (cell_new _ _ _ 1 _ rfl)).mono ?_; rintro e w2 ⟨rfl, rfl⟩; rw [HS.out]; have d0 := cell_old (.cells #[.string o, .string n] 9) c0; have d1 := cell_old (.cells #[.string o, .string n] 9) c1; have d2 := cell_old (.cells #[.string o, .string n] 9) c2; have d3 := cell_old (.cells #[.string o, .string n] 9) c3; have hbs : Below w.heap.size w (w'.alloc (.cells #[.string o, .string n] 9)) := hbw.alloc (by omega) _; have hb2 : w.heap.size + 1 ≤ (w'.alloc (.cells #[.string o, .string n] 9)).heap.size := by rw [World.size_alloc]; omega) | (go_at_call 19; refine (token_calls o _ hO).mono ?_; rintro e w3 ⟨rfl, hb3⟩))
        go_ret
        exact ⟨ret_bool (by rw [HR.out]; rfl), hbs.trans (hb3.mono (by omega))⟩
      by_cases h2 : k = 2
      · subst h2
        have HC := Lib.hid (show decide (0 ≤ Lib.indexByte (o ++ n).data.toList 10) = ((bs o).contains 10 || (bs n).contains 10) by
          rw [byte_contains, show (o ++ n).data.toList = bs o ++ bs n from bs_app o n]; rw [Bool.eq_iff_iff]; simp)
        go_enter Tryd.func24, Tryd.ntmps24
        go_wp2_with (first | (go_at_call 43; refine (glob_calls g _ m (cell_old _ hm) hg).mono ?_; rintro e w' ⟨rfl, hb⟩; rw [HG.out]; have c0 := pw_cell hb (cell_new _ _ _ 0 _ rfl); have c1 := pw_cell hb (cell_new _ _ _ 1 _ rfl); have c2 := pw_cell hb (cell_new _ _ _ 2 _ rfl); have c3 := pw_cell hb (cell_new _ _ _ 3 _ rfl); have hbw : Below w.heap.size w w' := ((Below.refl _ w).alloc (Nat.le_refl _) _).trans (hb.mono (by simp)); have hsz := hb.size; rw [World.size_alloc] at hsz) | (go_at_call 44; refine (short_calls _ o n _ (cell_new _ _ _ 0 _ rfl) (cell_new _ _ _ 1 _ rfl)).mono ?_; rintro e w2 ⟨rfl, rfl⟩; rw [HS.out]; have d0 := cell_old (.cells #[.string o, .string n] 9) c0; have d1 := cell_old (.cells #[.string o, .string n] 9) c1; have d2 := cell_old (.cells #[.string o, .string n] 9) c2; have d3 := cell_old (.cells #[.string o, .string n] 9) c3; have hbs : Below w.heap.size w (w'.alloc (.cells #[.string o, .string n] 9)) := hbw.alloc (by omega) _; have hb2 : w.heap.size + 1 ≤ (w'.alloc (.cells #[.string o, .string n] 9)).heap.size := by rw [World.size_alloc]; omega) | (go_at_call 45; refine (Tryd.strings_Contains_one (o ++ n) 10 _).mono ?_; rintro e w3 ⟨rfl, rfl⟩; rw [HC.out]))
        go_ret
        exact ⟨ret_bool (by rw [HR.out]; simp), hbs⟩
      by_cases h3 : k = 3
      · subst h3
        have HC := Lib.hid (show decide (0 ≤ Lib.indexByte o.data.toList 10) = (bs o).contains 10 from byte_contains _ _)
        cases hc : (bs o).contains 10 with
        | true =>
          have HC2 := Lib.hid hc
          clear hc
          go_enter Tryd.func24, Tryd.ntmps24
          go_wp2_with (first | (go_at_call 43; refine (glob_calls g _ m (cell_old _ hm) hg).mono ?_; rintro e w' ⟨rfl, hb⟩; rw [HG.out]; have c0 := pw_cell hb (cell_new _ _ _ 0 _ rfl); have c1 := pw_cell hb (cell_new _ _ _ 1 _ rfl); have c2 := pw_cell hb (cell_new _ _ _ 2 _ rfl); have c3 := pw_cell hb (cell_new _ _ _ 3 _ rfl); have hbw : Below w.heap.size w w' := ((Below.refl _ w).alloc (Nat.le_refl _) _).trans (hb.mono (by simp)); have hsz := hb.size; rw [World.size_alloc] at hsz) | (go_at_call 44; refine (short_calls _ o n _ (cell_new _ _ _ 0 _ rfl) (cell_new _ _ _ 1 _ rfl)).mono ?_; rintro e w2 ⟨rfl, rfl⟩; rw [HS.out]; have d0 := cell_old (.cells #[.string o, .string n] 9) c0; have d1 := cell_old (.cells #[.string o, .string n] 9) c1; have d2 := cell_old (.cells #[.string o, .string n] 9) c2; have d3 := cell_old (.cells #[.string o, .string n] 9) c3; have hbs : Below w.heap.size w (w'.alloc (.cells #[.string o, .string n] 9)) := hbw.alloc (by omega) _; have hb2 : w.heap.size + 1 ≤ (w'.alloc (.cells #[.string o, .string n] 9)).heap.size := by rw [World.size_alloc]; omega) | (go_at_call 45; refine (Tryd.strings_Contains_one o 10 _).mono ?_; rintro e w3 ⟨rfl, rfl⟩; rw [HC.out, HC2.out]))
          go_ret
          exact ⟨ret_bool (by rw [HR.out, HC2.out]; rfl), hbs⟩
        | false =>
          have HC2 := Lib.hid hc
          clear hc
          have HN := Lib.hid (show n.toList.isEmpty = (bs n == []) by rw [ByteArray.toList_eq]; cases h : bs n <;> (unfold bs at h; rw [h]; rfl))
          go_enter Tryd.func24, Tryd.ntmps24
          go_wp2_with (first | (go_at_call 43; refine (glob_calls g _ m (cell_old _ hm) hg).mono ?_; rintro e w' ⟨rfl, hb⟩; rw [HG.out]; have c0 := pw_cell hb (cell_new _ _ _ 0 _ rfl); have c1 := pw_cell hb (cell_new _ _ _ 1 _ rfl); have c2 := pw_cell hb (cell_new _ _ _ 2 _ rfl); have c3 := pw_cell hb (cell_new _ _ _ 3 _ rfl); have hbw : Below w.heap.size w w' := ((Below.refl _ w).alloc (Nat.le_refl _) _).trans (hb.mono (by simp)); have hsz := hb.size; rw [World.size_alloc] at hsz) | (go_at_call 44; refine (short_calls _ o n _ (cell_new _ _ _ 0 _ rfl) (cell_new _ _ _ 1 _ rfl)).mono ?_; rintro e w2 ⟨rfl, rfl⟩; rw [HS.out]; have d0 := cell_old (.cells #[.string o, .string n] 9) c0; have d1 := cell_old (.cells #[.string o, .string n] 9) c1; have d2 := cell_old (.cells #[.string o, .string n] 9) c2; have d3 := cell_old (.cells #[.string o, .string n] 9) c3; have hbs : Below w.heap.size w (w'.alloc (.cells #[.string o, .string n] 9)) := hbw.alloc (by omega) _; have hb2 : w.heap.size + 1 ≤ (w'.alloc (.cells #[.string o, .string n] 9)).heap.size := by rw [World.size_alloc]; omega) | (go_at_call 45; refine (Tryd.strings_Contains_one o 10 _).mono ?_; rintro e w3 ⟨rfl, rfl⟩; rw [HC.out, HC2.out]))
          go_ret
          exact ⟨ret_bool (by rw [HR.out, HC2.out, ← HN.out]; rfl), hbs⟩
      by_cases h4 : k = 4
      · subst h4
        exact rright_ren g o n m w hm hg ho hn hO ⟨HG.out⟩ ⟨HS.out⟩ ⟨HR.out⟩
      by_cases h5 : k = 5
      · subst h5
        have HO := Lib.hid (show o.toList.isEmpty = (bs o == []) by rw [ByteArray.toList_eq]; cases h : bs o <;> (unfold bs at h; rw [h]; rfl))
        have HN := Lib.hid (show n.toList.isEmpty = (bs n == []) by rw [ByteArray.toList_eq]; cases h : bs n <;> (unfold bs at h; rw [h]; rfl))
        go_enter Tryd.func24, Tryd.ntmps24
        go_wp2_with (first | (go_at_call 43; refine (glob_calls g _ m (cell_old _ hm) hg).mono ?_; rintro e w' ⟨rfl, hb⟩; rw [HG.out]; have c0 := pw_cell hb (cell_new _ _ _ 0 _ rfl); have c1 := pw_cell hb (cell_new _ _ _ 1 _ rfl); have c2 := pw_cell hb (cell_new _ _ _ 2 _ rfl); have c3 := pw_cell hb (cell_new _ _ _ 3 _ rfl); have hbw : Below w.heap.size w w' := ((Below.refl _ w).alloc (Nat.le_refl _) _).trans (hb.mono (by simp)); have hsz := hb.size; rw [World.size_alloc] at hsz) | (go_at_call 44; refine (short_calls _ o n _ (cell_new _ _ _ 0 _ rfl) (cell_new _ _ _ 1 _ rfl)).mono ?_; rintro e w2 ⟨rfl, rfl⟩; rw [HS.out]; have d0 := cell_old (.cells #[.string o, .string n] 9) c0; have d1 := cell_old (.cells #[.string o, .string n] 9) c1; have d2 := cell_old (.cells #[.string o, .string n] 9) c2; have d3 := cell_old (.cells #[.string o, .string n] 9) c3; have hbs : Below w.heap.size w (w'.alloc (.cells #[.string o, .string n] 9)) := hbw.alloc (by omega) _; have hb2 : w.heap.size + 1 ≤ (w'.alloc (.cells #[.string o, .string n] 9)).heap.size := by rw [World.size_alloc]; omega))
        all_goals go_ret
        all_goals refine ⟨ret_bool (by rw [HR.out, ← HO.out, ← HN.out]; simp_all), hbs⟩
      have e1 : (k == 1) = false := by simpa using h1
      have e2 : (k == 2) = false := by simpa using h2
      have e3 : (k == 3) = false := by simpa using h3
      have e4 : (k == 4) = false := by simpa using h4
      have e5 : (k == 5) = false := by simpa using h5
      have HR2 := Aside0.mk (HR.out.trans (by rw [if_neg h1, if_neg h2, if_neg h3, if_neg h4, if_neg h5]))
      clear h1 h2 h3 h4 h5
      go_enter Tryd.func24, Tryd.ntmps24
      go_wp2_with (first | (go_at_call 43; refine (glob_calls g _ m (cell_old _ hm) hg).mono ?_; rintro e w' ⟨rfl, hb⟩; rw [HG.out]; have c0 := pw_cell hb (cell_new _ _ _ 0 _ rfl); have c1 := pw_cell hb (cell_new _ _ _ 1 _ rfl); have c2 := pw_cell hb (cell_new _ _ _ 2 _ rfl); have c3 := pw_cell hb (cell_new _ _ _ 3 _ rfl); have hbw : Below w.heap.size w w' := ((Below.refl _ w).alloc (Nat.le_refl _) _).trans (hb.mono (by simp)); have hsz := hb.size; rw [World.size_alloc] at hsz) | (go_at_call 44; refine (short_calls _ o n _ (cell_new _ _ _ 0 _ rfl) (cell_new _ _ _ 1 _ rfl)).mono ?_; rintro e w2 ⟨rfl, rfl⟩; rw [HS.out]; have d0 := cell_old (.cells #[.string o, .string n] 9) c0; have d1 := cell_old (.cells #[.string o, .string n] 9) c1; have d2 := cell_old (.cells #[.string o, .string n] 9) c2; have d3 := cell_old (.cells #[.string o, .string n] 9) c3; have hbs : Below w.heap.size w (w'.alloc (.cells #[.string o, .string n] 9)) := hbw.alloc (by omega) _; have hb2 : w.heap.size + 1 ≤ (w'.alloc (.cells #[.string o, .string n] 9)).heap.size := by rw [World.size_alloc]; omega))
      go_ret
      exact ⟨ret_bool HR2.out.symm, hbs⟩
    · have hS := Bool.eq_false_iff.2 hS
      have HS := Lib.hid hS
      clear hS
      go_enter Tryd.func24, Tryd.ntmps24
      go_wp2_with (first | (go_at_call 43; refine (glob_calls g _ m (cell_old _ hm) hg).mono ?_; rintro e w' ⟨rfl, hb⟩; rw [HG.out]; have c0 := pw_cell hb (cell_new _ _ _ 0 _ rfl); have c1 := pw_cell hb (cell_new _ _ _ 1 _ rfl); have c2 := pw_cell hb (cell_new _ _ _ 2 _ rfl); have c3 := pw_cell hb (cell_new _ _ _ 3 _ rfl); have hbw : Below w.heap.size w w' := ((Below.refl _ w).alloc (Nat.le_refl _) _).trans (hb.mono (by simp)); have hsz := hb.size; rw [World.size_alloc] at hsz) | (go_at_call 44; refine (short_calls _ o n _ (cell_new _ _ _ 0 _ rfl) (cell_new _ _ _ 1 _ rfl)).mono ?_; rintro e w2 ⟨rfl, rfl⟩; rw [HS.out]; have d0 := cell_old (.cells #[.string o, .string n] 9) c0; have d1 := cell_old (.cells #[.string o, .string n] 9) c1; have d2 := cell_old (.cells #[.string o, .string n] 9) c2; have d3 := cell_old (.cells #[.string o, .string n] 9) c3; have hbs : Below w.heap.size w (w'.alloc (.cells #[.string o, .string n] 9)) := hbw.alloc (by omega) _; have hb2 : w.heap.size + 1 ≤ (w'.alloc (.cells #[.string o, .string n] 9)).heap.size := by rw [World.size_alloc]; omega))
      go_ret
      refine ⟨ret_bool ?_, ?_⟩
      · have h1 := HS.out
        unfold rightB
        rw [show globB (rv k g o n).glob = true from HG.out]
        have e1 : (decide ((rv k g o n).old.length ≤ 100) && decide ((rv k g o n).new.length ≤ 100)) = false := by
          rw [← h1]
          have q1 : (decide ((rv k g o n).old.length ≤ 100)) = decide ((o.size : Int) ≤ 100) := by
            have e : (rv k g o n).old.length = o.size := by simp [rv, bs]
            rw [e, Bool.eq_iff_iff, decide_eq_true_eq, decide_eq_true_eq]; omega
          have q2 : (decide ((rv k g o n).new.length ≤ 100)) = decide ((n.size : Int) ≤ 100) := by
            have e : (rv k g o n).new.length = n.size := by simp [rv, bs]
            rw [e, Bool.eq_iff_iff, decide_eq_true_eq, decide_eq_true_eq]; omega
          rw [q1, q2]
        rw [Bool.true_and, e1]; rfl
      · exact hbs
end Go.Proofs.YthiplpgkgnebfaaDoor
