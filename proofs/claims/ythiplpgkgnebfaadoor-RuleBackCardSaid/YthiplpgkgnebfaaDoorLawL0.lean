/- quilterlaw11.RuleLines: the walk. -/
import Derived.Test.YthiplpgkgnebfaaDoorOwn0
namespace Go.Proofs.YthiplpgkgnebfaaDoor
open Go.RowKit Go.Shelf Go.Proofs.YthiplpgkgnebfaaDoorW.PrintWords
set_option linter.unusedSimpArgs false
set_option linter.unusedVariables false

theorem RowsAt.nil_of {w : World} {l : List RuleC} (h : RowsAt w none l) : l = [] := by
  cases l with
  | nil => rfl
  | cons x l => obtain ⟨a, e, -⟩ := h 0 x rfl; cases e
theorem bs_len (s : ByteArray) : (bs s).length = s.size := by simp [bs]
theorem append_none (A : Option Addr) (n c c' : Nat) (W : World) (h : n ≤ c) : (Builtin.append_ #[23, 23] 23 #[.slice A n c, .slice none 0 c']).run Tryd.prog W = .ok (.slice A n c) W := by
  cases A with
  | none => simp [Builtin.append_, go_sem, h]
  | some a => simp [Builtin.append_, go_sem, h]
theorem wpList_append_none {ops : Array Oper} {rest : List Oper} {o : Oper} {a : Act} {Q : Exit → Act → World → Prop} {W : World} (hgd : o.guard = none) (s x : Operand)
    (ho : o.op = .call { callee := .builtin .append, args := #[s, x], argTypes := #[23, 23] }) (hty : o.type = 23) (A : Option Addr) (n c c' : Nat) (hs : a.eval s = .slice A n c) (hx : a.eval x = .slice none 0 c') (hc : n ≤ c)
    (h : wpList Tryd.prog ops Q rest (a.put o.dst (.slice A n c)) W) : wpList Tryd.prog ops Q (o :: rest) a W :=
  wpList_plain hgd fun K hK => by
    have hrun := append_none A n c c' W hc
    unfold Oper.wp execOp
    simp only [ho, hty, resolve, invoke, builtin, Sem.run_bind, Sem.run_pure, Result.andThen_ok, List.map_toArray, List.map_cons, List.map_nil, hs, hx, hrun]
    exact hK _ _ h
theorem rowsOf_app (a b : List RuleC) : rowsOf a ++ rowsOf b = rowsOf (a ++ b) := by simp [rowsOf]
theorem rowsOf_one (l : List RuleC) : ∀ u ∈ rowsOf l, u.oneCell' = true := by
  induction l with
  | nil => intro u hu; cases hu
  | cons x l ih =>
    intro u hu
    rcases List.mem_append.1 (show u ∈ ruleRow x ++ rowsOf l from hu) with h | h
    · simp [ruleRow] at h; rcases h with rfl | rfl | rfl | rfl <;> rfl
    · exact ih u h
/-- What a parse hands back, by what it is. -/
def ParsedAs (B : Nat) (w : World) (l : List RuleV) (k : Int) (v : Value) : Prop :=
  (k = 0 → ∃ rl, l = rl.map rvOf ∧ ∃ A c, v = .slice A rl.length c ∧ RowsAt w A rl ∧ rl.length ≤ c) ∧ (k ≠ 0 → v = .slice none 0 0)
theorem ParseRes.any {B : Nat} {s : List UInt8} {e : Ending} {w : World} {p : List RuleV × Int} (h : ParseRes B s e w) (hp : parseB s = p) :
    ∃ v k, e = .returned (.tuple #[v, .int .i64 k]) ∧ k = p.2 ∧ ParsedAs B w p.1 k v := by
  obtain ⟨l, k⟩ := p
  by_cases hk : k = 0
  · subst hk
    obtain ⟨rl, A, c, h1, h2, h3, -, h5⟩ := h.rules hp
    exact ⟨_, 0, h2, rfl, fun _ => ⟨rl, h1, A, c, rfl, h5, h3⟩, fun h => absurd rfl h⟩
  · exact ⟨_, k, h.bad hp hk, rfl, fun h => absurd h hk, fun _ => rfl⟩
theorem print_le {l : List RuleC} {B : Nat} (h : 10 * l.length + 3 * longB (l.map rvOf) ≤ B) : (printB (l.map rvOf)).1.length ≤ B := by
  unfold printB
  split
  · split
    · exact Nat.zero_le _
    · have := lines_len (l.map rvOf); simp at this ⊢; omega
  · exact Nat.zero_le _

set_option maxRecDepth 100000 in
set_option maxHeartbeats 4000000 in
theorem ruleLines_calls (A : Option Addr) (l : List RuleC) (c : Nat) (A' : Option Addr) (l' : List RuleC) (c' : Nat) (m : Int) (w : World) (hM : w.cell? ⟨2, 0, none⟩ = some (.int .i64 m)) (hE : ErrAt w) (hR : RowsAt w A l) (hc : l.length ≤ c)
    (hs : ∀ x ∈ l, x.2.1.size ≤ 140737488355328 ∧ x.2.2.1.size ≤ 140737488355328 ∧ x.2.2.2.size ≤ 140737488355328) (hR' : RowsAt w A' l') (hc' : l'.length ≤ c')
    (hs' : ∀ x ∈ l', x.2.1.size ≤ 140737488355328 ∧ x.2.2.1.size ≤ 140737488355328 ∧ x.2.2.2.size ≤ 140737488355328) :
    Calls Tryd.prog 7 #[.slice A l.length c, .slice A' l'.length c'] w fun e w' => e = .returned (.bool true) ∧ Below w.heap.size w w' := by
  obtain ⟨iR, hiR, hz0, hz1, hz2⟩ := info_parts (show (Tryd.prog.info? 35).map (fun i => (i.zero, i.size, i.bytes)) = some (some (.agg #[.int .i64 0, .string ⟨#[]⟩, .string ⟨#[]⟩, .string ⟨#[]⟩]), 4, 56) by kernel_rfl)
  have hm0 := hM
  have hE0 := hE
  have hb0 := Below.refl w.heap.size w
  by_cases h40 : 40 < (l.length : Int)
  · go_enter Tryd.func7, Tryd.ntmps7
    go_wp2_with fail
    refine (known_calls m _ hm0 hE0).mono ?_
    rintro e w1 ⟨rfl, hb⟩
    go_wp2
    go_ret
    exact ⟨rfl, hb0.trans (hb.mono hb0.size)⟩
  · have hl40 : (l.length : Int) ≤ 40 := by omega
    clear h40
    by_cases h41 : 40 < (l'.length : Int)
    · go_enter Tryd.func7, Tryd.ntmps7
      go_wp2_with fail
      refine (known_calls m _ hm0 hE0).mono ?_
      rintro e w1 ⟨rfl, hb⟩
      go_wp2
      go_ret
      exact ⟨rfl, hb0.trans (hb.mono hb0.size)⟩
    · have hl41 : (l'.length : Int) ≤ 40 := by omega
      clear h41
      have hL := long_calls l A c w hR hs (by omega)
      obtain ⟨N, hN⟩ : ∃ N, longB (l.map rvOf) = N := ⟨_, rfl⟩
      obtain ⟨N', hN'⟩ : ∃ N, longB (l'.map rvOf) = N := ⟨_, rfl⟩
      have hNb : N ≤ 50000000000000000 := by
        rw [← hN]
        have h1 := longB_le (l := l) (B := 140737488355328) hs
        have h2 := Nat.mul_le_mul_right (1 + 3 * 140737488355328) (show l.length ≤ 100 by omega)
        omega
      have hNb' : N' ≤ 50000000000000000 := by
        rw [← hN']
        have h1 := longB_le (l := l') (B := 140737488355328) hs'
        have h2 := Nat.mul_le_mul_right (1 + 3 * 140737488355328) (show l'.length ≤ 100 by omega)
        omega
      rw [hN] at hL
      by_cases h25 : 2500 < (N : Int) + N'
      · go_enter Tryd.func7, Tryd.ntmps7
        go_wp2_with fail
        refine hL.mono ?_
        rintro e w1 ⟨rfl, hd⟩
        have hb := drawn_below hd
        have hR1 := hR'.kept hb
        have hm1 := pw_cell hb hm0
        have hE1 := hE0.below hb
        have hb1 := hb0.trans (hb.mono hb0.size)
        clear hb hm0 hE0
        have hL' := long_calls l' A' c' w1 hR1 hs' (by omega)
        rw [hN'] at hL'
        go_wp2_with fail
        refine hL'.mono ?_
        rintro e w2 ⟨rfl, hd⟩
        have hb := drawn_below hd
        have hm2 := pw_cell hb hm1
        have hE2 := hE1.below hb
        have hb2 := hb1.trans (hb.mono hb1.size)
        clear hb hm1 hE1
        go_wp2_with fail
        refine (known_calls m _ hm2 hE2).mono ?_
        rintro e w3 ⟨rfl, hb⟩
        go_wp2
        go_ret
        exact ⟨rfl, hb2.trans (hb.mono hb2.size)⟩
      · have hN25 : (N : Int) + N' ≤ 2500 := by omega
        clear h25
        obtain ⟨p1, e1, hP1⟩ : ∃ p1 e1, printB (l.map rvOf) = (p1, e1) := ⟨_, _, rfl⟩
        obtain ⟨p2, e2, hP2⟩ : ∃ p2 e2, printB (l'.map rvOf) = (p2, e2) := ⟨_, _, rfl⟩
        have hq1 := print_le (l := l) (B := 400 + 3 * N) (by omega)
        have hq2 := print_le (l := l') (B := 400 + 3 * N') (by omega)
        rw [hP1] at hq1
        rw [hP2] at hq2
        have HLT := Aside0.mk (fun (h1 : e1 = 0) (h2 : e2 = 0) => lines_two (a := l.map rvOf) (b := l'.map rvOf) (hP1.trans (by rw [h1])) (hP2.trans (by rw [h2])) (by dsimp only at hq1 hq2; omega))
        have HN := Aside0.mk (And.intro hN hN')
        go_enter Tryd.func7, Tryd.ntmps7
        go_wp2_with fail
        refine hL.mono ?_
        rintro e w1 ⟨rfl, hd⟩
        have hb := drawn_below hd
        have hR1 := hR'.kept hb
        have hm1 := pw_cell hb hm0
        have hE1 := hE0.below hb
        have hb1 := hb0.trans (hb.mono hb0.size)
        clear hb hm0 hE0
        have hL' := long_calls l' A' c' w1 hR1 hs' (by omega)
        rw [hN'] at hL'
        go_wp2_with fail
        refine hL'.mono ?_
        rintro e w2 ⟨rfl, hd⟩
        have hb := drawn_below hd
        have hm2 := pw_cell hb hm1
        have hE2 := hE1.below hb
        have hb2 := hb1.trans (hb.mono hb1.size)
        clear hb hm1 hE1
        have hp1 := print_calls l A c m w2 (hR.kept hb2) hm2 (by rw [HN.out.1]; omega)
        rw [hP1] at hp1
        go_wp2_with fail
        with_reducible refine hp1.mono ?_
        rintro e w3 ⟨⟨r1, rfl, hr1⟩, hb⟩
        have hm3 := pw_cell hb hm2
        have hE3 := hE2.below hb
        have hb3 := hb2.trans (hb.mono hb2.size)
        clear hb hm2 hE2
        have hp2 := print_calls l' A' c' m w3 (hR'.kept hb3) hm3 (by rw [HN.out.2]; omega)
        rw [hP2] at hp2
        go_wp2_with fail
        with_reducible refine hp2.mono ?_
        rintro e w4 ⟨⟨r2, rfl, hr2⟩, hb⟩
        have hm4 := pw_cell hb hm3
        have hE4 := hE3.below hb
        have hb4 := hb3.trans (hb.mono hb3.size)
        clear hb hm3 hE3
        clear hp1 hp2
        try dsimp only at hr1
        try dsimp only at hr2
        try dsimp only at hq1
        try dsimp only at hq2
        by_cases hz : e1 = 0 ∧ e2 = 0
        · obtain ⟨rfl, rfl⟩ := hz
          have hw := HLT.out rfl rfl
          have s1 : r1.size ≤ 400 + 3 * N := by rw [← bs_len r1, hr1]; exact hq1
          have s2 : r2.size ≤ 400 + 3 * N' := by rw [← bs_len r2, hr2]; exact hq2
          have g1 : (9223372036854775807 < r1.size + r2.size) = False := by simp; omega
          have g2 : (r1.size : Int) + r2.size ≤ 16384 := by omega
          have hpc : parseB (bs (r1 ++ r2)) = if 50 < (l.map rvOf ++ l'.map rvOf).length then ([], 3) else (l.map rvOf ++ l'.map rvOf, 0) := by rw [show bs (r1 ++ r2) = bs r1 ++ bs r2 by simp [bs], hr1, hr2]; exact hw
          have hsz : (r1 ++ r2).size ≤ 9223372036854775807 := by rw [ByteArray.size_append]; omega
          have HPC := Aside0.mk hpc
          clear hw hpc
          go_wp2_with fail
          with_reducible refine (parse_calls (r1 ++ r2) m _ hm4 hE4 hsz).mono ?_
          rintro e w5 ⟨hres, hb⟩
          obtain ⟨v, k, rfl, hk, hv⟩ := hres.any HPC.out
          have hm5 := pw_cell hb hm4
          have hE5 := hE4.below hb
          have hb5 := hb4.trans (hb.mono hb4.size)
          clear hb hm4 hE4
          have HR0 := Aside0.mk (hR.kept hb5)
          have HR1 := Aside0.mk (hR'.kept hb5)
          have HHK := Aside0.mk hk
          clear hR hR' hs hs' HN HLT hR1 hk
          rcases A with _ | ad
          · obtain rfl := HR0.out.nil_of
            rcases A' with _ | ad'
            · obtain rfl := HR1.out.nil_of
              have HR2 := HR0
              by_cases h50 : 50 < ((0 : Nat) : Int)
              · exact absurd h50 (by first | decide | omega)
              · have hk3 : k = 0 := by rw [HHK.out]; simp only [List.map_nil, List.nil_append, List.append_nil, List.length_append, List.length_map, List.length_nil, Nat.zero_add, Nat.add_zero]; first | done | rw [if_neg (by omega)]
                subst hk3
                obtain ⟨rl, hrl, A3, c3, rfl, hR3, hc3⟩ := hv.1 rfl
                have erl : rl = ([] : List RuleC) := map_inj (by rw [← hrl]; simp only [List.map_nil, List.nil_append, List.append_nil, List.length_append, List.length_map, List.length_nil, Nat.zero_add, Nat.add_zero]; first | done | (rw [if_neg (by omega)]; first | done | rfl | simp))
                have h51 : ((0 : Nat) : Int) ≤ 50 := by omega
                rw [erl] at hR3 hc3
                rw [erl]
                clear h50 erl hrl
                go_wp2_with fail
                have hsm := same_calls ([] : List RuleC) ([] : List RuleC) A3 none c3 0 w5 (hR3.kept (Below.refl _ _)) HR2.out (by decide)
                rw [decide_eq_true rfl] at hsm
                try rw [List.length_append] at hsm
                refine hsm.mono ?_
                rintro e wy ⟨rfl, hd⟩
                have hb := drawn_below hd
                have hmy := pw_cell hb hm5
                have hEy := hE5.below hb
                have hby := hb5.trans (hb.mono hb5.size)
                clear hb hd hsm
                go_wp2_with fail
                refine (known_calls m _ hmy hEy).mono ?_
                rintro e wx ⟨rfl, hb⟩
                go_wp2
                go_ret
                exact ⟨rfl, hby.trans (hb.mono hby.size)⟩
            · by_cases h50 : 50 < ((l'.length : Nat) : Int)
              · exact absurd h50 (by first | decide | omega)
              · have hk3 : k = 0 := by rw [HHK.out]; simp only [List.map_nil, List.nil_append, List.append_nil, List.length_append, List.length_map, List.length_nil, Nat.zero_add, Nat.add_zero]; first | done | rw [if_neg (by omega)]
                subst hk3
                obtain ⟨rl, hrl, A3, c3, rfl, hR3, hc3⟩ := hv.1 rfl
                have erl : rl = l' := map_inj (by rw [← hrl]; simp only [List.map_nil, List.nil_append, List.append_nil, List.length_append, List.length_map, List.length_nil, Nat.zero_add, Nat.add_zero]; first | done | (rw [if_neg (by omega)]; first | done | rfl | simp))
                have h51 : ((l'.length : Nat) : Int) ≤ 50 := by omega
                rw [erl] at hR3 hc3
                rw [erl]
                clear h50 erl hrl
                go_wp2_with (first | (at_builtin; refine wpList_append_own _ rfl (.tmp 64) (.tmp 65) 23 rfl w5.heap.size 35 iR (.agg #[.int .i64 0, .string ⟨#[]⟩, .string ⟨#[]⟩, .string ⟨#[]⟩]) 4 56 Tryd.underlying23 hiR hz0 hz1 hz2 rfl (by decide) (.slice none 0 0) 0 [] rfl (World.ownsRow_nil _ _ _ _) ad' l'.length c' (rowsOf l') rfl (rowsOf_len l') HR1.out.cells (rowsOf_one l') (by unfold maxLen; omega) (by omega) (Nat.le_refl _) ?_; intro v2 w7 ho2 hg2 _; rw [Nat.zero_add, List.nil_append] at ho2; obtain ⟨A2, c2, rfl, hc2⟩ := own_shape ho2; have HR2 := Aside0.mk (RowsAt.of_own ho2); have hb7 : Below w5.heap.size w5 w7 := grown_below (Below.refl _ _) hg2 (fun k e => by cases e) (Nat.le_refl _); have HB7 := Aside0.mk hb7; have hm7 := pw_cell hb7 hm5; have hE7 := hE5.below hb7; have hbt7 := hb5.trans (hb7.mono hb5.size); clear ho2 hg2))
                have hsm := same_calls l' l' A3 A2 c3 c2 w7 (hR3.kept HB7.out) HR2.out (by first | omega | (simp; omega))
                rw [decide_eq_true rfl] at hsm
                try rw [List.length_append] at hsm
                refine hsm.mono ?_
                rintro e wy ⟨rfl, hd⟩
                have hb := drawn_below hd
                have hmy := pw_cell hb hm7
                have hEy := hE7.below hb
                have hby := hbt7.trans (hb.mono hbt7.size)
                clear hb hd hsm
                go_wp2_with fail
                refine (known_calls m _ hmy hEy).mono ?_
                rintro e wx ⟨rfl, hb⟩
                go_wp2
                go_ret
                exact ⟨rfl, hby.trans (hb.mono hby.size)⟩
          · rcases A' with _ | ad'
            · obtain rfl := HR1.out.nil_of
              by_cases h50 : 50 < ((l.length : Nat) : Int)
              · exact absurd h50 (by first | decide | omega)
              · have hk3 : k = 0 := by rw [HHK.out]; simp only [List.map_nil, List.nil_append, List.append_nil, List.length_append, List.length_map, List.length_nil, Nat.zero_add, Nat.add_zero]; first | done | rw [if_neg (by omega)]
                subst hk3
                obtain ⟨rl, hrl, A3, c3, rfl, hR3, hc3⟩ := hv.1 rfl
                have erl : rl = l := map_inj (by rw [← hrl]; simp only [List.map_nil, List.nil_append, List.append_nil, List.length_append, List.length_map, List.length_nil, Nat.zero_add, Nat.add_zero]; first | done | (rw [if_neg (by omega)]; first | done | rfl | simp))
                have h51 : ((l.length : Nat) : Int) ≤ 50 := by omega
                rw [erl] at hR3 hc3
                rw [erl]
                clear h50 erl hrl
                go_wp2_with (first | (at_builtin; refine wpList_append_own _ rfl (.tmp 61) (.tmp 62) 23 rfl w5.heap.size 35 iR (.agg #[.int .i64 0, .string ⟨#[]⟩, .string ⟨#[]⟩, .string ⟨#[]⟩]) 4 56 Tryd.underlying23 hiR hz0 hz1 hz2 rfl (by decide) (.slice none 0 0) 0 [] rfl (World.ownsRow_nil _ _ _ _) ad l.length c (rowsOf l) rfl (rowsOf_len l) HR0.out.cells (rowsOf_one l) (by unfold maxLen; omega) (by omega) (Nat.le_refl _) ?_; intro v1 w6 ho1 hg1 _; rw [Nat.zero_add, List.nil_append] at ho1; obtain ⟨A1, c1, rfl, hc1⟩ := own_shape ho1; have hb6 : Below w5.heap.size w5 w6 := grown_below (Below.refl _ _) hg1 (fun k e => by cases e) (Nat.le_refl _); have HR16 := Aside0.mk (HR1.out.kept hb6); have HO1 := Aside0.mk ho1; have HR2 := Aside0.mk (RowsAt.of_own ho1); have HB6 := Aside0.mk hb6; have hz6 := hb6.size; have hm6 := pw_cell hb6 hm5; have hE6 := hE5.below hb6; have hbt6 := hb5.trans (hb6.mono hb5.size); clear ho1 hg1) | (at_builtin; refine wpList_append_none rfl (.tmp 64) (.tmp 65) rfl rfl A1 l.length c1 c' rfl rfl hc1 ?_))
                have hsm := same_calls l l A3 A1 c3 c1 w6 (hR3.kept HB6.out) HR2.out (by first | omega | (simp; omega))
                rw [decide_eq_true rfl] at hsm
                try rw [List.length_append] at hsm
                refine hsm.mono ?_
                rintro e wy ⟨rfl, hd⟩
                have hb := drawn_below hd
                have hmy := pw_cell hb hm6
                have hEy := hE6.below hb
                have hby := hbt6.trans (hb.mono hbt6.size)
                clear hb hd hsm
                go_wp2_with fail
                refine (known_calls m _ hmy hEy).mono ?_
                rintro e wx ⟨rfl, hb⟩
                go_wp2
                go_ret
                exact ⟨rfl, hby.trans (hb.mono hby.size)⟩
            · by_cases h50 : 50 < ((l.length + l'.length : Nat) : Int)
              · have hk3 : k = 3 := by rw [HHK.out]; simp only [List.map_nil, List.nil_append, List.append_nil, List.length_append, List.length_map, List.length_nil, Nat.zero_add, Nat.add_zero]; rw [if_pos (by omega)]
                subst hk3
                obtain rfl := hv.2 (by decide)
                have h50' : 50 < (l.length : Int) + l'.length := by omega
                go_wp2_with (first | (at_builtin; refine wpList_append_own _ rfl (.tmp 61) (.tmp 62) 23 rfl w5.heap.size 35 iR (.agg #[.int .i64 0, .string ⟨#[]⟩, .string ⟨#[]⟩, .string ⟨#[]⟩]) 4 56 Tryd.underlying23 hiR hz0 hz1 hz2 rfl (by decide) (.slice none 0 0) 0 [] rfl (World.ownsRow_nil _ _ _ _) ad l.length c (rowsOf l) rfl (rowsOf_len l) HR0.out.cells (rowsOf_one l) (by unfold maxLen; omega) (by omega) (Nat.le_refl _) ?_; intro v1 w6 ho1 hg1 _; rw [Nat.zero_add, List.nil_append] at ho1; obtain ⟨A1, c1, rfl, hc1⟩ := own_shape ho1; have hb6 : Below w5.heap.size w5 w6 := grown_below (Below.refl _ _) hg1 (fun k e => by cases e) (Nat.le_refl _); have HR16 := Aside0.mk (HR1.out.kept hb6); have HO1 := Aside0.mk ho1; have HR2 := Aside0.mk (RowsAt.of_own ho1); have HB6 := Aside0.mk hb6; have hz6 := hb6.size; have hm6 := pw_cell hb6 hm5; have hE6 := hE5.below hb6; have hbt6 := hb5.trans (hb6.mono hb5.size); clear ho1 hg1) | (at_builtin; refine wpList_append_own _ rfl (.tmp 64) (.tmp 65) 23 rfl w5.heap.size 35 iR (.agg #[.int .i64 0, .string ⟨#[]⟩, .string ⟨#[]⟩, .string ⟨#[]⟩]) 4 56 Tryd.underlying23 hiR hz0 hz1 hz2 rfl (by decide) (.slice A1 l.length c1) l.length (rowsOf l) rfl HO1.out ad' l'.length c' (rowsOf l') rfl (rowsOf_len l') HR16.out.cells (rowsOf_one l') (by unfold maxLen; omega) (by omega) hz6 ?_; intro v2 w7 ho2 hg2 _; rw [rowsOf_app, ← List.length_append] at ho2; obtain ⟨A2, c2, rfl, hc2⟩ := own_shape ho2; have HR2 := Aside0.mk (RowsAt.of_own ho2); have hb7 : Below w5.heap.size w5 w7 := grown_below HB6.out hg2 (fun k e => (HO1.out.lt k e).1) hz6; have HB7 := Aside0.mk hb7; have hm7 := pw_cell hb7 hm5; have hE7 := hE5.below hb7; have hbt7 := hb5.trans (hb7.mono hb5.size); clear ho2 hg2))
                refine (known_calls m _ hm7 hE7).mono ?_
                rintro e w8 ⟨rfl, hb⟩
                go_wp2
                go_ret
                exact ⟨rfl, hbt7.trans (hb.mono hbt7.size)⟩
              · have hk3 : k = 0 := by rw [HHK.out]; simp only [List.map_nil, List.nil_append, List.append_nil, List.length_append, List.length_map, List.length_nil, Nat.zero_add, Nat.add_zero]; first | done | rw [if_neg (by omega)]
                subst hk3
                obtain ⟨rl, hrl, A3, c3, rfl, hR3, hc3⟩ := hv.1 rfl
                have erl : rl = (l ++ l') := map_inj (by rw [← hrl]; simp only [List.map_nil, List.nil_append, List.append_nil, List.length_append, List.length_map, List.length_nil, Nat.zero_add, Nat.add_zero]; first | done | (rw [if_neg (by omega)]; first | done | rfl | simp))
                have h51 : ((l.length + l'.length : Nat) : Int) ≤ 50 := by omega
                rw [erl] at hR3 hc3
                rw [erl]
                clear h50 erl hrl
                have h52 : (l.length : Int) + l'.length ≤ 50 := by omega
                go_wp2_with (first | (at_builtin; refine wpList_append_own _ rfl (.tmp 61) (.tmp 62) 23 rfl w5.heap.size 35 iR (.agg #[.int .i64 0, .string ⟨#[]⟩, .string ⟨#[]⟩, .string ⟨#[]⟩]) 4 56 Tryd.underlying23 hiR hz0 hz1 hz2 rfl (by decide) (.slice none 0 0) 0 [] rfl (World.ownsRow_nil _ _ _ _) ad l.length c (rowsOf l) rfl (rowsOf_len l) HR0.out.cells (rowsOf_one l) (by unfold maxLen; omega) (by omega) (Nat.le_refl _) ?_; intro v1 w6 ho1 hg1 _; rw [Nat.zero_add, List.nil_append] at ho1; obtain ⟨A1, c1, rfl, hc1⟩ := own_shape ho1; have hb6 : Below w5.heap.size w5 w6 := grown_below (Below.refl _ _) hg1 (fun k e => by cases e) (Nat.le_refl _); have HR16 := Aside0.mk (HR1.out.kept hb6); have HO1 := Aside0.mk ho1; have HR2 := Aside0.mk (RowsAt.of_own ho1); have HB6 := Aside0.mk hb6; have hz6 := hb6.size; have hm6 := pw_cell hb6 hm5; have hE6 := hE5.below hb6; have hbt6 := hb5.trans (hb6.mono hb5.size); clear ho1 hg1) | (at_builtin; refine wpList_append_own _ rfl (.tmp 64) (.tmp 65) 23 rfl w5.heap.size 35 iR (.agg #[.int .i64 0, .string ⟨#[]⟩, .string ⟨#[]⟩, .string ⟨#[]⟩]) 4 56 Tryd.underlying23 hiR hz0 hz1 hz2 rfl (by decide) (.slice A1 l.length c1) l.length (rowsOf l) rfl HO1.out ad' l'.length c' (rowsOf l') rfl (rowsOf_len l') HR16.out.cells (rowsOf_one l') (by unfold maxLen; omega) (by omega) hz6 ?_; intro v2 w7 ho2 hg2 _; rw [rowsOf_app, ← List.length_append] at ho2; obtain ⟨A2, c2, rfl, hc2⟩ := own_shape ho2; have HR2 := Aside0.mk (RowsAt.of_own ho2); have hb7 : Below w5.heap.size w5 w7 := grown_below HB6.out hg2 (fun k e => (HO1.out.lt k e).1) hz6; have HB7 := Aside0.mk hb7; have hm7 := pw_cell hb7 hm5; have hE7 := hE5.below hb7; have hbt7 := hb5.trans (hb7.mono hb5.size); clear ho2 hg2))
                have hsm := same_calls (l ++ l') (l ++ l') A3 A2 c3 c2 w7 (hR3.kept HB7.out) HR2.out (by first | omega | (simp; omega))
                rw [decide_eq_true rfl] at hsm
                try rw [List.length_append] at hsm
                refine hsm.mono ?_
                rintro e wy ⟨rfl, hd⟩
                have hb := drawn_below hd
                have hmy := pw_cell hb hm7
                have hEy := hE7.below hb
                have hby := hbt7.trans (hb.mono hbt7.size)
                clear hb hd hsm
                go_wp2_with fail
                refine (known_calls m _ hmy hEy).mono ?_
                rintro e wx ⟨rfl, hb⟩
                go_wp2
                go_ret
                exact ⟨rfl, hby.trans (hb.mono hby.size)⟩
        · by_cases hz3 : e1 = 0
          · have hz4 : ¬ e2 = 0 := fun h => hz ⟨hz3, h⟩
            subst hz3
            have hz5 : (e2 != 0) = true := bne_iff_ne.2 hz4
            go_wp2_with fail
            refine (known_calls m _ hm4 hE4).mono ?_
            rintro e w5 ⟨rfl, hb⟩
            go_wp2
            go_ret
            exact ⟨rfl, hb4.trans (hb.mono hb4.size)⟩
          · have hz5 : (e1 != 0) = true := bne_iff_ne.2 hz3
            go_wp2_with fail
            refine (known_calls m _ hm4 hE4).mono ?_
            rintro e w5 ⟨rfl, hb⟩
            go_wp2
            go_ret
            exact ⟨rfl, hb4.trans (hb.mono hb4.size)⟩
end Go.Proofs.YthiplpgkgnebfaaDoor
