/- quilterlaw11.RuleBack: the walk. -/
import Derived.Test.YthiplpgkgnebfaaDoorLawL0
namespace Go.Proofs.YthiplpgkgnebfaaDoor
open Go.RowKit Go.Shelf Go.Proofs.YthiplpgkgnebfaaDoorW.PrintWords
set_option linter.unusedSimpArgs false
set_option linter.unusedVariables false

theorem quote_le (s : List UInt8) : s.length ≤ (quoteB s).length := by
  have := quote_ge s; omega
theorem line_ge {r : RuleV} (h : rightB r = true) : 1 + r.glob.length + r.old.length + r.new.length ≤ (lineB r).length + 1 := by
  obtain ⟨k, g, o, n⟩ := r
  have h1 := quote_le o
  have h2 := quote_le n
  unfold lineB
  rcases right_kinds h with e | e | ⟨e, e2⟩ | e | ⟨e, e2, e3⟩ <;> dsimp only at e <;> subst e
  · simp [kindW]; omega
  · simp [kindW]; omega
  · dsimp only at e2; subst e2; simp [kindW]; omega
  · simp [kindW]; omega
  · dsimp only at e2 e3; subst e2; subst e3; simp [kindW]; omega
theorem lines_ge {l : List RuleV} (h : l.all rightB = true) : longB l ≤ (linesOf l).length := by
  induction l with
  | nil => simp [longB]
  | cons r l ih =>
    simp only [List.all_cons, Bool.and_eq_true] at h
    have h1 := line_ge h.1
    have h2 := ih h.2
    have e2 : linesOf (r :: l) = (lineB r ++ [10]) ++ linesOf l := by simp [linesOf]
    have e3 : longB (r :: l) = (1 + r.glob.length + r.old.length + r.new.length) + longB l := by simp [longB]
    rw [e2, e3]; simp; omega
theorem lines_short {s : List UInt8} {n : List RuleV} (h : parseB s = (n, 0)) : (linesOf n).length ≤ s.length + 1 := by
  obtain ⟨hl, -, -⟩ := parse_lines h
  obtain ⟨-, he⟩ := lines_back _ _ hl
  rw [he]
  have h1 := flat_filter_le (splitB 10 s)
  rw [split_sum] at h1
  exact h1
theorem longB_all {l : List RuleC} {B C : Nat} (h : longB (l.map rvOf) ≤ B) (h2 : B ≤ C) (hC : C ≤ 100000) : ∀ x ∈ l, x.2.1.size ≤ 100000 ∧ x.2.2.1.size ≤ 100000 ∧ x.2.2.2.size ≤ 100000 := fun x hx => by
  have h1 := longB_mem (List.mem_map_of_mem (f := rvOf) hx)
  simp [rvOf, rv, bs] at h1
  omega
theorem wrapI {s : ByteArray} : bs ((⟨#[10]⟩ : ByteArray) ++ s ++ ⟨#[10]⟩) = 10 :: (bs s ++ [10]) := by simp [bs]

set_option maxRecDepth 100000 in
set_option maxHeartbeats 4000000 in
theorem ruleBack_calls (A : Option Addr) (l : List RuleC) (c : Nat) (s : ByteArray) (m : Int) (w : World) (hM : w.cell? ⟨2, 0, none⟩ = some (.int .i64 m)) (hE : ErrAt w) (hR : RowsAt w A l) (hc : l.length ≤ c)
    (hs : ∀ x ∈ l, x.2.1.size ≤ 140737488355328 ∧ x.2.2.1.size ≤ 140737488355328 ∧ x.2.2.2.size ≤ 140737488355328) (hss : s.size ≤ 140737488355328) :
    Calls Tryd.prog 5 #[.slice A l.length c, .string s] w fun e w' => e = .returned (.bool true) ∧ Below w.heap.size w w' := by
  have hm0 := hM
  have hE0 := hE
  have hb0 := Below.refl w.heap.size w
  by_cases h50 : 50 < (l.length : Int)
  · go_enter Tryd.func5, Tryd.ntmps5
    go_wp2_with fail
    refine (known_calls m _ hm0 hE0).mono ?_
    rintro e w1 ⟨rfl, hb⟩
    go_wp2
    go_ret
    exact ⟨rfl, hb0.trans (hb.mono hb0.size)⟩
  · have hl50 : (l.length : Int) ≤ 50 := by omega
    clear h50
    have hL := long_calls l A c w hR hs (by omega)
    obtain ⟨N, hN⟩ : ∃ N, longB (l.map rvOf) = N := ⟨_, rfl⟩
    rw [hN] at hL
    by_cases h25 : 2500 < (N : Int)
    · go_enter Tryd.func5, Tryd.ntmps5
      go_wp2_with fail
      refine hL.mono ?_
      rintro e w1 ⟨rfl, hd⟩
      have hb := drawn_below hd
      have hm1 := pw_cell hb hm0
      have hE1 := hE0.below hb
      have hb1 := hb0.trans (hb.mono hb0.size)
      clear hb hm0 hE0
      go_wp2_with fail
      refine (known_calls m _ hm1 hE1).mono ?_
      rintro e w2 ⟨rfl, hb⟩
      go_wp2
      go_ret
      exact ⟨rfl, hb1.trans (hb.mono hb1.size)⟩
    · have hN25 : (N : Int) ≤ 2500 := by omega
      clear h25
      by_cases h15 : 1500 < (s.size : Int)
      · go_enter Tryd.func5, Tryd.ntmps5
        go_wp2_with fail
        refine hL.mono ?_
        rintro e w1 ⟨rfl, hd⟩
        have hb := drawn_below hd
        have hm1 := pw_cell hb hm0
        have hE1 := hE0.below hb
        have hb1 := hb0.trans (hb.mono hb0.size)
        clear hb hm0 hE0
        go_wp2_with fail
        refine (known_calls m _ hm1 hE1).mono ?_
        rintro e w2 ⟨rfl, hb⟩
        go_wp2
        go_ret
        exact ⟨rfl, hb1.trans (hb.mono hb1.size)⟩
      · have hs15 : (s.size : Int) ≤ 1500 := by omega
        clear h15
        obtain ⟨p1, e1, hP1⟩ : ∃ p1 e1, printB (l.map rvOf) = (p1, e1) := ⟨_, _, rfl⟩
        have hq1 := print_le (l := l) (B := 8000) (by omega)
        rw [hP1] at hq1
        have HN := Aside0.mk hN
        have HBP := Aside0.mk (fun (h1 : e1 = 0) => back_print (l := l.map rvOf) (hP1.trans (by rw [h1])) (by dsimp only at hq1; omega))
        obtain ⟨ps, hps⟩ : ∃ ps, parseB (bs s) = ps := ⟨_, rfl⟩
        have HPS := Aside0.mk hps
        clear hps hN
        go_enter Tryd.func5, Tryd.ntmps5
        go_wp2_with fail
        refine hL.mono ?_
        rintro e w1 ⟨rfl, hd⟩
        have hb := drawn_below hd
        have hm1 := pw_cell hb hm0
        have hE1 := hE0.below hb
        have hb1 := hb0.trans (hb.mono hb0.size)
        clear hb hm0 hE0
        have hp1 := print_calls l A c m w1 (hR.kept hb1) hm1 (by rw [HN.out]; omega)
        rw [hP1] at hp1
        go_wp2_with fail
        with_reducible refine hp1.mono ?_
        rintro e w2 ⟨⟨r1, rfl, hr1⟩, hb⟩
        have hm2 := pw_cell hb hm1
        have hE2 := hE1.below hb
        have hb2 := hb1.trans (hb.mono hb1.size)
        clear hb hm1 hE1
        clear hp1
        try dsimp only at hr1
        try dsimp only at hq1
        have s1 : r1.size ≤ 8000 := by rw [← bs_len r1, hr1]; exact hq1
        by_cases he1 : e1 = 0
        · subst he1
          have hbp := HBP.out rfl
          have g1 : (9223372036854775807 < 1 + r1.size) = False := by simp; omega
          have g2 : (9223372036854775807 < 1 + r1.size + 1) = False := by simp; omega
          have g3 : (r1.size : Int) ≤ 16384 := by omega
          have g4 : (r1.size : Int) + 2 ≤ 16384 := by omega
          have hszz : ((⟨#[10]⟩ : ByteArray) ++ r1 ++ ⟨#[10]⟩).size ≤ 9223372036854775807 := by rw [ByteArray.size_append, ByteArray.size_append]; show 1 + r1.size + 1 ≤ 9223372036854775807; omega
          have hpw : parseB (bs ((⟨#[10]⟩ : ByteArray) ++ r1 ++ ⟨#[10]⟩)) = (l.map rvOf, 0) := by rw [wrapI, hr1]; exact hbp
          clear hbp
          go_wp2_with fail
          with_reducible refine (parse_calls (⟨#[10]⟩ ++ r1 ++ ⟨#[10]⟩) m _ hm2 hE2 hszz).mono ?_
          rintro e w3 ⟨hres, hb⟩
          obtain ⟨rl2, A2, c2, hrl2, rfl, hc2, -, hR2⟩ := hres.rules hpw
          obtain rfl := map_inj hrl2
          have hm3 := pw_cell hb hm2
          have hE3 := hE2.below hb
          have hb3 := hb2.trans (hb.mono hb2.size)
          clear hb hm2 hE2
          have hsm := same_calls l l A A2 c c2 w3 (hR.kept hb3) hR2 (by omega)
          rw [decide_eq_true rfl] at hsm
          clear hrl2 hres hpw
          go_wp2_with fail
          refine hsm.mono ?_
          rintro e w4 ⟨rfl, hd⟩
          have hb := drawn_below hd
          have hm4 := pw_cell hb hm3
          have hE4 := hE3.below hb
          have hb4 := hb3.trans (hb.mono hb3.size)
          clear hb hm3 hE3
          clear hsm hR2 hd
          go_wp2_with fail
          with_reducible refine (parse_calls s m _ hm4 hE4 (by omega)).mono ?_
          rintro e w5 ⟨hres, hb⟩
          obtain ⟨v, k, rfl, hk, hv⟩ := hres.any HPS.out
          have hm5 := pw_cell hb hm4
          have hE5 := hE4.below hb
          have hb5 := hb4.trans (hb.mono hb4.size)
          clear hb hm4 hE4
          by_cases hk0 : k = 0
          · subst hk0
            obtain ⟨rl, hrl, A3, c3, rfl, hR3, hc3⟩ := hv.1 rfl
            have hpsl : parseB (bs s) = (rl.map rvOf, 0) := by rw [HPS.out]; exact Prod.ext hrl hk.symm
            have hbl : (bs s).length = s.size := bs_len s
            obtain ⟨hall, hpn, hpp⟩ := back_parse hpsl (by omega)
            have hrl50 : rl.length ≤ 50 := by have := (parse_lines hpsl).2.1; simpa using this
            have hlg := lines_ge hall
            have hls := lines_short hpsl
            have hp3 := print_calls rl A3 c3 m w5 hR3 hm5 (by omega)
            rw [hpn] at hp3
            go_wp2_with fail
            with_reducible refine hp3.mono ?_
            rintro e w6 ⟨⟨r3, rfl, hr3⟩, hb⟩
            have hR4 := hR3.kept hb
            have hm6 := pw_cell hb hm5
            have hE6 := hE5.below hb
            have hb6 := hb5.trans (hb.mono hb5.size)
            clear hb hm5 hE5
            try dsimp only at hr3
            have s3 : r3.size ≤ 9223372036854775807 := by rw [← bs_len r3, hr3]; omega
            have hpr3 : parseB (bs r3) = (rl.map rvOf, 0) := by rw [hr3]; exact hpp
            clear hp3
            go_wp2_with fail
            with_reducible refine (parse_calls r3 m _ hm6 hE6 s3).mono ?_
            rintro e w7 ⟨hres3, hb⟩
            obtain ⟨rl4, A5, c5, hrl4, rfl, hc5, -, hR5⟩ := hres3.rules hpr3
            obtain rfl := map_inj hrl4
            have hR6 := hR4.kept hb
            have hm7 := pw_cell hb hm6
            have hE7 := hE6.below hb
            have hb7 := hb6.trans (hb.mono hb6.size)
            clear hb hm6 hE6
            have HALL := Aside0.mk hall
            have HR6 := Aside0.mk hR6
            have HR5 := Aside0.mk hR5
            have HBJ := Aside0.mk hb7
            have hszl := longB_all hlg hls
            have HSZ := Aside0.mk (hszl (by omega))
            clear hall hpn hpp hlg hls hr3 hpr3 hrl4 hR3 hR4 hR5 hR6 hpsl hres3 hres hszl
            go_wp2
            go_loopw [15] (fun i wr => ∃ k : Nat, k ≤ rl.length ∧ i = .int .i64 k ∧ Aside0 (Below w7.heap.size w7 wr)) (fun i _ => rl.length - (intOf i).toNat)
            case atStart => exact ⟨0, Nat.zero_le _, rfl, ⟨Below.refl _ _⟩⟩
            case round =>
              obtain ⟨k, hk, rfl, HW⟩ := hrel
              have hmr := pw_cell HW.out hm7
              have hEr := hE7.below HW.out
              by_cases hlt : k < rl.length
              · obtain ⟨⟨kd, g, o, nw⟩, hx⟩ : ∃ x, rl[k]? = some x := ⟨rl[k], List.getElem?_eq_getElem hlt⟩
                obtain ⟨ad, rfl, x0, x1, x2, x3⟩ := (HR6.out.kept HW.out) k _ hx
                dsimp only at x0 x1 x2 x3
                have hright : rightB (rv kd g o nw) = true := List.all_eq_true.1 HALL.out _ (List.mem_map_of_mem (f := rvOf) (List.mem_of_getElem? hx))
                have HRT := Lib.hid hright
                obtain ⟨z1, z2, z3⟩ := HSZ.out _ (List.mem_of_getElem? hx)
                dsimp only at z1 z2 z3
                have hk0 : (0 : Int) ≤ k := by omega
                have hk1 : (k : Int) < rl.length := by omega
                clear hx hright
                go_wp2_with (go_at_call 24; refine (rright_calls kd g o nw m _ hmr (by omega) (by omega) (by omega)).mono ?_; rintro e wz ⟨rfl, hb⟩; rw [HRT.out])
                go_round
                case rel => exact ⟨k + 1, by omega, by go_num, ⟨HW.out.trans (hb.mono HW.out.size)⟩⟩
                case measure => simp [intOf]; omega
              · have hge : (rl.length : Int) ≤ k := by omega
                clear hlt
                have hsm := same_calls rl rl A3 A5 c3 c5 wr (HR6.out.kept HW.out) (HR5.out.kept HW.out) (by omega)
                rw [decide_eq_true rfl] at hsm
                go_wp2_with fail
                refine hsm.mono ?_
                rintro e wy ⟨rfl, hd⟩
                have hb := drawn_below hd
                have hmy := pw_cell hb hmr
                have hEy := hEr.below hb
                have hby := HBJ.out.trans ((HW.out.trans (hb.mono HW.out.size)).mono HBJ.out.size)
                go_wp2_with fail
                refine (known_calls m _ hmy hEy).mono ?_
                rintro e wx ⟨rfl, hb⟩
                go_wp2
                go_ret
                exact ⟨rfl, hby.trans (hb.mono hby.size)⟩
          · obtain rfl := hv.2 hk0
            have hkb : (k != 0) = true := bne_iff_ne.2 hk0
            go_wp2_with fail
            refine (known_calls m _ hm5 hE5).mono ?_
            rintro e w6 ⟨rfl, hb⟩
            go_wp2
            go_ret
            exact ⟨rfl, hb5.trans (hb.mono hb5.size)⟩
        · have hz5 : (e1 == 0) = false := by simpa using he1
          go_wp2_with fail
          with_reducible refine (parse_calls s m _ hm2 hE2 (by omega)).mono ?_
          rintro e w3 ⟨hres, hb⟩
          obtain ⟨v, k, rfl, hk, hv⟩ := hres.any HPS.out
          have hm3 := pw_cell hb hm2
          have hE3 := hE2.below hb
          have hb3 := hb2.trans (hb.mono hb2.size)
          clear hb hm2 hE2
          by_cases hk0 : k = 0
          · subst hk0
            obtain ⟨rl, hrl, A3, c3, rfl, hR3, hc3⟩ := hv.1 rfl
            have hpsl : parseB (bs s) = (rl.map rvOf, 0) := by rw [HPS.out]; exact Prod.ext hrl hk.symm
            have hbl : (bs s).length = s.size := bs_len s
            obtain ⟨hall, hpn, hpp⟩ := back_parse hpsl (by omega)
            have hrl50 : rl.length ≤ 50 := by have := (parse_lines hpsl).2.1; simpa using this
            have hlg := lines_ge hall
            have hls := lines_short hpsl
            have hp3 := print_calls rl A3 c3 m w3 hR3 hm3 (by omega)
            rw [hpn] at hp3
            go_wp2_with fail
            with_reducible refine hp3.mono ?_
            rintro e w4 ⟨⟨r3, rfl, hr3⟩, hb⟩
            have hR4 := hR3.kept hb
            have hm4 := pw_cell hb hm3
            have hE4 := hE3.below hb
            have hb4 := hb3.trans (hb.mono hb3.size)
            clear hb hm3 hE3
            try dsimp only at hr3
            have s3 : r3.size ≤ 9223372036854775807 := by rw [← bs_len r3, hr3]; omega
            have hpr3 : parseB (bs r3) = (rl.map rvOf, 0) := by rw [hr3]; exact hpp
            clear hp3
            go_wp2_with fail
            with_reducible refine (parse_calls r3 m _ hm4 hE4 s3).mono ?_
            rintro e w5 ⟨hres3, hb⟩
            obtain ⟨rl4, A5, c5, hrl4, rfl, hc5, -, hR5⟩ := hres3.rules hpr3
            obtain rfl := map_inj hrl4
            have hR6 := hR4.kept hb
            have hm5 := pw_cell hb hm4
            have hE5 := hE4.below hb
            have hb5 := hb4.trans (hb.mono hb4.size)
            clear hb hm4 hE4
            have HALL := Aside0.mk hall
            have HR6 := Aside0.mk hR6
            have HR5 := Aside0.mk hR5
            have HBJ := Aside0.mk hb5
            have hszl := longB_all hlg hls
            have HSZ := Aside0.mk (hszl (by omega))
            clear hall hpn hpp hlg hls hr3 hpr3 hrl4 hR3 hR4 hR5 hR6 hpsl hres3 hres hszl
            go_wp2
            go_loopw [15] (fun i wr => ∃ k : Nat, k ≤ rl.length ∧ i = .int .i64 k ∧ Aside0 (Below w5.heap.size w5 wr)) (fun i _ => rl.length - (intOf i).toNat)
            case atStart => exact ⟨0, Nat.zero_le _, rfl, ⟨Below.refl _ _⟩⟩
            case round =>
              obtain ⟨k, hk, rfl, HW⟩ := hrel
              have hmr := pw_cell HW.out hm5
              have hEr := hE5.below HW.out
              by_cases hlt : k < rl.length
              · obtain ⟨⟨kd, g, o, nw⟩, hx⟩ : ∃ x, rl[k]? = some x := ⟨rl[k], List.getElem?_eq_getElem hlt⟩
                obtain ⟨ad, rfl, x0, x1, x2, x3⟩ := (HR6.out.kept HW.out) k _ hx
                dsimp only at x0 x1 x2 x3
                have hright : rightB (rv kd g o nw) = true := List.all_eq_true.1 HALL.out _ (List.mem_map_of_mem (f := rvOf) (List.mem_of_getElem? hx))
                have HRT := Lib.hid hright
                obtain ⟨z1, z2, z3⟩ := HSZ.out _ (List.mem_of_getElem? hx)
                dsimp only at z1 z2 z3
                have hk0 : (0 : Int) ≤ k := by omega
                have hk1 : (k : Int) < rl.length := by omega
                clear hx hright
                go_wp2_with (go_at_call 24; refine (rright_calls kd g o nw m _ hmr (by omega) (by omega) (by omega)).mono ?_; rintro e wz ⟨rfl, hb⟩; rw [HRT.out])
                go_round
                case rel => exact ⟨k + 1, by omega, by go_num, ⟨HW.out.trans (hb.mono HW.out.size)⟩⟩
                case measure => simp [intOf]; omega
              · have hge : (rl.length : Int) ≤ k := by omega
                clear hlt
                have hsm := same_calls rl rl A3 A5 c3 c5 wr (HR6.out.kept HW.out) (HR5.out.kept HW.out) (by omega)
                rw [decide_eq_true rfl] at hsm
                go_wp2_with fail
                refine hsm.mono ?_
                rintro e wy ⟨rfl, hd⟩
                have hb := drawn_below hd
                have hmy := pw_cell hb hmr
                have hEy := hEr.below hb
                have hby := HBJ.out.trans ((HW.out.trans (hb.mono HW.out.size)).mono HBJ.out.size)
                go_wp2_with fail
                refine (known_calls m _ hmy hEy).mono ?_
                rintro e wx ⟨rfl, hb⟩
                go_wp2
                go_ret
                exact ⟨rfl, hby.trans (hb.mono hby.size)⟩
          · obtain rfl := hv.2 hk0
            have hkb : (k != 0) = true := bne_iff_ne.2 hk0
            go_wp2_with fail
            refine (known_calls m _ hm3 hE3).mono ?_
            rintro e w4 ⟨rfl, hb⟩
            go_wp2
            go_ret
            exact ⟨rfl, hb3.trans (hb.mono hb3.size)⟩
end Go.Proofs.YthiplpgkgnebfaaDoor
