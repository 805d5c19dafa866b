/- quilterlaw11.RuleMay: the walk. -/
import Derived.Test.YthiplpgkgnebfaaDoorOwn0
namespace Go.Proofs.YthiplpgkgnebfaaDoor
open Go.RowKit Go.Shelf Go.Proofs.YthiplpgkgnebfaaDoorW.PrintWords
set_option linter.unusedSimpArgs false
set_option linter.unusedVariables false

theorem cell_newAt (W : World) (cs : Array Value) (t : TypeId) (b i : Nat) (v : Value) (hb : b = W.heap.size) (h : cs[i]? = some v) : (W.alloc (.cells cs t)).cell? ⟨b, i, none⟩ = some v := by subst hb; exact cell_new W cs t i v h
theorem frozen_newAt (W : World) (cs : Array Value) (t : TypeId) (b i : Nat) (hb : b = W.heap.size) : (W.alloc (.cells cs t)).frozen? ⟨b, i, none⟩ = false := by subst hb; exact frozen_new W cs t i
theorem right_noglob (kd : Int) (o n : ByteArray) : rightB (rv kd ⟨#[]⟩ o n) = false := by
  have h : globB (bs ⟨#[]⟩) = false := by decide
  unfold rightB
  rw [show (rv kd ⟨#[]⟩ o n).glob = bs ⟨#[]⟩ from rfl, h]; rfl
theorem right_six (g o n : ByteArray) : rightB (rv 6 g o n) = false := by
  unfold rightB
  simp [rv]
theorem right_long {kd : Int} {g o n : ByteArray} (h : 100 < o.size) : rightB (rv kd g o n) = false := by
  unfold rightB
  have e : decide ((rv kd g o n).old.length ≤ 100) = false := decide_eq_false (by simp [rv, bs]; omega)
  rw [e]; simp
theorem right_short {kd : Int} {g o n : ByteArray} (h : rightB (rv kd g o n) = true) : o.size ≤ 100 := by
  rcases Nat.lt_or_ge 100 o.size with h1 | h1
  · rw [right_long h1] at h; cases h
  · exact h1
/-- What a loop that lengthens a text still has to do. -/
def leftOf (b : Nat) (w : World) : Nat := match w.cell? ⟨b, 2, none⟩ with | some (.string s) => 101 - s.size | _ => 0
theorem leftOf_at {b : Nat} {w : World} {s : ByteArray} (h : w.cell? ⟨b, 2, none⟩ = some (.string s)) : leftOf b w = 101 - s.size := by unfold leftOf; rw [h]
theorem rowsAt_one {w : World} {ad : Addr} {kd : Int} {g o n : ByteArray} (h0 : w.cell? ad = some (.int .i64 kd)) (h1 : w.cell? ⟨ad.block, ad.off + 1, none⟩ = some (.string g)) (h2 : w.cell? ⟨ad.block, ad.off + 2, none⟩ = some (.string o)) (h3 : w.cell? ⟨ad.block, ad.off + 3, none⟩ = some (.string n)) :
    RowsAt w (some ad) [(kd, g, o, n)] := by
  intro j x hj
  match j, hj with
  | 0, hj =>
    simp at hj; subst hj
    exact ⟨_, rfl, h0, h1, h2, h3⟩

set_option maxRecDepth 100000 in
set_option maxHeartbeats 4000000 in
theorem ruleMay_calls (x : RuleC) (g : ByteArray) (m : Int) (w : World) (hM : w.cell? ⟨2, 0, none⟩ = some (.int .i64 m)) (hE : ErrAt w)
    (hx : x.2.1.size ≤ 140737488355328 ∧ x.2.2.1.size ≤ 140737488355328 ∧ x.2.2.2.size ≤ 140737488355328) (hg : g.size ≤ 140737488355328) :
    Calls Tryd.prog 9 #[.agg (ruleRow x).toArray, .string g] w fun e w' => e = .returned (.bool true) ∧ Below w.heap.size w w' := by
  obtain ⟨kd, g0, o, n⟩ := x
  dsimp only at hx
  show Calls Tryd.prog 9 #[.agg #[.int .i64 kd, .string g0, .string o, .string n], .string g] w _
  have b1 := (Below.refl w.heap.size w).alloc (Nat.le_refl _) (.cells #[.int .i64 kd, .string g0, .string o, .string n] 35)
  have b2 := b1.alloc (by simp) (.cells #[.int .i64 kd, .string g0, .string o, .string n] 35)
  have q0 := cell_new w #[.int .i64 kd, .string g0, .string o, .string n] 35 0 (.int .i64 kd) rfl
  have q1 := cell_new w #[.int .i64 kd, .string g0, .string o, .string n] 35 1 (.string g0) rfl
  have q2 := cell_new w #[.int .i64 kd, .string g0, .string o, .string n] 35 2 (.string o) rfl
  have q3 := cell_new w #[.int .i64 kd, .string g0, .string o, .string n] 35 3 (.string n) rfl
  have hRow : RowsAt ((w.alloc (.cells #[.int .i64 kd, .string g0, .string o, .string n] 35)).alloc (.cells #[.int .i64 kd, .string g0, .string o, .string n] 35)) (some ⟨w.heap.size + 1, 0, none⟩) [(kd, g0, o, n)] := rowsAt_one (cell_newAt _ _ _ _ 0 _ (by simp) rfl) (cell_newAt _ _ _ _ 1 _ (by simp) rfl) (cell_newAt _ _ _ _ 2 _ (by simp) rfl) (cell_newAt _ _ _ _ 3 _ (by simp) rfl)
  have hL := long_calls [(kd, g0, o, n)] (some ⟨w.heap.size + 1, 0, none⟩) 1 _ hRow (by intro y hy; simp at hy; subst hy; exact hx) (show (1 : Nat) ≤ 100 by decide)
  obtain ⟨N, hN⟩ : ∃ N, longB ([(kd, g0, o, n)].map rvOf) = N := ⟨_, rfl⟩
  rw [hN] at hL
  have hNe : N = 1 + g0.size + o.size + n.size := by rw [← hN]; simp [longB, rvOf, rv, bs]
  have hL1 : Calls Tryd.prog 21 #[.slice (some ⟨w.heap.size + 1, 0, none⟩) 1 1] ((w.alloc (.cells #[.int .i64 kd, .string g0, .string o, .string n] 35)).alloc (.cells #[.int .i64 kd, .string g0, .string o, .string n] 35)) _ := hL
  clear hL hRow hN
  have hm0 := pw_cell (b2.mono (Nat.le_refl _) : Below w.heap.size w _) hM
  have hE0 := hE.below b2
  have hb0 := b2
  have p0 := cell_old (.cells #[.int .i64 kd, .string g0, .string o, .string n] 35) q0
  have p1 := cell_old (.cells #[.int .i64 kd, .string g0, .string o, .string n] 35) q1
  have p2 := cell_old (.cells #[.int .i64 kd, .string g0, .string o, .string n] 35) q2
  have p3 := cell_old (.cells #[.int .i64 kd, .string g0, .string o, .string n] 35) q3
  by_cases h4 : 400 < (N : Int)
  · go_enter Tryd.func9, Tryd.ntmps9
    go_wp2_with fail
    refine hL1.mono ?_
    rintro e w1 ⟨rfl, hd⟩
    have hb := drawn_below hd
    have r0 := pw_cell hb p0
    have r1 := pw_cell hb p1
    have r2 := pw_cell hb p2
    have r3 := pw_cell hb p3
    have hm1 := pw_cell hb hm0
    have hE1 := hE0.below hb
    have hb1 := hb0.trans (hb.mono hb0.size)
    clear hb hm0 hE0
    clear p0 p1 p2 p3
    go_wp2_with fail
    refine (known_calls m _ hm1 hE1).mono ?_
    rintro e w2 ⟨rfl, hb⟩
    go_wp2
    go_ret
    exact ⟨rfl, hb1.trans (hb.mono hb1.size)⟩
  · have hN4 : (N : Int) ≤ 400 := by omega
    clear h4
    by_cases h1 : 100 < (g.size : Int)
    · go_enter Tryd.func9, Tryd.ntmps9
      go_wp2_with fail
      refine hL1.mono ?_
      rintro e w1 ⟨rfl, hd⟩
      have hb := drawn_below hd
      have r0 := pw_cell hb p0
      have r1 := pw_cell hb p1
      have r2 := pw_cell hb p2
      have r3 := pw_cell hb p3
      have hm1 := pw_cell hb hm0
      have hE1 := hE0.below hb
      have hb1 := hb0.trans (hb.mono hb0.size)
      clear hb hm0 hE0
      clear p0 p1 p2 p3
      go_wp2_with fail
      refine (known_calls m _ hm1 hE1).mono ?_
      rintro e w2 ⟨rfl, hb⟩
      go_wp2
      go_ret
      exact ⟨rfl, hb1.trans (hb.mono hb1.size)⟩
    · have hg1 : (g.size : Int) ≤ 100 := by omega
      clear h1
      cases hr : rightB (rv kd g0 o n) with
      | false =>
        have HRT := Lib.hid hr
        clear hr
        go_enter Tryd.func9, Tryd.ntmps9
        go_wp2_with fail
        refine hL1.mono ?_
        rintro e w1 ⟨rfl, hd⟩
        have hb := drawn_below hd
        have r0 := pw_cell hb p0
        have r1 := pw_cell hb p1
        have r2 := pw_cell hb p2
        have r3 := pw_cell hb p3
        have hm1 := pw_cell hb hm0
        have hE1 := hE0.below hb
        have hb1 := hb0.trans (hb.mono hb0.size)
        clear hb hm0 hE0
        clear p0 p1 p2 p3
        go_wp2_with fail
        refine (rright_calls kd g0 o n m _ hm1 (by omega) (by omega) (by omega)).mono ?_
        rintro e w2 ⟨rfl, hb⟩
        rw [HRT.out]
        have s0 := pw_cell hb r0
        have s1 := pw_cell hb r1
        have s2 := pw_cell hb r2
        have s3 := pw_cell hb r3
        have hm2 := pw_cell hb hm1
        have hE2 := hE1.below hb
        have hb2 := hb1.trans (hb.mono hb1.size)
        clear hb hm1 hE1
        clear r0 r1 r2 r3
        go_wp2_with fail
        refine (known_calls m _ hm2 hE2).mono ?_
        rintro e w3 ⟨rfl, hb⟩
        go_wp2
        go_ret
        exact ⟨rfl, hb2.trans (hb.mono hb2.size)⟩
      | true =>
        have HRT := Lib.hid hr
        have ho1 := right_short hr
        clear hr
        go_enter Tryd.func9, Tryd.ntmps9
        go_wp2_with fail
        refine hL1.mono ?_
        rintro e w1 ⟨rfl, hd⟩
        have hb := drawn_below hd
        have r0 := pw_cell hb p0
        have r1 := pw_cell hb p1
        have r2 := pw_cell hb p2
        have r3 := pw_cell hb p3
        have hm1 := pw_cell hb hm0
        have hE1 := hE0.below hb
        have hb1 := hb0.trans (hb.mono hb0.size)
        clear hb hm0 hE0
        clear p0 p1 p2 p3
        go_wp2_with fail
        refine (rright_calls kd g0 o n m _ hm1 (by omega) (by omega) (by omega)).mono ?_
        rintro e w2 ⟨rfl, hb⟩
        rw [HRT.out]
        have s0 := pw_cell hb r0
        have s1 := pw_cell hb r1
        have s2 := pw_cell hb r2
        have s3 := pw_cell hb r3
        have hm2 := pw_cell hb hm1
        have hE2 := hE1.below hb
        have hb2 := hb1.trans (hb.mono hb1.size)
        clear hb hm1 hE1
        clear r0 r1 r2 r3
        have hlt : w.heap.size < w2.heap.size := World.block_lt_of_cell? _ _ s0
        have ta0 := cell_old (.cells #[.int .i64 kd, .string g, .string o, .string n] 35) s0
        have tb0 := cell_old (.cells #[.int .i64 kd, .string ⟨#[]⟩, .string o, .string n] 35) ta0
        have tc0 := cell_old (.cells #[.int .i64 6, .string g0, .string o, .string n] 35) tb0
        have ta1 := cell_old (.cells #[.int .i64 kd, .string g, .string o, .string n] 35) s1
        have tb1 := cell_old (.cells #[.int .i64 kd, .string ⟨#[]⟩, .string o, .string n] 35) ta1
        have tc1 := cell_old (.cells #[.int .i64 6, .string g0, .string o, .string n] 35) tb1
        have ta2 := cell_old (.cells #[.int .i64 kd, .string g, .string o, .string n] 35) s2
        have tb2 := cell_old (.cells #[.int .i64 kd, .string ⟨#[]⟩, .string o, .string n] 35) ta2
        have tc2 := cell_old (.cells #[.int .i64 6, .string g0, .string o, .string n] 35) tb2
        have ta3 := cell_old (.cells #[.int .i64 kd, .string g, .string o, .string n] 35) s3
        have tb3 := cell_old (.cells #[.int .i64 kd, .string ⟨#[]⟩, .string o, .string n] 35) ta3
        have tc3 := cell_old (.cells #[.int .i64 6, .string g0, .string o, .string n] 35) tb3
        have u50 : ((((w2.alloc (.cells #[.int .i64 kd, .string g, .string o, .string n] 35)).alloc (.cells #[.int .i64 kd, .string ⟨#[]⟩, .string o, .string n] 35)).alloc (.cells #[.int .i64 6, .string g0, .string o, .string n] 35)).alloc (.cells #[.int .i64 kd, .string g0, .string o, .string n] 35)).cell? ⟨w2.heap.size, 0, none⟩ = some (.int .i64 kd) := cell_old (.cells #[.int .i64 kd, .string g0, .string o, .string n] 35) (cell_old (.cells #[.int .i64 6, .string g0, .string o, .string n] 35) (cell_old (.cells #[.int .i64 kd, .string ⟨#[]⟩, .string o, .string n] 35) (cell_newAt w2 #[.int .i64 kd, .string g, .string o, .string n] 35 (w2.heap.size) 0 _ rfl rfl)))
        have u60 : ((((w2.alloc (.cells #[.int .i64 kd, .string g, .string o, .string n] 35)).alloc (.cells #[.int .i64 kd, .string ⟨#[]⟩, .string o, .string n] 35)).alloc (.cells #[.int .i64 6, .string g0, .string o, .string n] 35)).alloc (.cells #[.int .i64 kd, .string g0, .string o, .string n] 35)).cell? ⟨w2.heap.size + 1, 0, none⟩ = some (.int .i64 kd) := cell_old (.cells #[.int .i64 kd, .string g0, .string o, .string n] 35) (cell_old (.cells #[.int .i64 6, .string g0, .string o, .string n] 35) (cell_newAt (w2.alloc (.cells #[.int .i64 kd, .string g, .string o, .string n] 35)) #[.int .i64 kd, .string ⟨#[]⟩, .string o, .string n] 35 (w2.heap.size + 1) 0 _ (by simp) rfl))
        have u70 : ((((w2.alloc (.cells #[.int .i64 kd, .string g, .string o, .string n] 35)).alloc (.cells #[.int .i64 kd, .string ⟨#[]⟩, .string o, .string n] 35)).alloc (.cells #[.int .i64 6, .string g0, .string o, .string n] 35)).alloc (.cells #[.int .i64 kd, .string g0, .string o, .string n] 35)).cell? ⟨w2.heap.size + 1 + 1, 0, none⟩ = some (.int .i64 6) := cell_old (.cells #[.int .i64 kd, .string g0, .string o, .string n] 35) (cell_newAt ((w2.alloc (.cells #[.int .i64 kd, .string g, .string o, .string n] 35)).alloc (.cells #[.int .i64 kd, .string ⟨#[]⟩, .string o, .string n] 35)) #[.int .i64 6, .string g0, .string o, .string n] 35 (w2.heap.size + 1 + 1) 0 _ (by simp) rfl)
        have u80 : ((((w2.alloc (.cells #[.int .i64 kd, .string g, .string o, .string n] 35)).alloc (.cells #[.int .i64 kd, .string ⟨#[]⟩, .string o, .string n] 35)).alloc (.cells #[.int .i64 6, .string g0, .string o, .string n] 35)).alloc (.cells #[.int .i64 kd, .string g0, .string o, .string n] 35)).cell? ⟨w2.heap.size + 1 + 1 + 1, 0, none⟩ = some (.int .i64 kd) := cell_newAt (((w2.alloc (.cells #[.int .i64 kd, .string g, .string o, .string n] 35)).alloc (.cells #[.int .i64 kd, .string ⟨#[]⟩, .string o, .string n] 35)).alloc (.cells #[.int .i64 6, .string g0, .string o, .string n] 35)) #[.int .i64 kd, .string g0, .string o, .string n] 35 (w2.heap.size + 1 + 1 + 1) 0 _ (by simp) rfl
        have u51 : ((((w2.alloc (.cells #[.int .i64 kd, .string g, .string o, .string n] 35)).alloc (.cells #[.int .i64 kd, .string ⟨#[]⟩, .string o, .string n] 35)).alloc (.cells #[.int .i64 6, .string g0, .string o, .string n] 35)).alloc (.cells #[.int .i64 kd, .string g0, .string o, .string n] 35)).cell? ⟨w2.heap.size, 1, none⟩ = some (.string g) := cell_old (.cells #[.int .i64 kd, .string g0, .string o, .string n] 35) (cell_old (.cells #[.int .i64 6, .string g0, .string o, .string n] 35) (cell_old (.cells #[.int .i64 kd, .string ⟨#[]⟩, .string o, .string n] 35) (cell_newAt w2 #[.int .i64 kd, .string g, .string o, .string n] 35 (w2.heap.size) 1 _ rfl rfl)))
        have u61 : ((((w2.alloc (.cells #[.int .i64 kd, .string g, .string o, .string n] 35)).alloc (.cells #[.int .i64 kd, .string ⟨#[]⟩, .string o, .string n] 35)).alloc (.cells #[.int .i64 6, .string g0, .string o, .string n] 35)).alloc (.cells #[.int .i64 kd, .string g0, .string o, .string n] 35)).cell? ⟨w2.heap.size + 1, 1, none⟩ = some (.string ⟨#[]⟩) := cell_old (.cells #[.int .i64 kd, .string g0, .string o, .string n] 35) (cell_old (.cells #[.int .i64 6, .string g0, .string o, .string n] 35) (cell_newAt (w2.alloc (.cells #[.int .i64 kd, .string g, .string o, .string n] 35)) #[.int .i64 kd, .string ⟨#[]⟩, .string o, .string n] 35 (w2.heap.size + 1) 1 _ (by simp) rfl))
        have u71 : ((((w2.alloc (.cells #[.int .i64 kd, .string g, .string o, .string n] 35)).alloc (.cells #[.int .i64 kd, .string ⟨#[]⟩, .string o, .string n] 35)).alloc (.cells #[.int .i64 6, .string g0, .string o, .string n] 35)).alloc (.cells #[.int .i64 kd, .string g0, .string o, .string n] 35)).cell? ⟨w2.heap.size + 1 + 1, 1, none⟩ = some (.string g0) := cell_old (.cells #[.int .i64 kd, .string g0, .string o, .string n] 35) (cell_newAt ((w2.alloc (.cells #[.int .i64 kd, .string g, .string o, .string n] 35)).alloc (.cells #[.int .i64 kd, .string ⟨#[]⟩, .string o, .string n] 35)) #[.int .i64 6, .string g0, .string o, .string n] 35 (w2.heap.size + 1 + 1) 1 _ (by simp) rfl)
        have u81 : ((((w2.alloc (.cells #[.int .i64 kd, .string g, .string o, .string n] 35)).alloc (.cells #[.int .i64 kd, .string ⟨#[]⟩, .string o, .string n] 35)).alloc (.cells #[.int .i64 6, .string g0, .string o, .string n] 35)).alloc (.cells #[.int .i64 kd, .string g0, .string o, .string n] 35)).cell? ⟨w2.heap.size + 1 + 1 + 1, 1, none⟩ = some (.string g0) := cell_newAt (((w2.alloc (.cells #[.int .i64 kd, .string g, .string o, .string n] 35)).alloc (.cells #[.int .i64 kd, .string ⟨#[]⟩, .string o, .string n] 35)).alloc (.cells #[.int .i64 6, .string g0, .string o, .string n] 35)) #[.int .i64 kd, .string g0, .string o, .string n] 35 (w2.heap.size + 1 + 1 + 1) 1 _ (by simp) rfl
        have u52 : ((((w2.alloc (.cells #[.int .i64 kd, .string g, .string o, .string n] 35)).alloc (.cells #[.int .i64 kd, .string ⟨#[]⟩, .string o, .string n] 35)).alloc (.cells #[.int .i64 6, .string g0, .string o, .string n] 35)).alloc (.cells #[.int .i64 kd, .string g0, .string o, .string n] 35)).cell? ⟨w2.heap.size, 2, none⟩ = some (.string o) := cell_old (.cells #[.int .i64 kd, .string g0, .string o, .string n] 35) (cell_old (.cells #[.int .i64 6, .string g0, .string o, .string n] 35) (cell_old (.cells #[.int .i64 kd, .string ⟨#[]⟩, .string o, .string n] 35) (cell_newAt w2 #[.int .i64 kd, .string g, .string o, .string n] 35 (w2.heap.size) 2 _ rfl rfl)))
        have u62 : ((((w2.alloc (.cells #[.int .i64 kd, .string g, .string o, .string n] 35)).alloc (.cells #[.int .i64 kd, .string ⟨#[]⟩, .string o, .string n] 35)).alloc (.cells #[.int .i64 6, .string g0, .string o, .string n] 35)).alloc (.cells #[.int .i64 kd, .string g0, .string o, .string n] 35)).cell? ⟨w2.heap.size + 1, 2, none⟩ = some (.string o) := cell_old (.cells #[.int .i64 kd, .string g0, .string o, .string n] 35) (cell_old (.cells #[.int .i64 6, .string g0, .string o, .string n] 35) (cell_newAt (w2.alloc (.cells #[.int .i64 kd, .string g, .string o, .string n] 35)) #[.int .i64 kd, .string ⟨#[]⟩, .string o, .string n] 35 (w2.heap.size + 1) 2 _ (by simp) rfl))
        have u72 : ((((w2.alloc (.cells #[.int .i64 kd, .string g, .string o, .string n] 35)).alloc (.cells #[.int .i64 kd, .string ⟨#[]⟩, .string o, .string n] 35)).alloc (.cells #[.int .i64 6, .string g0, .string o, .string n] 35)).alloc (.cells #[.int .i64 kd, .string g0, .string o, .string n] 35)).cell? ⟨w2.heap.size + 1 + 1, 2, none⟩ = some (.string o) := cell_old (.cells #[.int .i64 kd, .string g0, .string o, .string n] 35) (cell_newAt ((w2.alloc (.cells #[.int .i64 kd, .string g, .string o, .string n] 35)).alloc (.cells #[.int .i64 kd, .string ⟨#[]⟩, .string o, .string n] 35)) #[.int .i64 6, .string g0, .string o, .string n] 35 (w2.heap.size + 1 + 1) 2 _ (by simp) rfl)
        have u82 : ((((w2.alloc (.cells #[.int .i64 kd, .string g, .string o, .string n] 35)).alloc (.cells #[.int .i64 kd, .string ⟨#[]⟩, .string o, .string n] 35)).alloc (.cells #[.int .i64 6, .string g0, .string o, .string n] 35)).alloc (.cells #[.int .i64 kd, .string g0, .string o, .string n] 35)).cell? ⟨w2.heap.size + 1 + 1 + 1, 2, none⟩ = some (.string o) := cell_newAt (((w2.alloc (.cells #[.int .i64 kd, .string g, .string o, .string n] 35)).alloc (.cells #[.int .i64 kd, .string ⟨#[]⟩, .string o, .string n] 35)).alloc (.cells #[.int .i64 6, .string g0, .string o, .string n] 35)) #[.int .i64 kd, .string g0, .string o, .string n] 35 (w2.heap.size + 1 + 1 + 1) 2 _ (by simp) rfl
        have u53 : ((((w2.alloc (.cells #[.int .i64 kd, .string g, .string o, .string n] 35)).alloc (.cells #[.int .i64 kd, .string ⟨#[]⟩, .string o, .string n] 35)).alloc (.cells #[.int .i64 6, .string g0, .string o, .string n] 35)).alloc (.cells #[.int .i64 kd, .string g0, .string o, .string n] 35)).cell? ⟨w2.heap.size, 3, none⟩ = some (.string n) := cell_old (.cells #[.int .i64 kd, .string g0, .string o, .string n] 35) (cell_old (.cells #[.int .i64 6, .string g0, .string o, .string n] 35) (cell_old (.cells #[.int .i64 kd, .string ⟨#[]⟩, .string o, .string n] 35) (cell_newAt w2 #[.int .i64 kd, .string g, .string o, .string n] 35 (w2.heap.size) 3 _ rfl rfl)))
        have u63 : ((((w2.alloc (.cells #[.int .i64 kd, .string g, .string o, .string n] 35)).alloc (.cells #[.int .i64 kd, .string ⟨#[]⟩, .string o, .string n] 35)).alloc (.cells #[.int .i64 6, .string g0, .string o, .string n] 35)).alloc (.cells #[.int .i64 kd, .string g0, .string o, .string n] 35)).cell? ⟨w2.heap.size + 1, 3, none⟩ = some (.string n) := cell_old (.cells #[.int .i64 kd, .string g0, .string o, .string n] 35) (cell_old (.cells #[.int .i64 6, .string g0, .string o, .string n] 35) (cell_newAt (w2.alloc (.cells #[.int .i64 kd, .string g, .string o, .string n] 35)) #[.int .i64 kd, .string ⟨#[]⟩, .string o, .string n] 35 (w2.heap.size + 1) 3 _ (by simp) rfl))
        have u73 : ((((w2.alloc (.cells #[.int .i64 kd, .string g, .string o, .string n] 35)).alloc (.cells #[.int .i64 kd, .string ⟨#[]⟩, .string o, .string n] 35)).alloc (.cells #[.int .i64 6, .string g0, .string o, .string n] 35)).alloc (.cells #[.int .i64 kd, .string g0, .string o, .string n] 35)).cell? ⟨w2.heap.size + 1 + 1, 3, none⟩ = some (.string n) := cell_old (.cells #[.int .i64 kd, .string g0, .string o, .string n] 35) (cell_newAt ((w2.alloc (.cells #[.int .i64 kd, .string g, .string o, .string n] 35)).alloc (.cells #[.int .i64 kd, .string ⟨#[]⟩, .string o, .string n] 35)) #[.int .i64 6, .string g0, .string o, .string n] 35 (w2.heap.size + 1 + 1) 3 _ (by simp) rfl)
        have u83 : ((((w2.alloc (.cells #[.int .i64 kd, .string g, .string o, .string n] 35)).alloc (.cells #[.int .i64 kd, .string ⟨#[]⟩, .string o, .string n] 35)).alloc (.cells #[.int .i64 6, .string g0, .string o, .string n] 35)).alloc (.cells #[.int .i64 kd, .string g0, .string o, .string n] 35)).cell? ⟨w2.heap.size + 1 + 1 + 1, 3, none⟩ = some (.string n) := cell_newAt (((w2.alloc (.cells #[.int .i64 kd, .string g, .string o, .string n] 35)).alloc (.cells #[.int .i64 kd, .string ⟨#[]⟩, .string o, .string n] 35)).alloc (.cells #[.int .i64 6, .string g0, .string o, .string n] 35)) #[.int .i64 kd, .string g0, .string o, .string n] 35 (w2.heap.size + 1 + 1 + 1) 3 _ (by simp) rfl
        have fz8 : ((((w2.alloc (.cells #[.int .i64 kd, .string g, .string o, .string n] 35)).alloc (.cells #[.int .i64 kd, .string ⟨#[]⟩, .string o, .string n] 35)).alloc (.cells #[.int .i64 6, .string g0, .string o, .string n] 35)).alloc (.cells #[.int .i64 kd, .string g0, .string o, .string n] 35)).frozen? ⟨w2.heap.size + 1 + 1 + 1, 2, none⟩ = false := frozen_newAt _ _ _ _ 2 (by simp)
        have hbX : Below w2.heap.size w2 ((((w2.alloc (.cells #[.int .i64 kd, .string g, .string o, .string n] 35)).alloc (.cells #[.int .i64 kd, .string ⟨#[]⟩, .string o, .string n] 35)).alloc (.cells #[.int .i64 6, .string g0, .string o, .string n] 35)).alloc (.cells #[.int .i64 kd, .string g0, .string o, .string n] 35)) := ((((Below.refl _ w2).alloc (Nat.le_refl _) _).alloc (by simp) _).alloc (by simp; omega) _).alloc (by simp; omega) _
        have hszX : ((((w2.alloc (.cells #[.int .i64 kd, .string g, .string o, .string n] 35)).alloc (.cells #[.int .i64 kd, .string ⟨#[]⟩, .string o, .string n] 35)).alloc (.cells #[.int .i64 6, .string g0, .string o, .string n] 35)).alloc (.cells #[.int .i64 kd, .string g0, .string o, .string n] 35)).heap.size = w2.heap.size + 4 := by simp
        obtain ⟨Z, hZ⟩ : ∃ Z, Z = ((((w2.alloc (.cells #[.int .i64 kd, .string g, .string o, .string n] 35)).alloc (.cells #[.int .i64 kd, .string ⟨#[]⟩, .string o, .string n] 35)).alloc (.cells #[.int .i64 6, .string g0, .string o, .string n] 35)).alloc (.cells #[.int .i64 kd, .string g0, .string o, .string n] 35)) := ⟨_, rfl⟩
        simp only [← hZ] at u50 u60 u70 u80 u51 u61 u71 u81 u52 u62 u72 u82 u53 u63 u73 u83 fz8 hbX hszX
        have hmZ := pw_cell hbX hm2
        have hEZ := hE2.below hbX
        have hbZ := hb2.trans (hbX.mono hb2.size)
        go_wp2
        try simp only [← hZ]
        have hl2 := World.block_lt_of_cell? _ _ hm2
        go_loopw [] (fun wr => ∃ s : ByteArray, wr.cell? ⟨w2.heap.size + 1 + 1 + 1, 2, none⟩ = some (.string s) ∧ Aside0 (Chg (fun k => k = w2.heap.size + 1 + 1 + 1) Z wr) ∧ Aside0 (wr.frozen? ⟨w2.heap.size + 1 + 1 + 1, 2, none⟩ = false) ∧ Aside0 (wr.cell? ⟨w2.heap.size + 1 + 1 + 1, 0, none⟩ = some (.int .i64 kd) ∧ wr.cell? ⟨w2.heap.size + 1 + 1 + 1, 1, none⟩ = some (.string g0) ∧ wr.cell? ⟨w2.heap.size + 1 + 1 + 1, 3, none⟩ = some (.string n)) ∧ s.size ≤ 101) (fun wr => leftOf (w2.heap.size + 1 + 1 + 1) wr)
        case atStart => exact ⟨o, u82, ⟨Chg.refl _ _⟩, ⟨fz8⟩, ⟨u80, u81, u83⟩, by omega⟩
        case round =>
          obtain ⟨s, hs, HC, HF, HK, hsz⟩ := hrel
          by_cases h100 : (s.size : Int) ≤ 100
          · have g1 : (9223372036854775807 < s.size + 1) = False := by simp; omega
            have hf := HF.out
            have hsz2 : (s ++ (⟨#[97]⟩ : ByteArray)).size = s.size + 1 := by rw [ByteArray.size_append]; rfl
            clear u50 u51 u52 u53 u60 u61 u62 u63 u70 u71 u72 u73 u80 u81 u82 u83
            go_wp2
            go_roundw
            case rel => exact ⟨s ++ ⟨#[97]⟩, World.cell?_setCell_same _ _ _ hs, ⟨HC.out.setCell (.inl rfl) _⟩, ⟨by rw [World.frozen?_setCell]; exact hf⟩, ⟨setc_other (by simp) HK.out.1, setc_other (by simp) HK.out.2.1, setc_other (by simp) HK.out.2.2⟩, by rw [hsz2]; omega⟩
            case measure => rw [leftOf_at (World.cell?_setCell_same _ _ _ hs), leftOf_at hs, hsz2]; omega
          · have h101 : 100 < (s.size : Int) := by omega
            have HLG := Lib.hid (right_long (kd := kd) (g := g0) (n := n) (show 100 < s.size by omega))
            have HNG := Lib.hid (right_noglob kd o n)
            have HSX := Lib.hid (right_six g0 o n)
            clear h100
            have hbr : Below w2.heap.size w2 wr := hbX.trans (HC.out.below (B := w2.heap.size) (by omega) (fun k hk e => by omega))
            have hmr := pw_cell hbr hm2
            have hEr := hE2.below hbr
            have hbw := hb2.trans (hbr.mono hb2.size)
            have hwr := HC.out.size
            have v50 := HC.out.cell u50 (by show ¬ w2.heap.size = w2.heap.size + 1 + 1 + 1; omega)
            have v60 := HC.out.cell u60 (by show ¬ w2.heap.size + 1 = w2.heap.size + 1 + 1 + 1; omega)
            have v70 := HC.out.cell u70 (by show ¬ w2.heap.size + 1 + 1 = w2.heap.size + 1 + 1 + 1; omega)
            have v51 := HC.out.cell u51 (by show ¬ w2.heap.size = w2.heap.size + 1 + 1 + 1; omega)
            have v61 := HC.out.cell u61 (by show ¬ w2.heap.size + 1 = w2.heap.size + 1 + 1 + 1; omega)
            have v71 := HC.out.cell u71 (by show ¬ w2.heap.size + 1 + 1 = w2.heap.size + 1 + 1 + 1; omega)
            have v52 := HC.out.cell u52 (by show ¬ w2.heap.size = w2.heap.size + 1 + 1 + 1; omega)
            have v62 := HC.out.cell u62 (by show ¬ w2.heap.size + 1 = w2.heap.size + 1 + 1 + 1; omega)
            have v72 := HC.out.cell u72 (by show ¬ w2.heap.size + 1 + 1 = w2.heap.size + 1 + 1 + 1; omega)
            have v53 := HC.out.cell u53 (by show ¬ w2.heap.size = w2.heap.size + 1 + 1 + 1; omega)
            have v63 := HC.out.cell u63 (by show ¬ w2.heap.size + 1 = w2.heap.size + 1 + 1 + 1; omega)
            have v73 := HC.out.cell u73 (by show ¬ w2.heap.size + 1 + 1 = w2.heap.size + 1 + 1 + 1; omega)
            obtain ⟨v80, v81, v83⟩ := HK.out
            have v82 := hs
            have HLT2 := Aside0.mk hbw
            clear u50 u51 u52 u53 u60 u61 u62 u63 u70 u71 u72 u73 u80 u81 u82 u83 hbr hbX hs hm2 hmZ hEZ hbZ fz8
            have hbA := (Below.refl wr.heap.size wr).alloc (Nat.le_refl _) (.cells #[.int .i64 kd, .string g, .string o, .string n] 35)
            have hmA := pw_cell hbA hmr
            have hEA := hEr.below hbA
            have hbB := hbw.trans (hbA.mono hbw.size)
            have x50 := cell_old (.cells #[.int .i64 kd, .string g, .string o, .string n] 35) v50
            have x51 := cell_old (.cells #[.int .i64 kd, .string g, .string o, .string n] 35) v51
            have x52 := cell_old (.cells #[.int .i64 kd, .string g, .string o, .string n] 35) v52
            have x53 := cell_old (.cells #[.int .i64 kd, .string g, .string o, .string n] 35) v53
            have x60 := cell_old (.cells #[.int .i64 kd, .string g, .string o, .string n] 35) v60
            have x61 := cell_old (.cells #[.int .i64 kd, .string g, .string o, .string n] 35) v61
            have x62 := cell_old (.cells #[.int .i64 kd, .string g, .string o, .string n] 35) v62
            have x63 := cell_old (.cells #[.int .i64 kd, .string g, .string o, .string n] 35) v63
            have x70 := cell_old (.cells #[.int .i64 kd, .string g, .string o, .string n] 35) v70
            have x71 := cell_old (.cells #[.int .i64 kd, .string g, .string o, .string n] 35) v71
            have x72 := cell_old (.cells #[.int .i64 kd, .string g, .string o, .string n] 35) v72
            have x73 := cell_old (.cells #[.int .i64 kd, .string g, .string o, .string n] 35) v73
            have x80 := cell_old (.cells #[.int .i64 kd, .string g, .string o, .string n] 35) v80
            have x81 := cell_old (.cells #[.int .i64 kd, .string g, .string o, .string n] 35) v81
            have x82 := cell_old (.cells #[.int .i64 kd, .string g, .string o, .string n] 35) v82
            have x83 := cell_old (.cells #[.int .i64 kd, .string g, .string o, .string n] 35) v83
            have hRow : RowsAt (wr.alloc (.cells #[.int .i64 kd, .string g, .string o, .string n] 35)) (some ⟨wr.heap.size, 0, none⟩) [(kd, g, o, n)] := rowsAt_one (cell_new wr _ _ 0 _ rfl) (cell_new wr _ _ 1 _ rfl) (cell_new wr _ _ 2 _ rfl) (cell_new wr _ _ 3 _ rfl)
            have hlb : longB ([(kd, g, o, n)].map rvOf) = 1 + g.size + o.size + n.size := by simp [longB, rvOf, rv, bs]
            have hp0 := print_calls [(kd, g, o, n)] (some ⟨wr.heap.size, 0, none⟩) 1 m (wr.alloc (.cells #[.int .i64 kd, .string g, .string o, .string n] 35)) hRow hmA (by rw [hlb]; show 10 * 1 + _ ≤ _; omega)
            clear hRow hlb
            cases hr5 : rightB (rv kd g o n) with
            | false =>
              have HR5 := Lib.hid hr5
              have hpb : printB ([(kd, g, o, n)].map rvOf) = ([], 2) := by
                unfold printB
                have e : ([(kd, g, o, n)].map rvOf).all rightB = false := by simp [rvOf, hr5]
                rw [e]; rfl
              rw [hpb] at hp0
              clear hr5 hpb
              have hp1 : Calls Tryd.prog 22 #[.slice (some ⟨wr.heap.size, 0, none⟩) 1 1] (wr.alloc (.cells #[.int .i64 kd, .string g, .string o, .string n] 35)) _ := hp0
              clear hp0
              go_wp2_with fail
              with_reducible refine hp1.mono ?_
              rintro e y0 ⟨⟨rr, rfl, -⟩, hb⟩
              have hmy0 := pw_cell hb hmA
              have hEy0 := hEA.below hb
              have hby0 := hbB.trans (hb.mono hbB.size)
              have z050 := pw_cell hb x50
              have z051 := pw_cell hb x51
              have z052 := pw_cell hb x52
              have z053 := pw_cell hb x53
              have z060 := pw_cell hb x60
              have z061 := pw_cell hb x61
              have z062 := pw_cell hb x62
              have z063 := pw_cell hb x63
              have z070 := pw_cell hb x70
              have z071 := pw_cell hb x71
              have z072 := pw_cell hb x72
              have z073 := pw_cell hb x73
              have z080 := pw_cell hb x80
              have z081 := pw_cell hb x81
              have z082 := pw_cell hb x82
              have z083 := pw_cell hb x83
              clear hb
              go_wp2_with fail
              with_reducible refine (rright_calls kd g o n m _ hmy0 ?a1 ?a2 ?a3).mono ?_
              case a1 => first | omega | decide
              case a2 => omega
              case a3 => omega
              rintro e y1 ⟨rfl, hb⟩
              rw [HR5.out]
              have hmy1 := pw_cell hb hmy0
              have hEy1 := hEy0.below hb
              have hby1 := hby0.trans (hb.mono hby0.size)
              have z160 := pw_cell hb z060
              have z161 := pw_cell hb z061
              have z162 := pw_cell hb z062
              have z163 := pw_cell hb z063
              have z170 := pw_cell hb z070
              have z171 := pw_cell hb z071
              have z172 := pw_cell hb z072
              have z173 := pw_cell hb z073
              have z180 := pw_cell hb z080
              have z181 := pw_cell hb z081
              have z182 := pw_cell hb z082
              have z183 := pw_cell hb z083
              clear hb
              go_wp2_with fail
              with_reducible refine (rright_calls kd ⟨#[]⟩ o n m _ hmy1 ?a1 ?a2 ?a3).mono ?_
              case a1 => first | omega | decide
              case a2 => omega
              case a3 => omega
              rintro e y2 ⟨rfl, hb⟩
              rw [HNG.out]
              have hmy2 := pw_cell hb hmy1
              have hEy2 := hEy1.below hb
              have hby2 := hby1.trans (hb.mono hby1.size)
              have z270 := pw_cell hb z170
              have z271 := pw_cell hb z171
              have z272 := pw_cell hb z172
              have z273 := pw_cell hb z173
              have z280 := pw_cell hb z180
              have z281 := pw_cell hb z181
              have z282 := pw_cell hb z182
              have z283 := pw_cell hb z183
              clear hb
              go_wp2_with fail
              with_reducible refine (rright_calls 6 g0 o n m _ hmy2 ?a1 ?a2 ?a3).mono ?_
              case a1 => first | omega | decide
              case a2 => omega
              case a3 => omega
              rintro e y3 ⟨rfl, hb⟩
              rw [HSX.out]
              have hmy3 := pw_cell hb hmy2
              have hEy3 := hEy2.below hb
              have hby3 := hby2.trans (hb.mono hby2.size)
              have z380 := pw_cell hb z280
              have z381 := pw_cell hb z281
              have z382 := pw_cell hb z282
              have z383 := pw_cell hb z283
              clear hb
              go_wp2_with fail
              with_reducible refine (rright_calls kd g0 s n m _ hmy3 ?a1 ?a2 ?a3).mono ?_
              case a1 => first | omega | decide
              case a2 => omega
              case a3 => omega
              rintro e y4 ⟨rfl, hb⟩
              rw [HLG.out]
              have hmy4 := pw_cell hb hmy3
              have hEy4 := hEy3.below hb
              have hby4 := hby3.trans (hb.mono hby3.size)
              clear hb
              go_wp2_with fail
              refine (known_calls m _ hmy4 hEy4).mono ?_
              rintro e y5 ⟨rfl, hb⟩
              go_wp2
              go_ret
              exact ⟨rfl, hby4.trans (hb.mono hby4.size)⟩
            | true =>
              have HR5 := Lib.hid hr5
              have hpb : printB ([(kd, g, o, n)].map rvOf) = (linesOf ([(kd, g, o, n)].map rvOf), 0) := by
                unfold printB
                have e : ([(kd, g, o, n)].map rvOf).all rightB = true := by simp [rvOf, hr5]
                rw [e]; rfl
              rw [hpb] at hp0
              clear hr5 hpb
              have hp1 : Calls Tryd.prog 22 #[.slice (some ⟨wr.heap.size, 0, none⟩) 1 1] (wr.alloc (.cells #[.int .i64 kd, .string g, .string o, .string n] 35)) _ := hp0
              clear hp0
              go_wp2_with fail
              with_reducible refine hp1.mono ?_
              rintro e y0 ⟨⟨rr, rfl, -⟩, hb⟩
              have hmy0 := pw_cell hb hmA
              have hEy0 := hEA.below hb
              have hby0 := hbB.trans (hb.mono hbB.size)
              have z050 := pw_cell hb x50
              have z051 := pw_cell hb x51
              have z052 := pw_cell hb x52
              have z053 := pw_cell hb x53
              have z060 := pw_cell hb x60
              have z061 := pw_cell hb x61
              have z062 := pw_cell hb x62
              have z063 := pw_cell hb x63
              have z070 := pw_cell hb x70
              have z071 := pw_cell hb x71
              have z072 := pw_cell hb x72
              have z073 := pw_cell hb x73
              have z080 := pw_cell hb x80
              have z081 := pw_cell hb x81
              have z082 := pw_cell hb x82
              have z083 := pw_cell hb x83
              clear hb
              go_wp2_with fail
              with_reducible refine (rright_calls kd g o n m _ hmy0 ?a1 ?a2 ?a3).mono ?_
              case a1 => first | omega | decide
              case a2 => omega
              case a3 => omega
              rintro e y1 ⟨rfl, hb⟩
              rw [HR5.out]
              have hmy1 := pw_cell hb hmy0
              have hEy1 := hEy0.below hb
              have hby1 := hby0.trans (hb.mono hby0.size)
              have z160 := pw_cell hb z060
              have z161 := pw_cell hb z061
              have z162 := pw_cell hb z062
              have z163 := pw_cell hb z063
              have z170 := pw_cell hb z070
              have z171 := pw_cell hb z071
              have z172 := pw_cell hb z072
              have z173 := pw_cell hb z073
              have z180 := pw_cell hb z080
              have z181 := pw_cell hb z081
              have z182 := pw_cell hb z082
              have z183 := pw_cell hb z083
              clear hb
              go_wp2_with fail
              with_reducible refine (rright_calls kd ⟨#[]⟩ o n m _ hmy1 ?a1 ?a2 ?a3).mono ?_
              case a1 => first | omega | decide
              case a2 => omega
              case a3 => omega
              rintro e y2 ⟨rfl, hb⟩
              rw [HNG.out]
              have hmy2 := pw_cell hb hmy1
              have hEy2 := hEy1.below hb
              have hby2 := hby1.trans (hb.mono hby1.size)
              have z270 := pw_cell hb z170
              have z271 := pw_cell hb z171
              have z272 := pw_cell hb z172
              have z273 := pw_cell hb z173
              have z280 := pw_cell hb z180
              have z281 := pw_cell hb z181
              have z282 := pw_cell hb z182
              have z283 := pw_cell hb z183
              clear hb
              go_wp2_with fail
              with_reducible refine (rright_calls 6 g0 o n m _ hmy2 ?a1 ?a2 ?a3).mono ?_
              case a1 => first | omega | decide
              case a2 => omega
              case a3 => omega
              rintro e y3 ⟨rfl, hb⟩
              rw [HSX.out]
              have hmy3 := pw_cell hb hmy2
              have hEy3 := hEy2.below hb
              have hby3 := hby2.trans (hb.mono hby2.size)
              have z380 := pw_cell hb z280
              have z381 := pw_cell hb z281
              have z382 := pw_cell hb z282
              have z383 := pw_cell hb z283
              clear hb
              go_wp2_with fail
              with_reducible refine (rright_calls kd g0 s n m _ hmy3 ?a1 ?a2 ?a3).mono ?_
              case a1 => first | omega | decide
              case a2 => omega
              case a3 => omega
              rintro e y4 ⟨rfl, hb⟩
              rw [HLG.out]
              have hmy4 := pw_cell hb hmy3
              have hEy4 := hEy3.below hb
              have hby4 := hby3.trans (hb.mono hby3.size)
              clear hb
              go_wp2_with fail
              refine (known_calls m _ hmy4 hEy4).mono ?_
              rintro e y5 ⟨rfl, hb⟩
              go_wp2
              go_ret
              exact ⟨rfl, hby4.trans (hb.mono hby4.size)⟩
end Go.Proofs.YthiplpgkgnebfaaDoor
