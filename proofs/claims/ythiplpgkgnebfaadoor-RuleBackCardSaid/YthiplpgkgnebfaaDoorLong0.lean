/- quilterref11.Long and Same: what they answer. -/
import Derived.Test.YthiplpgkgnebfaaDoorPrint0
import Derived.Test.YthiplpgkgnebfaaDoorWEqStruct
import Derived.BigRegion
namespace Go.Proofs.YthiplpgkgnebfaaDoor
open Go.RowKit Go.Shelf Go.Proofs.YthiplpgkgnebfaaDoorW.PrintWords
set_option linter.unusedSimpArgs false
set_option linter.unusedVariables false

theorem eqA35 (d : Nat) (w : World) (x0 y0 : Int) (x1 y1 : ByteArray) (x2 y2 : ByteArray) (x3 y3 : ByteArray) :
    (Op.equalIn (d + 2) 35 (.agg #[.int .i64 x0, .string x1, .string x2, .string x3]) (.agg #[.int .i64 y0, .string y1, .string y2, .string y3])).run Tryd.prog w = .ok (x0 == y0 && (x1.toList == y1.toList && (x2.toList == y2.toList && (x3.toList == y3.toList)))) w := by
  refine eqA_of Tryd.underlying35 (by kernel_rfl) ?_
  refine eqf_cons (by rfl) (by go_simp; rfl) (by go_simp; rfl) (by go_simp) ?_
  refine eqf_cons (by rfl) (by go_simp; rfl) (by go_simp; rfl) (by go_simp) ?_
  refine eqf_cons (by rfl) (by go_simp; rfl) (by go_simp; rfl) (by go_simp) ?_
  exact eqf_last (by rfl) (by go_simp; rfl) (by go_simp; rfl) (by go_simp)
attribute [local go_sem high] eqA35
theorem longB_snoc (l : List RuleV) (r : RuleV) : longB (l ++ [r]) = longB l + (1 + r.glob.length + r.old.length + r.new.length) := by simp [longB]
theorem longB_le {l : List RuleC} {B : Nat} (h : ∀ x ∈ l, x.2.1.size ≤ B ∧ x.2.2.1.size ≤ B ∧ x.2.2.2.size ≤ B) : longB (l.map rvOf) ≤ l.length * (1 + 3 * B) := by
  induction l with
  | nil => simp [longB]
  | cons x l ih =>
    have h1 := h x (by simp)
    have h2 := ih (fun y hy => h y (by simp [hy]))
    have e : longB ((x :: l).map rvOf) = (1 + x.2.1.size + x.2.2.1.size + x.2.2.2.size) + longB (l.map rvOf) := by simp [longB, rvOf, rv, bs]
    rw [e, List.length_cons, Nat.succ_mul]; omega
theorem drawn_below {w w' : World} (h : Drawn0 w w') : Below w.heap.size w w' := h.below

set_option maxRecDepth 100000 in
set_option maxHeartbeats 1000000 in
theorem long_calls (l : List RuleC) (A : Option Addr) (c : Nat) (w : World) (hR : RowsAt w A l) (hs : ∀ x ∈ l, x.2.1.size ≤ 140737488355328 ∧ x.2.2.1.size ≤ 140737488355328 ∧ x.2.2.2.size ≤ 140737488355328) (hn : l.length ≤ 100) :
    Calls Tryd.prog 21 #[.slice A l.length c] w fun e w' => e = .returned (.int .i64 (longB (l.map rvOf))) ∧ Drawn0 w w' := by
  go_enter Tryd.func21, Tryd.ntmps21
  go_wp2
  go_loopw [3, 4] (fun v i wr => ∃ k N : Nat, k ≤ l.length ∧ v = .int .i64 N ∧ i = .int .i64 k ∧ Aside0 (N = longB ((l.take k).map rvOf)) ∧ N ≤ 50000000000000000 ∧ Aside0 (Drawn0 w wr)) (fun _ i _ => l.length - (intOf i).toNat)
  case atStart => exact ⟨0, 0, Nat.zero_le _, rfl, rfl, ⟨rfl⟩, by decide, ⟨Drawn0.refl _⟩⟩
  case round =>
    obtain ⟨k, N, hk, rfl, rfl, HN, hNb, HD⟩ := hrel
    by_cases hlt : k < l.length
    · obtain ⟨⟨kd, g, o, nw⟩, hx⟩ : ∃ x, l[k]? = some x := ⟨l[k], List.getElem?_eq_getElem hlt⟩
      obtain ⟨ad, rfl, x0, x1, x2, x3⟩ := (hR.kept (drawn_below HD.out)) k _ hx
      obtain ⟨s1, s2, s3⟩ := hs _ (List.mem_of_getElem? hx)
      dsimp only at x0 x1 x2 x3 s1 s2 s3
      have hk0 : (0 : Int) ≤ k := by omega
      have hk1 : (k : Int) < l.length := by omega
      have e1 : ((l.take (k + 1)).map rvOf) = (l.take k).map rvOf ++ [rv kd g o nw] := by rw [take_snoc hx]; simp [rvOf]
      have HN2 := Aside0.mk (show N + 1 + g.size + o.size + nw.size = longB ((l.take (k + 1)).map rvOf) by
        rw [e1, longB_snoc, HN.out]; simp [rv, bs]; omega)
      have hle : longB ((l.take (k + 1)).map rvOf) ≤ 50000000000000000 := by
        have h1 := longB_le (l := l.take (k + 1)) (B := 140737488355328) (fun x hx => hs x (List.mem_of_mem_take hx))
        have h2 : (l.take (k + 1)).length ≤ 100 := by simp; omega
        have h3 := Nat.mul_le_mul_right (1 + 3 * 140737488355328) h2
        omega
      rw [← HN2.out] at hle
      clear hx e1
      go_wp2
      go_region
      go_wp2
      go_round
      case rel => exact ⟨k + 1, N + 1 + g.size + o.size + nw.size, by omega, by go_num, by go_num, HN2, hle, ⟨HD.out.step 1⟩⟩
      case measure => simp [intOf]; omega
    · have hge : (l.length : Int) ≤ k := by omega
      have HK := Aside0.mk (show k = l.length by omega)
      clear hlt
      go_wp2
      go_ret
      refine ⟨?_, HD.out⟩
      show Ending.returned (.int .i64 (N : Int)) = _
      rw [HN.out, HK.out, List.take_length]

theorem rvOf_inj {x y : RuleC} (h : rvOf x = rvOf y) : x = y := by
  obtain ⟨a, b, c, d⟩ := x
  obtain ⟨a', b', c', d'⟩ := y
  simp only [rvOf, rv, RuleV.mk.injEq] at h
  obtain ⟨h1, h2, h3, h4⟩ := h
  rw [h1, bs_inj h2, bs_inj h3, bs_inj h4]
theorem map_inj {a b : List RuleC} (h : a.map rvOf = b.map rvOf) : a = b := by
  induction a generalizing b with
  | nil => cases b with | nil => rfl | cons y b => simp at h
  | cons x a ih =>
    cases b with
    | nil => simp at h
    | cons y b =>
      simp only [List.map_cons, List.cons.injEq] at h
      rw [rvOf_inj h.1, ih h.2]

set_option maxRecDepth 100000 in
set_option maxHeartbeats 1000000 in
theorem same_calls (a b : List RuleC) (A1 A2 : Option Addr) (c1 c2 : Nat) (w : World) (hA : RowsAt w A1 a) (hB : RowsAt w A2 b) (hn : a.length ≤ 1000) :
    Calls Tryd.prog 16 #[.slice A1 a.length c1, .slice A2 b.length c2] w fun e w' => e = .returned (.bool (decide (a = b))) ∧ Drawn0 w w' := by
  by_cases hl : a.length = b.length
  · have hlI : ((a.length : Int) != (b.length : Int)) = false := by rw [hl]; simp
    have HL := Aside0.mk hl
    clear hl
    go_enter Tryd.func16, Tryd.ntmps16
    go_wp2
    go_loopw [5] (fun i wr => ∃ k : Nat, k ≤ a.length ∧ i = .int .i64 k ∧ Aside0 (a.take k = b.take k) ∧ Aside0 (Drawn0 w wr)) (fun i _ => a.length - (intOf i).toNat)
    case atStart => exact ⟨0, Nat.zero_le _, rfl, ⟨rfl⟩, ⟨Drawn0.refl _⟩⟩
    case round =>
      obtain ⟨k, hk, rfl, HE, HD⟩ := hrel
      by_cases hlt : k < a.length
      · obtain ⟨⟨kd, g, o, nw⟩, hx⟩ : ∃ x, a[k]? = some x := ⟨a[k], List.getElem?_eq_getElem hlt⟩
        obtain ⟨⟨kd', g', o', nw'⟩, hy⟩ : ∃ x, b[k]? = some x := ⟨b[k]'(by have := HL.out; omega), List.getElem?_eq_getElem _⟩
        obtain ⟨ad, rfl, x0, x1, x2, x3⟩ := (hA.kept (drawn_below HD.out)) k _ hx
        obtain ⟨bd, rfl, y0, y1, y2, y3⟩ := (hB.kept (drawn_below HD.out)) k _ hy
        dsimp only at x0 x1 x2 x3 y0 y1 y2 y3
        have hk0 : (0 : Int) ≤ k := by omega
        have hk1 : (k : Int) < a.length := by omega
        have hk2 : (k : Int) < b.length := by have := HL.out; omega
        by_cases hxy : (kd, g, o, nw) = (kd', g', o', nw')
        · cases hxy
          have HE2 := Aside0.mk (show a.take (k + 1) = b.take (k + 1) by rw [take_snoc hx, take_snoc hy, HE.out])
          clear hx hy
          go_wp2
          go_region
          go_wp2
          go_round
          case rel => exact ⟨k + 1, by omega, by go_num, HE2, ⟨HD.out.step 1⟩⟩
          case measure => simp [intOf]; omega
        · have hne : (kd == kd' && (g.toList == g'.toList && (o.toList == o'.toList && (nw.toList == nw'.toList)))) = false := by
            rw [Bool.eq_false_iff]
            intro h
            simp only [Bool.and_eq_true, beq_iff_eq, ByteArray.toList_eq] at h
            obtain ⟨h1, h2, h3, h4⟩ := h
            exact hxy (by rw [h1, bs_inj h2, bs_inj h3, bs_inj h4])
          have HNE := Aside0.mk (show ¬ a = b by
            intro h; subst h; rw [hx] at hy; exact hxy (Option.some.inj hy))
          clear hx hy hxy
          go_wp2
          go_region
          go_wp2
          go_ret
          refine ⟨?_, HD.out.step 1⟩
          rw [decide_eq_false HNE.out]; rfl
      · have hge : (a.length : Int) ≤ k := by omega
        have HK := Aside0.mk (show a = b by
          have := HE.out
          rw [List.take_of_length_le (show a.length ≤ k by omega), List.take_of_length_le (show b.length ≤ k by have := HL.out; omega)] at this; exact this)
        clear hlt
        go_wp2
        go_ret
        refine ⟨?_, HD.out⟩
        rw [decide_eq_true HK.out]; rfl
  · have hlI : ((a.length : Int) != (b.length : Int)) = true := by rw [bne_iff_ne]; omega
    have HNE := Aside0.mk (show ¬ a = b by intro h; subst h; exact hl rfl)
    clear hl
    go_enter Tryd.func16, Tryd.ntmps16
    go_wp2
    go_ret
    refine ⟨?_, Drawn0.refl _⟩
    rw [decide_eq_false HNE.out]; rfl
end Go.Proofs.YthiplpgkgnebfaaDoor
