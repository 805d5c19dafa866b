/- quilterlaw11.RuleWrong: the walk. -/
import Derived.Test.YthiplpgkgnebfaaDoorKnown0
import Derived.Test.YthiplpgkgnebfaaDoorLong0
import Derived.DataElems
namespace Go.Proofs.YthiplpgkgnebfaaDoor
open Go.RowKit Go.Shelf Go.Proofs.YthiplpgkgnebfaaDoorW.PrintWords
set_option linter.unusedSimpArgs false
set_option linter.unusedVariables false

theorem RowsAt.take {w : World} {A : Option Addr} {l : List RuleC} (h : RowsAt w A l) (k : Nat) : RowsAt w A (l.take k) := fun j x hj => h j x (by rw [List.getElem?_take] at hj; split at hj <;> simp_all)
theorem RowsAt.drop {w : World} {ad : Addr} {l : List RuleC} (h : RowsAt w (some ad) l) (k : Nat) : RowsAt w (some (ad.add (k * 4))) (l.drop k) := fun j x hj => by
  obtain ⟨a, e, h1⟩ := h (k + j) x (by rw [List.getElem?_drop] at hj; exact hj)
  cases e
  refine ⟨_, rfl, ?_⟩
  have e2 : (ad.add (k * 4)).add (j * 4) = ad.add ((k + j) * 4) := by rw [Addr.add_add]; congr 1; omega
  rw [e2]; exact h1
theorem RowsAt.empty {w : World} {A : Option Addr} {l : List RuleC} (h : l = []) : RowsAt w A l := by subst h; exact fun j x hj => by simp at hj
theorem RowsAt.dropMap {w : World} {A : Option Addr} {l : List RuleC} (h : RowsAt w A l) (k : Nat) : RowsAt w (A.map fun x => x.add (k * 4)) (l.drop k) := by
  cases A with
  | some ad => exact h.drop k
  | none =>
    intro j x hj
    obtain ⟨a, e, -⟩ := h (k + j) x (by rw [List.getElem?_drop] at hj; exact hj)
    cases e
theorem bs_size (s : ByteArray) : (bs s).length = s.size := by simp [bs]
theorem RowsAt.none {w : World} {l : List RuleC} (h : RowsAt w none l) : l = [] := by
  cases l with
  | nil => rfl
  | cons x l => obtain ⟨a, e, -⟩ := h 0 x rfl; cases e
def oddsL : List ByteArray := [⟨#[114, 101, 112, 108, 97, 99, 101]⟩, ⟨#[120, 32, 42, 42, 32, 97, 32, 98]⟩, ⟨#[114, 101, 112, 108, 97, 99, 101, 32, 42, 42, 32, 97, 45, 98, 32, 99]⟩, ⟨#[114, 101, 109, 111, 118, 101]⟩, ⟨#[114, 101, 109, 111, 118, 101, 32, 42, 42, 32, 97]⟩, ⟨#[115, 116, 114, 105, 107, 101, 32, 42, 42, 32, 97, 32, 98]⟩]
theorem odds_bad : ∀ s ∈ oddsL, oneB (splitB 32 (bs s)) = none ∧ bs s ≠ [] ∧ 10 ∉ bs s ∧ s.size ≤ 16 := by decide
theorem odds_at {i : Nat} (h : i < 6) : ∃ s ∈ oddsL, (oddsL.map Value.string)[i]? = some (.string s) := by
  match i, h with
  | 0, _ => exact ⟨_, .head _, rfl⟩
  | 1, _ => exact ⟨_, .tail _ (.head _), rfl⟩
  | 2, _ => exact ⟨_, .tail _ (.tail _ (.head _)), rfl⟩
  | 3, _ => exact ⟨_, .tail _ (.tail _ (.tail _ (.head _))), rfl⟩
  | 4, _ => exact ⟨_, .tail _ (.tail _ (.tail _ (.tail _ (.head _)))), rfl⟩
  | 5, _ => exact ⟨_, .tail _ (.tail _ (.tail _ (.tail _ (.tail _ (.head _))))), rfl⟩
theorem print_len {l : List RuleC} {B : Nat} (h : 10 * l.length + 3 * longB (l.map rvOf) ≤ B) : (printB (l.map rvOf)).1.length ≤ B := by
  unfold printB
  split
  · split
    · exact Nat.zero_le _
    · have := lines_len (l.map rvOf); simp at this ⊢; omega
  · exact Nat.zero_le _
theorem longB_app (a b : List RuleV) : longB (a ++ b) = longB a + longB b := by simp [longB]
set_option maxRecDepth 100000 in
set_option maxHeartbeats 4000000 in
theorem ruleWrong_calls (A : Option Addr) (l : List RuleC) (c : Nat) (zn za : Int) (m : Int) (w : World) (hM : w.cell? ⟨2, 0, none⟩ = some (.int .i64 m)) (hE : ErrAt w) (hR : RowsAt w A l) (hc : l.length ≤ c)
    (hs : ∀ x ∈ l, x.2.1.size ≤ 140737488355328 ∧ x.2.2.1.size ≤ 140737488355328 ∧ x.2.2.2.size ≤ 140737488355328) (hn0 : 0 ≤ zn) (hn1 : zn < 256) (ha0 : 0 ≤ za) (ha1 : za < 256) :
    Calls Tryd.prog 10 #[.slice A l.length c, .int .u8 zn, .int .u8 za] w fun e w' => e = .returned (.bool true) ∧ Below w.heap.size w w' := by
  by_cases h20 : 20 < (l.length : Int)
  · go_enter Tryd.func10, Tryd.ntmps10
    go_wp2_with fail
    refine (known_calls m _ hM hE).mono ?_
    rintro e w1 ⟨rfl, hb⟩
    go_wp2
    go_ret
    exact ⟨rfl, hb⟩
  · have hl20 : (l.length : Int) ≤ 20 := by omega
    clear h20
    have hL := long_calls l A c w hR hs (by omega)
    obtain ⟨N, hN⟩ : ∃ N, longB (l.map rvOf) = N := ⟨_, rfl⟩
    rw [hN] at hL
    have HN := Aside0.mk hN
    clear hN
    by_cases h1k : 1000 < (N : Int)
    · go_enter Tryd.func10, Tryd.ntmps10
      go_wp2_with fail
      refine hL.mono ?_
      rintro e w1 ⟨rfl, hd⟩
      have hb := drawn_below hd
      have hm1 := pw_cell hb hM
      have hE1 := hE.below hb
      go_wp2_with fail
      refine (known_calls m _ hm1 hE1).mono ?_
      rintro e w2 ⟨rfl, hb2⟩
      go_wp2
      go_ret
      exact ⟨rfl, hb.trans (hb2.mono hb.size)⟩
    · have hN1k : (N : Int) ≤ 1000 := by omega
      clear h1k
      obtain ⟨k, hk⟩ : ∃ k : Nat, za.tmod ((l.length : Int) + 1) = (k : Int) := by
        have h1 := Int.tmod_nonneg ((l.length : Int) + 1) ha0
        exact ⟨(za.tmod ((l.length : Int) + 1)).toNat, by omega⟩
      have hkl : (k : Int) ≤ l.length := by
        have h1 := Int.tmod_lt_of_pos za (b := (l.length : Int) + 1) (by omega)
        omega
      obtain ⟨i, hi⟩ : ∃ i : Nat, zn.tmod 6 = (i : Int) := by
        have h1 := Int.tmod_nonneg 6 hn0
        exact ⟨(zn.tmod 6).toNat, by omega⟩
      have hi6 : (i : Int) < 6 := by
        have h1 := Int.tmod_lt_of_pos zn (b := 6) (by omega)
        omega
      have hi0 : (0 : Int) ≤ i := by omega
      have hk0 : (0 : Int) ≤ k := by omega
      have hkc : (k : Int) ≤ c := by omega
      have hsp : l.map rvOf = (l.take k).map rvOf ++ (l.drop k).map rvOf := by rw [← List.map_append, List.take_append_drop]
      have hb12 : longB ((l.take k).map rvOf) + longB ((l.drop k).map rvOf) = N := by rw [← longB_app, ← hsp]; exact HN.out
      have hlt : (l.take k).length = k := by simp; omega
      have hld : (l.drop k).length = l.length - k := by simp
      have hq1 : 10 * (l.take k).length + 3 * longB ((l.take k).map rvOf) ≤ 3200 := by omega
      have hq2 : 10 * (l.drop k).length + 3 * longB ((l.drop k).map rvOf) ≤ 3200 := by omega
      obtain ⟨od, hod, hoc⟩ := odds_at (i := i) (by omega)
      obtain ⟨o1, o2, o3, o4⟩ := odds_bad od hod
      obtain ⟨p1, e1, hP1⟩ : ∃ p1 e1, printB ((l.take k).map rvOf) = (p1, e1) := ⟨_, _, rfl⟩
      obtain ⟨p2, e2, hP2⟩ : ∃ p2 e2, printB ((l.drop k).map rvOf) = (p2, e2) := ⟨_, _, rfl⟩
      have hz1 := print_len hq1
      have hz2 := print_len hq2
      rw [hP1] at hz1
      rw [hP2] at hz2
      have hodl : (bs od).length = od.size := by simp [bs]
      have hsum : p1.length + (bs od).length + 1 + p2.length ≤ 16384 := by dsimp only at hz1 hz2; omega
      have HW := Aside0.mk (fun (h1 : e1 = 0) (h2 : e2 = 0) => wrong_of (hP1.trans (by rw [h1])) (hP2.trans (by rw [h2])) o1 o2 o3 hsum)
      have HO := Aside0.mk (show ∀ W : World, (W.alloc (.cells #[.string ⟨#[114, 101, 112, 108, 97, 99, 101]⟩, .string ⟨#[120, 32, 42, 42, 32, 97, 32, 98]⟩, .string ⟨#[114, 101, 112, 108, 97, 99, 101, 32, 42, 42, 32, 97, 45, 98, 32, 99]⟩, .string ⟨#[114, 101, 109, 111, 118, 101]⟩, .string ⟨#[114, 101, 109, 111, 118, 101, 32, 42, 42, 32, 97]⟩, .string ⟨#[115, 116, 114, 105, 107, 101, 32, 42, 42, 32, 97, 32, 98]⟩] 9)).cell? ⟨W.heap.size, i, none⟩ = some (.string od) from fun W => cell_new W _ _ i _ (by rw [← hoc]; simp [oddsL]))
      clear hsp hb12 o1 o2 o3 hoc hod HN
      by_cases hck : c = k
      · subst hck
        go_enter Tryd.func10, Tryd.ntmps10
        go_wp2_with fail
        refine hL.mono ?_
        rintro e w1 ⟨rfl, hd⟩
        have hb1 := drawn_below hd
        have hm1 := pw_cell hb1 hM
        have hE1 := hE.below hb1
        have hp1 := print_calls (l.take c) A c m w1 ((hR.take c).kept hb1) hm1 (by omega)
        rw [hlt, hP1] at hp1
        clear hL hd
        go_wp2_with fail
        with_reducible refine hp1.mono ?_
        rintro e w2 ⟨⟨r1, rfl, hr1⟩, hb⟩
        have hm2 := pw_cell hb hm1
        have hE2 := hE1.below hb
        have hb2 := hb1.trans (hb.mono hb1.size)
        clear hb hm1 hE1
        have hp2 := print_calls (l.drop c) A 0 m w2 ((RowsAt.empty (by simp; omega)).kept hb2) hm2 (by omega)
        rw [hld, show l.length - c = 0 by omega, hP2] at hp2
        clear hp1
        go_wp2_with fail
        with_reducible refine hp2.mono ?_
        rintro e w3 ⟨⟨r2, rfl, hr2⟩, hb⟩
        have hm3 := pw_cell hb hm2
        have hE3 := hE2.below hb
        have hb3 := hb2.trans (hb.mono hb2.size)
        clear hb hm2 hE2
        clear hp2
        by_cases hz : e1 = 0 ∧ e2 = 0
        · obtain ⟨rfl, rfl⟩ := hz
          have hw := HW.out rfl rfl
          try dsimp only at hr1
          try dsimp only at hr2
          try dsimp only at hz1
          try dsimp only at hz2
          have s1 : r1.size ≤ 3200 := by rw [← bs_size r1, hr1]; exact hz1
          have s2 : r2.size ≤ 3200 := by rw [← bs_size r2, hr2]; exact hz2
          have g1 : (9223372036854775807 < r1.size + od.size) = False := by simp; omega
          have g2 : (9223372036854775807 < r1.size + od.size + 1) = False := by simp; omega
          have g3 : (9223372036854775807 < r1.size + od.size + 1 + r2.size) = False := by simp; omega
          have hcell := HO.out
          have hb4 := (Below.refl w3.heap.size w3).alloc (Nat.le_refl _) (.cells #[.string ⟨#[114, 101, 112, 108, 97, 99, 101]⟩, .string ⟨#[120, 32, 42, 42, 32, 97, 32, 98]⟩, .string ⟨#[114, 101, 112, 108, 97, 99, 101, 32, 42, 42, 32, 97, 45, 98, 32, 99]⟩, .string ⟨#[114, 101, 109, 111, 118, 101]⟩, .string ⟨#[114, 101, 109, 111, 118, 101, 32, 42, 42, 32, 97]⟩, .string ⟨#[115, 116, 114, 105, 107, 101, 32, 42, 42, 32, 97, 32, 98]⟩] 9)
          have hm4 := pw_cell hb4 hm3
          have hE4 := hE3.below hb4
          have hb5 := hb3.trans (hb4.mono hb3.size)
          go_wp2_with fail
          have hpc : parseB (bs (r1 ++ od ++ ⟨#[10]⟩ ++ r2)) = ([], 11) := by rw [show bs (r1 ++ od ++ ⟨#[10]⟩ ++ r2) = bs r1 ++ bs od ++ [10] ++ bs r2 by simp [bs], hr1, hr2]; exact hw
          have hsz : (r1 ++ od ++ (⟨#[10]⟩ : ByteArray) ++ r2).size ≤ 9223372036854775807 := by rw [ByteArray.size_append, ByteArray.size_append, ByteArray.size_append]; show r1.size + od.size + 1 + r2.size ≤ 9223372036854775807; omega
          with_reducible refine (parse_calls (r1 ++ od ++ ⟨#[10]⟩ ++ r2) m _ hm4 hE4 hsz).mono ?_
          rintro e w5 ⟨hres, hb⟩
          obtain rfl := hres.bad hpc (by decide)
          have hm5 := pw_cell hb hm4
          have hE5 := hE4.below hb
          have hb6 := hb5.trans (hb.mono hb5.size)
          go_wp2_with fail
          refine (known_calls m _ hm5 hE5).mono ?_
          rintro e w6 ⟨rfl, hb⟩
          go_wp2
          go_ret
          exact ⟨rfl, hb6.trans (hb.mono hb6.size)⟩
        · by_cases hz3 : e1 = 0
          · have hz4 : ¬ e2 = 0 := fun h => hz ⟨hz3, h⟩
            subst hz3
            have hz5 : (e2 != 0) = true := bne_iff_ne.2 hz4
            go_wp2_with fail
            refine (known_calls m _ hm3 hE3).mono ?_
            rintro e w4 ⟨rfl, hb⟩
            go_wp2
            go_ret
            exact ⟨rfl, hb3.trans (hb.mono hb3.size)⟩
          · have hz5 : (e1 != 0) = true := bne_iff_ne.2 hz3
            go_wp2_with fail
            refine (known_calls m _ hm3 hE3).mono ?_
            rintro e w4 ⟨rfl, hb⟩
            go_wp2
            go_ret
            exact ⟨rfl, hb3.trans (hb.mono hb3.size)⟩
      · have hkc2 : ¬ k = c := fun h => hck h.symm
        go_enter Tryd.func10, Tryd.ntmps10
        go_wp2_with fail
        refine hL.mono ?_
        rintro e w1 ⟨rfl, hd⟩
        have hb1 := drawn_below hd
        have hm1 := pw_cell hb1 hM
        have hE1 := hE.below hb1
        have hp1 := print_calls (l.take k) A c m w1 ((hR.take k).kept hb1) hm1 (by omega)
        rw [hlt, hP1] at hp1
        clear hL hd
        go_wp2_with fail
        with_reducible refine hp1.mono ?_
        rintro e w2 ⟨⟨r1, rfl, hr1⟩, hb⟩
        have hm2 := pw_cell hb hm1
        have hE2 := hE1.below hb
        have hb2 := hb1.trans (hb.mono hb1.size)
        clear hb hm1 hE1
        have hp2 := print_calls (l.drop k) (A.map fun x => x.add (k * 4)) (c - k) m w2 ((hR.dropMap k).kept hb2) hm2 (by omega)
        rw [hld, hP2] at hp2
        clear hp1
        go_wp2_with fail
        with_reducible refine hp2.mono ?_
        rintro e w3 ⟨⟨r2, rfl, hr2⟩, hb⟩
        have hm3 := pw_cell hb hm2
        have hE3 := hE2.below hb
        have hb3 := hb2.trans (hb.mono hb2.size)
        clear hb hm2 hE2
        clear hp2
        by_cases hz : e1 = 0 ∧ e2 = 0
        · obtain ⟨rfl, rfl⟩ := hz
          have hw := HW.out rfl rfl
          try dsimp only at hr1
          try dsimp only at hr2
          try dsimp only at hz1
          try dsimp only at hz2
          have s1 : r1.size ≤ 3200 := by rw [← bs_size r1, hr1]; exact hz1
          have s2 : r2.size ≤ 3200 := by rw [← bs_size r2, hr2]; exact hz2
          have g1 : (9223372036854775807 < r1.size + od.size) = False := by simp; omega
          have g2 : (9223372036854775807 < r1.size + od.size + 1) = False := by simp; omega
          have g3 : (9223372036854775807 < r1.size + od.size + 1 + r2.size) = False := by simp; omega
          have hcell := HO.out
          have hb4 := (Below.refl w3.heap.size w3).alloc (Nat.le_refl _) (.cells #[.string ⟨#[114, 101, 112, 108, 97, 99, 101]⟩, .string ⟨#[120, 32, 42, 42, 32, 97, 32, 98]⟩, .string ⟨#[114, 101, 112, 108, 97, 99, 101, 32, 42, 42, 32, 97, 45, 98, 32, 99]⟩, .string ⟨#[114, 101, 109, 111, 118, 101]⟩, .string ⟨#[114, 101, 109, 111, 118, 101, 32, 42, 42, 32, 97]⟩, .string ⟨#[115, 116, 114, 105, 107, 101, 32, 42, 42, 32, 97, 32, 98]⟩] 9)
          have hm4 := pw_cell hb4 hm3
          have hE4 := hE3.below hb4
          have hb5 := hb3.trans (hb4.mono hb3.size)
          go_wp2_with fail
          have hpc : parseB (bs (r1 ++ od ++ ⟨#[10]⟩ ++ r2)) = ([], 11) := by rw [show bs (r1 ++ od ++ ⟨#[10]⟩ ++ r2) = bs r1 ++ bs od ++ [10] ++ bs r2 by simp [bs], hr1, hr2]; exact hw
          have hsz : (r1 ++ od ++ (⟨#[10]⟩ : ByteArray) ++ r2).size ≤ 9223372036854775807 := by rw [ByteArray.size_append, ByteArray.size_append, ByteArray.size_append]; show r1.size + od.size + 1 + r2.size ≤ 9223372036854775807; omega
          with_reducible refine (parse_calls (r1 ++ od ++ ⟨#[10]⟩ ++ r2) m _ hm4 hE4 hsz).mono ?_
          rintro e w5 ⟨hres, hb⟩
          obtain rfl := hres.bad hpc (by decide)
          have hm5 := pw_cell hb hm4
          have hE5 := hE4.below hb
          have hb6 := hb5.trans (hb.mono hb5.size)
          go_wp2_with fail
          refine (known_calls m _ hm5 hE5).mono ?_
          rintro e w6 ⟨rfl, hb⟩
          go_wp2
          go_ret
          exact ⟨rfl, hb6.trans (hb.mono hb6.size)⟩
        · by_cases hz3 : e1 = 0
          · have hz4 : ¬ e2 = 0 := fun h => hz ⟨hz3, h⟩
            subst hz3
            have hz5 : (e2 != 0) = true := bne_iff_ne.2 hz4
            go_wp2_with fail
            refine (known_calls m _ hm3 hE3).mono ?_
            rintro e w4 ⟨rfl, hb⟩
            go_wp2
            go_ret
            exact ⟨rfl, hb3.trans (hb.mono hb3.size)⟩
          · have hz5 : (e1 != 0) = true := bne_iff_ne.2 hz3
            go_wp2_with fail
            refine (known_calls m _ hm3 hE3).mono ?_
            rintro e w4 ⟨rfl, hb⟩
            go_wp2
            go_ret
            exact ⟨rfl, hb3.trans (hb.mono hb3.size)⟩
end Go.Proofs.YthiplpgkgnebfaaDoor
