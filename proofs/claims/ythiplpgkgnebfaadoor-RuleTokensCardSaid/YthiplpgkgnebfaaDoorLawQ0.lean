/- quilterlaw11.RuleQuotes: the walk. -/
import Derived.Test.YthiplpgkgnebfaaDoorKnown0
namespace Go.Proofs.YthiplpgkgnebfaaDoor
open Go.RowKit Go.Shelf Go.Proofs.YthiplpgkgnebfaaDoorW.PrintWords
set_option linter.unusedSimpArgs false
set_option linter.unusedVariables false

theorem quoteB_inj {a b : List UInt8} (h : quoteB a = quoteB b) : a = b := by
  have h1 := unq_quote a
  rw [h, unq_quote b] at h1
  exact (Option.some.inj h1).symm
theorem tl_bs (s : ByteArray) : s.toList = bs s := ByteArray.toList_eq s
theorem bs_mk (s : ByteArray) : (⟨(bs s).toArray⟩ : ByteArray) = s := by cases s; simp [bs]

set_option maxRecDepth 100000 in
set_option maxHeartbeats 2000000 in
theorem ruleQuotes_calls (s t : ByteArray) (m : Int) (w : World) (hM : w.cell? ⟨2, 0, none⟩ = some (.int .i64 m)) (hE : ErrAt w) (hs : s.size ≤ 140737488355328) (ht : t.size ≤ 140737488355328) :
    Calls Tryd.prog 6 #[.string s, .string t] w fun e w' => e = .returned (.bool true) ∧ Below w.heap.size w w' := by
  by_cases h8 : 800 < (s.size : Int) + t.size
  · go_enter Tryd.func6, Tryd.ntmps6
    go_wp2_with (go_at_call 11; refine (known_calls m _ hM hE).mono ?_; rintro e w' ⟨rfl, hb⟩)
    go_ret
    exact ⟨rfl, hb⟩
  · have h9 : (s.size : Int) + t.size ≤ 800 := by omega
    clear h8
    go_enter Tryd.func6, Tryd.ntmps6
    go_wp2_with fail
    refine (quote_calls s _ (by omega)).mono ?_
    rintro e w1 ⟨⟨q1, rfl, hq1⟩, hb1⟩
    have hm1 := pw_cell hb1 hM
    have hE1 := hE.below hb1
    go_wp2_with fail
    refine (quote_calls t _ (by omega)).mono ?_
    rintro e w2 ⟨⟨q2, rfl, hq2⟩, hb2⟩
    have hm2 := pw_cell hb2 hm1
    have hE2 := hE1.below hb2
    have hz1 : q1.size ≤ 2401 := by
      have h1 := quote_len (bs s)
      have e1 : (bs q1).length = q1.size := by simp [bs]
      have e2 : (bs s).length = s.size := by simp [bs]
      rw [← hq1] at h1; omega
    have hU := unquote_calls q1 w2 hE2 (by omega)
    rw [hq1, unq_quote] at hU
    simp only [unqV, bs_mk] at hU
    have HQ := Aside0.mk hq1
    have hbb := hb1.trans (hb2.mono hb1.size)
    have hEM : Aside0 (∃ m, w2.cell? ⟨2, 0, none⟩ = some (.int .i64 m)) := ⟨m, hm2⟩
    have HS1 := Aside0.mk (show ∀ i, (h : i < q1.size) → 33 ≤ (q1[i].toNat : Int) ∧ (q1[i].toNat : Int) ≤ 126 by
      intro i h
      have h1 : q1[i] ∈ bs q1 := by
        have : q1[i] = (bs q1)[i]'(by simpa [bs] using h) := rfl
        rw [this]; exact List.getElem_mem _
      rw [hq1] at h1
      have := quote_range h1
      omega)
    have hpos : (0 : Int) < q1.size := by
      have h1 : quoteB (bs s) ≠ [] := by
        intro h; have := unq_quote (bs s); rw [h] at this; revert this; simp [unqB, decB, quoteB]
      rcases Nat.eq_zero_or_pos q1.size with h | h
      · exfalso; apply h1; rw [← hq1]; exact List.eq_nil_of_length_eq_zero (by simpa [bs] using h)
      · omega
    obtain ⟨b1, hst, hqq⟩ : ∃ b : Bool, (s.toList == t.toList) = b ∧ (q1.toList == q2.toList) = b := by
      refine ⟨_, rfl, ?_⟩
      rw [tl_bs, tl_bs, tl_bs, tl_bs, hq1, hq2, Bool.eq_iff_iff]
      simp only [beq_iff_eq]
      exact ⟨fun h => quoteB_inj h, fun h => by rw [h]⟩
    have hss : (s.toList == s.toList) = true := by simp
    clear hq1 hq2 hb1 hb2 hm1 hE1 HQ
    go_wp2_with fail
    refine hU.mono ?_
    rintro e w3 ⟨rfl, hb3⟩
    have hm3 := pw_cell hb3 hm2
    have hE3 := hE2.below hb3
    have HBB := Aside0.mk (hbb.trans (hb3.mono hbb.size))
    clear hU hb3 hbb hm2 hE2
    go_wp2
    go_loop [9] (fun i => ∃ k : Nat, k ≤ q1.size ∧ i = .int .i64 k) (fun i => q1.size - (intOf i).toNat)
    case atStart => exact ⟨0, Nat.zero_le _, rfl⟩
    case round =>
      obtain ⟨k, hk, rfl⟩ := hrel
      by_cases hlt : k < q1.size
      · obtain ⟨r1, r2⟩ := HS1.out k hlt
        go_wp2
        go_round
        case rel => exact ⟨k + 1, by omega, by go_num⟩
        case measure => simp [intOf]; omega
      · have hge : q1.size ≤ k := by omega
        clear hlt
        cases b1
        · go_wp2_with (go_at_call 11; refine (known_calls m _ hm3 hE3).mono ?_; rintro e w' ⟨rfl, hb⟩)
          go_ret
          exact ⟨rfl, HBB.out.trans (hb.mono HBB.out.size)⟩
        · go_wp2_with (go_at_call 11; refine (known_calls m _ hm3 hE3).mono ?_; rintro e w' ⟨rfl, hb⟩)
          go_ret
          exact ⟨rfl, HBB.out.trans (hb.mono HBB.out.size)⟩
end Go.Proofs.YthiplpgkgnebfaaDoor
