/- quilterlaw11.RuleTokens: the walk. -/
import Derived.Test.YthiplpgkgnebfaaDoorKnown0
import Derived.Test.YthiplpgkgnebfaaDoorLawQ0
namespace Go.Proofs.YthiplpgkgnebfaaDoor
open Go.RowKit Go.Shelf Go.Proofs.YthiplpgkgnebfaaDoorW.PrintWords
set_option linter.unusedSimpArgs false
set_option linter.unusedVariables false

theorem conv_one (c : UInt8) (W : World) : (convert 45 9 (.slice (some ⟨W.heap.size, 0, none⟩) 1 1)).run Tryd.prog (W.alloc (.cells #[.int .u8 c.toNat] 5)) = .ok (.string ⟨#[c]⟩) (W.alloc (.cells #[.int .u8 c.toNat] 5)) :=
  Go.Proofs.YthiplpgkgnebfaaDoor.own_string (l := [c]) (lo := W.heap.size) ⟨rfl, .inr ⟨W.heap.size, 1, _, rfl, Nat.le_refl _, World.alloc_heap_new W _, Nat.le_refl _, by decide, rfl, rfl⟩⟩

set_option maxRecDepth 100000 in
set_option maxHeartbeats 2000000 in
theorem ruleTokens_walk (a b : ByteArray) (c : UInt8) (m : Int) (w : World) (hM : w.cell? ⟨2, 0, none⟩ = some (.int .i64 m)) (hE : ErrAt w) (ha : a.size ≤ 140737488355328) (hb : b.size ≤ 140737488355328) :
    Calls Tryd.prog 8 #[.string a, .string b, .int .u8 c.toNat] w fun e w' => e = .returned (.bool true) ∧ Below w.heap.size w w' := by
  have h0 : tokenB (bs ⟨#[]⟩) = false := by decide
  have h1 : tokenB (bs ⟨#[45]⟩) = false := by decide
  have H0 := Lib.hid h0
  have H1 := Lib.hid h1
  clear h0 h1
  by_cases h3 : 300 < (a.size : Int) + b.size
  · go_enter Tryd.func8, Tryd.ntmps8
    have hm0 := hM
    have hE0 := hE
    have HB0 := Aside0.mk (Below.refl w.heap.size w)
    go_wp2_with fail
    refine (token_calls ⟨#[]⟩ _ (by decide)).mono ?_
    rintro e w1 ⟨rfl, hb⟩
    rw [H0.out]
    have hm1 := pw_cell hb hm0
    have hE1 := hE0.below hb
    have HB1 := Aside0.mk (HB0.out.trans (hb.mono HB0.out.size))
    clear hb hm0 hE0
    go_wp2_with fail
    refine (token_calls ⟨#[45]⟩ _ (by decide)).mono ?_
    rintro e w2 ⟨rfl, hb⟩
    rw [H1.out]
    have hm2 := pw_cell hb hm1
    have hE2 := hE1.below hb
    have HB2 := Aside0.mk (HB1.out.trans (hb.mono HB1.out.size))
    clear hb hm1 hE1
    go_wp2_with fail
    refine (known_calls m _ hm2 hE2).mono ?_
    rintro e w3 ⟨rfl, hb⟩
    have HB3 := Aside0.mk (HB2.out.trans (hb.mono HB2.out.size))
    clear hb
    go_wp2
    go_ret
    exact ⟨rfl, HB3.out⟩
  · have h4 : (a.size : Int) + b.size ≤ 300 := by omega
    clear h3
    cases hta : tokenB (bs a) with
    | false =>
      have HTA := Lib.hid hta
      clear hta
      go_enter Tryd.func8, Tryd.ntmps8
      have hm0 := hM
      have hE0 := hE
      have HB0 := Aside0.mk (Below.refl w.heap.size w)
      go_wp2_with fail
      refine (token_calls a _ (by omega)).mono ?_
      rintro e w1 ⟨rfl, hb⟩
      rw [HTA.out]
      have hm1 := pw_cell hb hm0
      have hE1 := hE0.below hb
      have HB1 := Aside0.mk (HB0.out.trans (hb.mono HB0.out.size))
      clear hb hm0 hE0
      go_wp2_with fail
      refine (token_calls ⟨#[]⟩ _ (by decide)).mono ?_
      rintro e w2 ⟨rfl, hb⟩
      rw [H0.out]
      have hm2 := pw_cell hb hm1
      have hE2 := hE1.below hb
      have HB2 := Aside0.mk (HB1.out.trans (hb.mono HB1.out.size))
      clear hb hm1 hE1
      go_wp2_with fail
      refine (token_calls ⟨#[45]⟩ _ (by decide)).mono ?_
      rintro e w3 ⟨rfl, hb⟩
      rw [H1.out]
      have hm3 := pw_cell hb hm2
      have hE3 := hE2.below hb
      have HB3 := Aside0.mk (HB2.out.trans (hb.mono HB2.out.size))
      clear hb hm2 hE2
      go_wp2_with fail
      refine (known_calls m _ hm3 hE3).mono ?_
      rintro e w4 ⟨rfl, hb⟩
      have HB4 := Aside0.mk (HB3.out.trans (hb.mono HB3.out.size))
      clear hb
      go_wp2
      go_ret
      exact ⟨rfl, HB4.out⟩
    | true =>
      have HTA := Lib.hid hta
      clear hta
      cases htb : tokenB (bs b) with
      | false =>
        have HTB := Lib.hid htb
        clear htb
        go_enter Tryd.func8, Tryd.ntmps8
        have hm0 := hM
        have hE0 := hE
        have HB0 := Aside0.mk (Below.refl w.heap.size w)
        go_wp2_with fail
        refine (token_calls a _ (by omega)).mono ?_
        rintro e w1 ⟨rfl, hb⟩
        rw [HTA.out]
        have hm1 := pw_cell hb hm0
        have hE1 := hE0.below hb
        have HB1 := Aside0.mk (HB0.out.trans (hb.mono HB0.out.size))
        clear hb hm0 hE0
        go_wp2_with fail
        refine (token_calls b _ (by omega)).mono ?_
        rintro e w2 ⟨rfl, hb⟩
        rw [HTB.out]
        have hm2 := pw_cell hb hm1
        have hE2 := hE1.below hb
        have HB2 := Aside0.mk (HB1.out.trans (hb.mono HB1.out.size))
        clear hb hm1 hE1
        go_wp2_with fail
        refine (token_calls ⟨#[]⟩ _ (by decide)).mono ?_
        rintro e w3 ⟨rfl, hb⟩
        rw [H0.out]
        have hm3 := pw_cell hb hm2
        have hE3 := hE2.below hb
        have HB3 := Aside0.mk (HB2.out.trans (hb.mono HB2.out.size))
        clear hb hm2 hE2
        go_wp2_with fail
        refine (token_calls ⟨#[45]⟩ _ (by decide)).mono ?_
        rintro e w4 ⟨rfl, hb⟩
        rw [H1.out]
        have hm4 := pw_cell hb hm3
        have hE4 := hE3.below hb
        have HB4 := Aside0.mk (HB3.out.trans (hb.mono HB3.out.size))
        clear hb hm3 hE3
        go_wp2_with fail
        refine (known_calls m _ hm4 hE4).mono ?_
        rintro e w5 ⟨rfl, hb⟩
        have HB5 := Aside0.mk (HB4.out.trans (hb.mono HB4.out.size))
        clear hb
        go_wp2
        go_ret
        exact ⟨rfl, HB5.out⟩
      | true =>
        have HTB := Lib.hid htb
        have HAB := Lib.hid (show tokenB (bs (a ++ b)) = true by rw [show bs (a ++ b) = bs a ++ bs b by simp [bs]]; exact token_app HTA.out htb)
        have HMID := Lib.hid (show tokenB (bs (a ++ ⟨#[c]⟩ ++ b)) = signB c by rw [show bs (a ++ ⟨#[c]⟩ ++ b) = bs a ++ [c] ++ bs b by simp [bs]]; exact token_mid c HTA.out htb)
        have HONE := Lib.hid (show tokenB (bs ⟨#[c]⟩) = signB c from token_one c)
        clear htb
        go_enter Tryd.func8, Tryd.ntmps8
        have hm0 := hM
        have hE0 := hE
        have HB0 := Aside0.mk (Below.refl w.heap.size w)
        have hcv := conv_one c
        have g1 : (9223372036854775807 < a.size + b.size) = False := by simp; omega
        have g2 : (9223372036854775807 < a.size + 1) = False := by simp; omega
        have g3 : (9223372036854775807 < a.size + 1 + b.size) = False := by simp; omega
        go_wp2_with fail
        refine (token_calls a _ (by omega)).mono ?_
        rintro e w1 ⟨rfl, hb⟩
        rw [HTA.out]
        have hm1 := pw_cell hb hm0
        have hE1 := hE0.below hb
        have HB1 := Aside0.mk (HB0.out.trans (hb.mono HB0.out.size))
        clear hb hm0 hE0
        go_wp2_with fail
        refine (token_calls b _ (by omega)).mono ?_
        rintro e w2 ⟨rfl, hb⟩
        rw [HTB.out]
        have hm2 := pw_cell hb hm1
        have hE2 := hE1.below hb
        have HB2 := Aside0.mk (HB1.out.trans (hb.mono HB1.out.size))
        clear hb hm1 hE1
        go_wp2_with fail
        have hb1 := (Below.refl w2.heap.size w2).alloc (Nat.le_refl _) (.cells #[.int .u8 c.toNat] 5)
        refine (token_calls ⟨#[c]⟩ _ (show (1 : Nat) ≤ 9223372036854775807 by decide)).mono ?_
        rintro e w3 ⟨rfl, hb2⟩
        rw [HONE.out]
        have hb := hb1.trans (hb2.mono (by simp))
        clear hb1 hb2
        have hm3 := pw_cell hb hm2
        have hE3 := hE2.below hb
        have HB3 := Aside0.mk (HB2.out.trans (hb.mono HB2.out.size))
        clear hb hm2 hE2
        go_wp2_with fail
        refine (token_calls (a ++ b) _ (by rw [ByteArray.size_append]; omega)).mono ?_
        rintro e w4 ⟨rfl, hb⟩
        rw [HAB.out]
        have hm4 := pw_cell hb hm3
        have hE4 := hE3.below hb
        have HB4 := Aside0.mk (HB3.out.trans (hb.mono HB3.out.size))
        clear hb hm3 hE3
        go_wp2_with fail
        have hb1 := (Below.refl w4.heap.size w4).alloc (Nat.le_refl _) (.cells #[.int .u8 c.toNat] 5)
        have hsz5 : (a ++ (⟨#[c]⟩ : ByteArray) ++ b).size ≤ 9223372036854775807 := by rw [ByteArray.size_append, ByteArray.size_append]; show a.size + 1 + b.size ≤ 9223372036854775807; omega
        with_reducible refine (token_calls (a ++ ⟨#[c]⟩ ++ b) _ hsz5).mono ?_
        rintro e w5 ⟨rfl, hb2⟩
        rw [HMID.out]
        have hb := hb1.trans (hb2.mono (by simp))
        clear hb1 hb2
        have hm5 := pw_cell hb hm4
        have hE5 := hE4.below hb
        have HB5 := Aside0.mk (HB4.out.trans (hb.mono HB4.out.size))
        clear hb hm4 hE4
        go_wp2_with fail
        refine (sign_calls c _).mono ?_
        rintro e w6 ⟨rfl, rfl⟩
        go_wp2_with fail
        refine (token_calls ⟨#[]⟩ _ (by decide)).mono ?_
        rintro e w7 ⟨rfl, hb⟩
        rw [H0.out]
        have hm6 := pw_cell hb hm5
        have hE6 := hE5.below hb
        have HB6 := Aside0.mk (HB5.out.trans (hb.mono HB5.out.size))
        clear hb hm5 hE5
        go_wp2_with fail
        refine (known_calls m _ hm6 hE6).mono ?_
        rintro e w8 ⟨rfl, hb⟩
        have HB7 := Aside0.mk (HB6.out.trans (hb.mono HB6.out.size))
        clear hb
        go_wp2
        go_ret
        exact ⟨rfl, HB7.out⟩
theorem ruleTokens_calls (a b : ByteArray) (z : Int) (m : Int) (w : World) (hM : w.cell? ⟨2, 0, none⟩ = some (.int .i64 m)) (hE : ErrAt w) (ha : a.size ≤ 140737488355328) (hb : b.size ≤ 140737488355328) (hz0 : 0 ≤ z) (hz1 : z < 256) :
    Calls Tryd.prog 8 #[.string a, .string b, .int .u8 z] w fun e w' => e = .returned (.bool true) ∧ Below w.heap.size w w' := by
  obtain ⟨c, rfl⟩ : ∃ c : UInt8, z = (c.toNat : Int) := ⟨UInt8.ofNat z.toNat, by simp; omega⟩
  exact ruleTokens_walk a b c m w hM hE ha hb
end Go.Proofs.YthiplpgkgnebfaaDoor
