/- THE STATEMENT OF quilterlaw11.RuleTokens HOLDS: for every two strings and every byte the call returns true and leaves its arguments as they were; conditions: the listed package-level variables hold what the program's text lays (the card ties that). -/
import Derived.Test.YthiplpgkgnebfaaDoorArgs0
import Derived.Test.YthiplpgkgnebfaaDoorLawT0
import Derived.SizedLaws
import Derived.OpenShut
import Derived.Carry
namespace Go.Proofs.YthiplpgkgnebfaaDoor
namespace CardT
open Go.ChangeShapes Go.WideShapes Go.ChangeAt Go.RowKit Go.Lib
open Go.ChangeMaps (open_string shut_string)

theorem witness_row (os : Os) {H : Type} (enc : TypeId × Value → H) :
    (OpenSpec.ofChange Rows.ruleTokensSpec).preRow enc Tryd.prog Tryd.f8 Rows.ruleTokensRow.domain false Rows.ruleTokensRow.laid ((laidWorld os).forCall (fun _ _ => 0) ⟨#[], #[.string ⟨#[]⟩, .string ⟨#[]⟩, .int .u8 0], []⟩).memory #[.string ⟨#[]⟩, .string ⟨#[]⟩, .int .u8 0] := by
  have hw : (DataW.whole enc Tryd.prog ((laidWorld os).forCall (fun _ _ => 0) ⟨#[], #[.string ⟨#[]⟩, .string ⟨#[]⟩, .int .u8 0], []⟩).memory Tryd.f8.params.toList (OpenSpec.ofChange Rows.ruleTokensSpec).vars false (#[.string ⟨#[]⟩, .string ⟨#[]⟩, .int .u8 0] : Array Value).toList 8).map (fun x => (x.1, x.2.1)) =
      some ([.lit (.string []), .lit (.string []), .lit (.int .u8 0)], []) := by kernel_rfl
  obtain ⟨⟨x1, x2, x3⟩, hx, hx1⟩ := Option.map_eq_some_iff.1 hw
  simp only [Prod.mk.injEq] at hx1
  obtain ⟨rfl, rfl⟩ := hx1
  exact OpenSpec.preRow_of_cond 8 hx (by kernel_rfl) (fun k hk => by cases hk) (by kernel_rfl) (laid_met os _)

set_option maxRecDepth 100000 in
set_option maxHeartbeats 2000000 in
theorem lifted (os : Os) (started : os.Started) (H : Type) (enc : TypeId × Value → H) (F : Stop.Interp) :
    ReturnsInHanded {} Tryd.checked os 8 .any ((OpenSpec.ofChange Rows.ruleTokensSpec).preRow enc Tryd.prog Tryd.f8 Rows.ruleTokensRow.domain false Rows.ruleTokensRow.laid) (((OpenSpec.ofChange Rows.ruleTokensSpec).at F).post enc Tryd.prog Tryd.f8 false true false false) := by
  refine returnsInHanded_of_row (C := Tryd.checked) (s := OpenSpec.ofChange Rows.ruleTokensSpec) own started (by kernel_rfl) Tryd.func8
    (witness_row_atRef (enc := enc) (C := Tryd.checked) false (laidWorld os) #[.string ⟨#[]⟩, .string ⟨#[]⟩, .int .u8 0] rfl (by kernel_rfl) (by kernel_rfl) (by kernel_rfl) (witness_row os enc)) ?_
  intro W base args ds gs before hval0 hW _ _ hwt hL hsh _
  have hval : ∀ (j : Nat) t v, Tryd.f8.params[j]? = some t → args[j]? = some v → Value.okWide Tryd.prog W .any base t v := hval0
  have hW' := hW
  obtain ⟨p, q, hA0, hV0, rfl, _, _⟩ := hW
  have hA : DataW.TrodAll enc Tryd.prog W 0 (fun _ => true) true Tryd.f8.params.toList args.toList ds p := hA0
  rw [Tryd.params8] at hA hval
  obtain ⟨v0, vs0, d0, ds0, p0, q0, hargs, rfl, rfl, h0, r0⟩ := trodAll_cons hA
  obtain ⟨v1, vs1, d1, ds1, p1, q1, rfl, rfl, rfl, h1, r1⟩ := trodAll_cons r0
  obtain ⟨v2, vs2, d2, ds2, p2, q2, rfl, rfl, rfl, h2, r2⟩ := trodAll_cons r1
  obtain ⟨rfl, rfl, rfl⟩ := trodAll_nil r2
  obtain rfl : args = #[v0, v1, v2] := by cases args; simp_all
  obtain ⟨rfl, rfl⟩ := trodVars_none hV0
  obtain ⟨s0, rfl, rfl, rfl, ws0⟩ := open_string Tryd.underlying9 (hval 0 9 v0 rfl rfl) h0
  have bs0 : s0.size ≤ reachBytes := sized_string hwt (j := 0) (t := 9) (bytes := s0.data.toList) rfl rfl
  obtain ⟨s1, rfl, rfl, rfl, ws1⟩ := open_string Tryd.underlying9 (hval 1 9 v1 rfl rfl) h1
  have bs1 : s1.size ≤ reachBytes := sized_string hwt (j := 1) (t := 9) (bytes := s1.data.toList) rfl rfl
  obtain ⟨z2, rfl, rfl, rfl, wz2⟩ := open_int Tryd.underlying5 (hval 2 5 v2 rfl rfl) h2
  have hz2 := u8_wf wz2
  clear hA0 hV0 hval0 hwt
  obtain ⟨m, hM⟩ := maxLen_of_shape hsh
  have hE : ErrAt W := errAt_of_laid hL (.tail _ (.tail _ (.tail _ (.tail _ (.tail _ (.head _))))))
  refine (ruleTokens_calls s0 s1 z2 m W hM hE (by unfold reachBytes at bs0; omega) (by unfold reachBytes at bs1; omega) hz2.1 hz2.2).mono ?_
  rintro e W' ⟨rfl, bel⟩
  exact ⟨_, rfl, _, _, _, [], _, [], hW', trodAll_mk1 (shut_bool Tryd.underlying4 _), (trodAll_cons_mk (shut_string Tryd.underlying9 ws0) (trodAll_cons_mk (shut_string Tryd.underlying9 ws1) (trodAll_cons_mk (shut_int Tryd.underlying5 wz2) trodAll_mk0))), rfl, bel.frame _, fun h => by cases h⟩

theorem said : Rows.RuleTokensSaid :=
  OpenClaim.holds_of_cond 8 Tryd.f8 rfl rfl rfl rfl rfl rfl rfl ⟨rfl, rfl, rfl, rfl, rfl⟩ rfl rfl rfl rfl rfl (by kernel_rfl) Tryd.func8 (by kernel_rfl)
    (of_decide_eq_true (by kernel_rfl)) (by unfold Func.isWrapper; first | (rw [if_pos (by decide +kernel)]; kernel_rfl) | (rw [if_neg (by decide +kernel)]; exact ⟨rfl, rfl⟩))
    (fun os started H enc _ F0 => by rw [OpenClaim.pre_eq_preRow]; exact lifted os started H enc F0)

theorem plain (f : FuncId) (fn : Func) (hf : Tryd.pinned.checked.prog.funcNamed "quilter/quilterlaw11.RuleTokens" = some f) (hfn : Tryd.pinned.checked.prog.funcs[f]? = some fn) :
    true = Tryd.pinned.checked.prog.looks [] ∧ ∀ (j : Nat) t, fn.params[j]? = some t → Tryd.pinned.checked.prog.wantsStandIn t = false := by
  obtain rfl : f = 8 := Option.some.inj ((show Tryd.prog.funcNamed "quilter/quilterlaw11.RuleTokens" = some 8 by kernel_rfl).symm.trans hf) |>.symm
  obtain rfl : fn = Tryd.f8 := (Option.some.inj (Tryd.func8.symm.trans hfn)).symm
  refine ⟨by kernel_rfl, fun j t ht => ?_⟩
  rw [Tryd.params8] at ht
  have hm := Array.mem_of_getElem? ht
  have ht2 : t = 9 ∨ t = 9 ∨ t = 5 := by simpa using hm
  rcases ht2 with rfl | rfl | rfl
  · exact (show Tryd.prog.wantsStandIn 9 = false by kernel_rfl)
  · exact (show Tryd.prog.wantsStandIn 9 = false by kernel_rfl)
  · exact (show Tryd.prog.wantsStandIn 5 = false by kernel_rfl)
end CardT
/-- THE CARD. -/
theorem ruleTokens_card : Rows.RuleTokensCardSaid :=
  Claim7.holds_tied_plain_at .later [] _ _ _ _ CardT.said (fun _ h => by cases h) (by kernel_rfl) (fun _ h => by cases h) ruleTokens_row_tie rfl ⟨rfl, rfl⟩ (by kernel_rfl) rfl CardT.plain (by kernel_rfl)
#print axioms ruleTokens_card
end Go.Proofs.YthiplpgkgnebfaaDoor
