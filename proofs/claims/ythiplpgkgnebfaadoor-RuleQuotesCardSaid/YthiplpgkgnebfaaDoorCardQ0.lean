/- THE STATEMENT OF quilterlaw11.RuleQuotes HOLDS: for every two strings the call returns true and leaves its arguments as they were; conditions: the listed package-level variables hold what the program's text lays (the card ties that). -/
import Derived.Test.YthiplpgkgnebfaaDoorWit0
import Derived.Test.YthiplpgkgnebfaaDoorLawQ0
import Derived.SizedLaws
import Derived.OpenShut
namespace Go.Proofs.YthiplpgkgnebfaaDoor
namespace CardQ
open Go.ChangeShapes Go.WideShapes Go.ChangeAt Go.RowKit Go.Lib
open Go.ChangeMaps (open_string shut_string)

theorem witness_row (os : Os) {H : Type} (enc : TypeId × Value → H) :
    (OpenSpec.ofChange Rows.ruleQuotesSpec).preRow enc Tryd.prog Tryd.f6 Rows.ruleQuotesRow.domain false Rows.ruleQuotesRow.laid ((laidWorld os).forCall (fun _ _ => 0) ⟨#[], #[.string ⟨#[]⟩, .string ⟨#[]⟩], []⟩).memory #[.string ⟨#[]⟩, .string ⟨#[]⟩] := by
  have hw : (DataW.whole enc Tryd.prog ((laidWorld os).forCall (fun _ _ => 0) ⟨#[], #[.string ⟨#[]⟩, .string ⟨#[]⟩], []⟩).memory Tryd.f6.params.toList (OpenSpec.ofChange Rows.ruleQuotesSpec).vars false #[Value.string ⟨#[]⟩, .string ⟨#[]⟩].toList 8).map (fun x => (x.1, x.2.1)) =
      some ([.lit (.string []), .lit (.string [])], []) := by kernel_rfl
  obtain ⟨⟨x1, x2, x3⟩, hx, hx1⟩ := Option.map_eq_some_iff.1 hw
  simp only [Prod.mk.injEq] at hx1
  obtain ⟨rfl, rfl⟩ := hx1
  exact OpenSpec.preRow_of_cond 8 hx (by kernel_rfl) (fun k hk => by cases hk) (by kernel_rfl) (laid_met os _)

set_option maxRecDepth 100000 in
set_option maxHeartbeats 2000000 in
theorem lifted (os : Os) (started : os.Started) (H : Type) (enc : TypeId × Value → H) (F : Stop.Interp) :
    ReturnsInHanded {} Tryd.checked os 6 .any ((OpenSpec.ofChange Rows.ruleQuotesSpec).preRow enc Tryd.prog Tryd.f6 Rows.ruleQuotesRow.domain false Rows.ruleQuotesRow.laid) (((OpenSpec.ofChange Rows.ruleQuotesSpec).at F).post enc Tryd.prog Tryd.f6 false true false false) := by
  refine returnsInHanded_of_row (C := Tryd.checked) (s := OpenSpec.ofChange Rows.ruleQuotesSpec) own started (by kernel_rfl) Tryd.func6
    (witness_row_atRef (enc := enc) (C := Tryd.checked) false (laidWorld os) #[.string ⟨#[]⟩, .string ⟨#[]⟩] rfl (by kernel_rfl) (by kernel_rfl) (by kernel_rfl) (witness_row os enc)) ?_
  intro W base args ds gs before hval0 hW _ _ hwt hL hsh _
  have hval : ∀ (j : Nat) t v, Tryd.f6.params[j]? = some t → args[j]? = some v → Value.okWide Tryd.prog W .any base t v := hval0
  have hW' := hW
  obtain ⟨p, q, hA0, hV0, rfl, _, _⟩ := hW
  have hA : DataW.TrodAll enc Tryd.prog W 0 (fun _ => true) true Tryd.f6.params.toList args.toList ds p := hA0
  rw [Tryd.params6] at hA hval
  obtain ⟨v0, vs0, d0, ds0, p0, q0, hargs0, rfl, rfl, h0, r0⟩ := trodAll_cons hA
  obtain ⟨v1, vs1, d1, ds1, p1, q1, rfl, rfl, rfl, h1, r1⟩ := trodAll_cons r0
  obtain ⟨rfl, rfl, rfl⟩ := trodAll_nil r1
  obtain rfl : args = #[v0, v1] := by cases args; simp_all
  obtain ⟨rfl, rfl⟩ := trodVars_none hV0
  obtain ⟨s, rfl, rfl, rfl, ws⟩ := open_string Tryd.underlying9 (hval 0 9 v0 rfl rfl) h0
  obtain ⟨t, rfl, rfl, rfl, wt⟩ := open_string Tryd.underlying9 (hval 1 9 v1 rfl rfl) h1
  clear hA0 hV0 hval0
  have bs0 : s.size ≤ reachBytes := sized_string hwt (j := 0) (t := 9) (bytes := s.data.toList) rfl rfl
  have bs1 : t.size ≤ reachBytes := sized_string hwt (j := 1) (t := 9) (bytes := t.data.toList) rfl rfl
  clear hwt
  obtain ⟨m, hM⟩ := maxLen_of_shape hsh
  have hE : ErrAt W := errAt_of_laid hL (.tail _ (.tail _ (.tail _ (.tail _ (.tail _ (.head _))))))
  refine (ruleQuotes_calls s t m W hM hE (by unfold reachBytes at bs0; omega) (by unfold reachBytes at bs1; omega)).mono ?_
  rintro e W' ⟨rfl, bel⟩
  have e1 : ((OpenSpec.ofChange Rows.ruleQuotesSpec).at F).fn H ([.lit (.string s.data.toList), .lit (.string t.data.toList)] ++ []) = { results := [.lit (.bool true)], args := [.lit (.string s.data.toList), .lit (.string t.data.toList)] } := rfl
  refine ⟨_, rfl, _, _, _, [], [], [], hW', ?_, ?_, ?_, bel.frame _, fun h => by cases h⟩
  · rw [e1]; exact trodAll_mk1 (shut_bool Tryd.underlying4 _)
  · rw [e1]; exact trodAll_cons_mk (shut_string Tryd.underlying9 ws) (trodAll_cons_mk (shut_string Tryd.underlying9 wt) trodAll_mk0)
  · rw [e1]; rfl

theorem said : Rows.RuleQuotesSaid :=
  OpenClaim.holds_of_cond 6 Tryd.f6 rfl rfl rfl rfl rfl rfl rfl ⟨rfl, rfl, rfl, rfl, rfl⟩ rfl rfl rfl rfl rfl (by kernel_rfl) Tryd.func6 (by kernel_rfl)
    (of_decide_eq_true (by kernel_rfl)) (by unfold Func.isWrapper; first | (rw [if_pos (by decide +kernel)]; kernel_rfl) | (rw [if_neg (by decide +kernel)]; exact ⟨rfl, rfl⟩))
    (fun os started H enc _ F0 => by rw [OpenClaim.pre_eq_preRow]; exact lifted os started H enc F0)

theorem plain (f : FuncId) (fn : Func) (hf : Tryd.pinned.checked.prog.funcNamed "quilter/quilterlaw11.RuleQuotes" = some f) (hfn : Tryd.pinned.checked.prog.funcs[f]? = some fn) :
    true = Tryd.pinned.checked.prog.looks [] ∧ ∀ (j : Nat) t, fn.params[j]? = some t → Tryd.pinned.checked.prog.wantsStandIn t = false := by
  obtain rfl : f = 6 := Option.some.inj ((show Tryd.prog.funcNamed "quilter/quilterlaw11.RuleQuotes" = some 6 by kernel_rfl).symm.trans hf) |>.symm
  obtain rfl : fn = Tryd.f6 := (Option.some.inj (Tryd.func6.symm.trans hfn)).symm
  refine ⟨by kernel_rfl, fun j t ht => ?_⟩
  rw [Tryd.params6] at ht
  obtain rfl : t = 9 := by simpa using Array.mem_of_getElem? ht
  exact (show Tryd.prog.wantsStandIn 9 = false by kernel_rfl)
end CardQ
/-- THE CARD. -/
theorem ruleQuotes_card : Rows.RuleQuotesCardSaid :=
  Claim7.holds_tied_plain_at .later [] _ _ _ _ CardQ.said (fun _ h => by cases h) (by kernel_rfl) (fun _ h => by cases h) ruleQuotes_row_tie rfl ⟨rfl, rfl⟩ (by kernel_rfl) rfl CardQ.plain (by kernel_rfl)
#print axioms ruleQuotes_card
end Go.Proofs.YthiplpgkgnebfaaDoor
