/- THE STATEMENT OF quilterlaw11.RuleBack HOLDS: for every slice of rules and every string the call returns true and leaves its arguments as they were; conditions: the listed package-level variables hold what the program's text lays (the card ties that). -/
import Derived.Test.YthiplpgkgnebfaaDoorArgs0
import Derived.Test.YthiplpgkgnebfaaDoorLawB0
import Derived.SizedLaws
import Derived.OpenShut
import Derived.Carry
namespace Go.Proofs.YthiplpgkgnebfaaDoor
namespace CardB
open Go.ChangeShapes Go.WideShapes Go.ChangeAt Go.RowKit Go.Lib
open Go.ChangeMaps (open_string shut_string)

theorem witness_row (os : Os) {H : Type} (enc : TypeId × Value → H) :
    (OpenSpec.ofChange Rows.ruleBackSpec).preRow enc Tryd.prog Tryd.f5 Rows.ruleBackRow.domain false Rows.ruleBackRow.laid ((laidWorld os).forCall (fun _ _ => 0) ⟨#[], #[.slice none 0 0, .string ⟨#[]⟩], []⟩).memory #[.slice none 0 0, .string ⟨#[]⟩] := by
  have hw : (DataW.whole enc Tryd.prog ((laidWorld os).forCall (fun _ _ => 0) ⟨#[], #[.slice none 0 0, .string ⟨#[]⟩], []⟩).memory Tryd.f5.params.toList (OpenSpec.ofChange Rows.ruleBackSpec).vars false (#[.slice none 0 0, .string ⟨#[]⟩] : Array Value).toList 8).map (fun x => (x.1, x.2.1)) =
      some ([.nil, .lit (.string [])], []) := by kernel_rfl
  obtain ⟨⟨x1, x2, x3⟩, hx, hx1⟩ := Option.map_eq_some_iff.1 hw
  simp only [Prod.mk.injEq] at hx1
  obtain ⟨rfl, rfl⟩ := hx1
  exact OpenSpec.preRow_of_cond 8 hx (by kernel_rfl) (fun k hk => by cases hk) (by kernel_rfl) (laid_met os _)

set_option maxRecDepth 100000 in
set_option maxHeartbeats 2000000 in
theorem lifted (os : Os) (started : os.Started) (H : Type) (enc : TypeId × Value → H) (F : Stop.Interp) :
    ReturnsInHanded {} Tryd.checked os 5 .any ((OpenSpec.ofChange Rows.ruleBackSpec).preRow enc Tryd.prog Tryd.f5 Rows.ruleBackRow.domain false Rows.ruleBackRow.laid) (((OpenSpec.ofChange Rows.ruleBackSpec).at F).post enc Tryd.prog Tryd.f5 false true false false) := by
  refine returnsInHanded_of_row (C := Tryd.checked) (s := OpenSpec.ofChange Rows.ruleBackSpec) own started (by kernel_rfl) Tryd.func5
    (witness_row_atRef (enc := enc) (C := Tryd.checked) false (laidWorld os) #[.slice none 0 0, .string ⟨#[]⟩] rfl (by kernel_rfl) (by kernel_rfl) (by kernel_rfl) (witness_row os enc)) ?_
  intro W base args ds gs before hval0 hW _ _ hwt hL hsh _
  have hval : ∀ (j : Nat) t v, Tryd.f5.params[j]? = some t → args[j]? = some v → Value.okWide Tryd.prog W .any base t v := hval0
  have hW' := hW
  obtain ⟨p, q, hA0, hV0, rfl, _, _⟩ := hW
  have hA : DataW.TrodAll enc Tryd.prog W 0 (fun _ => true) true Tryd.f5.params.toList args.toList ds p := hA0
  rw [Tryd.params5] at hA hval
  obtain ⟨v0, vs0, d0, ds0, p0, q0, hargs, rfl, rfl, h0, r0⟩ := trodAll_cons hA
  obtain ⟨v1, vs1, d1, ds1, p1, q1, rfl, rfl, rfl, h1, r1⟩ := trodAll_cons r0
  obtain ⟨rfl, rfl, rfl⟩ := trodAll_nil r1
  obtain rfl : args = #[v0, v1] := by cases args; simp_all
  obtain ⟨rfl, rfl⟩ := trodVars_none hV0
  have k0 := h0
  have lt0 : ∀ x ∈ p0, x.block < W.heap.size := by obtain ⟨m, hm⟩ := k0; exact DataW.trod_lt m _ _ _ hm
  have wt0 : ∀ n ∈ DataW.weights Tryd.prog 23 d0, n ≤ reachBytes := fun n hn => by
    have := List.all_eq_true.1 hwt n (DataW.weights_mem_each (j := 0) (t := 23) (d := d0) rfl rfl n hn)
    exact of_decide_eq_true this
  obtain ⟨A0, l0, c0, rfl, hc0, hR0, hd0⟩ := open_rules (hval 0 23 v0 rfl rfl) h0
  have hs0 := weights_rules hd0 wt0
  obtain ⟨s1, rfl, rfl, rfl, ws1⟩ := open_string Tryd.underlying9 (hval 1 9 v1 rfl rfl) h1
  have bs1 : s1.size ≤ reachBytes := sized_string hwt (j := 1) (t := 9) (bytes := s1.data.toList) rfl rfl
  clear hA0 hV0 hval0 hwt
  obtain ⟨m, hM⟩ := maxLen_of_shape hsh
  have hE : ErrAt W := errAt_of_laid hL (.tail _ (.tail _ (.tail _ (.tail _ (.tail _ (.head _))))))
  refine (ruleBack_calls A0 l0 c0 s1 m W hM hE hR0 hc0 (fun x hx => by have := hs0 x hx; unfold reachBytes at this; omega) (by unfold reachBytes at bs1; omega)).mono ?_
  rintro e W' ⟨rfl, bel⟩
  exact ⟨_, rfl, _, _, _, [], _, [], hW', trodAll_mk1 (shut_bool Tryd.underlying4 _), (trodAll_cons_mk (Below.trod laidOut (by kernel_rfl) (of_decide_eq_true (by kernel_rfl)) k0 bel lt0) (trodAll_cons_mk (shut_string Tryd.underlying9 ws1) trodAll_mk0)), rfl, bel.frame _, fun h => by cases h⟩

theorem said : Rows.RuleBackSaid :=
  OpenClaim.holds_of_cond 5 Tryd.f5 rfl rfl rfl rfl rfl rfl rfl ⟨rfl, rfl, rfl, rfl, rfl⟩ rfl rfl rfl rfl rfl (by kernel_rfl) Tryd.func5 (by kernel_rfl)
    (of_decide_eq_true (by kernel_rfl)) (by unfold Func.isWrapper; first | (rw [if_pos (by decide +kernel)]; kernel_rfl) | (rw [if_neg (by decide +kernel)]; exact ⟨rfl, rfl⟩))
    (fun os started H enc _ F0 => by rw [OpenClaim.pre_eq_preRow]; exact lifted os started H enc F0)

theorem plain (f : FuncId) (fn : Func) (hf : Tryd.pinned.checked.prog.funcNamed "quilter/quilterlaw11.RuleBack" = some f) (hfn : Tryd.pinned.checked.prog.funcs[f]? = some fn) :
    true = Tryd.pinned.checked.prog.looks [] ∧ ∀ (j : Nat) t, fn.params[j]? = some t → Tryd.pinned.checked.prog.wantsStandIn t = false := by
  obtain rfl : f = 5 := Option.some.inj ((show Tryd.prog.funcNamed "quilter/quilterlaw11.RuleBack" = some 5 by kernel_rfl).symm.trans hf) |>.symm
  obtain rfl : fn = Tryd.f5 := (Option.some.inj (Tryd.func5.symm.trans hfn)).symm
  refine ⟨by kernel_rfl, fun j t ht => ?_⟩
  rw [Tryd.params5] at ht
  have hm := Array.mem_of_getElem? ht
  have ht2 : t = 23 ∨ t = 9 := by simpa using hm
  rcases ht2 with rfl | rfl
  · exact (show Tryd.prog.wantsStandIn 23 = false by kernel_rfl)
  · exact (show Tryd.prog.wantsStandIn 9 = false by kernel_rfl)
end CardB
/-- THE CARD. -/
theorem ruleBack_card : Rows.RuleBackCardSaid :=
  Claim7.holds_tied_plain_at .later [] _ _ _ _ CardB.said (fun _ h => by cases h) (by kernel_rfl) (fun _ h => by cases h) ruleBack_row_tie rfl ⟨rfl, rfl⟩ (by kernel_rfl) rfl CardB.plain (by kernel_rfl)
#print axioms ruleBack_card
end Go.Proofs.YthiplpgkgnebfaaDoor
