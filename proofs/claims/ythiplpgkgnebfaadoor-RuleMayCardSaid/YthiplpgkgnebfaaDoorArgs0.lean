/- Slices of rules as arguments: what their reading gives. -/
import Derived.Test.YthiplpgkgnebfaaDoorWit0
import Derived.Test.YthiplpgkgnebfaaDoorPrint0
import Derived.Deep.Slices
import Derived.SizedLaws
import Derived.OpenShut
namespace Go.Proofs.YthiplpgkgnebfaaDoor
open Go.ChangeShapes Go.WideShapes Go.ChangeAt Go.RowKit Go.Deep
set_option linter.unusedSimpArgs false
set_option linter.unusedVariables false
set_option maxRecDepth 100000

def dataOf {H : Type} (x : RuleC) : DataW H := .agg [.lit (.int .i64 x.1), .lit (.string x.2.1.data.toList), .lit (.string x.2.2.1.data.toList), .lit (.string x.2.2.2.data.toList)]
theorem cells35 : Tryd.prog.cellsOf 35 = 4 := by kernel_rfl
theorem cells3 : Tryd.prog.cellsOf 3 = 1 := by kernel_rfl
theorem cells9 : Tryd.prog.cellsOf 9 = 1 := by kernel_rfl

section
variable {H : Type} {enc : TypeId × Value → H} {w : World} {base : Nat} {sp : Nat → Bool} {held : Bool}
/-- One rule, from its four cells. -/
theorem rule_of_trod {n : Nat} {cs : List Value} {y : DataW H × List MemPlace} (h : DataW.trod enc Tryd.prog w base sp held n 35 cs = some y) :
    ∃ x : RuleC, cs = ruleRow x ∧ y.1 = dataOf x := by
  obtain ⟨xs, k, rfl, rfl, hl, hxl, hf⟩ := DataW.trod_struct Tryd.underlying35 h
  rw [cells35] at hl
  match cs, hl, xs, hxl with
  | [v0, v1, v2, v3], _, [y0, y1, y2, y3], _ =>
    have g0 := hf 0 _ rfl
    have g1 := hf 1 _ rfl
    have g2 := hf 2 _ rfl
    have g3 := hf 3 _ rfl
    replace g0 : DataW.trod enc Tryd.prog w base sp held k 3 ((([v0, v1, v2, v3] : List Value).drop 0).take (Tryd.prog.cellsOf 3)) = some y0 := g0
    replace g1 : DataW.trod enc Tryd.prog w base sp held k 9 ((([v0, v1, v2, v3] : List Value).drop 1).take (Tryd.prog.cellsOf 9)) = some y1 := g1
    replace g2 : DataW.trod enc Tryd.prog w base sp held k 9 ((([v0, v1, v2, v3] : List Value).drop 2).take (Tryd.prog.cellsOf 9)) = some y2 := g2
    replace g3 : DataW.trod enc Tryd.prog w base sp held k 9 ((([v0, v1, v2, v3] : List Value).drop 3).take (Tryd.prog.cellsOf 9)) = some y3 := g3
    rw [cells3] at g0
    rw [cells9] at g1 g2 g3
    obtain ⟨a, e0, e1, -⟩ := DataW.trod_int Tryd.underlying3 g0
    obtain ⟨b, e2, e3, -⟩ := DataW.trod_string Tryd.underlying9 g1
    obtain ⟨c, e4, e5, -⟩ := DataW.trod_string Tryd.underlying9 g2
    obtain ⟨d, e6, e7, -⟩ := DataW.trod_string Tryd.underlying9 g3
    have e0 : v0 = .int .i64 a := (List.cons.inj e0).1
    have e2 : v1 = .string b := (List.cons.inj e2).1
    have e4 : v2 = .string c := (List.cons.inj e4).1
    have e6 : v3 = .string d := (List.cons.inj e6).1
    rw [e0, e1, e2, e3, e4, e5, e6, e7]
    exact ⟨(a, b, c, d), rfl, rfl⟩
theorem cells_add {ad : Addr} {x : RuleC} (h : ∀ i, i < 4 → w.cell? (ad.add i) = (ruleRow x)[i]?) :
    w.cell? ad = some (.int .i64 x.1) ∧ w.cell? ⟨ad.block, ad.off + 1, none⟩ = some (.string x.2.1) ∧ w.cell? ⟨ad.block, ad.off + 2, none⟩ = some (.string x.2.2.1) ∧ w.cell? ⟨ad.block, ad.off + 3, none⟩ = some (.string x.2.2.2) :=
  ⟨h 0 (by decide), h 1 (by decide), h 2 (by decide), h 3 (by decide)⟩
/-- A slice of rules among the arguments. -/
theorem open_rules {v : Value} {d : DataW H} {ps : List MemPlace} {b0 : Nat} (hv : Value.okWide Tryd.prog w .any b0 23 v) (h : DataW.Trod enc Tryd.prog w base sp held 23 v d ps) :
    ∃ (A : Option Addr) (l : List RuleC) (c : Nat), v = .slice A l.length c ∧ l.length ≤ c ∧ RowsAt w A l ∧ ((d = .nil ∧ l = []) ∨ ∃ rest, d = .slice (l.map dataOf) rest) := by
  obtain ⟨A, len, cap, rfl⟩ := okWide_slice Tryd.underlying23 hv
  obtain ⟨fuel, hf⟩ := h
  rcases open_slice Tryd.underlying23 hf with ⟨hcs, hx⟩ | ⟨a, len', cap', m, n, D, Pl, hcs, hb, hl, hm, hmm, hx, hel⟩
  · have e : Value.slice A len cap = .slice none 0 0 := (List.cons.inj hcs).1
    cases e
    exact ⟨none, [], 0, rfl, Nat.le_refl _, (fun j x hj => by simp at hj), .inl ⟨(Prod.mk.inj hx).1, rfl⟩⟩
  · have e : Value.slice A len cap = .slice (some a) len' cap' := (List.cons.inj hcs).1
    cases e
    have hlm : len ≤ m := by rw [hmm]; split <;> omega
    have each : ∀ i, ∃ x : RuleC, i < len → (∀ j, j < 4 → w.cell? ((a.add (i * 4)).add j) = (ruleRow x)[j]?) ∧ D i = dataOf x := by
      intro i
      by_cases hi : i < len
      · obtain ⟨cs', h1, h2⟩ := hel i (by omega)
        rw [cells35] at h1
        obtain ⟨-, hlen, hcell⟩ := World.cells?_some h1
        obtain ⟨x, rfl, hy⟩ := rule_of_trod h2
        exact ⟨x, fun _ => ⟨hcell, hy⟩⟩
      · exact ⟨(0, ⟨#[]⟩, ⟨#[]⟩, ⟨#[]⟩), fun h => absurd h hi⟩
    have hq : ∀ i, i < len → _ := fun i hi => (Classical.choose_spec (each i)) hi
    have hlen : ((List.range len).map fun i => Classical.choose (each i)).length = len := by simp
    refine ⟨some a, (List.range len).map fun i => Classical.choose (each i), cap, by rw [hlen], by rw [hlen]; exact hl, ?_, .inr ⟨(List.range (m - len)).map fun j => D (len + j), ?_⟩⟩
    · intro j x hj
      have hjl : j < len := by
        have := (List.getElem?_eq_some_iff.1 hj).1; simpa using this
      have hjx : Classical.choose (each j) = x := by simpa [hjl] using hj
      obtain ⟨h1, -⟩ := hq j hjl
      rw [hjx] at h1
      exact ⟨a, rfl, cells_add h1⟩
    · rw [(Prod.mk.inj hx).1, List.map_map]
      congr 1
      refine List.map_congr_left fun i hi => ?_
      exact (hq i (List.mem_range.1 hi)).2
end
theorem laidOut : laidOutB Tryd.prog = true := by kernel_rfl
theorem u8_wf {z : Int} (h : (Lit.int .u8 z).wf = true) : 0 ≤ z ∧ z < 256 := by
  simp [Lit.wf, IntKind.min, IntKind.max, IntKind.signed, IntKind.bits] at h; omega
/-- A rule among the arguments. -/
theorem open_rule {H : Type} {enc : TypeId × Value → H} {w : World} {base : Nat} {sp : Nat → Bool} {held : Bool} {v : Value} {d : DataW H} {ps : List MemPlace} {b0 : Nat} (hv : Value.okWide Tryd.prog w .any b0 35 v) (h : DataW.Trod enc Tryd.prog w base sp held 35 v d ps) :
    ∃ x : RuleC, v = .agg (ruleRow x).toArray ∧ d = dataOf x := by
  obtain ⟨fuel, hf⟩ := h
  unfold Value.okWide at hv
  simp only [Tryd.underlying35] at hv
  obtain ⟨cs, rfl, -, -⟩ := hv
  obtain ⟨x, hcs, hd⟩ := rule_of_trod hf
  refine ⟨x, ?_, hd⟩
  have e : (Value.agg cs).cells.toList = cs.toList := rfl
  rw [e] at hcs
  rw [← hcs]
/-- The bytes of each text of a rule among the arguments are no more than one address space holds. -/
theorem weights_rule {H : Type} (x : RuleC) (h : ∀ n ∈ DataW.weights (H := H) Tryd.prog 35 (dataOf x), n ≤ reachBytes) : x.2.1.size ≤ reachBytes ∧ x.2.2.1.size ≤ reachBytes ∧ x.2.2.2.size ≤ reachBytes := by
  have e : DataW.weights (H := H) Tryd.prog 35 (dataOf x) = [x.2.1.data.toList.length, x.2.2.1.data.toList.length, x.2.2.2.data.toList.length] := by
    simp only [dataOf, DataW.weights, Tryd.underlying35, DataW.weightsEach]
    rfl
  rw [e] at h
  refine ⟨h _ (by simp), h _ (by simp), h _ (by simp)⟩
theorem weightsAll_mem {H : Type} {P : Program} {e : TypeId} {d : DataW H} : ∀ {l : List (DataW H)}, d ∈ l → ∀ n ∈ d.weights P e, n ∈ DataW.weightsAll P e l
  | x :: l, hd, n, hn => by
    rw [DataW.weightsAll]
    rcases List.mem_cons.1 hd with rfl | hd
    · exact List.mem_append_left _ hn
    · exact List.mem_append_right _ (weightsAll_mem hd n hn)
theorem weights_rules {H : Type} {d : DataW H} {l : List RuleC} (hd : (d = .nil ∧ l = []) ∨ ∃ rest, d = .slice (l.map dataOf) rest) (h : ∀ n ∈ DataW.weights Tryd.prog 23 d, n ≤ reachBytes) :
    ∀ x ∈ l, x.2.1.size ≤ reachBytes ∧ x.2.2.1.size ≤ reachBytes ∧ x.2.2.2.size ≤ reachBytes := by
  rcases hd with ⟨rfl, rfl⟩ | ⟨rest, rfl⟩
  · intro x hx; cases hx
  · intro x hx
    refine weights_rule (H := H) x fun n hn => h n ?_
    simp only [DataW.weights, Tryd.underlying23]
    exact List.mem_cons_of_mem _ (List.mem_append_left _ (weightsAll_mem (List.mem_map_of_mem hx) n hn))
end Go.Proofs.YthiplpgkgnebfaaDoor
