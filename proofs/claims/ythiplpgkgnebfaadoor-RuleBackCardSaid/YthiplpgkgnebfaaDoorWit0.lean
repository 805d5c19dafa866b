/- What the rows' list gives a walk, and a world for the witness. -/
import Derived.Test.YthiplpgkgnebfaaDoorCards
import Derived.Test.YthiplpgkgnebfaaDoorTie
import Derived.Test.YthiplpgkgnebfaaDoorUnq1
import Derived.Lib.LaidIn
import Derived.Lib.LaidU8
import Derived.LaidLaws
import Derived.Clock
import Derived.PinnedBridge
import Derived.Deep.DeepHandedRow
import Derived.Deep.DeepWitnessRowRef
import Derived.ProofKit
namespace Go.Proofs.YthiplpgkgnebfaaDoor
open Go.ChangeShapes Go.WideShapes Go.ChangeAt Go.RowKit Go.Lib
set_option linter.unusedSimpArgs false
set_option linter.unusedVariables false

theorem own : ownKnob Tryd.prog.godebug = none := by kernel_rfl
/-- strconv.ErrSyntax holds an interface value. -/
theorem errAt_of_laid {W : World} {l : List (String × DataW Unit)} (h : laidMet Tryd.prog l W) (hm : ("strconv.ErrSyntax", Rows.laid_strconv_ErrSyntax) ∈ l) : ErrAt W := by
  obtain ⟨g, t, cs, fuel, p, hg, ht, hv, hd⟩ := laidMet.reads h hm
  obtain rfl : 0 = g := Option.some.inj ((show Tryd.prog.globalNamed "strconv.ErrSyntax" = some 0 by kernel_rfl).symm.trans hg)
  obtain rfl : 60 = t := Option.some.inj ((show (Tryd.prog.globals[0]?).map (·.type) = some 60 by kernel_rfl).symm.trans ht)
  obtain ⟨f1, u, v, hcs, -, -⟩ := iface_of_trod Tryd.underlying60 hd
  have hc := World.var?_cell hg hv 0
  rw [show cs[0]? = some (.iface u v) by rw [← Array.getElem?_toList, hcs]; rfl] at hc
  exact ⟨_, hc, .inr ⟨u, v, rfl⟩⟩
set_option maxRecDepth 100000 in
/-- internal/bytealg.MaxLen holds an int. -/
theorem maxLen_of_shape {W : World} (h : W.ShapedOpen Tryd.prog) : ∃ m, W.cell? ⟨2, 0, none⟩ = some (.int .i64 m) := by
  obtain ⟨zero, hz, hzs⟩ : ∃ zero, ((begin Tryd.prog (fun _ _ => 0) default).world.heap[2]?).bind Obj.row? = some (zero, 3) ∧ zero.size = 1 := ⟨#[.int .i64 0], by kernel_rfl, rfl⟩
  obtain ⟨cs, hh, hs, hr⟩ := h.1 2 zero 3 (of_decide_eq_true (by kernel_rfl)) hz
  obtain ⟨ts, hts, _, hall⟩ := hr (by kernel_rfl)
  have hc : Tryd.prog.cellTypes Tryd.prog.depth 3 = some [3] := by kernel_rfl
  rw [hc] at hts
  cases hts
  have h1 : 0 < cs.size := by omega
  obtain ⟨u, hu', hok⟩ := hall 0 cs[0] (by simp [h1])
  have : u = 3 := by simpa using hu'.symm
  subst this
  have hcell : W.cell? ⟨2, 0, none⟩ = some cs[0] := by simp [World.cell?, hh, h1]
  rw [hcell]
  unfold Cell.ok at hok
  rw [Tryd.underlying3] at hok
  cases hv : cs[0] <;> rw [hv] at hok <;> simp at hok
  rename_i k n
  obtain rfl : k = .i64 := by first | exact hok | exact hok.symm | exact hok.1 | exact hok.1.symm
  exact ⟨n, rfl⟩

def pow10L : List Value := (List.range 20).map fun i => .int .u64 (10 ^ i : Nat)
def lits {H : Type} : DataW H → List Value
  | .agg l => l.map fun | .lit (.int k n) => .int k n | _ => .int .u8 0
  | _ => []
/-- THE WITNESS: the settled world and two blocks more (the two errors' texts), the seven variables holding what their initialisers lay. -/
noncomputable def laidWorld (os : Os) : World :=
  let N := (World.settled Tryd.prog os).heap.size
  let w0 := World.holding Tryd.prog os ⟨#[
    .cells #[.string ⟨#[118, 97, 108, 117, 101, 32, 111, 117, 116, 32, 111, 102, 32, 114, 97, 110, 103, 101]⟩] 116,
    .cells #[.string ⟨#[105, 110, 118, 97, 108, 105, 100, 32, 115, 121, 110, 116, 97, 120]⟩] 116], #[], []⟩
  let put (h : Array Obj) (g : Nat) (cs : Array Value) : Array Obj := h.modify g fun
    | .cells _ t frozen => .cells cs t frozen
    | o => o
  let h1 := put w0.heap 0 #[.iface 114 (.pointer (some ⟨N + 1, 0, none⟩))]
  let h2 := put h1 1 #[.iface 114 (.pointer (some ⟨N, 0, none⟩))]
  let h3 := put h2 3 (Lib.firstTab.map fun z => Value.int .u8 z).toArray
  let h4 := put h3 4 ((List.range 16).flatMap fun i => [Value.int .u8 (Lib.accLo i), Value.int .u8 (Lib.accHi i)]).toArray
  let h5 := put h4 5 (lits (H := Unit) Rows.laid_internal_strconv_uint64pow10).toArray
  let h6 := put h5 6 (lits (H := Unit) Rows.laid_math_bits_deBruijn32tab).toArray
  let h7 := put h6 7 (lits (H := Unit) Rows.laid_math_bits_deBruijn64tab).toArray
  { w0 with heap := h7 }
noncomputable abbrev N0 : Nat := (World.settled Tryd.prog default).heap.size
def laidL : List (String × DataW Unit) := [("math/bits.deBruijn32tab", Rows.laid_math_bits_deBruijn32tab), ("math/bits.deBruijn64tab", Rows.laid_math_bits_deBruijn64tab), ("internal/strconv.uint64pow10", Rows.laid_internal_strconv_uint64pow10), ("unicode/utf8.acceptRanges", Rows.laid_unicode_utf8_acceptRanges), ("strconv.ErrRange", Rows.laid_strconv_ErrRange), ("strconv.ErrSyntax", Rows.laid_strconv_ErrSyntax), ("unicode/utf8.first", Rows.laid_unicode_utf8_first)]
theorem laid_met (os : Os) (args : Array Value) : laidMet Tryd.prog laidL ((laidWorld os).forCall (fun _ _ => 0) ⟨#[], args, []⟩).memory :=
  (LaidIn.of_run (l := laidL) [6, 7, 5, 4, 1, N0, 0, N0 + 1, 3] 8 (by kernel_rfl) (by kernel_rfl) (by kernel_rfl) (by kernel_rfl)).met
end Go.Proofs.YthiplpgkgnebfaaDoor
