/- rule.Parse: what it answers (under way). -/
import Derived.Test.YthiplpgkgnebfaaDoorSpl0
namespace Go.Proofs.YthiplpgkgnebfaaDoor
open Go.RowKit Go.Shelf Go.Proofs.YthiplpgkgnebfaaDoorW.PrintWords
attribute [local go_sem] Oper.semAt_some
set_option linter.unusedSimpArgs false
set_option linter.unusedVariables false

abbrev RuleC := Int × ByteArray × ByteArray × ByteArray
def rvOf (x : RuleC) : RuleV := rv x.1 x.2.1 x.2.2.1 x.2.2.2
def ruleRow (x : RuleC) : List Value := [.int .i64 x.1, .string x.2.1, .string x.2.2.1, .string x.2.2.2]
def rowsOf (l : List RuleC) : List Value := l.flatMap ruleRow
theorem rowsOf_len (l : List RuleC) : (rowsOf l).length = l.length * 4 := by
  induction l with
  | nil => rfl
  | cons x l ih => simp [rowsOf, ruleRow] at ih ⊢; omega
theorem rowsOf_snoc (l : List RuleC) (x : RuleC) : rowsOf (l ++ [x]) = rowsOf l ++ ruleRow x := by simp [rowsOf]
theorem linesB_snoc {pre : List (List UInt8)} {l : List RuleV} (h : linesB pre = some l) (x : List UInt8) : linesB (pre ++ [x]) = if x = [] then some l else match oneB (splitB 32 x) with | none => none | some r => some (l ++ [r]) := by
  rw [lines_app, h]
  simp only [linesB, Option.bind_some]
  split
  · simp
  · cases oneB (splitB 32 x) <;> simp
theorem linesB_bad {pre rest : List (List UInt8)} {l : List RuleV} {x : List UInt8} (h : linesB pre = some l) (hx : x ≠ []) (ho : oneB (splitB 32 x) = none) : linesB (pre ++ x :: rest) = none := by
  rw [lines_app, h]
  simp only [linesB, Option.bind_some, if_neg hx, ho]
  rfl
end Go.Proofs.YthiplpgkgnebfaaDoor
