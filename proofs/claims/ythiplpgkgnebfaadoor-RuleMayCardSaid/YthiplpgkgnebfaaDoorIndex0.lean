/- strings.Index at a separator of one byte: the place of its first occurrence, or -1. -/
import Derived.Test.YthiplpgkgnebfaaDoorPath0
import Derived.Laws.StandIn
namespace Go.Proofs.YthiplpgkgnebfaaDoor
open Go.RowKit

/-- The place of the first c; -1: there is none. -/
def idxB (c : UInt8) : List UInt8 → Int
  | [] => -1
  | b :: l => if b = c then 0 else if idxB c l = -1 then -1 else idxB c l + 1
theorem idxB_spec (c : UInt8) : ∀ l : List UInt8, (idxB c l = -1 ∧ c ∉ l) ∨ ∃ a b, l = a ++ c :: b ∧ c ∉ a ∧ idxB c l = a.length
  | [] => .inl ⟨rfl, by simp⟩
  | x :: l => by
    by_cases h : x = c
    · subst h; exact .inr ⟨[], l, rfl, by simp, by simp [idxB]⟩
    · rcases idxB_spec c l with ⟨h1, h2⟩ | ⟨a, b, rfl, h2, h3⟩
      · exact .inl ⟨by simp [idxB, h, h1], by simp [h2]; exact fun e => h e.symm⟩
      · refine .inr ⟨x :: a, b, rfl, by simp [h2]; exact fun e => h e.symm, ?_⟩
        rw [idxB, if_neg h, h3, if_neg (by omega)]
        simp
theorem firstIdx_eq (s : ByteArray) (c : UInt8) : firstIdx s c = idxB c s.data.toList := by
  unfold firstIdx
  rcases idxB_spec c s.data.toList with ⟨h1, h2⟩ | ⟨a, b, h1, h2, h3⟩
  · rw [h1]
    have hn : List.find? (fun i => s[i]! == c) (List.range s.size) = none := by
      rw [List.find?_eq_none]
      intro i hi
      have hi' : i < s.size := by simpa using hi
      have hm : s[i] ∈ s.data.toList := by rw [Array.mem_toList_iff]; exact Array.getElem_mem hi'
      rw [getElem!_pos s i hi']
      simp only [beq_iff_eq]
      intro e; rw [e] at hm; exact h2 hm
    rw [hn]
  · rw [h3]
    have hl : s.size = a.length + (b.length + 1) := by
      have : s.data.toList.length = s.size := by simp
      rw [← this, h1]; simp
    have hg : ∀ i (hi : i < s.size), s[i] = (a ++ c :: b)[i]'(by simp; omega) := by
      intro i hi
      have : s[i] = s.data.toList[i]'(by simpa using hi) := by simp; rfl
      rw [this]; congr 1
    have hf : List.find? (fun i => s[i]! == c) (List.range s.size) = some a.length := by
      rw [List.find?_range_eq_some]
      refine ⟨?_, by simp; omega, ?_⟩
      · rw [getElem!_pos s _ (by omega), hg _ (by omega)]; simp
      · intro j hj
        rw [getElem!_pos s _ (by omega), hg _ (by omega), List.getElem_append_left hj]
        have : a[j] ∈ a := List.getElem_mem hj
        simp only [Bool.not_eq_true', beq_eq_false_iff_ne]
        intro e; rw [e] at this; exact h2 this
    rw [hf]
theorem idxB_single (c : UInt8) (s : ByteArray) (h : s.toList = [c]) : idxB c s.data.toList = 0 := by
  rw [← ByteArray.toList_eq, h]; simp [idxB]
set_option maxRecDepth 100000 in
theorem index_calls (s : ByteArray) (c : UInt8) (w : World) :
    Calls Tryd.prog 58 #[.string s, .string ⟨#[c]⟩] w fun e w' => e = .returned (.int .i64 (idxB c s.data.toList)) ∧ w' = w := by
  have hcf := fun (args : Array Value) (W : World) => run_callFunc_indexByte (P := Tryd.prog) Tryd.func90 (by kernel_rfl) rfl (by kernel_rfl) (by kernel_rfl) args W
  by_cases hs : s.toList = [c]
  · go_enter Tryd.func58, Tryd.ntmps58
    go_wp2
    go_ret
    exact ⟨by rw [idxB_single c s hs]; rfl, rfl⟩
  · have hx := run_indexByte_string (P := Tryd.prog) s c.toNat
    have hy : (c.toNat : Int).toNat.toUInt8 = c := by simp
    rw [hy, firstIdx_eq] at hx
    clear hy
    have hne : ([c] == s.toList) = false := by rw [beq_eq_false_iff_ne]; exact fun e => hs e.symm
    have hc0 : ∀ h, (ByteArray.mk #[c])[0]'h = c := fun _ => rfl
    clear hs
    go_enter Tryd.func58, Tryd.ntmps58
    go_wp2
    go_ret
    exact ⟨rfl, rfl⟩
end Go.Proofs.YthiplpgkgnebfaaDoor
