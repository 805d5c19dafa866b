/- strings.Split at one byte: its pieces are those of splitB. -/
import Derived.Test.YthiplpgkgnebfaaDoorOne0
namespace Go.Proofs.YthiplpgkgnebfaaDoor
open Go.RowKit Go.Shelf Go.Proofs.YthiplpgkgnebfaaDoorW.PrintWords

theorem index_cons (b c : UInt8) (l : List UInt8) : Lib.index (b :: l) [c] = if b == c then 0 else if Lib.index l [c] == -1 then -1 else Lib.index l [c] + 1 := by
  rw [Lib.index_one, Lib.index_one]; rfl
theorem split_miss {c : UInt8} : ∀ {s : List UInt8}, Lib.index s [c] = -1 → splitB c s = [s]
  | [], _ => rfl
  | b :: l, h => by
    rw [index_cons] at h
    have hge := Lib.index_ge l [c]
    split at h
    · cases h
    · rename_i hb
      split at h
      · rename_i h1
        have ih := split_miss (s := l) (by simpa using h1)
        simp only [splitB]
        rw [if_neg (by simpa using hb), ih]
      · omega
theorem split_hit {c : UInt8} : ∀ {s : List UInt8} {i : Nat}, Lib.index s [c] = i → splitB c s = s.take i :: splitB c (s.drop (i + 1))
  | [], i, h => by rw [Lib.index_one] at h; simp [Lib.indexByte] at h
  | b :: l, i, h => by
    rw [index_cons] at h
    have hge := Lib.index_ge l [c]
    split at h
    · rename_i hb
      obtain rfl : i = 0 := by omega
      simp only [splitB]
      rw [if_pos (by simpa using hb)]; simp
    · rename_i hb
      split at h
      · omega
      · rename_i h1
        have h2 : Lib.index l [c] ≠ -1 := by simpa using h1
        obtain ⟨j, rfl⟩ : ∃ j, i = j + 1 := ⟨i - 1, by omega⟩
        have ih := split_hit (c := c) (s := l) (i := j) (by omega)
        simp only [splitB]
        rw [if_neg (by simpa using hb), ih]; simp
theorem splitK_eq (c : UInt8) : ∀ (n : Nat) (s : List UInt8), s.length ≤ n → Lib.splitK [c] 0 (Lib.count s [c]) s = splitB c s
  | n, s, hn => by
    have hge := Lib.index_ge s [c]
    by_cases h : Lib.index s [c] = -1
    · rw [Lib.count_miss h, split_miss h]; rfl
    · obtain ⟨i, hi⟩ : ∃ i : Nat, Lib.index s [c] = i := ⟨(Lib.index s [c]).toNat, by omega⟩
      rw [Lib.count_hit (by simp) hi, split_hit hi]
      rw [show 1 + Lib.count (s.drop (i + [c].length)) [c] = Lib.count (s.drop (i + [c].length)) [c] + 1 from Nat.add_comm _ _]
      have hsh := Lib.drop_shorter (s := s) (sub := [c]) (by simp) (by rw [hi]; simp)
      rw [hi] at hsh
      match n, hn with
      | 0, hn => omega
      | n + 1, hn =>
        have ih := splitK_eq c n (s.drop (i + 1)) (by simp at hsh ⊢; omega)
        unfold Lib.splitK
        rw [if_neg (by rw [hi]; simp), hi]
        simp only [List.length_cons, List.length_nil, Nat.zero_add, Int.toNat_natCast, Nat.add_zero]
        rw [ih]
theorem splitK_len (c : UInt8) : ∀ (n : Nat) (s : List UInt8), s.length ≤ n → (Lib.splitK [c] 0 (Lib.count s [c]) s).length = Lib.count s [c] + 1
  | n, s, hn => by
    have hge := Lib.index_ge s [c]
    by_cases h : Lib.index s [c] = -1
    · rw [Lib.count_miss h]; rfl
    · obtain ⟨i, hi⟩ : ∃ i : Nat, Lib.index s [c] = i := ⟨(Lib.index s [c]).toNat, by omega⟩
      rw [Lib.count_hit (by simp) hi]
      rw [show 1 + Lib.count (s.drop (i + [c].length)) [c] = Lib.count (s.drop (i + [c].length)) [c] + 1 from Nat.add_comm _ _]
      have hsh := Lib.drop_shorter (s := s) (sub := [c]) (by simp) (by rw [hi]; simp)
      rw [hi] at hsh
      match n, hn with
      | 0, hn => omega
      | n + 1, hn =>
        have ih := splitK_len c n (s.drop (i + 1)) (by simp at hsh ⊢; omega)
        unfold Lib.splitK
        rw [if_neg (by rw [hi]; simp), hi]
        simp only [List.length_cons, List.length_nil, Nat.zero_add, Int.toNat_natCast, Nat.add_zero]
        rw [ih]
theorem pieces_len (s : ByteArray) (c : UInt8) : (Lib.splitB ⟨#[c]⟩ 0 (Lib.countB s ⟨#[c]⟩) s).length = Lib.countB s ⟨#[c]⟩ + 1 := by
  have h := congrArg List.length (Lib.splitB_data ⟨#[c]⟩ 0 (Lib.countB s ⟨#[c]⟩) s)
  rw [List.length_map] at h
  exact h.trans (splitK_len c _ (bs s) (Nat.le_refl _))
theorem pieces_eq (s : ByteArray) (c : UInt8) : (Lib.splitB ⟨#[c]⟩ 0 (Lib.countB s ⟨#[c]⟩) s).map bs = splitB c (bs s) := by
  have h := Lib.splitB_data ⟨#[c]⟩ 0 (Lib.countB s ⟨#[c]⟩) s
  exact h.trans (splitK_eq c _ (bs s) (Nat.le_refl _))
end Go.Proofs.YthiplpgkgnebfaaDoor
