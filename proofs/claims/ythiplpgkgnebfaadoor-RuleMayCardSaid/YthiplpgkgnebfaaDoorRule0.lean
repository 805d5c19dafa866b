/- rule.Token, rule.plain and quilterref11.Sign, .Token: what they answer. -/
import Derived.Test.YthiplpgkgnebfaaDoorRuleP1
import Derived.Lib.OthersKept
import Derived.Laws.RangeAny
import Derived.Deep.LoopGhost
namespace Go.Proofs.YthiplpgkgnebfaaDoor
open Go.RowKit Go.Shelf Go.Proofs.YthiplpgkgnebfaaDoorW.PrintWords
set_option linter.unusedSimpArgs false
set_option linter.unusedVariables false

theorem all_snoc' (may : UInt8 → Bool) (s : ByteArray) (k : Nat) (h : k < s.size) (ha : ((bs s).take k).all may = true) (hk : may s[k] = true) : ((bs s).take (k + 1)).all may = true := by
  rw [show bs s = s.data.toList from rfl] at ha ⊢
  rw [all_snoc may s k h, ha, hk]; rfl
theorem token_false (s : ByteArray) (k : Nat) (h : k < s.size) (hk : signB s[k] = false) : tokenB (bs s) = false := by
  have := all_false_of signB s k h hk
  unfold tokenB
  rw [show bs s = s.data.toList from rfl, this]; simp
theorem token_fin (s : ByteArray) (ha : ((bs s).take s.size).all signB = true) : tokenB (bs s) = !s.toList.isEmpty := by
  rw [List.take_of_length_le (by simp [bs])] at ha
  unfold tokenB
  rw [ha, ByteArray.toList_eq]
  rw [show bs s = s.data.toList from rfl]
  cases s.data.toList <;> simp
theorem sign_ascii {c : UInt8} (h : signB c = true) : c.toNat < 128 := by simp [signB] at h; omega

set_option maxRecDepth 100000 in
set_option maxHeartbeats 2000000 in
theorem token_calls (s : ByteArray) (w : World) (hs : s.size ≤ 9223372036854775807) :
    Calls Tryd.prog 19 #[.string s] w fun e w' => e = .returned (.bool (tokenB (bs s))) ∧ Below w.heap.size w w' := by
  go_enter Tryd.func19, Tryd.ntmps19
  go_wp2
  go_loopw [] (fun wr => ∃ pos : Nat, wr.heap[w.heap.size]? = some (.stringIter s pos) ∧ Aside0 (Below w.heap.size w wr) ∧ Aside0 (pos ≤ s.size) ∧ Aside0 (((bs s).take pos).all signB = true)) (fun wr => s.size - wr.iterPos w.heap.size)
  case atStart => exact ⟨0, World.iter_heap w s 0, ⟨(Below.refl _ w).alloc (Nat.le_refl _) _⟩, ⟨Nat.zero_le _⟩, ⟨rfl⟩⟩
  case round =>
    obtain ⟨pos, hit, HB, HP, HA⟩ := hrel
    by_cases hp : pos < s.size
    · cases hsg : signB s[pos] with
      | true =>
        have hnx : ∀ ty, (Instr.next (.pointer (some ⟨w.heap.size, 0, none⟩)) true ty).run Tryd.prog wr = _ := fun ty => Lib.run_next_ascii_at wr w.heap.size s pos ty hit hp (sign_ascii hsg)
        have hit2 := Lib.iterAt_heap wr w.heap.size s pos (pos + 1) hit
        have HA2 := Aside0.mk (all_snoc' signB s pos hp HA.out hsg)
        have HB2 := Aside0.mk (Lib.below_iterAt HB.out (k := w.heap.size) (Nat.le_refl _) s (pos + 1))
        have hr : (97 ≤ s[pos].toNat ∧ s[pos].toNat ≤ 122) ∨ (65 ≤ s[pos].toNat ∧ s[pos].toNat ≤ 90) ∨ (48 ≤ s[pos].toNat ∧ s[pos].toNat ≤ 57) ∨ s[pos].toNat = 95 := by simpa [signB] using hsg
        have HIT := Aside0.mk hit
        have HIT2 := Aside0.mk hit2
        clear hsg hit hit2
        go_wp2
        all_goals first
          | (exfalso; omega)
          | skip
        all_goals go_roundw
        all_goals first
          | exact ⟨pos + 1, HIT2.out, HB2, ⟨by omega⟩, HA2⟩
          | (simp only [World.iterPos, HIT2.out, HIT.out]; omega)
      | false =>
        have HF := Aside0.mk (token_false s pos hp hsg)
        obtain ⟨r, d, hd, hr⟩ : ∃ r d, Utf8.decode s pos = (r, d) ∧ (128 ≤ r ∨ (r = s[pos].toNat)) := by
          by_cases ha : s[pos].toNat < 128
          · exact ⟨_, _, decode_ascii s pos hp ha, .inr rfl⟩
          · exact ⟨_, _, rfl, .inl (decode_high s pos hp (by omega)).1⟩
        have hnx : ∀ ty, (Instr.next (.pointer (some ⟨w.heap.size, 0, none⟩)) true ty).run Tryd.prog wr = .ok (.tuple #[.bool true, .int .i64 pos, .int .i32 r]) (wr.iterAt w.heap.size s (pos + d)) := fun ty => by rw [Lib.run_next_any_at wr w.heap.size s pos ty hit hp, hd]
        have HB2 := Aside0.mk (Lib.below_iterAt HB.out (k := w.heap.size) (Nat.le_refl _) s (pos + d))
        have hr2 : ¬ ((97 ≤ r ∧ r ≤ 122) ∨ (65 ≤ r ∧ r ≤ 90) ∨ (48 ≤ r ∧ r ≤ 57) ∨ r = 95) := by
          rcases hr with hr | hr
          · omega
          · rw [hr]; simpa [signB] using hsg
        have hne : ((r : Int) != 95) = true := by rw [bne_iff_ne]; intro e; omega
        clear hsg hit hd hr
        go_wp2
        all_goals first
          | (exfalso; omega)
          | skip
        all_goals go_ret
        all_goals exact ⟨ret_bool HF.out.symm, HB2.out⟩
    · have hnx : ∀ ty, (Instr.next (.pointer (some ⟨w.heap.size, 0, none⟩)) true ty).run Tryd.prog wr = _ := fun ty => Lib.run_next_end_at wr w.heap.size s pos ty hit hp
      have HF := Aside0.mk (token_fin s (by have h := HA.out; rwa [show pos = s.size from by have := HP.out; omega] at h))
      clear hit
      go_wp2
      go_ret
      exact ⟨ret_bool HF.out.symm, HB.out⟩

set_option maxRecDepth 100000 in
theorem sign_calls (c : UInt8) (w : World) :
    Calls Tryd.prog 26 #[.int .u8 c.toNat] w fun e w' => e = .returned (.bool (signB c)) ∧ w' = w := by
  have hc : (c.toNat : Int) < 256 := by have := c.toNat_lt; omega
  go_enter Tryd.func26, Tryd.ntmps26
  go_wp2
  all_goals go_ret
  all_goals refine ⟨ret_bool ?_, rfl⟩
  all_goals rw [Bool.eq_iff_iff]
  all_goals simp [signB]
  all_goals omega
set_option maxRecDepth 100000 in
theorem quiet_calls (c : UInt8) (w : World) :
    Calls Tryd.prog 34 #[.int .u8 c.toNat] w fun e w' => e = .returned (.bool (quietB c)) ∧ w' = w := by
  have hc : (c.toNat : Int) < 256 := by have := c.toNat_lt; omega
  go_enter Tryd.func34, Tryd.ntmps34
  go_wp2
  all_goals go_ret
  all_goals refine ⟨ret_bool ?_, rfl⟩
  all_goals rw [Bool.eq_iff_iff]
  all_goals simp [quietB]
  all_goals omega
end Go.Proofs.YthiplpgkgnebfaaDoor
