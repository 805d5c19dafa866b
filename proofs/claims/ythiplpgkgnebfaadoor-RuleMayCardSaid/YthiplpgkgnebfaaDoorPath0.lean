/- path.plain and path.name: what they answer. -/
import Derived.Test.YthiplpgkgnebfaaDoorProg
import Derived.Test.YthiplpgkgnebfaaDoorWWords
import Derived.WalkKit
import Derived.KernelRfl
import Derived.Lib.Hide
import Derived.Lib.ConvBytes
namespace Go.Proofs.YthiplpgkgnebfaaDoor
open Go.RowKit Go.Proofs.YthiplpgkgnebfaaDoorW

def plainB (c : UInt8) : Bool := decide ((97 ≤ c.toNat ∧ c.toNat ≤ 122) ∨ (65 ≤ c.toNat ∧ c.toNat ≤ 90) ∨ (48 ≤ c.toNat ∧ c.toNat ≤ 57) ∨ c.toNat = 46 ∨ c.toNat = 95 ∨ c.toNat = 45)
theorem ret_bool {a b : Bool} (h : a = b) : Ending.returned (.bool a) = .returned (.bool b) := by rw [h]
set_option maxRecDepth 100000 in
theorem plain_calls (c : UInt8) (w : World) :
    Calls Tryd.prog 60 #[.int .u8 c.toNat] w fun e w' => e = .returned (.bool (plainB c)) ∧ w' = w := by
  have hc : (c.toNat : Int) < 256 := by have := c.toNat_lt; omega
  go_enter Tryd.func60, Tryd.ntmps60
  go_wp2
  all_goals go_ret
  all_goals refine ⟨ret_bool ?_, rfl⟩
  all_goals rw [Bool.eq_iff_iff]
  all_goals simp [plainB]
  all_goals omega

def nameB (may : UInt8 → Bool) (s : List UInt8) : Bool := s.all may && s != [] && decide (s.length ≤ 30) && s != [46] && s != [46, 46]

theorem all_snoc (may : UInt8 → Bool) (s : ByteArray) (k : Nat) (h : k < s.size) : (s.data.toList.take (k + 1)).all may = ((s.data.toList.take k).all may && may s[k]) := by
  rw [List.take_succ_eq_append_getElem (by simpa using h), List.all_append]
  simp
  rfl

theorem all_false_of (may : UInt8 → Bool) (s : ByteArray) (k : Nat) (h : k < s.size) (hp : may s[k] = false) : s.data.toList.all may = false := by
  rw [List.all_eq_false]
  refine ⟨s[k], ?_, by simp [hp]⟩
  rw [Array.mem_toList_iff]
  exact Array.getElem_mem h

theorem name_fin (may : UInt8 → Bool) (s : ByteArray) (h : s.data.toList.all may = true) :
    nameB may s.data.toList = (!s.toList.isEmpty && decide ((s.size : Int) ≤ 30) && !(s.toList == [46]) && !(s.toList == [46, 46])) := by
  have hl : s.data.toList.length = s.size := by simp
  have e : decide (s.size ≤ 30) = decide ((s.size : Int) ≤ 30) := by rw [Bool.eq_iff_iff]; simp; omega
  unfold nameB
  rw [h, ByteArray.toList_eq, hl, e]
  cases s.data.toList <;> simp [bne]

set_option maxRecDepth 100000 in
set_option maxHeartbeats 1000000 in
theorem name_calls (s : ByteArray) (w : World) (hs : s.size ≤ 9223372036854775807) :
    Calls Tryd.prog 59 #[.string s, .func (.func 60) #[] #[]] w fun e w' => e = .returned (.bool (nameB plainB s.data.toList)) ∧ Below w.heap.size w w' := by
  have kb := fun W => Lib.run_convert_string_bytes (P := Tryd.prog) W 9 45 5 s Tryd.underlying9 Tryd.underlying45 Tryd.underlying5
  go_enter Tryd.func59, Tryd.ntmps59
  go_wp2
  go_loop [10] (fun i => ∃ k : Nat, k ≤ s.size ∧ i = .int .i64 k ∧ (s.data.toList.take k).all plainB = true) (fun i => s.size - (intOf i).toNat)
  case atStart => exact ⟨0, Nat.zero_le _, rfl, rfl⟩
  case round =>
    obtain ⟨k, hk, rfl, hall⟩ := hrel
    have H := Lib.hid hall
    clear hall
    by_cases hlt : k < s.size
    · have hcell := Lib.bytesWorld_cell w 5 s k hlt
      have hgd : s.data.toList.getD k 0 = s[k] := by simp [List.getD_eq_getElem?_getD, hlt]; rfl
      rw [hgd] at hcell
      clear hgd
      have hsn := all_snoc plainB s k hlt
      have HS := Lib.hid hsn
      clear hsn
      cases hp : plainB s[k] with
      | true =>
        have HP := Lib.hid hp
        clear hp
        go_wp2_with (go_at_call 60; refine (plain_calls _ _).mono ?_; rintro e w' ⟨rfl, rfl⟩; rw [HP.out])
        go_round
        case rel => exact ⟨k + 1, by omega, by go_num, by rw [HS.out, H.out, HP.out]; rfl⟩
        case measure => simp [intOf]; omega
      | false =>
        have HP := Lib.hid hp
        clear hp
        go_wp2_with (go_at_call 60; refine (plain_calls _ _).mono ?_; rintro e w' ⟨rfl, rfl⟩; rw [HP.out])
        go_ret
        refine ⟨ret_bool ?_, PrintWords.bytes_below (Below.refl _ _) (Nat.le_refl _) _ _⟩
        have h1 : s.data.toList.all plainB = false := all_false_of plainB s k hlt HP.out
        simp [nameB, h1]
    · have hke : k = s.size := by omega
      go_wp2
      all_goals go_ret
      all_goals refine ⟨ret_bool ?_, PrintWords.bytes_below (Below.refl _ _) (Nat.le_refl _) _ _⟩
      all_goals have h1 : s.data.toList.all plainB = true := by have h := H.out; rwa [List.take_of_length_le (by simp; omega)] at h
      all_goals rw [name_fin plainB s h1]
      all_goals clear h1 H kb
      all_goals go_tidy
      all_goals first | (simp_all; done) | (simp_all; intro h; omega)
end Go.Proofs.YthiplpgkgnebfaaDoor
