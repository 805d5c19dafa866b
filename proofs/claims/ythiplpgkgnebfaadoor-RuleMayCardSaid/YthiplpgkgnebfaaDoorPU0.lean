/- internal/strconv.ParseUint at two signs of base 16, eight bits. -/
import Derived.Test.YthiplpgkgnebfaaDoorQuote0
namespace Go.Proofs.YthiplpgkgnebfaaDoor
open Go.RowKit Go.Shelf Go.Proofs.YthiplpgkgnebfaaDoorW.PrintWords
set_option linter.unusedSimpArgs false
set_option linter.unusedVariables false

/-- What a sign is worth, in either case. -/
def hexU (c : UInt8) : Option Nat := if 48 ≤ c.toNat ∧ c.toNat ≤ 57 then some (c.toNat - 48) else if 97 ≤ c.toNat ∧ c.toNat ≤ 102 then some (c.toNat - 87) else if 65 ≤ c.toNat ∧ c.toNat ≤ 70 then some (c.toNat - 55) else none
theorem orAll : ∀ n : Fin 256, bits .or .u8 (n.val : Int) 32 = (if n.val / 32 % 2 = 1 then (n.val : Int) else n.val + 32) := by decide +kernel
theorem orU (c : UInt8) : bits .or .u8 (c.toNat : Int) 32 = (if c.toNat / 32 % 2 = 1 then (c.toNat : Int) else c.toNat + 32) := orAll ⟨c.toNat, c.toNat_lt⟩
theorem hexU_some {c : UInt8} {d : Nat} (h : hexU c = some d) : d < 16 ∧ ((48 ≤ c.toNat ∧ c.toNat ≤ 57 ∧ (d : Int) = c.toNat - 48) ∨ (57 < c.toNat ∧ c.toNat ≠ 95 ∧ 97 ≤ bits .or .u8 (c.toNat : Int) 32 ∧ bits .or .u8 (c.toNat : Int) 32 ≤ 102 ∧ (d : Int) = bits .or .u8 (c.toNat : Int) 32 - 87)) := by
  rw [orU]
  have hc := c.toNat_lt
  unfold hexU at h
  split at h
  · cases h; omega
  · split at h
    · cases h; rw [if_pos (by omega)]; omega
    · split at h
      · cases h; rw [if_neg (by omega)]; omega
      · cases h
theorem hexU_none {c : UInt8} (h : hexU c = none) : ¬ (48 ≤ c.toNat ∧ c.toNat ≤ 57) ∧ (bits .or .u8 (c.toNat : Int) 32 < 97 ∨ 102 < bits .or .u8 (c.toNat : Int) 32) ∧ bits .or .u8 (c.toNat : Int) 32 < 256 := by
  rw [orU]
  have hc := c.toNat_lt
  unfold hexU at h
  split at h
  · cases h
  · split at h
    · cases h
    · split at h
      · cases h
      · split <;> omega

def parsedV : Option Nat → Value
  | some n => .tuple #[.int .u64 n, .nilIface]
  | none => .tuple #[.int .u64 0, .iface 96 (.int .i64 2)]
def hexP (a b : UInt8) : Option Nat := match hexU a, hexU b with | some x, some y => some (16 * x + y) | _, _ => none

set_option maxRecDepth 100000 in
set_option maxHeartbeats 4000000 in
theorem parseUint_calls (a b : UInt8) (w : World) :
    Calls Tryd.prog 53 #[.string ⟨#[a, b]⟩, .int .i64 16, .int .i64 8] w fun e w' =>
      e = .returned (parsedV (hexP a b)) ∧ Below w.heap.size w w' := by
  have hcv := Lib.run_convert_string_bytes (P := Tryd.prog) w 9 45 5 ⟨#[a, b]⟩ Tryd.underlying9 Tryd.underlying45 Tryd.underlying5
  have hB0 : (Lib.bytesWorld w 5 ⟨#[a, b]⟩).cell? ⟨w.heap.size, 0, none⟩ = some (.int .u8 a.toNat) := Lib.bytesWorld_cell w 5 ⟨#[a, b]⟩ 0 (Nat.zero_lt_succ 1)
  have hB1 : (Lib.bytesWorld w 5 ⟨#[a, b]⟩).cell? ⟨w.heap.size, 1, none⟩ = some (.int .u8 b.toNat) := Lib.bytesWorld_cell w 5 ⟨#[a, b]⟩ 1 (Nat.lt_succ_self 1)
  have HBe := Aside0.mk (Go.Proofs.YthiplpgkgnebfaaDoorW.PrintWords.bytes_below (Below.refl _ _) (Nat.le_refl _) _ _ : Below w.heap.size w (Lib.bytesWorld w 5 ⟨#[a, b]⟩))
  obtain ⟨W1, hW1⟩ : ∃ W1, W1 = Lib.bytesWorld w 5 ⟨#[a, b]⟩ := ⟨_, rfl⟩
  rw [← hW1] at hcv hB0 hB1 HBe
  clear hW1
  have hmv : IntKind.u64.wrap (IntKind.u64.wrap 256 - 1) = 255 := by
    rw [IntKind.wrap_u64, IntKind.wrap_u64]
    decide
  go_enter Tryd.func53, Tryd.ntmps53
  go_wp2
  go_loop [12, 13, 101] (fun vu vn vi => ∃ (k v : Nat) (z : Int), vu = .bool false ∧ vn = .int .u64 z ∧ vi = .int .i64 k ∧ k ≤ 2 ∧ Aside0 (z = v ∧ v < 256 ∧ (k = 0 → v = 0) ∧ (k = 1 → hexU a = some v) ∧ (k = 2 → hexP a b = some v))) (fun _ _ vi => 2 - (intOf vi).toNat)
  case atStart => exact ⟨0, 0, 0, rfl, rfl, rfl, by omega, ⟨rfl, by omega, fun _ => rfl, by omega, by omega⟩⟩
  case round =>
    obtain ⟨k, v, z, rfl, rfl, rfl, hk, HH⟩ := hrel
    rcases Nat.lt_or_ge k 2 with hlt | hge
    · obtain ⟨c, hcell, HNX, HNN⟩ : ∃ c : UInt8, W1.cell? ⟨w.heap.size, k, none⟩ = some (.int .u8 c.toNat) ∧ Aside0 (∀ d, hexU c = some d → v < 16 ∧ 16 * v + d < 256 ∧ (k + 1 = 1 → hexU a = some (16 * v + d)) ∧ (k + 1 = 2 → hexP a b = some (16 * v + d))) ∧ Aside0 (hexU c = none → hexP a b = none) := by
        obtain ⟨_, _, h0, h1, _⟩ := HH.out
        rcases Nat.lt_or_ge k 1 with h | h
        · obtain rfl : k = 0 := by omega
          obtain rfl := h0 rfl
          refine ⟨a, hB0, ⟨fun d hd => ⟨by omega, by have := (hexU_some hd).1; omega, fun _ => by rw [hd]; simp, by omega⟩⟩, ⟨fun hn => by unfold hexP; rw [hn]⟩⟩
        · obtain rfl : k = 1 := by omega
          have ha := h1 rfl
          have hv := (hexU_some ha).1
          refine ⟨b, hB1, ⟨fun d hd => ⟨hv, by have := (hexU_some hd).1; omega, by omega, fun _ => by unfold hexP; rw [ha, hd]⟩⟩, ⟨fun hn => by unfold hexP; rw [ha, hn]⟩⟩
      have hz0 : 0 ≤ z := by have := HH.out; omega
      have hz1 : z < 256 := by have := HH.out; omega
      have hc256 : c.toNat < 256 := c.toNat_lt
      have HZ := Aside0.mk (show z = (v : Int) from HH.out.1)
      clear hB0 hB1
      cases hx : hexU c with
      | some d =>
        obtain ⟨hd16, hd⟩ := hexU_some hx
        have HX := Aside0.mk (HNX.out d hx)
        clear hx HNX HNN
        have hz2 : z < 16 := by have := HX.out.1; have := HZ.out; omega
        rcases hd with ⟨h1, h2, h3⟩ | ⟨h1, h2, h3, h4, h5⟩
        · have iov : z * 16 + ((c.toNat : Int) - 48) ≤ 255 := by omega
          have HN := Aside0.mk (show z * 16 + ((c.toNat : Int) - 48) = ((16 * v + d : Nat) : Int) by have := HZ.out; omega)
          clear h3 hd16 HH
          go_wp2
          refine ⟨⟨k + 1, 16 * v + d, z * 16 + ((c.toNat : Int) - 48), rfl, (by first | rfl | (congr 1; omega)), (by first | rfl | (congr 1; omega)), by omega, ⟨HN.out, HX.out.2.1, by omega, HX.out.2.2.1, HX.out.2.2.2⟩⟩, by simp [intOf]; omega⟩
        · have e95 : ((c.toNat : Int) == 95) = false := by rw [beq_eq_false_iff_ne]; omega
          obtain ⟨L, hL⟩ : ∃ L, L = bits .or .u8 (c.toNat : Int) 32 := ⟨_, rfl⟩
          rw [← hL] at h3 h4 h5
          have HL := Aside0.mk hL.symm
          have iov : z * 16 + (L - 97 + 10) ≤ 255 := by omega
          have HN := Aside0.mk (show z * 16 + (L - 97 + 10) = ((16 * v + d : Nat) : Int) by have := HZ.out; omega)
          clear h5 hd16 HH hL h2
          go_wp2_with (go_at_call 67; refine (Tryd.internal_strconv_lower _ _).mono ?_; rintro e w' ⟨rfl, rfl⟩; rw [HL.out])
          refine ⟨⟨k + 1, 16 * v + d, z * 16 + (L - 97 + 10), rfl, (by first | rfl | (congr 1; omega)), (by first | rfl | (congr 1; omega)), by omega, ⟨HN.out, HX.out.2.1, by omega, HX.out.2.2.1, HX.out.2.2.2⟩⟩, by simp [intOf]; omega⟩
      | none =>
        have HP := Aside0.mk (HNN.out hx)
        obtain ⟨h1, h2, h3⟩ := hexU_none hx
        clear hx HNX HNN HH
        have hv0 := bits_lo_u8 .or (c.toNat : Int) 32
        have hv1 := bits_hi_u8 .or (c.toNat : Int) 32
        have hu0 := bits_lo_u8 .or 95 32
        have hu1 := bits_hi_u8 .or 95 32
        go_wp2_with (go_at_call 67; refine (Tryd.internal_strconv_lower _ _).mono ?_; rintro e w' ⟨rfl, rfl⟩)
        all_goals go_ret2
        all_goals exact ⟨by rw [HP.out]; rfl, HBe.out⟩
    · obtain rfl : k = 2 := by omega
      have HR := Aside0.mk (HH.out.2.2.2.2 rfl)
      have HZ := Aside0.mk HH.out.1
      clear HH
      go_wp2
      go_ret2
      exact ⟨by rw [HR.out, HZ.out]; rfl, HBe.out⟩
end Go.Proofs.YthiplpgkgnebfaaDoor
