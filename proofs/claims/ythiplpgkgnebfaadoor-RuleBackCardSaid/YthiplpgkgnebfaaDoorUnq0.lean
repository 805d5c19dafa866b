/- strconv.ParseUint at two signs; rule.Unquote. -/
import Derived.Test.YthiplpgkgnebfaaDoorPU0
namespace Go.Proofs.YthiplpgkgnebfaaDoor
open Go.RowKit Go.Shelf Go.Proofs.YthiplpgkgnebfaaDoorW.PrintWords
set_option linter.unusedSimpArgs false
set_option linter.unusedVariables false

/-- strconv.ErrSyntax holds an error. -/
def ErrAt (w : World) : Prop := ∃ ev, w.cell? ⟨0, 0, none⟩ = some ev ∧ (ev = .nilIface ∨ ∃ te pe, ev = .iface te pe)
theorem ErrAt.below {w w' : World} (h : ErrAt w) (hb : Below w.heap.size w w') : ErrAt w' := by
  obtain ⟨ev, h1, h2⟩ := h; exact ⟨ev, pw_cell hb h1, h2⟩

set_option maxRecDepth 100000 in
set_option maxHeartbeats 2000000 in
theorem pu_ok (a b : UInt8) (n : Nat) (w : World) (h : hexP a b = some n) :
    Calls Tryd.prog 32 #[.string ⟨#[a, b]⟩, .int .i64 16, .int .i64 8] w fun e w' => e = .returned (.tuple #[.int .u64 n, .nilIface]) ∧ Below w.heap.size w w' := by
  have H := Aside0.mk h
  clear h
  go_enter Tryd.func32, Tryd.ntmps32
  go_wp2_with (go_at_call 53; refine (parseUint_calls a b _).mono ?_; rintro e w' ⟨rfl, hb⟩; rw [H.out]; simp only [parsedV])
  go_ret2
  exact ⟨rfl, hb⟩
set_option maxRecDepth 100000 in
set_option maxHeartbeats 2000000 in
theorem pu_bad (a b : UInt8) (w : World) (hE : ErrAt w) (h : hexP a b = none) :
    Calls Tryd.prog 32 #[.string ⟨#[a, b]⟩, .int .i64 16, .int .i64 8] w fun e w' => (∃ N, e = .returned (.tuple #[.int .u64 0, .iface 98 (.pointer (some ⟨N, 0, none⟩))])) ∧ Below w.heap.size w w' := by
  have H := Aside0.mk h
  clear h
  have HE := Aside0.mk hE
  clear hE
  go_enter Tryd.func32, Tryd.ntmps32
  go_wp2_with (go_at_call 53; refine (parseUint_calls a b _).mono ?_; rintro e w' ⟨rfl, hb⟩; rw [H.out]; simp only [parsedV])
  obtain ⟨ev, hv, hev⟩ := HE.out.below hb
  have HEV := Aside0.mk hev
  have HV := Aside0.mk hv
  refine (Tryd.strconv_toError_syntax _ _ _ _ ev _ (by show 2 ≤ _; omega) HV.out HEV.out).mono ?_
  rintro e w2 ⟨N, rfl, _, _, hb2⟩
  go_wp2
  go_ret2
  exact ⟨⟨N, rfl⟩, hb.trans (hb2.mono hb.size)⟩

/-- The program's way back. -/
def decP : List UInt8 → Option (List UInt8)
  | [] => some []
  | [a] => some [a]
  | [a, b] => some [a, b]
  | c :: a :: b :: l => if c = 37 then (match hexP a b with | some n => (decP l).map (UInt8.ofNat n :: ·) | none => none) else (decP (a :: b :: l)).map (c :: ·)
theorem hexU_hex : ∀ n, n < 16 → hexU (hexB n) = some n := by decide
theorem decP_enc (c : UInt8) (l : List UInt8) : decP (encB c ++ l) = (decP l).map (c :: ·) := by
  have hc := c.toNat_lt
  unfold encB
  by_cases h : quietB c = true
  · have h37 : c ≠ 37 := by rintro rfl; exact absurd h (by decide)
    rw [if_pos h]
    match l with
    | [] => rfl
    | [a] => rfl
    | a :: b :: l => simp [decP, h37]
  · rw [if_neg h]
    have e : UInt8.ofNat (16 * (c.toNat / 16) + c.toNat % 16) = c := by rw [Nat.div_add_mod]; exact UInt8.ofNat_toNat
    simp only [List.cons_append, List.nil_append, decP, if_true]
    have e2 : hexP (hexB (c.toNat / 16)) (hexB (c.toNat % 16)) = some (16 * (c.toNat / 16) + c.toNat % 16) := by
      unfold hexP; rw [hexU_hex _ (by omega), hexU_hex _ (by omega)]
    rw [e2]; simp only [e]
theorem decP_quote (t : List UInt8) (h : t ≠ []) : decP (quoteB t) = some t := by
  unfold quoteB; rw [if_neg h]
  clear h
  induction t with
  | nil => rfl
  | cons c t ih => rw [List.flatMap_cons, decP_enc, ih]; rfl
/-- A sign that stands as it is. -/
theorem decP_cons (c : UInt8) (l : List UInt8) (h : c ≠ 37 ∨ l.length ≤ 1) : decP (c :: l) = (decP l).map (c :: ·) := by
  match l with
  | [] => rfl
  | [a] => rfl
  | a :: b :: l =>
    rcases h with h | h
    · simp [decP, h]
    · simp at h
theorem hexP_lt {a b : UInt8} {n : Nat} (h : hexP a b = some n) : n < 256 := by
  unfold hexP at h
  split at h
  · rename_i x y hx hy
    have := (hexU_some hx).1; have := (hexU_some hy).1
    cases h; omega
  · cases h

theorem bs_cons {r : ByteArray} (h : 0 < r.size) : bs r = r[0] :: bs (r.extract 1 r.size) := by
  have h1 : bs (r.extract 1 r.size) = (bs r).drop 1 := by
    simp [bs, ByteArray.data_extract, List.drop_one]
    exact List.take_of_length_le (by simp)
  rw [h1]
  have hl : 0 < (bs r).length := by simpa [bs] using h
  rw [show (bs r).drop 1 = (bs r).tail from by simp]
  cases hb : bs r with
  | nil => rw [hb] at hl; simp at hl
  | cons c l =>
    simp only [List.tail_cons, List.cons.injEq, and_true]
    have : r[0] = (bs r)[0] := by simp [bs]; rfl
    rw [this]; simp [hb]
theorem bs_two {r : ByteArray} (h : 1 < r.size) : ∃ a b, r.extract 0 2 = ⟨#[a, b]⟩ ∧ bs r = a :: b :: bs (r.extract 2 r.size) := by
  have hl : 1 < (bs r).length := by simpa [bs] using h
  have h2 : bs (r.extract 2 r.size) = (bs r).drop 2 := by
    simp [bs, ByteArray.data_extract]
    exact List.take_of_length_le (by simp)
  have h3 : bs (r.extract 0 2) = (bs r).take 2 := by simp [bs, ByteArray.data_extract]
  match hb : bs r, hl with
  | a :: b :: l, _ =>
    refine ⟨a, b, ?_, ?_⟩
    · apply ByteArray.ext
      apply Array.toList_inj.1
      rw [hb] at h3
      simpa [bs] using h3
    · rw [h2, hb]; rfl
end Go.Proofs.YthiplpgkgnebfaaDoor
