/- rule.Quote: what it answers. -/
import Derived.Test.YthiplpgkgnebfaaDoorBld0
import Derived.StillTailTactics
import Derived.Laws.BitsLemmas
namespace Go.Proofs.YthiplpgkgnebfaaDoor
open Go.RowKit Go.Shelf Go.Proofs.YthiplpgkgnebfaaDoorW.PrintWords
set_option linter.unusedSimpArgs false
set_option linter.unusedVariables false

theorem bytes_below {w : World} {s : ByteArray} {t : TypeId} : Below w.heap.size w (Lib.bytesWorld w t s) := Go.Proofs.YthiplpgkgnebfaaDoorW.PrintWords.bytes_below (Below.refl _ _) (Nat.le_refl _) _ _

theorem hex_get : ∀ n : Nat, (h : n < 16) → ((⟨#[48, 49, 50, 51, 52, 53, 54, 55, 56, 57, 97, 98, 99, 100, 101, 102]⟩ : ByteArray)[n]'h) = hexB n := by decide
@[local go_sem high] theorem run_index_hex {P : Program} (w : World) (t : TypeId) (k : IntKind) (i : Int) (h : P.underlying t = some .string) (h0 : 0 ≤ i) (h1 : i ≤ 15) :
    (Instr.index t (.string ⟨#[48, 49, 50, 51, 52, 53, 54, 55, 56, 57, 97, 98, 99, 100, 101, 102]⟩) (.int k i)).run P w = .ok (.int .u8 (hexB i.toNat).toNat) w := by
  have hi : 0 ≤ i ∧ i < ((⟨#[48, 49, 50, 51, 52, 53, 54, 55, 56, 57, 97, 98, 99, 100, 101, 102]⟩ : ByteArray).size : Int) := ⟨h0, by show i < 16; omega⟩
  rw [run_index_string w t _ k i h, dif_pos hi, hex_get i.toNat (by omega)]

set_option maxRecDepth 100000 in
set_option maxHeartbeats 4000000 in
theorem quote_calls (s : ByteArray) (w : World) (hs : s.size ≤ 4611686018427) :
    Calls Tryd.prog 17 #[.string s] w fun e w' => (∃ r, e = .returned (.string r) ∧ bs r = quoteB (bs s)) ∧ Below w.heap.size w w' := by
  have kb := fun W => Lib.run_convert_string_bytes (P := Tryd.prog) W 9 45 5 s Tryd.underlying9 Tryd.underlying45 Tryd.underlying5
  by_cases h0 : s.toList = []
  · have h0' : s.toList.isEmpty = true := by rw [h0]; rfl
    have hb0 : bs s = [] := by rw [show bs s = s.data.toList from rfl, ← ByteArray.toList_eq]; exact h0
    go_enter Tryd.func17, Tryd.ntmps17
    go_wp2
    go_ret
    exact ⟨⟨_, rfl, by rw [hb0]; rfl⟩, Below.refl _ _⟩
  · have h0' : s.toList.isEmpty = false := by cases h : s.toList <;> simp_all
    go_enter Tryd.func17, Tryd.ntmps17
    go_wp2
    go_loopw [11] (fun i wr => ∃ k : Nat, k ≤ s.size ∧ i = .int .i64 k ∧ Aside0 (BdAny (w.heap.size + 2) w.heap.size (((bs s).take k).flatMap encB) wr) ∧ Aside0 (∀ j, (h : j < s.size) → wr.cell? ⟨w.heap.size + 1, j, none⟩ = some (.int .u8 (s[j]).toNat)) ∧ Aside0 (Below w.heap.size w wr) ∧ w.heap.size + 2 ≤ wr.heap.size) (fun i _ => s.size - (intOf i).toNat)
    case atStart =>
      have hb1 : Below w.heap.size w (w.alloc (.cells #[.pointer none, .slice none 0 0] 66)) := (Below.refl _ w).alloc (Nat.le_refl _) _
      have hb2 := bytes_below (w := w.alloc (.cells #[.pointer none, .slice none 0 0] 66)) (s := s) (t := 5)
      have hs1 : (w.alloc (.cells #[.pointer none, .slice none 0 0] 66)).heap.size = w.heap.size + 1 := by simp
      refine ⟨0, Nat.zero_le _, rfl, ⟨?_⟩, ⟨?_⟩, ⟨hb1.trans (hb2.mono (by rw [hs1]; omega))⟩, ?_⟩
      · exact (bd_fresh (w.heap.size + 2) w).kept (S := fun _ => False) (Chg.of_below hb2) (fun h => h) (fun _ _ h => h)
      · intro j hj
        have := Lib.bytesWorld_cell (w.alloc (.cells #[.pointer none, .slice none 0 0] 66)) 5 s j hj
        rw [hs1] at this
        rw [this]
        have hgd : s.data.toList.getD j 0 = s[j] := by simp [List.getD_eq_getElem?_getD, hj]; rfl
        rw [hgd]
      · have hpos : 0 < s.size := by
          rcases Nat.eq_zero_or_pos s.size with h | h
          · exfalso; apply h0; rw [ByteArray.toList_eq]; exact List.eq_nil_of_length_eq_zero (by simpa using h)
          · exact h
        have h1 := World.block_lt_of_cell? _ _ (Lib.bytesWorld_cell (w.alloc (.cells #[.pointer none, .slice none 0 0] 66)) 5 s 0 hpos)
        rw [hs1] at h1
        exact h1
    case round =>
      obtain ⟨k, hk, rfl, HBd, HC, HBe, hsz⟩ := hrel
      by_cases hlt : k < s.size
      · have hcell := HC.out k hlt
        have HTk := Aside0.mk (show ((bs s).take (k + 1)).flatMap encB = ((bs s).take k).flatMap encB ++ encB s[k] by
          rw [List.take_succ_eq_append_getElem (by simpa [bs] using hlt), List.flatMap_append]; simp [bs]; rfl)
        have HLn := Aside0.mk (show (((bs s).take k).flatMap encB).length ≤ 3 * k by
          have h1 : ∀ u : List UInt8, (u.flatMap encB).length ≤ 3 * u.length := by
            intro u
            induction u with
            | nil => simp
            | cons c u ih => rw [List.flatMap_cons, List.length_append]; have := enc_len c; simp only [List.length_cons]; omega
          have := h1 ((bs s).take k)
          simp only [List.length_take] at this; omega)
        have keep : ∀ W : World, Chg (fun i => i = w.heap.size ∨ w.heap.size + 2 ≤ i) wr W → ∀ j, (h : j < s.size) → W.cell? ⟨w.heap.size + 1, j, none⟩ = some (.int .u8 (s[j]).toNat) := fun W hc j hj => hc.cell (HC.out j hj) (by show ¬ (w.heap.size + 1 = w.heap.size ∨ w.heap.size + 2 ≤ w.heap.size + 1); omega)
        have belo : ∀ W : World, Chg (fun i => i = w.heap.size ∨ w.heap.size + 2 ≤ i) wr W → Below w.heap.size w W := fun W hc => HBe.out.trans (hc.below (by omega) (fun i hi => by omega))
        have KEEP := Aside0.mk keep
        have BELO := Aside0.mk belo
        clear keep belo
        cases hp : quietB s[k] with
        | true =>
          have HE := Aside0.mk (show encB s[k] = [s[k]] by unfold encB; rw [hp]; rfl)
          have HP := Lib.hid hp
          clear hp
          go_wp2_with (go_at_call 34; refine (quiet_calls _ _).mono ?_; rintro e w' ⟨rfl, rfl⟩; rw [HP.out])
          refine (writeByte_calls (w.heap.size + 2) w.heap.size _ s[k] _ HBd.out hsz (by have := HLn.out; omega)).mono ?_
          rintro e w2 ⟨rfl, hbd, hch⟩
          have HBD := Aside0.mk hbd
          have HCH := Aside0.mk hch
          have hsz2 := hch.size
          clear hbd hch
          go_wp2
          go_round
          case rel => exact ⟨k + 1, by omega, by go_num, ⟨by rw [HTk.out, HE.out]; exact HBD.out⟩, ⟨KEEP.out _ HCH.out⟩, ⟨BELO.out _ HCH.out⟩, by omega⟩
          case measure => simp [intOf]; omega
        | false =>
          have hc256 : (s[k].toNat : Int) < 256 := by have := s[k].toNat_lt; omega
          have hbe := u8_and15 (x := (s[k].toNat : Int)) (by omega) hc256
          have HE := Aside0.mk (show encB s[k] = [37, hexB (s[k].toNat / 16), hexB (s[k].toNat % 16)] by unfold encB; rw [hp]; rfl)
          have HP := Lib.hid hp
          clear hp
          have hd0 : (0 : Int) ≤ (s[k].toNat : Int) / 16 := by omega
          have hd1 : (s[k].toNat : Int) / 16 ≤ 15 := by omega
          have hd2 : (0 : Int) ≤ bits .and .u8 (s[k].toNat : Int) 15 := by rw [hbe]; omega
          have hd3 : bits .and .u8 (s[k].toNat : Int) 15 ≤ 15 := by rw [hbe]; omega
          clear hbe
          go_wp2_with (go_at_call 34; refine (quiet_calls _ _).mono ?_; rintro e w' ⟨rfl, rfl⟩; rw [HP.out])
          go_still_tail 6, (by kernel_rfl)
          go_wp2_with (go_at_call 36; refine (write_calls (w.heap.size + 2) w.heap.size _ [37, hexB (s[k].toNat / 16), hexB (s[k].toNat % 16)] _ 3 3 _ (HBd.out.kept (S := fun _ => False) ((Chg.refl _ _).drew.alloc _) (fun h => h) (fun _ _ h => h)) ?h1 rfl ?h2 ?h3 ?h4).mono ?_)
          case h1 => simp; omega
          case h2 => have := HLn.out; omega
          case h3 => show _ ≠ w.heap.size; simp; omega
          case h4 =>
            intro j u hj
            match j, hj with
            | 0, hj => simp [Lib.byteCells] at hj; subst hj; exact cell_new _ _ _ 0 _ rfl
            | 1, hj => simp [Lib.byteCells] at hj; subst hj; exact cell_new _ _ _ 1 _ rfl
            | 2, hj => simp [Lib.byteCells] at hj; subst hj; exact cell_new _ _ _ 2 _ rfl
          rintro e w2 ⟨⟨v, rfl⟩, hbd, hch⟩
          have hch2 := ((Chg.refl (fun i => i = w.heap.size ∨ w.heap.size + 2 ≤ i) _).drew.alloc _).trans hch
          have HBD := Aside0.mk hbd
          have hsz2 := hch2.size
          have HCH := Aside0.mk hch2
          clear hbd hch hch2
          go_wp2
          go_round
          case rel => exact ⟨k + 1, by omega, by go_num, ⟨by rw [HTk.out, HE.out]; exact HBD.out⟩, ⟨KEEP.out _ HCH.out⟩, ⟨BELO.out _ HCH.out⟩, by omega⟩
          case measure => simp [intOf]; omega
      · have hke : k = s.size := by omega
        subst hke
        have HIs := Aside0.mk (HBd.out.is (B := w.heap.size) (Nat.le_refl _) (by omega))
        go_wp2_with (go_at_call 37; refine (Tryd.Builder_String_any w.heap.size w.heap.size _ _ HIs.out (by omega)).mono ?_)
        rintro e W1 ⟨rfl, hbl⟩
        go_wp2
        go_ret
        refine ⟨⟨_, rfl, ?_⟩, HBe.out.trans hbl⟩
        rw [List.take_of_length_le (by simp [bs])]
        have hne : bs s ≠ [] := by rw [show bs s = s.data.toList from rfl, ← ByteArray.toList_eq]; exact h0
        unfold quoteB; rw [if_neg hne]
end Go.Proofs.YthiplpgkgnebfaaDoor
