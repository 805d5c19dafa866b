/- rule.Unquote: what it answers. -/
import Derived.Test.YthiplpgkgnebfaaDoorUnq0
import Derived.Lib.BufferRead
namespace Go.Proofs.YthiplpgkgnebfaaDoor
open Go.RowKit Go.Shelf Go.Proofs.YthiplpgkgnebfaaDoorW.PrintWords
set_option linter.unusedSimpArgs false
set_option linter.unusedVariables false

/-- What Unquote hands back. -/
def unqV : Option (List UInt8) → Value
  | some t => .tuple #[.string ⟨t.toArray⟩, .bool true]
  | none => .tuple #[.string ⟨#[]⟩, .bool false]
theorem unqV_some {s : List UInt8} {t : List UInt8} (h : quoteB t = s) : unqV (unqB s) = .tuple #[.string ⟨t.toArray⟩, .bool true] := by rw [unqB_some.2 h]; rfl
theorem unq_bad {s : List UInt8} (h37 : s ≠ [37]) (h : decP s = none) : unqB s = none := by
  have := unq_of decP decP_quote s
  rw [if_neg h37, h] at this; exact this.symm
theorem unq_good {s o : List UInt8} (h37 : s ≠ [37]) (h : decP s = some o) : unqB s = if quoteB o = s then some o else none := by
  have := unq_of decP decP_quote s
  rw [if_neg h37, h] at this; exact this.symm

theorem ownsRow_chg {lo : Nat} {e : TypeId} {k n : Nat} {v : Value} {xs : List Value} {w w' : World} {S : Nat → Prop} (h : w.ownsRow lo e k v n xs) (hc : Chg S w w') (hl : ∀ k, lo ≤ k → ¬ S k) : w'.ownsRow lo e k v n xs := by
  refine ⟨h.1, ?_⟩
  rcases h.2 with hn | ⟨g, cap, cur, hv, hbg, hg, rest⟩
  · exact .inl hn
  · exact .inr ⟨g, cap, cur, hv, hbg, (hc.block g (Array.getElem?_eq_some_iff.1 hg).1 (hl g hbg)).trans hg, rest⟩
theorem cells_snoc (acc : List UInt8) (c : UInt8) : Lib.byteCells (acc ++ [c]) = Lib.byteCells acc ++ [.int .u8 c.toNat] := by rw [Lib.byteCells_append]; rfl
theorem below_of_chg {B : Nat} {w0 w w' : World} (h : Below B w0 w) (hc : Chg (fun k => B ≤ k) w w') (hB : B ≤ w.heap.size) : Below B w0 w' := h.trans (hc.below hB (fun k hk => by omega))
theorem own_string {lo : Nat} {v : Value} {l : List UInt8} {w : World} (h : w.ownsRow lo 5 1 v l.length (Lib.byteCells l)) : (convert 45 9 v).run Tryd.prog w = .ok (.string ⟨l.toArray⟩) w := by
  rcases h.2 with ⟨rfl, h0⟩ | ⟨g, cap, cur, rfl, hbg, hg, rest⟩
  · have e : l = [] := List.eq_nil_of_length_eq_zero h0
    subst e
    exact Lib.run_convert_nil_bytes w _ _ _ 0 Tryd.underlying45 Tryd.underlying5 Tryd.underlying9
  · refine run_convert_bytes_back w _ _ _ ⟨g, 0, none⟩ cap l Tryd.underlying45 Tryd.underlying5 Tryd.underlying9 (fun j hj => ?_)
    exact h.cells (g := g) rfl j _ (by simp [Lib.byteCells, hj])
theorem decP_pc {a b : UInt8} {l : List UInt8} : decP (37 :: a :: b :: l) = (match hexP a b with | some n => (decP l).map (UInt8.ofNat n :: ·) | none => none) := by
  simp only [decP, if_true]
  cases hexP a b <;> rfl

set_option maxRecDepth 100000 in
set_option maxHeartbeats 4000000 in
theorem unquote_calls (s : ByteArray) (w : World) (hE : ErrAt w) (hs : s.size ≤ 4611686018427) :
    Calls Tryd.prog 14 #[.string s] w fun e w' => e = .returned (unqV (unqB (bs s))) ∧ Below w.heap.size w w' := by
  have hbl : s.toList = bs s := ByteArray.toList_eq s
  obtain ⟨i0, hi, hz0, hz1, hz2⟩ := info_parts (show (Tryd.prog.info? 5).map (fun i => (i.zero, i.size, i.bytes)) = some (some (.int .u8 0), 1, 1) by kernel_rfl)
  have HE := Aside0.mk hE
  clear hE
  by_cases h0 : bs s = [37]
  · have h0' : (s.toList == [37]) = true := by rw [hbl, h0]; rfl
    have H0 := Lib.hid h0
    clear h0 hbl
    go_enter Tryd.func14, Tryd.ntmps14
    go_wp2
    go_ret2
    exact ⟨by rw [H0.out]; rfl, Below.refl _ _⟩
  · have h0' : (s.toList == [37]) = false := by rw [hbl]; simpa using h0
    have H0 := Lib.hid h0
    clear h0 hbl
    go_enter Tryd.func14, Tryd.ntmps14
    go_wp2
    go_loopw [4, 5] (fun out rest wr => ∃ (r : ByteArray) (acc : List UInt8), rest = .string r ∧ Aside0 (wr.ownsRow w.heap.size 5 1 out acc.length (Lib.byteCells acc)) ∧ Aside0 (decP (bs s) = (decP (bs r)).map (acc ++ ·)) ∧ Aside0 (Below w.heap.size w wr) ∧ acc.length + r.size ≤ s.size) (fun _ rest _ => match rest with | .string r => r.size | _ => 0)
    case atStart => exact ⟨s, [], rfl, ⟨World.ownsRow_nil _ _ _ _⟩, ⟨by simp⟩, ⟨Below.refl _ _⟩, by simp⟩
    case round =>
      obtain ⟨r, acc, rfl, HO, HD, HB, hsz⟩ := hrel
      rcases Nat.eq_zero_or_pos r.size with hr0 | hpos
      · have hemp : r.toList.isEmpty = true := by
          have e : r.data.toList = [] := List.eq_nil_of_length_eq_zero (by simpa using hr0)
          rw [ByteArray.toList_eq, e]; rfl
        have hbr : bs r = [] := List.eq_nil_of_length_eq_zero (by simpa [bs] using hr0)
        have HD2 := Aside0.mk (show decP (bs s) = some acc by rw [HD.out, hbr]; simp [decP])
        have hcv := own_string HO.out
        have hba : bs ⟨acc.toArray⟩ = acc := by simp [bs]
        have HBA := Aside0.mk hba
        have hasz : (⟨acc.toArray⟩ : ByteArray).size ≤ 4611686018427 := by have : (⟨acc.toArray⟩ : ByteArray).size = acc.length := by simp [← ByteArray.size_data]
                                                                           omega
        clear hba hbr
        have HZ := Aside0.mk hasz
        clear hasz
        by_cases hq : quoteB acc = bs s
        · have HQ := Aside0.mk hq
          clear hq
          go_wp2_with (go_at_call 17; refine (quote_calls _ _ HZ.out).mono ?_; rintro e w2 ⟨⟨q, rfl, hq⟩, hb2⟩; have hcv2 := own_string (ownsRow_chg (S := fun _ => False) HO.out (Chg.of_below hb2) (fun _ _ h => h)); have heq : (q.toList == s.toList) = true := by rw [ByteArray.toList_eq, ByteArray.toList_eq]; rw [HBA.out] at hq; exact beq_iff_eq.2 (hq.trans HQ.out))
          go_ret2
          exact ⟨by rw [unq_good H0.out HD2.out, if_pos HQ.out]; rfl, HB.out.trans (hb2.mono HB.out.size)⟩
        · have HQ := Aside0.mk hq
          clear hq
          go_wp2_with (go_at_call 17; refine (quote_calls _ _ HZ.out).mono ?_; rintro e w2 ⟨⟨q, rfl, hq⟩, hb2⟩; have heq : (q.toList == s.toList) = false := by rw [ByteArray.toList_eq, ByteArray.toList_eq]; rw [HBA.out] at hq; rw [beq_eq_false_iff_ne]; exact fun e => HQ.out (hq.symm.trans e))
          go_ret2
          exact ⟨by rw [unq_good H0.out HD2.out, if_neg HQ.out]; rfl, HB.out.trans (hb2.mono HB.out.size)⟩
      · have hemp : r.toList.isEmpty = false := by rw [ByteArray.toList_eq]; simp; intro e; rw [← ByteArray.size_data, e] at hpos; simp at hpos
        obtain ⟨r1, hr1⟩ : ∃ r1, r.extract 1 r.size = r1 := ⟨_, rfl⟩
        have HC := Aside0.mk (show bs r = r[0] :: bs r1 by rw [← hr1]; exact bs_cons hpos)
        have hsz1 : r1.size + 1 = r.size := by rw [← hr1]; simp; omega
        by_cases h37 : r[0] = 37
        · by_cases hln : 1 < r1.size
          · have e37 : ((r[0].toNat : Int) == 37) = true := by rw [h37]; rfl
            obtain ⟨a, b, hab, hb2⟩ := bs_two hln
            obtain ⟨r2, hr2⟩ : ∃ r2, r1.extract 2 r1.size = r2 := ⟨_, rfl⟩
            have hsz2 : r2.size + 2 = r1.size := by rw [← hr2]; simp; omega
            rw [hr2] at hb2
            have HC2 := Aside0.mk (HD.out.trans (by rw [HC.out, hb2, h37, decP_pc]))
            clear h37 hb2
            have HEr := Aside0.mk (HE.out.below HB.out)
            cases hx : hexP a b with
            | none =>
              rw [hx] at HC2
              have HX := Aside0.mk hx
              clear hx
              go_wp2_with (go_at_call 32; refine (pu_bad a b _ HEr.out HX.out).mono ?_; rintro e w' ⟨⟨N, rfl⟩, hbw⟩)
              go_ret2
              exact ⟨by rw [unq_bad H0.out HC2.out]; rfl, HB.out.trans (hbw.mono HB.out.size)⟩
            | some n =>
              rw [hx] at HC2
              have hn0 : (n : Int) < 256 := by have := hexP_lt hx; omega
              have HX := Aside0.mk hx
              clear hx
              go_wp2_with (go_at_call 32; refine (pu_ok a b n _ HX.out).mono ?_; rintro e w' ⟨rfl, hbw⟩; have HO2 := Aside0.mk (ownsRow_chg (S := fun _ => False) HO.out (Chg.of_below hbw) (fun _ _ h => h)); have HB2 := Aside0.mk (HB.out.trans (hbw.mono HB.out.size)); have hwz := HB2.out.size)
              have hl2 : (2 : Int) ≤ (r1.size : Int) := by omega
              have hwn : IntKind.u8.wrap (n : Int) = n := by rw [IntKind.wrap_u8]; omega
              go_still (by kernel_rfl)
              go_wp2_with (at_builtin; refine wpList_append_own _ rfl _ _ 45 rfl w.heap.size 5 i0 (.int .u8 0) 1 1 Tryd.underlying45 hi hz0 hz1 hz2 rfl (by decide) _ _ _ rfl ((HO2.out).alloc _) ⟨_, 0, none⟩ 1 1 [.int .u8 n] rfl rfl ?c1 ?c2 ?c3 ?c4 ?c5 ?_)
              case c1 =>
                intro j u hj
                match j, hj with
                | 0, hj => simp at hj; subst hj; exact cell_new _ _ _ 0 _ rfl
              case c2 => intro u hu; simp at hu; subst hu; rfl
              case c3 => unfold maxLen; omega
              case c4 => omega
              case c5 =>
                show w.heap.size ≤ (World.alloc _ _).heap.size
                rw [World.size_alloc]; omega
              intro v' w' ho hg _
              have hgc := chg_grown hg ((HO2.out).alloc _)
              have HB3 := Aside0.mk (below_of_chg (((HB2.out).alloc hwz _).drew) hgc (by show w.heap.size ≤ (World.alloc _ _).heap.size; rw [World.size_alloc]; omega))
              have HO3 := Aside0.mk ho
              clear ho hg hgc
              go_wp2
              go_roundw
              case rel =>
                refine ⟨r2, acc ++ [UInt8.ofNat n], rfl, ⟨?_⟩, ⟨?_⟩, HB3, by simp; omega⟩
                · have e : ((UInt8.ofNat n).toNat : Int) = n := by simp; omega
                  rw [cells_snoc, List.length_append, e]; exact HO3.out
                · rw [HC2.out]; cases decP (bs r2) <;> simp
              case measure => simp only []; omega
          · have e37 : ((r[0].toNat : Int) == 37) = true := by rw [h37]; rfl
            have HDC := Aside0.mk (show r[0] ≠ 37 ∨ (bs r1).length ≤ 1 from .inr (by simp [bs]; omega))
            clear h37
            have hwz := HB.out.size
            go_wp2_with (at_builtin; refine wpList_append_own _ rfl _ _ 45 rfl w.heap.size 5 i0 (.int .u8 0) 1 1 Tryd.underlying45 hi hz0 hz1 hz2 rfl (by decide) _ _ _ rfl ((HO.out).alloc _) ⟨_, 0, none⟩ 1 1 [.int .u8 r[0].toNat] rfl rfl ?c1 ?c2 ?c3 ?c4 ?c5 ?_)
            case c1 =>
              intro j u hj
              match j, hj with
              | 0, hj => simp at hj; subst hj; exact cell_new _ _ _ 0 _ rfl
            case c2 => intro u hu; simp at hu; subst hu; rfl
            case c3 => unfold maxLen; omega
            case c4 => omega
            case c5 => rw [World.size_alloc]; omega
            intro v' w' ho hg _
            have hgc := chg_grown hg ((HO.out).alloc _)
            have HB3 := Aside0.mk (below_of_chg ((HB.out).alloc hwz _) hgc (by rw [World.size_alloc]; omega))
            have HO3 := Aside0.mk ho
            clear ho hg hgc
            go_wp2
            go_roundw
            case rel =>
              refine ⟨r1, acc ++ [r[0]], rfl, ⟨?_⟩, ⟨?_⟩, HB3, by simp; omega⟩
              · rw [cells_snoc, List.length_append]; exact HO3.out
              · rw [HD.out, HC.out, decP_cons _ _ HDC.out]; cases decP (bs r1) <;> simp
            case measure => simp only []; omega
        · have e37 : ((r[0].toNat : Int) == 37) = false := by
            rw [beq_eq_false_iff_ne]; intro e; apply h37; rw [← UInt8.toNat_inj]; simp; omega
          have HDC := Aside0.mk (show r[0] ≠ 37 ∨ (bs r1).length ≤ 1 from .inl h37)
          clear h37
          have hwz := HB.out.size
          go_wp2_with (at_builtin; refine wpList_append_own _ rfl _ _ 45 rfl w.heap.size 5 i0 (.int .u8 0) 1 1 Tryd.underlying45 hi hz0 hz1 hz2 rfl (by decide) _ _ _ rfl ((HO.out).alloc _) ⟨_, 0, none⟩ 1 1 [.int .u8 r[0].toNat] rfl rfl ?c1 ?c2 ?c3 ?c4 ?c5 ?_)
          case c1 =>
            intro j u hj
            match j, hj with
            | 0, hj => simp at hj; subst hj; exact cell_new _ _ _ 0 _ rfl
          case c2 => intro u hu; simp at hu; subst hu; rfl
          case c3 => unfold maxLen; omega
          case c4 => omega
          case c5 => rw [World.size_alloc]; omega
          intro v' w' ho hg _
          have hgc := chg_grown hg ((HO.out).alloc _)
          have HB3 := Aside0.mk (below_of_chg ((HB.out).alloc hwz _) hgc (by rw [World.size_alloc]; omega))
          have HO3 := Aside0.mk ho
          clear ho hg hgc
          go_wp2
          go_roundw
          case rel =>
            refine ⟨r1, acc ++ [r[0]], rfl, ⟨?_⟩, ⟨?_⟩, HB3, by simp; omega⟩
            · rw [cells_snoc, List.length_append]; exact HO3.out
            · rw [HD.out, HC.out, decP_cons _ _ HDC.out]; cases decP (bs r1) <;> simp
          case measure => simp only []; omega

end Go.Proofs.YthiplpgkgnebfaaDoor
