/- path.Glob: what it answers. -/
import Derived.Test.YthiplpgkgnebfaaDoorRule0
import Derived.Test.YthiplpgkgnebfaaDoorShelf
namespace Go.Proofs.YthiplpgkgnebfaaDoor
open Go.RowKit Go.Shelf Go.Proofs.YthiplpgkgnebfaaDoorW.PrintWords
set_option linter.unusedSimpArgs false
set_option linter.unusedVariables false

set_option maxRecDepth 100000 in
theorem wild_calls (c : UInt8) (w : World) :
    Calls Tryd.prog 75 #[.int .u8 c.toNat] w fun e w' => e = .returned (.bool (wildB c)) ∧ w' = w := by
  have hc : (c.toNat : Int) < 256 := by have := c.toNat_lt; omega
  cases hp : plainB c with
  | true =>
    have HP := Lib.hid hp
    clear hp
    go_enter Tryd.func75, Tryd.ntmps75
    go_wp2_with (go_at_call 60; refine (plain_calls _ _).mono ?_; rintro e w' ⟨rfl, rfl⟩; rw [HP.out])
    all_goals go_ret
    all_goals refine ⟨ret_bool ?_, rfl⟩
    all_goals simp [wildB, HP.out]
  | false =>
    have HP := Lib.hid hp
    clear hp
    go_enter Tryd.func75, Tryd.ntmps75
    go_wp2_with (go_at_call 60; refine (plain_calls _ _).mono ?_; rintro e w' ⟨rfl, rfl⟩; rw [HP.out])
    all_goals go_ret
    all_goals refine ⟨ret_bool ?_, rfl⟩
    all_goals (unfold wildB; rw [HP.out, Bool.eq_iff_iff]; simp [← UInt8.toNat_inj])
    all_goals omega

set_option maxRecDepth 100000 in
set_option maxHeartbeats 1000000 in
theorem wildName_calls (s : ByteArray) (w : World) (hs : s.size ≤ 9223372036854775807) :
    Calls Tryd.prog 59 #[.string s, .func (.func 75) #[] #[]] w fun e w' => e = .returned (.bool (nameB wildB s.data.toList)) ∧ Below w.heap.size w w' := by
  have kb := fun W => Lib.run_convert_string_bytes (P := Tryd.prog) W 9 45 5 s Tryd.underlying9 Tryd.underlying45 Tryd.underlying5
  go_enter Tryd.func59, Tryd.ntmps59
  go_wp2
  go_loop [10] (fun i => ∃ k : Nat, k ≤ s.size ∧ i = .int .i64 k ∧ (s.data.toList.take k).all wildB = true) (fun i => s.size - (intOf i).toNat)
  case atStart => exact ⟨0, Nat.zero_le _, rfl, rfl⟩
  case round =>
    obtain ⟨k, hk, rfl, hall⟩ := hrel
    have H := Lib.hid hall
    clear hall
    by_cases hlt : k < s.size
    · have hcell := Lib.bytesWorld_cell w 5 s k hlt
      have hgd : s.data.toList.getD k 0 = s[k] := by simp [List.getD_eq_getElem?_getD, hlt]; rfl
      rw [hgd] at hcell
      clear hgd
      have hsn := all_snoc wildB s k hlt
      have HS := Lib.hid hsn
      clear hsn
      cases hp : wildB s[k] with
      | true =>
        have HP := Lib.hid hp
        clear hp
        go_wp2_with (go_at_call 75; refine (wild_calls _ _).mono ?_; rintro e w' ⟨rfl, rfl⟩; rw [HP.out])
        go_round
        case rel => exact ⟨k + 1, by omega, by go_num, by rw [HS.out, H.out, HP.out]; rfl⟩
        case measure => simp [intOf]; omega
      | false =>
        have HP := Lib.hid hp
        clear hp
        go_wp2_with (go_at_call 75; refine (wild_calls _ _).mono ?_; rintro e w' ⟨rfl, rfl⟩; rw [HP.out])
        go_ret
        refine ⟨ret_bool ?_, Go.Proofs.YthiplpgkgnebfaaDoorW.PrintWords.bytes_below (Below.refl _ _) (Nat.le_refl _) _ _⟩
        have h1 : s.data.toList.all wildB = false := all_false_of wildB s k hlt HP.out
        simp [nameB, h1]
    · have hke : k = s.size := by omega
      go_wp2
      all_goals go_ret
      all_goals refine ⟨ret_bool ?_, Go.Proofs.YthiplpgkgnebfaaDoorW.PrintWords.bytes_below (Below.refl _ _) (Nat.le_refl _) _ _⟩
      all_goals have h1 : s.data.toList.all wildB = true := by have h := H.out; rwa [List.take_of_length_le (by simp; omega)] at h
      all_goals rw [name_fin wildB s h1]
      all_goals clear h1 H kb
      all_goals go_tidy
      all_goals first | (simp_all; done) | (simp_all; intro h; omega)

theorem stars_eq : ∀ l : List UInt8, Lib.contains l [42, 42] = starsB l
  | [] => rfl
  | b :: l => by
    have ih := stars_eq l
    have hge := Lib.index_ge l [42, 42]
    unfold Lib.contains at ih ⊢
    unfold Lib.index starsB
    rw [← ih]
    have e : List.isPrefixOf [42, 42] (b :: l) = (b == 42 && l.head? == some 42) := by
      cases l with
      | nil => simp [List.isPrefixOf]
      | cons a l => simp [List.isPrefixOf, Bool.beq_comm]
    rw [e]
    cases hb : (b == 42 && l.head? == some 42) with
    | true => simp
    | false =>
      simp only [Bool.false_eq_true, if_false, Bool.false_or]
      split
      · rename_i h; have h : Lib.index l [42, 42] = -1 := by simpa using h
        rw [h]
      · rename_i h; have h : ¬ Lib.index l [42, 42] = -1 := by simpa using h
        have e1 : (0 ≤ Lib.index l [42, 42] + 1) = (0 ≤ Lib.index l [42, 42]) := propext ⟨fun _ => by omega, fun _ => by omega⟩
        simp only [e1]

set_option maxRecDepth 100000 in
set_option maxHeartbeats 1000000 in
theorem pat_calls (s : ByteArray) (m : Int) (w : World) (hm : w.cell? ⟨2, 0, none⟩ = some (.int .i64 m)) (hs : s.size < 4294967281) :
    Calls Tryd.prog 57 #[.string s] w fun e w' => e = .returned (.bool (patB (bs s))) ∧ Below w.heap.size w w' := by
  have hbl : s.toList = bs s := ByteArray.toList_eq s
  by_cases h0 : bs s = [42, 42]
  · have h0' : (s.toList == [42, 42]) = true := by rw [hbl, h0]; rfl
    have H0 := Lib.hid h0
    clear h0 hbl
    go_enter Tryd.func57, Tryd.ntmps57
    go_wp2
    go_ret
    exact ⟨ret_bool (by rw [H0.out]; rfl), Below.refl _ _⟩
  · have h0' : (s.toList == [42, 42]) = false := by rw [hbl]; simpa using h0
    have H0 := Lib.hid (show (bs s == [42, 42]) = false by simpa using h0)
    clear h0 hbl
    cases hn : nameB wildB (bs s) with
    | false =>
      have HN := Lib.hid hn
      clear hn
      go_enter Tryd.func57, Tryd.ntmps57
      go_wp2_with (go_at_call 59; refine (wildName_calls s _ (by omega)).mono ?_; rintro e w' ⟨rfl, hb⟩; rw [show nameB wildB s.data.toList = false from HN.out])
      go_ret
      exact ⟨ret_bool (by unfold patB; rw [H0.out, HN.out]; rfl), hb⟩
    | true =>
      have HN := Lib.hid hn
      clear hn
      go_enter Tryd.func57, Tryd.ntmps57
      go_wp2_with (first | (go_at_call 59; refine (wildName_calls s _ (by omega)).mono ?_; rintro e w' ⟨rfl, hb⟩; rw [show nameB wildB s.data.toList = true from HN.out]; have hm' := pw_cell hb hm) | (go_at_call 45; refine (Tryd.strings_Contains s ⟨#[42, 42]⟩ m _ hs hm').mono ?_; rintro e w' ⟨rfl, rfl⟩))
      go_ret
      exact ⟨ret_bool (by unfold patB; rw [H0.out, HN.out, ← stars_eq]; simp [bs]), hb⟩

attribute [local go_sem] Oper.semAt_some
theorem glob_false {s x : ByteArray} {pre rest : List (List UInt8)} (h : splitB 47 (bs s) = pre ++ bs x :: rest) (hn : patB (bs x) = false) : globB (bs s) = false := by
  simp [globB, h, hn]

set_option maxRecDepth 100000 in
set_option maxHeartbeats 1000000 in
theorem glob_calls (s : ByteArray) (w : World) (m : Int) (hm : w.cell? ⟨2, 0, none⟩ = some (.int .i64 m)) (hs : s.size < 4294967281) :
    Calls Tryd.prog 43 #[.string s] w fun e w' => e = .returned (.bool (globB (bs s))) ∧ Below w.heap.size w w' := by
  refine (callsIn_wide (n := 4)).1 ?_
  refine callsIn_of_wp_marks Tryd.func43 rfl trivial ?_ rfl
  simp only [Tryd.ntmps43, List.size_toArray, List.length_cons, List.length_nil, Nat.reduceAdd, Nat.reduceSub, Array.replicate_succ, Array.replicate_zero, List.push_toArray, List.append_toArray, List.nil_append, List.cons_append]
  gi_wp2_with (refine ⟨trivial, ?_⟩; gi_at_call 27; refine (callsIn_wide.2 (splitSeq_calls s 47 _)).mono ?_; rintro e w' ⟨rfl, rfl⟩)
  obtain ⟨W0, hW0⟩ : ∃ W0, ((((w.alloc (.cells #[.bool false] 4)).alloc (.cells #[.string s] 9)).alloc (.cells #[.string ⟨#[47]⟩] 9)).alloc (.cells #[.int .i64 0] 3)) = W0 := ⟨_, rfl⟩
  have hz : w.heap.size + 4 ≤ W0.heap.size := by rw [← hW0]; simp
  have hb0 : Below w.heap.size w W0 := by rw [← hW0]; exact ((((Below.refl _ w).alloc (Nat.le_refl _) _).alloc (by simp) _).alloc (by simp; omega) _).alloc (by simp; omega) _
  have c0 : W0.cell? ⟨w.heap.size, 0, none⟩ = some (.bool false) := by rw [← hW0]; exact cell_old _ (cell_old _ (cell_old _ (cell_new _ _ _ _ _ rfl)))
  have c1 : W0.cell? ⟨w.heap.size + 1, 0, none⟩ = some (.string s) := by rw [← hW0]; exact cell_old _ (cell_old _ (by rw [World.cell?_alloc_at _ _ _ _ (by simp)]; rfl))
  have c2 : W0.cell? ⟨w.heap.size + 2, 0, none⟩ = some (.string ⟨#[47]⟩) := by rw [← hW0]; exact cell_old _ (by rw [World.cell?_alloc_at _ _ _ _ (by simp)]; rfl)
  have c3 : W0.cell? ⟨w.heap.size + 3, 0, none⟩ = some (.int .i64 0) := by rw [← hW0]; rw [World.cell?_alloc_at _ _ _ _ (by simp)]; rfl
  have f0 : W0.frozen? ⟨w.heap.size, 0, none⟩ = false := by rw [← hW0]; exact frozen_old _ (by simp; omega) (frozen_old _ (by simp; omega) (frozen_old _ (by simp) (frozen_new _ _ _ _)))
  have f1 : W0.frozen? ⟨w.heap.size + 1, 0, none⟩ = false := by rw [← hW0]; exact frozen_old _ (by simp) (frozen_old _ (by simp) (World.frozen?_alloc_at _ _ _ _ (by simp)))
  rw [hW0]
  clear hW0
  refine wpIn_split (w := W0) (Bsep := w.heap.size + 2) (Bs := w.heap.size + 1) (Bsv := w.heap.size + 3) 47 s rfl (by omega) c2 c1 c3 f1 (by omega) (by omega)
    (fun k => k = w.heap.size) (by omega) (by omega) (by omega) (by omega) (by omega)
    (fun pre W => pre.all (patB) = true ∧ Below w.heap.size w W ∧ W.cell? ⟨w.heap.size, 0, none⟩ = some (.bool false) ∧ W.frozen? ⟨w.heap.size, 0, none⟩ = false)
    (fun d W => d = .ret ∧ globB (bs s) = false ∧ Below w.heap.size w W ∧ W.cell? ⟨w.heap.size, 0, none⟩ = some (.bool false))
    ?hI ?hIp ?hIx ?h0
    (fun x => { tmps := #[.string s, undef, .pointer (some ⟨w.heap.size, 0, none⟩), .string x, .string s, .func (.func 63) #[] #[.pointer (some ⟨w.heap.size + 2, 0, none⟩), .pointer (some ⟨w.heap.size + 1, 0, none⟩), .pointer (some ⟨w.heap.size + 3, 0, none⟩)], .string x, undef, undef, undef, undef, undef, undef], defers := [] })
    ?assign ?body ?done ?stop
  case hI =>
    rintro pre W v ⟨h1, h2, h3, h4⟩
    exact ⟨h1, h2.setCell (by show _ ≤ w.heap.size + 1; omega) _, by rw [World.cell?_of_block (Below.heap_setCell W ⟨w.heap.size + 1, 0, none⟩ v w.heap.size (by show _ ≠ w.heap.size + 1; omega))]; exact h3, by rw [World.frozen?_setCell]; exact h4⟩
  case hIp =>
    rintro pre W o ⟨h1, h2, h3, h4⟩
    exact ⟨h1, below_putObj h2 (by omega) _, by rw [World.cell?_of_block (World.putObj_heap_other (by show w.heap.size ≠ _; omega))]; exact h3, by rw [World.frozen?_of_block (World.putObj_heap_other (by show w.heap.size ≠ _; omega))]; exact h4⟩
  case hIx =>
    rintro d W o ⟨h1, h2, h3, h4⟩
    exact ⟨h1, h2, below_putObj h3 (by omega) _, by rw [World.cell?_of_block (World.putObj_heap_other (by show w.heap.size ≠ _; omega))]; exact h4⟩
  case h0 =>
    intro o
    have hb2 : Below W0.heap.size W0 ((W0.alloc (.deferred (some []))).alloc o) := ((Below.refl _ _).alloc (Nat.le_refl _) _).alloc (by simp) _
    exact ⟨rfl, hb0.trans (hb2.mono (by omega)), pw_cell hb2 c0, (hb2.frozen (by show w.heap.size < _; omega)).trans f0⟩
  case assign =>
    intro l x W K hK
    gi_wp2
    exact hK
  case body =>
    rintro l pre rest x W ⟨h1, h2, h3, h4⟩ hsz hp
    have hx : x.size < 4294967281 := by have := piece_le hp; omega
    have hmW := pw_cell h2 hm
    cases hn : patB (bs x) with
    | true =>
      have HN := Lib.hid hn
      have H1 := Lib.hid h1
      clear hn h1
      gi_wp2_with (refine ⟨trivial, ?_⟩; gi_at_call 57; refine (CallsIn.inRound l (callsIn_wide.2 (pat_calls x m _ hmW hx))).mono ?_; rintro e w' ⟨rfl, hb⟩; rw [HN.out]; have c' := pw_cell hb h3; have f' := (hb.frozen (World.block_lt_of_cell? W _ h3)).trans h4)
      exact ⟨Chg.of_below hb, by rw [List.all_append, H1.out]; simp [HN.out], h2.trans (hb.mono (World.block_lt_of_cell? W _ h3 |> Nat.le_of_lt)), c', f'⟩
    | false =>
      have HN := Lib.hid hn
      have H1 := Lib.hid h1
      clear hn h1
      gi_wp2_with (refine ⟨trivial, ?_⟩; gi_at_call 57; refine (CallsIn.inRound l (callsIn_wide.2 (pat_calls x m _ hmW hx))).mono ?_; rintro e w' ⟨rfl, hb⟩; rw [HN.out]; have c' := pw_cell hb h3; have f' := (hb.frozen (World.block_lt_of_cell? W _ h3)).trans h4)
      exact ⟨Chg.setCell (S := fun k => k = w.heap.size) (Chg.of_below hb) (p := ⟨w.heap.size, 0, none⟩) (.inl rfl) _, rfl, glob_false hp HN.out, (h2.trans (hb.mono (World.block_lt_of_cell? W _ h3 |> Nat.le_of_lt))).setCell (Nat.le_refl _) _, World.cell?_setCell_same _ _ _ c'⟩
  case done =>
    rintro W ⟨h1, h2, h3, h4⟩ hK
    have hlt := World.block_lt_of_cell? W _ h3
    have hfin : globB (bs s) = decide ((s.size : Int) ≤ 100) := by
      unfold globB; rw [h1]
      rw [Bool.eq_iff_iff]; simp [bs]; omega
    have HF := Lib.hid hfin
    have H1 := Lib.hid h1
    clear hfin h1
    gi_wp2
    have hc : (W.setCell ⟨w.heap.size, 0, none⟩ (.bool (decide ((s.size : Int) ≤ 100)))).cell? ⟨w.heap.size, 0, none⟩ = some (.bool (decide ((s.size : Int) ≤ 100))) := World.cell?_setCell_same _ _ _ h3
    have hk : (W.setCell ⟨w.heap.size, 0, none⟩ (.bool (decide ((s.size : Int) ≤ 100)))).heap[W0.heap.size]? = some (.deferred (some [])) := (Below.heap_setCell _ _ _ _ (by show _ ≠ w.heap.size; omega)).trans hK
    have hc2 : ((W.setCell ⟨w.heap.size, 0, none⟩ (.bool (decide ((s.size : Int) ≤ 100)))).putObj W0.heap.size (.deferred none)).cell? ⟨w.heap.size, 0, none⟩ = some (.bool (decide ((s.size : Int) ≤ 100))) := (World.cell?_of_block (World.putObj_heap_other (by show w.heap.size ≠ _; omega))).trans hc
    refine leaves_mark hk (v := .bool (decide ((s.size : Int) ≤ 100))) (by simp [results, Tryd.results43, go_sem, hc2]) ⟨ret_bool HF.out.symm, below_putObj (h2.setCell (Nat.le_refl _) _) (by omega) _⟩
  case stop =>
    rintro d W ⟨rfl, h1, h2, h3⟩ hK
    have H1 := Lib.hid h1
    clear h1
    gi_wp2
    have hc2 : (W.putObj W0.heap.size (.deferred none)).cell? ⟨w.heap.size, 0, none⟩ = some (.bool false) := (World.cell?_of_block (World.putObj_heap_other (by show w.heap.size ≠ _; omega))).trans h3
    refine leaves_mark hK (v := .bool false) (by simp [results, Tryd.results43, go_sem, hc2]) ⟨ret_bool H1.out.symm, below_putObj h2 (by omega) _⟩
end Go.Proofs.YthiplpgkgnebfaaDoor
