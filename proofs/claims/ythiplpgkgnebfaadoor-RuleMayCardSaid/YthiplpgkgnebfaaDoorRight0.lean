/- path.Right: what it answers. -/
import Derived.Test.YthiplpgkgnebfaaDoorSplit1
namespace Go.Proofs.YthiplpgkgnebfaaDoor
open Go.RowKit Go.Shelf
attribute [local go_sem] Oper.semAt_some

set_option maxRecDepth 100000 in
theorem splitSeq_calls (s : ByteArray) (c : UInt8) (w : World) :
    Calls Tryd.prog 27 #[.string s, .string ⟨#[c]⟩] w fun e w' => e = .returned (.func (.func 63) #[] #[.pointer (some ⟨w.heap.size + 1, 0, none⟩), .pointer (some ⟨w.heap.size, 0, none⟩), .pointer (some ⟨w.heap.size + 2, 0, none⟩)]) ∧ w' = ((w.alloc (.cells #[.string s] 9)).alloc (.cells #[.string ⟨#[c]⟩] 9)).alloc (.cells #[.int .i64 0] 3) := by
  go_enter Tryd.func27, Tryd.ntmps27
  go_wp2
  go_ret
  exact ⟨rfl, rfl⟩

theorem below_putObj {B r : Nat} {w W : World} (h : Below B w W) (hr : B ≤ r) (o : Obj) : Below B w (W.putObj r o) :=
  h.trans ⟨rfl, rfl, rfl, by simp, fun k hk => World.putObj_heap_other (by omega)⟩
theorem splitB_len (c : UInt8) : ∀ (l : List UInt8) (p : List UInt8), p ∈ splitB c l → p.length ≤ l.length
  | [], p, h => by simp [splitB] at h; simp [h]
  | b :: l, p, h => by
    have ih := splitB_len c l
    simp only [splitB] at h
    split at h
    · rcases List.mem_cons.1 h with rfl | h
      · simp
      · have := ih p h; simp; omega
    · split at h
      · rename_i e; exact absurd e (splitB_ne c l)
      · rename_i q ps e
        rw [e] at ih
        rcases List.mem_cons.1 h with rfl | h
        · have := ih q (by simp); simp; omega
        · have := ih p (by simp [h]); simp; omega
theorem piece_le {c : UInt8} {s x : ByteArray} {pre rest : List (List UInt8)} (h : splitB c (bs s) = pre ++ bs x :: rest) : x.size ≤ s.size := by
  have := splitB_len c (bs s) (bs x) (by rw [h]; simp)
  simpa [bs] using this

def pathRight (s : List UInt8) : Bool := (splitB 47 s).all (nameB plainB) && decide (s.length ≤ 100)

theorem right_false {s x : ByteArray} {pre rest : List (List UInt8)} (h : splitB 47 (bs s) = pre ++ bs x :: rest) (hn : nameB plainB (bs x) = false) : pathRight (bs s) = false := by
  simp [pathRight, h, hn]

set_option maxRecDepth 100000 in
set_option maxHeartbeats 1000000 in
theorem right_calls (s : ByteArray) (w : World) (hs : s.size ≤ 4611686018427387904) :
    Calls Tryd.prog 46 #[.string s] w fun e w' => e = .returned (.bool (pathRight (bs s))) ∧ Below w.heap.size w w' := by
  refine (callsIn_wide (n := 4)).1 ?_
  refine callsIn_of_wp_marks Tryd.func46 rfl trivial ?_ rfl
  simp only [Tryd.ntmps46, List.size_toArray, List.length_cons, List.length_nil, Nat.reduceAdd, Nat.reduceSub, Array.replicate_succ, Array.replicate_zero, List.push_toArray, List.append_toArray, List.nil_append, List.cons_append]
  gi_wp2_with (refine ⟨trivial, ?_⟩; gi_at_call 27; refine (callsIn_wide.2 (splitSeq_calls s 47 _)).mono ?_; rintro e w' ⟨rfl, rfl⟩)
  obtain ⟨W0, hW0⟩ : ∃ W0, ((((w.alloc (.cells #[.bool false] 4)).alloc (.cells #[.string s] 9)).alloc (.cells #[.string ⟨#[47]⟩] 9)).alloc (.cells #[.int .i64 0] 3)) = W0 := ⟨_, rfl⟩
  have hz : w.heap.size + 4 ≤ W0.heap.size := by rw [← hW0]; simp
  have hb0 : Below w.heap.size w W0 := by rw [← hW0]; exact ((((Below.refl _ w).alloc (Nat.le_refl _) _).alloc (by simp) _).alloc (by simp; omega) _).alloc (by simp; omega) _
  have c0 : W0.cell? ⟨w.heap.size, 0, none⟩ = some (.bool false) := by rw [← hW0]; exact cell_old _ (cell_old _ (cell_old _ (cell_new _ _ _ _ _ rfl)))
  have c1 : W0.cell? ⟨w.heap.size + 1, 0, none⟩ = some (.string s) := by rw [← hW0]; exact cell_old _ (cell_old _ (by rw [World.cell?_alloc_at _ _ _ _ (by simp)]; rfl))
  have c2 : W0.cell? ⟨w.heap.size + 2, 0, none⟩ = some (.string ⟨#[47]⟩) := by rw [← hW0]; exact cell_old _ (by rw [World.cell?_alloc_at _ _ _ _ (by simp)]; rfl)
  have c3 : W0.cell? ⟨w.heap.size + 3, 0, none⟩ = some (.int .i64 0) := by rw [← hW0]; rw [World.cell?_alloc_at _ _ _ _ (by simp)]; rfl
  have f0 : W0.frozen? ⟨w.heap.size, 0, none⟩ = false := by rw [← hW0]; exact frozen_old _ (by simp; omega) (frozen_old _ (by simp; omega) (frozen_old _ (by simp) (frozen_new _ _ _ _)))
  have f1 : W0.frozen? ⟨w.heap.size + 1, 0, none⟩ = false := by rw [← hW0]; exact frozen_old _ (by simp) (frozen_old _ (by simp) (World.frozen?_alloc_at _ _ _ _ (by simp)))
  rw [hW0]
  clear hW0
  refine wpIn_split (w := W0) (Bsep := w.heap.size + 2) (Bs := w.heap.size + 1) (Bsv := w.heap.size + 3) 47 s rfl hs c2 c1 c3 f1 (by omega) (by omega)
    (fun k => k = w.heap.size) (by omega) (by omega) (by omega) (by omega) (by omega)
    (fun pre W => pre.all (nameB plainB) = true ∧ Below w.heap.size w W ∧ W.cell? ⟨w.heap.size, 0, none⟩ = some (.bool false) ∧ W.frozen? ⟨w.heap.size, 0, none⟩ = false)
    (fun d W => d = .ret ∧ pathRight (bs s) = false ∧ Below w.heap.size w W ∧ W.cell? ⟨w.heap.size, 0, none⟩ = some (.bool false))
    ?hI ?hIp ?hIx ?h0
    (fun x => { tmps := #[.string s, undef, .pointer (some ⟨w.heap.size, 0, none⟩), .string x, .string s, .func (.func 63) #[] #[.pointer (some ⟨w.heap.size + 2, 0, none⟩), .pointer (some ⟨w.heap.size + 1, 0, none⟩), .pointer (some ⟨w.heap.size + 3, 0, none⟩)], .string x, undef, undef, undef, undef, undef, undef], defers := [] })
    ?assign ?body ?done ?stop
  case hI =>
    rintro pre W v ⟨h1, h2, h3, h4⟩
    exact ⟨h1, h2.setCell (by show _ ≤ w.heap.size + 1; omega) _, by rw [World.cell?_of_block (Below.heap_setCell W ⟨w.heap.size + 1, 0, none⟩ v w.heap.size (by show _ ≠ w.heap.size + 1; omega))]; exact h3, by rw [World.frozen?_setCell]; exact h4⟩
  case hIp =>
    rintro pre W o ⟨h1, h2, h3, h4⟩
    exact ⟨h1, below_putObj h2 (by omega) _, by rw [World.cell?_of_block (World.putObj_heap_other (by show w.heap.size ≠ _; omega))]; exact h3, by rw [World.frozen?_of_block (World.putObj_heap_other (by show w.heap.size ≠ _; omega))]; exact h4⟩
  case hIx =>
    rintro d W o ⟨h1, h2, h3, h4⟩
    exact ⟨h1, h2, below_putObj h3 (by omega) _, by rw [World.cell?_of_block (World.putObj_heap_other (by show w.heap.size ≠ _; omega))]; exact h4⟩
  case h0 =>
    intro o
    have hb2 : Below W0.heap.size W0 ((W0.alloc (.deferred (some []))).alloc o) := ((Below.refl _ _).alloc (Nat.le_refl _) _).alloc (by simp) _
    exact ⟨rfl, hb0.trans (hb2.mono (by omega)), pw_cell hb2 c0, (hb2.frozen (by show w.heap.size < _; omega)).trans f0⟩
  case assign =>
    intro l x W K hK
    gi_wp2
    exact hK
  case body =>
    rintro l pre rest x W ⟨h1, h2, h3, h4⟩ hsz hp
    have hx : x.size ≤ 9223372036854775807 := by have := piece_le hp; omega
    cases hn : nameB plainB (bs x) with
    | true =>
      have HN := Lib.hid hn
      have H1 := Lib.hid h1
      clear hn h1
      gi_wp2_with (refine ⟨trivial, ?_⟩; gi_at_call 59; refine (CallsIn.inRound l (callsIn_wide.2 (name_calls x _ hx))).mono ?_; rintro e w' ⟨rfl, hb⟩; rw [HN.out]; have c' := pw_cell hb h3; have f' := (hb.frozen (World.block_lt_of_cell? W _ h3)).trans h4)
      exact ⟨Chg.of_below hb, by rw [List.all_append, H1.out]; simp [HN.out], h2.trans (hb.mono (World.block_lt_of_cell? W _ h3 |> Nat.le_of_lt)), c', f'⟩
    | false =>
      have HN := Lib.hid hn
      have H1 := Lib.hid h1
      clear hn h1
      gi_wp2_with (refine ⟨trivial, ?_⟩; gi_at_call 59; refine (CallsIn.inRound l (callsIn_wide.2 (name_calls x _ hx))).mono ?_; rintro e w' ⟨rfl, hb⟩; rw [HN.out]; have c' := pw_cell hb h3; have f' := (hb.frozen (World.block_lt_of_cell? W _ h3)).trans h4)
      exact ⟨Chg.setCell (S := fun k => k = w.heap.size) (Chg.of_below hb) (p := ⟨w.heap.size, 0, none⟩) (.inl rfl) _, rfl, right_false hp HN.out, (h2.trans (hb.mono (World.block_lt_of_cell? W _ h3 |> Nat.le_of_lt))).setCell (Nat.le_refl _) _, World.cell?_setCell_same _ _ _ c'⟩
  case done =>
    rintro W ⟨h1, h2, h3, h4⟩ hK
    have hlt := World.block_lt_of_cell? W _ h3
    have hfin : pathRight (bs s) = decide ((s.size : Int) ≤ 100) := by
      unfold pathRight; rw [h1]
      rw [Bool.eq_iff_iff]; simp [bs]; omega
    have HF := Lib.hid hfin
    have H1 := Lib.hid h1
    clear hfin h1
    gi_wp2
    have hc : (W.setCell ⟨w.heap.size, 0, none⟩ (.bool (decide ((s.size : Int) ≤ 100)))).cell? ⟨w.heap.size, 0, none⟩ = some (.bool (decide ((s.size : Int) ≤ 100))) := World.cell?_setCell_same _ _ _ h3
    have hk : (W.setCell ⟨w.heap.size, 0, none⟩ (.bool (decide ((s.size : Int) ≤ 100)))).heap[W0.heap.size]? = some (.deferred (some [])) := (Below.heap_setCell _ _ _ _ (by show _ ≠ w.heap.size; omega)).trans hK
    have hc2 : ((W.setCell ⟨w.heap.size, 0, none⟩ (.bool (decide ((s.size : Int) ≤ 100)))).putObj W0.heap.size (.deferred none)).cell? ⟨w.heap.size, 0, none⟩ = some (.bool (decide ((s.size : Int) ≤ 100))) := (World.cell?_of_block (World.putObj_heap_other (by show w.heap.size ≠ _; omega))).trans hc
    refine leaves_mark hk (v := .bool (decide ((s.size : Int) ≤ 100))) (by simp [results, Tryd.results46, go_sem, hc2]) ⟨ret_bool HF.out.symm, below_putObj (h2.setCell (Nat.le_refl _) _) (by omega) _⟩
  case stop =>
    rintro d W ⟨rfl, h1, h2, h3⟩ hK
    have H1 := Lib.hid h1
    clear h1
    gi_wp2
    have hc2 : (W.putObj W0.heap.size (.deferred none)).cell? ⟨w.heap.size, 0, none⟩ = some (.bool false) := (World.cell?_of_block (World.putObj_heap_other (by show w.heap.size ≠ _; omega))).trans h3
    refine leaves_mark hK (v := .bool false) (by simp [results, Tryd.results46, go_sem, hc2]) ⟨ret_bool H1.out.symm, below_putObj h2 (by omega) _⟩
end Go.Proofs.YthiplpgkgnebfaaDoor
