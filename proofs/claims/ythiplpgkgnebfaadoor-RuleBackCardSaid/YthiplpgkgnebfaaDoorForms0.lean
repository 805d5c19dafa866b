/- rule.forms, rule.word: what they answer. -/
import Derived.Test.YthiplpgkgnebfaaDoorUnq1
import Derived.Test.YthiplpgkgnebfaaDoorMap0
import Derived.Maps.RangeRun
import Derived.StillTailTactics
namespace Go.Proofs.YthiplpgkgnebfaaDoor
open Go.RowKit Go.Shelf Go.MapKept Go.Proofs.YthiplpgkgnebfaaDoorW.PrintWords
set_option linter.unusedSimpArgs false
set_option linter.unusedVariables false

def formsEs : Array MapEntry := #[⟨.string ⟨#[114, 101, 112, 108, 97, 99, 101]⟩, .agg #[.int .i64 1, .int .i64 2], 0⟩, ⟨.string ⟨#[105, 110, 115, 101, 114, 116]⟩, .agg #[.int .i64 2, .int .i64 2], 1⟩, ⟨.string ⟨#[115, 116, 114, 105, 107, 101]⟩, .agg #[.int .i64 3, .int .i64 1], 2⟩, ⟨.string ⟨#[114, 101, 110, 97, 109, 101]⟩, .agg #[.int .i64 4, .int .i64 2], 3⟩, ⟨.string ⟨#[114, 101, 109, 111, 118, 101]⟩, .agg #[.int .i64 5, .int .i64 0], 4⟩]

theorem set_last (w : World) (o o' : Obj) : { (w.alloc o) with heap := (w.alloc o).heap.setIfInBounds w.heap.size o' } = w.alloc o' := by
  have e : (w.heap.push o).setIfInBounds w.heap.size o' = w.heap.push o' := by
    apply Array.ext_getElem?
    intro i
    simp only [Array.getElem?_setIfInBounds, Array.getElem?_push, Array.size_push]
    by_cases h : w.heap.size = i
    · subst h; simp
    · have h2 : ¬ i = w.heap.size := fun e => h e.symm
      simp [h, h2]
  show { (w.alloc o) with heap := (w.heap.push o).setIfInBounds w.heap.size o' } = _
  rw [e]; rfl
theorem run_mk (w : World) : (Instr.makeMap 82 none).run Tryd.prog w = .ok (.map (some w.heap.size)) (w.alloc (.map #[] 0)) := by
  simp [Instr.makeMap, run_underlying Tryd.underlying82]
theorem run_put (w : World) (es : Array MapEntry) (c : Nat) (s : ByteArray) (v : Value) (hn : Instr.findNow .string (.string s) es.toList 0 = some none) :
    (Instr.mapUpdate 82 (.map (some w.heap.size)) (.string s) v).run Tryd.prog (w.alloc (.map es c)) = .ok () (w.alloc (.map (es.push { key := .string s, val := v, born := c }) (c + 1))) := by
  have hb : (w.alloc (.map es c)).heap[w.heap.size]? = some (.map es c) := World.alloc_heap_new w _
  have hk : IsKey .string (.string s) := trivial
  have := set_last w (.map es c) (.map (es.push { key := .string s, val := v, born := c }) (c + 1))
  simp [Instr.mapUpdate, run_underlying Tryd.underlying82, Go.MapKept.run_getObj_map hb, run_checkKey Tryd.underlying9 hk, run_findKey (w := w.alloc (.map es c)) Tryd.underlying9 hn, run_setObj_map _ hb, Result.andThen]
  exact this

set_option maxRecDepth 100000 in
set_option maxHeartbeats 4000000 in
theorem forms_calls (w : World) :
    Calls Tryd.prog 51 #[] w fun e w' => e = .returned (.map (some w.heap.size)) ∧ w'.heap[w.heap.size]? = some (.map formsEs 5) ∧ Below w.heap.size w w' := by
  go_enter Tryd.func51, Tryd.ntmps51
  have hmk := run_mk w
  have h1 := run_put w #[] 0 ⟨#[114, 101, 112, 108, 97, 99, 101]⟩ (.agg #[.int .i64 1, .int .i64 2]) (by kernel_rfl)
  simp only [List.push_toArray, List.nil_append, List.cons_append, Nat.zero_add, Nat.reduceAdd] at h1
  have h2 := run_put w #[⟨.string ⟨#[114, 101, 112, 108, 97, 99, 101]⟩, .agg #[.int .i64 1, .int .i64 2], 0⟩] 1 ⟨#[105, 110, 115, 101, 114, 116]⟩ (.agg #[.int .i64 2, .int .i64 2]) (by kernel_rfl)
  simp only [List.push_toArray, List.nil_append, List.cons_append, Nat.zero_add, Nat.reduceAdd] at h2
  have h3 := run_put w #[⟨.string ⟨#[114, 101, 112, 108, 97, 99, 101]⟩, .agg #[.int .i64 1, .int .i64 2], 0⟩, ⟨.string ⟨#[105, 110, 115, 101, 114, 116]⟩, .agg #[.int .i64 2, .int .i64 2], 1⟩] 2 ⟨#[115, 116, 114, 105, 107, 101]⟩ (.agg #[.int .i64 3, .int .i64 1]) (by kernel_rfl)
  simp only [List.push_toArray, List.nil_append, List.cons_append, Nat.zero_add, Nat.reduceAdd] at h3
  have h4 := run_put w #[⟨.string ⟨#[114, 101, 112, 108, 97, 99, 101]⟩, .agg #[.int .i64 1, .int .i64 2], 0⟩, ⟨.string ⟨#[105, 110, 115, 101, 114, 116]⟩, .agg #[.int .i64 2, .int .i64 2], 1⟩, ⟨.string ⟨#[115, 116, 114, 105, 107, 101]⟩, .agg #[.int .i64 3, .int .i64 1], 2⟩] 3 ⟨#[114, 101, 110, 97, 109, 101]⟩ (.agg #[.int .i64 4, .int .i64 2]) (by kernel_rfl)
  simp only [List.push_toArray, List.nil_append, List.cons_append, Nat.zero_add, Nat.reduceAdd] at h4
  have h5 := run_put w #[⟨.string ⟨#[114, 101, 112, 108, 97, 99, 101]⟩, .agg #[.int .i64 1, .int .i64 2], 0⟩, ⟨.string ⟨#[105, 110, 115, 101, 114, 116]⟩, .agg #[.int .i64 2, .int .i64 2], 1⟩, ⟨.string ⟨#[115, 116, 114, 105, 107, 101]⟩, .agg #[.int .i64 3, .int .i64 1], 2⟩, ⟨.string ⟨#[114, 101, 110, 97, 109, 101]⟩, .agg #[.int .i64 4, .int .i64 2], 3⟩] 4 ⟨#[114, 101, 109, 111, 118, 101]⟩ (.agg #[.int .i64 5, .int .i64 0]) (by kernel_rfl)
  simp only [List.push_toArray, List.nil_append, List.cons_append, Nat.zero_add, Nat.reduceAdd] at h5
  go_wp2
  go_ret
  exact ⟨rfl, World.alloc_heap_new w _, (Below.refl _ w).alloc (Nat.le_refl _) _⟩

theorem forms_stamps : ∀ x ∈ formsEs.toList, x.born < 5 := by decide
theorem forms_nodup : (formsEs.toList.map (·.born)).Nodup := by decide
/-- What an entry is. -/
theorem forms_mem {e : MapEntry} (h : e ∈ formsEs.toList) : ∃ (k : Int) (n : Nat) (s : ByteArray), e.key = .string s ∧ e.val = .agg #[.int .i64 k, .int .i64 n] ∧ kindW k = (bs s, n) ∧ k = (e.born : Int) + 1 ∧ 1 ≤ k ∧ k ≤ 5 := by
  simp only [formsEs, List.mem_cons, List.not_mem_nil, or_false] at h
  rcases h with rfl | rfl | rfl | rfl | rfl
  · exact ⟨1, 2, _, rfl, rfl, by decide, rfl, by decide, by decide⟩
  · exact ⟨2, 2, _, rfl, rfl, by decide, rfl, by decide, by decide⟩
  · exact ⟨3, 1, _, rfl, rfl, by decide, rfl, by decide, by decide⟩
  · exact ⟨4, 2, _, rfl, rfl, by decide, rfl, by decide, by decide⟩
  · exact ⟨5, 0, _, rfl, rfl, by decide, rfl, by decide, by decide⟩
theorem kindW_none {k : Int} (h : ∀ i : Nat, i < 5 → k ≠ (i : Int) + 1) : kindW k = ([], 0) := by
  have h1 := h 0 (by decide); have h2 := h 1 (by decide); have h3 := h 2 (by decide); have h4 := h 3 (by decide); have h5 := h 4 (by decide)
  unfold kindW
  rw [if_neg (by omega), if_neg (by omega), if_neg (by omega), if_neg (by omega), if_neg (by omega)]
/-- An iterator moved on: nothing else is changed. -/
theorem chg_block {w w1 : World} (h : w1 = w ∨ w1 = w.drew) (r : Nat) (o : Obj) : Chg (fun k => k = r) w (Go.ChangeMaps.setBlock w1 r o) := by
  rcases h with rfl | rfl
  · exact ⟨rfl, rfl, rfl, by simp [Go.ChangeMaps.setBlock], fun i _ hi => by simp [Go.ChangeMaps.setBlock, Ne.symm hi]⟩
  · exact ⟨rfl, rfl, rfl, by simp [Go.ChangeMaps.setBlock]; try exact Nat.le_refl _, fun i _ hi => by simp [Go.ChangeMaps.setBlock, Ne.symm hi]; rfl⟩

set_option maxRecDepth 100000 in
set_option maxHeartbeats 4000000 in
theorem word_calls (k : Int) (w : World) :
    Calls Tryd.prog 38 #[.int .i64 k] w fun e w' => (∃ s : ByteArray, e = .returned (.tuple #[.string s, .int .i64 (kindW k).2]) ∧ bs s = (kindW k).1) ∧ Below w.heap.size w w' := by
  go_enter Tryd.func38, Tryd.ntmps38
  go_wp2_with (go_at_call 51; refine (forms_calls _).mono ?_; rintro e w' ⟨rfl, hm, hb⟩; have hrg := run_range_map w' 82 9 80 w.heap.size formsEs 5 Tryd.underlying82 hm)
  have hsz' := hb.size
  have hltb : w.heap.size < w'.heap.size := (Array.getElem?_eq_some_iff.1 hm).1
  have HB := Aside0.mk hb
  have HM := Aside0.mk hm
  clear hb hm
  go_loopw [] (fun wr => ∃ (seen : Array Nat) (c0 : Nat), Aside0 (wr.heap[w.heap.size]? = some (.map formsEs 5)) ∧ Aside0 (wr.heap[w'.heap.size]? = some (.mapIter (some w.heap.size) 5 seen c0)) ∧ 5 ≤ c0 ∧ Aside0 (∀ i : Nat, i < 5 → seen.contains i = true → k ≠ (i : Int) + 1) ∧ Aside0 (Below w.heap.size w wr) ∧ w'.heap.size < wr.heap.size)
    (fun wr => match wr.heap[w'.heap.size]? with | some (.mapIter _ _ seen _) => (leftOf formsEs seen).size | _ => 0)
  case atStart =>
    refine ⟨#[], 5, ⟨(Below.heap_alloc _ _ _ hltb).trans HM.out⟩, ⟨World.alloc_heap_new w' _⟩, by omega, ⟨by simp⟩, ⟨HB.out.alloc (by omega) _⟩, by rw [World.size_alloc]; omega⟩
  case round =>
    obtain ⟨seen, c0, H1, H2, hc0, H3, H4, hlt⟩ := hrel
    rcases run_next_at (P := Tryd.prog) wr 0 w'.heap.size w.heap.size 5 c0 seen formsEs 5 H2.out H1.out forms_stamps hc0 with ⟨hz, hnx⟩ | ⟨e, he, w1, hw1, hnx⟩
    · have HK := Aside0.mk (show kindW k = ([], 0) by
        refine kindW_none (fun i hi => H3.out i hi ?_)
        have h0 : leftOf formsEs seen = #[] := Array.eq_empty_of_size_eq_zero hz
        unfold leftOf at h0
        rw [Array.filter_eq_empty_iff] at h0
        have key : ∀ i, i < 5 → ∃ e, e ∈ formsEs ∧ e.born = i := by
          intro i hi
          match i, hi with
          | 0, _ => exact ⟨_, Array.mem_of_getElem? (i := 0) rfl, rfl⟩
          | 1, _ => exact ⟨_, Array.mem_of_getElem? (i := 1) rfl, rfl⟩
          | 2, _ => exact ⟨_, Array.mem_of_getElem? (i := 2) rfl, rfl⟩
          | 3, _ => exact ⟨_, Array.mem_of_getElem? (i := 3) rfl, rfl⟩
          | 4, _ => exact ⟨_, Array.mem_of_getElem? (i := 4) rfl, rfl⟩
        obtain ⟨e, he, rfl⟩ := key i hi
        have := h0 e he
        simpa using this)
      have HZ := Aside0.mk hz
      clear hz
      go_wp2
      go_ret2
      exact ⟨⟨_, by rw [HK.out]; rfl, by rw [HK.out]; first | done | rfl⟩, H4.out⟩
    · obtain ⟨hme, hns⟩ := mem_left he
      have HSh := Aside0.mk (left_shrinks formsEs seen e he)
      obtain ⟨k', n, s, hkey, hval, hkw, hborn, hk1, hk5⟩ := forms_mem hme
      have hch := chg_block hw1 w'.heap.size (.mapIter (some w.heap.size) 5 (seen.push e.born) 5)
      have hW : ∃ W, W = Go.ChangeMaps.setBlock w1 w'.heap.size (.mapIter (some w.heap.size) 5 (seen.push e.born) 5) := ⟨_, rfl⟩
      have h1W : (Go.ChangeMaps.setBlock w1 w'.heap.size (.mapIter (some w.heap.size) 5 (seen.push e.born) 5)).heap[w.heap.size]? = some (.map formsEs 5) := (hch.block _ (by omega) (by omega)).trans H1.out
      have h2W : (Go.ChangeMaps.setBlock w1 w'.heap.size (.mapIter (some w.heap.size) 5 (seen.push e.born) 5)).heap[w'.heap.size]? = some (.mapIter (some w.heap.size) 5 (seen.push e.born) 5) := by
        have : w'.heap.size < w1.heap.size := by rcases hw1 with rfl | rfl <;> exact hlt
        simp [Go.ChangeMaps.setBlock, this]
      have h4W := H4.out.trans (hch.below (B := w.heap.size) (by omega) (fun i hi => by omega))
      obtain ⟨W, hWe⟩ := hW
      rw [← hWe] at hnx hch h1W h2W h4W
      have hen := run_entry_at (P := Tryd.prog) W w'.heap.size w.heap.size 5 seen formsEs 5 e h2W h1W hme forms_nodup
      rw [hkey, hval] at hnx hen
      have hszW := hch.size
      have H3' := Aside0.mk (show k ≠ k' → ∀ i : Nat, i < 5 → (seen.push e.born).contains i = true → k ≠ (i : Int) + 1 by
        intro hne i hi hc
        rw [contains_push, Bool.or_eq_true] at hc
        rcases hc with hc | hc
        · exact H3.out i hi hc
        · have : i = e.born := by simpa using hc
          omega)
      have A1 := Aside0.mk h1W
      have A2 := Aside0.mk h2W
      have A4 := Aside0.mk h4W
      have HKW := Aside0.mk hkw
      clear h1W h2W h4W hkw hkey hval hborn he hme hns hWe hw1 hch
      by_cases hkk : k' = k
      · subst hkk
        go_wp2
        go_region
        go_wp2
        go_ret2
        exact ⟨⟨s, by rw [show (kindW k').2 = n from by rw [HKW.out]]; rfl, by rw [HKW.out]⟩, (A4.out.alloc (by omega) _).drew⟩
      · have hkb : (k' == k) = false := by simpa using hkk
        have HKK := Aside0.mk (fun e => hkk (Eq.symm e) : k ≠ k')
        clear hkk
        go_wp2
        have hlW : w'.heap.size < W.heap.size := by omega
        refine ⟨⟨seen.push e.born, 5, ⟨(Below.heap_alloc _ _ _ (by omega)).trans A1.out⟩, ⟨(Below.heap_alloc _ _ _ hlW).trans A2.out⟩, by omega, ⟨H3'.out HKK.out⟩, ⟨A4.out.alloc (by omega) _⟩, by rw [World.size_alloc]; omega⟩, ?_⟩
        rw [(Below.heap_alloc _ _ _ hlW).trans A2.out, H2.out]
        exact HSh.out
end Go.Proofs.YthiplpgkgnebfaaDoor
