/- Maps by strings, and by numbers: what a look-up answers, what a store leaves. -/
import Derived.Test.YthiplpgkgnebfaaDoorRight0
import Derived.MapKept
namespace Go.Proofs.YthiplpgkgnebfaaDoor
open Go.RowKit Go.Shelf Go.MapKept
set_option linter.unusedSimpArgs false
set_option linter.unusedVariables false

/-- What a map's keys are: how a key is written as a value. -/
structure KeyKind (P : Program) (t : TypeId) (κ : Type) where
  dec : DecidableEq κ
  enc : κ → Value
  desc : TypeDesc
  under : P.underlying t = some desc
  isKey : ∀ a, IsKey desc (enc a)
  inj : ∀ {a b}, enc a = enc b → a = b

def strKind (P : Program) (t : TypeId) (h : P.underlying t = some .string) : KeyKind P t ByteArray where
  dec := inferInstance
  enc := .string
  desc := .string
  under := h
  isKey := fun _ => trivial
  inj := fun h => by injection h
def intKind (P : Program) (t : TypeId) (h : P.underlying t = some (.int .i64)) : KeyKind P t Int where
  dec := inferInstance
  enc := .int .i64
  desc := .int .i64
  under := h
  isKey := fun _ => rfl
  inj := fun h => by injection h

/-- What m is with v at k. -/
def putAt {κ : Type} (dec : DecidableEq κ) {α : Type} (m : κ → Option α) (k : κ) (v : α) : κ → Option α := fun x => match dec x k with
  | .isTrue _ => some v
  | .isFalse _ => m x
theorem putAt_same {κ α : Type} (dec : DecidableEq κ) (m : κ → Option α) (k : κ) (v : α) : putAt dec m k v k = some v := by
  unfold putAt
  split
  · rfl
  · contradiction
theorem putAt_other {κ α : Type} (dec : DecidableEq κ) (m : κ → Option α) {k x : κ} (v : α) (h : x ≠ k) : putAt dec m k v x = m x := by
  unfold putAt
  split
  · contradiction
  · rfl

/-- Two entries of one key are one. -/
theorem stamped_unique {es : Array MapEntry} {clock : Nat} (h : Stamped es clock) {x y : MapEntry} (hx : x ∈ es.toList) (hy : y ∈ es.toList) (hk : x.key = y.key) : x = y := by
  obtain ⟨_, _, h3⟩ := h
  obtain ⟨i, hi⟩ := List.mem_iff_getElem?.1 hx
  obtain ⟨j, hj⟩ := List.mem_iff_getElem?.1 hy
  have : i = j := by
    have hil : i < es.toList.length := (List.getElem?_eq_some_iff.1 hi).1
    have hjl : j < es.toList.length := (List.getElem?_eq_some_iff.1 hj).1
    refine (List.getElem_inj (h₀ := by simpa using hil) (h₁ := by simpa using hjl) h3).1 ?_
    simp only [List.getElem_map]
    rw [(List.getElem?_eq_some_iff.1 hi).2, (List.getElem?_eq_some_iff.1 hj).2]; exact hk
  subst this
  rw [hi] at hj
  exact Option.some.inj hj

section
variable {P : Program} {t : TypeId} {κ : Type} (K : KeyKind P t κ)

/-- Block b of w is a map that answers as m. -/
def MapAt (w : World) (b : Nat) (m : κ → Option Value) : Prop :=
  ∃ es clock, w.heap[b]? = some (.map es clock) ∧ Stamped es clock ∧ (∀ e ∈ es.toList, IsKey K.desc e.key) ∧ ∀ k v, m k = some v ↔ ∃ e ∈ es.toList, e.key = K.enc k ∧ e.val = v

theorem MapAt.lt {w : World} {b : Nat} {m : κ → Option Value} (h : MapAt K w b m) : b < w.heap.size := by
  obtain ⟨es, clock, hb, _⟩ := h
  exact (Array.getElem?_eq_some_iff.1 hb).1
theorem MapAt.same {w w' : World} {b : Nat} {m : κ → Option Value} (h : MapAt K w b m) (hw : w'.heap[b]? = w.heap[b]?) : MapAt K w' b m := by
  obtain ⟨es, clock, hb, r⟩ := h
  exact ⟨es, clock, hw.trans hb, r⟩
theorem MapAt.chg {S : Nat → Prop} {w w' : World} {b : Nat} {m : κ → Option Value} (h : MapAt K w b m) (hw : Chg S w w') (hS : ¬ S b) : MapAt K w' b m := h.same K (hw.block b (h.lt K) hS)
theorem MapAt.below {w w' : World} {b : Nat} {m : κ → Option Value} (h : MapAt K w b m) (hw : Below w.heap.size w w') : MapAt K w' b m := h.same K (hw.block b (h.lt K))
theorem MapAt.new (w : World) : MapAt K (w.alloc (.map #[] 0)) w.heap.size (fun _ => none) :=
  ⟨#[], 0, World.alloc_heap_new w _, stamped_empty 0, by simp, by simp⟩

theorem MapAt.find {w : World} {b : Nat} {m : κ → Option Value} (h : MapAt K w b m) (k : κ) : ∃ es clock r, w.heap[b]? = some (.map es clock) ∧ Instr.findNow K.desc (K.enc k) es.toList 0 = some r ∧ r.map (·.2) = m k := by
  obtain ⟨es, clock, hb, hs, hk, hm⟩ := h
  rcases findNow_spec (K.isKey k) es.toList 0 hk with ⟨h1, h2⟩ | ⟨j, e, h1, h2, h3⟩
  · refine ⟨es, clock, none, hb, h1, ?_⟩
    cases hmk : m k with
    | none => rfl
    | some v => obtain ⟨e, he, hek, _⟩ := (hm k v).1 hmk; exact absurd hek (h2 e he)
  · exact ⟨es, clock, _, hb, h1, ((hm k e.val).2 ⟨e, List.mem_of_getElem? h2, h3, rfl⟩).symm⟩

/-- 'm[k]', 'v, ok := m[k]'. -/
theorem MapAt.lookup {w : World} {b : Nat} {m : κ → Option Value} (h : MapAt K w b m) {mt e : TypeId} (ht : P.underlying mt = some (.map t e)) {z : Value} (hz : ∀ w, (zeroValue e).run P w = .ok z w) (k : κ) (ok : Bool) :
    (Instr.lookup mt (.map (some b)) (K.enc k) ok).run P w = .ok (if ok then .tuple #[(m k).getD z, .bool (m k).isSome] else (m k).getD z) w := by
  obtain ⟨es, clock, r, hb, hr, hmk⟩ := h.find K k
  have hf := run_findKey (w := w) K.under hr
  simp only [Instr.lookup, Sem.run_bind, run_underlying ht, Result.andThen, Go.MapKept.run_getObj_map hb, run_checkKey K.under (K.isKey k), hf, Sem.run_pure]
  rw [← hmk]
  cases r with
  | none => simp [Sem.run_bind, hz, Result.andThen]
  | some pv => simp [Sem.run_bind, Result.andThen]

theorem MapAt.update {w : World} {b : Nat} {m : κ → Option Value} (h : MapAt K w b m) {mt e : TypeId} (ht : P.underlying mt = some (.map t e)) (k : κ) (v : Value) :
    ∃ w', (Instr.mapUpdate mt (.map (some b)) (K.enc k) v).run P w = .ok () w' ∧ MapAt K w' b (putAt K.dec m k v) ∧ Chg (fun i => i = b) w w' := by
  obtain ⟨es, clock, hb, hs, hks, hm⟩ := h
  have hk := K.isKey k
  have chg : ∀ o, Chg (fun i => i = b) w { w with heap := w.heap.setIfInBounds b o } := fun o => ⟨rfl, rfl, rfl, by simp, fun i _ hi => (heap_set hb).2 i hi⟩
  rcases findNow_spec hk es.toList 0 hks with ⟨h1, h2⟩ | ⟨j, e, h1, h2, h3⟩
  · refine ⟨{ w with heap := w.heap.setIfInBounds b (.map (es.push { key := K.enc k, val := v, born := clock }) (clock + 1)) }, by simp [Instr.mapUpdate, run_underlying ht, Go.MapKept.run_getObj_map hb, run_checkKey K.under hk, run_findKey K.under h1, Go.MapKept.run_setObj_map _ hb, Result.andThen], ⟨_, _, (heap_set hb).1, stamped_push hs h2, ?_, ?_⟩, chg _⟩
    · intro x hx
      simp only [Array.toList_push, List.mem_append, List.mem_singleton] at hx
      rcases hx with hx | rfl
      · exact hks x hx
      · exact hk
    · intro k' v'
      by_cases hkk : k' = k
      · subst hkk
        rw [putAt_same]
        constructor
        · intro hv; cases hv; exact ⟨{ key := K.enc k', val := v, born := clock }, by simp, rfl, rfl⟩
        · rintro ⟨x, hx, hxk, rfl⟩
          simp only [Array.toList_push, List.mem_append, List.mem_singleton] at hx
          rcases hx with hx | rfl
          · exact absurd hxk (h2 x hx)
          · rfl
      · rw [putAt_other _ _ _ hkk, hm]
        constructor
        · rintro ⟨x, hx, r⟩; exact ⟨x, by simp [Array.mem_toList_iff.1 hx], r⟩
        · rintro ⟨x, hx, hxk, r⟩
          simp only [Array.toList_push, List.mem_append, List.mem_singleton] at hx
          rcases hx with hx | rfl
          · exact ⟨x, hx, hxk, r⟩
          · exact absurd (K.inj hxk).symm hkk
  · have hj : es[j]? = some e := by simpa using h2
    refine ⟨{ w with heap := w.heap.setIfInBounds b (.map (es.modify j fun e => { e with key := K.enc k, val := v }) clock) }, by simp [Instr.mapUpdate, run_underlying ht, Go.MapKept.run_getObj_map hb, run_checkKey K.under hk, run_findKey K.under h1, hj, h3, run_keyThatStays hk, Go.MapKept.run_setObj_map _ hb, Result.andThen], ⟨_, _, (heap_set hb).1, stamped_modify hs _ _ (fun _ _ => rfl) (fun e' _ he' => ?_), isKey_modify hks _ _ (fun e' he' => ?_), ?_⟩, chg _⟩
    · rw [hj] at he'; cases he'; exact h3.symm
    · rw [hj] at he'; cases he'; exact h3.symm
    · intro k' v'
      have hjm : e ∈ es.toList := List.mem_of_getElem? h2
      have hin : ({ e with key := K.enc k, val := v } : MapEntry) ∈ (es.modify j fun e => { e with key := K.enc k, val := v }).toList := by
        refine List.mem_of_getElem? (i := j) ?_
        rw [Array.getElem?_toList, Array.getElem?_modify, if_pos rfl, hj]; rfl
      have hmem : ∀ x, x ∈ (es.modify j fun e => { e with key := K.enc k, val := v }).toList → (x.key = K.enc k ∧ x.val = v) ∨ x ∈ es.toList := by
        intro x hx
        obtain ⟨i, hi⟩ := List.mem_iff_getElem?.1 hx
        rw [Array.getElem?_toList, Array.getElem?_modify] at hi
        by_cases hij : j = i
        · rw [if_pos hij] at hi
          obtain ⟨y, _, rfl⟩ := Option.map_eq_some_iff.1 hi
          exact .inl ⟨rfl, rfl⟩
        · rw [if_neg hij] at hi
          exact .inr (List.mem_of_getElem? (by rw [Array.getElem?_toList]; exact hi))
      have hold : ∀ x, x ∈ es.toList → x.key ≠ K.enc k → x ∈ (es.modify j fun e => { e with key := K.enc k, val := v }).toList := by
        intro x hx hxk
        obtain ⟨i, hi⟩ := List.mem_iff_getElem?.1 hx
        rw [Array.getElem?_toList] at hi
        refine List.mem_of_getElem? (i := i) ?_
        rw [Array.getElem?_toList, Array.getElem?_modify, if_neg ?_]
        · exact hi
        · rintro rfl; rw [hj] at hi; cases hi; exact hxk h3
      by_cases hkk : k' = k
      · subst hkk
        rw [putAt_same]
        constructor
        · intro hv; cases hv; exact ⟨{ e with key := K.enc k', val := v }, hin, rfl, rfl⟩
        · rintro ⟨x, hx, hxk, rfl⟩
          rcases stamped_unique (stamped_modify hs j (fun e => { e with key := K.enc k', val := v }) (fun _ _ => rfl) (fun e' _ he' => by rw [hj] at he'; cases he'; exact h3.symm)) hx hin hxk with rfl
          rfl
      · rw [putAt_other _ _ _ hkk, hm]
        constructor
        · rintro ⟨x, hx, hxk, r⟩
          exact ⟨x, hold x hx (fun e => hkk (K.inj (hxk.symm.trans e))), hxk, r⟩
        · rintro ⟨x, hx, hxk, r⟩
          rcases hmem x hx with ⟨h4, h5⟩ | h4
          · exact absurd (K.inj (hxk.symm.trans h4)) hkk
          · exact ⟨x, h4, hxk, r⟩
end
end Go.Proofs.YthiplpgkgnebfaaDoor
