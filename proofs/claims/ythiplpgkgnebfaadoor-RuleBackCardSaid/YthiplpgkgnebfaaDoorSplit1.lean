/- A range over strings.SplitSeq at a separator of one byte, as a statement of a function. -/
import Derived.Test.YthiplpgkgnebfaaDoorSplit0
namespace Go.Proofs.YthiplpgkgnebfaaDoor
open Go.RowKit Go.Shelf

/-- All blocks but those in S are as they were; new ones may be. -/
structure Chg (S : Nat → Prop) (w w' : World) : Prop where
  os : w'.os = w.os
  tape : w'.tape = w.tape
  output : w'.output = w.output
  size : w.heap.size ≤ w'.heap.size
  block : ∀ k, k < w.heap.size → ¬ S k → w'.heap[k]? = w.heap[k]?
namespace Chg
variable {S T : Nat → Prop} {a b c w w' : World}
theorem refl (S : Nat → Prop) (w : World) : Chg S w w := ⟨rfl, rfl, rfl, Nat.le_refl _, fun _ _ _ => rfl⟩
theorem trans (h : Chg S a b) (k : Chg S b c) : Chg S a c :=
  ⟨k.os.trans h.os, k.tape.trans h.tape, k.output.trans h.output, Nat.le_trans h.size k.size, fun i hi hs => (k.block i (Nat.lt_of_lt_of_le hi h.size) hs).trans (h.block i hi hs)⟩
theorem mono (h : Chg S a b) (hST : ∀ k, k < a.heap.size → S k → T k) : Chg T a b := ⟨h.os, h.tape, h.output, h.size, fun i hi hs => h.block i hi (fun e => hs (hST i hi e))⟩
theorem of_below (h : Below w.heap.size w w') : Chg S w w' := ⟨h.os, h.tape, h.output, h.size, fun k hk _ => h.block k hk⟩
theorem below (h : Chg S w w') {B : Nat} (hB : B ≤ w.heap.size) (hS : ∀ k, k < B → ¬ S k) : Below B w w' := ⟨h.os, h.tape, h.output, h.size, fun k hk => h.block k (by omega) (hS k hk)⟩
theorem drew (h : Chg S a b) : Chg S a b.drew := ⟨h.os, h.tape, h.output, h.size, h.block⟩
theorem alloc (h : Chg S a b) (o : Obj) : Chg S a (b.alloc o) :=
  ⟨h.os, h.tape, h.output, by have := h.size; simp; omega, fun k hk hs => (Below.heap_alloc b o k (Nat.lt_of_lt_of_le hk h.size)).trans (h.block k hk hs)⟩
theorem setCell (h : Chg S a b) {p : Addr} (hp : S p.block ∨ a.heap.size ≤ p.block) (u : Value) : Chg S a (b.setCell p u) :=
  ⟨h.os, h.tape, h.output, by simpa using h.size, fun k hk hs => (Below.heap_setCell b p u k (by rintro rfl; exact hp.elim hs (fun e => by omega))).trans (h.block k hk hs)⟩
theorem putObj (h : Chg S a b) {r : Nat} (hp : S r ∨ a.heap.size ≤ r) (o : Obj) : Chg S a (b.putObj r o) :=
  ⟨h.os, h.tape, h.output, by simpa using h.size, fun k hk hs => (World.putObj_heap_other (by rintro rfl; exact hp.elim hs (fun e => by omega))).trans (h.block k hk hs)⟩
/-- Two steps, the second of which may also change what the first made. -/
theorem then_ (h : Chg S a b) (k : Chg T b c) (hT : ∀ i, i < a.heap.size → T i → S i) : Chg S a c :=
  ⟨k.os.trans h.os, k.tape.trans h.tape, k.output.trans h.output, Nat.le_trans h.size k.size, fun i hi hs => (k.block i (Nat.lt_of_lt_of_le hi h.size) (fun e => hs (hT i hi e))).trans (h.block i hi hs)⟩
theorem cell (h : Chg S w w') {p : Addr} {v : Value} (hc : w.cell? p = some v) (hS : ¬ S p.block) : w'.cell? p = some v :=
  (World.cell?_of_block (h.block _ (World.block_lt_of_cell? w p hc) hS)).trans hc
theorem frozen (h : Chg S w w') {p : Addr} (hp : p.block < w.heap.size) (hS : ¬ S p.block) : w'.frozen? p = w.frozen? p := World.frozen?_of_block (h.block _ hp hS)
end Chg

theorem cell_new (w : World) (cs : Array Value) (t : TypeId) (i : Nat) (v : Value) (h : cs[i]? = some v) : (w.alloc (.cells cs t)).cell? ⟨w.heap.size, i, none⟩ = some v := by
  rw [World.cell?_alloc_at _ _ _ _ rfl]; exact h
theorem frozen_new (w : World) (cs : Array Value) (t : TypeId) (i : Nat) : (w.alloc (.cells cs t)).frozen? ⟨w.heap.size, i, none⟩ = false := World.frozen?_alloc_at _ _ _ _ rfl
theorem cell_old {w : World} (o : Obj) {a : Addr} {v : Value} (h : w.cell? a = some v) : (w.alloc o).cell? a = some v := (World.cell?_alloc_lt w o a (World.block_lt_of_cell? w a h)).trans h
theorem frozen_old {w : World} (o : Obj) {a : Addr} (hl : a.block < w.heap.size) (h : w.frozen? a = false) : (w.alloc o).frozen? a = false := by
  rw [World.frozen?_alloc_old w o a (Nat.ne_of_lt hl)]; exact h

/-- A function that has ranged over a function leaves: its mark is come to; no call was deferred in a round. -/
theorem leaves_mark {fn : Func} {tmps : Array Value} {R : Ending → World → Prop} {D : Nat} {W : World} {v : Value} (hK : W.heap[D]? = some (.deferred (some [])))
    (hr : (results fn tmps).run Tryd.prog (W.putObj D (.deferred none)) = .ok v (W.putObj D (.deferred none))) (hR : R (.returned v) (W.putObj D (.deferred none))) :
    bodyPostM Fence.wide 4 Tryd.prog fn R .ret { tmps, defers := [{ target := .collected D, args := #[] }] } W := by
  refine ⟨by simp, .inl ⟨_, _, rfl, run_takeDeferred hK, ?_⟩⟩
  exact ⟨_, hr, hR⟩

/-- HOW THE BODY OF A ROUND MAY BE LEFT. -/
def splitPost (S : Nat → Prop) (I : World → Prop) (Ix : Code → World → Prop) (W : World) : Exit → Act → World → Prop
  | .normal, _, W' => Chg S W W' ∧ I W'
  | .ret, _, W' => Chg S W W' ∧ Ix .ret W'
  | .exit id, _, W' => Chg S W W' ∧ Ix (.exit id) W'
  | .goto t, _, W' => Chg S W W' ∧ Ix (.goto t) W'
  | .panic _, _, _ => False
  | .outgrown, _, _ => False

theorem pw_cell {w w1 : World} (h : Below w.heap.size w w1) {a : Addr} {v : Value} (hc : w.cell? a = some v) : w1.cell? a = some v := (h.cell (World.block_lt_of_cell? w a hc)).trans hc
theorem wpIn_split {g : Operand} {p : Tmp} {assign body : Code} {Q : Exit → Act → World → Prop} {a : Act} {w : World} {Bsep Bs Bsv : Nat} (c : UInt8) (s : ByteArray)
    (hg : a.eval g = .func (.func 63) #[] #[.pointer (some ⟨Bsep, 0, none⟩), .pointer (some ⟨Bs, 0, none⟩), .pointer (some ⟨Bsv, 0, none⟩)])
    (hs : s.size ≤ 4611686018427387904) (hc1 : w.cell? ⟨Bsep, 0, none⟩ = some (.string ⟨#[c]⟩)) (hc2 : w.cell? ⟨Bs, 0, none⟩ = some (.string s)) (hc3 : w.cell? ⟨Bsv, 0, none⟩ = some (.int .i64 0))
    (hfz : w.frozen? ⟨Bs, 0, none⟩ = false) (hne1 : Bsep ≠ Bs) (hne2 : Bsv ≠ Bs)
    (S : Nat → Prop) (hS1 : ¬ S Bsep) (hS2 : ¬ S Bs) (hS3 : ¬ S Bsv) (hSD : ¬ S w.heap.size) (hSl : ¬ S (w.heap.size + 1))
    (I : List (List UInt8) → World → Prop) (Ix : Code → World → Prop)
    (hI : ∀ {pre W v}, I pre W → I pre (W.setCell ⟨Bs, 0, none⟩ v)) (hIp : ∀ {pre W o}, I pre W → I pre (W.putObj (w.heap.size + 1) o)) (hIx : ∀ {d W o}, Ix d W → Ix d (W.putObj (w.heap.size + 1) o))
    (h0 : ∀ o, I [] ((w.alloc (.deferred (some []))).alloc o))
    (a₁ : ByteArray → Act)
    (hassign : ∀ (l : Nat) (x : ByteArray) (W : World) (K : Act → World → Prop), K (a₁ x) W → assign.wpIn (Fence.wide.inRound l) 2 Tryd.prog (Exit.then K (fun _ _ _ => False)) { tmps := a.tmps.setIfInBounds p (.string x), defers := [] } W)
    (hbody : ∀ (l : Nat) (pre rest : List (List UInt8)) (x : ByteArray) (W : World), I pre W → w.heap.size + 2 ≤ W.heap.size → splitB c (bs s) = pre ++ bs x :: rest → body.wpIn (Fence.wide.inRound l) 2 Tryd.prog (splitPost S (I (pre ++ [bs x])) Ix W) (a₁ x) W)
    (hdone : ∀ (W : World), I (splitB c (bs s)) W → W.heap[w.heap.size]? = some (.deferred (some [])) → Q .normal { a with defers := { target := .collected w.heap.size, args := #[] } :: a.defers } W)
    (hstop : ∀ (d : Code) (W : World), Ix d W → W.heap[w.heap.size]? = some (.deferred (some [])) → d.wpIn Fence.wide 4 Tryd.prog Q { a with defers := { target := .collected w.heap.size, args := #[] } :: a.defers } W) :
    (Code.rangeFunc g #[p] assign body).wpIn Fence.wide 4 Tryd.prog Q a w := by
  refine wpIn_rangeFunc ?_
  intro fn hfn
  obtain ⟨rec, hrec⟩ : ∃ rec : LoopState → Option Code → Loop, rec = fun st pe => { state := st, pending := pe, fn, tmps := a.tmps, params := #[p], assign, body, defers := w.heap.size } := ⟨_, rfl⟩
  obtain ⟨W1, hW1⟩ : ∃ W1, (w.alloc (.deferred (some []))).alloc (.loop (rec .ready none)) = W1 := ⟨_, rfl⟩
  have hsz1 : W1.heap.size = w.heap.size + 2 := by rw [← hW1]; simp
  have hL1 : W1.heap[w.heap.size + 1]? = some (.loop (rec .ready none)) := by
    rw [← hW1]; have := World.alloc_heap_new (w.alloc (.deferred (some []))) (.loop (rec .ready none)); rwa [World.size_alloc] at this
  have hK1 : W1.heap[w.heap.size]? = some (.deferred (some [])) := by
    rw [← hW1]; exact (Below.heap_alloc _ _ _ (by simp)).trans (World.alloc_heap_new w _)
  have hI1 : I [] W1 := by rw [← hW1]; exact h0 _
  have hb1 : Below w.heap.size w W1 := by
    rw [← hW1]; exact ((Below.refl _ w).alloc (Nat.le_refl _) _).alloc (by simp) _
  have lt1 : Bsep < w.heap.size := World.block_lt_of_cell? w _ hc1
  have lt2 : Bs < w.heap.size := World.block_lt_of_cell? w _ hc2
  have lt3 : Bsv < w.heap.size := World.block_lt_of_cell? w _ hc3
  refine ⟨w.heap.size + 1, [{ target := .collected w.heap.size, args := #[] }], W1, { target := .fn (.func 63) #[.pointer (some ⟨Bsep, 0, none⟩), .pointer (some ⟨Bs, 0, none⟩), .pointer (some ⟨Bsv, 0, none⟩)], args := #[.func (.yield (w.heap.size + 1)) #[] #[]] }, W1, 63,
    #[.func (.yield (w.heap.size + 1)) #[] #[]] ++ #[.pointer (some ⟨Bsep, 0, none⟩), .pointer (some ⟨Bs, 0, none⟩), .pointer (some ⟨Bsv, 0, none⟩)], W1, ?_, ?_, ?_, ?_, fun h => by simp [Fence.wide] at h, ?_⟩
  · rw [← hW1, hrec]; exact run_enterLoop_outer _ _ _ _ _
  · simp only [resolve, hg]
    simp [go_sem]
  · intro f' hf'; trivial
  · simp [invoke, go_sem]
  · -- what the record and the deferred block are between two rounds; the boxes
    let J : List (List UInt8) → World → Prop := fun pre W => I pre W ∧ w.heap.size + 2 ≤ W.heap.size ∧ W.heap[w.heap.size + 1]? = some (.loop (rec .ready none)) ∧ W.heap[w.heap.size]? = some (.deferred (some [])) ∧
      W.cell? ⟨Bsep, 0, none⟩ = some (.string ⟨#[c]⟩) ∧ W.cell? ⟨Bsv, 0, none⟩ = some (.int .i64 0) ∧ W.frozen? ⟨Bs, 0, none⟩ = false
    let Jx : World → Prop := fun W => ∃ d, Ix d W ∧ W.heap[w.heap.size + 1]? = some (.loop (rec .done (some d))) ∧ W.heap[w.heap.size]? = some (.deferred (some []))
    have put_cell : ∀ (W : World) (b : Nat) (o : Obj), b < w.heap.size → (W.putObj (w.heap.size + 1) o).cell? ⟨b, 0, none⟩ = W.cell? ⟨b, 0, none⟩ := fun W b o hb => World.cell?_of_block (World.putObj_heap_other (by show b ≠ _; omega))
    have put_frozen : ∀ (W : World) (b : Nat) (o : Obj), b < w.heap.size → (W.putObj (w.heap.size + 1) o).frozen? ⟨b, 0, none⟩ = W.frozen? ⟨b, 0, none⟩ := fun W b o hb => World.frozen?_of_block (World.putObj_heap_other (by show b ≠ _; omega))
    have hRounds : SplitRounds Tryd.prog (w.heap.size + 1) Bsep Bs Bsv c J Jx (splitB c (bs s)) := by
      refine ⟨fun h => ⟨h.2.2.2.2.1, h.2.2.2.2.2.1, h.2.2.2.2.2.2⟩, ?_, ?_⟩
      · rintro pre W v ⟨hi, hz, hl, hk, h1, h2, h3⟩
        refine ⟨hI hi, by simpa using hz, (Below.heap_setCell _ _ _ _ (by show _ ≠ Bs; omega)).trans hl, (Below.heap_setCell _ _ _ _ (by show _ ≠ Bs; omega)).trans hk, ?_, ?_, ?_⟩
        · rw [World.cell?_of_block (Below.heap_setCell W ⟨Bs, 0, none⟩ v Bsep hne1)]; exact h1
        · rw [World.cell?_of_block (Below.heap_setCell W ⟨Bs, 0, none⟩ v Bsv hne2)]; exact h2
        · rw [World.frozen?_setCell]; exact h3
      · rintro pre rest W x t ⟨hi, hz, hl, hk, h1, h2, h3⟩ hbt hps
        have hy := run_yield (P := Tryd.prog) (args := #[.string x]) hl (by rw [hrec]; rfl)
        rw [hrec] at hy
        have hzip : (#[p].zip #[Value.string x]).foldl (fun tmps (t, a) => tmps.setIfInBounds t a) a.tmps = a.tmps.setIfInBounds p (.string x) := by simp
        dsimp only at hy
        rw [hzip] at hy
        refine ⟨fn, _, assign, body, hy, roundIn_of_wpIn hfn ?_⟩
        refine hassign (w.heap.size + 1) x W _ ?_
        refine ⟨_, run_beginRound hl (by rw [hrec]), ?_⟩
        have hlt : w.heap.size + 1 < W.heap.size := by omega
        have hl2 : (W.putObj (w.heap.size + 1) (.loop { rec .ready none with state := .busy })).heap[w.heap.size + 1]? = some (.loop { rec .ready none with state := .busy }) := World.putObj_heap_same hlt
        have hk2 : (W.putObj (w.heap.size + 1) (.loop { rec .ready none with state := .busy })).heap[w.heap.size]? = some (.deferred (some [])) := (World.putObj_heap_other (by omega)).trans hk
        refine wpIn_mono (hbody _ pre rest x _ (hIp hi) (by simpa using hz) hps) ?_
        have fin : ∀ (jump : Option Code) (W3 : World), Chg S (W.putObj (w.heap.size + 1) (.loop { rec .ready none with state := .busy })) W3 →
            (Instr.endRound (w.heap.size + 1) jump).run Tryd.prog W3 = .ok (.bool jump.isNone) (W3.putObj (w.heap.size + 1) (.loop (rec (if jump.isNone then .ready else .done) jump))) ∧
            (W3.putObj (w.heap.size + 1) (.loop (rec (if jump.isNone then .ready else .done) jump))).heap[w.heap.size + 1]? = some (.loop (rec (if jump.isNone then .ready else .done) jump)) ∧
            (W3.putObj (w.heap.size + 1) (.loop (rec (if jump.isNone then .ready else .done) jump))).heap[w.heap.size]? = some (.deferred (some [])) := fun jump W3 hk3 => by
          have hl3 := (hk3.block (w.heap.size + 1) (by simpa using hlt) hSl).trans hl2
          have hk4 := (hk3.block w.heap.size (by simp; omega) hSD).trans hk2
          have := run_endRound (P := Tryd.prog) jump hl3
          rw [hrec] at this ⊢
          exact ⟨this, World.putObj_heap_same (Array.getElem?_eq_some_iff.1 hl3).1, (World.putObj_heap_other (by omega)).trans hk4⟩
        rintro e a3 W3 hp
        cases e with
        | normal =>
          obtain ⟨hk3, hi3⟩ := hp
          obtain ⟨hr, hl4, hk4⟩ := fin none W3 hk3
          have cellK : ∀ (b : Nat) (v : Value), b < w.heap.size → ¬ S b → W.cell? ⟨b, 0, none⟩ = some v → (W3.putObj (w.heap.size + 1) (.loop (rec .ready none))).cell? ⟨b, 0, none⟩ = some v := fun b v hb hSb hv => by
            rw [put_cell _ _ _ hb]
            refine hk3.cell ?_ hSb
            rw [put_cell _ _ _ hb]; exact hv
          refine ⟨_, _, hr, .inl ⟨rfl, ⟨hIp hi3, by have := hk3.size; simp at this ⊢; omega, hl4, hk4, cellK _ _ lt1 hS1 h1, cellK _ _ lt3 hS3 h2, ?_⟩, cellK _ _ lt2 hS2 hbt⟩⟩
          rw [put_frozen _ _ _ lt2, hk3.frozen (by simp; omega) hS2, put_frozen _ _ _ lt2]; exact h3
        | ret =>
          obtain ⟨hk3, hi3⟩ := hp
          obtain ⟨hr, hl4, hk4⟩ := fin (some .ret) W3 hk3
          exact ⟨_, _, hr, .inr ⟨rfl, .ret, hIx hi3, hl4, hk4⟩⟩
        | exit id =>
          obtain ⟨hk3, hi3⟩ := hp
          obtain ⟨hr, hl4, hk4⟩ := fin (some (.exit id)) W3 hk3
          exact ⟨_, _, hr, .inr ⟨rfl, .exit id, hIx hi3, hl4, hk4⟩⟩
        | goto t =>
          obtain ⟨hk3, hi3⟩ := hp
          obtain ⟨hr, hl4, hk4⟩ := fin (some (.goto t)) W3 hk3
          exact ⟨_, _, hr, .inr ⟨rfl, .goto t, hIx hi3, hl4, hk4⟩⟩
        | panic ch => exact hp.elim
        | outgrown => exact hp.elim
    refine (split1_in (w.heap.size + 1) Bsep Bs Bsv c J Jx _ hRounds s hs rfl W1 ⟨hI1, by omega, hL1, hK1, pw_cell hb1 hc1, pw_cell hb1 hc3, (hb1.frozen lt2).trans hfz⟩ (pw_cell hb1 hc2)).mono ?_
    rintro e W2 ⟨⟨v, rfl⟩, (⟨hi, hz, hl, hk, _⟩ | ⟨d, hi, hl, hk⟩)⟩
    · exact ⟨none, _, by have := run_endLoop (P := Tryd.prog) hl (by rw [hrec]; simp); rw [hrec] at this; exact this, hdone _ (hIp hi) ((World.putObj_heap_other (by omega)).trans hk)⟩
    · exact ⟨some d, _, by have := run_endLoop (P := Tryd.prog) hl (by rw [hrec]; simp); rw [hrec] at this; exact this, hstop d _ (hIx hi) ((World.putObj_heap_other (by omega)).trans hk)⟩
end Go.Proofs.YthiplpgkgnebfaaDoor
