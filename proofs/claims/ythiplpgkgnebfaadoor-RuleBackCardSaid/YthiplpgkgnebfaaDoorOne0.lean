/- rule.one: what it answers. -/
import Derived.Test.YthiplpgkgnebfaaDoorForms0
import Derived.Test.YthiplpgkgnebfaaDoorRRight0
import Derived.Deep.RegionHeld3
import Derived.BigRegion
namespace Go.Proofs.YthiplpgkgnebfaaDoor
open Go.RowKit Go.Shelf Go.MapKept Go.Proofs.YthiplpgkgnebfaaDoorW.PrintWords
set_option linter.unusedSimpArgs false
set_option linter.unusedVariables false

/-- What one hands back. -/
def oneV : Option (Int × ByteArray × ByteArray × ByteArray) → Value
  | some (k, g, o, n) => .tuple #[.agg #[.int .i64 k, .string g, .string o, .string n], .bool true]
  | none => .tuple #[.agg #[.int .i64 0, .string ⟨#[]⟩, .string ⟨#[]⟩, .string ⟨#[]⟩], .bool false]

theorem bs_inj {a b : ByteArray} (h : bs a = bs b) : a = b := by
  apply ByteArray.ext; exact Array.toList_inj.1 h
def formM (s : ByteArray) : Option Value := (wordK (bs s)).map fun p => .agg #[.int .i64 p.1, .int .i64 (p.2 : Nat)]
theorem forms_map (w : World) (b : Nat) (hb : w.heap[b]? = some (.map formsEs 5)) : MapAt (strKind Tryd.prog 9 Tryd.underlying9) w b formM := by
  refine ⟨formsEs, 5, hb, ⟨forms_stamps, forms_nodup, by simp [formsEs]⟩, ?_, ?_⟩
  · intro e he
    obtain ⟨k, n, s, hk, _⟩ := forms_mem he
    rw [hk]; trivial
  · intro s v
    constructor
    · intro h
      unfold formM at h
      obtain ⟨⟨k, n⟩, hp, rfl⟩ := Option.map_eq_some_iff.1 h
      unfold wordK at hp
      split at hp
      · rename_i e; cases hp
        obtain rfl : s = ⟨#[114, 101, 112, 108, 97, 99, 101]⟩ := bs_inj e
        exact ⟨_, List.mem_of_getElem? (i := 0) rfl, rfl, rfl⟩
      · split at hp
        · rename_i e; cases hp
          obtain rfl : s = ⟨#[105, 110, 115, 101, 114, 116]⟩ := bs_inj e
          exact ⟨_, List.mem_of_getElem? (i := 1) rfl, rfl, rfl⟩
        · split at hp
          · rename_i e; cases hp
            obtain rfl : s = ⟨#[115, 116, 114, 105, 107, 101]⟩ := bs_inj e
            exact ⟨_, List.mem_of_getElem? (i := 2) rfl, rfl, rfl⟩
          · split at hp
            · rename_i e; cases hp
              obtain rfl : s = ⟨#[114, 101, 110, 97, 109, 101]⟩ := bs_inj e
              exact ⟨_, List.mem_of_getElem? (i := 3) rfl, rfl, rfl⟩
            · split at hp
              · rename_i e; cases hp
                obtain rfl : s = ⟨#[114, 101, 109, 111, 118, 101]⟩ := bs_inj e
                exact ⟨_, List.mem_of_getElem? (i := 4) rfl, rfl, rfl⟩
              · cases hp
    · rintro ⟨e, he, hk, rfl⟩
      simp only [formsEs, List.mem_cons, List.not_mem_nil, or_false] at he
      rcases he with rfl | rfl | rfl | rfl | rfl <;> (have hk : Value.string _ = Value.string s := hk; injection hk with hk; subst hk; rfl)
theorem forms_some (w : World) (b : Nat) (hb : w.heap[b]? = some (.map formsEs 5)) (s : ByteArray) {k : Int} {n : Nat} (h : wordK (bs s) = some (k, n)) :
    (Instr.lookup 82 (.map (some b)) (.string s) true).run Tryd.prog w = .ok (.tuple #[.agg #[.int .i64 k, .int .i64 n], .bool true]) w := by
  have := (forms_map w b hb).lookup (strKind Tryd.prog 9 Tryd.underlying9) Tryd.underlying82 (z := .agg #[.int .i64 0, .int .i64 0]) Tryd.zeroValue80 s true
  rw [show formM s = some (.agg #[.int .i64 k, .int .i64 n]) by unfold formM; rw [h]; rfl] at this
  exact this
theorem forms_none (w : World) (b : Nat) (hb : w.heap[b]? = some (.map formsEs 5)) (s : ByteArray) (h : wordK (bs s) = none) :
    (Instr.lookup 82 (.map (some b)) (.string s) true).run Tryd.prog w = .ok (.tuple #[.agg #[.int .i64 0, .int .i64 0], .bool false]) w := by
  have := (forms_map w b hb).lookup (strKind Tryd.prog 9 Tryd.underlying9) Tryd.underlying82 (z := .agg #[.int .i64 0, .int .i64 0]) Tryd.zeroValue80 s true
  rw [show formM s = none by unfold formM; rw [h]; rfl] at this
  exact this

theorem below_drew {B : Nat} {w w' : World} (h : Below B w.drew w') : Below B w w' := ⟨h.os, h.tape, h.output, h.size, h.block⟩
theorem setc_other {w : World} {p q : Addr} {v u : Value} (hq : q ≠ p) (h : w.cell? q = some u) : (w.setCell p v).cell? q = some u := by
  rw [World.cell?_setCell_other]
  · exact h
  · exact Ne.symm hq
theorem setc_far {w : World} {p q : Addr} {v u : Value} (hq : q.block ≠ p.block) (h : w.cell? q = some u) : (w.setCell p v).cell? q = some u :=
  (World.cell?_of_block (Below.heap_setCell w p v q.block hq)).trans h
def set4 (W : World) (r : Nat) (v0 v1 v2 v3 : Value) : World := (((W.setCell ⟨r, 0, none⟩ v0).setCell ⟨r, 1, none⟩ v1).setCell ⟨r, 2, none⟩ v2).setCell ⟨r, 3, none⟩ v3
theorem set4_cells {W : World} {r : Nat} {u0 u1 u2 u3 : Value} (v0 v1 v2 v3 : Value) (h0 : W.cell? ⟨r, 0, none⟩ = some u0) (h1 : W.cell? ⟨r, 1, none⟩ = some u1) (h2 : W.cell? ⟨r, 2, none⟩ = some u2) (h3 : W.cell? ⟨r, 3, none⟩ = some u3) :
    (set4 W r v0 v1 v2 v3).cell? ⟨r, 0, none⟩ = some v0 ∧ (set4 W r v0 v1 v2 v3).cell? ⟨r, 1, none⟩ = some v1 ∧ (set4 W r v0 v1 v2 v3).cell? ⟨r, 2, none⟩ = some v2 ∧ (set4 W r v0 v1 v2 v3).cell? ⟨r, 3, none⟩ = some v3 := by
  refine ⟨?_, ?_, ?_, ?_⟩
  · exact setc_other (by simp) (setc_other (by simp) (setc_other (by simp) (World.cell?_setCell_same _ _ _ h0)))
  · exact setc_other (by simp) (setc_other (by simp) (World.cell?_setCell_same _ _ _ (setc_other (by simp) h1)))
  · exact setc_other (by simp) (World.cell?_setCell_same _ _ _ (setc_other (by simp) (setc_other (by simp) h2)))
  · exact World.cell?_setCell_same _ _ _ (setc_other (by simp) (setc_other (by simp) (setc_other (by simp) h3)))
theorem set4_far {W : World} {r : Nat} {v0 v1 v2 v3 u : Value} {q : Addr} (hq : q.block ≠ r) (h : W.cell? q = some u) : (set4 W r v0 v1 v2 v3).cell? q = some u :=
  setc_far hq (setc_far hq (setc_far hq (setc_far hq h)))
theorem set4_below {W w : World} {B r : Nat} (v0 v1 v2 v3 : Value) (h : Below B w W) (hr : B ≤ r) : Below B w (set4 W r v0 v1 v2 v3) :=
  (((h.setCell (p := ⟨r, 0, none⟩) hr _).setCell (p := ⟨r, 1, none⟩) hr _).setCell (p := ⟨r, 2, none⟩) hr _).setCell (p := ⟨r, 3, none⟩) hr _
/-- A variable of two numbers that was laid just ahead of a call. -/
theorem kept_two {w w' : World} {a b : Value} {t : TypeId} (h : Below (w.alloc (.cells #[a, b] t)).drew.heap.size (w.alloc (.cells #[a, b] t)).drew w') :
    w'.cell? ⟨w.heap.size, 0, none⟩ = some a ∧ w'.cell? ⟨w.heap.size, 1, none⟩ = some b ∧ w'.frozen? ⟨w.heap.size, 0, none⟩ = false ∧ w'.frozen? ⟨w.heap.size, 1, none⟩ = false := by
  have hl : w.heap.size < (w.alloc (.cells #[a, b] t)).drew.heap.size := by show _ < (w.alloc _).heap.size; simp
  exact ⟨pw_cell h (cell_new w #[a, b] t 0 _ rfl), pw_cell h (cell_new w #[a, b] t 1 _ rfl), (h.frozen hl).trans (frozen_new w #[a, b] t 0), (h.frozen hl).trans (frozen_new w #[a, b] t 1)⟩
theorem quote_ge (t : List UInt8) : t.length ≤ (quoteB t).length := by
  have key : ∀ u : List UInt8, u.length ≤ (u.flatMap encB).length := by
    intro u
    induction u with
    | nil => simp
    | cons c u ih => rw [List.flatMap_cons, List.length_append]; have := enc_len c; simp only [List.length_cons]; omega
  unfold quoteB
  split
  · rename_i h; subst h; simp
  · exact key t
theorem one_results (tmps : Array Value) (r : Nat) (Y : World) (k : Int) (g o n : ByteArray) (bb : Bool) (h2 : tmps[2]? = some (.pointer (some ⟨r, 0, none⟩))) (h3 : tmps[3]? = some (.bool bb))
    (e0 : Y.cell? ⟨r, 0, none⟩ = some (.int .i64 k)) (e1 : Y.cell? ⟨r, 1, none⟩ = some (.string g)) (e2 : Y.cell? ⟨r, 2, none⟩ = some (.string o)) (e3 : Y.cell? ⟨r, 3, none⟩ = some (.string n)) :
    (results Tryd.f28 tmps).run Tryd.prog Y = .ok (.tuple #[.agg #[.int .i64 k, .string g, .string o, .string n], .bool bb]) Y := by
  simp [results, Tryd.results28, go_sem, h2, h3, e0, e1, e2, e3]
/-- What one hands back, of these words. -/
def OneRes (e : Ending) (l : List (List UInt8)) : Prop := ∃ k g o n bb, e = .returned (.tuple #[.agg #[.int .i64 k, .string g, .string o, .string n], .bool bb]) ∧ oneB l = (if bb then some (rv k g o n) else none)
set_option maxRecDepth 100000 in
set_option maxHeartbeats 4000000 in
theorem one_calls (b : Nat) (ws : List ByteArray) (m : Int) (w : World) (hws : ∀ j x, ws[j]? = some x → w.cell? ⟨b, j, none⟩ = some (.string x)) (hne : 0 < ws.length) (hM : w.cell? ⟨2, 0, none⟩ = some (.int .i64 m)) (hE : ErrAt w)
    (hs : ∀ x ∈ ws, x.size ≤ 16384) (hl : ws.length ≤ 9223372036854775807) :
    Calls Tryd.prog 28 #[.slice (some ⟨b, 0, none⟩) ws.length ws.length] w fun e w' => OneRes e (ws.map bs) ∧ Below w.heap.size w w' := by
  obtain ⟨w0, rest, rfl⟩ : ∃ w0 rest, ws = w0 :: rest := by cases ws with | nil => simp at hne | cons a l => exact ⟨a, l, rfl⟩
  have c0 := hws 0 w0 rfl
  have hbl := World.block_lt_of_cell? w _ c0
  have hbl : b < w.heap.size := hbl
  obtain ⟨k0, n0, ib, hlook, hspec⟩ : ∃ (k0 : Int) (n0 : Nat) (ib : Bool), (∀ (W : World) (mb : Nat), W.heap[mb]? = some (.map formsEs 5) → (Instr.lookup 82 (.map (some mb)) (.string w0) true).run Tryd.prog W = .ok (.tuple #[.agg #[.int .i64 k0, .int .i64 n0], .bool ib]) W) ∧ wordK (bs w0) = if ib then some (k0, n0) else none := by
    cases hk : wordK (bs w0) with
    | none => exact ⟨0, 0, false, fun W mb h => forms_none W mb h w0 hk, rfl⟩
    | some p => obtain ⟨k, n⟩ := p; exact ⟨k, n, true, fun W mb h => forms_some W mb h w0 hk, rfl⟩
  have HL := Aside0.mk hlook
  have HS := Aside0.mk hspec
  have HW := Aside0.mk hws
  have HSZ := Aside0.mk hs
  clear hlook hspec hws hs
  go_enter Tryd.func28, Tryd.ntmps28
  go_wp2
  rename_i Q K hK
  have H : ∀ (fb mb : Nat) (W : World), W.cell? ⟨fb, 0, none⟩ = some (.int .i64 k0) → W.cell? ⟨fb, 1, none⟩ = some (.int .i64 n0) → w.heap.size < fb → Below (w.heap.size + 1) (w.alloc (.cells #[.int .i64 0, .string ⟨#[]⟩, .string ⟨#[]⟩, .string ⟨#[]⟩] 35)) W →
      K { tmps := #[.slice (some ⟨b, 0, none⟩) (rest.length + 1) (rest.length + 1), undef, .pointer (some ⟨w.heap.size, 0, none⟩), .bool false, .pointer (some ⟨fb, 0, none⟩), .bool ib, undef, undef, undef,
        .tuple #[.agg #[.int .i64 k0, .int .i64 n0], .bool ib], .map (some mb), .slice (some ⟨b, 0, none⟩) (rest.length + 1) (rest.length + 1), .pointer (some ⟨b, 0, none⟩), .string w0, .tuple #[.agg #[.int .i64 k0, .int .i64 n0], .bool ib], .agg #[.int .i64 k0, .int .i64 n0], .bool ib,
        undef, undef, undef, undef, undef, undef, undef, undef, undef, undef, undef, undef, undef, undef, undef, undef, undef, undef, undef, undef, undef, undef, undef, undef, undef, undef, undef, undef, undef, undef, undef, undef, undef, undef, undef, undef, undef, undef, undef, undef, undef, undef, undef, undef, undef, undef, undef], defers := [] } W := by
    intro fb mb W hf0 hf1 hfb hbW
    have hr0 : W.cell? ⟨w.heap.size, 0, none⟩ = some (.int .i64 0) := hbW.cell (by simp) |>.trans (cell_new w #[.int .i64 0, .string ⟨#[]⟩, .string ⟨#[]⟩, .string ⟨#[]⟩] 35 0 _ rfl)
    have hr1 : W.cell? ⟨w.heap.size, 1, none⟩ = some (.string ⟨#[]⟩) := hbW.cell (by simp) |>.trans (cell_new w #[.int .i64 0, .string ⟨#[]⟩, .string ⟨#[]⟩, .string ⟨#[]⟩] 35 1 _ rfl)
    have hr2 : W.cell? ⟨w.heap.size, 2, none⟩ = some (.string ⟨#[]⟩) := hbW.cell (by simp) |>.trans (cell_new w #[.int .i64 0, .string ⟨#[]⟩, .string ⟨#[]⟩, .string ⟨#[]⟩] 35 2 _ rfl)
    have hr3 : W.cell? ⟨w.heap.size, 3, none⟩ = some (.string ⟨#[]⟩) := hbW.cell (by simp) |>.trans (cell_new w #[.int .i64 0, .string ⟨#[]⟩, .string ⟨#[]⟩, .string ⟨#[]⟩] 35 3 _ rfl)
    have hz0 : W.frozen? ⟨w.heap.size, 0, none⟩ = false := hbW.frozen (by simp) |>.trans (frozen_new w #[.int .i64 0, .string ⟨#[]⟩, .string ⟨#[]⟩, .string ⟨#[]⟩] 35 0)
    have hz1 : W.frozen? ⟨w.heap.size, 1, none⟩ = false := hbW.frozen (by simp) |>.trans (frozen_new w #[.int .i64 0, .string ⟨#[]⟩, .string ⟨#[]⟩, .string ⟨#[]⟩] 35 1)
    have hz2 : W.frozen? ⟨w.heap.size, 2, none⟩ = false := hbW.frozen (by simp) |>.trans (frozen_new w #[.int .i64 0, .string ⟨#[]⟩, .string ⟨#[]⟩, .string ⟨#[]⟩] 35 2)
    have hz3 : W.frozen? ⟨w.heap.size, 3, none⟩ = false := hbW.frozen (by simp) |>.trans (frozen_new w #[.int .i64 0, .string ⟨#[]⟩, .string ⟨#[]⟩, .string ⟨#[]⟩] 35 3)
    have hbw0 : Below w.heap.size w W := ((Below.refl _ w).alloc (Nat.le_refl _) _).trans (hbW.mono (by omega))
    have HBW := Aside0.mk hbw0
    have hEW : Aside0 (ErrAt W) := ⟨hE.below hbw0⟩
    have hszW : w.heap.size + 1 ≤ W.heap.size := by have := hbW.size; simpa using this
    clear hbw0
    refine hK _ _ ?_
    cases ib with
    | false =>
      have HN := Aside0.mk (show oneB ((w0 :: rest).map bs) = none by unfold oneB; rw [show wordK (((w0 :: rest).map bs).headD []) = none from HS.out])
      go_wp2
      refine bodyPost_ret (v := .tuple #[.agg #[.int .i64 0, .string ⟨#[]⟩, .string ⟨#[]⟩, .string ⟨#[]⟩], .bool false]) ?_ rfl ⟨⟨0, ⟨#[]⟩, ⟨#[]⟩, ⟨#[]⟩, false, rfl, HN.out⟩, ?_⟩
      · obtain ⟨e0, e1, e2, e3⟩ := set4_cells (.int .i64 0) (.string ⟨#[]⟩) (.string ⟨#[]⟩) (.string ⟨#[]⟩) hr0 hr1 hr2 hr3
        exact one_results _ _ _ _ _ _ _ _ rfl rfl e0 e1 e2 e3
      · exact set4_below _ _ _ _ HBW.out (Nat.le_refl _)
    | true =>
      have hwk : wordK (bs w0) = some (k0, n0) := HS.out
      have hn2 := wordK_le hwk
      by_cases hlen : rest.length = n0 + 1
      · have HWK := Aside0.mk hwk
        clear hwk
        obtain ⟨w1, rest, rfl⟩ : ∃ w1 r, rest = w1 :: r := by cases rest with | nil => simp at hlen | cons a l => exact ⟨a, l, rfl⟩
        simp only [List.length_cons] at hlen
        have c1 : W.cell? ⟨b, 1, none⟩ = some (.string w1) := (hbW.cell (by show b < w.heap.size + 1; omega)).trans (cell_old _ (HW.out 1 w1 rfl))
        have hmW : W.cell? ⟨2, 0, none⟩ = some (.int .i64 m) := (hbW.cell (Nat.lt_succ_of_lt (World.block_lt_of_cell? w _ hM))).trans (cell_old _ hM)
        have hbW1 : b < W.heap.size := by omega
        have hfW := World.block_lt_of_cell? W _ hf0
        have hfW : fb < W.heap.size := hfW
        rcases (by omega : n0 = 0 ∨ n0 = 1 ∨ n0 = 2) with rfl | rfl | rfl
        · obtain rfl : rest = [] := List.eq_nil_of_length_eq_zero (by omega)
          go_wp2
          go_region
          go_wp2
          refine wp_loop_once ?_
          go_wp2
          have xm := cell_old (.cells #[.pointer (some ⟨W.heap.size, 2, none⟩), .pointer (some ⟨W.heap.size, 3, none⟩)] 85) (cell_old (.cells #[.int .i64 k0, .string w1, .string ⟨#[]⟩, .string ⟨#[]⟩] 35) hmW)
          have xr0 := cell_old (.cells #[.pointer (some ⟨W.heap.size, 2, none⟩), .pointer (some ⟨W.heap.size, 3, none⟩)] 85) (cell_old (.cells #[.int .i64 k0, .string w1, .string ⟨#[]⟩, .string ⟨#[]⟩] 35) hr0)
          have xz0 := frozen_old (.cells #[.pointer (some ⟨W.heap.size, 2, none⟩), .pointer (some ⟨W.heap.size, 3, none⟩)] 85) (World.block_lt_of_cell? _ _ (cell_old (.cells #[.int .i64 k0, .string w1, .string ⟨#[]⟩, .string ⟨#[]⟩] 35) hr0)) (frozen_old (.cells #[.int .i64 k0, .string w1, .string ⟨#[]⟩, .string ⟨#[]⟩] 35) (World.block_lt_of_cell? _ _ hr0) hz0)
          have xs0 := cell_old (.cells #[.pointer (some ⟨W.heap.size, 2, none⟩), .pointer (some ⟨W.heap.size, 3, none⟩)] 85) (cell_new W #[.int .i64 k0, .string w1, .string ⟨#[]⟩, .string ⟨#[]⟩] 35 0 _ rfl)
          have xr1 := cell_old (.cells #[.pointer (some ⟨W.heap.size, 2, none⟩), .pointer (some ⟨W.heap.size, 3, none⟩)] 85) (cell_old (.cells #[.int .i64 k0, .string w1, .string ⟨#[]⟩, .string ⟨#[]⟩] 35) hr1)
          have xz1 := frozen_old (.cells #[.pointer (some ⟨W.heap.size, 2, none⟩), .pointer (some ⟨W.heap.size, 3, none⟩)] 85) (World.block_lt_of_cell? _ _ (cell_old (.cells #[.int .i64 k0, .string w1, .string ⟨#[]⟩, .string ⟨#[]⟩] 35) hr1)) (frozen_old (.cells #[.int .i64 k0, .string w1, .string ⟨#[]⟩, .string ⟨#[]⟩] 35) (World.block_lt_of_cell? _ _ hr1) hz1)
          have xs1 := cell_old (.cells #[.pointer (some ⟨W.heap.size, 2, none⟩), .pointer (some ⟨W.heap.size, 3, none⟩)] 85) (cell_new W #[.int .i64 k0, .string w1, .string ⟨#[]⟩, .string ⟨#[]⟩] 35 1 _ rfl)
          have xr2 := cell_old (.cells #[.pointer (some ⟨W.heap.size, 2, none⟩), .pointer (some ⟨W.heap.size, 3, none⟩)] 85) (cell_old (.cells #[.int .i64 k0, .string w1, .string ⟨#[]⟩, .string ⟨#[]⟩] 35) hr2)
          have xz2 := frozen_old (.cells #[.pointer (some ⟨W.heap.size, 2, none⟩), .pointer (some ⟨W.heap.size, 3, none⟩)] 85) (World.block_lt_of_cell? _ _ (cell_old (.cells #[.int .i64 k0, .string w1, .string ⟨#[]⟩, .string ⟨#[]⟩] 35) hr2)) (frozen_old (.cells #[.int .i64 k0, .string w1, .string ⟨#[]⟩, .string ⟨#[]⟩] 35) (World.block_lt_of_cell? _ _ hr2) hz2)
          have xs2 := cell_old (.cells #[.pointer (some ⟨W.heap.size, 2, none⟩), .pointer (some ⟨W.heap.size, 3, none⟩)] 85) (cell_new W #[.int .i64 k0, .string w1, .string ⟨#[]⟩, .string ⟨#[]⟩] 35 2 _ rfl)
          have xr3 := cell_old (.cells #[.pointer (some ⟨W.heap.size, 2, none⟩), .pointer (some ⟨W.heap.size, 3, none⟩)] 85) (cell_old (.cells #[.int .i64 k0, .string w1, .string ⟨#[]⟩, .string ⟨#[]⟩] 35) hr3)
          have xz3 := frozen_old (.cells #[.pointer (some ⟨W.heap.size, 2, none⟩), .pointer (some ⟨W.heap.size, 3, none⟩)] 85) (World.block_lt_of_cell? _ _ (cell_old (.cells #[.int .i64 k0, .string w1, .string ⟨#[]⟩, .string ⟨#[]⟩] 35) hr3)) (frozen_old (.cells #[.int .i64 k0, .string w1, .string ⟨#[]⟩, .string ⟨#[]⟩] 35) (World.block_lt_of_cell? _ _ hr3) hz3)
          have xs3 := cell_old (.cells #[.pointer (some ⟨W.heap.size, 2, none⟩), .pointer (some ⟨W.heap.size, 3, none⟩)] 85) (cell_new W #[.int .i64 k0, .string w1, .string ⟨#[]⟩, .string ⟨#[]⟩] 35 3 _ rfl)
          have hXs : w.heap.size ≤ ((W.alloc (.cells #[.int .i64 k0, .string w1, .string ⟨#[]⟩, .string ⟨#[]⟩] 35)).alloc (.cells #[.pointer (some ⟨W.heap.size, 2, none⟩), .pointer (some ⟨W.heap.size, 3, none⟩)] 85)).heap.size := by rw [World.size_alloc, World.size_alloc]; omega
          have hWw : W.heap.size ≠ w.heap.size := by omega
          have hg1 : w1.size < 4294967281 := by have := HSZ.out w1 (by simp); omega
          have ho1 : (⟨#[]⟩ : ByteArray).size < 4294967281 := by decide
          have hn1 : (⟨#[]⟩ : ByteArray).size < 4294967281 := by decide
          go_region_held3 (fun U => U.cell? ⟨W.heap.size, 0, none⟩ = some (.int .i64 k0) ∧ U.cell? ⟨W.heap.size, 1, none⟩ = some (.string w1) ∧ U.cell? ⟨W.heap.size, 2, none⟩ = some (.string ⟨#[]⟩) ∧ U.cell? ⟨W.heap.size, 3, none⟩ = some (.string ⟨#[]⟩)) (first | exact ⟨s0, s1, s2, s3⟩ | exact ⟨(setc_far hWw (setc_far hWw (setc_far hWw (setc_far hWw s0)))), (setc_far hWw (setc_far hWw (setc_far hWw (setc_far hWw s1)))), (setc_far hWw (setc_far hWw (setc_far hWw (setc_far hWw s2)))), (setc_far hWw (setc_far hWw (setc_far hWw (setc_far hWw s3))))⟩ | exact ⟨xs0, xs1, xs2, xs3⟩) (first | (go_at_call 24; refine (rright_calls k0 w1 ⟨#[]⟩ ⟨#[]⟩ m _ ?hm hg1 ho1 hn1).mono ?_; (case hm => exact xm); rintro e w5 ⟨rfl, hb5⟩; have g0 := pw_cell hb5 xr0; have g1 := pw_cell hb5 xr1; have g2 := pw_cell hb5 xr2; have g3 := pw_cell hb5 xr3; have y0 := (hb5.frozen (World.block_lt_of_cell? _ _ xr0)).trans xz0; have y1 := (hb5.frozen (World.block_lt_of_cell? _ _ xr1)).trans xz1; have y2 := (hb5.frozen (World.block_lt_of_cell? _ _ xr2)).trans xz2; have y3 := (hb5.frozen (World.block_lt_of_cell? _ _ xr3)).trans xz3; have s0 := pw_cell hb5 xs0; have s1 := pw_cell hb5 xs1; have s2 := pw_cell hb5 xs2; have s3 := pw_cell hb5 xs3; have HB5 := Aside0.mk hb5))
          go_wp2
          refine bodyPost_ret (v := .tuple #[.agg #[.int .i64 k0, .string w1, .string ⟨#[]⟩, .string ⟨#[]⟩], .bool (rightB (rv k0 w1 ⟨#[]⟩ ⟨#[]⟩))]) ?_ rfl ⟨⟨k0, w1, ⟨#[]⟩, ⟨#[]⟩, rightB (rv k0 w1 ⟨#[]⟩ ⟨#[]⟩), rfl, ?_⟩, ?_⟩
          · obtain ⟨e0, e1, e2, e3⟩ := set4_cells (.int .i64 k0) (.string w1) (.string ⟨#[]⟩) (.string ⟨#[]⟩) g0 g1 g2 g3
            exact one_results _ _ _ _ _ _ _ _ rfl rfl e0 e1 e2 e3
          · show oneB [bs w0, bs w1] = _
            unfold oneB
            rw [show wordK ([bs w0, bs w1].headD []) = some (k0, 0) from HWK.out]
            rfl
          · exact set4_below _ _ _ _ ((((HBW.out.alloc (by omega) _).alloc (by rw [World.size_alloc]; omega) _)).trans ((below_drew (below_drew HB5.out)).mono hXs)) (Nat.le_refl _)
        · obtain ⟨w2, rfl⟩ : ∃ w2, rest = [w2] := by match rest, hlen with | [a], _ => exact ⟨a, rfl⟩
          have c2 : W.cell? ⟨b, 2, none⟩ = some (.string w2) := (hbW.cell (by show b < w.heap.size + 1; omega)).trans (cell_old _ (HW.out 2 w2 rfl))
          go_wp2
          go_region
          go_wp2
          have hbX0 : Below w.heap.size w ((W.alloc (Obj.cells #[.int .i64 k0, .string w1, .string ⟨#[]⟩, .string ⟨#[]⟩] 35)).alloc (Obj.cells #[.pointer (some ⟨W.heap.size, 2, none⟩), .pointer (some ⟨W.heap.size, 3, none⟩)] 85)).drew := ((HBW.out.alloc (by omega) _).alloc (by rw [World.size_alloc]; omega) _).drew
          have hsX : ((W.alloc (Obj.cells #[.int .i64 k0, .string w1, .string ⟨#[]⟩, .string ⟨#[]⟩] 35)).alloc (Obj.cells #[.pointer (some ⟨W.heap.size, 2, none⟩), .pointer (some ⟨W.heap.size, 3, none⟩)] 85)).drew.heap.size = W.heap.size + 2 := by show ((W.alloc (Obj.cells #[.int .i64 k0, .string w1, .string ⟨#[]⟩, .string ⟨#[]⟩] 35)).alloc (Obj.cells #[.pointer (some ⟨W.heap.size, 2, none⟩), .pointer (some ⟨W.heap.size, 3, none⟩)] 85)).heap.size = _; rw [World.size_alloc, World.size_alloc]
          have xm : ((W.alloc (Obj.cells #[.int .i64 k0, .string w1, .string ⟨#[]⟩, .string ⟨#[]⟩] 35)).alloc (Obj.cells #[.pointer (some ⟨W.heap.size, 2, none⟩), .pointer (some ⟨W.heap.size, 3, none⟩)] 85)).drew.cell? ⟨2, 0, none⟩ = some (.int .i64 m) := cell_old (Obj.cells #[.pointer (some ⟨W.heap.size, 2, none⟩), .pointer (some ⟨W.heap.size, 3, none⟩)] 85) (cell_old (Obj.cells #[.int .i64 k0, .string w1, .string ⟨#[]⟩, .string ⟨#[]⟩] 35) hmW)
          have xc : ((W.alloc (Obj.cells #[.int .i64 k0, .string w1, .string ⟨#[]⟩, .string ⟨#[]⟩] 35)).alloc (Obj.cells #[.pointer (some ⟨W.heap.size, 2, none⟩), .pointer (some ⟨W.heap.size, 3, none⟩)] 85)).drew.cell? ⟨b, 2, none⟩ = some (.string w2) := cell_old (Obj.cells #[.pointer (some ⟨W.heap.size, 2, none⟩), .pointer (some ⟨W.heap.size, 3, none⟩)] 85) (cell_old (Obj.cells #[.int .i64 k0, .string w1, .string ⟨#[]⟩, .string ⟨#[]⟩] 35) c2)
          have xp0 : ((W.alloc (Obj.cells #[.int .i64 k0, .string w1, .string ⟨#[]⟩, .string ⟨#[]⟩] 35)).alloc (Obj.cells #[.pointer (some ⟨W.heap.size, 2, none⟩), .pointer (some ⟨W.heap.size, 3, none⟩)] 85)).drew.cell? ⟨W.heap.size + 1, 0, none⟩ = some (.pointer (some ⟨W.heap.size, 2, none⟩)) := by
            have := cell_new (W.alloc (Obj.cells #[.int .i64 k0, .string w1, .string ⟨#[]⟩, .string ⟨#[]⟩] 35)) #[.pointer (some ⟨W.heap.size, 2, none⟩), .pointer (some ⟨W.heap.size, 3, none⟩)] 85 0 _ rfl
            rw [World.size_alloc] at this; exact this
          have xp1 : ((W.alloc (Obj.cells #[.int .i64 k0, .string w1, .string ⟨#[]⟩, .string ⟨#[]⟩] 35)).alloc (Obj.cells #[.pointer (some ⟨W.heap.size, 2, none⟩), .pointer (some ⟨W.heap.size, 3, none⟩)] 85)).drew.cell? ⟨W.heap.size + 1, 1, none⟩ = some (.pointer (some ⟨W.heap.size, 3, none⟩)) := by
            have := cell_new (W.alloc (Obj.cells #[.int .i64 k0, .string w1, .string ⟨#[]⟩, .string ⟨#[]⟩] 35)) #[.pointer (some ⟨W.heap.size, 2, none⟩), .pointer (some ⟨W.heap.size, 3, none⟩)] 85 1 _ rfl
            rw [World.size_alloc] at this; exact this
          have xr0 := show ((W.alloc (Obj.cells #[.int .i64 k0, .string w1, .string ⟨#[]⟩, .string ⟨#[]⟩] 35)).alloc (Obj.cells #[.pointer (some ⟨W.heap.size, 2, none⟩), .pointer (some ⟨W.heap.size, 3, none⟩)] 85)).drew.cell? ⟨w.heap.size, 0, none⟩ = some _ from cell_old (Obj.cells #[.pointer (some ⟨W.heap.size, 2, none⟩), .pointer (some ⟨W.heap.size, 3, none⟩)] 85) (cell_old (Obj.cells #[.int .i64 k0, .string w1, .string ⟨#[]⟩, .string ⟨#[]⟩] 35) hr0)
          have xz0 := show ((W.alloc (Obj.cells #[.int .i64 k0, .string w1, .string ⟨#[]⟩, .string ⟨#[]⟩] 35)).alloc (Obj.cells #[.pointer (some ⟨W.heap.size, 2, none⟩), .pointer (some ⟨W.heap.size, 3, none⟩)] 85)).drew.frozen? ⟨w.heap.size, 0, none⟩ = false from frozen_old (Obj.cells #[.pointer (some ⟨W.heap.size, 2, none⟩), .pointer (some ⟨W.heap.size, 3, none⟩)] 85) (World.block_lt_of_cell? _ _ (cell_old (Obj.cells #[.int .i64 k0, .string w1, .string ⟨#[]⟩, .string ⟨#[]⟩] 35) hr0)) (frozen_old (Obj.cells #[.int .i64 k0, .string w1, .string ⟨#[]⟩, .string ⟨#[]⟩] 35) (World.block_lt_of_cell? _ _ hr0) hz0)
          have xs0 := show ((W.alloc (Obj.cells #[.int .i64 k0, .string w1, .string ⟨#[]⟩, .string ⟨#[]⟩] 35)).alloc (Obj.cells #[.pointer (some ⟨W.heap.size, 2, none⟩), .pointer (some ⟨W.heap.size, 3, none⟩)] 85)).drew.cell? ⟨W.heap.size, 0, none⟩ = some _ from cell_old (Obj.cells #[.pointer (some ⟨W.heap.size, 2, none⟩), .pointer (some ⟨W.heap.size, 3, none⟩)] 85) (cell_new W #[.int .i64 k0, .string w1, .string ⟨#[]⟩, .string ⟨#[]⟩] 35 0 _ rfl)
          have xq0 := show ((W.alloc (Obj.cells #[.int .i64 k0, .string w1, .string ⟨#[]⟩, .string ⟨#[]⟩] 35)).alloc (Obj.cells #[.pointer (some ⟨W.heap.size, 2, none⟩), .pointer (some ⟨W.heap.size, 3, none⟩)] 85)).drew.frozen? ⟨W.heap.size, 0, none⟩ = false from frozen_old (Obj.cells #[.pointer (some ⟨W.heap.size, 2, none⟩), .pointer (some ⟨W.heap.size, 3, none⟩)] 85) (by show W.heap.size < _; rw [World.size_alloc]; omega) (frozen_new W #[.int .i64 k0, .string w1, .string ⟨#[]⟩, .string ⟨#[]⟩] 35 0)
          have xr1 := show ((W.alloc (Obj.cells #[.int .i64 k0, .string w1, .string ⟨#[]⟩, .string ⟨#[]⟩] 35)).alloc (Obj.cells #[.pointer (some ⟨W.heap.size, 2, none⟩), .pointer (some ⟨W.heap.size, 3, none⟩)] 85)).drew.cell? ⟨w.heap.size, 1, none⟩ = some _ from cell_old (Obj.cells #[.pointer (some ⟨W.heap.size, 2, none⟩), .pointer (some ⟨W.heap.size, 3, none⟩)] 85) (cell_old (Obj.cells #[.int .i64 k0, .string w1, .string ⟨#[]⟩, .string ⟨#[]⟩] 35) hr1)
          have xz1 := show ((W.alloc (Obj.cells #[.int .i64 k0, .string w1, .string ⟨#[]⟩, .string ⟨#[]⟩] 35)).alloc (Obj.cells #[.pointer (some ⟨W.heap.size, 2, none⟩), .pointer (some ⟨W.heap.size, 3, none⟩)] 85)).drew.frozen? ⟨w.heap.size, 1, none⟩ = false from frozen_old (Obj.cells #[.pointer (some ⟨W.heap.size, 2, none⟩), .pointer (some ⟨W.heap.size, 3, none⟩)] 85) (World.block_lt_of_cell? _ _ (cell_old (Obj.cells #[.int .i64 k0, .string w1, .string ⟨#[]⟩, .string ⟨#[]⟩] 35) hr1)) (frozen_old (Obj.cells #[.int .i64 k0, .string w1, .string ⟨#[]⟩, .string ⟨#[]⟩] 35) (World.block_lt_of_cell? _ _ hr1) hz1)
          have xs1 := show ((W.alloc (Obj.cells #[.int .i64 k0, .string w1, .string ⟨#[]⟩, .string ⟨#[]⟩] 35)).alloc (Obj.cells #[.pointer (some ⟨W.heap.size, 2, none⟩), .pointer (some ⟨W.heap.size, 3, none⟩)] 85)).drew.cell? ⟨W.heap.size, 1, none⟩ = some _ from cell_old (Obj.cells #[.pointer (some ⟨W.heap.size, 2, none⟩), .pointer (some ⟨W.heap.size, 3, none⟩)] 85) (cell_new W #[.int .i64 k0, .string w1, .string ⟨#[]⟩, .string ⟨#[]⟩] 35 1 _ rfl)
          have xq1 := show ((W.alloc (Obj.cells #[.int .i64 k0, .string w1, .string ⟨#[]⟩, .string ⟨#[]⟩] 35)).alloc (Obj.cells #[.pointer (some ⟨W.heap.size, 2, none⟩), .pointer (some ⟨W.heap.size, 3, none⟩)] 85)).drew.frozen? ⟨W.heap.size, 1, none⟩ = false from frozen_old (Obj.cells #[.pointer (some ⟨W.heap.size, 2, none⟩), .pointer (some ⟨W.heap.size, 3, none⟩)] 85) (by show W.heap.size < _; rw [World.size_alloc]; omega) (frozen_new W #[.int .i64 k0, .string w1, .string ⟨#[]⟩, .string ⟨#[]⟩] 35 1)
          have xr2 := show ((W.alloc (Obj.cells #[.int .i64 k0, .string w1, .string ⟨#[]⟩, .string ⟨#[]⟩] 35)).alloc (Obj.cells #[.pointer (some ⟨W.heap.size, 2, none⟩), .pointer (some ⟨W.heap.size, 3, none⟩)] 85)).drew.cell? ⟨w.heap.size, 2, none⟩ = some _ from cell_old (Obj.cells #[.pointer (some ⟨W.heap.size, 2, none⟩), .pointer (some ⟨W.heap.size, 3, none⟩)] 85) (cell_old (Obj.cells #[.int .i64 k0, .string w1, .string ⟨#[]⟩, .string ⟨#[]⟩] 35) hr2)
          have xz2 := show ((W.alloc (Obj.cells #[.int .i64 k0, .string w1, .string ⟨#[]⟩, .string ⟨#[]⟩] 35)).alloc (Obj.cells #[.pointer (some ⟨W.heap.size, 2, none⟩), .pointer (some ⟨W.heap.size, 3, none⟩)] 85)).drew.frozen? ⟨w.heap.size, 2, none⟩ = false from frozen_old (Obj.cells #[.pointer (some ⟨W.heap.size, 2, none⟩), .pointer (some ⟨W.heap.size, 3, none⟩)] 85) (World.block_lt_of_cell? _ _ (cell_old (Obj.cells #[.int .i64 k0, .string w1, .string ⟨#[]⟩, .string ⟨#[]⟩] 35) hr2)) (frozen_old (Obj.cells #[.int .i64 k0, .string w1, .string ⟨#[]⟩, .string ⟨#[]⟩] 35) (World.block_lt_of_cell? _ _ hr2) hz2)
          have xs2 := show ((W.alloc (Obj.cells #[.int .i64 k0, .string w1, .string ⟨#[]⟩, .string ⟨#[]⟩] 35)).alloc (Obj.cells #[.pointer (some ⟨W.heap.size, 2, none⟩), .pointer (some ⟨W.heap.size, 3, none⟩)] 85)).drew.cell? ⟨W.heap.size, 2, none⟩ = some _ from cell_old (Obj.cells #[.pointer (some ⟨W.heap.size, 2, none⟩), .pointer (some ⟨W.heap.size, 3, none⟩)] 85) (cell_new W #[.int .i64 k0, .string w1, .string ⟨#[]⟩, .string ⟨#[]⟩] 35 2 _ rfl)
          have xq2 := show ((W.alloc (Obj.cells #[.int .i64 k0, .string w1, .string ⟨#[]⟩, .string ⟨#[]⟩] 35)).alloc (Obj.cells #[.pointer (some ⟨W.heap.size, 2, none⟩), .pointer (some ⟨W.heap.size, 3, none⟩)] 85)).drew.frozen? ⟨W.heap.size, 2, none⟩ = false from frozen_old (Obj.cells #[.pointer (some ⟨W.heap.size, 2, none⟩), .pointer (some ⟨W.heap.size, 3, none⟩)] 85) (by show W.heap.size < _; rw [World.size_alloc]; omega) (frozen_new W #[.int .i64 k0, .string w1, .string ⟨#[]⟩, .string ⟨#[]⟩] 35 2)
          have xr3 := show ((W.alloc (Obj.cells #[.int .i64 k0, .string w1, .string ⟨#[]⟩, .string ⟨#[]⟩] 35)).alloc (Obj.cells #[.pointer (some ⟨W.heap.size, 2, none⟩), .pointer (some ⟨W.heap.size, 3, none⟩)] 85)).drew.cell? ⟨w.heap.size, 3, none⟩ = some _ from cell_old (Obj.cells #[.pointer (some ⟨W.heap.size, 2, none⟩), .pointer (some ⟨W.heap.size, 3, none⟩)] 85) (cell_old (Obj.cells #[.int .i64 k0, .string w1, .string ⟨#[]⟩, .string ⟨#[]⟩] 35) hr3)
          have xz3 := show ((W.alloc (Obj.cells #[.int .i64 k0, .string w1, .string ⟨#[]⟩, .string ⟨#[]⟩] 35)).alloc (Obj.cells #[.pointer (some ⟨W.heap.size, 2, none⟩), .pointer (some ⟨W.heap.size, 3, none⟩)] 85)).drew.frozen? ⟨w.heap.size, 3, none⟩ = false from frozen_old (Obj.cells #[.pointer (some ⟨W.heap.size, 2, none⟩), .pointer (some ⟨W.heap.size, 3, none⟩)] 85) (World.block_lt_of_cell? _ _ (cell_old (Obj.cells #[.int .i64 k0, .string w1, .string ⟨#[]⟩, .string ⟨#[]⟩] 35) hr3)) (frozen_old (Obj.cells #[.int .i64 k0, .string w1, .string ⟨#[]⟩, .string ⟨#[]⟩] 35) (World.block_lt_of_cell? _ _ hr3) hz3)
          have xs3 := show ((W.alloc (Obj.cells #[.int .i64 k0, .string w1, .string ⟨#[]⟩, .string ⟨#[]⟩] 35)).alloc (Obj.cells #[.pointer (some ⟨W.heap.size, 2, none⟩), .pointer (some ⟨W.heap.size, 3, none⟩)] 85)).drew.cell? ⟨W.heap.size, 3, none⟩ = some _ from cell_old (Obj.cells #[.pointer (some ⟨W.heap.size, 2, none⟩), .pointer (some ⟨W.heap.size, 3, none⟩)] 85) (cell_new W #[.int .i64 k0, .string w1, .string ⟨#[]⟩, .string ⟨#[]⟩] 35 3 _ rfl)
          have xq3 := show ((W.alloc (Obj.cells #[.int .i64 k0, .string w1, .string ⟨#[]⟩, .string ⟨#[]⟩] 35)).alloc (Obj.cells #[.pointer (some ⟨W.heap.size, 2, none⟩), .pointer (some ⟨W.heap.size, 3, none⟩)] 85)).drew.frozen? ⟨W.heap.size, 3, none⟩ = false from frozen_old (Obj.cells #[.pointer (some ⟨W.heap.size, 2, none⟩), .pointer (some ⟨W.heap.size, 3, none⟩)] 85) (by show W.heap.size < _; rw [World.size_alloc]; omega) (frozen_new W #[.int .i64 k0, .string w1, .string ⟨#[]⟩, .string ⟨#[]⟩] 35 3)
          obtain ⟨X, hX⟩ : ∃ X, X = ((W.alloc (Obj.cells #[.int .i64 k0, .string w1, .string ⟨#[]⟩, .string ⟨#[]⟩] 35)).alloc (Obj.cells #[.pointer (some ⟨W.heap.size, 2, none⟩), .pointer (some ⟨W.heap.size, 3, none⟩)] 85)).drew := ⟨_, rfl⟩
          simp only [← hX] at hbX0 hsX xm xc xp0 xp1 xr0 xr1 xr2 xr3 xz0 xz1 xz2 xz3 xs0 xs1 xs2 xs3 xq0 xq1 xq2 xq3 ⊢
          clear hX
          have HBX := Aside0.mk hbX0
          have hwW : w.heap.size ≠ W.heap.size := by omega
          have HEX := Aside0.mk (hE.below hbX0)
          clear hbX0
          refine wp_loop_rounds 2 ?_
          rw [rounds_succ]
          have hw2 : w2.size ≤ 4611686018427 := by have := HSZ.out w2 (by simp); omega
          cases hu : unqB (bs w2) with
          | none =>
            have HU := Aside0.mk hu
            clear hu
            have HN := Aside0.mk (show oneB ([w0, w1, w2].map bs) = none by
              unfold oneB
              rw [show wordK (([w0, w1, w2].map bs).headD []) = some (k0, 1) from HWK.out]
              dsimp only
              rw [if_pos (by simp), if_neg (by decide), show unqB (([w0, w1, w2].map bs).getD 2 []) = none from HU.out])
            go_wp2_with fail
            refine (unquote_calls w2 _ HEX.out hw2).mono ?_
            rintro e w6 ⟨rfl, hb6⟩
            rw [HU.out]
            simp only [unqV]
            have vs0 := pw_cell hb6 xs0
            have vr0 := pw_cell hb6 xr0
            have vq0 := (hb6.frozen (World.block_lt_of_cell? _ _ xs0)).trans xq0
            have vz0 := (hb6.frozen (World.block_lt_of_cell? _ _ xr0)).trans xz0
            have vs1 := pw_cell hb6 xs1
            have vr1 := pw_cell hb6 xr1
            have vq1 := (hb6.frozen (World.block_lt_of_cell? _ _ xs1)).trans xq1
            have vz1 := (hb6.frozen (World.block_lt_of_cell? _ _ xr1)).trans xz1
            have vs2 := pw_cell hb6 xs2
            have vr2 := pw_cell hb6 xr2
            have vq2 := (hb6.frozen (World.block_lt_of_cell? _ _ xs2)).trans xq2
            have vz2 := (hb6.frozen (World.block_lt_of_cell? _ _ xr2)).trans xz2
            have vs3 := pw_cell hb6 xs3
            have vr3 := pw_cell hb6 xr3
            have vq3 := (hb6.frozen (World.block_lt_of_cell? _ _ xs3)).trans xq3
            have vz3 := (hb6.frozen (World.block_lt_of_cell? _ _ xr3)).trans xz3
            have HB6 := Aside0.mk hb6
            go_wp2
            refine bodyPost_ret (v := .tuple #[.agg #[.int .i64 0, .string ⟨#[]⟩, .string ⟨#[]⟩, .string ⟨#[]⟩], .bool false]) ?_ rfl ⟨⟨0, ⟨#[]⟩, ⟨#[]⟩, ⟨#[]⟩, false, rfl, HN.out⟩, ?_⟩
            · obtain ⟨e0, e1, e2, e3⟩ := set4_cells (.int .i64 0) (.string ⟨#[]⟩) (.string ⟨#[]⟩) (.string ⟨#[]⟩) (setc_far (p := ⟨W.heap.size, 2, none⟩) (v := .string ⟨#[]⟩) hwW vr0) (setc_far (p := ⟨W.heap.size, 2, none⟩) (v := .string ⟨#[]⟩) hwW vr1) (setc_far (p := ⟨W.heap.size, 2, none⟩) (v := .string ⟨#[]⟩) hwW vr2) (setc_far (p := ⟨W.heap.size, 2, none⟩) (v := .string ⟨#[]⟩) hwW vr3)
              exact one_results _ _ _ _ _ _ _ _ rfl rfl e0 e1 e2 e3
            · exact set4_below _ _ _ _ ((HBX.out.trans (HB6.out.mono (by omega))).setCell (p := ⟨W.heap.size, 2, none⟩) (by show w.heap.size ≤ W.heap.size; omega) _) (Nat.le_refl _)
          | some t =>
            have HU := Aside0.mk hu
            have hts : t.length ≤ 16384 := by
              have h1 := quote_ge t
              rw [unqB_some.1 hu] at h1
              have := HSZ.out w2 (by simp); simp [bs] at h1; omega
            clear hu
            go_wp2_with fail
            refine (unquote_calls w2 _ HEX.out hw2).mono ?_
            rintro e w6 ⟨rfl, hb6⟩
            rw [HU.out]
            simp only [unqV]
            have vs0 := pw_cell hb6 xs0
            have vr0 := pw_cell hb6 xr0
            have vq0 := (hb6.frozen (World.block_lt_of_cell? _ _ xs0)).trans xq0
            have vz0 := (hb6.frozen (World.block_lt_of_cell? _ _ xr0)).trans xz0
            have vs1 := pw_cell hb6 xs1
            have vr1 := pw_cell hb6 xr1
            have vq1 := (hb6.frozen (World.block_lt_of_cell? _ _ xs1)).trans xq1
            have vz1 := (hb6.frozen (World.block_lt_of_cell? _ _ xr1)).trans xz1
            have vs2 := pw_cell hb6 xs2
            have vr2 := pw_cell hb6 xr2
            have vq2 := (hb6.frozen (World.block_lt_of_cell? _ _ xs2)).trans xq2
            have vz2 := (hb6.frozen (World.block_lt_of_cell? _ _ xr2)).trans xz2
            have vs3 := pw_cell hb6 xs3
            have vr3 := pw_cell hb6 xr3
            have vq3 := (hb6.frozen (World.block_lt_of_cell? _ _ xs3)).trans xq3
            have vz3 := (hb6.frozen (World.block_lt_of_cell? _ _ xr3)).trans xz3
            have HB6 := Aside0.mk hb6
            go_wp2
            rw [rounds_succ]
            go_wp2
            have hWw : W.heap.size ≠ w.heap.size := by omega
            have xm := setc_far (p := ⟨W.heap.size, 2, none⟩) (v := .string ⟨t.toArray⟩) (by show 2 ≠ W.heap.size; have := World.block_lt_of_cell? _ _ hmW; intro e; have h2 : (2 : Nat) < W.heap.size := this; omega) (pw_cell hb6 xm)
            have xs0 := setc_other (p := ⟨W.heap.size, 2, none⟩) (v := .string ⟨t.toArray⟩) (by simp) vs0
            have xs1 := setc_other (p := ⟨W.heap.size, 2, none⟩) (v := .string ⟨t.toArray⟩) (by simp) vs1
            have xs2 : (w6.setCell ⟨W.heap.size, 2, none⟩ (.string ⟨t.toArray⟩)).cell? ⟨W.heap.size, 2, none⟩ = some (.string ⟨t.toArray⟩) := World.cell?_setCell_same _ _ _ vs2
            have xs3 := setc_other (p := ⟨W.heap.size, 2, none⟩) (v := .string ⟨t.toArray⟩) (by simp) vs3
            have xr0 := setc_far (p := ⟨W.heap.size, 2, none⟩) (v := .string ⟨t.toArray⟩) hwW vr0
            have xz0 : (w6.setCell ⟨W.heap.size, 2, none⟩ (.string ⟨t.toArray⟩)).frozen? ⟨w.heap.size, 0, none⟩ = false := by rw [World.frozen?_setCell]; exact vz0
            have xr1 := setc_far (p := ⟨W.heap.size, 2, none⟩) (v := .string ⟨t.toArray⟩) hwW vr1
            have xz1 : (w6.setCell ⟨W.heap.size, 2, none⟩ (.string ⟨t.toArray⟩)).frozen? ⟨w.heap.size, 1, none⟩ = false := by rw [World.frozen?_setCell]; exact vz1
            have xr2 := setc_far (p := ⟨W.heap.size, 2, none⟩) (v := .string ⟨t.toArray⟩) hwW vr2
            have xz2 : (w6.setCell ⟨W.heap.size, 2, none⟩ (.string ⟨t.toArray⟩)).frozen? ⟨w.heap.size, 2, none⟩ = false := by rw [World.frozen?_setCell]; exact vz2
            have xr3 := setc_far (p := ⟨W.heap.size, 2, none⟩) (v := .string ⟨t.toArray⟩) hwW vr3
            have xz3 : (w6.setCell ⟨W.heap.size, 2, none⟩ (.string ⟨t.toArray⟩)).frozen? ⟨w.heap.size, 3, none⟩ = false := by rw [World.frozen?_setCell]; exact vz3
            have hg1 : w1.size < 4294967281 := by have := HSZ.out w1 (by simp); omega
            have ho1 : (⟨t.toArray⟩ : ByteArray).size < 4294967281 := by show t.toArray.size < _; simp; omega
            have hn1 : (⟨#[]⟩ : ByteArray).size < 4294967281 := by decide
            go_region_held3 (fun U => U.cell? ⟨W.heap.size, 0, none⟩ = some (.int .i64 k0) ∧ U.cell? ⟨W.heap.size, 1, none⟩ = some (.string w1) ∧ U.cell? ⟨W.heap.size, 2, none⟩ = some (.string ⟨t.toArray⟩) ∧ U.cell? ⟨W.heap.size, 3, none⟩ = some (.string ⟨#[]⟩)) (first | exact ⟨s0, s1, s2, s3⟩ | exact ⟨(setc_far hWw (setc_far hWw (setc_far hWw (setc_far hWw s0)))), (setc_far hWw (setc_far hWw (setc_far hWw (setc_far hWw s1)))), (setc_far hWw (setc_far hWw (setc_far hWw (setc_far hWw s2)))), (setc_far hWw (setc_far hWw (setc_far hWw (setc_far hWw s3))))⟩ | exact ⟨xs0, xs1, xs2, xs3⟩) (first | (go_at_call 24; refine (rright_calls k0 w1 ⟨t.toArray⟩ ⟨#[]⟩ m _ ?hm hg1 ho1 hn1).mono ?_; (case hm => exact xm); rintro e w5 ⟨rfl, hb5⟩; have g0 := pw_cell hb5 xr0; have g1 := pw_cell hb5 xr1; have g2 := pw_cell hb5 xr2; have g3 := pw_cell hb5 xr3; have y0 := (hb5.frozen (World.block_lt_of_cell? _ _ xr0)).trans xz0; have y1 := (hb5.frozen (World.block_lt_of_cell? _ _ xr1)).trans xz1; have y2 := (hb5.frozen (World.block_lt_of_cell? _ _ xr2)).trans xz2; have y3 := (hb5.frozen (World.block_lt_of_cell? _ _ xr3)).trans xz3; have s0 := pw_cell hb5 xs0; have s1 := pw_cell hb5 xs1; have s2 := pw_cell hb5 xs2; have s3 := pw_cell hb5 xs3; have HB5 := Aside0.mk hb5))
            go_wp2
            refine bodyPost_ret (v := .tuple #[.agg #[.int .i64 k0, .string w1, .string ⟨t.toArray⟩, .string ⟨#[]⟩], .bool (rightB (rv k0 w1 ⟨t.toArray⟩ ⟨#[]⟩))]) ?_ rfl ⟨⟨k0, w1, ⟨t.toArray⟩, ⟨#[]⟩, rightB (rv k0 w1 ⟨t.toArray⟩ ⟨#[]⟩), rfl, ?_⟩, ?_⟩
            · obtain ⟨e0, e1, e2, e3⟩ := set4_cells (.int .i64 k0) (.string w1) (.string ⟨t.toArray⟩) (.string ⟨#[]⟩) g0 g1 g2 g3
              exact one_results _ _ _ _ _ _ _ _ rfl rfl e0 e1 e2 e3
            · show oneB [bs w0, bs w1, bs w2] = _
              unfold oneB
              rw [show wordK ([bs w0, bs w1, bs w2].headD []) = some (k0, 1) from HWK.out]
              dsimp only
              rw [if_pos (by simp), if_neg (by decide), show unqB ([bs w0, bs w1, bs w2].getD 2 []) = some t from HU.out]
              dsimp only
              rw [if_pos rfl]
              unfold mayB
              have e : (rv k0 w1 ⟨t.toArray⟩ ⟨#[]⟩) = ⟨k0, bs w1, t, []⟩ := by simp [rv, bs]
              rw [e]; rfl
            · exact set4_below _ _ _ _ (((HBX.out.trans (HB6.out.mono (by omega))).setCell (p := ⟨W.heap.size, 2, none⟩) (by show w.heap.size ≤ W.heap.size; omega) _).trans ((below_drew HB5.out).mono (by show w.heap.size ≤ (World.setCell _ _ _).heap.size; rw [World.size_setCell]; have := HB6.out.size; omega))) (Nat.le_refl _)
        · obtain ⟨w2, w3, rfl⟩ : ∃ w2 w3, rest = [w2, w3] := by match rest, hlen with | [a, c], _ => exact ⟨a, c, rfl⟩
          have c3 : W.cell? ⟨b, 3, none⟩ = some (.string w3) := (hbW.cell (by show b < w.heap.size + 1; omega)).trans (cell_old _ (HW.out 3 w3 rfl))
          have c2 : W.cell? ⟨b, 2, none⟩ = some (.string w2) := (hbW.cell (by show b < w.heap.size + 1; omega)).trans (cell_old _ (HW.out 2 w2 rfl))
          go_wp2
          go_region
          go_wp2
          have hbX0 : Below w.heap.size w ((W.alloc (Obj.cells #[.int .i64 k0, .string w1, .string ⟨#[]⟩, .string ⟨#[]⟩] 35)).alloc (Obj.cells #[.pointer (some ⟨W.heap.size, 2, none⟩), .pointer (some ⟨W.heap.size, 3, none⟩)] 85)).drew := ((HBW.out.alloc (by omega) _).alloc (by rw [World.size_alloc]; omega) _).drew
          have hsX : ((W.alloc (Obj.cells #[.int .i64 k0, .string w1, .string ⟨#[]⟩, .string ⟨#[]⟩] 35)).alloc (Obj.cells #[.pointer (some ⟨W.heap.size, 2, none⟩), .pointer (some ⟨W.heap.size, 3, none⟩)] 85)).drew.heap.size = W.heap.size + 2 := by show ((W.alloc (Obj.cells #[.int .i64 k0, .string w1, .string ⟨#[]⟩, .string ⟨#[]⟩] 35)).alloc (Obj.cells #[.pointer (some ⟨W.heap.size, 2, none⟩), .pointer (some ⟨W.heap.size, 3, none⟩)] 85)).heap.size = _; rw [World.size_alloc, World.size_alloc]
          have xm : ((W.alloc (Obj.cells #[.int .i64 k0, .string w1, .string ⟨#[]⟩, .string ⟨#[]⟩] 35)).alloc (Obj.cells #[.pointer (some ⟨W.heap.size, 2, none⟩), .pointer (some ⟨W.heap.size, 3, none⟩)] 85)).drew.cell? ⟨2, 0, none⟩ = some (.int .i64 m) := cell_old (Obj.cells #[.pointer (some ⟨W.heap.size, 2, none⟩), .pointer (some ⟨W.heap.size, 3, none⟩)] 85) (cell_old (Obj.cells #[.int .i64 k0, .string w1, .string ⟨#[]⟩, .string ⟨#[]⟩] 35) hmW)
          have xc : ((W.alloc (Obj.cells #[.int .i64 k0, .string w1, .string ⟨#[]⟩, .string ⟨#[]⟩] 35)).alloc (Obj.cells #[.pointer (some ⟨W.heap.size, 2, none⟩), .pointer (some ⟨W.heap.size, 3, none⟩)] 85)).drew.cell? ⟨b, 2, none⟩ = some (.string w2) := cell_old (Obj.cells #[.pointer (some ⟨W.heap.size, 2, none⟩), .pointer (some ⟨W.heap.size, 3, none⟩)] 85) (cell_old (Obj.cells #[.int .i64 k0, .string w1, .string ⟨#[]⟩, .string ⟨#[]⟩] 35) c2)
          have xd : ((W.alloc (Obj.cells #[.int .i64 k0, .string w1, .string ⟨#[]⟩, .string ⟨#[]⟩] 35)).alloc (Obj.cells #[.pointer (some ⟨W.heap.size, 2, none⟩), .pointer (some ⟨W.heap.size, 3, none⟩)] 85)).drew.cell? ⟨b, 3, none⟩ = some (.string w3) := cell_old (Obj.cells #[.pointer (some ⟨W.heap.size, 2, none⟩), .pointer (some ⟨W.heap.size, 3, none⟩)] 85) (cell_old (Obj.cells #[.int .i64 k0, .string w1, .string ⟨#[]⟩, .string ⟨#[]⟩] 35) c3)
          have xp0 : ((W.alloc (Obj.cells #[.int .i64 k0, .string w1, .string ⟨#[]⟩, .string ⟨#[]⟩] 35)).alloc (Obj.cells #[.pointer (some ⟨W.heap.size, 2, none⟩), .pointer (some ⟨W.heap.size, 3, none⟩)] 85)).drew.cell? ⟨W.heap.size + 1, 0, none⟩ = some (.pointer (some ⟨W.heap.size, 2, none⟩)) := by
            have := cell_new (W.alloc (Obj.cells #[.int .i64 k0, .string w1, .string ⟨#[]⟩, .string ⟨#[]⟩] 35)) #[.pointer (some ⟨W.heap.size, 2, none⟩), .pointer (some ⟨W.heap.size, 3, none⟩)] 85 0 _ rfl
            rw [World.size_alloc] at this; exact this
          have xp1 : ((W.alloc (Obj.cells #[.int .i64 k0, .string w1, .string ⟨#[]⟩, .string ⟨#[]⟩] 35)).alloc (Obj.cells #[.pointer (some ⟨W.heap.size, 2, none⟩), .pointer (some ⟨W.heap.size, 3, none⟩)] 85)).drew.cell? ⟨W.heap.size + 1, 1, none⟩ = some (.pointer (some ⟨W.heap.size, 3, none⟩)) := by
            have := cell_new (W.alloc (Obj.cells #[.int .i64 k0, .string w1, .string ⟨#[]⟩, .string ⟨#[]⟩] 35)) #[.pointer (some ⟨W.heap.size, 2, none⟩), .pointer (some ⟨W.heap.size, 3, none⟩)] 85 1 _ rfl
            rw [World.size_alloc] at this; exact this
          have xr0 := show ((W.alloc (Obj.cells #[.int .i64 k0, .string w1, .string ⟨#[]⟩, .string ⟨#[]⟩] 35)).alloc (Obj.cells #[.pointer (some ⟨W.heap.size, 2, none⟩), .pointer (some ⟨W.heap.size, 3, none⟩)] 85)).drew.cell? ⟨w.heap.size, 0, none⟩ = some _ from cell_old (Obj.cells #[.pointer (some ⟨W.heap.size, 2, none⟩), .pointer (some ⟨W.heap.size, 3, none⟩)] 85) (cell_old (Obj.cells #[.int .i64 k0, .string w1, .string ⟨#[]⟩, .string ⟨#[]⟩] 35) hr0)
          have xz0 := show ((W.alloc (Obj.cells #[.int .i64 k0, .string w1, .string ⟨#[]⟩, .string ⟨#[]⟩] 35)).alloc (Obj.cells #[.pointer (some ⟨W.heap.size, 2, none⟩), .pointer (some ⟨W.heap.size, 3, none⟩)] 85)).drew.frozen? ⟨w.heap.size, 0, none⟩ = false from frozen_old (Obj.cells #[.pointer (some ⟨W.heap.size, 2, none⟩), .pointer (some ⟨W.heap.size, 3, none⟩)] 85) (World.block_lt_of_cell? _ _ (cell_old (Obj.cells #[.int .i64 k0, .string w1, .string ⟨#[]⟩, .string ⟨#[]⟩] 35) hr0)) (frozen_old (Obj.cells #[.int .i64 k0, .string w1, .string ⟨#[]⟩, .string ⟨#[]⟩] 35) (World.block_lt_of_cell? _ _ hr0) hz0)
          have xs0 := show ((W.alloc (Obj.cells #[.int .i64 k0, .string w1, .string ⟨#[]⟩, .string ⟨#[]⟩] 35)).alloc (Obj.cells #[.pointer (some ⟨W.heap.size, 2, none⟩), .pointer (some ⟨W.heap.size, 3, none⟩)] 85)).drew.cell? ⟨W.heap.size, 0, none⟩ = some _ from cell_old (Obj.cells #[.pointer (some ⟨W.heap.size, 2, none⟩), .pointer (some ⟨W.heap.size, 3, none⟩)] 85) (cell_new W #[.int .i64 k0, .string w1, .string ⟨#[]⟩, .string ⟨#[]⟩] 35 0 _ rfl)
          have xq0 := show ((W.alloc (Obj.cells #[.int .i64 k0, .string w1, .string ⟨#[]⟩, .string ⟨#[]⟩] 35)).alloc (Obj.cells #[.pointer (some ⟨W.heap.size, 2, none⟩), .pointer (some ⟨W.heap.size, 3, none⟩)] 85)).drew.frozen? ⟨W.heap.size, 0, none⟩ = false from frozen_old (Obj.cells #[.pointer (some ⟨W.heap.size, 2, none⟩), .pointer (some ⟨W.heap.size, 3, none⟩)] 85) (by show W.heap.size < _; rw [World.size_alloc]; omega) (frozen_new W #[.int .i64 k0, .string w1, .string ⟨#[]⟩, .string ⟨#[]⟩] 35 0)
          have xr1 := show ((W.alloc (Obj.cells #[.int .i64 k0, .string w1, .string ⟨#[]⟩, .string ⟨#[]⟩] 35)).alloc (Obj.cells #[.pointer (some ⟨W.heap.size, 2, none⟩), .pointer (some ⟨W.heap.size, 3, none⟩)] 85)).drew.cell? ⟨w.heap.size, 1, none⟩ = some _ from cell_old (Obj.cells #[.pointer (some ⟨W.heap.size, 2, none⟩), .pointer (some ⟨W.heap.size, 3, none⟩)] 85) (cell_old (Obj.cells #[.int .i64 k0, .string w1, .string ⟨#[]⟩, .string ⟨#[]⟩] 35) hr1)
          have xz1 := show ((W.alloc (Obj.cells #[.int .i64 k0, .string w1, .string ⟨#[]⟩, .string ⟨#[]⟩] 35)).alloc (Obj.cells #[.pointer (some ⟨W.heap.size, 2, none⟩), .pointer (some ⟨W.heap.size, 3, none⟩)] 85)).drew.frozen? ⟨w.heap.size, 1, none⟩ = false from frozen_old (Obj.cells #[.pointer (some ⟨W.heap.size, 2, none⟩), .pointer (some ⟨W.heap.size, 3, none⟩)] 85) (World.block_lt_of_cell? _ _ (cell_old (Obj.cells #[.int .i64 k0, .string w1, .string ⟨#[]⟩, .string ⟨#[]⟩] 35) hr1)) (frozen_old (Obj.cells #[.int .i64 k0, .string w1, .string ⟨#[]⟩, .string ⟨#[]⟩] 35) (World.block_lt_of_cell? _ _ hr1) hz1)
          have xs1 := show ((W.alloc (Obj.cells #[.int .i64 k0, .string w1, .string ⟨#[]⟩, .string ⟨#[]⟩] 35)).alloc (Obj.cells #[.pointer (some ⟨W.heap.size, 2, none⟩), .pointer (some ⟨W.heap.size, 3, none⟩)] 85)).drew.cell? ⟨W.heap.size, 1, none⟩ = some _ from cell_old (Obj.cells #[.pointer (some ⟨W.heap.size, 2, none⟩), .pointer (some ⟨W.heap.size, 3, none⟩)] 85) (cell_new W #[.int .i64 k0, .string w1, .string ⟨#[]⟩, .string ⟨#[]⟩] 35 1 _ rfl)
          have xq1 := show ((W.alloc (Obj.cells #[.int .i64 k0, .string w1, .string ⟨#[]⟩, .string ⟨#[]⟩] 35)).alloc (Obj.cells #[.pointer (some ⟨W.heap.size, 2, none⟩), .pointer (some ⟨W.heap.size, 3, none⟩)] 85)).drew.frozen? ⟨W.heap.size, 1, none⟩ = false from frozen_old (Obj.cells #[.pointer (some ⟨W.heap.size, 2, none⟩), .pointer (some ⟨W.heap.size, 3, none⟩)] 85) (by show W.heap.size < _; rw [World.size_alloc]; omega) (frozen_new W #[.int .i64 k0, .string w1, .string ⟨#[]⟩, .string ⟨#[]⟩] 35 1)
          have xr2 := show ((W.alloc (Obj.cells #[.int .i64 k0, .string w1, .string ⟨#[]⟩, .string ⟨#[]⟩] 35)).alloc (Obj.cells #[.pointer (some ⟨W.heap.size, 2, none⟩), .pointer (some ⟨W.heap.size, 3, none⟩)] 85)).drew.cell? ⟨w.heap.size, 2, none⟩ = some _ from cell_old (Obj.cells #[.pointer (some ⟨W.heap.size, 2, none⟩), .pointer (some ⟨W.heap.size, 3, none⟩)] 85) (cell_old (Obj.cells #[.int .i64 k0, .string w1, .string ⟨#[]⟩, .string ⟨#[]⟩] 35) hr2)
          have xz2 := show ((W.alloc (Obj.cells #[.int .i64 k0, .string w1, .string ⟨#[]⟩, .string ⟨#[]⟩] 35)).alloc (Obj.cells #[.pointer (some ⟨W.heap.size, 2, none⟩), .pointer (some ⟨W.heap.size, 3, none⟩)] 85)).drew.frozen? ⟨w.heap.size, 2, none⟩ = false from frozen_old (Obj.cells #[.pointer (some ⟨W.heap.size, 2, none⟩), .pointer (some ⟨W.heap.size, 3, none⟩)] 85) (World.block_lt_of_cell? _ _ (cell_old (Obj.cells #[.int .i64 k0, .string w1, .string ⟨#[]⟩, .string ⟨#[]⟩] 35) hr2)) (frozen_old (Obj.cells #[.int .i64 k0, .string w1, .string ⟨#[]⟩, .string ⟨#[]⟩] 35) (World.block_lt_of_cell? _ _ hr2) hz2)
          have xs2 := show ((W.alloc (Obj.cells #[.int .i64 k0, .string w1, .string ⟨#[]⟩, .string ⟨#[]⟩] 35)).alloc (Obj.cells #[.pointer (some ⟨W.heap.size, 2, none⟩), .pointer (some ⟨W.heap.size, 3, none⟩)] 85)).drew.cell? ⟨W.heap.size, 2, none⟩ = some _ from cell_old (Obj.cells #[.pointer (some ⟨W.heap.size, 2, none⟩), .pointer (some ⟨W.heap.size, 3, none⟩)] 85) (cell_new W #[.int .i64 k0, .string w1, .string ⟨#[]⟩, .string ⟨#[]⟩] 35 2 _ rfl)
          have xq2 := show ((W.alloc (Obj.cells #[.int .i64 k0, .string w1, .string ⟨#[]⟩, .string ⟨#[]⟩] 35)).alloc (Obj.cells #[.pointer (some ⟨W.heap.size, 2, none⟩), .pointer (some ⟨W.heap.size, 3, none⟩)] 85)).drew.frozen? ⟨W.heap.size, 2, none⟩ = false from frozen_old (Obj.cells #[.pointer (some ⟨W.heap.size, 2, none⟩), .pointer (some ⟨W.heap.size, 3, none⟩)] 85) (by show W.heap.size < _; rw [World.size_alloc]; omega) (frozen_new W #[.int .i64 k0, .string w1, .string ⟨#[]⟩, .string ⟨#[]⟩] 35 2)
          have xr3 := show ((W.alloc (Obj.cells #[.int .i64 k0, .string w1, .string ⟨#[]⟩, .string ⟨#[]⟩] 35)).alloc (Obj.cells #[.pointer (some ⟨W.heap.size, 2, none⟩), .pointer (some ⟨W.heap.size, 3, none⟩)] 85)).drew.cell? ⟨w.heap.size, 3, none⟩ = some _ from cell_old (Obj.cells #[.pointer (some ⟨W.heap.size, 2, none⟩), .pointer (some ⟨W.heap.size, 3, none⟩)] 85) (cell_old (Obj.cells #[.int .i64 k0, .string w1, .string ⟨#[]⟩, .string ⟨#[]⟩] 35) hr3)
          have xz3 := show ((W.alloc (Obj.cells #[.int .i64 k0, .string w1, .string ⟨#[]⟩, .string ⟨#[]⟩] 35)).alloc (Obj.cells #[.pointer (some ⟨W.heap.size, 2, none⟩), .pointer (some ⟨W.heap.size, 3, none⟩)] 85)).drew.frozen? ⟨w.heap.size, 3, none⟩ = false from frozen_old (Obj.cells #[.pointer (some ⟨W.heap.size, 2, none⟩), .pointer (some ⟨W.heap.size, 3, none⟩)] 85) (World.block_lt_of_cell? _ _ (cell_old (Obj.cells #[.int .i64 k0, .string w1, .string ⟨#[]⟩, .string ⟨#[]⟩] 35) hr3)) (frozen_old (Obj.cells #[.int .i64 k0, .string w1, .string ⟨#[]⟩, .string ⟨#[]⟩] 35) (World.block_lt_of_cell? _ _ hr3) hz3)
          have xs3 := show ((W.alloc (Obj.cells #[.int .i64 k0, .string w1, .string ⟨#[]⟩, .string ⟨#[]⟩] 35)).alloc (Obj.cells #[.pointer (some ⟨W.heap.size, 2, none⟩), .pointer (some ⟨W.heap.size, 3, none⟩)] 85)).drew.cell? ⟨W.heap.size, 3, none⟩ = some _ from cell_old (Obj.cells #[.pointer (some ⟨W.heap.size, 2, none⟩), .pointer (some ⟨W.heap.size, 3, none⟩)] 85) (cell_new W #[.int .i64 k0, .string w1, .string ⟨#[]⟩, .string ⟨#[]⟩] 35 3 _ rfl)
          have xq3 := show ((W.alloc (Obj.cells #[.int .i64 k0, .string w1, .string ⟨#[]⟩, .string ⟨#[]⟩] 35)).alloc (Obj.cells #[.pointer (some ⟨W.heap.size, 2, none⟩), .pointer (some ⟨W.heap.size, 3, none⟩)] 85)).drew.frozen? ⟨W.heap.size, 3, none⟩ = false from frozen_old (Obj.cells #[.pointer (some ⟨W.heap.size, 2, none⟩), .pointer (some ⟨W.heap.size, 3, none⟩)] 85) (by show W.heap.size < _; rw [World.size_alloc]; omega) (frozen_new W #[.int .i64 k0, .string w1, .string ⟨#[]⟩, .string ⟨#[]⟩] 35 3)
          obtain ⟨X, hX⟩ : ∃ X, X = ((W.alloc (Obj.cells #[.int .i64 k0, .string w1, .string ⟨#[]⟩, .string ⟨#[]⟩] 35)).alloc (Obj.cells #[.pointer (some ⟨W.heap.size, 2, none⟩), .pointer (some ⟨W.heap.size, 3, none⟩)] 85)).drew := ⟨_, rfl⟩
          simp only [← hX] at hbX0 hsX xm xc xd xp0 xp1 xr0 xr1 xr2 xr3 xz0 xz1 xz2 xz3 xs0 xs1 xs2 xs3 xq0 xq1 xq2 xq3 ⊢
          clear hX
          have HBX := Aside0.mk hbX0
          have hwW : w.heap.size ≠ W.heap.size := by omega
          have HEX := Aside0.mk (hE.below hbX0)
          clear hbX0
          refine wp_loop_rounds 3 ?_
          rw [rounds_succ]
          have hw2 : w2.size ≤ 4611686018427 := by have := HSZ.out w2 (by simp); omega
          have hw3 : w3.size ≤ 4611686018427 := by have := HSZ.out w3 (by simp); omega
          cases hu : unqB (bs w2) with
          | none =>
            have HU := Aside0.mk hu
            clear hu
            have HN := Aside0.mk (show oneB ([w0, w1, w2, w3].map bs) = none by
              unfold oneB
              rw [show wordK (([w0, w1, w2, w3].map bs).headD []) = some (k0, 2) from HWK.out]
              dsimp only
              rw [if_pos (by simp), if_neg (by decide), show unqB (([w0, w1, w2, w3].map bs).getD 2 []) = none from HU.out])
            go_wp2_with fail
            refine (unquote_calls w2 _ HEX.out hw2).mono ?_
            rintro e w6 ⟨rfl, hb6⟩
            rw [HU.out]
            simp only [unqV]
            have vs0 := pw_cell hb6 xs0
            have vr0 := pw_cell hb6 xr0
            have vq0 := (hb6.frozen (World.block_lt_of_cell? _ _ xs0)).trans xq0
            have vz0 := (hb6.frozen (World.block_lt_of_cell? _ _ xr0)).trans xz0
            have vs1 := pw_cell hb6 xs1
            have vr1 := pw_cell hb6 xr1
            have vq1 := (hb6.frozen (World.block_lt_of_cell? _ _ xs1)).trans xq1
            have vz1 := (hb6.frozen (World.block_lt_of_cell? _ _ xr1)).trans xz1
            have vs2 := pw_cell hb6 xs2
            have vr2 := pw_cell hb6 xr2
            have vq2 := (hb6.frozen (World.block_lt_of_cell? _ _ xs2)).trans xq2
            have vz2 := (hb6.frozen (World.block_lt_of_cell? _ _ xr2)).trans xz2
            have vs3 := pw_cell hb6 xs3
            have vr3 := pw_cell hb6 xr3
            have vq3 := (hb6.frozen (World.block_lt_of_cell? _ _ xs3)).trans xq3
            have vz3 := (hb6.frozen (World.block_lt_of_cell? _ _ xr3)).trans xz3
            have HB6 := Aside0.mk hb6
            go_wp2
            refine bodyPost_ret (v := .tuple #[.agg #[.int .i64 0, .string ⟨#[]⟩, .string ⟨#[]⟩, .string ⟨#[]⟩], .bool false]) ?_ rfl ⟨⟨0, ⟨#[]⟩, ⟨#[]⟩, ⟨#[]⟩, false, rfl, HN.out⟩, ?_⟩
            · obtain ⟨e0, e1, e2, e3⟩ := set4_cells (.int .i64 0) (.string ⟨#[]⟩) (.string ⟨#[]⟩) (.string ⟨#[]⟩) (setc_far (p := ⟨W.heap.size, 2, none⟩) (v := .string ⟨#[]⟩) hwW vr0) (setc_far (p := ⟨W.heap.size, 2, none⟩) (v := .string ⟨#[]⟩) hwW vr1) (setc_far (p := ⟨W.heap.size, 2, none⟩) (v := .string ⟨#[]⟩) hwW vr2) (setc_far (p := ⟨W.heap.size, 2, none⟩) (v := .string ⟨#[]⟩) hwW vr3)
              exact one_results _ _ _ _ _ _ _ _ rfl rfl e0 e1 e2 e3
            · exact set4_below _ _ _ _ ((HBX.out.trans (HB6.out.mono (by omega))).setCell (p := ⟨W.heap.size, 2, none⟩) (by show w.heap.size ≤ W.heap.size; omega) _) (Nat.le_refl _)
          | some t =>
            have HU := Aside0.mk hu
            have hts : t.length ≤ 16384 := by
              have h1 := quote_ge t
              rw [unqB_some.1 hu] at h1
              have := HSZ.out w2 (by simp); simp [bs] at h1; omega
            clear hu
            go_wp2_with fail
            refine (unquote_calls w2 _ HEX.out hw2).mono ?_
            rintro e w6 ⟨rfl, hb6⟩
            rw [HU.out]
            simp only [unqV]
            have vs0 := pw_cell hb6 xs0
            have vr0 := pw_cell hb6 xr0
            have vq0 := (hb6.frozen (World.block_lt_of_cell? _ _ xs0)).trans xq0
            have vz0 := (hb6.frozen (World.block_lt_of_cell? _ _ xr0)).trans xz0
            have vs1 := pw_cell hb6 xs1
            have vr1 := pw_cell hb6 xr1
            have vq1 := (hb6.frozen (World.block_lt_of_cell? _ _ xs1)).trans xq1
            have vz1 := (hb6.frozen (World.block_lt_of_cell? _ _ xr1)).trans xz1
            have vs2 := pw_cell hb6 xs2
            have vr2 := pw_cell hb6 xr2
            have vq2 := (hb6.frozen (World.block_lt_of_cell? _ _ xs2)).trans xq2
            have vz2 := (hb6.frozen (World.block_lt_of_cell? _ _ xr2)).trans xz2
            have vs3 := pw_cell hb6 xs3
            have vr3 := pw_cell hb6 xr3
            have vq3 := (hb6.frozen (World.block_lt_of_cell? _ _ xs3)).trans xq3
            have vz3 := (hb6.frozen (World.block_lt_of_cell? _ _ xr3)).trans xz3
            have HB6 := Aside0.mk hb6
            go_wp2
            rw [rounds_succ]
            have zm := setc_far (p := ⟨W.heap.size, 2, none⟩) (v := .string ⟨t.toArray⟩) (by show 2 ≠ W.heap.size; have := World.block_lt_of_cell? _ _ hmW; intro e; have h2 : (2 : Nat) < W.heap.size := this; omega) (pw_cell hb6 xm)
            have zd := setc_far (p := ⟨W.heap.size, 2, none⟩) (v := .string ⟨t.toArray⟩) (by show b ≠ W.heap.size; omega) (pw_cell hb6 xd)
            have zp1 := setc_far (p := ⟨W.heap.size, 2, none⟩) (v := .string ⟨t.toArray⟩) (by show W.heap.size + 1 ≠ W.heap.size; omega) (pw_cell hb6 xp1)
            have zs0 := setc_other (p := ⟨W.heap.size, 2, none⟩) (v := .string ⟨t.toArray⟩) (by simp) vs0
            have zs1 := setc_other (p := ⟨W.heap.size, 2, none⟩) (v := .string ⟨t.toArray⟩) (by simp) vs1
            have zs2 : (w6.setCell ⟨W.heap.size, 2, none⟩ (.string ⟨t.toArray⟩)).cell? ⟨W.heap.size, 2, none⟩ = some (.string ⟨t.toArray⟩) := World.cell?_setCell_same _ _ _ vs2
            have zs3 := setc_other (p := ⟨W.heap.size, 2, none⟩) (v := .string ⟨t.toArray⟩) (by simp) vs3
            have zr0 := setc_far (p := ⟨W.heap.size, 2, none⟩) (v := .string ⟨t.toArray⟩) hwW vr0
            have zz0 : (w6.setCell ⟨W.heap.size, 2, none⟩ (.string ⟨t.toArray⟩)).frozen? ⟨w.heap.size, 0, none⟩ = false := by rw [World.frozen?_setCell]; exact vz0
            have zq0 : (w6.setCell ⟨W.heap.size, 2, none⟩ (.string ⟨t.toArray⟩)).frozen? ⟨W.heap.size, 0, none⟩ = false := by rw [World.frozen?_setCell]; exact vq0
            have zr1 := setc_far (p := ⟨W.heap.size, 2, none⟩) (v := .string ⟨t.toArray⟩) hwW vr1
            have zz1 : (w6.setCell ⟨W.heap.size, 2, none⟩ (.string ⟨t.toArray⟩)).frozen? ⟨w.heap.size, 1, none⟩ = false := by rw [World.frozen?_setCell]; exact vz1
            have zq1 : (w6.setCell ⟨W.heap.size, 2, none⟩ (.string ⟨t.toArray⟩)).frozen? ⟨W.heap.size, 1, none⟩ = false := by rw [World.frozen?_setCell]; exact vq1
            have zr2 := setc_far (p := ⟨W.heap.size, 2, none⟩) (v := .string ⟨t.toArray⟩) hwW vr2
            have zz2 : (w6.setCell ⟨W.heap.size, 2, none⟩ (.string ⟨t.toArray⟩)).frozen? ⟨w.heap.size, 2, none⟩ = false := by rw [World.frozen?_setCell]; exact vz2
            have zq2 : (w6.setCell ⟨W.heap.size, 2, none⟩ (.string ⟨t.toArray⟩)).frozen? ⟨W.heap.size, 2, none⟩ = false := by rw [World.frozen?_setCell]; exact vq2
            have zr3 := setc_far (p := ⟨W.heap.size, 2, none⟩) (v := .string ⟨t.toArray⟩) hwW vr3
            have zz3 : (w6.setCell ⟨W.heap.size, 2, none⟩ (.string ⟨t.toArray⟩)).frozen? ⟨w.heap.size, 3, none⟩ = false := by rw [World.frozen?_setCell]; exact vz3
            have zq3 : (w6.setCell ⟨W.heap.size, 2, none⟩ (.string ⟨t.toArray⟩)).frozen? ⟨W.heap.size, 3, none⟩ = false := by rw [World.frozen?_setCell]; exact vq3
            have hbZ := (HBX.out.trans (HB6.out.mono (by omega))).setCell (p := ⟨W.heap.size, 2, none⟩) (by show w.heap.size ≤ W.heap.size; omega) (.string ⟨t.toArray⟩)
            have hsZ : W.heap.size + 2 ≤ (w6.setCell ⟨W.heap.size, 2, none⟩ (.string ⟨t.toArray⟩)).heap.size := by rw [World.size_setCell]; have := HB6.out.size; omega
            obtain ⟨Z, hZ⟩ : ∃ Z, Z = w6.setCell ⟨W.heap.size, 2, none⟩ (.string ⟨t.toArray⟩) := ⟨_, rfl⟩
            simp only [← hZ] at zm zd zp1 zs0 zs1 zs2 zs3 zr0 zr1 zr2 zr3 zz0 zz1 zz2 zz3 zq0 zq1 zq2 zq3 hbZ hsZ ⊢
            clear hZ vs0 vs1 vs2 vs3 vr0 vr1 vr2 vr3 vq0 vq1 vq2 vq3 vz0 vz1 vz2 vz3 xs0 xs1 xs2 xs3 xr0 xr1 xr2 xr3 xz0 xz1 xz2 xz3 xq0 xq1 xq2 xq3 xc xp0 xp1 xd xm HB6 hb6
            have HBZ := Aside0.mk hbZ
            have HEZ := Aside0.mk (hE.below hbZ)
            clear hbZ
            cases hu : unqB (bs w3) with
            | none =>
              have HV := Aside0.mk hu
              clear hu
              have HN := Aside0.mk (show oneB ([w0, w1, w2, w3].map bs) = none by
                unfold oneB
                rw [show wordK (([w0, w1, w2, w3].map bs).headD []) = some (k0, 2) from HWK.out]
                dsimp only
                rw [if_pos (by simp), if_neg (by decide), show unqB (([w0, w1, w2, w3].map bs).getD 2 []) = some t from HU.out]
                dsimp only
                rw [if_neg (by decide), show unqB (([w0, w1, w2, w3].map bs).getD 3 []) = none from HV.out])
              go_wp2_with fail
              refine (unquote_calls w3 _ HEZ.out hw3).mono ?_
              rintro e w7 ⟨rfl, hb7⟩
              rw [HV.out]
              simp only [unqV]
              have vs0 := pw_cell hb7 zs0
              have vr0 := pw_cell hb7 zr0
              have vq0 := (hb7.frozen (World.block_lt_of_cell? _ _ zs0)).trans zq0
              have vz0 := (hb7.frozen (World.block_lt_of_cell? _ _ zr0)).trans zz0
              have vs1 := pw_cell hb7 zs1
              have vr1 := pw_cell hb7 zr1
              have vq1 := (hb7.frozen (World.block_lt_of_cell? _ _ zs1)).trans zq1
              have vz1 := (hb7.frozen (World.block_lt_of_cell? _ _ zr1)).trans zz1
              have vs2 := pw_cell hb7 zs2
              have vr2 := pw_cell hb7 zr2
              have vq2 := (hb7.frozen (World.block_lt_of_cell? _ _ zs2)).trans zq2
              have vz2 := (hb7.frozen (World.block_lt_of_cell? _ _ zr2)).trans zz2
              have vs3 := pw_cell hb7 zs3
              have vr3 := pw_cell hb7 zr3
              have vq3 := (hb7.frozen (World.block_lt_of_cell? _ _ zs3)).trans zq3
              have vz3 := (hb7.frozen (World.block_lt_of_cell? _ _ zr3)).trans zz3
              have HB7 := Aside0.mk hb7
              go_wp2
              refine bodyPost_ret (v := .tuple #[.agg #[.int .i64 0, .string ⟨#[]⟩, .string ⟨#[]⟩, .string ⟨#[]⟩], .bool false]) ?_ rfl ⟨⟨0, ⟨#[]⟩, ⟨#[]⟩, ⟨#[]⟩, false, rfl, HN.out⟩, ?_⟩
              · obtain ⟨e0, e1, e2, e3⟩ := set4_cells (.int .i64 0) (.string ⟨#[]⟩) (.string ⟨#[]⟩) (.string ⟨#[]⟩) (setc_far (p := ⟨W.heap.size, 3, none⟩) (v := .string ⟨#[]⟩) hwW vr0) (setc_far (p := ⟨W.heap.size, 3, none⟩) (v := .string ⟨#[]⟩) hwW vr1) (setc_far (p := ⟨W.heap.size, 3, none⟩) (v := .string ⟨#[]⟩) hwW vr2) (setc_far (p := ⟨W.heap.size, 3, none⟩) (v := .string ⟨#[]⟩) hwW vr3)
                exact one_results _ _ _ _ _ _ _ _ rfl rfl e0 e1 e2 e3
              · exact set4_below _ _ _ _ ((HBZ.out.trans (HB7.out.mono (by omega))).setCell (p := ⟨W.heap.size, 3, none⟩) (by show w.heap.size ≤ W.heap.size; omega) _) (Nat.le_refl _)
            | some u =>
              have HV := Aside0.mk hu
              have hus : u.length ≤ 16384 := by
                have h1 := quote_ge u
                rw [unqB_some.1 hu] at h1
                have := HSZ.out w3 (by simp); simp [bs] at h1; omega
              clear hu
              go_wp2_with fail
              refine (unquote_calls w3 _ HEZ.out hw3).mono ?_
              rintro e w7 ⟨rfl, hb7⟩
              rw [HV.out]
              simp only [unqV]
              have vs0 := pw_cell hb7 zs0
              have vr0 := pw_cell hb7 zr0
              have vq0 := (hb7.frozen (World.block_lt_of_cell? _ _ zs0)).trans zq0
              have vz0 := (hb7.frozen (World.block_lt_of_cell? _ _ zr0)).trans zz0
              have vs1 := pw_cell hb7 zs1
              have vr1 := pw_cell hb7 zr1
              have vq1 := (hb7.frozen (World.block_lt_of_cell? _ _ zs1)).trans zq1
              have vz1 := (hb7.frozen (World.block_lt_of_cell? _ _ zr1)).trans zz1
              have vs2 := pw_cell hb7 zs2
              have vr2 := pw_cell hb7 zr2
              have vq2 := (hb7.frozen (World.block_lt_of_cell? _ _ zs2)).trans zq2
              have vz2 := (hb7.frozen (World.block_lt_of_cell? _ _ zr2)).trans zz2
              have vs3 := pw_cell hb7 zs3
              have vr3 := pw_cell hb7 zr3
              have vq3 := (hb7.frozen (World.block_lt_of_cell? _ _ zs3)).trans zq3
              have vz3 := (hb7.frozen (World.block_lt_of_cell? _ _ zr3)).trans zz3
              have HB7 := Aside0.mk hb7
              go_wp2
              rw [rounds_succ]
              go_wp2
              have hWw : W.heap.size ≠ w.heap.size := by omega
              have xm := setc_far (p := ⟨W.heap.size, 3, none⟩) (v := .string ⟨u.toArray⟩) (by show 2 ≠ W.heap.size; have := World.block_lt_of_cell? _ _ hmW; intro e; have h2 : (2 : Nat) < W.heap.size := this; omega) (pw_cell hb7 zm)
              have xs0 := setc_other (p := ⟨W.heap.size, 3, none⟩) (v := .string ⟨u.toArray⟩) (by simp) vs0
              have xs1 := setc_other (p := ⟨W.heap.size, 3, none⟩) (v := .string ⟨u.toArray⟩) (by simp) vs1
              have xs2 := setc_other (p := ⟨W.heap.size, 3, none⟩) (v := .string ⟨u.toArray⟩) (by simp) vs2
              have xs3 : (w7.setCell ⟨W.heap.size, 3, none⟩ (.string ⟨u.toArray⟩)).cell? ⟨W.heap.size, 3, none⟩ = some (.string ⟨u.toArray⟩) := World.cell?_setCell_same _ _ _ vs3
              have xr0 := setc_far (p := ⟨W.heap.size, 3, none⟩) (v := .string ⟨u.toArray⟩) hwW vr0
              have xz0 : (w7.setCell ⟨W.heap.size, 3, none⟩ (.string ⟨u.toArray⟩)).frozen? ⟨w.heap.size, 0, none⟩ = false := by rw [World.frozen?_setCell]; exact vz0
              have xr1 := setc_far (p := ⟨W.heap.size, 3, none⟩) (v := .string ⟨u.toArray⟩) hwW vr1
              have xz1 : (w7.setCell ⟨W.heap.size, 3, none⟩ (.string ⟨u.toArray⟩)).frozen? ⟨w.heap.size, 1, none⟩ = false := by rw [World.frozen?_setCell]; exact vz1
              have xr2 := setc_far (p := ⟨W.heap.size, 3, none⟩) (v := .string ⟨u.toArray⟩) hwW vr2
              have xz2 : (w7.setCell ⟨W.heap.size, 3, none⟩ (.string ⟨u.toArray⟩)).frozen? ⟨w.heap.size, 2, none⟩ = false := by rw [World.frozen?_setCell]; exact vz2
              have xr3 := setc_far (p := ⟨W.heap.size, 3, none⟩) (v := .string ⟨u.toArray⟩) hwW vr3
              have xz3 : (w7.setCell ⟨W.heap.size, 3, none⟩ (.string ⟨u.toArray⟩)).frozen? ⟨w.heap.size, 3, none⟩ = false := by rw [World.frozen?_setCell]; exact vz3
              have hg1 : w1.size < 4294967281 := by have := HSZ.out w1 (by simp); omega
              have ho1 : (⟨t.toArray⟩ : ByteArray).size < 4294967281 := by show t.toArray.size < _; simp; omega
              have hn1 : (⟨u.toArray⟩ : ByteArray).size < 4294967281 := by show u.toArray.size < _; simp; omega
              go_region_held3 (fun U => U.cell? ⟨W.heap.size, 0, none⟩ = some (.int .i64 k0) ∧ U.cell? ⟨W.heap.size, 1, none⟩ = some (.string w1) ∧ U.cell? ⟨W.heap.size, 2, none⟩ = some (.string ⟨t.toArray⟩) ∧ U.cell? ⟨W.heap.size, 3, none⟩ = some (.string ⟨u.toArray⟩)) (first | exact ⟨s0, s1, s2, s3⟩ | exact ⟨(setc_far hWw (setc_far hWw (setc_far hWw (setc_far hWw s0)))), (setc_far hWw (setc_far hWw (setc_far hWw (setc_far hWw s1)))), (setc_far hWw (setc_far hWw (setc_far hWw (setc_far hWw s2)))), (setc_far hWw (setc_far hWw (setc_far hWw (setc_far hWw s3))))⟩ | exact ⟨xs0, xs1, xs2, xs3⟩) (first | (go_at_call 24; refine (rright_calls k0 w1 ⟨t.toArray⟩ ⟨u.toArray⟩ m _ ?hm hg1 ho1 hn1).mono ?_; (case hm => exact xm); rintro e w5 ⟨rfl, hb5⟩; have g0 := pw_cell hb5 xr0; have g1 := pw_cell hb5 xr1; have g2 := pw_cell hb5 xr2; have g3 := pw_cell hb5 xr3; have y0 := (hb5.frozen (World.block_lt_of_cell? _ _ xr0)).trans xz0; have y1 := (hb5.frozen (World.block_lt_of_cell? _ _ xr1)).trans xz1; have y2 := (hb5.frozen (World.block_lt_of_cell? _ _ xr2)).trans xz2; have y3 := (hb5.frozen (World.block_lt_of_cell? _ _ xr3)).trans xz3; have s0 := pw_cell hb5 xs0; have s1 := pw_cell hb5 xs1; have s2 := pw_cell hb5 xs2; have s3 := pw_cell hb5 xs3; have HB5 := Aside0.mk hb5))
              go_wp2
              refine bodyPost_ret (v := .tuple #[.agg #[.int .i64 k0, .string w1, .string ⟨t.toArray⟩, .string ⟨u.toArray⟩], .bool (rightB (rv k0 w1 ⟨t.toArray⟩ ⟨u.toArray⟩))]) ?_ rfl ⟨⟨k0, w1, ⟨t.toArray⟩, ⟨u.toArray⟩, rightB (rv k0 w1 ⟨t.toArray⟩ ⟨u.toArray⟩), rfl, ?_⟩, ?_⟩
              · obtain ⟨e0, e1, e2, e3⟩ := set4_cells (.int .i64 k0) (.string w1) (.string ⟨t.toArray⟩) (.string ⟨u.toArray⟩) g0 g1 g2 g3
                exact one_results _ _ _ _ _ _ _ _ rfl rfl e0 e1 e2 e3
              · show oneB [bs w0, bs w1, bs w2, bs w3] = _
                unfold oneB
                rw [show wordK ([bs w0, bs w1, bs w2, bs w3].headD []) = some (k0, 2) from HWK.out]
                dsimp only
                rw [if_pos (by simp), if_neg (by decide), show unqB ([bs w0, bs w1, bs w2, bs w3].getD 2 []) = some t from HU.out]
                dsimp only
                rw [if_neg (by decide), show unqB ([bs w0, bs w1, bs w2, bs w3].getD 3 []) = some u from HV.out]
                dsimp only
                unfold mayB
                have e : (rv k0 w1 ⟨t.toArray⟩ ⟨u.toArray⟩) = ⟨k0, bs w1, t, u⟩ := by simp [rv, bs]
                rw [e]; rfl
              · exact set4_below _ _ _ _ (((HBZ.out.trans (HB7.out.mono (by omega))).setCell (p := ⟨W.heap.size, 3, none⟩) (by show w.heap.size ≤ W.heap.size; omega) _).trans ((below_drew HB5.out).mono (by show w.heap.size ≤ (World.setCell _ _ _).heap.size; rw [World.size_setCell]; have := HB7.out.size; omega))) (Nat.le_refl _)
      · have hlb : (((rest.length : Int) + 1) != 2 + (n0 : Int)) = true := by rw [bne_iff_ne]; omega
        have HN := Aside0.mk (show oneB ((w0 :: rest).map bs) = none by
          unfold oneB; rw [show wordK (((w0 :: rest).map bs).headD []) = some (k0, n0) from hwk]; dsimp only; rw [if_neg (by simp; omega)])
        clear hwk hlen
        go_wp2
        refine bodyPost_ret (v := .tuple #[.agg #[.int .i64 0, .string ⟨#[]⟩, .string ⟨#[]⟩, .string ⟨#[]⟩], .bool false]) ?_ rfl ⟨⟨0, ⟨#[]⟩, ⟨#[]⟩, ⟨#[]⟩, false, rfl, HN.out⟩, ?_⟩
        · obtain ⟨e0, e1, e2, e3⟩ := set4_cells (.int .i64 0) (.string ⟨#[]⟩) (.string ⟨#[]⟩) (.string ⟨#[]⟩) hr0 hr1 hr2 hr3
          exact one_results _ _ _ _ _ _ _ _ rfl rfl e0 e1 e2 e3
        · exact set4_below _ _ _ _ HBW.out (Nat.le_refl _)
  go_region_held3 (fun W => W.cell? ⟨b, 0, none⟩ = some (.string w0)) (first | exact cell_old _ (pw_cell hb (cell_old _ c0)) | exact pw_cell hb (by assumption) | (refine pw_cell hb ?_; go_keep) | (refine cell_old _ ?_; first | assumption | go_keep) | (refine setc_far (by show b ≠ w.heap.size + 1; omega) (setc_far (by show b ≠ w.heap.size + 1; omega) ?_); first | assumption | go_keep) | go_keep) (first | (go_at_call 51; refine (forms_calls _).mono ?_; rintro e w' ⟨rfl, hm, hb⟩; (first | (have q0 := kept_two hb; simp only [World.size_alloc] at q0; obtain ⟨q1, q2, q3, q4⟩ := q0) | skip); simp at hm; have hlk := HL.out w' _ hm; (first | have hlk3 := HL.out w' (w.heap.size + 1 + 1) hm | skip); have hlk2 := HL.out (w'.alloc (.cells #[.int .i64 0, .int .i64 0] 80)) _ ((Below.heap_alloc _ _ _ (Array.getElem?_eq_some_iff.1 hm).1).trans hm)))
  · refine H _ _ _ (cell_new w' _ _ 0 _ rfl) (cell_new w' _ _ 1 _ rfl) (by have := hb.size; simp at this; omega) (((below_drew hb).mono (by simp)).alloc (by have := hb.size; simp at this; omega) _)
  · refine H _ _ _ (cell_new w' _ _ 0 _ rfl) (cell_new w' _ _ 1 _ rfl) (by have := hb.size; simp at this; omega) (((below_drew hb).mono (by simp)).alloc (by have := hb.size; simp at this; omega) _)
  · refine H _ _ _ ?_ ?_ ?_ ?_
    · exact setc_other (by simp) (World.cell?_setCell_same _ _ _ q1)
    · exact World.cell?_setCell_same _ _ _ (setc_other (by simp) q2)
    · omega
    · have hb1 : Below (w.heap.size + 1) (w.alloc (.cells #[.int .i64 0, .string ⟨#[]⟩, .string ⟨#[]⟩, .string ⟨#[]⟩] 35)) w' := ((Below.refl _ _).alloc (by simp) _).trans ((below_drew hb).mono (by simp))
      exact (hb1.setCell (p := ⟨w.heap.size + 1, 0, none⟩) (Nat.le_refl _) _).setCell (p := ⟨w.heap.size + 1, 1, none⟩) (Nat.le_refl _) _
end Go.Proofs.YthiplpgkgnebfaaDoor
