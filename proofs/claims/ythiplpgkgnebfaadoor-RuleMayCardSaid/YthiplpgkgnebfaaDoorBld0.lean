/- strings.Builder: what its writers do, told to the block: nothing but the builder and its own row is changed. -/
import Derived.Test.YthiplpgkgnebfaaDoorRule0
import Derived.Test.YthiplpgkgnebfaaDoorShelf
import Derived.Lib.AppendStr
import Derived.Laws.AppendOwn
namespace Go.Proofs.YthiplpgkgnebfaaDoor
open Go.RowKit Go.Shelf Go.Proofs.YthiplpgkgnebfaaDoorW.PrintWords
set_option linter.unusedSimpArgs false
set_option linter.unusedVariables false

/-- Block b is a builder whose bytes are l, in a row of its own from block lo on. -/
def Bd (lo b : Nat) (p : Value) (l : List UInt8) (w : World) : Prop :=
  ∃ v, w.heap[b]? = some (.cells #[p, v] 66 (0, 0)) ∧ w.ownsRow lo 5 1 v l.length (Lib.byteCells l)
theorem addBlock (a : Addr) (i : Nat) : (a.add i).block = a.block := by unfold Addr.add; split <;> rfl
def BdAny (lo b : Nat) (l : List UInt8) (w : World) : Prop := Bd lo b (.pointer none) l w ∨ Bd lo b (.pointer (some ⟨b, 0, none⟩)) l w
theorem Bd.lt {lo b : Nat} {p : Value} {l : List UInt8} {w : World} (h : Bd lo b p l w) : b < w.heap.size := by
  obtain ⟨v, hb, _⟩ := h; exact (Array.getElem?_eq_some_iff.1 hb).1
theorem Bd.used {lo b : Nat} {p : Value} {l : List UInt8} {w : World} (h : Bd lo b p l w) (q : Value) : Bd lo b q l (w.setCell ⟨b, 0, none⟩ q) := by
  obtain ⟨v, hb, hown⟩ := h
  have hne := Lib.ownBlock_ne hown hb (by decide)
  refine ⟨v, ?_, ?_⟩
  · simp [World.setCell, Array.getElem?_modify, hb]
  · exact hown.kept (row := some b) ⟨rfl, rfl, rfl, by simp [World.setCell], fun k _ hk => Below.heap_setCell _ _ _ _ (fun e => hk (by simp [e]))⟩ (Or.inr hne)
theorem Bd.put {lo b : Nat} {p v v' : Value} {l : List UInt8} {w : World} (hb : w.heap[b]? = some (.cells #[p, v] 66 (0, 0))) (hown : w.ownsRow lo 5 1 v' l.length (Lib.byteCells l)) : Bd lo b p l (w.setCell ⟨b, 1, none⟩ v') := by
  have hne := Lib.ownBlock_ne hown hb (by decide)
  refine ⟨v', ?_, ?_⟩
  · simp [World.setCell, Array.getElem?_modify, hb]
  · exact hown.kept (row := some b) ⟨rfl, rfl, rfl, by simp [World.setCell], fun k _ hk => Below.heap_setCell _ _ _ _ (fun e => hk (by simp [e]))⟩ (Or.inr hne)
/-- Another one's change, that keeps the builder's block and what lies from lo on. -/
theorem Bd.kept {lo b : Nat} {p : Value} {l : List UInt8} {w w' : World} (h : Bd lo b p l w) {S : Nat → Prop} (hc : Chg S w w') (hS : ¬ S b) (hl : ∀ k, lo ≤ k → ¬ S k) : Bd lo b p l w' := by
  obtain ⟨v, hb, hown⟩ := h
  refine ⟨v, (hc.block b (Array.getElem?_eq_some_iff.1 hb).1 hS).trans hb, hown.1, ?_⟩
  rcases hown.2 with hn | ⟨g, cap, cur, hv, hbg, hg, rest⟩
  · exact .inl hn
  · exact .inr ⟨g, cap, cur, hv, hbg, (hc.block g (Array.getElem?_eq_some_iff.1 hg).1 (hl g hbg)).trans hg, rest⟩
theorem BdAny.kept {lo b : Nat} {l : List UInt8} {w w' : World} (h : BdAny lo b l w) {S : Nat → Prop} (hc : Chg S w w') (hS : ¬ S b) (hl : ∀ k, lo ≤ k → ¬ S k) : BdAny lo b l w' := h.imp (·.kept hc hS hl) (·.kept hc hS hl)
theorem BdAny.lt {lo b : Nat} {l : List UInt8} {w : World} (h : BdAny lo b l w) : b < w.heap.size := h.elim (·.lt) (·.lt)
theorem bd_fresh (lo : Nat) (w : World) : BdAny lo w.heap.size [] (w.alloc (.cells #[.pointer none, .slice none 0 0] 66)) :=
  Or.inl ⟨.slice none 0 0, World.alloc_heap_new w _, World.ownsRow_nil _ _ _ _⟩
theorem ownsRow_low {lo lo' : Nat} {e : TypeId} {k n : Nat} {v : Value} {xs : List Value} {w : World} (h : w.ownsRow lo e k v n xs) (hl : lo' ≤ lo) : w.ownsRow lo' e k v n xs := by
  refine ⟨h.1, ?_⟩
  rcases h.2 with hn | ⟨g, cap, cur, hv, hbg, rest⟩
  · exact .inl hn
  · exact .inr ⟨g, cap, cur, hv, Nat.le_trans hl hbg, rest⟩
theorem Bd.is {lo b B : Nat} {p : Value} {l : List UInt8} {w : World} (h : Bd lo b p l w) (hB : B ≤ b) (hl : B ≤ lo) : Lib.BuilderAt 66 5 B b p (Lib.byteCells l) w := by
  obtain ⟨v, hb, hown⟩ := h
  exact ⟨hB, v, hb, ownsRow_low (by rw [Lib.byteCells_length]; exact hown) hl, Lib.ownBlock_ne hown hb (by decide)⟩
theorem BdAny.is {lo b B : Nat} {l : List UInt8} {w : World} (h : BdAny lo b l w) (hB : B ≤ b) (hl : B ≤ lo) : Lib.IsBuilder 66 5 B b (Lib.byteCells l) w := h.imp (·.is hB hl) (·.is hB hl)

/-- What a growth of a row from lo on changes. -/
theorem chg_grown {lo : Nat} {w w' : World} {v : Value} {e : TypeId} {k n : Nat} {xs : List Value} (hg : w.grownBy w' v.ownBlock) (ho : w.ownsRow lo e k v n xs) : Chg (fun k => lo ≤ k) w w' := by
  refine ⟨hg.os, hg.tape, hg.output, hg.size, fun i hi hs => hg.block i hi ?_⟩
  intro e
  have e := e.symm
  rcases ho.2 with ⟨rfl, _⟩ | ⟨g, cap, cur, rfl, hbg, _⟩
  · simp [Value.ownBlock] at e
  · simp [Value.ownBlock] at e; subst e; exact hs hbg

set_option maxRecDepth 100000 in
set_option maxHeartbeats 1000000 in
theorem copyCheck_used (b : Nat) (w : World) (h0 : w.cell? ⟨b, 0, none⟩ = some (.pointer (some ⟨b, 0, none⟩))) :
    Calls Tryd.prog 55 #[.pointer (some ⟨b, 0, none⟩)] w fun e w' => e = .returned (.tuple #[]) ∧ w' = w := by
  obtain ⟨j, hj, _⟩ := Option.map_eq_some_iff.1 (show (Tryd.prog.info? 66).map (·.size) = some 2 by kernel_rfl)
  go_enter Tryd.func55, Tryd.ntmps55
  go_wp2
  rw [Lib.run_neq_ptr_same w _ Tryd.underlying64 hj]
  go_wp2
  go_end0
  exact ⟨rfl, rfl⟩
set_option maxRecDepth 100000 in
set_option maxHeartbeats 1000000 in
theorem copyCheck_fresh (b : Nat) (w : World) (h0 : w.cell? ⟨b, 0, none⟩ = some (.pointer none)) (hsh : w.shape? b = some (66, 2)) (hfz : w.frozen? ⟨b, 0, none⟩ = false) :
    Calls Tryd.prog 55 #[.pointer (some ⟨b, 0, none⟩)] w fun e w' => e = .returned (.tuple #[]) ∧ w' = w.setCell ⟨b, 0, none⟩ (.pointer (some ⟨b, 0, none⟩)) := by
  obtain ⟨j, hj, hjs⟩ := Option.map_eq_some_iff.1 (show (Tryd.prog.info? 66).map (·.size) = some 2 by kernel_rfl)
  go_enter Tryd.func55, Tryd.ntmps55
  go_wp2
  rw [Lib.run_to_unsafe w ⟨b, 0, none⟩ Tryd.underlying64 Tryd.underlying101 hj (by rw [hjs]; decide) hsh (Nat.zero_lt_succ 1)]
  simp only [Result.andThen]
  rw [Oper.upon_value]
  go_wp2
  rw [run_callFunc_extern Tryd.func73 (by kernel_rfl) (by kernel_rfl) (by kernel_rfl) (e := Extern.AbiNoEscape.same) (by kernel_rfl)]
  rw [Lib.run_noEscape]
  simp only [Result.andThen]
  rw [Oper.upon_value]
  go_wp2
  rw [Lib.run_from_unsafe w ⟨b, 0, none⟩ Tryd.underlying101 Tryd.underlying64 hj hsh (by kernel_rfl)]
  simp only [Result.andThen]
  rw [Oper.upon_value]
  go_wp2
  go_end0
  exact ⟨rfl, rfl⟩
theorem copyCheck_calls (lo b : Nat) (l : List UInt8) (w : World) (h : BdAny lo b l w) :
    Calls Tryd.prog 55 #[.pointer (some ⟨b, 0, none⟩)] w fun e w' => e = .returned (.tuple #[]) ∧ Bd lo b (.pointer (some ⟨b, 0, none⟩)) l w' ∧ Chg (fun k => k = b) w w' := by
  rcases h with h | h
  · have h' := h
    obtain ⟨v, hb, _⟩ := h'
    refine (copyCheck_fresh b w (by rw [Lib.cell_of_heap hb]; rfl) (by simp [World.shape?, hb]) (Lib.frozen_of_heap hb 0)).mono ?_
    rintro e w' ⟨rfl, rfl⟩
    exact ⟨rfl, h.used _, (Chg.refl (fun k => k = b) w).setCell (p := ⟨b, 0, none⟩) (.inl rfl) _⟩
  · have h' := h
    obtain ⟨v, hb, _⟩ := h'
    refine (copyCheck_used b w (by rw [Lib.cell_of_heap hb]; rfl)).mono ?_
    rintro e w' ⟨rfl, rfl⟩
    exact ⟨rfl, h, Chg.refl _ _⟩

set_option maxRecDepth 100000 in
set_option maxHeartbeats 2000000 in
theorem writeByte_calls (lo b : Nat) (l : List UInt8) (c : UInt8) (w : World) (h : BdAny lo b l w) (hlo : lo ≤ w.heap.size) (hlen : l.length + 1 ≤ 140737488355328) :
    Calls Tryd.prog 35 #[.pointer (some ⟨b, 0, none⟩), .int .u8 c.toNat] w fun e w' => e = .returned .nilIface ∧ BdAny lo b (l ++ [c]) w' ∧ Chg (fun k => k = b ∨ lo ≤ k) w w' := by
  obtain ⟨i0, hi, hz0, hz1, hz2⟩ := info_parts (show (Tryd.prog.info? 5).map (fun i => (i.zero, i.size, i.bytes)) = some (some (.int .u8 0), 1, 1) by kernel_rfl)
  go_enter Tryd.func35, Tryd.ntmps35
  go_wp2_with (go_at_call 55; refine (copyCheck_calls lo b l _ h).mono ?_)
  rintro e w1 ⟨rfl, h1, hb1⟩
  obtain ⟨v, hbk, hown⟩ := h1
  have c0 : w1.cell? ⟨b, 0, none⟩ = some (.pointer (some ⟨b, 0, none⟩)) := by rw [Lib.cell_of_heap hbk]; rfl
  have c1 : w1.cell? ⟨b, 1, none⟩ = some v := by rw [Lib.cell_of_heap hbk]; rfl
  have hs1 := hb1.size
  go_wp2_with (at_builtin; refine wpList_append_own _ rfl _ _ 45 rfl lo 5 i0 (.int .u8 0) 1 1 Tryd.underlying45 hi hz0 hz1 hz2 rfl (by decide) _ _ _ rfl (hown.alloc _) ⟨w1.heap.size, 0, none⟩ 1 1 [.int .u8 c.toNat] rfl rfl ?c1 ?c2 ?c3 ?c4 ?c5 ?_)
  case c1 =>
    intro j u hj
    match j, hj with
    | 0, hj => simp at hj; subst hj; simp [Addr.add]
  case c2 => intro u hu; simp at hu; subst hu; rfl
  case c3 => unfold maxLen; omega
  case c4 => omega
  case c5 => simp; omega
  intro v' w' ho hg _
  have hlt : b < w1.heap.size := (Array.getElem?_eq_some_iff.1 hbk).1
  have hgc := chg_grown hg (hown.alloc _)
  have hne : ¬ v.ownBlock = some b := Lib.ownBlock_ne hown hbk (by decide)
  have hbk2 : w'.heap[b]? = some (.cells #[.pointer (some ⟨b, 0, none⟩), v] 66 (0, 0)) :=
    (hg.block b (by simp; omega) (fun e => hne e.symm)).trans ((Below.heap_alloc w1 _ b hlt).trans hbk)
  have c0' : w'.cell? ⟨b, 0, none⟩ = some (.pointer (some ⟨b, 0, none⟩)) := by rw [Lib.cell_of_heap hbk2]; rfl
  have c1' : w'.cell? ⟨b, 1, none⟩ = some v := by rw [Lib.cell_of_heap hbk2]; rfl
  have f1' : w'.frozen? ⟨b, 1, none⟩ = false := Lib.frozen_of_heap hbk2 1
  obtain ⟨ao, n', cap, rfl⟩ : ∃ ao n' cap, v' = .slice ao n' cap := by
    rcases ho.2 with ⟨hv, _⟩ | ⟨g, cap, cur, hv, _⟩
    · exact ⟨_, _, _, hv⟩
    · exact ⟨_, _, _, hv⟩
  go_wp2
  go_ret
  refine ⟨rfl, .inr (Bd.put hbk2 ?_), ?_⟩
  · have e : Lib.byteCells (l ++ [c]) = Lib.byteCells l ++ [.int .u8 c.toNat] := by rw [Lib.byteCells_append]; rfl
    rw [e, List.length_append]; exact ho
  · exact ((hb1.mono (fun _ _ e => Or.inl e)).trans ((((Chg.refl (fun k => k = b ∨ lo ≤ k) w1).alloc _).trans (hgc.mono fun _ _ e => Or.inr e)).setCell (p := ⟨b, 1, none⟩) (.inl (.inl rfl)) _))

set_option maxRecDepth 100000 in
set_option maxHeartbeats 2000000 in
theorem write_calls (lo b : Nat) (l m : List UInt8) (ad : Addr) (n cp : Nat) (w : World) (h : BdAny lo b l w) (hlo : lo ≤ w.heap.size) (hm : m.length = n) (hlen : l.length + n ≤ 140737488355328)
    (had : ad.block ≠ b) (hc : ∀ j u, (Lib.byteCells m)[j]? = some u → w.cell? (ad.add j) = some u) :
    Calls Tryd.prog 36 #[.pointer (some ⟨b, 0, none⟩), .slice (some ad) n cp] w fun e w' => (∃ v, e = .returned v) ∧ BdAny lo b (l ++ m) w' ∧ Chg (fun k => k = b ∨ lo ≤ k) w w' := by
  obtain ⟨i0, hi, hz0, hz1, hz2⟩ := info_parts (show (Tryd.prog.info? 5).map (fun i => (i.zero, i.size, i.bytes)) = some (some (.int .u8 0), 1, 1) by kernel_rfl)
  go_enter Tryd.func36, Tryd.ntmps36
  go_wp2_with (go_at_call 55; refine (copyCheck_calls lo b l _ h).mono ?_)
  rintro e w1 ⟨rfl, h1, hb1⟩
  obtain ⟨v, hbk, hown⟩ := h1
  have c0 : w1.cell? ⟨b, 0, none⟩ = some (.pointer (some ⟨b, 0, none⟩)) := by rw [Lib.cell_of_heap hbk]; rfl
  have c1 : w1.cell? ⟨b, 1, none⟩ = some v := by rw [Lib.cell_of_heap hbk]; rfl
  have hs1 := hb1.size
  go_wp2_with (at_builtin; refine wpList_append_own _ rfl _ _ 45 rfl lo 5 i0 (.int .u8 0) 1 1 Tryd.underlying45 hi hz0 hz1 hz2 rfl (by decide) _ _ _ rfl hown ad n cp (Lib.byteCells m) rfl ?c0 ?c1 ?c2 ?c3 ?c4 ?c5 ?_)
  case c0 => rw [Lib.byteCells_length]; omega
  case c1 =>
    intro j u hj
    exact hb1.cell (hc j u hj) (by rw [addBlock]; exact had)
  case c2 => intro u hu; obtain ⟨c, _, rfl⟩ := List.mem_map.1 hu; rfl
  case c3 => unfold maxLen; omega
  case c4 => omega
  case c5 => omega
  intro v' w' ho hg _
  have hlt : b < w1.heap.size := (Array.getElem?_eq_some_iff.1 hbk).1
  have hgc := chg_grown hg hown
  have hne : ¬ v.ownBlock = some b := Lib.ownBlock_ne hown hbk (by decide)
  have hbk2 : w'.heap[b]? = some (.cells #[.pointer (some ⟨b, 0, none⟩), v] 66 (0, 0)) :=
    (hg.block b hlt (fun e => hne e.symm)).trans hbk
  have c0' : w'.cell? ⟨b, 0, none⟩ = some (.pointer (some ⟨b, 0, none⟩)) := by rw [Lib.cell_of_heap hbk2]; rfl
  have c1' : w'.cell? ⟨b, 1, none⟩ = some v := by rw [Lib.cell_of_heap hbk2]; rfl
  have f1' : w'.frozen? ⟨b, 1, none⟩ = false := Lib.frozen_of_heap hbk2 1
  obtain ⟨ao, n', cap, rfl⟩ : ∃ ao n' cap, v' = .slice ao n' cap := by
    rcases ho.2 with ⟨hv, _⟩ | ⟨g, cap, cur, hv, _⟩
    · exact ⟨_, _, _, hv⟩
    · exact ⟨_, _, _, hv⟩
  go_wp2
  go_ret2
  refine ⟨⟨_, rfl⟩, .inr (Bd.put hbk2 ?_), ?_⟩
  · rw [Lib.byteCells_append, List.length_append, hm]; exact ho
  · exact ((hb1.mono (fun _ _ e => Or.inl e)).trans (((Chg.refl (fun k => k = b ∨ lo ≤ k) w1).trans (hgc.mono fun _ _ e => Or.inr e)).setCell (p := ⟨b, 1, none⟩) (.inl (.inl rfl)) _))

set_option maxRecDepth 100000 in
set_option maxHeartbeats 2000000 in
theorem writeString_calls (lo b : Nat) (l : List UInt8) (s : ByteArray) (w : World) (h : BdAny lo b l w) (hlo : lo ≤ w.heap.size) (hlen : l.length + s.size ≤ 140737488355328) :
    Calls Tryd.prog 39 #[.pointer (some ⟨b, 0, none⟩), .string s] w fun e w' => (∃ v, e = .returned v) ∧ BdAny lo b (l ++ bs s) w' ∧ Chg (fun k => k = b ∨ lo ≤ k) w w' := by
  obtain ⟨i0, hi, hz0, hz1, hz2⟩ := info_parts (show (Tryd.prog.info? 5).map (fun i => (i.zero, i.size, i.bytes)) = some (some (.int .u8 0), 1, 1) by kernel_rfl)
  go_enter Tryd.func39, Tryd.ntmps39
  go_wp2_with (go_at_call 55; refine (copyCheck_calls lo b l _ h).mono ?_)
  rintro e w1 ⟨rfl, h1, hb1⟩
  obtain ⟨v, hbk, hown⟩ := h1
  have c0 : w1.cell? ⟨b, 0, none⟩ = some (.pointer (some ⟨b, 0, none⟩)) := by rw [Lib.cell_of_heap hbk]; rfl
  have c1 : w1.cell? ⟨b, 1, none⟩ = some v := by rw [Lib.cell_of_heap hbk]; rfl
  have hs1 := hb1.size
  go_wp2_with (at_builtin; refine Lib.wpList_append_own_string _ rfl _ _ 45 9 rfl lo 5 i0 Tryd.underlying45 Tryd.underlying9 hi hz0 hz1 hz2 _ _ _ rfl hown s rfl ?c3 ?c4 ?c5 ?_)
  case c3 => unfold maxLen; omega
  case c4 => omega
  case c5 => omega
  intro v' w' ho hg _
  have hlt : b < w1.heap.size := (Array.getElem?_eq_some_iff.1 hbk).1
  have hgc := chg_grown hg hown
  have hne : ¬ v.ownBlock = some b := Lib.ownBlock_ne hown hbk (by decide)
  have hbk2 : w'.heap[b]? = some (.cells #[.pointer (some ⟨b, 0, none⟩), v] 66 (0, 0)) :=
    (hg.block b hlt (fun e => hne e.symm)).trans hbk
  have c0' : w'.cell? ⟨b, 0, none⟩ = some (.pointer (some ⟨b, 0, none⟩)) := by rw [Lib.cell_of_heap hbk2]; rfl
  have c1' : w'.cell? ⟨b, 1, none⟩ = some v := by rw [Lib.cell_of_heap hbk2]; rfl
  have f1' : w'.frozen? ⟨b, 1, none⟩ = false := Lib.frozen_of_heap hbk2 1
  obtain ⟨ao, n', cap, rfl⟩ : ∃ ao n' cap, v' = .slice ao n' cap := by
    rcases ho.2 with ⟨hv, _⟩ | ⟨g, cap, cur, hv, _⟩
    · exact ⟨_, _, _, hv⟩
    · exact ⟨_, _, _, hv⟩
  go_wp2
  go_ret2
  refine ⟨⟨_, rfl⟩, .inr (Bd.put hbk2 ?_), ?_⟩
  · rw [Lib.byteCells_append, List.length_append, show (bs s).length = s.size from by simp [bs]]
    rw [Lib.strCells_eq] at ho; exact ho
  · exact ((hb1.mono (fun _ _ e => Or.inl e)).trans (((Chg.refl (fun k => k = b ∨ lo ≤ k) w1).trans (hgc.mono fun _ _ e => Or.inr e)).setCell (p := ⟨b, 1, none⟩) (.inl (.inl rfl)) _))
end Go.Proofs.YthiplpgkgnebfaaDoor
