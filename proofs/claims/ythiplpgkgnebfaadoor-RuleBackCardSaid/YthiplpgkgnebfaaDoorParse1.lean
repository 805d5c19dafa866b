/- rule.Parse: the walk. -/
import Derived.Test.YthiplpgkgnebfaaDoorParse0
import Derived.Scope
import Derived.OwnWalkIn
namespace Go.Proofs.YthiplpgkgnebfaaDoor
open Go.RowKit Go.Shelf Go.Proofs.YthiplpgkgnebfaaDoorW.PrintWords
attribute [local go_sem] Oper.semAt_some
set_option linter.unusedSimpArgs false
set_option linter.unusedVariables false

theorem wpIn_scope {n : Nat} {P : Program} {c : Code} {Q : Exit → Act → World → Prop} {a : Act} {w : World} (h : c.wpIn Fence.wide n P (Exit.noGoto Q) a w) : (Code.scope c).wpIn Fence.wide n P Q a w :=
  wpIn_wide.2 (wp_scope_straight (wpIn_wide.1 h))

/-- What Parse hands back, of these bytes, from block B on. -/
def ParseRes (B : Nat) (s : List UInt8) (e : Ending) (w' : World) : Prop :=
  (∃ rl v, parseB s = (rl.map rvOf, 0) ∧ e = .returned (.tuple #[v, .int .i64 0]) ∧ w'.ownsRow B 35 4 v rl.length (rowsOf rl)) ∨
  ∃ k : Int, k ≠ 0 ∧ parseB s = ([], k) ∧ e = .returned (.tuple #[.slice none 0 0, .int .i64 k])

theorem splitB_count (c : UInt8) : ∀ s : List UInt8, (splitB c s).length ≤ s.length + 1
  | [] => by simp [splitB]
  | b :: s => by
    have ih := splitB_count c s
    simp only [splitB]
    cases hs : splitB c s with
    | nil => exact absurd hs (splitB_ne c s)
    | cons p ps => rw [hs] at ih; split <;> simp at ih ⊢ <;> omega

/-- Behind some lines: the rules so far, and where they lie. -/
structure ParseI (B : Nat) (w : World) (pre : List (List UInt8)) (W : World) : Prop where mk ::
  out : ∃ rl v, linesB pre = some (rl.map rvOf) ∧ W.cell? ⟨B + 2, 0, none⟩ = some v ∧ W.ownsRow (B + 8) 35 4 v rl.length (rowsOf rl) ∧ rl.length ≤ pre.length
  below : Below B w W
  c0 : W.cell? ⟨B, 0, none⟩ = some (.slice none 0 0)
  c1 : W.cell? ⟨B + 1, 0, none⟩ = some (.int .i64 0)
  f0 : W.frozen? ⟨B, 0, none⟩ = false
  f1 : W.frozen? ⟨B + 1, 0, none⟩ = false
  f2 : W.frozen? ⟨B + 2, 0, none⟩ = false
structure ParseX (B : Nat) (w : World) (s : List UInt8) (d : Code) (W : World) : Prop where mk ::
  d : d = .ret
  bad : parseB s = ([], 11)
  below : Below B w W
  c0 : W.cell? ⟨B, 0, none⟩ = some (.slice none 0 0)
  c1 : W.cell? ⟨B + 1, 0, none⟩ = some (.int .i64 11)
/-- A step elsewhere keeps it. -/
theorem ParseI.kept {B : Nat} {w W W' : World} {pre : List (List UInt8)} {S : Nat → Prop} (h : ParseI B w pre W) (hc : Chg S W W') (hS : ∀ k, S k → B + 3 ≤ k ∧ k < B + 8) (hB : B ≤ W.heap.size) : ParseI B w pre W' := by
  obtain ⟨⟨rl, v, h1, h2, h3, h4⟩, hb, c0, c1, f0, f1, f2⟩ := h
  have n0 : ¬ S B := fun e => by have := hS _ e; omega
  have n1 : ¬ S (B + 1) := fun e => by have := hS _ e; omega
  have n2 : ¬ S (B + 2) := fun e => by have := hS _ e; omega
  refine ⟨⟨rl, v, h1, hc.cell h2 n2, ownsRow_chg h3 hc (fun k hk e => by have := hS _ e; omega), h4⟩, hb.trans (hc.below hB (fun k hk e => by have := hS _ e; omega)), hc.cell c0 n0, hc.cell c1 n1, ?_, ?_, ?_⟩
  · exact (hc.frozen (World.block_lt_of_cell? _ _ c0) n0).trans f0
  · exact (hc.frozen (World.block_lt_of_cell? _ _ c1) n1).trans f1
  · exact (hc.frozen (World.block_lt_of_cell? _ _ h2) n2).trans f2
theorem parse_bad {s : List UInt8} {pre rest : List (List UInt8)} {rl : List RuleV} {x : List UInt8} (hsz : s.length ≤ 16384) (hp : splitB 10 s = pre ++ x :: rest) (h : linesB pre = some rl) (hx : x ≠ []) (ho : oneB (splitB 32 x) = none) : parseB s = ([], 11) := by
  have := linesB_bad (rest := rest) h hx ho
  rw [← hp] at this
  unfold parseB; rw [if_neg (by omega), this]

set_option maxRecDepth 100000 in
set_option maxHeartbeats 4000000 in
theorem parse_calls (s : ByteArray) (m : Int) (w : World) (hM : w.cell? ⟨2, 0, none⟩ = some (.int .i64 m)) (hE : ErrAt w) (hs : s.size ≤ 9223372036854775807) :
    Calls Tryd.prog 12 #[.string s] w fun e w' => ParseRes w.heap.size (bs s) e w' ∧ Below w.heap.size w w' := by
  refine (callsIn_wide (n := 4)).1 ?_
  refine callsIn_of_wp_marks Tryd.func12 rfl trivial ?_ rfl
  simp only [Tryd.ntmps12, List.size_toArray, List.length_cons, List.length_nil, Nat.reduceAdd, Nat.reduceSub, Array.replicate_succ, Array.replicate_zero, List.push_toArray, List.append_toArray, List.nil_append, List.cons_append]
  obtain ⟨B, hB⟩ : ∃ B, B = w.heap.size := ⟨_, rfl⟩
  obtain ⟨iR, hiR, hz0, hz1, hz2⟩ := info_parts (show (Tryd.prog.info? 35).map (fun i => (i.zero, i.size, i.bytes)) = some (some (.agg #[.int .i64 0, .string ⟨#[]⟩, .string ⟨#[]⟩, .string ⟨#[]⟩]), 4, 56) by kernel_rfl)
  by_cases hsz : (s.size : Int) ≤ 16384
  · have hlt : ¬ 16384 < (s.size : Int) := by omega
    have hss : (bs s).length = s.size := by simp [bs]
    gi_wp2
    refine wpIn_scope ?_
    gi_wp2
    refine wpIn_label ?_
    gi_wp2_with (refine ⟨trivial, ?_⟩; gi_at_call 27; refine (callsIn_wide.2 (splitSeq_calls s 10 _)).mono ?_; rintro e w' ⟨rfl, rfl⟩)
    obtain ⟨W0, hW0⟩ : ∃ W0, ((((((w.alloc (.cells #[.slice none 0 0] 23)).alloc (.cells #[.int .i64 0] 24)).alloc (.cells #[.slice none 0 0] 23)).alloc (.cells #[.string s] 9)).alloc (.cells #[.string ⟨#[10]⟩] 9)).alloc (.cells #[.int .i64 0] 3)) = W0 := ⟨_, rfl⟩
    have hz : W0.heap.size = B + 6 := by rw [← hW0, hB]; simp
    have hb0 : Below B w W0 := by rw [← hW0, hB]; exact ((((((Below.refl _ w).alloc (Nat.le_refl _) _).alloc (by simp) _).alloc (by simp; omega) _).alloc (by simp; omega) _).alloc (by simp; omega) _).alloc (by simp; omega) _
    have cellAt : ∀ (i : Nat) (o : Obj) (W : World), W.heap.size = i → (W.alloc o).heap[i]? = some o := fun i o W h => by subst h; exact World.alloc_heap_new W o
    have c0 : W0.cell? ⟨B, 0, none⟩ = some (.slice none 0 0) := by rw [← hW0, hB]; exact cell_old _ (cell_old _ (cell_old _ (cell_old _ (cell_old _ (cell_new _ _ _ _ _ rfl)))))
    have c1 : W0.cell? ⟨B + 1, 0, none⟩ = some (.int .i64 0) := by rw [← hW0, hB]; exact cell_old _ (cell_old _ (cell_old _ (cell_old _ (by rw [World.cell?_alloc_at _ _ _ _ (by simp)]; rfl))))
    have c2 : W0.cell? ⟨B + 2, 0, none⟩ = some (.slice none 0 0) := by rw [← hW0, hB]; exact cell_old _ (cell_old _ (cell_old _ (by rw [World.cell?_alloc_at _ _ _ _ (by simp)]; rfl)))
    have c3 : W0.cell? ⟨B + 3, 0, none⟩ = some (.string s) := by rw [← hW0, hB]; exact cell_old _ (cell_old _ (by rw [World.cell?_alloc_at _ _ _ _ (by simp)]; rfl))
    have c4 : W0.cell? ⟨B + 4, 0, none⟩ = some (.string ⟨#[10]⟩) := by rw [← hW0, hB]; exact cell_old _ (by rw [World.cell?_alloc_at _ _ _ _ (by simp)]; rfl)
    have c5 : W0.cell? ⟨B + 5, 0, none⟩ = some (.int .i64 0) := by rw [← hW0, hB]; rw [World.cell?_alloc_at _ _ _ _ (by simp)]; rfl
    have f0 : W0.frozen? ⟨B, 0, none⟩ = false := by rw [← hW0, hB]; exact frozen_old _ (by simp <;> omega) (frozen_old _ (by simp <;> omega) (frozen_old _ (by simp <;> omega) (frozen_old _ (by simp <;> omega) (frozen_old _ (by simp <;> omega) (frozen_new _ _ _ _)))))
    have f1 : W0.frozen? ⟨B + 1, 0, none⟩ = false := by rw [← hW0, hB]; exact frozen_old _ (by simp <;> omega) (frozen_old _ (by simp <;> omega) (frozen_old _ (by simp <;> omega) (frozen_old _ (by simp <;> omega) (World.frozen?_alloc_at _ _ _ _ (by simp <;> omega)))))
    have f2 : W0.frozen? ⟨B + 2, 0, none⟩ = false := by rw [← hW0, hB]; exact frozen_old _ (by simp <;> omega) (frozen_old _ (by simp <;> omega) (frozen_old _ (by simp <;> omega) (World.frozen?_alloc_at _ _ _ _ (by simp <;> omega))))
    have f3 : W0.frozen? ⟨B + 3, 0, none⟩ = false := by rw [← hW0, hB]; exact frozen_old _ (by simp <;> omega) (frozen_old _ (by simp <;> omega) (World.frozen?_alloc_at _ _ _ _ (by simp <;> omega)))
    rw [hW0]
    clear hW0
    subst hB
    refine wpIn_split (w := W0) (Bsep := w.heap.size + 4) (Bs := w.heap.size + 3) (Bsv := w.heap.size + 5) 10 s rfl (by omega) c4 c3 c5 f3 (by omega) (by omega)
      (fun k => k = w.heap.size ∨ k = w.heap.size + 1 ∨ k = w.heap.size + 2 ∨ w.heap.size + 8 ≤ k) (by omega) (by omega) (by omega) (by omega) (by omega)
      (fun pre W => ParseI w.heap.size w pre W)
      (fun d W => ParseX w.heap.size w (bs s) d W)
      ?hI ?hIp ?hIx ?h0
      (fun x => { tmps := #[.string s, undef, .pointer (some ⟨w.heap.size, 0, none⟩), .pointer (some ⟨w.heap.size + 1, 0, none⟩), .pointer (some ⟨w.heap.size + 2, 0, none⟩), .string x, undef, undef, .string s, .int .i64 s.size, .bool (decide (16384 < (s.size : Int))), .string s, .func (.func 63) #[] #[.pointer (some ⟨w.heap.size + 4, 0, none⟩), .pointer (some ⟨w.heap.size + 3, 0, none⟩), .pointer (some ⟨w.heap.size + 5, 0, none⟩)], .string x, undef, undef, undef, undef, undef, undef, undef, undef, undef, undef, undef, undef, undef, undef, undef, undef, undef, undef], defers := [] })
      ?assign ?body ?done ?stop
    case hI =>
      intro pre W v h
      exact h.kept (S := fun k => k = w.heap.size + 3) ((Chg.refl (fun k => k = w.heap.size + 3) W).setCell (p := ⟨w.heap.size + 3, 0, none⟩) (.inl rfl) v) (by omega) (by have := h.below.size; omega)
    case hIp =>
      intro pre W o h
      exact h.kept (S := fun k => k = W0.heap.size + 1) ((Chg.refl (fun k => k = W0.heap.size + 1) W).putObj (.inl rfl) o) (by omega) (by have := h.below.size; omega)
    case hIx =>
      rintro d W o ⟨h1, h2, h3, h4, h5⟩
      exact ⟨h1, h2, below_putObj h3 (by omega) _, by rw [World.cell?_of_block (World.putObj_heap_other (by show w.heap.size ≠ _; omega))]; exact h4, by rw [World.cell?_of_block (World.putObj_heap_other (by show w.heap.size + 1 ≠ _; omega))]; exact h5⟩
    case h0 =>
      intro o
      have hb2 : Below W0.heap.size W0 ((W0.alloc (.deferred (some []))).alloc o) := ((Below.refl _ _).alloc (Nat.le_refl _) _).alloc (by simp) _
      exact ⟨⟨[], _, rfl, pw_cell hb2 c2, World.ownsRow_nil _ _ _ _, Nat.le_refl _⟩, hb0.trans (hb2.mono (by omega)), pw_cell hb2 c0, pw_cell hb2 c1, (hb2.frozen (by show w.heap.size < _; omega)).trans f0, (hb2.frozen (by show w.heap.size + 1 < _; omega)).trans f1, (hb2.frozen (by show w.heap.size + 2 < _; omega)).trans f2⟩
    case assign =>
      intro l x W K hK
      gi_wp2
      exact hK
    case body =>
      rintro l pre rest x W ⟨⟨rl, v, h1, h2, h3, h4⟩, hb, k0, k1, g0, g1, g2⟩ hszW hp
      have hx : x.size ≤ s.size := piece_le hp
      have hpl : pre.length ≤ s.size := by have := splitB_count 10 (bs s); rw [hp] at this; simp at this; omega
      by_cases hxe : x.toList = []
      · have hemp : x.toList.isEmpty = true := by rw [hxe]; rfl
        have hx0 : bs x = [] := by rw [show bs x = x.data.toList from rfl, ← ByteArray.toList_eq]; exact hxe
        have HN := Aside0.mk (show linesB (pre ++ [bs x]) = some (rl.map rvOf) by rw [linesB_snoc h1, if_pos hx0])
        clear hxe hp h1 hx0
        gi_wp2
        exact ⟨Chg.refl _ _, ⟨⟨rl, v, HN.out, h2, h3, by simp; omega⟩, hb, k0, k1, g0, g1, g2⟩⟩
      · have hemp : x.toList.isEmpty = false := by cases h : x.toList <;> simp_all
        have hx0 : bs x ≠ [] := by rw [show bs x = x.data.toList from rfl, ← ByteArray.toList_eq]; exact hxe
        clear hxe
        obtain ⟨ws, hws⟩ : ∃ ws, Lib.splitB ⟨#[32]⟩ 0 (Lib.countB x ⟨#[32]⟩) x = ws := ⟨_, rfl⟩
        have hcnt : ws.length = Lib.countB x ⟨#[32]⟩ + 1 := by rw [← hws]; exact pieces_len x 32
        have hpe : ws.map bs = splitB 32 (bs x) := by rw [← hws]; exact pieces_eq x 32
        have hwl : ws.length ≤ x.size + 1 := by have := splitB_count 32 (bs x); rw [← hpe] at this; simpa [bs] using this
        have hwm : ∀ y ∈ ws, y.size ≤ 16384 := fun y hy => by
          have := splitB_len 32 (bs x) (bs y) (by rw [← hpe]; exact List.mem_map_of_mem hy)
          have h2 : y.size ≤ x.size := by simpa [bs] using this
          omega
        have H1 := Aside0.mk h1
        have HP := Aside0.mk hp
        have HX := Aside0.mk hx0
        have HPE := Aside0.mk hpe
        have HBW := Aside0.mk hb
        have hMW := pw_cell hb hM
        clear h1 hp hx0 hpe
        gi_wp2_with (refine ⟨trivial, ?_⟩; gi_at_call 29; refine (CallsIn.inRound l (callsIn_wide.2 (Tryd.strings_Split x ⟨#[32]⟩ m _ (by omega) hMW (by decide)))).mono ?_; rintro e w' ⟨rfl, rfl⟩; rw [hws, ← hcnt])
        refine ⟨trivial, ?_⟩
        gi_at_call 28
        rw [← hcnt]
        refine (CallsIn.inRound l (callsIn_wide.2 (one_calls W.heap.size ws m _ ?_ (by omega) (cell_old _ hMW) (hE.below ((HBW.out).alloc hb.size _)) hwm (by omega)))).mono ?_
        · intro j y hj
          exact cell_new W _ _ j _ (by simp [hj])
        rintro e w2 ⟨⟨k, g, o, n, bb, rfl, ho⟩, hb2⟩
        rw [HPE.out] at ho
        have hb3 : Below w.heap.size w w2 := ((HBW.out).alloc hb.size _).trans (hb2.mono (by have := hb.size; simp; omega))
        have hc3 : Chg (fun k => k = w.heap.size ∨ k = w.heap.size + 1 ∨ k = w.heap.size + 2 ∨ w.heap.size + 8 ≤ k) W w2 := ((Chg.refl _ W).alloc _).trans (Chg.of_below hb2)
        have hb4 : Below W.heap.size W w2 := ((Below.refl _ W).alloc (Nat.le_refl _) _).trans (hb2.mono (by simp))
        have hs2 := hb4.size
        have j0 := pw_cell hb4 k0
        have j1 := pw_cell hb4 k1
        have j2 := pw_cell hb4 h2
        have i0 := (hb4.frozen (World.block_lt_of_cell? _ _ k0)).trans g0
        have i1 := (hb4.frozen (World.block_lt_of_cell? _ _ k1)).trans g1
        have i2 := (hb4.frozen (World.block_lt_of_cell? _ _ h2)).trans g2
        have HO := Aside0.mk (ownsRow_chg (S := fun _ => False) h3 (Chg.of_below hb4) (fun _ _ h => h))
        have HB3 := Aside0.mk hb3
        have HC3 := Aside0.mk hc3
        clear hb2 hb3 hc3 k0 k1 h2 g0 g1 g2 h3
        have l0 := World.block_lt_of_cell? _ _ j0
        have l1 := World.block_lt_of_cell? _ _ j1
        have l2 := World.block_lt_of_cell? _ _ j2
        have y0 := cell_old (.cells #[.int .i64 k, .string g, .string o, .string n] 35) j0
        have y1 := cell_old (.cells #[.int .i64 k, .string g, .string o, .string n] 35) j1
        have y2 := cell_old (.cells #[.int .i64 k, .string g, .string o, .string n] 35) j2
        have z0 := frozen_old (.cells #[.int .i64 k, .string g, .string o, .string n] 35) l0 i0
        have z1 := frozen_old (.cells #[.int .i64 k, .string g, .string o, .string n] 35) l1 i1
        have z2 := frozen_old (.cells #[.int .i64 k, .string g, .string o, .string n] 35) l2 i2
        have r0 := cell_new w2 #[.int .i64 k, .string g, .string o, .string n] 35 0 _ rfl
        have r1 := cell_new w2 #[.int .i64 k, .string g, .string o, .string n] 35 1 _ rfl
        have r2 := cell_new w2 #[.int .i64 k, .string g, .string o, .string n] 35 2 _ rfl
        have r3 := cell_new w2 #[.int .i64 k, .string g, .string o, .string n] 35 3 _ rfl
        clear j0 j1 j2 i0 i1 i2 l0 l1 l2
        cases bb with
        | false =>
          have HBAD := Aside0.mk (parse_bad (by omega) HP.out H1.out HX.out ho)
          clear ho
          gi_wp2
          refine ⟨((HC3.out.alloc _).setCell (.inl (.inl rfl)) _).setCell (.inl (.inr (.inl rfl))) _, rfl, HBAD.out, (((HB3.out).alloc HB3.out.size _).setCell (Nat.le_refl _) _).setCell (by show _ ≤ w.heap.size + 1; omega) _, ?_, ?_⟩
          · exact setc_far (by show w.heap.size ≠ w.heap.size + 1; omega) (World.cell?_setCell_same _ _ _ y0)
          · exact World.cell?_setCell_same _ _ _ (setc_far (by show w.heap.size + 1 ≠ w.heap.size; omega) y1)
        | true =>
          have HN := Aside0.mk (show linesB (pre ++ [bs x]) = some ((rl ++ [(k, g, o, n)]).map rvOf) by rw [linesB_snoc H1.out, if_neg HX.out, ho]; simp [rvOf])
          clear ho
          have hlen2 : rl.length ≤ 16384 := by omega
          gi_wp2_with (gi_at_builtin; refine wpListIn_append_own _ rfl _ _ 23 rfl (w.heap.size + 8) 35 iR (.agg #[.int .i64 0, .string ⟨#[]⟩, .string ⟨#[]⟩, .string ⟨#[]⟩]) 4 56 Tryd.underlying23 hiR hz0 hz1 hz2 rfl (by decide) _ _ _ rfl ((HO.out.alloc _).alloc _) ⟨_, 0, none⟩ 1 1 (ruleRow (k, g, o, n)) rfl rfl ?c1 ?c2 ?c3 ?c4 ?c5 ?_)
          case c1 =>
            intro j u hj
            have hsz3 : (w2.alloc (.cells #[.int .i64 k, .string g, .string o, .string n] 35)).heap.size = w2.heap.size + 1 := by simp
            match j, hj with
            | 0, hj => simp [ruleRow] at hj; subst hj; rw [← hsz3]; exact cell_new _ _ _ 0 _ rfl
            | 1, hj => simp [ruleRow] at hj; subst hj; rw [← hsz3]; exact cell_new _ _ _ 1 _ rfl
            | 2, hj => simp [ruleRow] at hj; subst hj; rw [← hsz3]; exact cell_new _ _ _ 2 _ rfl
            | 3, hj => simp [ruleRow] at hj; subst hj; rw [← hsz3]; exact cell_new _ _ _ 3 _ rfl
          case c2 => intro u hu; simp [ruleRow] at hu; rcases hu with rfl | rfl | rfl | rfl <;> rfl
          case c3 => unfold maxLen; omega
          case c4 => omega
          case c5 => have := hb.size; simp; omega
          intro v' w3 ho hg _
          obtain ⟨A', c', rfl⟩ : ∃ A c, v' = .slice A (rl.length + 1) c := by
            rcases ho.2 with ⟨hv, hn⟩ | ⟨g, cap, cur, hv, _⟩
            · omega
            · exact ⟨_, cap, hv⟩
          have hgc := chg_grown hg ((HO.out.alloc _).alloc _)
          have hC4 := ((HC3.out.alloc (.cells #[.int .i64 k, .string g, .string o, .string n] 35)).alloc (.cells #[.int .i64 k, .string g, .string o, .string n] 35)).then_ hgc (fun i _ hi => .inr (.inr (.inr hi)))
          have x0 := hgc.cell (cell_old (.cells #[.int .i64 k, .string g, .string o, .string n] 35) y0) (by show ¬ w.heap.size + 8 ≤ w.heap.size; omega)
          have x1 := hgc.cell (cell_old (.cells #[.int .i64 k, .string g, .string o, .string n] 35) y1) (by show ¬ w.heap.size + 8 ≤ w.heap.size + 1; omega)
          have x2 := hgc.cell (cell_old (.cells #[.int .i64 k, .string g, .string o, .string n] 35) y2) (by show ¬ w.heap.size + 8 ≤ w.heap.size + 2; omega)
          have q0 := (hgc.frozen (World.block_lt_of_cell? _ _ (cell_old (.cells #[.int .i64 k, .string g, .string o, .string n] 35) y0)) (by show ¬ w.heap.size + 8 ≤ w.heap.size; omega)).trans (frozen_old _ (World.block_lt_of_cell? _ _ y0) z0)
          have q1 := (hgc.frozen (World.block_lt_of_cell? _ _ (cell_old (.cells #[.int .i64 k, .string g, .string o, .string n] 35) y1)) (by show ¬ w.heap.size + 8 ≤ w.heap.size + 1; omega)).trans (frozen_old _ (World.block_lt_of_cell? _ _ y1) z1)
          have q2 := (hgc.frozen (World.block_lt_of_cell? _ _ (cell_old (.cells #[.int .i64 k, .string g, .string o, .string n] 35) y2)) (by show ¬ w.heap.size + 8 ≤ w.heap.size + 2; omega)).trans (frozen_old _ (World.block_lt_of_cell? _ _ y2) z2)
          have HB4 := Aside0.mk ((((HB3.out).alloc HB3.out.size (.cells #[.int .i64 k, .string g, .string o, .string n] 35)).alloc (by have := HB3.out.size; simp; omega) (.cells #[.int .i64 k, .string g, .string o, .string n] 35)).trans (hgc.below (by have := HB3.out.size; simp; omega) (fun k hk => by omega)))
          have HC4 := Aside0.mk hC4
          have HO4 := Aside0.mk ho
          clear ho hg hgc hC4 y0 y1 y2 z0 z1 z2 r0 r1 r2 r3
          gi_wp2
          refine ⟨HC4.out.setCell (.inl (.inr (.inr (.inl rfl)))) _, ⟨⟨rl ++ [(k, g, o, n)], _, HN.out, World.cell?_setCell_same _ _ _ x2, ?_, ?_⟩, (HB4.out).setCell (by show _ ≤ w.heap.size + 2; omega) _, ?_, ?_, ?_, ?_, ?_⟩⟩
          · rw [rowsOf_snoc]
            have hl3 : (rl ++ [(k, g, o, n)]).length = rl.length + 1 := by simp
            rw [hl3]
            exact ownsRow_chg (S := fun k => k = w.heap.size + 2) HO4.out ((Chg.refl (fun k => k = w.heap.size + 2) w3).setCell (p := ⟨w.heap.size + 2, 0, none⟩) (.inl rfl) _) (fun k hk e => by omega)
          · simp; omega
          · exact setc_far (by show w.heap.size ≠ w.heap.size + 2; omega) x0
          · exact setc_far (by show w.heap.size + 1 ≠ w.heap.size + 2; omega) x1
          · rw [World.frozen?_setCell]; exact q0
          · rw [World.frozen?_setCell]; exact q1
          · rw [World.frozen?_setCell]; exact q2
    case done =>
      rintro W ⟨⟨rl, v, h1, h2, h3, h4⟩, hb, k0, k1, g0, g1, g2⟩ hK
      rw [hz] at hK
      obtain ⟨A, c, rfl⟩ : ∃ A c, v = .slice A rl.length c := by
        rcases h3.2 with ⟨hv, hn⟩ | ⟨g, cap, cur, hv, _⟩
        · exact ⟨none, 0, by rw [hv, hn]⟩
        · exact ⟨_, cap, hv⟩
      have hz2 := hb.size
      have HO := Aside0.mk h3
      clear h3
      by_cases h50 : (rl.length : Int) ≤ 50
      · have HP := Aside0.mk (show parseB (bs s) = (rl.map rvOf, 0) by unfold parseB; rw [if_neg (by omega), h1]; dsimp only; rw [if_neg (by simp; omega)])
        have h51 : ¬ 50 < (rl.length : Int) := by omega
        clear h1 h50
        gi_wp2
        have e0 := setc_far (q := ⟨w.heap.size, 0, none⟩) (p := ⟨w.heap.size + 1, 0, none⟩) (v := .int .i64 0) (by show w.heap.size ≠ w.heap.size + 1; omega) (World.cell?_setCell_same W _ (.slice A rl.length c) k0)
        have e1 := World.cell?_setCell_same (W.setCell ⟨w.heap.size, 0, none⟩ (.slice A rl.length c)) _ (.int .i64 0) (setc_far (q := ⟨w.heap.size + 1, 0, none⟩) (p := ⟨w.heap.size, 0, none⟩) (v := .slice A rl.length c) (by show w.heap.size + 1 ≠ w.heap.size; omega) k1)
        have hc := (((Chg.refl (fun k => k = w.heap.size ∨ k = w.heap.size + 1) W).setCell (p := ⟨w.heap.size, 0, none⟩) (.inl (.inl rfl)) (.slice A rl.length c)).setCell (p := ⟨w.heap.size + 1, 0, none⟩) (.inl (.inr rfl)) (.int .i64 0))
        have hk := (hc.block (w.heap.size + 6) (by have := (Array.getElem?_eq_some_iff.1 hK).1; omega) (by omega)).trans hK
        have hO := ownsRow_chg HO.out hc (fun k hk => by omega)
        have hbe := (hb.setCell (p := ⟨w.heap.size, 0, none⟩) (Nat.le_refl _) (.slice A rl.length c)).setCell (p := ⟨w.heap.size + 1, 0, none⟩) (by show _ ≤ w.heap.size + 1; omega) (.int .i64 0)
        obtain ⟨Y, hY⟩ : ∃ Y, Y = (W.setCell ⟨w.heap.size, 0, none⟩ (.slice A rl.length c)).setCell ⟨w.heap.size + 1, 0, none⟩ (.int .i64 0) := ⟨_, rfl⟩
        rw [← hY] at e0 e1 hk hO hbe ⊢
        have hc0 := (World.cell?_of_block (World.putObj_heap_other (w := Y) (r := (w.heap.size + 6)) (o := .deferred none) (by show w.heap.size ≠ _; omega))).trans e0
        have hc1 := (World.cell?_of_block (World.putObj_heap_other (w := Y) (r := (w.heap.size + 6)) (o := .deferred none) (by show w.heap.size + 1 ≠ _; omega))).trans e1
        refine leaves_mark hk (v := .tuple #[.slice A rl.length c, .int .i64 0]) (by simp [results, Tryd.results12, go_sem, hc0, hc1]) ⟨.inl ⟨rl, _, HP.out, rfl, ?_⟩, below_putObj hbe (by omega) _⟩
        exact ownsRow_low (ownsRow_chg (S := fun k => k = (w.heap.size + 6)) hO ((Chg.refl (fun k => k = w.heap.size + 6) Y).putObj (.inl rfl) _) (by omega)) (by omega)
      · have HP := Aside0.mk (show parseB (bs s) = ([], 3) by unfold parseB; rw [if_neg (by omega), h1]; dsimp only; rw [if_pos (by simp; omega)])
        have h51 : 50 < (rl.length : Int) := by omega
        clear h1 h50
        gi_wp2
        have e0 := setc_far (q := ⟨w.heap.size, 0, none⟩) (p := ⟨w.heap.size + 1, 0, none⟩) (v := .int .i64 3) (by show w.heap.size ≠ w.heap.size + 1; omega) (World.cell?_setCell_same W _ (.slice none 0 0) k0)
        have e1 := World.cell?_setCell_same (W.setCell ⟨w.heap.size, 0, none⟩ (.slice none 0 0)) _ (.int .i64 3) (setc_far (q := ⟨w.heap.size + 1, 0, none⟩) (p := ⟨w.heap.size, 0, none⟩) (v := .slice none 0 0) (by show w.heap.size + 1 ≠ w.heap.size; omega) k1)
        have hc := (((Chg.refl (fun k => k = w.heap.size ∨ k = w.heap.size + 1) W).setCell (p := ⟨w.heap.size, 0, none⟩) (.inl (.inl rfl)) (.slice none 0 0)).setCell (p := ⟨w.heap.size + 1, 0, none⟩) (.inl (.inr rfl)) (.int .i64 3))
        have hk := (hc.block (w.heap.size + 6) (by have := (Array.getElem?_eq_some_iff.1 hK).1; omega) (by omega)).trans hK
        have hbe := (hb.setCell (p := ⟨w.heap.size, 0, none⟩) (Nat.le_refl _) (.slice none 0 0)).setCell (p := ⟨w.heap.size + 1, 0, none⟩) (by show _ ≤ w.heap.size + 1; omega) (.int .i64 3)
        obtain ⟨Y, hY⟩ : ∃ Y, Y = (W.setCell ⟨w.heap.size, 0, none⟩ (.slice none 0 0)).setCell ⟨w.heap.size + 1, 0, none⟩ (.int .i64 3) := ⟨_, rfl⟩
        rw [← hY] at e0 e1 hk hbe
        try simp only [hz]
        rw [← hY]
        have hc0 := (World.cell?_of_block (World.putObj_heap_other (w := Y) (r := (w.heap.size + 6)) (o := .deferred none) (by show w.heap.size ≠ _; omega))).trans e0
        have hc1 := (World.cell?_of_block (World.putObj_heap_other (w := Y) (r := (w.heap.size + 6)) (o := .deferred none) (by show w.heap.size + 1 ≠ _; omega))).trans e1
        refine leaves_mark hk (v := .tuple #[.slice none 0 0, .int .i64 3]) (by simp [results, Tryd.results12, go_sem, hc0, hc1]) ⟨.inr ⟨3, by decide, HP.out, rfl⟩, below_putObj hbe (by omega) _⟩
    case stop =>
      rintro d W ⟨rfl, hbad, hb, k0, k1⟩ hK
      gi_wp2
      have hc0 : (W.putObj W0.heap.size (.deferred none)).cell? ⟨w.heap.size, 0, none⟩ = some (.slice none 0 0) := (World.cell?_of_block (World.putObj_heap_other (by show w.heap.size ≠ _; omega))).trans k0
      have hc1 : (W.putObj W0.heap.size (.deferred none)).cell? ⟨w.heap.size + 1, 0, none⟩ = some (.int .i64 11) := (World.cell?_of_block (World.putObj_heap_other (by show w.heap.size + 1 ≠ _; omega))).trans k1
      refine leaves_mark hK (v := .tuple #[.slice none 0 0, .int .i64 11]) (by simp [results, Tryd.results12, go_sem, hc0, hc1]) ⟨.inr ⟨11, by decide, hbad, rfl⟩, below_putObj hb (by omega) _⟩
  · have hlt : 16384 < (s.size : Int) := by omega
    have HP := Aside0.mk (show parseB (bs s) = ([], 3) by unfold parseB; rw [if_pos (by simp [bs]; omega)])
    gi_wp2
    refine wpIn_scope ?_
    gi_wp2
    have hc0 : ((w.alloc (.cells #[.slice none 0 0] 23)).alloc (.cells #[.int .i64 3] 24)).cell? ⟨w.heap.size, 0, none⟩ = some (.slice none 0 0) := cell_old _ (cell_new _ _ _ _ _ rfl)
    have hc1 : ((w.alloc (.cells #[.slice none 0 0] 23)).alloc (.cells #[.int .i64 3] 24)).cell? ⟨w.heap.size + 1, 0, none⟩ = some (.int .i64 3) := by rw [World.cell?_alloc_at _ _ _ _ (by simp)]; rfl
    exact ⟨.tuple #[.slice none 0 0, .int .i64 3], by simp [results, Tryd.results12, go_sem, hc0, hc1], .inr ⟨3, by decide, HP.out, rfl⟩, ((Below.refl _ w).alloc (Nat.le_refl _) _).alloc (by simp) _⟩
end Go.Proofs.YthiplpgkgnebfaaDoor
