/- rule.Print: the walk. -/
import Derived.Test.YthiplpgkgnebfaaDoorParse0
import Derived.OwnWalk
namespace Go.Proofs.YthiplpgkgnebfaaDoor
open Go.RowKit Go.Shelf Go.Proofs.YthiplpgkgnebfaaDoorW.PrintWords
set_option linter.unusedSimpArgs false
set_option linter.unusedVariables false

/-- Rules that lie in memory from an address on. -/
def RowsAt (w : World) (A : Option Addr) (l : List RuleC) : Prop :=
  ∀ j x, l[j]? = some x → ∃ ad, A = some ad ∧ w.cell? (ad.add (j * 4)) = some (.int .i64 x.1) ∧ w.cell? ⟨(ad.add (j * 4)).block, (ad.add (j * 4)).off + 1, none⟩ = some (.string x.2.1) ∧
    w.cell? ⟨(ad.add (j * 4)).block, (ad.add (j * 4)).off + 2, none⟩ = some (.string x.2.2.1) ∧ w.cell? ⟨(ad.add (j * 4)).block, (ad.add (j * 4)).off + 3, none⟩ = some (.string x.2.2.2)
theorem RowsAt.kept {w w' : World} {A : Option Addr} {l : List RuleC} (h : RowsAt w A l) (hb : Below w.heap.size w w') : RowsAt w' A l := fun j x hj => by
  obtain ⟨ad, h1, h2, h3, h4, h5⟩ := h j x hj
  exact ⟨ad, h1, pw_cell hb h2, pw_cell hb h3, pw_cell hb h4, pw_cell hb h5⟩
theorem linesOf_snoc (l : List RuleV) (r : RuleV) : linesOf (l ++ [r]) = linesOf l ++ (lineB r ++ [10]) := by simp [linesOf]
theorem take_snoc {α : Type} {l : List α} {k : Nat} {x : α} (h : l[k]? = some x) : l.take (k + 1) = l.take k ++ [x] := by
  obtain ⟨hk, rfl⟩ := List.getElem?_eq_some_iff.1 h
  rw [List.take_succ_eq_append_getElem hk]

theorem longB_mem {l : List RuleV} {r : RuleV} (h : r ∈ l) : 1 + r.glob.length + r.old.length + r.new.length ≤ longB l := by
  induction l with
  | nil => cases h
  | cons a l ih =>
    simp only [longB, List.map_cons, List.sum_cons] at ih ⊢
    rcases List.mem_cons.1 h with rfl | h
    · omega
    · have := ih h; omega
theorem print_bad {l : List RuleC} {k : Nat} {x : RuleC} (h : l[k]? = some x) (hr : rightB (rvOf x) = false) : printB (l.map rvOf) = ([], 2) := by
  unfold printB
  rw [if_neg]
  rw [Bool.not_eq_true, List.all_eq_false]
  exact ⟨_, List.mem_map_of_mem (List.mem_of_getElem? h), by simp [hr]⟩

/-- Two words lie in a block. -/
def TwoAt (X : World) (b : Nat) (u0 u1 : Value) : Prop := X.heap[b]? = some (.cells #[u0, u1] 9 (0, 0))
theorem TwoAt.new (X : World) (u0 u1 : Value) : TwoAt (X.alloc (.cells #[u0, u1] 9)) X.heap.size u0 u1 := World.alloc_heap_new X _
theorem TwoAt.new1 (X : World) (o : Obj) (u0 u1 : Value) : TwoAt ((X.alloc o).alloc (.cells #[u0, u1] 9)) (X.heap.size + 1) u0 u1 := by
  have h := TwoAt.new (X.alloc o) u0 u1; rwa [World.size_alloc] at h
theorem TwoAt.lt {X : World} {b : Nat} {u0 u1 : Value} (h : TwoAt X b u0 u1) : b < X.heap.size := (Array.getElem?_eq_some_iff.1 h).1
theorem TwoAt.below {X Y : World} {b : Nat} {u0 u1 : Value} (h : TwoAt X b u0 u1) (hb : Below X.heap.size X Y) : TwoAt Y b u0 u1 := (hb.block b h.lt).trans h
theorem TwoAt.alloc {X : World} {b : Nat} {u0 u1 : Value} (h : TwoAt X b u0 u1) (o : Obj) : TwoAt (X.alloc o) b u0 u1 := (Below.heap_alloc X o b h.lt).trans h
theorem TwoAt.row {X : World} {b lo : Nat} {u0 u1 : Value} (h : TwoAt X b u0 u1) (hl : lo ≤ b) : X.ownsRow lo 9 1 (.slice (some ⟨b, 0, none⟩) 2 2) 2 [u0, u1] :=
  ⟨rfl, .inr ⟨b, 2, _, rfl, hl, h, Nat.le_refl _, by decide, rfl, rfl⟩⟩
theorem TwoAt.cells {X : World} {b n : Nat} {u0 u1 : Value} (h : TwoAt X b u0 u1) : ∀ j u, ([u0, u1].take n)[j]? = some u → X.cell? ((⟨b, 0, none⟩ : Addr).add j) = some u := fun j u hj =>
  (h.row (Nat.le_refl _)).cells rfl j u (by rw [List.getElem?_take] at hj; split at hj <;> simp_all)
theorem grown_below {B : Nat} {w0 w w' : World} {row : Option Nat} (h : Below B w0 w) (hg : w.grownBy w' row) (hrow : ∀ k, row = some k → B ≤ k) (hB : B ≤ w.heap.size) : Below B w0 w' :=
  h.trans ⟨hg.os, hg.tape, hg.output, hg.size, fun k hk => hg.block k (by omega) (fun e => by have := hrow k e.symm; omega)⟩
theorem grown_cell {w w' : World} {b n c : Nat} {a : Addr} {v : Value} (hg : w.grownBy w' (Value.slice (some ⟨b, 0, none⟩) n c).ownBlock) (h : w.cell? a = some v) (hne : a.block ≠ b) : w'.cell? a = some v :=
  hg.cell h (fun e => hne (Option.some.inj e))
theorem grown_below2 {B b n c : Nat} {w0 w w' : World} (h : Below B w0 w) (hg : w.grownBy w' (Value.slice (some ⟨b, 0, none⟩) n c).ownBlock) (hb : B ≤ b) (hB : B ≤ w.heap.size) : Below B w0 w' :=
  grown_below h hg (fun k e => by rw [← Option.some.inj e]; exact hb) hB
theorem took_two {α : Type} {u0 u1 : α} {n : Nat} (hn : n ≤ 2) : ([u0, u1].take n).length = n * 1 := by simp; omega
theorem took_one {q1 q2 : ByteArray} {n : Nat} : ∀ u ∈ ([Value.string q1, Value.string q2].take n), u.oneCell' = true := fun u hu => by
  have := List.mem_of_mem_take hu
  simp at this; rcases this with rfl | rfl <;> rfl

theorem join_line (kd : Int) (sw g o nw q1 q2 : ByteArray) {n : Nat} (hn : (kindW kd).2 = n) (hsw : bs sw = (kindW kd).1) (hq1 : bs q1 = quoteB (bs o)) (hq2 : bs q2 = quoteB (bs nw)) (hn2 : n ≤ 2) :
    Lib.join (([sw, g] ++ [q1, q2].take n).map (·.data.toList)) (⟨#[32]⟩ : ByteArray).data.toList = lineB (rv kd g o nw) := by
  have e : kindW kd = (bs sw, n) := Prod.ext hsw.symm hn
  unfold lineB
  simp only [rv, e, ← hq1, ← hq2]
  clear e hn
  match n, hn2 with
  | 0, _ => simp [Lib.join, bs]
  | 1, _ => simp [Lib.join, bs]
  | 2, _ => simp [Lib.join, bs]

set_option maxRecDepth 100000 in
set_option maxHeartbeats 4000000 in
theorem print_calls (l : List RuleC) (A : Option Addr) (c : Nat) (m : Int) (w : World) (hR : RowsAt w A l) (hM : w.cell? ⟨2, 0, none⟩ = some (.int .i64 m)) (hl : 10 * l.length + 3 * longB (l.map rvOf) ≤ 1000000) :
    Calls Tryd.prog 22 #[.slice A l.length c] w fun e w' => (∃ r, e = .returned (.tuple #[.string r, .int .i64 (printB (l.map rvOf)).2]) ∧ bs r = (printB (l.map rvOf)).1) ∧ Below w.heap.size w w' := by
  obtain ⟨iS, hiS, hz0, hz1, hz2⟩ := info_parts (show (Tryd.prog.info? 9).map (fun i => (i.zero, i.size, i.bytes)) = some (some (.string ⟨#[]⟩), 1, 16) by kernel_rfl)
  go_enter Tryd.func22, Tryd.ntmps22
  go_wp2
  go_loopw [12] (fun i wr => ∃ k : Nat, k ≤ l.length ∧ i = .int .i64 k ∧ Aside0 (BdAny (w.heap.size + 1) w.heap.size (linesOf ((l.take k).map rvOf)) wr) ∧ Aside0 (((l.take k).map rvOf).all rightB = true) ∧ Aside0 (Below w.heap.size w wr) ∧ w.heap.size + 1 ≤ wr.heap.size) (fun i _ => l.length - (intOf i).toNat)
  case atStart =>
    exact ⟨0, Nat.zero_le _, rfl, ⟨bd_fresh _ _⟩, ⟨rfl⟩, ⟨(Below.refl _ w).alloc (Nat.le_refl _) _⟩, by simp⟩
  case round =>
    obtain ⟨k, hk, rfl, HBd, HA, HB, hsz⟩ := hrel
    by_cases hlt : k < l.length
    · obtain ⟨⟨kd, g, o, nw⟩, hx⟩ : ∃ x, l[k]? = some x := ⟨l[k], List.getElem?_eq_getElem hlt⟩
      obtain ⟨ad, rfl, x0, x1, x2, x3⟩ := (hR.kept (HB.out)) k _ hx
      dsimp only at x0 x1 x2 x3
      have hMr := pw_cell HB.out hM
      have HX := Aside0.mk hx
      have hsz0 := longB_mem (List.mem_map_of_mem (f := rvOf) (List.mem_of_getElem? hx))
      have hgs : g.size ≤ 333334 := by simp [rvOf, rv, bs] at hsz0; omega
      have hos : o.size ≤ 333334 := by simp [rvOf, rv, bs] at hsz0; omega
      have hns : nw.size ≤ 333334 := by simp [rvOf, rv, bs] at hsz0; omega
      clear hx hsz0
      have hk0 : (0 : Int) ≤ k := by omega
      have hk1 : (k : Int) < l.length := by omega
      cases hr : rightB (rv kd g o nw) with
      | false =>
        have HRt := Lib.hid hr
        clear hr
        go_wp2_with (go_at_call 24; refine (rright_calls kd g o nw m _ (cell_old _ hMr) (by omega) (by omega) (by omega)).mono ?_; rintro e w' ⟨rfl, hb⟩; rw [HRt.out])
        go_ret2
        refine ⟨⟨⟨#[]⟩, ?_, ?_⟩, ?_⟩
        · rw [print_bad HX.out HRt.out]; rfl
        · rw [print_bad HX.out HRt.out]
        · exact ((HB.out).alloc (by omega) _).trans (hb.mono (by simp <;> omega))
      | true =>
        have HRt := Lib.hid hr
        clear hr
        go_wp2_with (first | (go_at_call 24; refine (rright_calls kd g o nw m _ (cell_old _ hMr) (by omega) (by omega) (by omega)).mono ?_; rintro e w1 ⟨rfl, hb1⟩; rw [HRt.out]; have r0 := pw_cell hb1 (cell_new wr #[.int .i64 kd, .string g, .string o, .string nw] 35 0 _ rfl); have r1 := pw_cell hb1 (cell_new wr #[.int .i64 kd, .string g, .string o, .string nw] 35 1 _ rfl); have r2 := pw_cell hb1 (cell_new wr #[.int .i64 kd, .string g, .string o, .string nw] 35 2 _ rfl); have r3 := pw_cell hb1 (cell_new wr #[.int .i64 kd, .string g, .string o, .string nw] 35 3 _ rfl)) | (go_at_call 38; refine (word_calls kd _).mono ?_; rintro e w2 ⟨⟨sw, rfl, hsw⟩, hb2⟩))
        have hbX : Below wr.heap.size wr w2 := (((Below.refl _ wr).alloc (Nat.le_refl _) _).trans (hb1.mono (by simp))).trans (hb2.mono (by have := hb1.size; simp at this; omega))
        have c0 := pw_cell hb2 r0
        have c1 := pw_cell hb2 r1
        have c2 := pw_cell hb2 r2
        have c3 := pw_cell hb2 r3
        have HBX := Aside0.mk hbX
        have hbs : wr.heap.size < w2.heap.size := World.block_lt_of_cell? _ _ c0
        clear hb1 hb2 r0 r1 r2 r3 hbX
        obtain ⟨n, hn⟩ : ∃ n, (kindW kd).2 = n := ⟨_, rfl⟩
        have hn2 : (n : Int) ≤ 2 := by rw [← hn]; unfold kindW; (repeat' split) <;> decide
        have hn2' : n ≤ 2 := by omega
        have hn0 : (0 : Int) ≤ n := by omega
        rw [hn]
        have HN := Aside0.mk hn
        have HSW := Aside0.mk hsw
        clear hn hsw
        rename_i Q K hK
        have H : ∀ (v9 v25 v26 v27 v28 v29 v30 v31 v32 v33 v34 v35 v36 v37 v38 : Value) (q1 q2 : ByteArray) (X : World), bs q1 = quoteB (bs o) → bs q2 = quoteB (bs nw) → X.ownsRow wr.heap.size 9 1 v9 (2 + n) ([.string sw, .string g] ++ [.string q1, .string q2].take n) → Below wr.heap.size wr X →
            K { tmps := #[.slice (some ad) l.length c, undef, u2, u3, .pointer (some ⟨w.heap.size, 0, none⟩), undef, .pointer (some ⟨wr.heap.size, 0, none⟩), .string sw, .int .i64 n, v9, .slice (some ad) l.length c, .int .i64 l.length, .int .i64 k, .bool true, .pointer (some (ad.add (k * 4))), .agg #[.int .i64 kd, .string g, .string o, .string nw], .agg #[.int .i64 kd, .string g, .string o, .string nw], .bool true, .bool false, .tuple #[.string sw, .int .i64 n], .pointer (some ⟨wr.heap.size, 0, none⟩), .int .i64 kd, .tuple #[.string sw, .int .i64 n], .string sw, .int .i64 n, v25, v26, v27, v28, v29, v30, v31, v32, v33, v34, v35, v36, v37, v38, u39, u40, u41, u42, u43, undef, undef, undef, undef], defers := [] } X := by
          intro v9 v25 v26 v27 v28 v29 v30 v31 v32 v33 v34 v35 v36 v37 v38 q1 q2 X hq1 hq2 hrow hbX
          have hlw : ([sw, g] ++ [q1, q2].take n).length = 2 + n := by simp; omega
          have hmap : ([.string sw, .string g] ++ [Value.string q1, .string q2].take n) = ([sw, g] ++ [q1, q2].take n).map Value.string := by simp [List.map_take]
          rw [hmap] at hrow
          obtain ⟨gb, cp, rfl, hcp⟩ : ∃ gb cp, v9 = .slice (some ⟨gb, 0, none⟩) (2 + n) cp ∧ 2 + n ≤ cp := by
            rcases hrow.2 with ⟨hv, hn⟩ | ⟨g', cap, cur, hv, _, _, hc, _⟩
            · omega
            · exact ⟨g', cap, hv, hc⟩
          have hJ := join_line kd sw g o nw q1 q2 HN.out HSW.out hq1 hq2 hn2'
          have hll := line_len (rv kd g o nw)
          have hJl : (lineB (rv kd g o nw)).length ≤ 3000000 := by simp [rv, bs] at hll ⊢; omega
          have hcl := hrow.cells rfl
          have hgl : gb < X.heap.size := World.block_lt_of_cell? _ _ (hcl 0 (.string sw) rfl)
          have hjc := Tryd.strings_Join gb 0 cp ([sw, g] ++ [q1, q2].take n) ⟨#[32]⟩ X (fun j x hj => by
            have h1 := hcl j (.string x) (by rw [List.getElem?_map, hj]; rfl)
            rw [Nat.zero_add]; exact (show (⟨gb, j, none⟩ : Addr) = (⟨gb, 0, none⟩ : Addr).add j by simp [Addr.add]) ▸ h1) hgl (by rw [hlw]; omega) (by rw [hlw]; exact hcp) (by rw [hJ]; omega)
          rw [hJ, hlw] at hjc
          obtain ⟨jl, hjl⟩ : ∃ jl : ByteArray, jl = ⟨(lineB (rv kd g o nw)).toArray⟩ := ⟨_, rfl⟩
          have hjb : bs jl = lineB (rv kd g o nw) := by rw [hjl]
          have hjs : jl.size ≤ 3000000 := by rw [hjl]; show (List.toArray _).size ≤ _; simpa using hJl
          rw [← hjl] at hjc
          have HJB := Aside0.mk hjb
          have HJC := Aside0.mk hjc
          have HBX2 := Aside0.mk hbX
          have hbd := HBd.out.kept (S := fun _ => False) (Chg.of_below hbX) (fun h => h) (fun _ _ h => h)
          have HBD := Aside0.mk hbd
          have hXs := hbX.size
          have g0 : (9223372036854775807 < jl.size + 1) = False := by simp; omega
          have HLL := Aside0.mk (show (linesOf ((l.take k).map rvOf)).length ≤ 1000000 by
            have h1 := lines_len ((l.take k).map rvOf)
            have h2 : longB ((l.take k).map rvOf) ≤ longB (l.map rvOf) := by
              have h3 : l.map rvOf = (l.take k).map rvOf ++ (l.drop k).map rvOf := by rw [← List.map_append, List.take_append_drop]
              rw [h3]; simp only [longB, List.map_append, List.sum_append]; omega
            have h4 : ((l.take k).map rvOf).length ≤ l.length := by simp; omega
            omega)
          clear hbd hbX hjl hjb hjc hcl hJ hJl hll hrow hmap hq1 hq2
          refine hK _ _ ?_
          go_wp2_with (first | (go_at_call 40; refine (HJC.out).mono ?_; rintro e y3 ⟨rfl, hy3⟩; have HBD3 := Aside0.mk (HBD.out.kept (S := fun _ => False) (Chg.of_below hy3) (fun h => h) (fun _ _ h => h)); have HY3 := Aside0.mk (HBX2.out.trans (hy3.mono HBX2.out.size)); have hs3 := hy3.size))
          with_reducible refine (writeString_calls (w.heap.size + 1) w.heap.size _ _ _ HBD3.out (by omega) ?hl).mono ?_
          case hl => have := HLL.out; have h2 : (jl ++ (⟨#[10]⟩ : ByteArray)).size = jl.size + 1 := by rw [ByteArray.size_append]; rfl
                     show _ + (jl ++ (⟨#[10]⟩ : ByteArray)).size ≤ _; omega
          rintro e y4 ⟨⟨vv, rfl⟩, hbd4, hch4⟩
          have hs4 := hch4.size
          have HBD4 := Aside0.mk hbd4
          have HB4 := Aside0.mk ((HB.out.trans (HY3.out.mono (by omega))).trans (hch4.below (B := w.heap.size) (by omega) (fun i hi => by omega)))
          clear hbd4 hch4
          go_wp2
          go_round
          case rel =>
            refine ⟨k + 1, by omega, by go_num, ⟨?_⟩, ⟨?_⟩, HB4, by omega⟩
            · have e1 : (l.take (k + 1)).map rvOf = (l.take k).map rvOf ++ [rv kd g o nw] := by rw [take_snoc HX.out]; simp [rvOf]
              have e2 : bs (jl ++ ⟨#[10]⟩) = lineB (rv kd g o nw) ++ [10] := by rw [← HJB.out]; simp [bs]
              rw [e1, linesOf_snoc, ← e2]; exact HBD4.out
            · have e1 : (l.take (k + 1)).map rvOf = (l.take k).map rvOf ++ [rv kd g o nw] := by rw [take_snoc HX.out]; simp [rvOf]
              rw [e1, List.all_append, HA.out]; simp [HRt.out]
          case measure => simp [intOf]; omega
        go_region_held3 (fun U => U.cell? ⟨wr.heap.size, 1, none⟩ = some (.string g) ∧ U.cell? ⟨wr.heap.size, 2, none⟩ = some (.string o) ∧ U.cell? ⟨wr.heap.size, 3, none⟩ = some (.string nw)) (first | exact ⟨c1, c2, c3⟩ | exact ⟨cell_old _ c1, cell_old _ c2, cell_old _ c3⟩ | exact ⟨d1, d2, d3⟩ | exact ⟨cell_old _ d1, cell_old _ d2, cell_old _ d3⟩ | exact ⟨e1, e2, e3⟩ | exact ⟨cell_old _ e1, cell_old _ e2, cell_old _ e3⟩ | exact ⟨cell_old _ (cell_old _ e1), cell_old _ (cell_old _ e2), cell_old _ (cell_old _ e3)⟩ | exact ⟨f1, f2, f3⟩) (first
          | (go_at_call 17; (with_reducible refine (quote_calls o _ (by omega)).mono ?_); rintro e y1 ⟨⟨q1, rfl, hq1⟩, hy1⟩; (have hs1 : wr.heap.size < y1.heap.size := by (have h1 := hy1.size; (first | (have h2 : w2.heap.size + 1 ≤ y1.heap.size := by (simpa using h1)) | (have h2 : w2.heap.size ≤ y1.heap.size := h1)); omega)); (first | ((with_reducible have d1 := pw_cell (below_drew hy1) c1); have d2 := pw_cell (below_drew hy1) c2; have d3 := pw_cell (below_drew hy1) c3; have B1 : Aside0 (Below wr.heap.size wr y1) := ⟨(HBX.out).trans ((below_drew hy1).mono (Nat.le_of_lt hbs))⟩) | (have d1 := pw_cell (below_drew hy1) (cell_old _ c1); have d2 := pw_cell (below_drew hy1) (cell_old _ c2); have d3 := pw_cell (below_drew hy1) (cell_old _ c3); have p1 := (TwoAt.new w2 (.string sw) (.string g)).below (below_drew hy1); have B1 : Aside0 (Below wr.heap.size wr y1) := ⟨((HBX.out).alloc (Nat.le_of_lt hbs) (.cells #[.string sw, .string g] 9)).trans ((below_drew hy1).mono (show wr.heap.size ≤ (World.alloc w2 (.cells #[.string sw, .string g] 9)).heap.size from Nat.le_trans (Nat.le_of_lt hbs) ((World.size_alloc w2 (.cells #[.string sw, .string g] 9)).symm ▸ Nat.le_succ _)))⟩)))
          | (go_at_call 17; (with_reducible refine (quote_calls nw _ (by omega)).mono ?_); rintro e y2 ⟨⟨q2, rfl, hq2⟩, hy2⟩; (have hs2 : wr.heap.size < y2.heap.size := by (have h1 := hy2.size; (first | (have h2 : y1.heap.size + 1 ≤ y2.heap.size := by (simpa using h1)) | (have h2 : y1.heap.size ≤ y2.heap.size := h1)); omega)); (first | ((with_reducible have e1 := pw_cell hy2 d1); have e2 := pw_cell hy2 d2; have e3 := pw_cell hy2 d3; have B2 : Aside0 (Below wr.heap.size wr y2) := ⟨(B1.out).trans (hy2.mono (B1.out).size)⟩; (first | (with_reducible have p2 := p1.below hy2) | skip)) | (have e1 := pw_cell hy2 (cell_old _ d1); have e2 := pw_cell hy2 (cell_old _ d2); have e3 := pw_cell hy2 (cell_old _ d3); have p2 := (TwoAt.new y1 (.string sw) (.string g)).below hy2; have B2 : Aside0 (Below wr.heap.size wr y2) := ⟨((B1.out).alloc (B1.out).size (.cells #[.string sw, .string g] 9)).trans (hy2.mono (show wr.heap.size ≤ (World.alloc y1 (.cells #[.string sw, .string g] 9)).heap.size from Nat.le_trans (B1.out).size ((World.size_alloc y1 (.cells #[.string sw, .string g] 9)).symm ▸ Nat.le_succ _)))⟩)))
          | (rw [if_pos (by rfl)]; refine (id ?_ : Oper.wp _ ⟨some 38, _, _, _, _, _⟩ _ _ _ _); refine wp_append_own _ (.tmp 28) (.tmp 37) 49 rfl wr.heap.size 9 iS (.string ⟨#[]⟩) 1 16 Tryd.underlying49 hiS hz0 hz1 hz2 rfl (by decide) (.slice (some ⟨_, 0, none⟩) 2 2) 2 [.string sw, .string g] rfl (TwoAt.row (p2.alloc (.cells #[.string q1, .string q2] 9)) (by omega)) ⟨_, 0, none⟩ n 2 ([.string q1, .string q2].take n) rfl (took_two hn2') (TwoAt.new y2 (.string q1) (.string q2)).cells took_one (by unfold maxLen; omega) (by omega) (by simp only [World.size_alloc]; omega) ?_; intro v9 w3 ho hg _; have f1 := grown_cell hg (cell_old _ e1) (by first | (show wr.heap.size ≠ (World.alloc _ _).heap.size; rw [World.size_alloc]; omega) | (show wr.heap.size ≠ _; omega)); have f2 := grown_cell hg (cell_old _ e2) (by first | (show wr.heap.size ≠ (World.alloc _ _).heap.size; rw [World.size_alloc]; omega) | (show wr.heap.size ≠ _; omega)); have f3 := grown_cell hg (cell_old _ e3) (by first | (show wr.heap.size ≠ (World.alloc _ _).heap.size; rw [World.size_alloc]; omega) | (show wr.heap.size ≠ _; omega)); have B3 : Aside0 (Below wr.heap.size wr w3) := ⟨grown_below2 ((B2.out).alloc (by first | exact Nat.le_of_lt hs2 | (rw [World.size_alloc]; omega)) (.cells #[.string q1, .string q2] 9)) hg (by omega) (by simp only [World.size_alloc]; omega)⟩)
          | (rw [if_pos (by rfl)]; refine (id ?_ : Oper.wp _ ⟨some 38, _, _, _, _, _⟩ _ _ _ _); refine wp_append_own _ (.tmp 28) (.tmp 37) 49 rfl wr.heap.size 9 iS (.string ⟨#[]⟩) 1 16 Tryd.underlying49 hiS hz0 hz1 hz2 rfl (by decide) (.slice (some ⟨_, 0, none⟩) 2 2) 2 [.string sw, .string g] rfl (TwoAt.row ((TwoAt.new y2 (.string sw) (.string g)).alloc (.cells #[.string q1, .string q2] 9)) (by omega)) ⟨_, 0, none⟩ n 2 ([.string q1, .string q2].take n) rfl (took_two hn2') (TwoAt.new1 y2 (.cells #[.string sw, .string g] 9) (.string q1) (.string q2)).cells took_one (by unfold maxLen; omega) (by omega) (by simp only [World.size_alloc]; omega) ?_; intro v9 w3 ho hg _; have f1 := grown_cell hg (cell_old _ (cell_old _ e1)) (by first | (show wr.heap.size ≠ (World.alloc _ _).heap.size; rw [World.size_alloc]; omega) | (show wr.heap.size ≠ _; omega)); have f2 := grown_cell hg (cell_old _ (cell_old _ e2)) (by first | (show wr.heap.size ≠ (World.alloc _ _).heap.size; rw [World.size_alloc]; omega) | (show wr.heap.size ≠ _; omega)); have f3 := grown_cell hg (cell_old _ (cell_old _ e3)) (by first | (show wr.heap.size ≠ (World.alloc _ _).heap.size; rw [World.size_alloc]; omega) | (show wr.heap.size ≠ _; omega)); have B3 : Aside0 (Below wr.heap.size wr w3) := ⟨grown_below2 (((B2.out).alloc (by first | exact Nat.le_of_lt hs2 | (rw [World.size_alloc]; omega)) (.cells #[.string sw, .string g] 9)).alloc (by first | exact Nat.le_of_lt hs2 | (rw [World.size_alloc]; omega)) (.cells #[.string q1, .string q2] 9)) hg (by omega) (by simp only [World.size_alloc]; omega)⟩)
          | (rw [if_pos (by rfl)]; refine (id ?_ : Oper.wp _ ⟨some 38, _, _, _, _, _⟩ _ _ _ _); refine wp_append_own _ (.tmp 28) (.tmp 37) 49 rfl wr.heap.size 9 iS (.string ⟨#[]⟩) 1 16 Tryd.underlying49 hiS hz0 hz1 hz2 rfl (by decide) (.slice (some ⟨_, 0, none⟩) 2 2) 2 [.string sw, .string g] rfl (TwoAt.row (TwoAt.new1 y2 (.cells #[.string q1, .string q2] 9) (.string sw) (.string g)) (by omega)) ⟨_, 0, none⟩ n 2 ([.string q1, .string q2].take n) rfl (took_two hn2') ((TwoAt.new y2 (.string q1) (.string q2)).alloc (.cells #[.string sw, .string g] 9)).cells took_one (by unfold maxLen; omega) (by omega) (by simp only [World.size_alloc]; omega) ?_; intro v9 w3 ho hg _; have f1 := grown_cell hg (cell_old _ (cell_old _ e1)) (by first | (show wr.heap.size ≠ (World.alloc _ _).heap.size; rw [World.size_alloc]; omega) | (show wr.heap.size ≠ _; omega)); have f2 := grown_cell hg (cell_old _ (cell_old _ e2)) (by first | (show wr.heap.size ≠ (World.alloc _ _).heap.size; rw [World.size_alloc]; omega) | (show wr.heap.size ≠ _; omega)); have f3 := grown_cell hg (cell_old _ (cell_old _ e3)) (by first | (show wr.heap.size ≠ (World.alloc _ _).heap.size; rw [World.size_alloc]; omega) | (show wr.heap.size ≠ _; omega)); have B3 : Aside0 (Below wr.heap.size wr w3) := ⟨grown_below2 (((B2.out).alloc (by first | exact Nat.le_of_lt hs2 | (rw [World.size_alloc]; omega)) (.cells #[.string q1, .string q2] 9)).alloc (by first | exact Nat.le_of_lt hs2 | (rw [World.size_alloc]; omega)) (.cells #[.string sw, .string g] 9)) hg (by omega) (by simp only [World.size_alloc]; omega)⟩))
        all_goals exact H _ _ _ _ _ _ _ _ _ _ _ _ _ _ _ q1 q2 w3 hq1 hq2 ho B3.out
    · have hke : k = l.length := by omega
      have HK := Aside0.mk hke
      have hlk : (l.length : Int) ≤ k := by omega
      have hall : (l.map rvOf).all rightB = true := by have := HA.out; rwa [HK.out, List.take_length] at this
      clear hke hlt
      by_cases h50 : 50 < (l.length : Int)
      · have HP := Aside0.mk (show printB (l.map rvOf) = ([], 3) by unfold printB; rw [if_pos hall, if_pos (by simp; omega)])
        clear hall
        go_wp2
        go_ret2
        refine ⟨⟨⟨#[]⟩, ?_, ?_⟩, HB.out⟩
        · rw [HP.out]; rfl
        · rw [HP.out]
      · have h50' : (l.length : Int) ≤ 50 := by omega
        have HP := Aside0.mk (show printB (l.map rvOf) = (linesOf (l.map rvOf), 0) by unfold printB; rw [if_pos hall, if_neg (by simp; omega)])
        have hbd := HBd.out
        rw [HK.out, List.take_length] at hbd
        have HIs := Aside0.mk (hbd.is (B := w.heap.size) (Nat.le_refl _) (by omega))
        clear h50 hall hbd
        go_wp2_with (go_at_call 37; refine (Tryd.Builder_String_any w.heap.size w.heap.size _ _ HIs.out (by omega)).mono ?_; rintro e W1 ⟨rfl, hbl⟩)
        go_ret2
        refine ⟨⟨⟨(linesOf (l.map rvOf)).toArray⟩, ?_, ?_⟩, HB.out.trans hbl⟩
        · rw [HP.out]; rfl
        · rw [HP.out]
end Go.Proofs.YthiplpgkgnebfaaDoor
