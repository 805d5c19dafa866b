/- Rules and their texts: what is printed is parsed as it was, and the other way round. -/
import Derived.Test.YthiplpgkgnebfaaDoorRuleP0
namespace Go.Proofs.YthiplpgkgnebfaaDoor

theorem name_mem {may : UInt8 → Bool} {s : List UInt8} {b : UInt8} (h : nameB may s = true) (hb : b ∈ s) : may b = true := by
  unfold nameB at h
  simp only [Bool.and_eq_true, List.all_eq_true] at h
  exact h.1.1.1.1 b hb
theorem wild_range {b : UInt8} (h : wildB b = true) : 33 ≤ b.toNat ∧ b.toNat ≤ 126 := by
  simp only [wildB, plainB, Bool.or_eq_true, decide_eq_true_eq, beq_iff_eq] at h
  rcases h with (h | rfl) | rfl
  · omega
  · decide
  · decide
theorem pat_mem {s : List UInt8} {b : UInt8} (h : patB s = true) (hb : b ∈ s) : wildB b = true := by
  unfold patB at h
  rcases Bool.or_eq_true _ _ ▸ h with h | h
  · have e : s = [42, 42] := by simpa using h
    subst e; simp at hb; subst hb; decide
  · exact name_mem ((Bool.and_eq_true _ _ ▸ h).1) hb
theorem glob_range {s : List UInt8} {b : UInt8} (h : globB s = true) (hb : b ∈ s) : 33 ≤ b.toNat ∧ b.toNat ≤ 126 := by
  unfold globB at h
  have h := (Bool.and_eq_true _ _ ▸ h).1
  rcases split_mem (c := 47) hb with rfl | ⟨p, hp, hb⟩
  · decide
  · exact wild_range (pat_mem (List.all_eq_true.1 h p hp) hb)
theorem not_mem_of {l : List UInt8} {c : UInt8} (h : ∀ b ∈ l, 33 ≤ b.toNat ∧ b.toNat ≤ 126) (hc : c.toNat < 33) : c ∉ l := fun hm => by have := h c hm; omega
theorem right_glob {r : RuleV} (h : rightB r = true) : globB r.glob = true := by
  unfold rightB at h; simp only [Bool.and_eq_true] at h; exact h.1.1.1
theorem right_kinds {r : RuleV} (h : rightB r = true) : r.kind = 1 ∨ r.kind = 2 ∨ (r.kind = 3 ∧ r.new = []) ∨ r.kind = 4 ∨ (r.kind = 5 ∧ r.old = [] ∧ r.new = []) := by
  unfold rightB at h; simp only [Bool.and_eq_true] at h
  have h := h.2
  split at h
  · simp [*]
  · split at h
    · simp [*]
    · split at h
      · simp at h; simp [*]
      · split at h
        · simp [*]
        · split at h
          · simp at h; simp [*]
          · cases h

def wordsL (r : RuleV) : List (List UInt8) := (kindW r.kind).1 :: r.glob :: ((if 0 < (kindW r.kind).2 then [quoteB r.old] else []) ++ (if 1 < (kindW r.kind).2 then [quoteB r.new] else []))
theorem split_line {r : RuleV} (h : rightB r = true) : splitB 32 (lineB r) = wordsL r := by
  have hg : splitB 32 r.glob = [r.glob] := split_none (not_mem_of (fun b hb => glob_range (right_glob h) hb) (by decide))
  have ho : splitB 32 (quoteB r.old) = [quoteB r.old] := split_none (not_mem_of (fun b hb => quote_range hb) (by decide))
  have hn : splitB 32 (quoteB r.new) = [quoteB r.new] := split_none (not_mem_of (fun b hb => quote_range hb) (by decide))
  have hw : splitB 32 (kindW r.kind).1 = [(kindW r.kind).1] := by
    rcases right_kinds h with e | e | ⟨e, _⟩ | e | ⟨e, _⟩ <;> rw [e] <;> decide
  unfold lineB wordsL
  rw [split_app, hw]
  by_cases h0 : 0 < (kindW r.kind).2
  · by_cases h1 : 1 < (kindW r.kind).2
    · simp only [if_pos h0, if_pos h1, List.cons_append, split_app, hg, ho, hn]; rfl
    · simp only [if_pos h0, if_neg h1, List.cons_append, List.append_nil, split_app, hg, ho]; rfl
  · have h1 : ¬ 1 < (kindW r.kind).2 := by omega
    simp only [if_neg h0, if_neg h1, List.append_nil, hg]; rfl
theorem one_line {r : RuleV} (h : rightB r = true) : oneB (splitB 32 (lineB r)) = some r := by
  rw [split_line h]
  obtain ⟨k, g, o, n⟩ := r
  rcases right_kinds h with e | e | ⟨e, e2⟩ | e | ⟨e, e2, e3⟩ <;> dsimp only at e <;> subst e
  · rw [show wordsL ⟨1, g, o, n⟩ = [replaceW, g, quoteB o, quoteB n] from rfl]
    simp [oneB, show wordK replaceW = some (1, 2) by decide, unq_quote, mayB, h]
  · rw [show wordsL ⟨2, g, o, n⟩ = [insertW, g, quoteB o, quoteB n] from rfl]
    simp [oneB, show wordK insertW = some (2, 2) by decide, unq_quote, mayB, h]
  · dsimp only at e2; subst e2
    rw [show wordsL ⟨3, g, o, []⟩ = [strikeW, g, quoteB o] from rfl]
    simp [oneB, show wordK strikeW = some (3, 1) by decide, unq_quote, mayB, h]
  · rw [show wordsL ⟨4, g, o, n⟩ = [renameW, g, quoteB o, quoteB n] from rfl]
    simp [oneB, show wordK renameW = some (4, 2) by decide, unq_quote, mayB, h]
  · dsimp only at e2 e3; subst e2; subst e3
    rw [show wordsL ⟨5, g, [], []⟩ = [removeW, g] from rfl]
    simp [oneB, show wordK removeW = some (5, 0) by decide, mayB, h]

theorem wordK_some {w : List UInt8} {k : Int} {n : Nat} (h : wordK w = some (k, n)) : kindW k = (w, n) := by
  unfold wordK at h
  split at h
  · cases h; rename_i e; rw [e]; rfl
  · split at h
    · cases h; rename_i e; rw [e]; rfl
    · split at h
      · cases h; rename_i e; rw [e]; rfl
      · split at h
        · cases h; rename_i e; rw [e]; rfl
        · split at h
          · cases h; rename_i e; rw [e]; rfl
          · cases h
theorem wordK_le {w : List UInt8} {k : Int} {n : Nat} (h : wordK w = some (k, n)) : n ≤ 2 := by
  unfold wordK at h
  repeat' split at h
  all_goals cases h
  all_goals omega
theorem mayB_some {r s : RuleV} (h : mayB r = some s) : r = s ∧ rightB s = true := by
  unfold mayB at h; split at h
  · cases h; rename_i e; exact ⟨rfl, e⟩
  · cases h
theorem one_back {x : List UInt8} {r : RuleV} (h : oneB (splitB 32 x) = some r) : rightB r = true ∧ lineB r = x := by
  have hj := join_split 32 x
  generalize splitB 32 x = w at h hj
  unfold oneB at h
  split at h
  · cases h
  · rename_i k n hw
    have hk := wordK_some hw
    have hle := wordK_le hw
    split at h
    · rename_i hlen
      match w, hlen with
      | [w0, w1], hlen =>
        have h0 : n = 0 := by simp at hlen; omega
        subst h0
        rw [if_pos rfl] at h
        obtain ⟨e, hr⟩ := mayB_some h
        refine ⟨hr, ?_⟩
        subst e
        rw [← hj]
        simp only [List.headD_cons] at hk
        simp [lineB, hk, joinB]
      | [w0, w1, w2], hlen =>
        have h0 : n = 1 := by simp at hlen; omega
        subst h0
        rw [if_neg (by decide)] at h
        split at h
        · cases h
        · rename_i o ho
          rw [if_pos rfl] at h
          obtain ⟨e, hr⟩ := mayB_some h
          refine ⟨hr, ?_⟩
          subst e
          rw [← hj]
          simp only [List.headD_cons] at hk
          have ho : quoteB o = w2 := unqB_some.1 (by simpa using ho)
          simp [lineB, hk, joinB, ho]
      | [w0, w1, w2, w3], hlen =>
        have h0 : n = 2 := by simp at hlen; omega
        subst h0
        rw [if_neg (by decide)] at h
        split at h
        · cases h
        · rename_i o ho
          rw [if_neg (by decide)] at h
          split at h
          · cases h
          · rename_i m hm
            obtain ⟨e, hr⟩ := mayB_some h
            refine ⟨hr, ?_⟩
            subst e
            rw [← hj]
            simp only [List.headD_cons] at hk
            have ho : quoteB o = w2 := unqB_some.1 (by simpa using ho)
            have hm : quoteB m = w3 := unqB_some.1 (by simpa using hm)
            simp [lineB, hk, joinB, ho, hm]
      | [], hlen => simp at hlen; omega
      | [_], hlen => simp at hlen; omega
      | _ :: _ :: _ :: _ :: _ :: _, hlen => simp at hlen; omega
    · cases h

-- ==== lines
theorem lines_app (a b : List (List UInt8)) : linesB (a ++ b) = (linesB a).bind fun x => (linesB b).map (x ++ ·) := by
  induction a with
  | nil => simp [linesB]
  | cons x a ih =>
    simp only [List.cons_append, linesB]
    split
    · exact ih
    · cases oneB (splitB 32 x) with
      | none => rfl
      | some r =>
        dsimp only
        rw [ih]
        cases linesB a with
        | none => rfl
        | some y => cases linesB b <;> simp
theorem word_range {k : Int} {b : UInt8} (h : b ∈ (kindW k).1) : 33 ≤ b.toNat ∧ b.toNat ≤ 126 := by
  unfold kindW at h
  have key : ∀ w ∈ [replaceW, insertW, strikeW, renameW, removeW], ∀ b ∈ w, 33 ≤ b.toNat ∧ b.toNat ≤ 126 := by decide
  repeat' split at h
  · exact key _ (by simp) _ h
  · exact key _ (by simp) _ h
  · exact key _ (by simp) _ h
  · exact key _ (by simp) _ h
  · exact key _ (by simp) _ h
  · simp at h
theorem line_mem {r : RuleV} (h : rightB r = true) {b : UInt8} (hb : b ∈ lineB r) : 32 ≤ b.toNat := by
  unfold lineB at hb
  rcases List.mem_append.1 hb with hb | hb
  · have := word_range hb; omega
  · rcases List.mem_cons.1 hb with rfl | hb
    · decide
    · rcases List.mem_append.1 hb with hb | hb
      · have := glob_range (right_glob h) hb; omega
      · rcases List.mem_append.1 hb with hb | hb
        · split at hb
          · rcases List.mem_cons.1 hb with rfl | hb
            · decide
            · have := quote_range hb; omega
          · simp at hb
        · split at hb
          · rcases List.mem_cons.1 hb with rfl | hb
            · decide
            · have := quote_range hb; omega
          · simp at hb
theorem line_ne (r : RuleV) : lineB r ≠ [] := by unfold lineB; simp
theorem lines_of : ∀ (l : List RuleV) (rest : List UInt8), l.all rightB = true → linesB (splitB 10 (linesOf l ++ rest)) = (linesB (splitB 10 rest)).map (l ++ ·)
  | [], rest, _ => by simp [linesOf]
  | r :: l, rest, h => by
    simp only [List.all_cons, Bool.and_eq_true] at h
    have hs : splitB 10 (linesOf (r :: l) ++ rest) = lineB r :: splitB 10 (linesOf l ++ rest) := by
      have e : linesOf (r :: l) ++ rest = lineB r ++ 10 :: (linesOf l ++ rest) := by simp [linesOf]
      rw [e, split_app, split_none]
      · rfl
      · intro hm; have := line_mem h.1 hm; simp at this
    rw [hs]
    simp only [linesB]
    rw [if_neg (line_ne r), one_line h.1]
    dsimp only
    rw [lines_of l rest h.2]
    cases linesB (splitB 10 rest) <;> simp
theorem lines_back : ∀ (ps : List (List UInt8)) (l : List RuleV), linesB ps = some l → l.all rightB = true ∧ linesOf l = (ps.filter (· != [])).flatMap (· ++ [10])
  | [], l, h => by simp [linesB] at h; subst h; simp [linesOf]
  | x :: ps, l, h => by
    simp only [linesB] at h
    split at h
    · rename_i e
      have := lines_back ps l h
      subst e; simpa using this
    · rename_i hx
      cases ho : oneB (splitB 32 x) with
      | none => rw [ho] at h; cases h
      | some r =>
        rw [ho] at h
        dsimp only at h
        cases hl : linesB ps with
        | none => rw [hl] at h; cases h
        | some m =>
          rw [hl] at h
          simp at h
          subst h
          have ih := lines_back ps m hl
          obtain ⟨hr, e⟩ := one_back ho
          refine ⟨by simp [hr]; simpa using ih.1, ?_⟩
          have e2 : linesOf (r :: m) = (lineB r ++ [10]) ++ linesOf m := by simp [linesOf]
          rw [e2, ih.2, e, List.filter_cons_of_pos (by simpa using hx), List.flatMap_cons]
theorem split_sum (c : UInt8) : ∀ s, ((splitB c s).flatMap (· ++ [c])).length = s.length + 1
  | [] => by simp [splitB]
  | b :: s => by
    have ih := split_sum c s
    simp only [splitB]
    cases hs : splitB c s with
    | nil => exact absurd hs (splitB_ne c s)
    | cons p ps =>
      rw [hs] at ih
      split
      · simp at ih ⊢; omega
      · simp at ih ⊢; omega
theorem flat_filter_le (ps : List (List UInt8)) : ((ps.filter (· != [])).flatMap (· ++ [10])).length ≤ (ps.flatMap (· ++ [(10 : UInt8)])).length := by
  induction ps with
  | nil => simp
  | cons x ps ih =>
    by_cases h : (x != []) = true
    · rw [List.filter_cons_of_pos (p := fun x => x != []) h]; simp only [List.flatMap_cons, List.length_append]; omega
    · rw [List.filter_cons_of_neg (p := fun x => x != []) h]; simp only [List.flatMap_cons, List.length_append]; omega

-- ==== the laws, of lists
theorem parse_lines {s : List UInt8} {l : List RuleV} (h : parseB s = (l, 0)) : linesB (splitB 10 s) = some l ∧ l.length ≤ 50 ∧ s.length ≤ 16384 := by
  unfold parseB at h
  split at h
  · cases h
  · split at h
    · cases h
    · split at h
      · cases h
      · cases h; rename_i h1 _ h2; exact ⟨by assumption, by omega, by omega⟩
theorem print_ok {l : List RuleV} {a : List UInt8} (h : printB l = (a, 0)) : l.all rightB = true ∧ l.length ≤ 50 ∧ a = linesOf l := by
  unfold printB at h
  split at h
  · split at h
    · cases h
    · cases h; exact ⟨by assumption, by omega, rfl⟩
  · cases h
theorem parse_of {s : List UInt8} {l : List RuleV} (h : linesB (splitB 10 s) = some l) (hs : s.length ≤ 16384) (hl : l.length ≤ 50) : parseB s = (l, 0) := by
  unfold parseB; rw [if_neg (by omega), h]; dsimp only; rw [if_neg (by omega)]
theorem back_print {l : List RuleV} {a : List UInt8} (h : printB l = (a, 0)) (ha : a.length + 2 ≤ 16384) : parseB (10 :: (a ++ [10])) = (l, 0) := by
  obtain ⟨hr, hl, rfl⟩ := print_ok h
  refine parse_of ?_ (by simp; omega) hl
  rw [show splitB 10 (10 :: (linesOf l ++ [10])) = [] :: splitB 10 (linesOf l ++ [10]) from by simp [splitB]]
  simp only [linesB, if_true]
  rw [lines_of l [10] hr]
  simp [splitB, linesB]
theorem back_parse {s : List UInt8} {n : List RuleV} (h : parseB s = (n, 0)) (hs : s.length ≤ 16383) : n.all rightB = true ∧ printB n = (linesOf n, 0) ∧ parseB (linesOf n) = (n, 0) := by
  obtain ⟨hl, hn, _⟩ := parse_lines h
  obtain ⟨hr, he⟩ := lines_back _ _ hl
  refine ⟨hr, ?_, parse_of ?_ ?_ hn⟩
  · unfold printB; rw [if_pos hr, if_neg (by omega)]
  · have := lines_of n [] hr
    rw [List.append_nil] at this
    rw [this]; simp [splitB, linesB]
  · rw [he]
    have h1 := flat_filter_le (splitB 10 s)
    rw [split_sum] at h1
    omega
theorem parse_err {s : List UInt8} {n : List RuleV} {e : Int} (h : parseB s = (n, e)) (he : e ≠ 0) : n = [] := by
  unfold parseB at h
  repeat' split at h
  all_goals cases h
  all_goals first | rfl | exact absurd rfl he
theorem lines_two {a b : List RuleV} {x y : List UInt8} (ha : printB a = (x, 0)) (hb : printB b = (y, 0)) (hl : x.length + y.length ≤ 16384) :
    parseB (x ++ y) = if 50 < (a ++ b).length then ([], 3) else (a ++ b, 0) := by
  obtain ⟨ra, _, rfl⟩ := print_ok ha
  obtain ⟨rb, _, rfl⟩ := print_ok hb
  have h2 := lines_of b [] rb
  rw [List.append_nil] at h2
  have h1 := lines_of a (linesOf b) ra
  rw [h2] at h1
  simp [splitB, linesB] at h1
  unfold parseB
  rw [if_neg (by simp; omega), h1]
theorem line_len (r : RuleV) : (lineB r).length + 1 ≤ 13 + r.glob.length + 3 * r.old.length + 3 * r.new.length := by
  have h1 := quote_len r.old
  have h2 := quote_len r.new
  have h3 : (kindW r.kind).1.length ≤ 7 := by unfold kindW; (repeat' split) <;> first | decide | simp
  unfold lineB
  simp only [List.length_append, List.length_cons]
  split <;> split <;> simp only [List.length_cons, List.length_nil] <;> omega
def longB (l : List RuleV) : Nat := (l.map fun r => 1 + r.glob.length + r.old.length + r.new.length).sum
theorem lines_len (l : List RuleV) : (linesOf l).length ≤ 10 * l.length + 3 * longB l := by
  induction l with
  | nil => simp [linesOf]
  | cons r l ih =>
    have := line_len r
    have e2 : linesOf (r :: l) = (lineB r ++ [10]) ++ linesOf l := by simp [linesOf]
    rw [e2]
    simp only [List.length_append, List.length_cons, List.length_nil, longB, List.map_cons, List.sum_cons] at ih ⊢
    omega
theorem wrong_of {a b : List RuleV} {x y odd : List UInt8} (ha : printB a = (x, 0)) (hb : printB b = (y, 0)) (hodd : oneB (splitB 32 odd) = none) (h0 : odd ≠ []) (h10 : 10 ∉ odd) (hl : x.length + odd.length + 1 + y.length ≤ 16384) :
    parseB (x ++ odd ++ [10] ++ y) = ([], 11) := by
  obtain ⟨ra, _, rfl⟩ := print_ok ha
  obtain ⟨rb, _, rfl⟩ := print_ok hb
  have h1 := lines_of a (odd ++ 10 :: linesOf b) ra
  rw [split_app, split_none h10, List.singleton_append] at h1
  have h2 : linesB (odd :: splitB 10 (linesOf b)) = none := by simp only [linesB]; rw [if_neg h0, hodd]
  rw [h2] at h1
  unfold parseB
  rw [if_neg (by simp; omega)]
  rw [show linesOf a ++ odd ++ [10] ++ linesOf b = linesOf a ++ (odd ++ 10 :: linesOf b) from by simp, h1]
  rfl
theorem token_app {a b : List UInt8} (ha : tokenB a = true) (hb : tokenB b = true) : tokenB (a ++ b) = true := by
  simp only [tokenB, Bool.and_eq_true, bne_iff_ne, ne_eq] at ha hb ⊢
  exact ⟨by simp [ha.1], by rw [List.all_append, ha.2, hb.2]; rfl⟩
theorem token_mid {a b : List UInt8} (c : UInt8) (ha : tokenB a = true) (hb : tokenB b = true) : tokenB (a ++ [c] ++ b) = signB c := by
  simp only [tokenB, Bool.and_eq_true, bne_iff_ne, ne_eq] at ha hb ⊢
  rw [List.all_append, List.all_append, ha.2, hb.2]
  have : (a ++ [c] ++ b != []) = true := by simp
  rw [this]; simp
theorem token_one (c : UInt8) : tokenB [c] = signB c := by simp [tokenB]
theorem known_print : printB [⟨1, [42, 42], [97], [98]⟩] = ([114, 101, 112, 108, 97, 99, 101, 32, 42, 42, 32, 97, 32, 98, 10], 0) := by decide
theorem known_parse : parseB [114, 101, 112, 108, 97, 99, 101, 32, 42, 42, 32, 97, 32, 98, 10] = ([⟨1, [42, 42], [97], [98]⟩], 0) := by decide
theorem known_wrong : parseB [114, 101, 112, 108, 97, 99, 101, 32, 42, 42, 32, 97, 45, 98, 32, 99] = ([], 11) := by decide
end Go.Proofs.YthiplpgkgnebfaaDoor
