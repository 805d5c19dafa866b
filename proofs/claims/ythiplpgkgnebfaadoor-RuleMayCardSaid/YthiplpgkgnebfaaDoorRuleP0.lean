/- Rules and their texts, as functions over lists of bytes: no program in sight. -/
import Derived.Test.YthiplpgkgnebfaaDoorRight0
namespace Go.Proofs.YthiplpgkgnebfaaDoor

def signB (c : UInt8) : Bool := decide ((97 ≤ c.toNat ∧ c.toNat ≤ 122) ∨ (65 ≤ c.toNat ∧ c.toNat ≤ 90) ∨ (48 ≤ c.toNat ∧ c.toNat ≤ 57) ∨ c.toNat = 95)
def tokenB (s : List UInt8) : Bool := s != [] && s.all signB
def wildB (c : UInt8) : Bool := plainB c || c == 42 || c == 63
/-- Two stars side by side? -/
def starsB : List UInt8 → Bool
  | [] => false
  | a :: l => (a == 42 && l.head? == some 42) || starsB l
def patB (s : List UInt8) : Bool := s == [42, 42] || (nameB wildB s && !starsB s)
def globB (s : List UInt8) : Bool := (splitB 47 s).all patB && decide (s.length ≤ 100)
def hexB (n : Nat) : UInt8 := if n < 10 then UInt8.ofNat (48 + n) else UInt8.ofNat (87 + n)
def quietB (c : UInt8) : Bool := decide (32 < c.toNat ∧ c.toNat ≤ 126 ∧ c.toNat ≠ 37)
def encB (c : UInt8) : List UInt8 := if quietB c then [c] else [37, hexB (c.toNat / 16), hexB (c.toNat % 16)]
def quoteB (s : List UInt8) : List UInt8 := if s = [] then [37] else s.flatMap encB
/-- What a sign is worth, in lower case. -/
def digB (c : UInt8) : Option Nat := if 48 ≤ c.toNat ∧ c.toNat ≤ 57 then some (c.toNat - 48) else if 97 ≤ c.toNat ∧ c.toNat ≤ 102 then some (c.toNat - 87) else none
/-- The way back. -/
def decB : List UInt8 → List UInt8
  | [] => []
  | [a] => [a]
  | [a, b] => [a, b]
  | c :: a :: b :: l => if c = 37 then (match digB a, digB b with | some x, some y => UInt8.ofNat (16 * x + y) :: decB l | _, _ => c :: decB (a :: b :: l)) else c :: decB (a :: b :: l)
def unqB (s : List UInt8) : Option (List UInt8) := if s = [37] then some [] else if quoteB (decB s) = s then some (decB s) else none

structure RuleV where
  kind : Int
  glob : List UInt8
  old : List UInt8
  new : List UInt8
deriving DecidableEq

def replaceW : List UInt8 := [114, 101, 112, 108, 97, 99, 101]
def insertW : List UInt8 := [105, 110, 115, 101, 114, 116]
def strikeW : List UInt8 := [115, 116, 114, 105, 107, 101]
def renameW : List UInt8 := [114, 101, 110, 97, 109, 101]
def removeW : List UInt8 := [114, 101, 109, 111, 118, 101]
def kindW (k : Int) : List UInt8 × Nat := if k = 1 then (replaceW, 2) else if k = 2 then (insertW, 2) else if k = 3 then (strikeW, 1) else if k = 4 then (renameW, 2) else if k = 5 then (removeW, 0) else ([], 0)
def wordK (w : List UInt8) : Option (Int × Nat) := if w = replaceW then some (1, 2) else if w = insertW then some (2, 2) else if w = strikeW then some (3, 1) else if w = renameW then some (4, 2) else if w = removeW then some (5, 0) else none
def rightB (r : RuleV) : Bool := globB r.glob && decide (r.old.length ≤ 100) && decide (r.new.length ≤ 100) &&
  (if r.kind = 1 then tokenB r.old else if r.kind = 2 then !(r.old.contains 10) && !(r.new.contains 10) else if r.kind = 3 then !(r.old.contains 10) && r.new == [] else if r.kind = 4 then pathRight r.old && pathRight r.new else if r.kind = 5 then r.old == [] && r.new == [] else false)
def lineB (r : RuleV) : List UInt8 := (kindW r.kind).1 ++ 32 :: (r.glob ++ ((if 0 < (kindW r.kind).2 then 32 :: quoteB r.old else []) ++ (if 1 < (kindW r.kind).2 then 32 :: quoteB r.new else [])))
def linesOf (l : List RuleV) : List UInt8 := l.flatMap fun r => lineB r ++ [10]
def printB (l : List RuleV) : List UInt8 × Int := if l.all rightB then (if 50 < l.length then ([], 3) else (linesOf l, 0)) else ([], 2)
/-- A rule, if it may be. -/
def mayB (r : RuleV) : Option RuleV := if rightB r then some r else none
def oneB (w : List (List UInt8)) : Option RuleV :=
  match wordK (w.headD []) with
  | none => none
  | some (k, n) => if w.length = 2 + n then
      (if n = 0 then mayB ⟨k, w.getD 1 [], [], []⟩ else
        match unqB (w.getD 2 []) with
        | none => none
        | some o => if n = 1 then mayB ⟨k, w.getD 1 [], o, []⟩ else (match unqB (w.getD 3 []) with | none => none | some m => mayB ⟨k, w.getD 1 [], o, m⟩))
    else none
def linesB : List (List UInt8) → Option (List RuleV)
  | [] => some []
  | x :: l => if x = [] then linesB l else match oneB (splitB 32 x) with | none => none | some r => (linesB l).map (r :: ·)
def parseB (s : List UInt8) : List RuleV × Int := if 16384 < s.length then ([], 3) else match linesB (splitB 10 s) with | none => ([], 11) | some l => if 50 < l.length then ([], 3) else (l, 0)

-- ==== words
theorem hex_dig : ∀ n, n < 16 → digB (hexB n) = some n := by decide
theorem hex_range : ∀ n, n < 16 → 33 ≤ (hexB n).toNat ∧ (hexB n).toNat ≤ 126 := by decide
theorem enc_dec (c : UInt8) (l : List UInt8) : decB (encB c ++ l) = c :: decB l := by
  have hc := c.toNat_lt
  unfold encB
  by_cases h : quietB c = true
  · have h37 : c ≠ 37 := by rintro rfl; exact absurd h (by decide)
    rw [if_pos h]
    match l with
    | [] => rfl
    | [a] => rfl
    | a :: b :: l => simp [decB, h37]
  · rw [if_neg h]
    have e : UInt8.ofNat (16 * (c.toNat / 16) + c.toNat % 16) = c := by rw [Nat.div_add_mod]; exact UInt8.ofNat_toNat
    simp only [List.cons_append, List.nil_append, decB, if_true]
    rw [hex_dig _ (by omega), hex_dig _ (by omega)]
    simp [e]
theorem dec_quote {t : List UInt8} (h : t ≠ []) : decB (quoteB t) = t := by
  unfold quoteB; rw [if_neg h]
  clear h
  induction t with
  | nil => rfl
  | cons c t ih => rw [List.flatMap_cons, enc_dec, ih]
theorem enc_len (c : UInt8) : (encB c).length = 1 ∨ (encB c).length = 3 := by unfold encB; split <;> simp
theorem quote_ne_pc {t : List UInt8} (h : t ≠ []) : quoteB t ≠ [37] := by
  intro e
  have := dec_quote h
  rw [e] at this
  rw [show decB [37] = [37] from rfl] at this
  rw [← this] at e
  exact absurd e (by decide)
theorem unqB_some {s t : List UInt8} : unqB s = some t ↔ quoteB t = s := by
  unfold unqB
  constructor
  · intro h
    split at h
    · rename_i e; cases h; rw [e]; rfl
    · split at h
      · rename_i e; cases h; exact e
      · cases h
  · rintro rfl
    by_cases h : t = []
    · subst h; rfl
    · rw [if_neg (quote_ne_pc h), dec_quote h, if_pos rfl]
theorem unq_quote (t : List UInt8) : unqB (quoteB t) = some t := unqB_some.2 rfl
theorem unq_of (f : List UInt8 → Option (List UInt8)) (hf : ∀ t, t ≠ [] → f (quoteB t) = some t) (s : List UInt8) :
    (if s = [37] then some [] else match f s with | none => none | some o => if quoteB o = s then some o else none) = unqB s := by
  cases hu : unqB s with
  | none =>
    have hn : ∀ t, quoteB t ≠ s := fun t e => by have := unqB_some.2 e; rw [hu] at this; cases this
    rw [if_neg (fun e => hn [] (by rw [e]; rfl))]
    cases f s with
    | none => rfl
    | some o => simp [hn o]
  | some t =>
    have e := unqB_some.1 hu
    by_cases ht : t = []
    · subst ht; rw [← e]; rfl
    · rw [← e, if_neg (quote_ne_pc ht), hf t ht]; simp
theorem enc_range {c b : UInt8} (h : b ∈ encB c) : 33 ≤ b.toNat ∧ b.toNat ≤ 126 := by
  have hc := c.toNat_lt
  unfold encB at h
  split at h
  · rename_i hq
    simp at h; subst h
    simp [quietB] at hq; omega
  · simp at h
    rcases h with rfl | rfl | rfl
    · decide
    · exact hex_range _ (by omega)
    · exact hex_range _ (by omega)
theorem quote_range {t : List UInt8} {b : UInt8} (h : b ∈ quoteB t) : 33 ≤ b.toNat ∧ b.toNat ≤ 126 := by
  unfold quoteB at h
  split at h
  · simp at h; subst h; decide
  · obtain ⟨c, _, hb⟩ := List.mem_flatMap.1 h
    exact enc_range hb
theorem quote_ne (t : List UInt8) : quoteB t ≠ [] := by
  unfold quoteB
  split
  · simp
  · rename_i h
    cases t with
    | nil => exact absurd rfl h
    | cons c t =>
      rw [List.flatMap_cons]; intro e
      have h2 := congrArg List.length e
      rw [List.length_append, List.length_nil] at h2
      rcases enc_len c with h3 | h3 <;> omega
theorem quote_inj {s t : List UInt8} : quoteB s = quoteB t ↔ s = t := by
  constructor
  · intro h
    have := unq_quote s
    rw [h, unq_quote] at this
    exact (Option.some.inj this).symm
  · rintro rfl; rfl
theorem quote_len (t : List UInt8) : (quoteB t).length ≤ 3 * t.length + 1 := by
  unfold quoteB
  split
  · simp
  · have key : ∀ u : List UInt8, (u.flatMap encB).length ≤ 3 * u.length := by
      intro u
      induction u with
      | nil => simp
      | cons c u ih => rw [List.flatMap_cons, List.length_append]; have := enc_len c; simp only [List.length_cons]; omega
    have := key t; omega

-- ==== pieces
theorem split_none {c : UInt8} {l : List UInt8} (h : c ∉ l) : splitB c l = [l] := by
  induction l with
  | nil => rfl
  | cons b l ih =>
    simp at h
    simp only [splitB]
    rw [if_neg (by intro e; exact h.1 (by simpa using e.symm)), ih h.2]
theorem split_app (c : UInt8) (x y : List UInt8) : splitB c (x ++ c :: y) = splitB c x ++ splitB c y := by
  induction x with
  | nil => simp [splitB]
  | cons b x ih =>
    simp only [List.cons_append, splitB]
    split
    · rw [ih]; rfl
    · rw [ih]
      cases hs : splitB c x with
      | nil => exact absurd hs (splitB_ne c x)
      | cons p ps => rfl
theorem split_mem {c b : UInt8} : ∀ {s : List UInt8}, b ∈ s → b = c ∨ ∃ p ∈ splitB c s, b ∈ p
  | [], h => by simp at h
  | a :: s, h => by
    simp only [splitB]
    rcases List.mem_cons.1 h with rfl | h
    · split
      · rename_i e; exact .inl (by simpa using e)
      · cases hs : splitB c s with
        | nil => exact absurd hs (splitB_ne c s)
        | cons p ps => exact .inr ⟨b :: p, List.mem_cons_self, List.mem_cons_self⟩
    · rcases split_mem (c := c) h with e | ⟨p, hp, hb⟩
      · exact .inl e
      · refine .inr ?_
        split
        · exact ⟨p, by simp [hp], hb⟩
        · cases hs : splitB c s with
          | nil => exact absurd hs (splitB_ne c s)
          | cons q ps =>
            rw [hs] at hp
            rcases List.mem_cons.1 hp with rfl | hp
            · exact ⟨a :: p, List.mem_cons_self, List.mem_cons_of_mem _ hb⟩
            · exact ⟨p, by simp [hp], hb⟩
/-- A sign between. -/
def joinB (c : UInt8) : List (List UInt8) → List UInt8
  | [] => []
  | [x] => x
  | x :: y :: l => x ++ c :: joinB c (y :: l)
theorem join_split (c : UInt8) : ∀ s, joinB c (splitB c s) = s
  | [] => rfl
  | b :: s => by
    have ih := join_split c s
    simp only [splitB]
    cases hs : splitB c s with
    | nil => exact absurd hs (splitB_ne c s)
    | cons p ps =>
      rw [hs] at ih
      split
      · rename_i e
        have e : b = c := by simpa using e
        subst e
        simp [joinB, ih]
      · cases ps with
        | nil => simp [joinB] at ih ⊢; exact ih
        | cons q ps => simp [joinB] at ih ⊢; exact ih
end Go.Proofs.YthiplpgkgnebfaaDoor
