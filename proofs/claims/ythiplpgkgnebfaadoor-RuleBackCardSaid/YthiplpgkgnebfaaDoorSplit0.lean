/- strings.SplitSeq at a separator of one byte, ranged over: its pieces, one by one. -/
import Derived.Test.YthiplpgkgnebfaaDoorIndex0
import Derived.RangeFuncNested
import Derived.RangeFuncBound
import Derived.RangeFuncCalls
import Derived.RangeFuncLeaves
import Derived.Shelf.Abstract
import Derived.Shelf.RegionOpen
import Derived.OwnWalkIn
import Derived.TacticsInMore
import Derived.LoopNIn
import Derived.LoopIn
namespace Go.Proofs.YthiplpgkgnebfaaDoor
open Go.RowKit Go.Shelf
attribute [local go_sem] Oper.semAt_some

/-- The pieces between separators. -/
def splitB (c : UInt8) : List UInt8 → List (List UInt8)
  | [] => [[]]
  | b :: l => if b = c then [] :: splitB c l else match splitB c l with
    | [] => [[b]]
    | p :: ps => (b :: p) :: ps
theorem splitB_ne (c : UInt8) (l : List UInt8) : splitB c l ≠ [] := by
  cases l with
  | nil => simp [splitB]
  | cons b l => simp only [splitB]; split; · simp
                split <;> simp
theorem splitB_none (c : UInt8) : ∀ l : List UInt8, c ∉ l → splitB c l = [l]
  | [], _ => rfl
  | b :: l, h => by
    have hb : b ≠ c := fun e => h (by simp [e])
    simp only [splitB, if_neg hb, splitB_none c l (fun hm => h (List.mem_cons_of_mem _ hm))]
theorem splitB_cons (c : UInt8) : ∀ a b : List UInt8, c ∉ a → splitB c (a ++ c :: b) = a :: splitB c b
  | [], b, _ => by simp [splitB]
  | x :: a, b, h => by
    have hx : x ≠ c := fun e => h (by simp [e])
    simp only [List.cons_append, splitB, if_neg hx, splitB_cons c a b (fun hm => h (List.mem_cons_of_mem _ hm))]

abbrev bs (s : ByteArray) : List UInt8 := s.data.toList

theorem bs_take (t : ByteArray) (a r : List UInt8) (h : bs t = a ++ r) : bs (t.extract 0 a.length) = a := by
  have : (t.extract 0 a.length).data.toList = (t.data.toList.take a.length) := by simp [ByteArray.data_extract]
  show (t.extract 0 a.length).data.toList = a
  rw [this]; show (bs t).take a.length = a
  rw [h]; simp
theorem bs_drop (t : ByteArray) (a b : List UInt8) (c : UInt8) (h : bs t = a ++ c :: b) : bs (t.extract (a.length + 1) t.size) = b := by
  have e : t.size = (bs t).length := by simp [bs]
  have : (t.extract (a.length + 1) t.size).data.toList = (t.data.toList.take t.size).drop (a.length + 1) := by simp [ByteArray.data_extract, List.drop_take]
  show (t.extract (a.length + 1) t.size).data.toList = b
  rw [this, e]; show ((bs t).take (bs t).length).drop (a.length + 1) = b
  rw [List.take_length, h]; simp
theorem size_drop (t : ByteArray) (i : Nat) : (t.extract i t.size).size = t.size - i := by simp
def strAt (w : World) (b : Nat) : Nat := match w.cell? ⟨b, 0, none⟩ with
  | some (.string t) => t.size
  | _ => 0
/-- What a range over the pieces asks and gives: J: between two rounds; Jx: a round has said 'no more'. -/
structure SplitRounds (P : Program) (l Bsep Bs Bsv : Nat) (c : UInt8) (J : List (List UInt8) → World → Prop) (Jx : World → Prop) (ps : List (List UInt8)) : Prop where
  cells : ∀ {pre W}, J pre W → W.cell? ⟨Bsep, 0, none⟩ = some (.string ⟨#[c]⟩) ∧ W.cell? ⟨Bsv, 0, none⟩ = some (.int .i64 0) ∧ W.frozen? ⟨Bs, 0, none⟩ = false
  store : ∀ {pre W v}, J pre W → J pre (W.setCell ⟨Bs, 0, none⟩ v)
  round : ∀ {pre rest W} (x t : ByteArray), J pre W → W.cell? ⟨Bs, 0, none⟩ = some (.string t) → ps = pre ++ bs x :: rest →
    YieldAt Fence.wide 2 P l #[.string x] W fun e W' => (e = .returned (.bool true) ∧ J (pre ++ [bs x]) W' ∧ W'.cell? ⟨Bs, 0, none⟩ = some (.string t)) ∨ (e = .returned (.bool false) ∧ Jx W')

set_option maxRecDepth 100000 in
set_option maxHeartbeats 1000000 in
theorem split1_in (l Bsep Bs Bsv : Nat) (c : UInt8) (J : List (List UInt8) → World → Prop) (Jx : World → Prop) (ps : List (List UInt8))
    (hR : SplitRounds Tryd.prog l Bsep Bs Bsv c J Jx ps) (s : ByteArray) (hs : s.size ≤ 4611686018427387904) (hps : splitB c (bs s) = ps)
    (W : World) (h0 : J [] W) (hb : W.cell? ⟨Bs, 0, none⟩ = some (.string s)) :
    CallsIn Fence.wide 3 Tryd.prog 63 #[.func (.yield l) #[] #[], .pointer (some ⟨Bsep, 0, none⟩), .pointer (some ⟨Bs, 0, none⟩), .pointer (some ⟨Bsv, 0, none⟩)] W fun e W' =>
      (∃ v, e = .returned v) ∧ (J ps W' ∨ Jx W') := by
  refine callsIn_of_wp Tryd.func63 rfl trivial ?_ rfl
  simp only [Tryd.ntmps63, List.size_toArray, List.length_cons, List.length_nil, Nat.reduceAdd, Nat.reduceSub, Array.replicate_succ, Array.replicate_zero, List.push_toArray, List.append_toArray, List.nil_append, List.cons_append]
  have hc := (hR.cells h0).1
  gi_wp2
  gi_loopw [7] (fun _ wr => ∃ (pre : List (List UInt8)) (t : ByteArray), pre ++ splitB c (bs t) = ps ∧ J pre wr ∧ wr.cell? ⟨Bs, 0, none⟩ = some (.string t) ∧ t.size ≤ 4611686018427387904) (fun _ wr => strAt wr Bs)
  case atStart => exact ⟨[], s, hps, h0, hb, hs⟩
  case round =>
    obtain ⟨pre, t, hp, hJ, hbt, ht⟩ := hrel
    obtain ⟨hc1, hc2, hc3⟩ := hR.cells hJ
    have hm : strAt wr Bs = t.size := by simp [strAt, hbt]
    have HM := Lib.hid hm
    clear hm
    rcases idxB_spec c (bs t) with ⟨h1, h2⟩ | ⟨a, b, h1, h2, h3⟩
    · rw [splitB_none c _ h2] at hp
      have hy := hR.round (rest := []) t t hJ hbt hp.symm
      have HP := Lib.hid hp
      have H1 := Lib.hid h1
      clear hp h2 h1
      obtain ⟨fn, tmps, assign, body, hy, hr⟩ := hy
      gi_wp2_with (refine ⟨trivial, ?_⟩; gi_at_call 58; refine (callsIn_wide.2 (index_calls t c _)).mono ?_; rintro e w' ⟨rfl, rfl⟩; rw [H1.out])
      refine hr.mono ?_
      rintro e W' (⟨rfl, hJ', hb'⟩ | ⟨rfl, hJ'⟩)
      · gi_wp2
        refine bodyPost_end (results_none rfl _ _ _) rfl ⟨⟨_, rfl⟩, .inl ?_⟩
        rw [← HP.out]; exact hJ'
      · gi_wp2
        exact bodyPost_end (results_none rfl _ _ _) rfl ⟨⟨_, rfl⟩, .inr hJ'⟩
    · rw [h1, splitB_cons c a b h2] at hp
      have hl : t.size = a.length + (b.length + 1) := by
        have : (bs t).length = t.size := by simp [bs]
        rw [← this, h1]; simp
      have hl' : a.length + 1 ≤ t.size := by omega
      have ht' : a.length + 1 ≤ 4611686018427387904 := by omega
      have hx : bs (t.extract 0 a.length) = a := bs_take t a _ h1
      have hz : bs (t.extract (a.length + 1) t.size) = b := bs_drop t a b c h1
      obtain ⟨fn, tmps, assign, body, hy, hr⟩ := hR.round (rest := splitB c b) (t.extract 0 a.length) t hJ hbt (by rw [hx]; exact hp.symm)
      have HX := Lib.hid hx
      have HZ := Lib.hid hz
      have HP := Lib.hid hp
      have HL := Lib.hid hl
      have H3 := Lib.hid h3
      clear h1 hp h2 hl h3 hx hz
      gi_wp2_with (refine ⟨trivial, ?_⟩; gi_at_call 58; refine (callsIn_wide.2 (index_calls t c _)).mono ?_; rintro e w' ⟨rfl, rfl⟩; rw [H3.out])
      refine hr.mono ?_
      rintro e W' (⟨rfl, hJ', hb'⟩ | ⟨rfl, hJ'⟩)
      · obtain ⟨hd1, hd2, hd3⟩ := hR.cells hJ'
        gi_wp2
        go_roundw
        case rel => exact ⟨pre ++ [a], t.extract (a.length + 1) t.size, by rw [HZ.out, ← HP.out]; simp, by have := hR.store (v := .string (t.extract (a.length + 1) t.size)) hJ'; rwa [HX.out] at this, World.cell?_setCell_same _ _ _ hb', by rw [size_drop]; omega⟩
        case measure => rw [HM.out]; simp [strAt, World.cell?_setCell_same _ _ _ hb']; omega
      · gi_wp2
        exact bodyPost_ret (results_none rfl _ _ _) rfl ⟨⟨_, rfl⟩, .inr hJ'⟩
end Go.Proofs.YthiplpgkgnebfaaDoor
