/- Lines: the program's and the reference's. Own work. -/
import Derived.Test.YtpaklnjfcjcdaaaDoorL1
import Derived.Test.YtpaklnjfcjcdaaaDoorShelf
import Derived.Test.YtpaklnjfcjcdaaaDoorSXV
namespace Go.SX
open Go.Proofs
set_option linter.unusedSimpArgs false
set_option linter.unusedVariables false
set_option maxRecDepth 20000
def TabP (w : World) : Prop := Lib.TabIs Tryd.prog w "internal/strconv.uint64pow10" .u64 Lib.pow10Tab
theorem tab_stable (w w' : World) (hm : More w w') (h : TabP w) : TabP w' := stable_var _ _ _ w w' hm h
theorem itoa_conT (n : Int) (h0 : -9223372036854775808 ≤ n) (h1 : n ≤ 9223372036854775807) : ConT TabP Tryd.prog 9 [intV n] (fun x hp => x = strV (numB n) ∧ hp = []) := by
  refine conT_calls (u := .string (numB n)) ⟨_, Tryd.func9, rfl, rfl⟩ rfl fun γ w vs hT hvs => ?_
  obtain rfl : vs = [.int .i64 n] := by
    cases hvs with
    | cons a b =>
      cases b
      have a : _ = _ := a
      rw [a]
  refine (Tryd.strconv_Itoa n h0 h1 w hT).mono fun e w' ⟨he, k, os, hw⟩ => ⟨he, ?_⟩
  subst hw
  refine ⟨rfl, rfl, rfl, ?_, fun j hj => ?_⟩
  · show w.heap.size ≤ (w.heap ++ os).size
    simp
  · show (w.heap ++ os)[j]? = w.heap[j]?
    rw [Array.getElem?_append_left hj]
structure Step' where
  kind : Int
  n : Int
  part : Int
  name : ByteArray
  o : Op'
structure Ans' where
  err : Int
  acts : List Act'
  n : Int
def stepD (s : Step') : List XD := [iD s.kind, iD s.n, iD s.part, sD s.name] ++ opD s.o
def ansD (a : Ans') : List XD := [iD a.err, slD actD 3 a.acts, iD a.n]
attribute [push_cast] stepD ansD
def kindsL : List ByteArray := [⟨#[63]⟩, ⟨#[100, 111]⟩, ⟨#[99, 111, 109, 109, 97, 110, 100]⟩, ⟨#[115, 101, 110, 100]⟩, ⟨#[100, 101, 108, 105, 118, 101, 114]⟩, ⟨#[100, 114, 111, 112]⟩, ⟨#[100, 111, 117, 98, 108, 101]⟩, ⟨#[98, 101, 97, 116]⟩, ⟨#[97, 114, 109]⟩, ⟨#[99, 114, 97, 115, 104]⟩, ⟨#[114, 101, 99, 111, 118, 101, 114]⟩, ⟨#[115, 97, 118, 101]⟩]
def errsL : List ByteArray := [⟨#[111, 107]⟩, ⟨#[97, 114, 103]⟩, ⟨#[115, 104, 111, 114, 116]⟩, ⟨#[102, 111, 114, 109]⟩, ⟨#[108, 111, 110, 103]⟩, ⟨#[115, 117, 109]⟩, ⟨#[111, 118, 101, 114]⟩, ⟨#[110, 111, 110, 101]⟩, ⟨#[100, 117, 112]⟩, ⟨#[113, 117, 111, 116, 97]⟩, ⟨#[102, 117, 108, 108]⟩, ⟨#[98, 117, 115, 121]⟩, ⟨#[115, 116, 97, 116, 101]⟩, ⟨#[108, 111, 115, 116]⟩, ⟨#[112, 104, 97, 115, 101]⟩]
theorem rowOf_str (l : List ByteArray) : ∀ i, i < l.length → shiftG 0 (rowOf 1 (l.map fun s => XD.val (.string s))) i 0 = sD (l.getD i default) := by
  intro i hi
  simp only [shiftG, rowOf, Nat.zero_add, Nat.mul_one, Nat.add_zero]
  rw [List.getD_eq_getElem?_getD, List.getElem?_map, List.getElem?_eq_getElem hi, List.getD_eq_getElem?_getD, List.getElem?_eq_getElem hi]
  rfl
theorem word_size (l : List ByteArray) (h : ∀ s, s ∈ l → s.size ≤ 20) (n : Int) : (wordB l n).size ≤ 20 := by
  unfold wordB
  split
  · rename_i hn
    rw [List.getD_eq_getElem?_getD, List.getElem?_eq_getElem (by omega)]
    exact h _ (List.getElem_mem _)
  · decide
theorem kinds_size (n : Int) : (wordB kindsL n).size ≤ 20 := word_size _ (by decide) n
theorem errs_size (n : Int) : (wordB errsL n).size ≤ 20 := word_size _ (by decide) n
theorem decDigits_log : ∀ (k n : Nat), n < 10 ^ (k + 1) → (Lib.decDigits n).length ≤ k + 1
  | 0, n, h => by rw [Lib.decDigits.eq_def n, dif_pos (by simpa using h)]; simp
  | k + 1, n, h => by
    rw [Lib.decDigits.eq_def n]
    split
    · simp
    · have h2 : n / 10 < 10 ^ (k + 1) := by
        rw [Nat.div_lt_iff_lt_mul (by omega), ← Nat.pow_succ]
        exact h
      have := decDigits_log k (n / 10) h2
      simp
      omega
theorem itoa_size (n : Int) (h0 : -9223372036854775808 ≤ n) (h1 : n ≤ 9223372036854775807) : (numB n).size ≤ 20 := by
  unfold numB
  rw [bt_size]
  unfold Lib.itoa
  split
  · have := decDigits_log 18 n.natAbs (by show n.natAbs < 10000000000000000000; omega)
    simp; omega
  · have := decDigits_log 18 n.toNat (by show n.toNat < 10000000000000000000; omega)
    omega
theorem act_size (a : Act') (h1 : a.task.size ≤ 140737488355328) (h2 : a.node.size ≤ 140737488355328) : (actB a.kind a.task a.node).size ≤ 281474976710700 := by
  unfold actB
  simp only [size_app]
  have := word_size [bt [63], bt [98, 105, 110, 100], bt [101, 118, 105, 99, 116], bt [114, 101, 108, 101, 97, 115, 101]] (by decide) a.kind
  have : sp.size = 1 := rfl
  omega
def cs2 : ByteArray := ⟨#[44, 32]⟩
def lineGo (out : ByteArray) : List Act' → ByteArray
  | [] => out
  | a :: l => lineGo (out ++ cs2 ++ actB a.kind a.task a.node) l
theorem lineGo_drop (out : ByteArray) (l : List Act') (i : Nat) (h : i < l.length) : lineGo out (l.drop i) = lineGo (out ++ cs2 ++ actB (l.getD i default).kind (l.getD i default).task (l.getD i default).node) (l.drop (i + 1)) := by
  rw [List.drop_eq_getElem_cons h, List.getD_eq_getElem?_getD, List.getElem?_eq_getElem h]
  rfl
def headB (k e n : Int) : ByteArray := if e = 0 ∧ (k = 3 ∨ k = 4) then wordB kindsL k ++ sp ++ wordB errsL e ++ sp ++ numB n else wordB kindsL k ++ sp ++ wordB errsL e
def lineB (k e n : Int) (acts : List Act') : ByteArray := lineGo (headB k e n) acts
set_option maxHeartbeats 2000000 in
theorem line_conT (s : Step') (a : Ans') (h0 : -9223372036854775808 ≤ a.n) (h1 : a.n ≤ 9223372036854775807) (hl : a.acts.length ≤ 1000) (hz : ∀ i, (a.acts.getD i default).task.size ≤ 140737488355328 ∧ (a.acts.getD i default).node.size ≤ 140737488355328) :
    ConT TabP Tryd.prog 5 [aggV (stepD s), aggV (ansD a)] (fun x hp => x = strV (lineB s.kind a.err a.n a.acts) ∧ hp = []) := by
  refine sc_enterT Tryd.func5 rfl rfl rfl (by simp (implicitDefEqProofs := false) only [push_cast, reduceCtorEq, ↓reduceIte, Nat.reduceAdd, Nat.reduceMul, Nat.reduceSub, Nat.reduceMod, Nat.reduceLT, Nat.reduceGT, Nat.reduceLeDiff, Nat.reduceEqDiff, Nat.reduceBEq, Int.reduceAdd, Int.reduceSub, Int.reduceMul, Int.reduceLT, Int.reduceLE, Int.reduceEq, Int.reduceNe, Int.reduceToNat, Int.reduceNeg]) 52 rfl fun w ro γ hT => ?_
  simp (implicitDefEqProofs := false) only [push_cast, reduceCtorEq, ↓reduceIte, Nat.reduceAdd, Nat.reduceMul, Nat.reduceSub, Nat.reduceMod, Nat.reduceLT, Nat.reduceGT, Nat.reduceLeDiff, Nat.reduceEqDiff, Nat.reduceBEq, Int.reduceAdd, Int.reduceSub, Int.reduceMul, Int.reduceLT, Int.reduceLE, Int.reduceEq, Int.reduceNe, Int.reduceToNat, Int.reduceNeg]
  refine ev_cv (word_spec kindsL s.kind _ (rowOf_str kindsL)) [2] (by simp (implicitDefEqProofs := false) only [push_cast, reduceCtorEq, ↓reduceIte, Nat.reduceAdd, Nat.reduceMul, Nat.reduceSub, Nat.reduceMod, Nat.reduceLT, Nat.reduceGT, Nat.reduceLeDiff, Nat.reduceEqDiff, Nat.reduceBEq, Int.reduceAdd, Int.reduceSub, Int.reduceMul, Int.reduceLT, Int.reduceLE, Int.reduceEq, Int.reduceNe, Int.reduceToNat, Int.reduceNeg]) ⟨trivial, .inr rfl, ⟨rfl, by decide⟩, .inr rfl, trivial⟩ rfl (by simp (implicitDefEqProofs := false) only [push_cast, reduceCtorEq, ↓reduceIte, Nat.reduceAdd, Nat.reduceMul, Nat.reduceSub, Nat.reduceMod, Nat.reduceLT, Nat.reduceGT, Nat.reduceLeDiff, Nat.reduceEqDiff, Nat.reduceBEq, Int.reduceAdd, Int.reduceSub, Int.reduceMul, Int.reduceLT, Int.reduceLE, Int.reduceEq, Int.reduceNe, Int.reduceToNat, Int.reduceNeg]) ?_
  simp (implicitDefEqProofs := false) only [push_cast, reduceCtorEq, ↓reduceIte, Nat.reduceAdd, Nat.reduceMul, Nat.reduceSub, Nat.reduceMod, Nat.reduceLT, Nat.reduceGT, Nat.reduceLeDiff, Nat.reduceEqDiff, Nat.reduceBEq, Int.reduceAdd, Int.reduceSub, Int.reduceMul, Int.reduceLT, Int.reduceLE, Int.reduceEq, Int.reduceNe, Int.reduceToNat, Int.reduceNeg]
  refine ev_cv (word_spec errsL a.err _ (rowOf_str errsL)) [3] (by simp (implicitDefEqProofs := false) only [push_cast, reduceCtorEq, ↓reduceIte, Nat.reduceAdd, Nat.reduceMul, Nat.reduceSub, Nat.reduceMod, Nat.reduceLT, Nat.reduceGT, Nat.reduceLeDiff, Nat.reduceEqDiff, Nat.reduceBEq, Int.reduceAdd, Int.reduceSub, Int.reduceMul, Int.reduceLT, Int.reduceLE, Int.reduceEq, Int.reduceNe, Int.reduceToNat, Int.reduceNeg]) ⟨trivial, .inr rfl, ⟨rfl, by decide⟩, .inr rfl, trivial⟩ rfl (by simp (implicitDefEqProofs := false) only [push_cast, reduceCtorEq, ↓reduceIte, Nat.reduceAdd, Nat.reduceMul, Nat.reduceSub, Nat.reduceMod, Nat.reduceLT, Nat.reduceGT, Nat.reduceLeDiff, Nat.reduceEqDiff, Nat.reduceBEq, Int.reduceAdd, Int.reduceSub, Int.reduceMul, Int.reduceLT, Int.reduceLE, Int.reduceEq, Int.reduceNe, Int.reduceToNat, Int.reduceNeg]) ?_
  have z1 := kinds_size s.kind
  have z2 := errs_size a.err
  have z3 : (⟨#[32]⟩ : ByteArray).size = 1 := rfl
  simp (implicitDefEqProofs := false) only [push_cast, reduceCtorEq, ↓reduceIte, Nat.reduceAdd, Nat.reduceMul, Nat.reduceSub, Nat.reduceMod, Nat.reduceLT, Nat.reduceGT, Nat.reduceLeDiff, Nat.reduceEqDiff, Nat.reduceBEq, Int.reduceAdd, Int.reduceSub, Int.reduceMul, Int.reduceLT, Int.reduceLE, Int.reduceEq, Int.reduceNe, Int.reduceToNat, Int.reduceNeg]
  simp only [size_app]
  refine ⟨by omega, by omega, fun h => ⟨h, fun h' => ⟨h, h'⟩⟩, fun hc => ?_, fun hc => ?_⟩
  · refine ev_cvT (itoa_conT a.n h0 h1) hT tab_stable [] (by simp (implicitDefEqProofs := false) only [push_cast, reduceCtorEq, ↓reduceIte, Nat.reduceAdd, Nat.reduceMul, Nat.reduceSub, Nat.reduceMod, Nat.reduceLT, Nat.reduceGT, Nat.reduceLeDiff, Nat.reduceEqDiff, Nat.reduceBEq, Int.reduceAdd, Int.reduceSub, Int.reduceMul, Int.reduceLT, Int.reduceLE, Int.reduceEq, Int.reduceNe, Int.reduceToNat, Int.reduceNeg]) (by simp (implicitDefEqProofs := false) only [push_cast, reduceCtorEq, ↓reduceIte, Nat.reduceAdd, Nat.reduceMul, Nat.reduceSub, Nat.reduceMod, Nat.reduceLT, Nat.reduceGT, Nat.reduceLeDiff, Nat.reduceEqDiff, Nat.reduceBEq, Int.reduceAdd, Int.reduceSub, Int.reduceMul, Int.reduceLT, Int.reduceLE, Int.reduceEq, Int.reduceNe, Int.reduceToNat, Int.reduceNeg]) rfl (by simp (implicitDefEqProofs := false) only [push_cast, reduceCtorEq, ↓reduceIte, Nat.reduceAdd, Nat.reduceMul, Nat.reduceSub, Nat.reduceMod, Nat.reduceLT, Nat.reduceGT, Nat.reduceLeDiff, Nat.reduceEqDiff, Nat.reduceBEq, Int.reduceAdd, Int.reduceSub, Int.reduceMul, Int.reduceLT, Int.reduceLE, Int.reduceEq, Int.reduceNe, Int.reduceToNat, Int.reduceNeg]) ?_
    have z4 := itoa_size a.n h0 h1
    simp (implicitDefEqProofs := false) only [push_cast, reduceCtorEq, ↓reduceIte, Nat.reduceAdd, Nat.reduceMul, Nat.reduceSub, Nat.reduceMod, Nat.reduceLT, Nat.reduceGT, Nat.reduceLeDiff, Nat.reduceEqDiff, Nat.reduceBEq, Int.reduceAdd, Int.reduceSub, Int.reduceMul, Int.reduceLT, Int.reduceLE, Int.reduceEq, Int.reduceNe, Int.reduceToNat, Int.reduceNeg]
    simp only [size_app]
    refine ⟨by omega, by omega, ?_⟩
    have hc' : a.err = 0 ∧ (s.kind = 3 ∨ s.kind = 4) := by simpa using hc
    have hh : wordB kindsL s.kind ++ (⟨#[32]⟩ ++ wordB errsL a.err) ++ (⟨#[32]⟩ ++ numB a.n) = headB s.kind a.err a.n := by
      unfold headB
      rw [if_pos hc']
      simp only [← app_assoc]
      rfl
    have hhs : (headB s.kind a.err a.n).size ≤ 62 := by
      rw [← hh]; simp only [size_app]; omega
    rw [hh]
    refine ev_over [5, 7, 41, 42, 43, 44, 45, 46, 47, 48, 49, 50] (fun x : Nat × ByteArray => [(41, .c (iC x.1)), (5, strV x.2)]) (fun _ => []) (fun x => x.1 ≤ a.acts.length ∧ x.2.size ≤ 62 + x.1 * 281474976710702 ∧ lineGo x.2 (a.acts.drop x.1) = lineB s.kind a.err a.n a.acts) (fun x => a.acts.length - x.1) (0, headB s.kind a.err a.n) ⟨Nat.zero_le _, by show _ ≤ 62 + 0 * _; omega, rfl⟩ ?_ ?_
    · refine wk_mkB ?_ ?_ ?_ ?_ ?_ <;> simp (implicitDefEqProofs := false) only [push_cast, reduceCtorEq, ↓reduceIte, Nat.reduceAdd, Nat.reduceMul, Nat.reduceSub, Nat.reduceMod, Nat.reduceLT, Nat.reduceGT, Nat.reduceLeDiff, Nat.reduceEqDiff, Nat.reduceBEq, Int.reduceAdd, Int.reduceSub, Int.reduceMul, Int.reduceLT, Int.reduceLE, Int.reduceEq, Int.reduceNe, Int.reduceToNat, Int.reduceNeg]
    · intro x hx
      have hi : x.1 ≤ a.acts.length := hx.1
      have hxs : x.2.size ≤ 62 + x.1 * 281474976710702 := hx.2.1
      have he := hx.2.2
      simp (implicitDefEqProofs := false) only [push_cast, reduceCtorEq, ↓reduceIte, Nat.reduceAdd, Nat.reduceMul, Nat.reduceSub, Nat.reduceMod, Nat.reduceLT, Nat.reduceGT, Nat.reduceLeDiff, Nat.reduceEqDiff, Nat.reduceBEq, Int.reduceAdd, Int.reduceSub, Int.reduceMul, Int.reduceLT, Int.reduceLE, Int.reduceEq, Int.reduceNe, Int.reduceToNat, Int.reduceNeg]
      refine ⟨fun hc => ?_, fun hc => ?_⟩
      · have hlt : x.1 < a.acts.length := by simpa using hc
        rw [lineGo_drop _ _ _ hlt] at he
        have z5 := act_size _ (hz x.1).1 (hz x.1).2
        have z6 : (⟨#[44, 32]⟩ : ByteArray).size = 2 := rfl
        have z7 : cs2.size = 2 := rfl
        refine ⟨by omega, ?_⟩
        refine ev_cf (text_spec (a.acts.getD x.1 default) (hz x.1).1 (hz x.1).2) (by simp (implicitDefEqProofs := false) only [push_cast, reduceCtorEq, ↓reduceIte, Nat.reduceAdd, Nat.reduceMul, Nat.reduceSub, Nat.reduceMod, Nat.reduceLT, Nat.reduceGT, Nat.reduceLeDiff, Nat.reduceEqDiff, Nat.reduceBEq, Int.reduceAdd, Int.reduceSub, Int.reduceMul, Int.reduceLT, Int.reduceLE, Int.reduceEq, Int.reduceNe, Int.reduceToNat, Int.reduceNeg]) rfl rfl rfl ?_
        simp (implicitDefEqProofs := false) only [push_cast, reduceCtorEq, ↓reduceIte, Nat.reduceAdd, Nat.reduceMul, Nat.reduceSub, Nat.reduceMod, Nat.reduceLT, Nat.reduceGT, Nat.reduceLeDiff, Nat.reduceEqDiff, Nat.reduceBEq, Int.reduceAdd, Int.reduceSub, Int.reduceMul, Int.reduceLT, Int.reduceLE, Int.reduceEq, Int.reduceNe, Int.reduceToNat, Int.reduceNeg]
        simp only [size_app]
        refine ⟨by omega, by omega, by omega, ?_⟩
        refine loopJ_mk (x.1 + 1, x.2 ++ cs2 ++ actB (a.acts.getD x.1 default).kind (a.acts.getD x.1 default).task (a.acts.getD x.1 default).node) ⟨by show x.1 + 1 ≤ _; omega, by show (x.2 ++ cs2 ++ actB _ _ _).size ≤ 62 + (x.1 + 1) * _; simp only [size_app]; omega, he⟩ (by show a.acts.length - (x.1 + 1) < a.acts.length - x.1; omega) ?_ ?_ ?_ ?_ ?_ <;> simp (implicitDefEqProofs := false) only [push_cast, reduceCtorEq, ↓reduceIte, Nat.reduceAdd, Nat.reduceMul, Nat.reduceSub, Nat.reduceMod, Nat.reduceLT, Nat.reduceGT, Nat.reduceLeDiff, Nat.reduceEqDiff, Nat.reduceBEq, Int.reduceAdd, Int.reduceSub, Int.reduceMul, Int.reduceLT, Int.reduceLE, Int.reduceEq, Int.reduceNe, Int.reduceToNat, Int.reduceNeg]
        rw [app_assoc]; rfl
      · have hge : x.1 = a.acts.length := by simp at hc; omega
        rw [hge, List.drop_length] at he
        refine ret_flat (by simp (implicitDefEqProofs := false) only [push_cast, reduceCtorEq, ↓reduceIte, Nat.reduceAdd, Nat.reduceMul, Nat.reduceSub, Nat.reduceMod, Nat.reduceLT, Nat.reduceGT, Nat.reduceLeDiff, Nat.reduceEqDiff, Nat.reduceBEq, Int.reduceAdd, Int.reduceSub, Int.reduceMul, Int.reduceLT, Int.reduceLE, Int.reduceEq, Int.reduceNe, Int.reduceToNat, Int.reduceNeg]) rfl ⟨?_, rfl⟩
        rw [← he]; rfl
  · have hc' : ¬ (a.err = 0 ∧ (s.kind = 3 ∨ s.kind = 4)) := fun h => by
      have : (decide (a.err = 0) && (decide (s.kind = 3) || decide (s.kind = 4))) = true := by simpa using h
      rw [this] at hc
      simp at hc
    have hh : wordB kindsL s.kind ++ (⟨#[32]⟩ ++ wordB errsL a.err) = headB s.kind a.err a.n := by
      unfold headB
      rw [if_neg hc']
      simp only [← app_assoc]
      rfl
    have hhs : (headB s.kind a.err a.n).size ≤ 62 := by
      rw [← hh]; simp only [size_app]; omega
    rw [hh]
    refine ev_over [5, 7, 41, 42, 43, 44, 45, 46, 47, 48, 49, 50] (fun x : Nat × ByteArray => [(41, .c (iC x.1)), (5, strV x.2)]) (fun _ => []) (fun x => x.1 ≤ a.acts.length ∧ x.2.size ≤ 62 + x.1 * 281474976710702 ∧ lineGo x.2 (a.acts.drop x.1) = lineB s.kind a.err a.n a.acts) (fun x => a.acts.length - x.1) (0, headB s.kind a.err a.n) ⟨Nat.zero_le _, by show _ ≤ 62 + 0 * _; omega, rfl⟩ ?_ ?_
    · refine wk_mkB ?_ ?_ ?_ ?_ ?_ <;> simp (implicitDefEqProofs := false) only [push_cast, reduceCtorEq, ↓reduceIte, Nat.reduceAdd, Nat.reduceMul, Nat.reduceSub, Nat.reduceMod, Nat.reduceLT, Nat.reduceGT, Nat.reduceLeDiff, Nat.reduceEqDiff, Nat.reduceBEq, Int.reduceAdd, Int.reduceSub, Int.reduceMul, Int.reduceLT, Int.reduceLE, Int.reduceEq, Int.reduceNe, Int.reduceToNat, Int.reduceNeg]
    · intro x hx
      have hi : x.1 ≤ a.acts.length := hx.1
      have hxs : x.2.size ≤ 62 + x.1 * 281474976710702 := hx.2.1
      have he := hx.2.2
      simp (implicitDefEqProofs := false) only [push_cast, reduceCtorEq, ↓reduceIte, Nat.reduceAdd, Nat.reduceMul, Nat.reduceSub, Nat.reduceMod, Nat.reduceLT, Nat.reduceGT, Nat.reduceLeDiff, Nat.reduceEqDiff, Nat.reduceBEq, Int.reduceAdd, Int.reduceSub, Int.reduceMul, Int.reduceLT, Int.reduceLE, Int.reduceEq, Int.reduceNe, Int.reduceToNat, Int.reduceNeg]
      refine ⟨fun hc => ?_, fun hc => ?_⟩
      · have hlt : x.1 < a.acts.length := by simpa using hc
        rw [lineGo_drop _ _ _ hlt] at he
        have z5 := act_size _ (hz x.1).1 (hz x.1).2
        have z6 : (⟨#[44, 32]⟩ : ByteArray).size = 2 := rfl
        have z7 : cs2.size = 2 := rfl
        refine ⟨by omega, ?_⟩
        refine ev_cf (text_spec (a.acts.getD x.1 default) (hz x.1).1 (hz x.1).2) (by simp (implicitDefEqProofs := false) only [push_cast, reduceCtorEq, ↓reduceIte, Nat.reduceAdd, Nat.reduceMul, Nat.reduceSub, Nat.reduceMod, Nat.reduceLT, Nat.reduceGT, Nat.reduceLeDiff, Nat.reduceEqDiff, Nat.reduceBEq, Int.reduceAdd, Int.reduceSub, Int.reduceMul, Int.reduceLT, Int.reduceLE, Int.reduceEq, Int.reduceNe, Int.reduceToNat, Int.reduceNeg]) rfl rfl rfl ?_
        simp (implicitDefEqProofs := false) only [push_cast, reduceCtorEq, ↓reduceIte, Nat.reduceAdd, Nat.reduceMul, Nat.reduceSub, Nat.reduceMod, Nat.reduceLT, Nat.reduceGT, Nat.reduceLeDiff, Nat.reduceEqDiff, Nat.reduceBEq, Int.reduceAdd, Int.reduceSub, Int.reduceMul, Int.reduceLT, Int.reduceLE, Int.reduceEq, Int.reduceNe, Int.reduceToNat, Int.reduceNeg]
        simp only [size_app]
        refine ⟨by omega, by omega, by omega, ?_⟩
        refine loopJ_mk (x.1 + 1, x.2 ++ cs2 ++ actB (a.acts.getD x.1 default).kind (a.acts.getD x.1 default).task (a.acts.getD x.1 default).node) ⟨by show x.1 + 1 ≤ _; omega, by show (x.2 ++ cs2 ++ actB _ _ _).size ≤ 62 + (x.1 + 1) * _; simp only [size_app]; omega, he⟩ (by show a.acts.length - (x.1 + 1) < a.acts.length - x.1; omega) ?_ ?_ ?_ ?_ ?_ <;> simp (implicitDefEqProofs := false) only [push_cast, reduceCtorEq, ↓reduceIte, Nat.reduceAdd, Nat.reduceMul, Nat.reduceSub, Nat.reduceMod, Nat.reduceLT, Nat.reduceGT, Nat.reduceLeDiff, Nat.reduceEqDiff, Nat.reduceBEq, Int.reduceAdd, Int.reduceSub, Int.reduceMul, Int.reduceLT, Int.reduceLE, Int.reduceEq, Int.reduceNe, Int.reduceToNat, Int.reduceNeg]
        rw [app_assoc]; rfl
      · have hge : x.1 = a.acts.length := by simp at hc; omega
        rw [hge, List.drop_length] at he
        refine ret_flat (by simp (implicitDefEqProofs := false) only [push_cast, reduceCtorEq, ↓reduceIte, Nat.reduceAdd, Nat.reduceMul, Nat.reduceSub, Nat.reduceMod, Nat.reduceLT, Nat.reduceGT, Nat.reduceLeDiff, Nat.reduceEqDiff, Nat.reduceBEq, Int.reduceAdd, Int.reduceSub, Int.reduceMul, Int.reduceLT, Int.reduceLE, Int.reduceEq, Int.reduceNe, Int.reduceToNat, Int.reduceNeg]) rfl ⟨?_, rfl⟩
        rw [← he]; rfl
set_option maxHeartbeats 2000000 in
theorem rline_spec (s : Step') (a : Ans') (h0 : -9223372036854775808 ≤ a.n) (h1 : a.n ≤ 9223372036854775807) (hl : a.acts.length ≤ 1000) (hz : ∀ i, (a.acts.getD i default).task.size ≤ 140737488355328 ∧ (a.acts.getD i default).node.size ≤ 140737488355328) :
    Spec Tryd.prog 6 [aggV (stepD s), aggV (ansD a)] (fun x hp => x = strV (lineB s.kind a.err a.n a.acts) ∧ hp = []) := by
  refine sc_enter Tryd.func6 rfl rfl rfl (by simp (implicitDefEqProofs := false) only [push_cast, reduceCtorEq, ↓reduceIte, Nat.reduceAdd, Nat.reduceMul, Nat.reduceSub, Nat.reduceMod, Nat.reduceLT, Nat.reduceGT, Nat.reduceLeDiff, Nat.reduceEqDiff, Nat.reduceBEq, Int.reduceAdd, Int.reduceSub, Int.reduceMul, Int.reduceLT, Int.reduceLE, Int.reduceEq, Int.reduceNe, Int.reduceToNat, Int.reduceNeg]) 57 rfl fun w ro γ => ?_
  have z1 := kinds_size s.kind
  have z2 := errs_size a.err
  have z3 : (⟨#[32]⟩ : ByteArray).size = 1 := rfl
  simp (implicitDefEqProofs := false) only [push_cast, reduceCtorEq, ↓reduceIte, Nat.reduceAdd, Nat.reduceMul, Nat.reduceSub, Nat.reduceMod, Nat.reduceLT, Nat.reduceGT, Nat.reduceLeDiff, Nat.reduceEqDiff, Nat.reduceBEq, Int.reduceAdd, Int.reduceSub, Int.reduceMul, Int.reduceLT, Int.reduceLE, Int.reduceEq, Int.reduceNe, Int.reduceToNat, Int.reduceNeg]
  refine ev_draw [(0, none), (1, none), (5, none), (6, none), (2, none), (7, none), (3, some [0, 1, 5, 6, 2, 7]), (4, none), (8, some [5, 6, 7, 4]), (9, none), (10, none)] [4, 9, 10] rfl (by kernel_rfl) fun T => ?_
  simp (implicitDefEqProofs := false) only [push_cast, reduceCtorEq, ↓reduceIte, Nat.reduceAdd, Nat.reduceMul, Nat.reduceSub, Nat.reduceMod, Nat.reduceLT, Nat.reduceGT, Nat.reduceLeDiff, Nat.reduceEqDiff, Nat.reduceBEq, Int.reduceAdd, Int.reduceSub, Int.reduceMul, Int.reduceLT, Int.reduceLE, Int.reduceEq, Int.reduceNe, Int.reduceToNat, Int.reduceNeg]
  refine ev_cv (rword_spec kindsL s.kind _ (rowOf_str kindsL)) [2] (by simp (implicitDefEqProofs := false) only [push_cast, reduceCtorEq, ↓reduceIte, Nat.reduceAdd, Nat.reduceMul, Nat.reduceSub, Nat.reduceMod, Nat.reduceLT, Nat.reduceGT, Nat.reduceLeDiff, Nat.reduceEqDiff, Nat.reduceBEq, Int.reduceAdd, Int.reduceSub, Int.reduceMul, Int.reduceLT, Int.reduceLE, Int.reduceEq, Int.reduceNe, Int.reduceToNat, Int.reduceNeg]) ⟨⟨rfl, by decide⟩, .inr rfl, trivial, .inr rfl, trivial⟩ rfl (by simp (implicitDefEqProofs := false) only [push_cast, reduceCtorEq, ↓reduceIte, Nat.reduceAdd, Nat.reduceMul, Nat.reduceSub, Nat.reduceMod, Nat.reduceLT, Nat.reduceGT, Nat.reduceLeDiff, Nat.reduceEqDiff, Nat.reduceBEq, Int.reduceAdd, Int.reduceSub, Int.reduceMul, Int.reduceLT, Int.reduceLE, Int.reduceEq, Int.reduceNe, Int.reduceToNat, Int.reduceNeg]) ?_
  simp (implicitDefEqProofs := false) only [push_cast, reduceCtorEq, ↓reduceIte, Nat.reduceAdd, Nat.reduceMul, Nat.reduceSub, Nat.reduceMod, Nat.reduceLT, Nat.reduceGT, Nat.reduceLeDiff, Nat.reduceEqDiff, Nat.reduceBEq, Int.reduceAdd, Int.reduceSub, Int.reduceMul, Int.reduceLT, Int.reduceLE, Int.reduceEq, Int.reduceNe, Int.reduceToNat, Int.reduceNeg]
  refine ⟨by omega, ?_⟩
  refine ev_cv (rword_spec errsL a.err _ (rowOf_str errsL)) [3] (by simp (implicitDefEqProofs := false) only [push_cast, reduceCtorEq, ↓reduceIte, Nat.reduceAdd, Nat.reduceMul, Nat.reduceSub, Nat.reduceMod, Nat.reduceLT, Nat.reduceGT, Nat.reduceLeDiff, Nat.reduceEqDiff, Nat.reduceBEq, Int.reduceAdd, Int.reduceSub, Int.reduceMul, Int.reduceLT, Int.reduceLE, Int.reduceEq, Int.reduceNe, Int.reduceToNat, Int.reduceNeg]) ⟨⟨rfl, by decide⟩, .inr rfl, trivial, .inr rfl, trivial⟩ rfl (by simp (implicitDefEqProofs := false) only [push_cast, reduceCtorEq, ↓reduceIte, Nat.reduceAdd, Nat.reduceMul, Nat.reduceSub, Nat.reduceMod, Nat.reduceLT, Nat.reduceGT, Nat.reduceLeDiff, Nat.reduceEqDiff, Nat.reduceBEq, Int.reduceAdd, Int.reduceSub, Int.reduceMul, Int.reduceLT, Int.reduceLE, Int.reduceEq, Int.reduceNe, Int.reduceToNat, Int.reduceNeg]) ?_
  simp (implicitDefEqProofs := false) only [push_cast, reduceCtorEq, ↓reduceIte, Nat.reduceAdd, Nat.reduceMul, Nat.reduceSub, Nat.reduceMod, Nat.reduceLT, Nat.reduceGT, Nat.reduceLeDiff, Nat.reduceEqDiff, Nat.reduceBEq, Int.reduceAdd, Int.reduceSub, Int.reduceMul, Int.reduceLT, Int.reduceLE, Int.reduceEq, Int.reduceNe, Int.reduceToNat, Int.reduceNeg]
  simp only [size_app]
  refine ⟨⟨by omega, by omega⟩, fun hc => ⟨by omega, ?_⟩, fun hc => ?_⟩
  · refine ev_cf (number_spec a.n h0 h1) (by simp (implicitDefEqProofs := false) only [push_cast, reduceCtorEq, ↓reduceIte, Nat.reduceAdd, Nat.reduceMul, Nat.reduceSub, Nat.reduceMod, Nat.reduceLT, Nat.reduceGT, Nat.reduceLeDiff, Nat.reduceEqDiff, Nat.reduceBEq, Int.reduceAdd, Int.reduceSub, Int.reduceMul, Int.reduceLT, Int.reduceLE, Int.reduceEq, Int.reduceNe, Int.reduceToNat, Int.reduceNeg]) rfl rfl rfl ?_
    have z4 := itoa_size a.n h0 h1
    simp (implicitDefEqProofs := false) only [push_cast, reduceCtorEq, ↓reduceIte, Nat.reduceAdd, Nat.reduceMul, Nat.reduceSub, Nat.reduceMod, Nat.reduceLT, Nat.reduceGT, Nat.reduceLeDiff, Nat.reduceEqDiff, Nat.reduceBEq, Int.reduceAdd, Int.reduceSub, Int.reduceMul, Int.reduceLT, Int.reduceLE, Int.reduceEq, Int.reduceNe, Int.reduceToNat, Int.reduceNeg]
    simp only [size_app]
    refine ⟨by omega, ?_⟩
    have hc' : a.err = 0 ∧ (s.kind = 3 ∨ s.kind = 4) := by
      have : (s.kind = 3 ∨ s.kind = 4) ∧ a.err = 0 := by simpa using hc
      exact ⟨this.2, this.1⟩
    have hh : wordB kindsL s.kind ++ ⟨#[32]⟩ ++ wordB errsL a.err ++ ⟨#[32]⟩ ++ numB a.n = headB s.kind a.err a.n := by
      unfold headB
      rw [if_pos hc']
      rfl
    have hhs : (headB s.kind a.err a.n).size ≤ 62 := by
      rw [← hh]; simp only [size_app]; omega
    rw [hh]
    refine ev_over [7, 8, 43, 44, 45, 46, 47, 48, 49, 50, 51, 52, 53, 54, 55] (fun x : Nat × ByteArray => [(43, .c (iC x.1)), (7, strV x.2)]) (fun _ => []) (fun x => x.1 ≤ a.acts.length ∧ x.2.size ≤ 62 + x.1 * 281474976710702 ∧ lineGo x.2 (a.acts.drop x.1) = lineB s.kind a.err a.n a.acts) (fun x => a.acts.length - x.1) (0, headB s.kind a.err a.n) ⟨Nat.zero_le _, by show _ ≤ 62 + 0 * _; omega, rfl⟩ ?_ ?_
    · refine wk_mkB ?_ ?_ ?_ ?_ ?_ <;> simp (implicitDefEqProofs := false) only [push_cast, reduceCtorEq, ↓reduceIte, Nat.reduceAdd, Nat.reduceMul, Nat.reduceSub, Nat.reduceMod, Nat.reduceLT, Nat.reduceGT, Nat.reduceLeDiff, Nat.reduceEqDiff, Nat.reduceBEq, Int.reduceAdd, Int.reduceSub, Int.reduceMul, Int.reduceLT, Int.reduceLE, Int.reduceEq, Int.reduceNe, Int.reduceToNat, Int.reduceNeg]
    · intro x hx
      have hi : x.1 ≤ a.acts.length := hx.1
      have hxs : x.2.size ≤ 62 + x.1 * 281474976710702 := hx.2.1
      have he := hx.2.2
      simp (implicitDefEqProofs := false) only [push_cast, reduceCtorEq, ↓reduceIte, Nat.reduceAdd, Nat.reduceMul, Nat.reduceSub, Nat.reduceMod, Nat.reduceLT, Nat.reduceGT, Nat.reduceLeDiff, Nat.reduceEqDiff, Nat.reduceBEq, Int.reduceAdd, Int.reduceSub, Int.reduceMul, Int.reduceLT, Int.reduceLE, Int.reduceEq, Int.reduceNe, Int.reduceToNat, Int.reduceNeg]
      refine ⟨fun hc => ?_, fun hc => ?_⟩
      · have hlt : x.1 < a.acts.length := by simpa using hc
        rw [lineGo_drop _ _ _ hlt] at he
        have z5 := act_size _ (hz x.1).1 (hz x.1).2
        have z6 : (⟨#[44, 32]⟩ : ByteArray).size = 2 := rfl
        have z7 : cs2.size = 2 := rfl
        refine ⟨by omega, by omega, ?_⟩
        refine ev_cf (rtext_spec (a.acts.getD x.1 default) (hz x.1).1 (hz x.1).2) (by simp (implicitDefEqProofs := false) only [push_cast, reduceCtorEq, ↓reduceIte, Nat.reduceAdd, Nat.reduceMul, Nat.reduceSub, Nat.reduceMod, Nat.reduceLT, Nat.reduceGT, Nat.reduceLeDiff, Nat.reduceEqDiff, Nat.reduceBEq, Int.reduceAdd, Int.reduceSub, Int.reduceMul, Int.reduceLT, Int.reduceLE, Int.reduceEq, Int.reduceNe, Int.reduceToNat, Int.reduceNeg]) rfl rfl rfl ?_
        simp (implicitDefEqProofs := false) only [push_cast, reduceCtorEq, ↓reduceIte, Nat.reduceAdd, Nat.reduceMul, Nat.reduceSub, Nat.reduceMod, Nat.reduceLT, Nat.reduceGT, Nat.reduceLeDiff, Nat.reduceEqDiff, Nat.reduceBEq, Int.reduceAdd, Int.reduceSub, Int.reduceMul, Int.reduceLT, Int.reduceLE, Int.reduceEq, Int.reduceNe, Int.reduceToNat, Int.reduceNeg]
        simp only [size_app]
        refine ⟨by omega, by omega, ?_⟩
        refine loopJ_mk (x.1 + 1, x.2 ++ cs2 ++ actB (a.acts.getD x.1 default).kind (a.acts.getD x.1 default).task (a.acts.getD x.1 default).node) ⟨by show x.1 + 1 ≤ _; omega, by show (x.2 ++ cs2 ++ actB _ _ _).size ≤ 62 + (x.1 + 1) * _; simp only [size_app]; omega, he⟩ (by show a.acts.length - (x.1 + 1) < a.acts.length - x.1; omega) ?_ ?_ ?_ ?_ ?_ <;> simp (implicitDefEqProofs := false) only [push_cast, reduceCtorEq, ↓reduceIte, Nat.reduceAdd, Nat.reduceMul, Nat.reduceSub, Nat.reduceMod, Nat.reduceLT, Nat.reduceGT, Nat.reduceLeDiff, Nat.reduceEqDiff, Nat.reduceBEq, Int.reduceAdd, Int.reduceSub, Int.reduceMul, Int.reduceLT, Int.reduceLE, Int.reduceEq, Int.reduceNe, Int.reduceToNat, Int.reduceNeg]
        rfl
      · have hge : x.1 = a.acts.length := by simp at hc; omega
        rw [hge, List.drop_length] at he
        refine ret_flat (by simp (implicitDefEqProofs := false) only [push_cast, reduceCtorEq, ↓reduceIte, Nat.reduceAdd, Nat.reduceMul, Nat.reduceSub, Nat.reduceMod, Nat.reduceLT, Nat.reduceGT, Nat.reduceLeDiff, Nat.reduceEqDiff, Nat.reduceBEq, Int.reduceAdd, Int.reduceSub, Int.reduceMul, Int.reduceLT, Int.reduceLE, Int.reduceEq, Int.reduceNe, Int.reduceToNat, Int.reduceNeg]) rfl ⟨?_, rfl⟩
        rw [← he]; rfl
  · have hc' : ¬ (a.err = 0 ∧ (s.kind = 3 ∨ s.kind = 4)) := fun h => by
      have : ((decide (s.kind = 3) || decide (s.kind = 4)) && decide (a.err = 0)) = true := by simpa using ⟨h.2, h.1⟩
      rw [this] at hc
      simp at hc
    have hh : wordB kindsL s.kind ++ ⟨#[32]⟩ ++ wordB errsL a.err = headB s.kind a.err a.n := by
      unfold headB
      rw [if_neg hc']
      rfl
    have hhs : (headB s.kind a.err a.n).size ≤ 62 := by
      rw [← hh]; simp only [size_app]; omega
    rw [hh]
    refine ev_over [7, 8, 43, 44, 45, 46, 47, 48, 49, 50, 51, 52, 53, 54, 55] (fun x : Nat × ByteArray => [(43, .c (iC x.1)), (7, strV x.2)]) (fun _ => []) (fun x => x.1 ≤ a.acts.length ∧ x.2.size ≤ 62 + x.1 * 281474976710702 ∧ lineGo x.2 (a.acts.drop x.1) = lineB s.kind a.err a.n a.acts) (fun x => a.acts.length - x.1) (0, headB s.kind a.err a.n) ⟨Nat.zero_le _, by show _ ≤ 62 + 0 * _; omega, rfl⟩ ?_ ?_
    · refine wk_mkB ?_ ?_ ?_ ?_ ?_ <;> simp (implicitDefEqProofs := false) only [push_cast, reduceCtorEq, ↓reduceIte, Nat.reduceAdd, Nat.reduceMul, Nat.reduceSub, Nat.reduceMod, Nat.reduceLT, Nat.reduceGT, Nat.reduceLeDiff, Nat.reduceEqDiff, Nat.reduceBEq, Int.reduceAdd, Int.reduceSub, Int.reduceMul, Int.reduceLT, Int.reduceLE, Int.reduceEq, Int.reduceNe, Int.reduceToNat, Int.reduceNeg]
    · intro x hx
      have hi : x.1 ≤ a.acts.length := hx.1
      have hxs : x.2.size ≤ 62 + x.1 * 281474976710702 := hx.2.1
      have he := hx.2.2
      simp (implicitDefEqProofs := false) only [push_cast, reduceCtorEq, ↓reduceIte, Nat.reduceAdd, Nat.reduceMul, Nat.reduceSub, Nat.reduceMod, Nat.reduceLT, Nat.reduceGT, Nat.reduceLeDiff, Nat.reduceEqDiff, Nat.reduceBEq, Int.reduceAdd, Int.reduceSub, Int.reduceMul, Int.reduceLT, Int.reduceLE, Int.reduceEq, Int.reduceNe, Int.reduceToNat, Int.reduceNeg]
      refine ⟨fun hc => ?_, fun hc => ?_⟩
      · have hlt : x.1 < a.acts.length := by simpa using hc
        rw [lineGo_drop _ _ _ hlt] at he
        have z5 := act_size _ (hz x.1).1 (hz x.1).2
        have z6 : (⟨#[44, 32]⟩ : ByteArray).size = 2 := rfl
        have z7 : cs2.size = 2 := rfl
        refine ⟨by omega, by omega, ?_⟩
        refine ev_cf (rtext_spec (a.acts.getD x.1 default) (hz x.1).1 (hz x.1).2) (by simp (implicitDefEqProofs := false) only [push_cast, reduceCtorEq, ↓reduceIte, Nat.reduceAdd, Nat.reduceMul, Nat.reduceSub, Nat.reduceMod, Nat.reduceLT, Nat.reduceGT, Nat.reduceLeDiff, Nat.reduceEqDiff, Nat.reduceBEq, Int.reduceAdd, Int.reduceSub, Int.reduceMul, Int.reduceLT, Int.reduceLE, Int.reduceEq, Int.reduceNe, Int.reduceToNat, Int.reduceNeg]) rfl rfl rfl ?_
        simp (implicitDefEqProofs := false) only [push_cast, reduceCtorEq, ↓reduceIte, Nat.reduceAdd, Nat.reduceMul, Nat.reduceSub, Nat.reduceMod, Nat.reduceLT, Nat.reduceGT, Nat.reduceLeDiff, Nat.reduceEqDiff, Nat.reduceBEq, Int.reduceAdd, Int.reduceSub, Int.reduceMul, Int.reduceLT, Int.reduceLE, Int.reduceEq, Int.reduceNe, Int.reduceToNat, Int.reduceNeg]
        simp only [size_app]
        refine ⟨by omega, by omega, ?_⟩
        refine loopJ_mk (x.1 + 1, x.2 ++ cs2 ++ actB (a.acts.getD x.1 default).kind (a.acts.getD x.1 default).task (a.acts.getD x.1 default).node) ⟨by show x.1 + 1 ≤ _; omega, by show (x.2 ++ cs2 ++ actB _ _ _).size ≤ 62 + (x.1 + 1) * _; simp only [size_app]; omega, he⟩ (by show a.acts.length - (x.1 + 1) < a.acts.length - x.1; omega) ?_ ?_ ?_ ?_ ?_ <;> simp (implicitDefEqProofs := false) only [push_cast, reduceCtorEq, ↓reduceIte, Nat.reduceAdd, Nat.reduceMul, Nat.reduceSub, Nat.reduceMod, Nat.reduceLT, Nat.reduceGT, Nat.reduceLeDiff, Nat.reduceEqDiff, Nat.reduceBEq, Int.reduceAdd, Int.reduceSub, Int.reduceMul, Int.reduceLT, Int.reduceLE, Int.reduceEq, Int.reduceNe, Int.reduceToNat, Int.reduceNeg]
        rfl
      · have hge : x.1 = a.acts.length := by simp at hc; omega
        rw [hge, List.drop_length] at he
        refine ret_flat (by simp (implicitDefEqProofs := false) only [push_cast, reduceCtorEq, ↓reduceIte, Nat.reduceAdd, Nat.reduceMul, Nat.reduceSub, Nat.reduceMod, Nat.reduceLT, Nat.reduceGT, Nat.reduceLeDiff, Nat.reduceEqDiff, Nat.reduceBEq, Int.reduceAdd, Int.reduceSub, Int.reduceMul, Int.reduceLT, Int.reduceLE, Int.reduceEq, Int.reduceNe, Int.reduceToNat, Int.reduceNeg]) rfl ⟨?_, rfl⟩
        rw [← he]; rfl
end Go.SX
