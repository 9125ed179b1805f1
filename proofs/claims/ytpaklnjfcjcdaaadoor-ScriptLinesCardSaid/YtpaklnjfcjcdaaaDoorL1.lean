/- Numbers and words as texts: the program's and the reference's. Own work. -/
import Derived.Test.YtpaklnjfcjcdaaaDoorW0
import Derived.Lib.ItoaNum
namespace Go.SX
open Go.Proofs
set_option linter.unusedSimpArgs false
set_option linter.unusedVariables false
set_option maxRecDepth 20000
def bt (l : List UInt8) : ByteArray := ⟨l.toArray⟩
theorem bt_size (l : List UInt8) : (bt l).size = l.length := by simp [bt, ByteArray.size]
theorem bt_app (l m : List UInt8) : bt l ++ bt m = bt (l ++ m) := by
  apply ByteArray.ext
  simp [bt, ByteArray.data_append]
theorem app_assoc (a b c : ByteArray) : a ++ b ++ c = a ++ (b ++ c) := ByteArray.append_assoc
theorem wrap_u8' {r : Int} (h : 0 ≤ r) (h2 : r < 256) : IntKind.u8.wrap r = r := by
  simp [IntKind.wrap, IntKind.signed, IntKind.bits]
  omega
theorem decDigits_len : ∀ (n : Nat), (Lib.decDigits n).length ≤ n + 1 := by
  intro n
  induction n using Nat.strongRecOn with
  | _ n ih =>
    rw [Lib.decDigits]
    split
    · simp
    · have := ih (n / 10) (by omega)
      simp
      omega
theorem one_byte {c : Int} (h0 : 0 ≤ c) (h1 : c < 256) : bytesOk 1 (rowOf 1 [.val (.int .u8 c)]) ∧ strOf 1 (rowOf 1 [.val (.int .u8 c)]) = bt [UInt8.ofNat c.toNat] := by
  refine ⟨fun i hi => ⟨UInt8.ofNat c.toNat, ?_⟩, ?_⟩
  · have : i = 0 := by omega
    subst this
    show XD.val (.int .u8 c) = _
    rw [UInt8.toNat_ofNat']
    congr 2
    omega
  · rfl
theorem tdiv_nat (n : Nat) : (n : Int).tdiv 10 = (n : Int) / 10 := Int.tdiv_eq_ediv_of_nonneg (by omega)
theorem tmod_nat (n : Nat) : (n : Int).tmod 10 = (n : Int) % 10 := Int.tmod_eq_emod_of_nonneg (by omega)
set_option maxHeartbeats 1000000 in
theorem digits_spec : ∀ (n : Nat), n ≤ 9223372036854775807 → Spec Tryd.prog 17 [intV n] (fun x hp => x = strV (bt (Lib.decDigits n)) ∧ hp = []) := by
  intro n
  induction n using Nat.strongRecOn with
  | _ n ih =>
  intro hn
  refine sc_enter Tryd.func17 rfl rfl rfl (by simp (implicitDefEqProofs := false) only [push_cast, reduceCtorEq, ↓reduceIte, Nat.reduceAdd, Nat.reduceMul, Nat.reduceSub, Nat.reduceMod, Nat.reduceLT, Nat.reduceGT, Nat.reduceLeDiff, Nat.reduceEqDiff, Nat.reduceBEq, Int.reduceAdd, Int.reduceSub, Int.reduceMul, Int.reduceLT, Int.reduceLE, Int.reduceEq, Int.reduceNe, Int.reduceToNat, Int.reduceNeg]) 20 rfl fun w ro γ => ?_
  by_cases h : n < 10
  · have e : decide ((n : Int) < 10) = true := by rw [decide_eq_true_eq]; omega
    have ew : IntKind.u8.wrap (48 + (n : Int)) = 48 + n := wrap_u8' (by omega) (by omega)
    obtain ⟨b1, b2⟩ := one_byte (c := 48 + (n : Int)) (by omega) (by omega)
    simp (implicitDefEqProofs := false) only [push_cast, reduceCtorEq, ↓reduceIte, Nat.reduceAdd, Nat.reduceMul, Nat.reduceSub, Nat.reduceMod, Nat.reduceLT, Nat.reduceGT, Nat.reduceLeDiff, Nat.reduceEqDiff, Nat.reduceBEq, Int.reduceAdd, Int.reduceSub, Int.reduceMul, Int.reduceLT, Int.reduceLE, Int.reduceEq, Int.reduceNe, Int.reduceToNat, Int.reduceNeg, e, ew, b2]
    refine ⟨by omega, b1, ?_⟩
    refine ret_flat (by simp (implicitDefEqProofs := false) only [push_cast, reduceCtorEq, ↓reduceIte, Nat.reduceAdd, Nat.reduceMul, Nat.reduceSub, Nat.reduceMod, Nat.reduceLT, Nat.reduceGT, Nat.reduceLeDiff, Nat.reduceEqDiff, Nat.reduceBEq, Int.reduceAdd, Int.reduceSub, Int.reduceMul, Int.reduceLT, Int.reduceLE, Int.reduceEq, Int.reduceNe, Int.reduceToNat, Int.reduceNeg]) rfl ⟨?_, rfl⟩
    have : (48 + (n : Int)).toNat = 48 + n := by omega
    rw [this, Lib.decDigits, dif_pos h]
  · have e : decide ((n : Int) < 10) = false := by rw [decide_eq_false_iff_not]; omega
    have hm : n % 10 < 10 := Nat.mod_lt _ (by omega)
    have hd : n / 10 < n := by omega
    have ew : IntKind.u8.wrap (48 + (n : Int) % 10) = 48 + (n : Int) % 10 := wrap_u8' (by omega) (by omega)
    obtain ⟨b1, b2⟩ := one_byte (c := 48 + (n : Int) % 10) (by omega) (by omega)
    have hl := decDigits_len (n / 10)
    have hsz : (bt (Lib.decDigits (n / 10))).size + (bt [UInt8.ofNat (48 + (n : Int) % 10).toNat]).size ≤ 9223372036854775807 := by
      rw [bt_size, bt_size]; simp; omega
    simp (implicitDefEqProofs := false) only [push_cast, reduceCtorEq, ↓reduceIte, Nat.reduceAdd, Nat.reduceMul, Nat.reduceSub, Nat.reduceMod, Nat.reduceLT, Nat.reduceGT, Nat.reduceLeDiff, Nat.reduceEqDiff, Nat.reduceBEq, Int.reduceAdd, Int.reduceSub, Int.reduceMul, Int.reduceLT, Int.reduceLE, Int.reduceEq, Int.reduceNe, Int.reduceToNat, Int.reduceNeg, e]
    (refine ev_drawJ (.qs [0, 3, 1, 4, 5, 6] (.alt [0, 3, 1, 4, 5, 6] 2 (.e 7 [3, 4, 5, 6] (.e 8 [] (.qs [9, 10] .nil))) 7 (.alt [0, 1] 2 (.e 8 [] (.qs [9, 10] .nil)) 8 (.e 2 [0, 1] (.qs [9, 10] .nil))))) [9, 10] ?st1 rfl (by kernel_rfl) (fun T => ?_) ?_; rotate_left 1)
    · simp (implicitDefEqProofs := false) only [push_cast, reduceCtorEq, ↓reduceIte, Nat.reduceAdd, Nat.reduceMul, Nat.reduceSub, Nat.reduceMod, Nat.reduceLT, Nat.reduceGT, Nat.reduceLeDiff, Nat.reduceEqDiff, Nat.reduceBEq, Int.reduceAdd, Int.reduceSub, Int.reduceMul, Int.reduceLT, Int.reduceLE, Int.reduceEq, Int.reduceNe, Int.reduceToNat, Int.reduceNeg, tdiv_nat, tmod_nat, ew]
      refine ⟨⟨by omega, by omega⟩, ?_, ?_⟩
      · refine ev_cf (ih (n / 10) hd (by omega)) (by simp (implicitDefEqProofs := false) only [push_cast, reduceCtorEq, ↓reduceIte, Nat.reduceAdd, Nat.reduceMul, Nat.reduceSub, Nat.reduceMod, Nat.reduceLT, Nat.reduceGT, Nat.reduceLeDiff, Nat.reduceEqDiff, Nat.reduceBEq, Int.reduceAdd, Int.reduceSub, Int.reduceMul, Int.reduceLT, Int.reduceLE, Int.reduceEq, Int.reduceNe, Int.reduceToNat, Int.reduceNeg]) rfl rfl rfl ?_
        simp (implicitDefEqProofs := false) only [push_cast, reduceCtorEq, ↓reduceIte, Nat.reduceAdd, Nat.reduceMul, Nat.reduceSub, Nat.reduceMod, Nat.reduceLT, Nat.reduceGT, Nat.reduceLeDiff, Nat.reduceEqDiff, Nat.reduceBEq, Int.reduceAdd, Int.reduceSub, Int.reduceMul, Int.reduceLT, Int.reduceLE, Int.reduceEq, Int.reduceNe, Int.reduceToNat, Int.reduceNeg, tdiv_nat, tmod_nat, ew, b2]
        refine ⟨by omega, b1, hsz, ?_⟩
        exact Wk.refl _ _
      · refine ⟨by omega, ?_, b1, by omega, ?_⟩
        · refine ev_cf (ih (n / 10) hd (by omega)) (by simp (implicitDefEqProofs := false) only [push_cast, reduceCtorEq, ↓reduceIte, Nat.reduceAdd, Nat.reduceMul, Nat.reduceSub, Nat.reduceMod, Nat.reduceLT, Nat.reduceGT, Nat.reduceLeDiff, Nat.reduceEqDiff, Nat.reduceBEq, Int.reduceAdd, Int.reduceSub, Int.reduceMul, Int.reduceLT, Int.reduceLE, Int.reduceEq, Int.reduceNe, Int.reduceToNat, Int.reduceNeg]) rfl rfl rfl ?_
          simp (implicitDefEqProofs := false) only [push_cast, reduceCtorEq, ↓reduceIte, Nat.reduceAdd, Nat.reduceMul, Nat.reduceSub, Nat.reduceMod, Nat.reduceLT, Nat.reduceGT, Nat.reduceLeDiff, Nat.reduceEqDiff, Nat.reduceBEq, Int.reduceAdd, Int.reduceSub, Int.reduceMul, Int.reduceLT, Int.reduceLE, Int.reduceEq, Int.reduceNe, Int.reduceToNat, Int.reduceNeg, tdiv_nat, tmod_nat, ew, b2]
          refine ⟨b1, hsz, ?_⟩
          exact Wk.refl _ _
        · refine ev_cf (ih (n / 10) hd (by omega)) (by simp (implicitDefEqProofs := false) only [push_cast, reduceCtorEq, ↓reduceIte, Nat.reduceAdd, Nat.reduceMul, Nat.reduceSub, Nat.reduceMod, Nat.reduceLT, Nat.reduceGT, Nat.reduceLeDiff, Nat.reduceEqDiff, Nat.reduceBEq, Int.reduceAdd, Int.reduceSub, Int.reduceMul, Int.reduceLT, Int.reduceLE, Int.reduceEq, Int.reduceNe, Int.reduceToNat, Int.reduceNeg]) rfl rfl rfl ?_
          simp (implicitDefEqProofs := false) only [push_cast, reduceCtorEq, ↓reduceIte, Nat.reduceAdd, Nat.reduceMul, Nat.reduceSub, Nat.reduceMod, Nat.reduceLT, Nat.reduceGT, Nat.reduceLeDiff, Nat.reduceEqDiff, Nat.reduceBEq, Int.reduceAdd, Int.reduceSub, Int.reduceMul, Int.reduceLT, Int.reduceLE, Int.reduceEq, Int.reduceNe, Int.reduceToNat, Int.reduceNeg, tdiv_nat, tmod_nat, ew, b2]
          refine ⟨hsz, ?_⟩
          exact Wk.refl _ _
    simp (implicitDefEqProofs := false) only [push_cast, reduceCtorEq, ↓reduceIte, Nat.reduceAdd, Nat.reduceMul, Nat.reduceSub, Nat.reduceMod, Nat.reduceLT, Nat.reduceGT, Nat.reduceLeDiff, Nat.reduceEqDiff, Nat.reduceBEq, Int.reduceAdd, Int.reduceSub, Int.reduceMul, Int.reduceLT, Int.reduceLE, Int.reduceEq, Int.reduceNe, Int.reduceToNat, Int.reduceNeg]
    refine ret_flat (by simp (implicitDefEqProofs := false) only [push_cast, reduceCtorEq, ↓reduceIte, Nat.reduceAdd, Nat.reduceMul, Nat.reduceSub, Nat.reduceMod, Nat.reduceLT, Nat.reduceGT, Nat.reduceLeDiff, Nat.reduceEqDiff, Nat.reduceBEq, Int.reduceAdd, Int.reduceSub, Int.reduceMul, Int.reduceLT, Int.reduceLE, Int.reduceEq, Int.reduceNe, Int.reduceToNat, Int.reduceNeg]) rfl ⟨?_, rfl⟩
    have : (48 + (n : Int) % 10).toNat = 48 + n % 10 := by omega
    rw [this, bt_app, Lib.decDigits.eq_def n, dif_neg h]
def numB (n : Int) : ByteArray := bt (Lib.itoa n)
theorem numB_pos (n : Nat) : numB n = bt (Lib.decDigits n) := by
  unfold numB Lib.itoa
  rw [if_neg (by omega)]; rfl
theorem numB_neg (n : Nat) (h : 0 < n) : numB (-(n : Int)) = bt (45 :: Lib.decDigits n) := by
  unfold numB Lib.itoa
  rw [if_pos (by omega)]
  congr 3
  omega
theorem numB_size (n : Nat) : (bt (45 :: Lib.decDigits n)).size ≤ n + 2 := by
  have := decDigits_len n
  rw [bt_size]; simp; omega
theorem quo_neg (n : Nat) : (-(n : Int)).tdiv 10 = -((n : Int) / 10) := by
  rw [Int.neg_tdiv, Int.tdiv_eq_ediv_of_nonneg (by omega)]
theorem rem_neg (n : Nat) : (-(n : Int)).tmod 10 = -((n : Int) % 10) := by
  rw [Int.neg_tmod, Int.tmod_eq_emod_of_nonneg (by omega)]
set_option maxHeartbeats 1000000 in
theorem number_neg : ∀ (n : Nat), 0 < n → n ≤ 9223372036854775808 → Spec Tryd.prog 12 [intV (-(n : Int))] (fun x hp => x = strV (bt (45 :: Lib.decDigits n)) ∧ hp = []) := by
  intro n
  induction n using Nat.strongRecOn with
  | _ n ih =>
  intro h0 hn
  refine sc_enter Tryd.func12 rfl rfl rfl (by simp (implicitDefEqProofs := false) only [push_cast, reduceCtorEq, ↓reduceIte, Nat.reduceAdd, Nat.reduceMul, Nat.reduceSub, Nat.reduceMod, Nat.reduceLT, Nat.reduceGT, Nat.reduceLeDiff, Nat.reduceEqDiff, Nat.reduceBEq, Int.reduceAdd, Int.reduceSub, Int.reduceMul, Int.reduceLT, Int.reduceLE, Int.reduceEq, Int.reduceNe, Int.reduceToNat, Int.reduceNeg]) 23 rfl fun w ro γ => ?_
  have e0 : decide ((0 : Int) ≤ -(n : Int)) = false := by rw [decide_eq_false_iff_not]; omega
  by_cases h : n < 10
  · have e : decide ((-10 : Int) < -(n : Int)) = true := by rw [decide_eq_true_eq]; omega
    have hl := decDigits_len n
    have e3 : (0 : Int) - -(n : Int) = n := by omega
    simp (implicitDefEqProofs := false) only [push_cast, reduceCtorEq, ↓reduceIte, Nat.reduceAdd, Nat.reduceMul, Nat.reduceSub, Nat.reduceMod, Nat.reduceLT, Nat.reduceGT, Nat.reduceLeDiff, Nat.reduceEqDiff, Nat.reduceBEq, Int.reduceAdd, Int.reduceSub, Int.reduceMul, Int.reduceLT, Int.reduceLE, Int.reduceEq, Int.reduceNe, Int.reduceToNat, Int.reduceNeg, e0, e, e3]
    refine ⟨by constructor <;> omega, ?_⟩
    refine ev_cf (digits_spec n (by omega)) (by simp (implicitDefEqProofs := false) only [push_cast, reduceCtorEq, ↓reduceIte, Nat.reduceAdd, Nat.reduceMul, Nat.reduceSub, Nat.reduceMod, Nat.reduceLT, Nat.reduceGT, Nat.reduceLeDiff, Nat.reduceEqDiff, Nat.reduceBEq, Int.reduceAdd, Int.reduceSub, Int.reduceMul, Int.reduceLT, Int.reduceLE, Int.reduceEq, Int.reduceNe, Int.reduceToNat, Int.reduceNeg]) rfl rfl rfl ?_
    simp (implicitDefEqProofs := false) only [push_cast, reduceCtorEq, ↓reduceIte, Nat.reduceAdd, Nat.reduceMul, Nat.reduceSub, Nat.reduceMod, Nat.reduceLT, Nat.reduceGT, Nat.reduceLeDiff, Nat.reduceEqDiff, Nat.reduceBEq, Int.reduceAdd, Int.reduceSub, Int.reduceMul, Int.reduceLT, Int.reduceLE, Int.reduceEq, Int.reduceNe, Int.reduceToNat, Int.reduceNeg]
    refine ⟨?_, ?_⟩
    · rw [bt_size]; show 1 + _ ≤ _; omega
    · refine ret_flat (by simp (implicitDefEqProofs := false) only [push_cast, reduceCtorEq, ↓reduceIte, Nat.reduceAdd, Nat.reduceMul, Nat.reduceSub, Nat.reduceMod, Nat.reduceLT, Nat.reduceGT, Nat.reduceLeDiff, Nat.reduceEqDiff, Nat.reduceBEq, Int.reduceAdd, Int.reduceSub, Int.reduceMul, Int.reduceLT, Int.reduceLE, Int.reduceEq, Int.reduceNe, Int.reduceToNat, Int.reduceNeg]) rfl ⟨?_, rfl⟩
      show strV (bt [45] ++ _) = _
      rw [bt_app]; rfl
  · have e : decide ((-10 : Int) < -(n : Int)) = false := by rw [decide_eq_false_iff_not]; omega
    have hm : n % 10 < 10 := Nat.mod_lt _ (by omega)
    have hd : n / 10 < n := by omega
    have ew : IntKind.u8.wrap (48 - -((n : Int) % 10)) = 48 - -((n : Int) % 10) := wrap_u8' (by omega) (by omega)
    obtain ⟨b1, b2⟩ := one_byte (c := 48 - -((n : Int) % 10)) (by omega) (by omega)
    have hl := numB_size (n / 10)
    have hsz : (bt (45 :: Lib.decDigits (n / 10))).size + (bt [UInt8.ofNat (48 - -((n : Int) % 10)).toNat]).size ≤ 9223372036854775807 := by
      have : (bt [UInt8.ofNat (48 - -((n : Int) % 10)).toNat]).size = 1 := rfl
      omega
    simp (implicitDefEqProofs := false) only [push_cast, reduceCtorEq, ↓reduceIte, Nat.reduceAdd, Nat.reduceMul, Nat.reduceSub, Nat.reduceMod, Nat.reduceLT, Nat.reduceGT, Nat.reduceLeDiff, Nat.reduceEqDiff, Nat.reduceBEq, Int.reduceAdd, Int.reduceSub, Int.reduceMul, Int.reduceLT, Int.reduceLE, Int.reduceEq, Int.reduceNe, Int.reduceToNat, Int.reduceNeg, e0, e]
    (refine ev_drawJ (.qs [0, 3, 1, 4, 5, 6] (.alt [0, 3, 1, 4, 5, 6] 2 (.e 7 [3, 4, 5, 6] (.e 8 [] (.qs [9, 10] .nil))) 7 (.alt [0, 1] 2 (.e 8 [] (.qs [9, 10] .nil)) 8 (.e 2 [0, 1] (.qs [9, 10] .nil))))) [9, 10] ?st1 rfl (by kernel_rfl) (fun T => ?_) ?_; rotate_left 1)
    · simp (implicitDefEqProofs := false) only [push_cast, reduceCtorEq, ↓reduceIte, Nat.reduceAdd, Nat.reduceMul, Nat.reduceSub, Nat.reduceMod, Nat.reduceLT, Nat.reduceGT, Nat.reduceLeDiff, Nat.reduceEqDiff, Nat.reduceBEq, Int.reduceAdd, Int.reduceSub, Int.reduceMul, Int.reduceLT, Int.reduceLE, Int.reduceEq, Int.reduceNe, Int.reduceToNat, Int.reduceNeg, quo_neg, rem_neg, ew]
      refine ⟨⟨by omega, by omega⟩, ?_, ?_⟩
      · refine ev_cf (ih (n / 10) hd (by omega) (by omega)) (by simp (implicitDefEqProofs := false) only [push_cast, reduceCtorEq, ↓reduceIte, Nat.reduceAdd, Nat.reduceMul, Nat.reduceSub, Nat.reduceMod, Nat.reduceLT, Nat.reduceGT, Nat.reduceLeDiff, Nat.reduceEqDiff, Nat.reduceBEq, Int.reduceAdd, Int.reduceSub, Int.reduceMul, Int.reduceLT, Int.reduceLE, Int.reduceEq, Int.reduceNe, Int.reduceToNat, Int.reduceNeg]) rfl rfl rfl ?_
        simp (implicitDefEqProofs := false) only [push_cast, reduceCtorEq, ↓reduceIte, Nat.reduceAdd, Nat.reduceMul, Nat.reduceSub, Nat.reduceMod, Nat.reduceLT, Nat.reduceGT, Nat.reduceLeDiff, Nat.reduceEqDiff, Nat.reduceBEq, Int.reduceAdd, Int.reduceSub, Int.reduceMul, Int.reduceLT, Int.reduceLE, Int.reduceEq, Int.reduceNe, Int.reduceToNat, Int.reduceNeg, quo_neg, rem_neg, ew, b2]
        refine ⟨by omega, b1, hsz, ?_⟩
        exact Wk.refl _ _
      · refine ⟨by omega, ?_, b1, by omega, ?_⟩
        · refine ev_cf (ih (n / 10) hd (by omega) (by omega)) (by simp (implicitDefEqProofs := false) only [push_cast, reduceCtorEq, ↓reduceIte, Nat.reduceAdd, Nat.reduceMul, Nat.reduceSub, Nat.reduceMod, Nat.reduceLT, Nat.reduceGT, Nat.reduceLeDiff, Nat.reduceEqDiff, Nat.reduceBEq, Int.reduceAdd, Int.reduceSub, Int.reduceMul, Int.reduceLT, Int.reduceLE, Int.reduceEq, Int.reduceNe, Int.reduceToNat, Int.reduceNeg]) rfl rfl rfl ?_
          simp (implicitDefEqProofs := false) only [push_cast, reduceCtorEq, ↓reduceIte, Nat.reduceAdd, Nat.reduceMul, Nat.reduceSub, Nat.reduceMod, Nat.reduceLT, Nat.reduceGT, Nat.reduceLeDiff, Nat.reduceEqDiff, Nat.reduceBEq, Int.reduceAdd, Int.reduceSub, Int.reduceMul, Int.reduceLT, Int.reduceLE, Int.reduceEq, Int.reduceNe, Int.reduceToNat, Int.reduceNeg, quo_neg, rem_neg, ew, b2]
          refine ⟨b1, hsz, ?_⟩
          exact Wk.refl _ _
        · refine ev_cf (ih (n / 10) hd (by omega) (by omega)) (by simp (implicitDefEqProofs := false) only [push_cast, reduceCtorEq, ↓reduceIte, Nat.reduceAdd, Nat.reduceMul, Nat.reduceSub, Nat.reduceMod, Nat.reduceLT, Nat.reduceGT, Nat.reduceLeDiff, Nat.reduceEqDiff, Nat.reduceBEq, Int.reduceAdd, Int.reduceSub, Int.reduceMul, Int.reduceLT, Int.reduceLE, Int.reduceEq, Int.reduceNe, Int.reduceToNat, Int.reduceNeg]) rfl rfl rfl ?_
          simp (implicitDefEqProofs := false) only [push_cast, reduceCtorEq, ↓reduceIte, Nat.reduceAdd, Nat.reduceMul, Nat.reduceSub, Nat.reduceMod, Nat.reduceLT, Nat.reduceGT, Nat.reduceLeDiff, Nat.reduceEqDiff, Nat.reduceBEq, Int.reduceAdd, Int.reduceSub, Int.reduceMul, Int.reduceLT, Int.reduceLE, Int.reduceEq, Int.reduceNe, Int.reduceToNat, Int.reduceNeg, quo_neg, rem_neg, ew, b2]
          refine ⟨hsz, ?_⟩
          exact Wk.refl _ _
    simp (implicitDefEqProofs := false) only [push_cast, reduceCtorEq, ↓reduceIte, Nat.reduceAdd, Nat.reduceMul, Nat.reduceSub, Nat.reduceMod, Nat.reduceLT, Nat.reduceGT, Nat.reduceLeDiff, Nat.reduceEqDiff, Nat.reduceBEq, Int.reduceAdd, Int.reduceSub, Int.reduceMul, Int.reduceLT, Int.reduceLE, Int.reduceEq, Int.reduceNe, Int.reduceToNat, Int.reduceNeg]
    refine ret_flat (by simp (implicitDefEqProofs := false) only [push_cast, reduceCtorEq, ↓reduceIte, Nat.reduceAdd, Nat.reduceMul, Nat.reduceSub, Nat.reduceMod, Nat.reduceLT, Nat.reduceGT, Nat.reduceLeDiff, Nat.reduceEqDiff, Nat.reduceBEq, Int.reduceAdd, Int.reduceSub, Int.reduceMul, Int.reduceLT, Int.reduceLE, Int.reduceEq, Int.reduceNe, Int.reduceToNat, Int.reduceNeg]) rfl ⟨?_, rfl⟩
    have : (48 - -((n : Int) % 10)).toNat = 48 + n % 10 := by omega
    rw [this, bt_app, Lib.decDigits.eq_def n, dif_neg h]
    rfl
theorem number_spec (n : Int) (h0 : -9223372036854775808 ≤ n) (h1 : n ≤ 9223372036854775807) : Spec Tryd.prog 12 [intV n] (fun x hp => x = strV (numB n) ∧ hp = []) := by
  by_cases h : 0 ≤ n
  · obtain ⟨m, rfl⟩ := Int.eq_ofNat_of_zero_le h
    rw [numB_pos]
    refine sc_enter Tryd.func12 rfl rfl rfl (by simp (implicitDefEqProofs := false) only [push_cast, reduceCtorEq, ↓reduceIte, Nat.reduceAdd, Nat.reduceMul, Nat.reduceSub, Nat.reduceMod, Nat.reduceLT, Nat.reduceGT, Nat.reduceLeDiff, Nat.reduceEqDiff, Nat.reduceBEq, Int.reduceAdd, Int.reduceSub, Int.reduceMul, Int.reduceLT, Int.reduceLE, Int.reduceEq, Int.reduceNe, Int.reduceToNat, Int.reduceNeg]) 23 rfl fun w ro γ => ?_
    have e0 : decide ((0 : Int) ≤ (m : Int)) = true := by rw [decide_eq_true_eq]; omega
    simp (implicitDefEqProofs := false) only [push_cast, reduceCtorEq, ↓reduceIte, Nat.reduceAdd, Nat.reduceMul, Nat.reduceSub, Nat.reduceMod, Nat.reduceLT, Nat.reduceGT, Nat.reduceLeDiff, Nat.reduceEqDiff, Nat.reduceBEq, Int.reduceAdd, Int.reduceSub, Int.reduceMul, Int.reduceLT, Int.reduceLE, Int.reduceEq, Int.reduceNe, Int.reduceToNat, Int.reduceNeg, e0]
    refine ev_cf (digits_spec m (by omega)) (by simp (implicitDefEqProofs := false) only [push_cast, reduceCtorEq, ↓reduceIte, Nat.reduceAdd, Nat.reduceMul, Nat.reduceSub, Nat.reduceMod, Nat.reduceLT, Nat.reduceGT, Nat.reduceLeDiff, Nat.reduceEqDiff, Nat.reduceBEq, Int.reduceAdd, Int.reduceSub, Int.reduceMul, Int.reduceLT, Int.reduceLE, Int.reduceEq, Int.reduceNe, Int.reduceToNat, Int.reduceNeg]) rfl rfl rfl ?_
    simp (implicitDefEqProofs := false) only [push_cast, reduceCtorEq, ↓reduceIte, Nat.reduceAdd, Nat.reduceMul, Nat.reduceSub, Nat.reduceMod, Nat.reduceLT, Nat.reduceGT, Nat.reduceLeDiff, Nat.reduceEqDiff, Nat.reduceBEq, Int.reduceAdd, Int.reduceSub, Int.reduceMul, Int.reduceLT, Int.reduceLE, Int.reduceEq, Int.reduceNe, Int.reduceToNat, Int.reduceNeg]
    refine ret_flat (by simp (implicitDefEqProofs := false) only [push_cast, reduceCtorEq, ↓reduceIte, Nat.reduceAdd, Nat.reduceMul, Nat.reduceSub, Nat.reduceMod, Nat.reduceLT, Nat.reduceGT, Nat.reduceLeDiff, Nat.reduceEqDiff, Nat.reduceBEq, Int.reduceAdd, Int.reduceSub, Int.reduceMul, Int.reduceLT, Int.reduceLE, Int.reduceEq, Int.reduceNe, Int.reduceToNat, Int.reduceNeg]) rfl ⟨?_, rfl⟩
    rfl
  · obtain ⟨m, rfl⟩ : ∃ m : Nat, n = -(m : Int) := ⟨n.natAbs, by omega⟩
    rw [numB_neg m (by omega)]
    exact number_neg m (by omega) (by omega)
/-! ### words -/
instance : Inhabited ByteArray := ⟨⟨#[]⟩⟩
def strD (s : ByteArray) : List XD := [sD s]
attribute [push_cast] strD
def wordB (l : List ByteArray) (n : Int) : ByteArray := if 0 ≤ n ∧ n < l.length then l.getD n.toNat default else bt [63]
theorem rword_spec (l : List ByteArray) (n : Int) (g : Nat → Nat → XD) (hg : ∀ i, i < l.length → g i 0 = sD (l.getD i default)) : Spec Tryd.prog 11 [.c (.d (.ros 1 l.length g)), intV n] (fun x hp => x = strV (wordB l n) ∧ hp = []) := by
  refine sc_enter Tryd.func11 rfl rfl rfl (by simp (implicitDefEqProofs := false) only [push_cast, reduceCtorEq, ↓reduceIte, Nat.reduceAdd, Nat.reduceMul, Nat.reduceSub, Nat.reduceMod, Nat.reduceLT, Nat.reduceGT, Nat.reduceLeDiff, Nat.reduceEqDiff, Nat.reduceBEq, Int.reduceAdd, Int.reduceSub, Int.reduceMul, Int.reduceLT, Int.reduceLE, Int.reduceEq, Int.reduceNe, Int.reduceToNat, Int.reduceNeg]) 17 rfl fun w ro γ => ?_
  by_cases h0 : n < 0
  · have e0 : decide (n < 0) = true := by rw [decide_eq_true_eq]; exact h0
    simp (implicitDefEqProofs := false) only [push_cast, reduceCtorEq, ↓reduceIte, Nat.reduceAdd, Nat.reduceMul, Nat.reduceSub, Nat.reduceMod, Nat.reduceLT, Nat.reduceGT, Nat.reduceLeDiff, Nat.reduceEqDiff, Nat.reduceBEq, Int.reduceAdd, Int.reduceSub, Int.reduceMul, Int.reduceLT, Int.reduceLE, Int.reduceEq, Int.reduceNe, Int.reduceToNat, Int.reduceNeg, e0]
    refine ret_flat (by simp (implicitDefEqProofs := false) only [push_cast, reduceCtorEq, ↓reduceIte, Nat.reduceAdd, Nat.reduceMul, Nat.reduceSub, Nat.reduceMod, Nat.reduceLT, Nat.reduceGT, Nat.reduceLeDiff, Nat.reduceEqDiff, Nat.reduceBEq, Int.reduceAdd, Int.reduceSub, Int.reduceMul, Int.reduceLT, Int.reduceLE, Int.reduceEq, Int.reduceNe, Int.reduceToNat, Int.reduceNeg]) rfl ⟨?_, rfl⟩
    rw [wordB, if_neg (by omega)]; rfl
  · have e0 : decide (n < 0) = false := by rw [decide_eq_false_iff_not]; exact h0
    by_cases h1 : n < l.length
    · have e1 : decide ((l.length : Int) ≤ n) = false := by rw [decide_eq_false_iff_not]; omega
      have hgn := hg n.toNat (by omega)
      simp (implicitDefEqProofs := false) only [push_cast, reduceCtorEq, ↓reduceIte, Nat.reduceAdd, Nat.reduceMul, Nat.reduceSub, Nat.reduceMod, Nat.reduceLT, Nat.reduceGT, Nat.reduceLeDiff, Nat.reduceEqDiff, Nat.reduceBEq, Int.reduceAdd, Int.reduceSub, Int.reduceMul, Int.reduceLT, Int.reduceLE, Int.reduceEq, Int.reduceNe, Int.reduceToNat, Int.reduceNeg, e0, e1, hgn]
      refine ⟨⟨by omega, h1⟩, ?_⟩
      refine ret_flat (by simp (implicitDefEqProofs := false) only [push_cast, reduceCtorEq, ↓reduceIte, Nat.reduceAdd, Nat.reduceMul, Nat.reduceSub, Nat.reduceMod, Nat.reduceLT, Nat.reduceGT, Nat.reduceLeDiff, Nat.reduceEqDiff, Nat.reduceBEq, Int.reduceAdd, Int.reduceSub, Int.reduceMul, Int.reduceLT, Int.reduceLE, Int.reduceEq, Int.reduceNe, Int.reduceToNat, Int.reduceNeg]) rfl ⟨?_, rfl⟩
      rw [wordB, if_pos ⟨by omega, h1⟩]
    · have e1 : decide ((l.length : Int) ≤ n) = true := by rw [decide_eq_true_eq]; omega
      simp (implicitDefEqProofs := false) only [push_cast, reduceCtorEq, ↓reduceIte, Nat.reduceAdd, Nat.reduceMul, Nat.reduceSub, Nat.reduceMod, Nat.reduceLT, Nat.reduceGT, Nat.reduceLeDiff, Nat.reduceEqDiff, Nat.reduceBEq, Int.reduceAdd, Int.reduceSub, Int.reduceMul, Int.reduceLT, Int.reduceLE, Int.reduceEq, Int.reduceNe, Int.reduceToNat, Int.reduceNeg, e0, e1]
      refine ret_flat (by simp (implicitDefEqProofs := false) only [push_cast, reduceCtorEq, ↓reduceIte, Nat.reduceAdd, Nat.reduceMul, Nat.reduceSub, Nat.reduceMod, Nat.reduceLT, Nat.reduceGT, Nat.reduceLeDiff, Nat.reduceEqDiff, Nat.reduceBEq, Int.reduceAdd, Int.reduceSub, Int.reduceMul, Int.reduceLT, Int.reduceLE, Int.reduceEq, Int.reduceNe, Int.reduceToNat, Int.reduceNeg]) rfl ⟨?_, rfl⟩
      rw [wordB, if_neg (by omega)]; rfl
theorem word_spec (l : List ByteArray) (n : Int) (g : Nat → Nat → XD) (hg : ∀ i, i < l.length → g i 0 = sD (l.getD i default)) : Spec Tryd.prog 8 [intV n, .c (.d (.ros 1 l.length g))] (fun x hp => x = strV (wordB l n) ∧ hp = []) := by
  refine sc_enter Tryd.func8 rfl rfl rfl (by simp (implicitDefEqProofs := false) only [push_cast, reduceCtorEq, ↓reduceIte, Nat.reduceAdd, Nat.reduceMul, Nat.reduceSub, Nat.reduceMod, Nat.reduceLT, Nat.reduceGT, Nat.reduceLeDiff, Nat.reduceEqDiff, Nat.reduceBEq, Int.reduceAdd, Int.reduceSub, Int.reduceMul, Int.reduceLT, Int.reduceLE, Int.reduceEq, Int.reduceNe, Int.reduceToNat, Int.reduceNeg]) 17 rfl fun w ro γ => ?_
  by_cases h0 : n < 0
  · have e0 : decide (n < 0) = true := by rw [decide_eq_true_eq]; exact h0
    simp (implicitDefEqProofs := false) only [push_cast, reduceCtorEq, ↓reduceIte, Nat.reduceAdd, Nat.reduceMul, Nat.reduceSub, Nat.reduceMod, Nat.reduceLT, Nat.reduceGT, Nat.reduceLeDiff, Nat.reduceEqDiff, Nat.reduceBEq, Int.reduceAdd, Int.reduceSub, Int.reduceMul, Int.reduceLT, Int.reduceLE, Int.reduceEq, Int.reduceNe, Int.reduceToNat, Int.reduceNeg, e0]
    refine ret_flat (by simp (implicitDefEqProofs := false) only [push_cast, reduceCtorEq, ↓reduceIte, Nat.reduceAdd, Nat.reduceMul, Nat.reduceSub, Nat.reduceMod, Nat.reduceLT, Nat.reduceGT, Nat.reduceLeDiff, Nat.reduceEqDiff, Nat.reduceBEq, Int.reduceAdd, Int.reduceSub, Int.reduceMul, Int.reduceLT, Int.reduceLE, Int.reduceEq, Int.reduceNe, Int.reduceToNat, Int.reduceNeg]) rfl ⟨?_, rfl⟩
    rw [wordB, if_neg (by omega)]; rfl
  · have e0 : decide (n < 0) = false := by rw [decide_eq_false_iff_not]; exact h0
    by_cases h1 : n < l.length
    · have e1 : decide ((l.length : Int) ≤ n) = false := by rw [decide_eq_false_iff_not]; omega
      have hgn := hg n.toNat (by omega)
      simp (implicitDefEqProofs := false) only [push_cast, reduceCtorEq, ↓reduceIte, Nat.reduceAdd, Nat.reduceMul, Nat.reduceSub, Nat.reduceMod, Nat.reduceLT, Nat.reduceGT, Nat.reduceLeDiff, Nat.reduceEqDiff, Nat.reduceBEq, Int.reduceAdd, Int.reduceSub, Int.reduceMul, Int.reduceLT, Int.reduceLE, Int.reduceEq, Int.reduceNe, Int.reduceToNat, Int.reduceNeg, e0, e1, hgn]
      refine ⟨⟨by omega, h1⟩, ?_⟩
      refine ret_flat (by simp (implicitDefEqProofs := false) only [push_cast, reduceCtorEq, ↓reduceIte, Nat.reduceAdd, Nat.reduceMul, Nat.reduceSub, Nat.reduceMod, Nat.reduceLT, Nat.reduceGT, Nat.reduceLeDiff, Nat.reduceEqDiff, Nat.reduceBEq, Int.reduceAdd, Int.reduceSub, Int.reduceMul, Int.reduceLT, Int.reduceLE, Int.reduceEq, Int.reduceNe, Int.reduceToNat, Int.reduceNeg]) rfl ⟨?_, rfl⟩
      rw [wordB, if_pos ⟨by omega, h1⟩]
    · have e1 : decide ((l.length : Int) ≤ n) = true := by rw [decide_eq_true_eq]; omega
      simp (implicitDefEqProofs := false) only [push_cast, reduceCtorEq, ↓reduceIte, Nat.reduceAdd, Nat.reduceMul, Nat.reduceSub, Nat.reduceMod, Nat.reduceLT, Nat.reduceGT, Nat.reduceLeDiff, Nat.reduceEqDiff, Nat.reduceBEq, Int.reduceAdd, Int.reduceSub, Int.reduceMul, Int.reduceLT, Int.reduceLE, Int.reduceEq, Int.reduceNe, Int.reduceToNat, Int.reduceNeg, e0, e1]
      refine ret_flat (by simp (implicitDefEqProofs := false) only [push_cast, reduceCtorEq, ↓reduceIte, Nat.reduceAdd, Nat.reduceMul, Nat.reduceSub, Nat.reduceMod, Nat.reduceLT, Nat.reduceGT, Nat.reduceLeDiff, Nat.reduceEqDiff, Nat.reduceBEq, Int.reduceAdd, Int.reduceSub, Int.reduceMul, Int.reduceLT, Int.reduceLE, Int.reduceEq, Int.reduceNe, Int.reduceToNat, Int.reduceNeg]) rfl ⟨?_, rfl⟩
      rw [wordB, if_neg (by omega)]; rfl
def sp : ByteArray := bt [32]
def actB (k : Int) (t n : ByteArray) : ByteArray := wordB [bt [63], bt [98, 105, 110, 100], bt [101, 118, 105, 99, 116], bt [114, 101, 108, 101, 97, 115, 101]] k ++ sp ++ t ++ sp ++ n
theorem size_app (a b : ByteArray) : (a ++ b).size = a.size + b.size := ByteArray.size_append
theorem sp_size : sp.size = 1 := rfl
set_option maxHeartbeats 1000000 in
theorem text_spec (a : Act') (h1 : a.task.size ≤ 140737488355328) (h2 : a.node.size ≤ 140737488355328) : Spec Tryd.prog 10 [aggV (actD a)] (fun x hp => x = strV (actB a.kind a.task a.node) ∧ hp = []) := by
  refine sc_enter Tryd.func10 rfl rfl rfl (by simp (implicitDefEqProofs := false) only [push_cast, reduceCtorEq, ↓reduceIte, Nat.reduceAdd, Nat.reduceMul, Nat.reduceSub, Nat.reduceMod, Nat.reduceLT, Nat.reduceGT, Nat.reduceLeDiff, Nat.reduceEqDiff, Nat.reduceBEq, Int.reduceAdd, Int.reduceSub, Int.reduceMul, Int.reduceLT, Int.reduceLE, Int.reduceEq, Int.reduceNe, Int.reduceToNat, Int.reduceNeg]) 21 rfl fun w ro γ => ?_
  have k0 : (⟨#[32]⟩ : ByteArray).size = 1 := rfl
  have k1 : (⟨#[63]⟩ : ByteArray).size = 1 := rfl
  have k2 : (⟨#[98, 105, 110, 100]⟩ : ByteArray).size = 4 := rfl
  have k3 : (⟨#[101, 118, 105, 99, 116]⟩ : ByteArray).size = 5 := rfl
  have k4 : (⟨#[114, 101, 108, 101, 97, 115, 101]⟩ : ByteArray).size = 7 := rfl
  have fin : ∀ u : ByteArray, u.size ≤ 7 → u = wordB [bt [63], bt [98, 105, 110, 100], bt [101, 118, 105, 99, 116], bt [114, 101, 108, 101, 97, 115, 101]] a.kind →
      ((u.size + (⟨#[32]⟩ : ByteArray).size ≤ 9223372036854775807 ∧ (u ++ ⟨#[32]⟩).size + a.task.size ≤ 9223372036854775807 ∧ (u ++ ⟨#[32]⟩ ++ a.task).size + (⟨#[32]⟩ : ByteArray).size ≤ 9223372036854775807 ∧ (u ++ ⟨#[32]⟩ ++ a.task ++ ⟨#[32]⟩).size + a.node.size ≤ 9223372036854775807) ∧ strV (u ++ ⟨#[32]⟩ ++ a.task ++ ⟨#[32]⟩ ++ a.node) = strV (actB a.kind a.task a.node)) := by
    intro u h7 hu
    simp only [size_app]
    refine ⟨by omega, ?_⟩
    rw [hu]; rfl
  cases e1 : decide (a.kind = 1)
  · cases e2 : decide (a.kind = 2)
    · cases e3 : decide (a.kind = 3)
      · have hw := fin ⟨#[63]⟩ (by omega) (by
          rw [decide_eq_false_iff_not] at e1 e2 e3
          unfold wordB
          split
          · have : a.kind = 0 := by simp at *; omega
            rw [this]; rfl
          · rfl)
        simp (implicitDefEqProofs := false) only [push_cast, reduceCtorEq, ↓reduceIte, Nat.reduceAdd, Nat.reduceMul, Nat.reduceSub, Nat.reduceMod, Nat.reduceLT, Nat.reduceGT, Nat.reduceLeDiff, Nat.reduceEqDiff, Nat.reduceBEq, Int.reduceAdd, Int.reduceSub, Int.reduceMul, Int.reduceLT, Int.reduceLE, Int.reduceEq, Int.reduceNe, Int.reduceToNat, Int.reduceNeg, e1, e2, e3]
        obtain ⟨⟨w1, w2, w3, w4⟩, w5⟩ := hw
        refine ⟨w1, w2, w3, w4, ?_⟩
        refine ret_flat (by simp (implicitDefEqProofs := false) only [push_cast, reduceCtorEq, ↓reduceIte, Nat.reduceAdd, Nat.reduceMul, Nat.reduceSub, Nat.reduceMod, Nat.reduceLT, Nat.reduceGT, Nat.reduceLeDiff, Nat.reduceEqDiff, Nat.reduceBEq, Int.reduceAdd, Int.reduceSub, Int.reduceMul, Int.reduceLT, Int.reduceLE, Int.reduceEq, Int.reduceNe, Int.reduceToNat, Int.reduceNeg]) rfl ⟨?_, rfl⟩
        exact w5
      · have hk : a.kind = 3 := by simpa using e3
        have hw := fin ⟨#[114, 101, 108, 101, 97, 115, 101]⟩ (by omega) (by rw [hk]; rfl)
        simp (implicitDefEqProofs := false) only [push_cast, reduceCtorEq, ↓reduceIte, Nat.reduceAdd, Nat.reduceMul, Nat.reduceSub, Nat.reduceMod, Nat.reduceLT, Nat.reduceGT, Nat.reduceLeDiff, Nat.reduceEqDiff, Nat.reduceBEq, Int.reduceAdd, Int.reduceSub, Int.reduceMul, Int.reduceLT, Int.reduceLE, Int.reduceEq, Int.reduceNe, Int.reduceToNat, Int.reduceNeg, e1, e2, e3]
        obtain ⟨⟨w1, w2, w3, w4⟩, w5⟩ := hw
        refine ⟨w1, w2, w3, w4, ?_⟩
        refine ret_flat (by simp (implicitDefEqProofs := false) only [push_cast, reduceCtorEq, ↓reduceIte, Nat.reduceAdd, Nat.reduceMul, Nat.reduceSub, Nat.reduceMod, Nat.reduceLT, Nat.reduceGT, Nat.reduceLeDiff, Nat.reduceEqDiff, Nat.reduceBEq, Int.reduceAdd, Int.reduceSub, Int.reduceMul, Int.reduceLT, Int.reduceLE, Int.reduceEq, Int.reduceNe, Int.reduceToNat, Int.reduceNeg]) rfl ⟨?_, rfl⟩
        exact w5
    · have hk : a.kind = 2 := by simpa using e2
      have hw := fin ⟨#[101, 118, 105, 99, 116]⟩ (by omega) (by rw [hk]; rfl)
      simp (implicitDefEqProofs := false) only [push_cast, reduceCtorEq, ↓reduceIte, Nat.reduceAdd, Nat.reduceMul, Nat.reduceSub, Nat.reduceMod, Nat.reduceLT, Nat.reduceGT, Nat.reduceLeDiff, Nat.reduceEqDiff, Nat.reduceBEq, Int.reduceAdd, Int.reduceSub, Int.reduceMul, Int.reduceLT, Int.reduceLE, Int.reduceEq, Int.reduceNe, Int.reduceToNat, Int.reduceNeg, e1, e2]
      obtain ⟨⟨w1, w2, w3, w4⟩, w5⟩ := hw
      refine ⟨w1, w2, w3, w4, ?_⟩
      refine ret_flat (by simp (implicitDefEqProofs := false) only [push_cast, reduceCtorEq, ↓reduceIte, Nat.reduceAdd, Nat.reduceMul, Nat.reduceSub, Nat.reduceMod, Nat.reduceLT, Nat.reduceGT, Nat.reduceLeDiff, Nat.reduceEqDiff, Nat.reduceBEq, Int.reduceAdd, Int.reduceSub, Int.reduceMul, Int.reduceLT, Int.reduceLE, Int.reduceEq, Int.reduceNe, Int.reduceToNat, Int.reduceNeg]) rfl ⟨?_, rfl⟩
      exact w5
  · have hk : a.kind = 1 := by simpa using e1
    have hw := fin ⟨#[98, 105, 110, 100]⟩ (by omega) (by rw [hk]; rfl)
    simp (implicitDefEqProofs := false) only [push_cast, reduceCtorEq, ↓reduceIte, Nat.reduceAdd, Nat.reduceMul, Nat.reduceSub, Nat.reduceMod, Nat.reduceLT, Nat.reduceGT, Nat.reduceLeDiff, Nat.reduceEqDiff, Nat.reduceBEq, Int.reduceAdd, Int.reduceSub, Int.reduceMul, Int.reduceLT, Int.reduceLE, Int.reduceEq, Int.reduceNe, Int.reduceToNat, Int.reduceNeg, e1]
    obtain ⟨⟨w1, w2, w3, w4⟩, w5⟩ := hw
    refine ⟨w1, w2, w3, w4, ?_⟩
    refine ret_flat (by simp (implicitDefEqProofs := false) only [push_cast, reduceCtorEq, ↓reduceIte, Nat.reduceAdd, Nat.reduceMul, Nat.reduceSub, Nat.reduceMod, Nat.reduceLT, Nat.reduceGT, Nat.reduceLeDiff, Nat.reduceEqDiff, Nat.reduceBEq, Int.reduceAdd, Int.reduceSub, Int.reduceMul, Int.reduceLT, Int.reduceLE, Int.reduceEq, Int.reduceNe, Int.reduceToNat, Int.reduceNeg]) rfl ⟨?_, rfl⟩
    exact w5
set_option maxHeartbeats 1000000 in
theorem rtext_spec (a : Act') (h1 : a.task.size ≤ 140737488355328) (h2 : a.node.size ≤ 140737488355328) : Spec Tryd.prog 13 [aggV (actD a)] (fun x hp => x = strV (actB a.kind a.task a.node) ∧ hp = []) := by
  refine sc_enter Tryd.func13 rfl rfl rfl (by simp (implicitDefEqProofs := false) only [push_cast, reduceCtorEq, ↓reduceIte, Nat.reduceAdd, Nat.reduceMul, Nat.reduceSub, Nat.reduceMod, Nat.reduceLT, Nat.reduceGT, Nat.reduceLeDiff, Nat.reduceEqDiff, Nat.reduceBEq, Int.reduceAdd, Int.reduceSub, Int.reduceMul, Int.reduceLT, Int.reduceLE, Int.reduceEq, Int.reduceNe, Int.reduceToNat, Int.reduceNeg]) 30 rfl fun w ro γ => ?_
  have k0 : (⟨#[32]⟩ : ByteArray).size = 1 := rfl
  have k1 : (⟨#[63]⟩ : ByteArray).size = 1 := rfl
  have hws : (wordB [bt [63], bt [98, 105, 110, 100], bt [101, 118, 105, 99, 116], bt [114, 101, 108, 101, 97, 115, 101]] a.kind).size ≤ 7 := by
    unfold wordB
    split
    · rename_i hk
      obtain ⟨m, hm⟩ : ∃ m : Nat, a.kind = m := ⟨a.kind.toNat, by omega⟩
      have h4 : m < 4 := by have := hk.2; rw [hm] at this; simp at this; omega
      rw [hm]
      rcases m with _ | _ | _ | _ | m
      · decide
      · decide
      · decide
      · decide
      · omega
    · decide
  have fin : ∀ u : ByteArray, u = wordB [bt [63], bt [98, 105, 110, 100], bt [101, 118, 105, 99, 116], bt [114, 101, 108, 101, 97, 115, 101]] a.kind →
      ((u.size + (⟨#[32]⟩ : ByteArray).size ≤ 9223372036854775807 ∧ (u ++ ⟨#[32]⟩).size + a.task.size ≤ 9223372036854775807 ∧ (u ++ ⟨#[32]⟩ ++ a.task).size + (⟨#[32]⟩ : ByteArray).size ≤ 9223372036854775807 ∧ (u ++ ⟨#[32]⟩ ++ a.task ++ ⟨#[32]⟩).size + a.node.size ≤ 9223372036854775807) ∧ strV (u ++ ⟨#[32]⟩ ++ a.task ++ ⟨#[32]⟩ ++ a.node) = strV (actB a.kind a.task a.node)) := by
    intro u hu
    rw [← hu] at hws
    simp only [size_app]
    refine ⟨by omega, ?_⟩
    rw [hu]; rfl
  obtain ⟨k, t, nd⟩ := a
  dsimp only at *
  by_cases h0 : 0 ≤ k ∧ k < 4
  · have hk : k = 0 ∨ k = 1 ∨ k = 2 ∨ k = 3 := by omega
    rcases hk with rfl | rfl | rfl | rfl
    all_goals
      obtain ⟨⟨w1, w2, w3, w4⟩, w5⟩ := fin _ rfl
      simp (implicitDefEqProofs := false) only [push_cast, reduceCtorEq, ↓reduceIte, Nat.reduceAdd, Nat.reduceMul, Nat.reduceSub, Nat.reduceMod, Nat.reduceLT, Nat.reduceGT, Nat.reduceLeDiff, Nat.reduceEqDiff, Nat.reduceBEq, Int.reduceAdd, Int.reduceSub, Int.reduceMul, Int.reduceLT, Int.reduceLE, Int.reduceEq, Int.reduceNe, Int.reduceToNat, Int.reduceNeg, rowOf, decide_true]
      refine ⟨w1, w2, w3, w4, ?_⟩
      refine ret_flat (by simp (implicitDefEqProofs := false) only [push_cast, reduceCtorEq, ↓reduceIte, Nat.reduceAdd, Nat.reduceMul, Nat.reduceSub, Nat.reduceMod, Nat.reduceLT, Nat.reduceGT, Nat.reduceLeDiff, Nat.reduceEqDiff, Nat.reduceBEq, Int.reduceAdd, Int.reduceSub, Int.reduceMul, Int.reduceLT, Int.reduceLE, Int.reduceEq, Int.reduceNe, Int.reduceToNat, Int.reduceNeg]) rfl ⟨?_, rfl⟩
      exact w5
  · obtain ⟨⟨w1, w2, w3, w4⟩, w5⟩ := fin ⟨#[63]⟩ (by unfold wordB; rw [if_neg (by simpa using h0)]; rfl)
    cases e0 : decide (0 ≤ k)
    · simp (implicitDefEqProofs := false) only [push_cast, reduceCtorEq, ↓reduceIte, Nat.reduceAdd, Nat.reduceMul, Nat.reduceSub, Nat.reduceMod, Nat.reduceLT, Nat.reduceGT, Nat.reduceLeDiff, Nat.reduceEqDiff, Nat.reduceBEq, Int.reduceAdd, Int.reduceSub, Int.reduceMul, Int.reduceLT, Int.reduceLE, Int.reduceEq, Int.reduceNe, Int.reduceToNat, Int.reduceNeg, e0]
      refine ⟨w1, w2, w3, w4, ?_⟩
      refine ret_flat (by simp (implicitDefEqProofs := false) only [push_cast, reduceCtorEq, ↓reduceIte, Nat.reduceAdd, Nat.reduceMul, Nat.reduceSub, Nat.reduceMod, Nat.reduceLT, Nat.reduceGT, Nat.reduceLeDiff, Nat.reduceEqDiff, Nat.reduceBEq, Int.reduceAdd, Int.reduceSub, Int.reduceMul, Int.reduceLT, Int.reduceLE, Int.reduceEq, Int.reduceNe, Int.reduceToNat, Int.reduceNeg]) rfl ⟨?_, rfl⟩
      exact w5
    · have e1 : decide (k < 4) = false := by rw [decide_eq_true_eq] at e0; rw [decide_eq_false_iff_not]; omega
      simp (implicitDefEqProofs := false) only [push_cast, reduceCtorEq, ↓reduceIte, Nat.reduceAdd, Nat.reduceMul, Nat.reduceSub, Nat.reduceMod, Nat.reduceLT, Nat.reduceGT, Nat.reduceLeDiff, Nat.reduceEqDiff, Nat.reduceBEq, Int.reduceAdd, Int.reduceSub, Int.reduceMul, Int.reduceLT, Int.reduceLE, Int.reduceEq, Int.reduceNe, Int.reduceToNat, Int.reduceNeg, e0, e1]
      refine ⟨w1, w2, w3, w4, ?_⟩
      refine ret_flat (by simp (implicitDefEqProofs := false) only [push_cast, reduceCtorEq, ↓reduceIte, Nat.reduceAdd, Nat.reduceMul, Nat.reduceSub, Nat.reduceMod, Nat.reduceLT, Nat.reduceGT, Nat.reduceLeDiff, Nat.reduceEqDiff, Nat.reduceBEq, Int.reduceAdd, Int.reduceSub, Int.reduceMul, Int.reduceLT, Int.reduceLE, Int.reduceEq, Int.reduceNe, Int.reduceToNat, Int.reduceNeg]) rfl ⟨?_, rfl⟩
      exact w5
end Go.SX
