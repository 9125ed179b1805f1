/- SX, operations that only compute: numbers, texts, fields, slices of slices. Own work. -/
import Derived.Test.YtpaklnjfcjcdaaaDoorSX1
namespace Go.SX
set_option linter.unusedVariables false
set_option linter.unusedSimpArgs false

/-! ### fields and elements of values -/
def partX (P : Program) (t : TypeId) (l : List XC) (off : Nat) : Option (Prop × XV) :=
  match aggT P t with
  | some true => (szT P t).map fun n => (off + n ≤ l.length, .agg (cellsOf l off n))
  | some false => (l[off]?).map fun c => (True, .c c)
  | none => none
theorem partX_sound {P : Program} {γ : Gh} {w : World} {t : TypeId} {l : List XC} {off : Nat} {vs : List Value} {y : XV} {φ : Prop} (hl : All2 (RepC γ w) l vs) (h : partX P t l off = some (φ, y)) (hφ : φ) :
    Yields P γ w (part t vs.toArray off) y := by
  unfold partX at h
  split at h
  · rename_i ht
    simp only [Option.map_eq_some_iff, Prod.mk.injEq] at h
    obtain ⟨n, hn, rfl, rfl⟩ := h
    refine ⟨.agg ((vs.drop off).take n).toArray, ?_, _, rfl, (hl.drop off).take n⟩
    simp only [part, Sem.run_bind, run_isAgg ht, Result.andThen_ok, if_true, run_sizeOf hn, Sem.run_pure]
    congr 2
    apply Array.toList_inj.1
    simp [List.extract_eq_take_drop]
  · rename_i ht
    simp only [Option.map_eq_some_iff, Prod.mk.injEq] at h
    obtain ⟨c, hc, rfl, rfl⟩ := h
    obtain ⟨u, hu, hr⟩ := hl.get off c hc
    refine ⟨u, ?_, hr⟩
    have hu' : vs.toArray[off]? = some u := by simpa using hu
    simp only [part, Sem.run_bind, run_isAgg ht, Result.andThen_ok, Bool.false_eq_true, if_false, hu', Sem.run_pure]
  · simp at h

def fieldX (P : Program) (T f : Nat) : XV → Option (Prop × XV)
  | .agg l => (fieldT P T f).bind fun r => partX P r.2 l r.1
  | _ => none
theorem fieldX_sound {X : Cx} {γ : Gh} {w : World} {T f : Nat} {x y : XV} {v : Value} {φ : Prop} (hx : RepV γ w x v) (h : fieldX X.P T f x = some (φ, y)) (hφ : φ) :
    Yields X.P γ w (Instr.field T v f) y := by
  unfold fieldX at h
  split at h
  · rename_i l
    rw [Option.bind_eq_some_iff] at h
    obtain ⟨⟨off, t⟩, hf, h⟩ := h
    obtain ⟨vs, rfl, hl⟩ := hx
    obtain ⟨fs, xf, hfs, hxf, rfl, rfl⟩ := fieldT_some hf
    obtain ⟨u, hu, hr⟩ := partX_sound hl h hφ
    refine ⟨u, ?_, hr⟩
    simp only [Instr.field, Sem.run_bind, run_underlying' hfs, Result.andThen_ok, hxf, asAgg, Sem.run_pure]
    exact hu
  · simp at h

def byteAt (s : ByteArray) (i : Nat) : Nat := (s.data.toList.getD i 0).toNat
def indexX (P : Program) (T : Nat) (x i : XV) : Option (Prop × XV) :=
  (intX i).bind fun n =>
  match x with
  | .agg l => (arrT P T).bind fun r => (szT P r.2).bind fun s => (partX P r.2 l (n.toNat * s)).map fun q => (0 ≤ n ∧ n < r.1 ∧ q.1, q.2)
  | .c (.d (.val (.string s))) => if strT P T then some (0 ≤ n ∧ n < s.size, .c (.d (.val (.int .u8 (byteAt s n.toNat))))) else none
  | _ => none
theorem strT_true {P : Program} {T : TypeId} (h : strT P T = true) : P.underlying T = some .string := by
  unfold strT at h
  split at h
  · assumption
  · simp at h
theorem indexX_sound {X : Cx} {γ : Gh} {w : World} {T : Nat} {x i y : XV} {v u : Value} {φ : Prop} (hx : RepV γ w x v) (hi : RepV γ w i u) (h : indexX X.P T x i = some (φ, y)) (hφ : φ) :
    Yields X.P γ w (Instr.index T v u) y := by
  unfold indexX at h
  rw [Option.bind_eq_some_iff] at h
  obtain ⟨n, hn, h⟩ := h
  obtain ⟨ik, rfl⟩ := intX_some hi hn
  split at h
  · rename_i l
    simp only [Option.bind_eq_some_iff, Option.map_eq_some_iff, Prod.mk.injEq] at h
    obtain ⟨⟨m, e⟩, hm, s, hs, ⟨ψ, q⟩, hq, rfl, rfl⟩ := h
    obtain ⟨vs, rfl, hl⟩ := hx
    obtain ⟨u, hu, hr⟩ := partX_sound hl hq hφ.2.2
    refine ⟨u, ?_, hr⟩
    simp only [Instr.index, asIntOf, Sem.run_bind, Sem.run_pure, Result.andThen_ok, run_underlying' (arrT_some hm), if_pos (And.intro hφ.1 hφ.2.1), Sem.run_ite, run_sizeOf hs]
    exact hu
  · rename_i s
    split at h
    · rename_i ht
      simp only [Option.some.injEq, Prod.mk.injEq] at h
      obtain ⟨rfl, rfl⟩ := h
      have hv : v = .string s := hx
      subst hv
      have hlt : n.toNat < s.size := by omega
      have hg : s[n.toNat]? = some s[n.toNat] := by simp [hlt]
      refine ⟨_, ?_, rfl⟩
      simp only [Instr.index, asIntOf, Sem.run_bind, Sem.run_pure, Result.andThen_ok, run_underlying' (strT_true ht), if_pos hφ.1, hg]
      have : (s[n.toNat]).toNat = byteAt s n.toNat := by
        unfold byteAt
        have h1 : s.data.toList.getD n.toNat 0 = s[n.toNat] := by
          rw [List.getD_eq_getElem?_getD, List.getElem?_eq_getElem (by simpa using hlt)]
          rfl
        rw [h1]
      rw [this]
    · simp at h
  · simp at h

def extractX (i : Nat) : XV → Option XV
  | .tup l => l[i]?
  | _ => none
theorem RepV_of_RepW {γ : Gh} {w : World} {x : XV} {v : Value} (h : RepW γ w x v) : RepV γ w x v := by
  cases x with
  | tup l => exact h.elim
  | any => exact h
  | c x => exact h
  | agg l => exact h
theorem extractX_sound {P : Program} {γ : Gh} {w : World} {i : Nat} {x y : XV} {v : Value} (hx : RepV γ w x v) (h : extractX i x = some y) :
    Yields P γ w (Instr.extract v i) y := by
  unfold extractX at h
  split at h
  · rename_i l
    obtain ⟨vs, rfl, hl⟩ := hx
    obtain ⟨u, hu, hr⟩ := hl.get i y h
    refine ⟨u, ?_, RepV_of_RepW hr⟩
    have hu' : vs.toArray[i]? = some u := by simpa using hu
    simp only [Instr.extract, hu', Sem.run_pure]
  · simp at h

/-! ### numbers, texts -/
def sLt (a b : ByteArray) : Bool := Op.bytesLess a.toList b.toList
def inI64 (n : Int) : Prop := -9223372036854775808 ≤ n ∧ n ≤ 9223372036854775807
theorem wrap_in {n : Int} (h : inI64 n) : IntKind.i64.wrap n = n := by
  unfold inI64 at h
  simp [IntKind.wrap, IntKind.bits, IntKind.signed]
  omega
theorem beq_bytes (a b : ByteArray) : (a.toList == b.toList) = decide (a = b) := by
  rw [Bool.eq_iff_iff]
  simp only [beq_iff_eq, decide_eq_true_eq]
  constructor
  · intro h
    rw [ByteArray.toList_eq, ByteArray.toList_eq] at h
    cases a; cases b
    simp only at h
    rw [Array.toList_inj.1 h]
  · intro h; rw [h]

/-- whole numbers: sums within bounds for 'int', wrapped for the other kinds -/
def arithX (k : IntKind) (n : Int) : Prop × Value :=
  match k with
  | .i64 => (inI64 n, .int .i64 n)
  | k => (True, .int k (k.wrap n))
theorem arithX_sound (k : IntKind) (n : Int) (h : (arithX k n).1) : (arithX k n).2 = .int k (k.wrap n) := by
  cases k <;> first | rfl | (simp only [arithX] at h ⊢; rw [wrap_in h])

def binI (op : BinOp) (k : IntKind) (a b : Int) : Option (Prop × Value) :=
  match op with
  | .add => some (arithX k (a + b))
  | .sub => some (arithX k (a - b))
  | .mul => some (arithX k (a * b))
  | .quo => some (b ≠ 0 ∧ (arithX k (a.tdiv b)).1, (arithX k (a.tdiv b)).2)
  | .rem => some (b ≠ 0, .int k (a.tmod b))
  | .eql => some (True, .bool (decide (a = b)))
  | .neq => some (True, .bool (decide (a ≠ b)))
  | .lss => some (True, .bool (decide (a < b)))
  | .leq => some (True, .bool (decide (a ≤ b)))
  | .gtr => some (True, .bool (decide (b < a)))
  | .geq => some (True, .bool (decide (b ≤ a)))
  | .and => some (0 ≤ a ∧ a ≤ k.max ∧ 0 ≤ b ∧ b ≤ k.max, .int k ((a.toNat &&& b.toNat : Nat) : Int))
  | .or => some (0 ≤ a ∧ a ≤ k.max ∧ 0 ≤ b ∧ b ≤ k.max, .int k ((a.toNat ||| b.toNat : Nat) : Int))
  | .xor => some (0 ≤ a ∧ a ≤ k.max ∧ 0 ≤ b ∧ b ≤ k.max, .int k ((a.toNat ^^^ b.toNat : Nat) : Int))
  | _ => none
def shX (op : BinOp) (k : IntKind) (a b : Int) : Option (Prop × Value) :=
  match op with
  | .shl => some (0 ≤ b, .int k (k.wrap (a * 2 ^ min b.toNat k.bits)))
  | .shr => some (0 ≤ b, .int k (a.fdiv (2 ^ min b.toNat k.bits)))
  | _ => none
def boolT (P : Program) (T : TypeId) : Bool := match P.underlying T with | some .bool => true | _ => false
def binB (op : BinOp) (a b : Bool) : Option (Prop × Value) :=
  match op with
  | .eql => some (True, .bool (a == b))
  | .neq => some (True, .bool (a != b))
  | _ => none
def binS (op : BinOp) (a b : ByteArray) : Option (Prop × Value) :=
  match op with
  | .add => some (a.size + b.size ≤ 9223372036854775807, .string (a ++ b))
  | .eql => some (True, .bool (decide (a = b)))
  | .neq => some (True, .bool (decide (a ≠ b)))
  | .lss => some (True, .bool (sLt a b))
  | .leq => some (True, .bool (sLt a b || decide (a = b)))
  | .gtr => some (True, .bool (!(sLt a b || decide (a = b))))
  | .geq => some (True, .bool (!sLt a b))
  | _ => none
/-- bools, pointers and slices against nil -/
def binX (P : Program) (op : BinOp) (T : TypeId) (x y : XV) : Option (Prop × Value) :=
  match x, y with
  | .c (.d (.val (.int k a))), .c (.d (.val (.int k' b))) => match shX op k a b with | some r => some r | none => if k = k' then binI op k a b else none
  | .c (.d (.val (.bool a))), .c (.d (.val (.bool b))) => if boolT P T then binB op a b else none
  | .c (.d (.val (.string a))), .c (.d (.val (.string b))) => binS op a b
  | .c (.ptr _ _ _ _), .c (.d (.val (.pointer none))) =>
    if ptrT P T then (match op with | .eql => some (True, .bool false) | .neq => some (True, .bool true) | _ => none) else none
  | .c (.d (.rop _ _)), .c (.d (.val (.pointer none))) =>
    if ptrT P T then (match op with | .eql => some (True, .bool false) | .neq => some (True, .bool true) | _ => none) else none
  | .c (.d (.val (.pointer none))), .c (.d (.val (.pointer none))) =>
    if ptrT P T then (match op with | .eql => some (True, .bool true) | .neq => some (True, .bool false) | _ => none) else none
  | _, _ => none

theorem max_eq (k : IntKind) : (k.signed = true ∧ k.max = 2 ^ (k.bits - 1) - 1) ∨ (k.signed = false ∧ k.max = 2 ^ k.bits - 1) := by cases k <;> simp [IntKind.signed, IntKind.max, IntKind.bits]
theorem bits_pos (k : IntKind) : 0 < k.bits := by cases k <;> simp [IntKind.bits]
theorem max_lt (k : IntKind) : k.max < 2 ^ k.bits := by cases k <;> simp [IntKind.max, IntKind.bits, IntKind.signed]
theorem wrap_small (k : IntKind) {n : Int} (h : 0 ≤ n) (h2 : n ≤ k.max) : k.wrap n = n := by
  cases k <;> simp [IntKind.wrap, IntKind.signed, IntKind.bits, IntKind.max] at h2 ⊢ <;> omega
theorem max_pow (k : IntKind) : ∃ j, k.max = 2 ^ j - 1 := by
  cases k
  all_goals first | exact ⟨8, rfl⟩ | exact ⟨7, rfl⟩ | exact ⟨16, rfl⟩ | exact ⟨15, rfl⟩ | exact ⟨32, rfl⟩ | exact ⟨31, rfl⟩ | exact ⟨64, rfl⟩ | exact ⟨63, rfl⟩
theorem toNat_bv {k : IntKind} {a : Int} (h : 0 ≤ a) (h2 : a ≤ k.max) : (BitVec.ofInt k.bits a).toNat = a.toNat := by
  rw [BitVec.toNat_ofInt]
  have h3 := max_lt k
  have : a % ((2 ^ k.bits : Nat) : Int) = a := Int.emod_eq_of_lt h (by push_cast; omega)
  rw [this]
theorem run_bits {P : Program} {w : World} {k : IntKind} {a b : Int} (h : 0 ≤ a ∧ a ≤ k.max ∧ 0 ≤ b ∧ b ≤ k.max) :
    (Op.intBits .and k a b).run P w = .ok (.int k ((a.toNat &&& b.toNat : Nat) : Int)) w ∧ (Op.intBits .or k a b).run P w = .ok (.int k ((a.toNat ||| b.toNat : Nat) : Int)) w ∧ (Op.intBits .xor k a b).run P w = .ok (.int k ((a.toNat ^^^ b.toNat : Nat) : Int)) w := by
  obtain ⟨h1, h2, h3, h4⟩ := h
  obtain ⟨j, hj⟩ := max_pow k
  have l1 : a.toNat < 2 ^ j := by
    have : (a.toNat : Int) < ((2 ^ j : Nat) : Int) := by push_cast; omega
    exact Int.ofNat_lt.1 this
  have l2 : b.toNat < 2 ^ j := by
    have : (b.toNat : Int) < ((2 ^ j : Nat) : Int) := by push_cast; omega
    exact Int.ofNat_lt.1 this
  have fin : ∀ n : Nat, n < 2 ^ j → k.wrap (n : Int) = n := fun n hn => wrap_small k (by omega) (by
    have : (n : Int) < ((2 ^ j : Nat) : Int) := Int.ofNat_lt.2 hn
    push_cast at this; omega)
  refine ⟨?_, ?_, ?_⟩
  · simp only [Op.intBits, Sem.run_pure, BitVec.toNat_and, toNat_bv h1 h2, toNat_bv h3 h4, fin _ (Nat.and_lt_two_pow _ l2)]
  · simp only [Op.intBits, Sem.run_pure, BitVec.toNat_or, toNat_bv h1 h2, toNat_bv h3 h4, fin _ (Nat.or_lt_two_pow l1 l2)]
  · simp only [Op.intBits, Sem.run_pure, BitVec.toNat_xor, toNat_bv h1 h2, toNat_bv h3 h4, fin _ (Nat.xor_lt_two_pow l1 l2)]
theorem run_shX {P : Program} {w : World} {op : BinOp} {k k' : IntKind} {a b : Int} {φ : Prop} {u : Value} {T : TypeId} (h : shX op k a b = some (φ, u)) (hφ : φ) : (binOp op T (.int k a) (.int k' b)).run P w = .ok u w := by
  cases op <;> simp only [shX, Option.some.injEq, Prod.mk.injEq, reduceCtorEq] at h
  case shl =>
    obtain ⟨rfl, rfl⟩ := h
    show (Op.shift .shl k a k' b).run P w = _
    simp only [Op.shift, if_neg (Int.not_lt.2 hφ), Sem.run_pure, Sem.run_ite]
  case shr =>
    obtain ⟨rfl, rfl⟩ := h
    show (Op.shift .shr k a k' b).run P w = _
    simp only [Op.shift, if_neg (Int.not_lt.2 hφ), Sem.run_pure, Sem.run_ite]
theorem boolT_true {P : Program} {T : TypeId} (h : boolT P T = true) : P.underlying T = some .bool := by
  unfold boolT at h
  split at h
  · assumption
  · simp at h
theorem run_binB {P : Program} {w : World} {op : BinOp} {a b : Bool} {φ : Prop} {u : Value} {T : TypeId} (ht : boolT P T = true) (h : binB op a b = some (φ, u)) (hφ : φ) : (binOp op T (.bool a) (.bool b)).run P w = .ok u w := by
  have he : (Op.equal T (.bool a) (.bool b)).run P w = .ok (a == b) w := by
    unfold Op.equal Op.maxDepth Op.equalIn
    simp only [Sem.run_bind, run_underlying' (boolT_true ht), Result.andThen_ok]
    rfl
  cases op <;> simp only [binB, Option.some.injEq, Prod.mk.injEq, reduceCtorEq] at h
  case eql =>
    obtain ⟨rfl, rfl⟩ := h
    simp only [binOp, Sem.run_bind, he, Result.andThen_ok, Sem.run_pure]
  case neq =>
    obtain ⟨rfl, rfl⟩ := h
    simp only [binOp, Sem.run_bind, he, Result.andThen_ok, Sem.run_pure]
    cases a <;> cases b <;> rfl
theorem run_binI {P : Program} {w : World} {op : BinOp} {k : IntKind} {a b : Int} {φ : Prop} {u : Value} {T : TypeId} (h : binI op k a b = some (φ, u)) (hφ : φ) : (binOp op T (.int k a) (.int k b)).run P w = .ok u w := by
  cases op <;> simp only [binI, Option.some.injEq, Prod.mk.injEq, reduceCtorEq] at h
  case add => rw [show binOp .add T (.int k a) (.int k b) = Op.intArith .add k a b from binOp_add ..]; have := arithX_sound k (a + b) (by rw [h]; exact hφ); rw [h] at this; simp only [Op.intArith, Sem.run_pure]; rw [← this]
  case sub => rw [show binOp .sub T (.int k a) (.int k b) = Op.intArith .sub k a b from binOp_sub ..]; have := arithX_sound k (a - b) (by rw [h]; exact hφ); rw [h] at this; simp only [Op.intArith, Sem.run_pure]; rw [← this]
  case mul => rw [show binOp .mul T (.int k a) (.int k b) = Op.intArith .mul k a b from binOp_mul ..]; have := arithX_sound k (a * b) (by rw [h]; exact hφ); rw [h] at this; simp only [Op.intArith, Sem.run_pure]; rw [← this]
  case quo =>
    obtain ⟨rfl, rfl⟩ := h
    rw [show binOp .quo T (.int k a) (.int k b) = Op.intDiv .quo k a b from binOp_quo ..]
    have := arithX_sound k (a.tdiv b) hφ.2
    simp only [Op.intDiv, if_neg hφ.1, Sem.run_pure]; rw [← this]
  case rem =>
    obtain ⟨rfl, rfl⟩ := h
    rw [show binOp .rem T (.int k a) (.int k b) = Op.intDiv .rem k a b from binOp_rem ..]
    simp only [Op.intDiv, if_neg hφ, Sem.run_pure]
  case and =>
    obtain ⟨rfl, rfl⟩ := h
    have e : binOp .and T (.int k a) (.int k b) = if k ≠ k then stuck "BinOp: operands of different kinds" else Op.intBits .and k a b := rfl
    rw [e, if_neg (by simp)]; exact (run_bits hφ).1
  case or =>
    obtain ⟨rfl, rfl⟩ := h
    have e : binOp .or T (.int k a) (.int k b) = if k ≠ k then stuck "BinOp: operands of different kinds" else Op.intBits .or k a b := rfl
    rw [e, if_neg (by simp)]; exact (run_bits hφ).2.1
  case xor =>
    obtain ⟨rfl, rfl⟩ := h
    have e : binOp .xor T (.int k a) (.int k b) = if k ≠ k then stuck "BinOp: operands of different kinds" else Op.intBits .xor k a b := rfl
    rw [e, if_neg (by simp)]; exact (run_bits hφ).2.2
  all_goals
    obtain ⟨rfl, rfl⟩ := h
    first
    | rw [show binOp .eql T (.int k a) (.int k b) = _ from binOp_eql ..]
    | rw [show binOp .neq T (.int k a) (.int k b) = _ from binOp_neq ..]
    | rw [show binOp .lss T (.int k a) (.int k b) = _ from binOp_lss ..]
    | rw [show binOp .leq T (.int k a) (.int k b) = _ from binOp_leq ..]
    | rw [show binOp .gtr T (.int k a) (.int k b) = _ from binOp_gtr ..]
    | rw [show binOp .geq T (.int k a) (.int k b) = _ from binOp_geq ..]
    simp only [Sem.run_pure]
    try first | rfl | (congr 3; rw [Bool.eq_iff_iff]; simp)

theorem run_binS {P : Program} {w : World} {op : BinOp} {a b : ByteArray} {φ : Prop} {u : Value} {T : TypeId} (h : binS op a b = some (φ, u)) (hφ : φ) : (binOp op T (.string a) (.string b)).run P w = .ok u w := by
  cases op <;> simp only [binS, Option.some.injEq, Prod.mk.injEq, reduceCtorEq] at h
  case add =>
    obtain ⟨rfl, rfl⟩ := h
    have : ¬ (((a.size + b.size : Nat) : Int) > IntKind.i64.max) := by simp [IntKind.max, IntKind.bits, IntKind.signed]; omega
    simp only [binOp, Op.stringOp, if_neg this, Sem.run_pure]
  all_goals
    obtain ⟨rfl, rfl⟩ := h
    simp only [binOp, Op.stringOp, Sem.run_pure, beq_bytes, sLt]
    try first | rfl | (congr 3; rw [Bool.eq_iff_iff]; simp)

theorem eqGuard_scalar {P : Program} {w : World} (op : BinOp) (T : TypeId) (x y : Operand) (u v : Value) (h : ∀ cs, u ≠ .agg cs) (h2 : u ≠ .nilIface) : (eqGuard op T x y u v).run P w = .ok () w := by
  unfold eqGuard
  cases u <;> first | exact absurd rfl h2 | exact absurd rfl (h _) | (cases op <;> rfl)

theorem eqGuard_ptr {P : Program} {w : World} (op : BinOp) (T : TypeId) (x y : Operand) {p : Option Addr} {v : Value} : (eqGuard op T x y (.pointer p) v).run P w = .ok () w :=
  eqGuard_scalar op T x y _ v (by simp) (by simp)
theorem ptrT_true {P : Program} {T : TypeId} (h : ptrT P T = true) : ∃ e, P.underlying T = some (.pointer e) := by
  unfold ptrT at h
  split at h
  · exact ⟨_, by assumption⟩
  · simp at h
theorem run_eq_ptr_nil {P : Program} {w : World} {T : TypeId} (ht : ptrT P T = true) (a : Option Addr) :
    (binOp .eql T (.pointer a) (.pointer none)).run P w = .ok (.bool a.isNone) w ∧ (binOp .neq T (.pointer a) (.pointer none)).run P w = .ok (.bool !a.isNone) w := by
  obtain ⟨e, he⟩ := ptrT_true ht
  have : (Op.equal T (.pointer a) (.pointer none)).run P w = .ok a.isNone w := by
    unfold Op.equal Op.maxDepth Op.equalIn
    simp only [Sem.run_bind, run_underlying' he, Result.andThen_ok]
    cases a <;> rfl
  simp only [binOp, Sem.run_bind, this, Result.andThen_ok, Sem.run_pure]
  exact ⟨trivial, trivial⟩

theorem binX_sound {X : Cx} {γ : Gh} {w : World} {op : BinOp} {T : TypeId} {x y : XV} {a b : Operand} {v u r : Value} {φ : Prop} (hx : RepV γ w x v) (hy : RepV γ w y u) (h : binX X.P op T x y = some (φ, r)) (hφ : φ) :
    (do eqGuard op T a b v u; binOp op T v u : Sem Value).run X.P w = .ok r w := by
  unfold binX at h
  split at h
  · rename_i k m k' m'
    split at h
    · rename_i r' hr
      have hv : v = .int k m := hx
      have hu : u = .int k' m' := hy
      subst hv; subst hu
      simp only [Sem.run_bind, eqGuard_scalar op T a b (.int k m) (.int k' m') (by simp) (by simp), Result.andThen_ok]
      exact run_shX (hr.trans h) hφ
    · split at h
      · rename_i hk
        subst hk
        have hv : v = .int k m := hx
        have hu : u = .int k m' := hy
        subst hv; subst hu
        simp only [Sem.run_bind, eqGuard_scalar op T a b (.int k m) (.int k m') (by simp) (by simp), Result.andThen_ok]
        exact run_binI h hφ
      · simp at h
  · rename_i p q
    split at h
    · rename_i ht
      have hv : v = .bool p := hx
      have hu : u = .bool q := hy
      subst hv; subst hu
      simp only [Sem.run_bind, eqGuard_scalar op T a b (.bool p) (.bool q) (by simp) (by simp), Result.andThen_ok]
      exact run_binB ht h hφ
    · simp at h
  · rename_i s s'
    have hv : v = .string s := hx
    have hu : u = .string s' := hy
    subst hv; subst hu
    simp only [Sem.run_bind, eqGuard_scalar op T a b (.string s) (.string s') (by simp) (by simp), Result.andThen_ok]
    exact run_binS h hφ
  · rename_i b' k i o
    have hv : v = .pointer (some ⟨γ.blk b', γ.off b' + (i * k + o), none⟩) := hx
    have hu : u = .pointer none := hy
    subst hv; subst hu
    split at h
    · rename_i ht
      simp only [Sem.run_bind, eqGuard_ptr op T a b, Result.andThen_ok]
      split at h
      · simp only [Option.some.injEq, Prod.mk.injEq] at h; obtain ⟨rfl, rfl⟩ := h; exact (run_eq_ptr_nil ht _).1
      · simp only [Option.some.injEq, Prod.mk.injEq] at h; obtain ⟨rfl, rfl⟩ := h; exact (run_eq_ptr_nil ht _).2
      · simp at h
    · simp at h
  · rename_i k g
    obtain ⟨b', o, rfl, _, _⟩ := hx
    have hu : u = .pointer none := hy
    subst hu
    split at h
    · rename_i ht
      simp only [Sem.run_bind, eqGuard_ptr op T a b, Result.andThen_ok]
      split at h
      · simp only [Option.some.injEq, Prod.mk.injEq] at h; obtain ⟨rfl, rfl⟩ := h; exact (run_eq_ptr_nil ht _).1
      · simp only [Option.some.injEq, Prod.mk.injEq] at h; obtain ⟨rfl, rfl⟩ := h; exact (run_eq_ptr_nil ht _).2
      · simp at h
    · simp at h
  · have hv : v = .pointer none := hx
    have hu : u = .pointer none := hy
    subst hv; subst hu
    split at h
    · rename_i ht
      simp only [Sem.run_bind, eqGuard_ptr op T a b, Result.andThen_ok]
      split at h
      · simp only [Option.some.injEq, Prod.mk.injEq] at h; obtain ⟨rfl, rfl⟩ := h; exact (run_eq_ptr_nil ht _).1
      · simp only [Option.some.injEq, Prod.mk.injEq] at h; obtain ⟨rfl, rfl⟩ := h; exact (run_eq_ptr_nil ht _).2
      · simp at h
    · simp at h
  · simp at h
end Go.SX
