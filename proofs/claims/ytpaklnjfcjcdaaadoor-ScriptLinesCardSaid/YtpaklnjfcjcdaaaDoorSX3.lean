/- SX, the rest of the operations that only compute, and all of them under one name. Own work. -/
import Derived.Test.YtpaklnjfcjcdaaaDoorSX2
namespace Go.SX
set_option linter.unusedVariables false
set_option linter.unusedSimpArgs false

/-! ### '==' of structs and arrays of numbers, texts and bools -/
inductive VK where
  | i (k : IntKind)
  | s
  | b
def kindOf : Value → Option VK
  | .int k _ => some (.i k)
  | .string _ => some .s
  | .bool _ => some .b
  | _ => none
def kindsOf : List Value → Option (List VK)
  | [] => some []
  | v :: l => (kindOf v).bind fun k => (kindsOf l).map fun r => k :: r
def eqV : Value → Value → Bool
  | .int _ a, .int _ b => decide (a = b)
  | .string a, .string b => decide (a = b)
  | .bool a, .bool b => a == b
  | _, _ => false
def eqAll : List Value → List Value → Bool
  | [v], [u] => eqV v u
  | v :: l, u :: m => eqV v u && eqAll l m
  | _, _ => true
def valsOf : List XC → Option (List Value)
  | [] => some []
  | .d (.val v) :: l => (valsOf l).map fun r => v :: r
  | _ => none
/-- values of type T are equal just where their cells are -/
def EqPlain (P : Program) (T : TypeId) (ks : List VK) : Prop := P.eqGuardType P.depth T = false ∧
  ∀ (w : World) (vs us : List Value), kindsOf vs = some ks → kindsOf us = some ks → (Op.equal T (.agg vs.toArray) (.agg us.toArray)).run P w = .ok (eqAll vs us) w
theorem valsOf_sound {γ : Gh} {w : World} : ∀ (l : List XC) (vs us : List Value), valsOf l = some vs → All2 (RepC γ w) l us → us = vs := by
  intro l vs us h hl
  induction hl generalizing vs with
  | nil => simp only [valsOf, Option.some.injEq] at h; exact h
  | cons hr _ ih =>
    unfold valsOf at h
    split at h
    · rename_i heq; simp at heq
    · rename_i v l' heq
      simp only [List.cons.injEq] at heq
      obtain ⟨rfl, rfl⟩ := heq
      simp only [Option.map_eq_some_iff] at h
      obtain ⟨r, hr', rfl⟩ := h
      have hv := hr
      rw [ih r hr']
      rw [show _ = v from hv]
    · simp at h
def eqX (P : Program) (op : BinOp) (T : TypeId) (l m : List XC) : Option (Prop × Value) :=
  (valsOf l).bind fun vs => (valsOf m).bind fun us => (kindsOf vs).bind fun ks =>
  match op with
  | .eql => some (EqPlain P T ks ∧ kindsOf us = some ks, .bool (eqAll vs us))
  | .neq => some (EqPlain P T ks ∧ kindsOf us = some ks, .bool (!eqAll vs us))
  | _ => none
theorem eqX_sound {X : Cx} {γ : Gh} {w : World} {op : BinOp} {T : TypeId} {l m : List XC} {a b : Operand} {v u r : Value} {φ : Prop} (hx : RepV γ w (.agg l) v) (hy : RepV γ w (.agg m) u) (h : eqX X.P op T l m = some (φ, r)) (hφ : φ) :
    (do eqGuard op T a b v u; binOp op T v u : Sem Value).run X.P w = .ok r w := by
  unfold eqX at h
  simp only [Option.bind_eq_some_iff] at h
  obtain ⟨vs, hvs, us, hus, ks, hks, h⟩ := h
  obtain ⟨vl, rfl, hvl⟩ := hx
  obtain ⟨ul, rfl, hul⟩ := hy
  have e1 := valsOf_sound l vs vl hvs hvl
  have e2 := valsOf_sound m us ul hus hul
  subst e1; subst e2
  split at h
  · simp only [Option.some.injEq, Prod.mk.injEq] at h
    obtain ⟨rfl, rfl⟩ := h
    simp only [Sem.run_bind, run_eqGuard_agg _ _ _ _ _ _ _ hφ.1.1, Result.andThen_ok, binOp, hφ.1.2 w _ _ hks hφ.2, Sem.run_pure]
  · simp only [Option.some.injEq, Prod.mk.injEq] at h
    obtain ⟨rfl, rfl⟩ := h
    simp only [Sem.run_bind, run_eqGuard_agg _ _ _ _ _ _ _ hφ.1.1, Result.andThen_ok, binOp, hφ.1.2 w _ _ hks hφ.2, Sem.run_pure]
  · simp at h

/-! ### one operand -/
def unX (op : UnOp) : XV → Option (Prop × Value)
  | .c (.d (.val (.bool b))) => match op with | .not => some (True, .bool (!b)) | _ => none
  | .c (.d (.val (.int k n))) => match op with | .neg => some (arithX k (0 - n)) | _ => none
  | _ => none
theorem unX_sound {P : Program} {γ : Gh} {w : World} {op : UnOp} {x : XV} {v r : Value} {φ : Prop} (hx : RepV γ w x v) (h : unX op x = some (φ, r)) (hφ : φ) : (Op.unary op v).run P w = .ok r w := by
  unfold unX at h
  split at h
  · rename_i b
    have hv : v = .bool b := hx
    subst hv
    split at h
    · simp only [Option.some.injEq, Prod.mk.injEq] at h; obtain ⟨rfl, rfl⟩ := h; rfl
    · simp at h
  · rename_i k n
    have hv : v = .int k n := hx
    subst hv
    split at h
    · simp only [Option.some.injEq] at h
      have := arithX_sound k (0 - n) (by rw [h]; exact hφ)
      rw [h] at this
      simp only [Op.unary, Op.intArith, Sem.run_pure]
      rw [← this]
    · simp at h
  · simp at h

def convX (P : Program) (src dst : TypeId) : XV → Option (Prop × Value)
  | .c (.d (.val (.int _ n))) => if (P.underlying src).isSome then (kindT P dst).map fun k => arithX k n else none
  | .c (.d (.val (.string s))) => if strT P src && strT P dst then some (True, .string s) else none
  | _ => none
theorem kindT_some {P : Program} {T : TypeId} {k : IntKind} (h : kindT P T = some k) : P.underlying T = some (.int k) := by
  unfold kindT at h
  split at h
  · rename_i k' hk; simp only [Option.some.injEq] at h; subst h; exact hk
  · simp at h
theorem convX_sound {P : Program} {γ : Gh} {w : World} {src dst : TypeId} {x : XV} {v r : Value} {φ : Prop} (hx : RepV γ w x v) (h : convX P src dst x = some (φ, r)) (hφ : φ) : (convert src dst v).run P w = .ok r w := by
  unfold convX at h
  split at h
  · rename_i k n
    have hv : v = .int k n := hx
    subst hv
    split at h
    · rename_i hs
      simp only [Option.map_eq_some_iff] at h
      obtain ⟨k', hk, h⟩ := h
      obtain ⟨d, hd⟩ := Option.isSome_iff_exists.1 hs
      have := arithX_sound k' n (by rw [h]; exact hφ)
      rw [h] at this
      simp only [convert, Sem.run_bind, run_underlying' hd, run_underlying' (kindT_some hk), Result.andThen_ok]
      cases d <;> simp only [Conv.intToInt, Sem.run_pure] <;> rw [← this]
    · simp at h
  · rename_i s
    have hv : v = .string s := hx
    subst hv
    split at h
    · rename_i hs
      simp only [Bool.and_eq_true] at hs
      simp only [Option.some.injEq, Prod.mk.injEq] at h
      obtain ⟨rfl, rfl⟩ := h
      simp only [convert, Sem.run_bind, run_underlying' (strT_true hs.1), run_underlying' (strT_true hs.2), Result.andThen_ok, Sem.run_pure]
    · simp at h
  · simp at h

def lenX : XV → Option Int
  | .c (.slc _ _ _ n) => some n
  | .c (.d (.ros _ n _)) => some n
  | .c (.d (.val (.slice _ n _))) => some n
  | .c (.d (.val (.string s))) => some s.size
  | _ => none
/-- a slice's or a text's type -/
def slOrStr (P : Program) (T : TypeId) : Bool := match P.underlying T with | some .string => true | some (.slice _) => true | _ => false
def lenOk (P : Program) (T : TypeId) (x : XV) : Bool :=
  match x with
  | .c (.d (.val (.string _))) => strT P T
  | _ => (elemSl P T).isSome
theorem lenX_sound {P : Program} {γ : Gh} {w : World} {T ty : TypeId} {x : XV} {v : Value} {n : Int} (hx : RepV γ w x v) (h : lenX x = some n) (ht : lenOk P T x = true) : (Builtin.len_ #[T] ty #[v]).run P w = .ok (.int .i64 n) w := by
  unfold lenX at h
  split at h
  all_goals first | (simp only [Option.some.injEq] at h; subst h) | (exfalso; simp at h; done)
  · obtain ⟨a, cap, rfl, _, _⟩ := hx
    simp only [lenOk, Option.isSome_iff_exists] at ht
    obtain ⟨e, he⟩ := ht
    simp [Builtin.len_, run_underlying' (elemSl_some he), goInt]
  · obtain ⟨a, cap, rfl, _, _⟩ := hx
    simp only [lenOk, Option.isSome_iff_exists] at ht
    obtain ⟨e, he⟩ := ht
    simp [Builtin.len_, run_underlying' (elemSl_some he), goInt]
  · rename_i a n c
    have hv : v = .slice a n c := hx
    subst hv
    simp only [lenOk, Option.isSome_iff_exists] at ht
    obtain ⟨e, he⟩ := ht
    simp [Builtin.len_, run_underlying' (elemSl_some he), goInt]
  · rename_i s
    have hv : v = .string s := hx
    subst hv
    simp [Builtin.len_, run_underlying' (strT_true ht), goInt]

def minmaxX (mx : Bool) (x y : XV) : Option Value :=
  match x, y with
  | .c (.d (.val (.int k a))), .c (.d (.val (.int k' b))) => some (.int k (if mx then max a b else min a b))
  | _, _ => none
theorem minmaxX_sound {P : Program} {γ : Gh} {w : World} {mx : Bool} {ts : Array TypeId} {ty : TypeId} {x y : XV} {v u r : Value} (hx : RepV γ w x v) (hy : RepV γ w y u) (h : minmaxX mx x y = some r) :
    (if mx then Builtin.max_ ts ty #[v, u] else Builtin.min_ ts ty #[v, u]).run P w = .ok r w := by
  unfold minmaxX at h
  split at h
  · rename_i k a k' b
    have hv : v = .int k a := hx
    have hu : u = .int k' b := hy
    subst hv; subst hu
    simp only [Option.some.injEq] at h
    subst h
    cases mx
    · simp only [Bool.false_eq_true, if_false, run_min_int2]; congr 2; split <;> omega
    · simp only [if_true, run_max_int2]; congr 2; split <;> omega
  · simp at h

/-! ### slices of texts and slices -/
def natOpt (d : Nat) : Option XV → Option Int
  | none => some d
  | some x => intX x
def sliceX (P : Program) (T : TypeId) (x : XV) (lo hi mx : Option XV) : Option (Prop × XV) :=
  match mx with
  | some _ => none
  | none =>
  match x with
  | .c (.d (.val (.string s))) => if strT P T then (natOpt 0 lo).bind fun l => (natOpt s.size hi).map fun h => (0 ≤ l ∧ l ≤ h ∧ h ≤ s.size, .c (.d (.val (.string (s.extract l.toNat h.toNat))))) else none
  | .c (.slc b k i n) => (elemSl P T).bind fun e => if szT P e = some k then (natOpt 0 lo).bind fun l => (natOpt n hi).map fun h => (0 ≤ l ∧ l ≤ h ∧ h ≤ n, .c (.slc b k (i + l.toNat) (h - l).toNat)) else none
  | .c (.d (.ros k n g)) => (elemSl P T).bind fun e => if szT P e = some k then (natOpt 0 lo).bind fun l => (natOpt n hi).map fun h => (0 ≤ l ∧ l ≤ h ∧ h ≤ n, .c (.d (.ros k (h - l).toNat (shiftG l.toNat g)))) else none
  | _ => none

theorem natOpt_bound {γ : Gh} {w : World} {d : Nat} {x : Option XV} {n : Int} (h : natOpt d x = some n) {v : Option Value} (hv : ∀ y u, x = some y → v = some u → RepV γ w y u) (hn : x = none ↔ v = none) :
    (x = none ∧ v = none ∧ n = d) ∨ ∃ k, v = some (.int k n) := by
  cases x with
  | none => simp only [natOpt, Option.some.injEq] at h; exact .inl ⟨rfl, hn.1 rfl, h.symm⟩
  | some y =>
    cases v with
    | none => exact absurd (hn.2 rfl) (by simp)
    | some u =>
      obtain ⟨k, hk⟩ := intX_some (hv y u rfl rfl) h
      exact .inr ⟨k, by rw [hk]⟩
theorem run_sliceBounds {P : Program} {w : World} {isS : Bool} {len cap : Nat} {lo hi : Option Value} {l h : Int} (hl : (lo = none ∧ l = 0) ∨ ∃ k, lo = some (.int k l)) (hh : (hi = none ∧ h = len) ∨ ∃ k, hi = some (.int k h))
    (h0 : 0 ≤ l) (h1 : l ≤ h) (h2 : h ≤ cap) : (Instr.sliceBounds isS len cap lo hi none).run P w = .ok (l.toNat, h.toNat, cap) w := by
  unfold Instr.sliceBounds
  rcases hh with ⟨rfl, rfl⟩ | ⟨k, rfl⟩
  · rcases hl with ⟨rfl, rfl⟩ | ⟨k, rfl⟩
    · simp
    · simp only [Sem.run_bind, Sem.run_pure, Result.andThen_ok, Instr.sliceBound, asIntOf]
      rw [if_pos ⟨h0, h1⟩]
      simp
  · simp only [Sem.run_bind, Sem.run_pure, Result.andThen_ok, Instr.sliceBound, asIntOf]
    rw [if_pos ⟨by omega, h2⟩]
    rcases hl with ⟨rfl, rfl⟩ | ⟨k', rfl⟩
    · simp
    · simp only [Sem.run_bind, Sem.run_pure, Result.andThen_ok, Instr.sliceBound, asIntOf]
      rw [if_pos ⟨h0, by omega⟩]
      simp

theorem sliceX_sound {X : Cx} {γ : Gh} {w : World} {T : TypeId} {x y : XV} {lo hi mx : Option XV} {v : Value} {vlo vhi vmx : Option Value} {φ : Prop} (hx : RepV γ w x v)
    (hlo : ∀ y u, lo = some y → vlo = some u → RepV γ w y u) (hlo' : lo = none ↔ vlo = none) (hhi : ∀ y u, hi = some y → vhi = some u → RepV γ w y u) (hhi' : hi = none ↔ vhi = none) (hmx' : mx = none ↔ vmx = none)
    (h : sliceX X.P T x lo hi mx = some (φ, y)) (hφ : φ) : Yields X.P γ w (Instr.sliceAt T v vlo vhi vmx) y := by
  unfold sliceX at h
  split at h
  · simp at h
  · have hm := hmx'.1 rfl
    subst hm
    split at h
    · rename_i s
      have hv : v = .string s := hx
      subst hv
      split at h
      · rename_i ht
        simp only [Option.bind_eq_some_iff, Option.map_eq_some_iff, Prod.mk.injEq] at h
        obtain ⟨l, hl, hh, hhh, rfl, rfl⟩ := h
        have b1 := natOpt_bound hl hlo hlo'
        have b2 := natOpt_bound hhh hhi hhi'
        refine ⟨_, ?_, rfl⟩
        have hb := run_sliceBounds (P := X.P) (w := w) (isS := false) (len := s.size) (cap := s.size) (lo := vlo) (hi := vhi) (l := l) (h := hh) (by rcases b1 with ⟨_, h, h'⟩ | h; exact .inl ⟨h, by simpa using h'⟩; exact .inr h) (by rcases b2 with ⟨_, h, h'⟩ | h; exact .inl ⟨h, h'⟩; exact .inr h) hφ.1 hφ.2.1 hφ.2.2
        simp only [Instr.sliceAt, Instr.slice, Sem.run_bind, run_underlying' (strT_true ht), Result.andThen_ok, Option.isSome_none, Bool.false_eq_true, if_false, Sem.run_pure, hb]
      · simp at h
    · rename_i b k i n
      obtain ⟨a, cap, rfl, hcap, hr⟩ := hx
      simp only [Option.bind_eq_some_iff] at h
      obtain ⟨e, he, h⟩ := h
      split at h
      · rename_i hk
        simp only [Option.bind_eq_some_iff, Option.map_eq_some_iff, Prod.mk.injEq] at h
        obtain ⟨l, hl, hh, hhh, rfl, rfl⟩ := h
        have b1 := natOpt_bound hl hlo hlo'
        have b2 := natOpt_bound hhh hhi hhi'
        have hb := run_sliceBounds (P := X.P) (w := w) (isS := true) (len := n) (cap := cap) (lo := vlo) (hi := vhi) (l := l) (h := hh) (by rcases b1 with ⟨_, h, h'⟩ | h; exact .inl ⟨h, by simpa using h'⟩; exact .inr h) (by rcases b2 with ⟨_, h, h'⟩ | h; exact .inl ⟨h, h'⟩; exact .inr h) hφ.1 hφ.2.1 (by omega)
        refine ⟨.slice (if cap = l.toNat then a else a.map (·.add (l.toNat * k))) (hh.toNat - l.toNat) (cap - l.toNat), ?_, ?_⟩
        · simp only [Instr.sliceAt, Instr.slice, Sem.run_bind, run_underlying' (elemSl_some he), Result.andThen_ok, hb, run_sizeOf hk, Sem.run_pure]
        · refine ⟨_, cap - l.toNat, by rw [show (hh - l).toNat = hh.toNat - l.toNat from by omega], by omega, ?_⟩
          by_cases hc : cap = l.toNat
          · exact .inl (by omega)
          · rw [if_neg hc]
            rcases hr with hr | ⟨rfl, hr⟩
            · exact .inl (by omega)
            · refine .inr ⟨?_, by omega⟩
              simp only [Option.map_some, add_at]
              congr 2
              rw [Nat.add_mul, Nat.add_assoc]
      · simp at h
    · rename_i k n g
      obtain ⟨a, cap, rfl, hcap, hr⟩ := hx
      simp only [Option.bind_eq_some_iff] at h
      obtain ⟨e, he, h⟩ := h
      split at h
      · rename_i hk
        simp only [Option.bind_eq_some_iff, Option.map_eq_some_iff, Prod.mk.injEq] at h
        obtain ⟨l, hl, hh, hhh, rfl, rfl⟩ := h
        have b1 := natOpt_bound hl hlo hlo'
        have b2 := natOpt_bound hhh hhi hhi'
        have hb := run_sliceBounds (P := X.P) (w := w) (isS := true) (len := n) (cap := cap) (lo := vlo) (hi := vhi) (l := l) (h := hh) (by rcases b1 with ⟨_, h, h'⟩ | h; exact .inl ⟨h, by simpa using h'⟩; exact .inr h) (by rcases b2 with ⟨_, h, h'⟩ | h; exact .inl ⟨h, h'⟩; exact .inr h) hφ.1 hφ.2.1 (by omega)
        refine ⟨.slice (if cap = l.toNat then a else a.map (·.add (l.toNat * k))) (hh.toNat - l.toNat) (cap - l.toNat), ?_, ?_⟩
        · simp only [Instr.sliceAt, Instr.slice, Sem.run_bind, run_underlying' (elemSl_some he), Result.andThen_ok, hb, run_sizeOf hk, Sem.run_pure]
        · refine ⟨_, cap - l.toNat, by rw [show (hh - l).toNat = hh.toNat - l.toNat from by omega], by omega, fun i hi => ?_⟩
          have hc : ¬ cap = l.toNat := by omega
          rw [if_neg hc]
          obtain ⟨b, o, rfl, hb, hcells⟩ := hr (l.toNat + i) (by omega)
          refine ⟨b, o + l.toNat * k, by simp [add_at], hb, fun c hck => ?_⟩
          obtain ⟨u, hu, hru⟩ := hcells c hck
          exact ⟨u, by rw [← hu]; congr 2; rw [Nat.add_mul]; omega, hru⟩
      · simp at h
    · simp at h
end Go.SX
