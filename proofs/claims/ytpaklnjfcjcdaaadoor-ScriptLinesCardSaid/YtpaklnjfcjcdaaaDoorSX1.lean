/- SX, operations that only compute or read: what each gives over abstract values, and why. Own work. -/
import Derived.Test.YtpaklnjfcjcdaaaDoorSX0
namespace Go.SX
set_option linter.unusedVariables false
set_option linter.unusedSimpArgs false

theorem range_some {n i j : Nat} (h : (List.range n)[i]? = some j) : i < n ∧ j = i := by
  rw [List.getElem?_eq_some_iff] at h
  obtain ⟨h1, h2⟩ := h
  simp at h1 h2
  exact ⟨h1, h2.symm⟩

/-! ### what the type tables say -/
def szT (P : Program) (T : TypeId) : Option Nat := (P.info? T).map (·.size)
def bytesT (P : Program) (T : TypeId) : Option Nat := (P.info? T).map (·.bytes)
def zerT (P : Program) (T : TypeId) : Option (List Value) := (P.info? T).bind fun i => i.zero.map fun v => v.cells.toList
def aggT (P : Program) (T : TypeId) : Option Bool := (P.underlying T).map fun d => match d with | .struct _ | .array _ _ => true | _ => false
def fieldT (P : Program) (T f : Nat) : Option (Nat × TypeId) := match P.underlying T with | some (.struct fs) => (fs[f]?).map fun x => (x.offset, x.type) | _ => none
def elemSl (P : Program) (T : TypeId) : Option TypeId := match P.underlying T with | some (.slice e) => some e | _ => none
def arrT (P : Program) (T : TypeId) : Option (Nat × TypeId) := match P.underlying T with | some (.array n e) => some (n, e) | _ => none
def strT (P : Program) (T : TypeId) : Bool := match P.underlying T with | some .string => true | _ => false
def kindT (P : Program) (T : TypeId) : Option IntKind := match P.underlying T with | some (.int k) => some k | _ => none
def ptrT (P : Program) (T : TypeId) : Bool := match P.underlying T with | some (.pointer _) => true | _ => false

theorem run_sizeOf {P : Program} {T n : Nat} (h : szT P T = some n) (w : World) : (sizeOf T).run P w = .ok n w := by
  simp only [szT, Option.map_eq_some_iff] at h
  obtain ⟨i, hi, rfl⟩ := h
  simp [sizeOf, typeInfo, hi]
theorem run_isAgg {P : Program} {T : Nat} {b : Bool} (h : aggT P T = some b) (w : World) : (isAgg T).run P w = .ok b w := by
  simp only [aggT, Option.map_eq_some_iff] at h
  obtain ⟨d, hd, rfl⟩ := h
  simp only [isAgg, underlying, Sem.run_bind, run_program, Result.andThen_ok, hd, Sem.run_pure]
  cases d <;> rfl
theorem run_underlying' {P : Program} {T : Nat} {d : TypeDesc} (h : P.underlying T = some d) (w : World) : (underlying T).run P w = .ok d w := by
  simp [underlying, h]

/-! ### a value's run -/
def Yields (P : Program) (γ : Gh) (w : World) (s : Sem Value) (x : XV) : Prop := ∃ v, s.run P w = .ok v w ∧ RepV γ w x v

theorem repV_c {γ : Gh} {w : World} {x : XC} {v : Value} : RepV γ w (.c x) v = RepC γ w x v := rfl
theorem repV_agg {γ : Gh} {w : World} {l : List XC} {v : Value} : RepV γ w (.agg l) v = ∃ vs : List Value, v = .agg vs.toArray ∧ All2 (RepC γ w) l vs := rfl
theorem repV_any {γ : Gh} {w : World} {v : Value} : RepV γ w .any v = True := rfl

/-- The condition under which a value can be told, and the value. -/
def strip : XV → Prop × XV
  | .c (.cond φ x) => (φ, .c x)
  | x => (True, x)
theorem strip_sound {γ : Gh} {w : World} {x : XV} {v : Value} (h : RepV γ w x v) (hs : (strip x).1) : RepV γ w (strip x).2 v := by
  unfold strip at *
  split
  · rename_i φ x
    simp only at hs
    exact h.1 hs
  · exact h

/-! ### cells: loads -/
def cellsOf (cs : List XC) (o n : Nat) : List XC := (cs.drop o).take n
theorem cellsOf_get {α : Type} (cs : List α) (o n j : Nat) (hj : j < n) : ((cs.drop o).take n)[j]? = cs[o + j]? := by
  rw [List.getElem?_take_of_lt hj, List.getElem?_drop]

def rowL (f : Nat → XD) : (o n : Nat) → List XC
  | _, 0 => []
  | o, n + 1 => .d (f o) :: rowL f (o + 1) n
theorem rowL_eq (f : Nat → XD) : ∀ (n o : Nat), rowL f o n = (List.range n).map fun c => .d (f (o + c)) := by
  intro n
  induction n with
  | zero => intro o; rfl
  | succ n ih =>
    intro o
    rw [rowL, ih, List.range_succ_eq_map]
    simp [Nat.add_assoc, Nat.add_comm 1]

theorem run_loadCellsFrom {P : Program} {w : World} {b : Nat} (n : Nat) : ∀ (i o : Nat) (vs : List Value) (acc : Array Value), vs.length = n →
    (∀ j u, vs[j]? = some u → w.cell? ⟨b, o + (i + j), none⟩ = some u) → (loadCellsFrom ⟨b, o, none⟩ i n acc).run P w = .ok (acc ++ vs.toArray) w := by
  induction n with
  | zero => intro i o vs acc hl _; have : vs = [] := List.length_eq_zero_iff.1 hl; subst this; simp [loadCellsFrom]
  | succ n ih =>
    intro i o vs acc hl h
    cases vs with
    | nil => simp at hl
    | cons u vs =>
      have h0 := h 0 u rfl
      have ha : (Addr.add ⟨b, o, none⟩ i) = ⟨b, o + i, none⟩ := by cases i <;> rfl
      simp only [loadCellsFrom, Sem.run_bind, ha]
      rw [run_load]
      simp only [Nat.add_zero] at h0
      rw [h0]
      simp only [Result.andThen_ok]
      rw [ih (i + 1) o vs (acc.push u) (by simpa using hl) (fun j u' hj => by have := h (j + 1) u' (by simpa using hj); rw [show i + 1 + j = i + (j + 1) from by omega]; exact this)]
      simp

theorem run_loadVar_agg {P : Program} {w : World} {T n b o : Nat} {vs : List Value} (ht : aggT P T = some true) (hs : szT P T = some n) (hl : vs.length = n)
    (h : ∀ (j : Nat) u, vs[j]? = some u → w.cell? ⟨b, o + j, none⟩ = some u) : (loadVar T ⟨b, o, none⟩).run P w = .ok (.agg vs.toArray) w := by
  simp only [loadVar, Sem.run_bind, run_isAgg ht, Result.andThen_ok, if_true, loadCells, run_sizeOf hs]
  rw [run_loadCellsFrom n 0 o vs #[] hl (fun j u hj => by rw [Nat.zero_add]; exact h j u hj)]
  simp
theorem run_loadVar_one {P : Program} {w : World} {T b o : Nat} {u : Value} (ht : aggT P T = some false) (h : w.cell? ⟨b, o, none⟩ = some u) : (loadVar T ⟨b, o, none⟩).run P w = .ok u w := by
  simp only [loadVar, Sem.run_bind, run_isAgg ht, Result.andThen_ok, Bool.false_eq_true, if_false]
  rw [run_load, h]

/-- What lies at a pointer: n cells. -/
def atPtr (hp : List XB) (n : Nat) : XV → Option (Prop × List XC)
  | .c (.ptr b k i o) =>
    match hp[b]? with
    | some (.box l _) => some (i = 0 ∧ o + n ≤ l.length, cellsOf l o n)
    | some (.row k' m g _) => some (k' = k ∧ i < m ∧ o + n ≤ k, rowL (g i) o n)
    | _ => none
  | .c (.d (.rop k g)) => some (n ≤ k, rowL g 0 n)
  | _ => none

def ptrIs (v : Value) (b o : Nat) : Prop := v = .pointer (some ⟨b, o, none⟩)

theorem atPtr_sound {X : Cx} {γ : Gh} {w : World} {hp : List XB} {n : Nat} {x : XV} {v : Value} {cs : List XC} {φ : Prop} (hI : Inv X γ w hp) (hx : RepV γ w x v) (h : atPtr hp n x = some (φ, cs)) (hφ : φ) :
    ∃ b o, v = .pointer (some ⟨b, o, none⟩) ∧ cs.length = n ∧ ∃ vs : List Value, All2 (RepC γ w) cs vs ∧ ∀ (j : Nat) u, vs[j]? = some u → w.cell? ⟨b, o + j, none⟩ = some u := by
  unfold atPtr at h
  split at h
  · rename_i b k i o
    have hv : v = .pointer (some ⟨γ.blk b, γ.off b + (i * k + o), none⟩) := hx
    split at h
    · rename_i l T hb
      simp only [Option.some.injEq, Prod.mk.injEq] at h
      obtain ⟨rfl, rfl⟩ := h
      obtain ⟨rfl, hlen⟩ := hφ
      obtain ⟨h0, _, vs, hvs, hl⟩ := hI.good b _ hb
      have hvl := hl.length
      refine ⟨_, _, hv, by simp [cellsOf]; omega, (vs.drop o).take n, (hl.drop o).take n, fun j u hj => ?_⟩
      have hj' : j < n := by
        have := (List.getElem?_eq_some_iff.1 hj).1
        simp at this; omega
      rw [cellsOf_get vs o n j hj'] at hj
      simp only [World.cell?, hvs, h0]
      simpa [Nat.add_comm] using hj
    · rename_i k' m g T hb
      simp only [Option.some.injEq, Prod.mk.injEq] at h
      obtain ⟨rfl, rfl⟩ := h
      obtain ⟨rfl, him, hon⟩ := hφ
      rw [rowL_eq]
      obtain ⟨hm, hr⟩ := hI.good b _ hb
      rcases hr with hr | ⟨arr, fz, ha, _, hs, _, hc⟩
      · omega
      · have key : ∀ c, c < n → ∃ u, arr[γ.off b + (i * k' + (o + c))]? = some u ∧ RepD γ.ro w (g i (o + c)) u := fun c hcn => hc i him (o + c) (by omega)
        refine ⟨_, _, hv, by simp, (List.range n).map fun c => (arr[γ.off b + (i * k' + (o + c))]?).getD undef, ?_, fun j u hj => ?_⟩
        · refine All2.of_get (by simp) fun j a u h1 h2 => ?_
          simp only [List.getElem?_map, Option.map_eq_some_iff] at h1 h2
          obtain ⟨j1, hj1, rfl⟩ := h1
          obtain ⟨j2, hj2, rfl⟩ := h2
          obtain ⟨hlt, rfl⟩ := range_some hj1
          obtain ⟨_, rfl⟩ := range_some hj2
          obtain ⟨u, hu, hr⟩ := key _ hlt
          rw [hu]; exact hr
        · simp only [List.getElem?_map, Option.map_eq_some_iff] at hj
          obtain ⟨j2, hj2, rfl⟩ := hj
          obtain ⟨hlt, rfl⟩ := range_some hj2
          obtain ⟨u, hu, _⟩ := key _ hlt
          simp only [World.cell?, ha]
          rw [hu]
          simpa [Nat.add_assoc] using hu
    · simp at h
  · rename_i k g
    simp only [Option.some.injEq, Prod.mk.injEq] at h
    obtain ⟨rfl, rfl⟩ := h
    obtain ⟨b, o, hv, hb, hc⟩ := hx
    rw [rowL_eq]
    simp only [Nat.zero_add]
    refine ⟨b, o, hv, by simp, (List.range n).map fun c => (w.cell? ⟨b, o + c, none⟩).getD undef, ?_, fun j u hj => ?_⟩
    · refine All2.of_get (by simp) fun j a u h1 h2 => ?_
      simp only [List.getElem?_map, Option.map_eq_some_iff] at h1 h2
      obtain ⟨j1, hj1, rfl⟩ := h1
      obtain ⟨j2, hj2, rfl⟩ := h2
      obtain ⟨hlt, rfl⟩ := range_some hj1
      obtain ⟨_, rfl⟩ := range_some hj2
      obtain ⟨u, hu, hr⟩ := hc _ (Nat.lt_of_lt_of_le hlt hφ)
      rw [hu]; exact hr
    · simp only [List.getElem?_map, Option.map_eq_some_iff] at hj
      obtain ⟨j2, hj2, rfl⟩ := hj
      obtain ⟨hlt, rfl⟩ := range_some hj2
      obtain ⟨u, hu, _⟩ := hc _ (Nat.lt_of_lt_of_le hlt hφ)
      rw [hu]; rfl
  · simp at h

def atPtr1 (hp : List XB) : XV → Option (Prop × XC)
  | .c (.ptr b k i o) =>
    match hp[b]? with
    | some (.box l _) => (l[o]?).map fun c => (i = 0, c)
    | some (.row k' m g _) => some (k' = k ∧ i < m ∧ o < k, .d (g i o))
    | _ => none
  | .c (.d (.rop k g)) => some (0 < k, .d (g 0))
  | _ => none
theorem atPtr1_sound {X : Cx} {γ : Gh} {w : World} {hp : List XB} {x : XV} {v : Value} {c : XC} {φ : Prop} (hI : Inv X γ w hp) (hx : RepV γ w x v) (h : atPtr1 hp x = some (φ, c)) (hφ : φ) :
    ∃ b o u, v = .pointer (some ⟨b, o, none⟩) ∧ RepC γ w c u ∧ w.cell? ⟨b, o, none⟩ = some u := by
  have key : ∀ cs ψ, atPtr hp 1 x = some (ψ, cs) → ψ → cs = [c] → ∃ b o u, v = .pointer (some ⟨b, o, none⟩) ∧ RepC γ w c u ∧ w.cell? ⟨b, o, none⟩ = some u := by
    intro cs ψ h1 h2 h3
    subst h3
    obtain ⟨b, o, hv, _, vs, hl, hc⟩ := atPtr_sound hI hx h1 h2
    obtain ⟨u, hu, hr⟩ := hl.get 0 c rfl
    exact ⟨b, o, u, hv, hr, hc 0 u hu⟩
  unfold atPtr1 at h
  split at h
  · rename_i b k i o
    split at h
    · rename_i l T hb
      simp only [Option.map_eq_some_iff, Prod.mk.injEq] at h
      obtain ⟨c', hc, rfl, rfl⟩ := h
      have hlt := (List.getElem?_eq_some_iff.1 hc).1
      refine key (cellsOf l o 1) (i = 0 ∧ o + 1 ≤ l.length) (by simp only [atPtr, hb]) ⟨hφ, hlt⟩ ?_
      have := (List.getElem?_eq_some_iff.1 hc).2
      rw [cellsOf, List.drop_eq_getElem_cons hlt]
      simp [this]
    · rename_i k' m g T hb
      simp only [Option.some.injEq, Prod.mk.injEq] at h
      obtain ⟨rfl, rfl⟩ := h
      exact key _ (k' = k ∧ i < m ∧ o + 1 ≤ k) (by simp only [atPtr, hb]; rfl) ⟨hφ.1, hφ.2.1, hφ.2.2⟩ rfl
    · simp at h
  · rename_i k g
    simp only [Option.some.injEq, Prod.mk.injEq] at h
    obtain ⟨rfl, rfl⟩ := h
    exact key _ (1 ≤ k) rfl hφ rfl
  · simp at h

def loadX (P : Program) (hp : List XB) (T : TypeId) (x : XV) : Option (Prop × XV) :=
  match aggT P T with
  | some true => (szT P T).bind fun n => (atPtr hp n x).map fun r => (r.1, .agg r.2)
  | some false => (atPtr1 hp x).map fun r => (r.1, .c r.2)
  | none => none
theorem loadX_sound {X : Cx} {γ : Gh} {w : World} {hp : List XB} {T : TypeId} {x y : XV} {v : Value} {φ : Prop} (hI : Inv X γ w hp) (hx : RepV γ w x v) (h : loadX X.P hp T x = some (φ, y)) (hφ : φ) :
    Yields X.P γ w (Instr.loadAt T v) y := by
  unfold loadX at h
  split at h
  · rename_i ht
    simp only [Option.bind_eq_some_iff, Option.map_eq_some_iff, Prod.mk.injEq] at h
    obtain ⟨n, hn, ⟨ψ, cs⟩, hr, rfl, rfl⟩ := h
    obtain ⟨b, o, rfl, hl, vs, hvs, hc⟩ := atPtr_sound hI hx hr hφ
    refine ⟨.agg vs.toArray, ?_, vs, rfl, hvs⟩
    simp only [Instr.loadAt, Instr.sureAddr, Sem.run_bind, Sem.run_pure, Result.andThen_ok]
    exact run_loadVar_agg ht hn (by rw [← hvs.length, hl]) hc
  · rename_i ht
    simp only [Option.map_eq_some_iff, Prod.mk.injEq] at h
    obtain ⟨⟨ψ, c⟩, hr, rfl, rfl⟩ := h
    obtain ⟨b, o, u, rfl, hu, hc⟩ := atPtr1_sound hI hx hr hφ
    refine ⟨u, ?_, hu⟩
    simp only [Instr.loadAt, Instr.sureAddr, Sem.run_bind, Sem.run_pure, Result.andThen_ok]
    exact run_loadVar_one ht hc
  · simp at h

/-! ### addresses -/
def fieldAddrX (P : Program) (T f : Nat) : XV → Option (Prop × XV)
  | .c (.ptr b k i o) => (fieldT P T f).bind fun r => (szT P r.2).bind fun n => if n = 0 then none else some (True, .c (.ptr b k i (o + r.1)))
  | .c (.d (.rop k g)) => (fieldT P T f).bind fun r => (szT P r.2).bind fun n => if n = 0 then none else some (r.1 ≤ k, .c (.d (.rop (k - r.1) fun c => g (r.1 + c))))
  | _ => none
theorem fieldT_some {P : Program} {T f off : Nat} {t : TypeId} (h : fieldT P T f = some (off, t)) : ∃ fs x, P.underlying T = some (.struct fs) ∧ fs[f]? = some x ∧ x.offset = off ∧ x.type = t := by
  unfold fieldT at h
  split at h
  · rename_i fs hfs
    simp only [Option.map_eq_some_iff, Prod.mk.injEq] at h
    obtain ⟨x, hx, h1, h2⟩ := h
    exact ⟨fs, x, hfs, hx, h1, h2⟩
  · simp at h
theorem run_fieldAt {P : Program} {T f off n b o : Nat} {t : TypeId} (h : fieldT P T f = some (off, t)) (hn : szT P t = some n) (h0 : n ≠ 0) (w : World) :
    (Instr.fieldAt T (.pointer (some ⟨b, o, none⟩)) f).run P w = .ok (.pointer (some ⟨b, o + off, none⟩)) w := by
  obtain ⟨fs, x, hfs, hx, rfl, rfl⟩ := fieldT_some h
  simp only [Instr.fieldAt, Sem.run_bind, run_underlying' hfs, Result.andThen_ok, hx, Instr.sureAddr, Sem.run_pure, fieldPlace, run_sizeOf hn, if_neg h0]
  congr 3
  unfold Addr.add
  split
  · rename_i h; rw [h]; rfl
  · rfl
theorem fieldAddrX_sound {X : Cx} {γ : Gh} {w : World} {T f : Nat} {x y : XV} {v : Value} {φ : Prop} (hx : RepV γ w x v) (h : fieldAddrX X.P T f x = some (φ, y)) (hφ : φ) :
    Yields X.P γ w (Instr.fieldAt T v f) y := by
  unfold fieldAddrX at h
  split at h
  · rename_i b k i o
    simp only [Option.bind_eq_some_iff] at h
    obtain ⟨⟨off, t⟩, hf, n, hn, h⟩ := h
    split at h
    · simp at h
    · rename_i h0
      simp only [Option.some.injEq, Prod.mk.injEq] at h
      obtain ⟨rfl, rfl⟩ := h
      have hv : v = .pointer (some ⟨γ.blk b, γ.off b + (i * k + o), none⟩) := hx
      subst hv
      refine ⟨_, run_fieldAt hf hn h0 w, ?_⟩
      show _ = _
      simp [Nat.add_assoc]
  · rename_i k g
    simp only [Option.bind_eq_some_iff] at h
    obtain ⟨⟨off, t⟩, hf, n, hn, h⟩ := h
    split at h
    · simp at h
    · rename_i h0
      simp only [Option.some.injEq, Prod.mk.injEq] at h
      obtain ⟨rfl, rfl⟩ := h
      obtain ⟨b, o, rfl, hb, hc⟩ := hx
      refine ⟨_, run_fieldAt hf hn h0 w, b, o + off, rfl, hb, fun c hck => ?_⟩
      obtain ⟨u, hu, hr⟩ := hc (off + c) (by omega)
      exact ⟨u, by rw [← hu]; congr 2; omega, hr⟩
  · simp at h

/-- the whole number of a value -/
def intX : XV → Option Int
  | .c (.d (.val (.int _ n))) => some n
  | _ => none
theorem intX_some {γ : Gh} {w : World} {x : XV} {v : Value} {n : Int} (hx : RepV γ w x v) (h : intX x = some n) : ∃ k, v = .int k n := by
  unfold intX at h
  split at h
  · rename_i k m
    simp only [Option.some.injEq] at h
    subst h
    exact ⟨k, hx⟩
  · simp at h

def indexAddrX (P : Program) (T : Nat) (x i : XV) : Option (Prop × XV) :=
  (intX i).bind fun n =>
  match x with
  | .c (.slc b k j m) => (elemSl P T).bind fun e => if szT P e = some k then some (0 ≤ n ∧ n < m, .c (.ptr b k (j + n.toNat) 0)) else none
  | .c (.d (.ros k m g)) => (elemSl P T).bind fun e => if szT P e = some k then some (0 ≤ n ∧ n < m, .c (.d (.rop k (g n.toNat)))) else none
  | .c (.ptr b k j o) => (arrT P T).bind fun r => (szT P r.2).map fun s => (0 ≤ n ∧ n < r.1, .c (.ptr b k j (o + n.toNat * s)))
  | .c (.d (.rop k g)) => (arrT P T).bind fun r => (szT P r.2).map fun s => (0 ≤ n ∧ n < r.1 ∧ n.toNat * s ≤ k, .c (.d (.rop (k - n.toNat * s) fun c => g (n.toNat * s + c))))
  | _ => none
theorem elemSl_some {P : Program} {T e : Nat} (h : elemSl P T = some e) : P.underlying T = some (.slice e) := by
  unfold elemSl at h
  split at h
  · rename_i e' he; simp only [Option.some.injEq] at h; subst h; exact he
  · simp at h
theorem arrT_some {P : Program} {T n e : Nat} (h : arrT P T = some (n, e)) : P.underlying T = some (.array n e) := by
  unfold arrT at h
  split at h
  · rename_i n' e' he; simp only [Option.some.injEq, Prod.mk.injEq] at h; obtain ⟨rfl, rfl⟩ := h; exact he
  · simp at h
theorem add_at (b o n : Nat) : Addr.add ⟨b, o, none⟩ n = ⟨b, o + n, none⟩ := by
  unfold Addr.add
  split
  · rename_i h; rw [h]; rfl
  · rfl
theorem run_indexAt_sl {P : Program} {T e k b o m cap : Nat} {ik : IntKind} {n : Int} (ht : elemSl P T = some e) (hk : szT P e = some k) (h0 : 0 ≤ n) (h1 : n < m) (w : World) :
    (Instr.indexAt T (.slice (some ⟨b, o, none⟩) m cap) (.int ik n)).run P w = .ok (.pointer (some ⟨b, o + n.toNat * k, none⟩)) w := by
  simp only [Instr.indexAt, asIntOf, Sem.run_bind, Sem.run_pure, Result.andThen_ok, run_underlying' (elemSl_some ht), if_pos (And.intro h0 h1), Sem.run_ite, run_sizeOf hk, add_at]
theorem run_indexAt_arr {P : Program} {T e k b o m : Nat} {ik : IntKind} {n : Int} (ht : arrT P T = some (m, e)) (hk : szT P e = some k) (h0 : 0 ≤ n) (h1 : n < m) (w : World) :
    (Instr.indexAt T (.pointer (some ⟨b, o, none⟩)) (.int ik n)).run P w = .ok (.pointer (some ⟨b, o + n.toNat * k, none⟩)) w := by
  simp only [Instr.indexAt, Instr.sureAddr, asIntOf, Sem.run_bind, Sem.run_pure, Result.andThen_ok, run_underlying' (arrT_some ht), if_pos (And.intro h0 h1), Sem.run_ite, run_sizeOf hk, add_at]
theorem indexAddrX_sound {X : Cx} {γ : Gh} {w : World} {T : Nat} {x i y : XV} {v u : Value} {φ : Prop} (hx : RepV γ w x v) (hi : RepV γ w i u) (h : indexAddrX X.P T x i = some (φ, y)) (hφ : φ) :
    Yields X.P γ w (Instr.indexAt T v u) y := by
  unfold indexAddrX at h
  rw [Option.bind_eq_some_iff] at h
  obtain ⟨n, hn, h⟩ := h
  obtain ⟨ik, rfl⟩ := intX_some hi hn
  split at h
  · rename_i b k j m
    rw [Option.bind_eq_some_iff] at h
    obtain ⟨e, he, h⟩ := h
    split at h
    · rename_i hk
      simp only [Option.some.injEq, Prod.mk.injEq] at h
      obtain ⟨rfl, rfl⟩ := h
      obtain ⟨a, cap, rfl, hcap, hr⟩ := hx
      rcases hr with hr | ⟨rfl, hr⟩
      · omega
      · refine ⟨_, run_indexAt_sl he hk hφ.1 hφ.2 w, ?_⟩
        show _ = _
        simp [Nat.add_assoc, Nat.add_mul]
    · simp at h
  · rename_i k m g
    rw [Option.bind_eq_some_iff] at h
    obtain ⟨e, he, h⟩ := h
    split at h
    · rename_i hk
      simp only [Option.some.injEq, Prod.mk.injEq] at h
      obtain ⟨rfl, rfl⟩ := h
      obtain ⟨a, cap, rfl, hcap, hr⟩ := hx
      obtain ⟨b, o, rfl, hb, hc⟩ := hr n.toNat (by omega)
      refine ⟨_, run_indexAt_sl he hk hφ.1 hφ.2 w, b, _, rfl, hb, fun c hck => ?_⟩
      obtain ⟨u, hu, hr⟩ := hc c hck
      exact ⟨u, by rw [← hu]; congr 2; omega, hr⟩
    · simp at h
  · rename_i b k j o
    simp only [Option.bind_eq_some_iff, Option.map_eq_some_iff, Prod.mk.injEq] at h
    obtain ⟨⟨m, e⟩, hm, s, hs, rfl, rfl⟩ := h
    have hv : v = .pointer (some ⟨γ.blk b, γ.off b + (j * k + o), none⟩) := hx
    subst hv
    refine ⟨_, run_indexAt_arr hm hs hφ.1 hφ.2 w, ?_⟩
    show _ = _
    simp [Nat.add_assoc]
  · rename_i k g
    simp only [Option.bind_eq_some_iff, Option.map_eq_some_iff, Prod.mk.injEq] at h
    obtain ⟨⟨m, e⟩, hm, s, hs, rfl, rfl⟩ := h
    obtain ⟨b, o, rfl, hb, hc⟩ := hx
    refine ⟨_, run_indexAt_arr hm hs hφ.1 hφ.2.1 w, b, _, rfl, hb, fun c hck => ?_⟩
    obtain ⟨u, hu, hr⟩ := hc (n.toNat * s + c) (by omega)
    exact ⟨u, by rw [← hu]; congr 2; omega, hr⟩
  · simp at h
end Go.SX
