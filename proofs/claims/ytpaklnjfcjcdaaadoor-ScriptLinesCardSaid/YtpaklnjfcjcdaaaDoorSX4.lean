/- SX: the operations that only compute or read, under one name. Own work. -/
import Derived.Test.YtpaklnjfcjcdaaaDoorSX3
namespace Go.SX
set_option linter.unusedVariables false
set_option linter.unusedSimpArgs false

/-! ### building a struct or an array -/
def cellsV : XV → Option (List XC)
  | .c x => some [x]
  | .agg l => some l
  | _ => none
theorem cellsV_sound {γ : Gh} {w : World} {x : XV} {v : Value} {l : List XC} (hx : RepV γ w x v) (h : cellsV x = some l) (h1 : ∀ c, x = .c c → one v = true) : ∃ vs : List Value, v.cells = vs.toArray ∧ All2 (RepC γ w) l vs := by
  unfold cellsV at h
  split at h
  · rename_i c
    simp only [Option.some.injEq] at h
    subst h
    refine ⟨[v], ?_, .cons hx .nil⟩
    have := h1 c rfl
    cases v <;> simp_all [one, Value.cells]
  · simp only [Option.some.injEq] at h
    subst h
    obtain ⟨vs, rfl, hl⟩ := hx
    exact ⟨vs, rfl, hl⟩
  · simp at h

/-- cells written over others, from a place on -/
def setCells (l : List XC) (o : Nat) : List XC → List XC
  | [] => l
  | c :: cs => setCells (l.set o c) (o + 1) cs
theorem setCells_sound {γ : Gh} {w : World} : ∀ (cs : List XC) (us : List Value), All2 (RepC γ w) cs us → ∀ (l : List XC) (vs : List Value) (o j : Nat), All2 (RepC γ w) l vs →
    ∃ vs', (us.zipIdx j).foldl (fun (a : Array Value) (c, j) => a.setIfInBounds (o + j) c) vs.toArray = List.toArray vs' ∧ All2 (RepC γ w) (setCells l (o + j) cs) vs' := by
  intro cs us h
  induction h with
  | nil => intro l vs o j hl; exact ⟨vs, rfl, hl⟩
  | cons hr _ ih =>
    rename_i c u cs us _
    intro l vs o j hl
    obtain ⟨vs', h1, h2⟩ := ih (l.set (o + j) c) (vs.set (o + j) u) o (j + 1) (hl.set hr (o + j))
    refine ⟨vs', ?_, h2⟩
    simp only [List.zipIdx_cons, List.foldl_cons, List.setIfInBounds_toArray]
    exact h1
/-- is a cell's value one that a cell can hold? -/
def oneC : XC → Bool
  | .d (.val v) => one v
  | .cond _ _ => false
  | _ => true
theorem oneC_sound {γ : Gh} {w : World} {c : XC} {v : Value} (hc : oneC c = true) (h : RepC γ w c v) : one v = true := by
  cases c with
  | d x =>
    cases x with
    | val u => simp only [RepC, RepD] at h; subst h; exact hc
    | any => exact h
    | ros k n g => obtain ⟨a, cap, rfl, _⟩ := h; rfl
    | rop k g => obtain ⟨b, o, rfl, _⟩ := h; rfl
  | ptr b k i o => rw [show v = _ from h]; rfl
  | slc b k i n => obtain ⟨a, cap, rfl, _⟩ := h; rfl
  | clo f bs => rw [show v = _ from h]; rfl
  | cond φ x => simp [oneC] at hc

def oneXV : XV → Bool
  | .c c => oneC c
  | .agg l => l.all oneC
  | _ => false
def fillX (place : Nat → Option (Nat × Nat)) : List XC → List (Nat × XV) → Option (Prop × List XC)
  | cells, [] => some (True, cells)
  | cells, (i, y) :: rest => (place i).bind fun p => (cellsV y).bind fun cs => if oneXV y then (fillX place (setCells cells p.1 cs) rest).map fun r => (cs.length = p.2 ∧ p.1 + cs.length ≤ cells.length ∧ r.1, r.2) else none
theorem fillX_sound {γ : Gh} {w : World} {place : Nat → Option (Nat × Nat)} : ∀ (ps : List (Nat × XV)) (qs : List (Nat × Value)) (cells cells' : List XC) (vs : List Value) (φ : Prop),
    All2 (fun p q => p.1 = q.1 ∧ RepV γ w p.2 q.2) ps qs → All2 (RepC γ w) cells vs → fillX place cells ps = some (φ, cells') → φ → ∃ vs', Instr.fill place vs.toArray qs = some (List.toArray vs') ∧ All2 (RepC γ w) cells' vs' := by
  intro ps qs cells cells' vs φ hpq
  induction hpq generalizing cells vs φ with
  | nil =>
    intro hc h hφ
    simp only [fillX, Option.some.injEq, Prod.mk.injEq] at h
    obtain ⟨_, rfl⟩ := h
    exact ⟨vs, rfl, hc⟩
  | cons hr _ ih =>
    rename_i p q ps qs _
    obtain ⟨i, y⟩ := p
    obtain ⟨i', v⟩ := q
    intro hc h hφ
    obtain ⟨rfl, hv⟩ := hr
    simp only [fillX, Option.bind_eq_some_iff] at h
    obtain ⟨⟨o, n⟩, hp, cs, hcs, h⟩ := h
    split at h
    · rename_i h1
      simp only [Option.map_eq_some_iff, Prod.mk.injEq] at h
      obtain ⟨⟨ψ, r⟩, hr, rfl, rfl⟩ := h
      obtain ⟨us, hus, hul⟩ := cellsV_sound hv hcs (fun c hc => by subst hc; exact oneC_sound h1 hv)
      obtain ⟨vs', e1, e2⟩ := setCells_sound cs us hul cells vs o 0 hc
      obtain ⟨vs'', e3, e4⟩ := ih _ vs' ψ e2 (by simpa using hr) hφ.2.2
      refine ⟨vs'', ?_, e4⟩
      simp only at hp hφ
      have hlen := hul.length
      have hlen2 := hc.length
      simp only [Instr.fill, hp, hus]
      have hz : (us.toArray.zipIdx.foldl (fun (a : Array Value) (c, j) => a.setIfInBounds (o + j) c) vs.toArray) = List.toArray vs' := by
        rw [← e1]
        simp [← Array.foldl_toList]
      have hsz : ¬ (us.toArray.size ≠ n ∨ o + us.toArray.size > vs.toArray.size) := by
        simp only [List.size_toArray]
        omega
      rw [if_neg (by simpa using hsz)]
      rw [← e3]
      congr 1
    · simp at h

def zerC (P : Program) (T : TypeId) : Option (List XC) := (zerT P T).map fun l => l.map fun v => .d (.val v)
def placeT (P : Program) (T : TypeId) : Option (Nat → Option (Nat × Nat)) :=
  match P.underlying T with
  | some (.struct fs) => if fs.all (fun f => (szT P f.type).isSome) then some fun i => (fieldT P T i).bind fun r => (szT P r.2).map fun n => (r.1, n) else none
  | some (.array _ e) => (szT P e).map fun s => fun i => some (i * s, s)
  | _ => none
/-- the fact that a type's parts have places, as a statement that the kernel checks -/
def structT (P : Program) (T : TypeId) : Bool := match P.underlying T with | some (.struct fs) => fs.all (fun f => (szT P f.type).isSome) | _ => false
def buildPlace (P : Program) (T : TypeId) : Option (Nat → Option (Nat × Nat)) :=
  if structT P T then some fun i => (fieldT P T i).bind fun r => (szT P r.2).map fun n => (r.1, n)
  else (arrT P T).bind fun r => (szT P r.2).map fun s => fun i => some (i * s, s)
def buildX (P : Program) (T : TypeId) (ps : List (Nat × XV)) : Option (Prop × XV) :=
  (zerC P T).bind fun zs => (buildPlace P T).bind fun pl => (fillX pl zs ps).map fun r => (r.1, .agg r.2)
theorem zerC_sound {P : Program} {γ : Gh} {w : World} {T : TypeId} {zs : List XC} (h : zerC P T = some zs) : ∃ v, (zeroValue T).run P w = .ok v w ∧ ∃ vs : List Value, v.cells = vs.toArray ∧ All2 (RepC γ w) zs vs := by
  simp only [zerC, zerT, Option.map_eq_some_iff, Option.bind_eq_some_iff] at h
  obtain ⟨l, ⟨i, hi, v, hv, rfl⟩, rfl⟩ := h
  refine ⟨v, by simp [zeroValue, typeInfo, hi, hv], v.cells.toList, by simp, ?_⟩
  generalize v.cells.toList = l
  induction l with
  | nil => exact .nil
  | cons u l ih => exact .cons rfl ih
theorem run_mapM_places {P : Program} {w : World} (fs : Array Field) (h : fs.all (fun f => (szT P f.type).isSome) = true) :
    (fs.mapM fun f => do pure (f.offset, ← sizeOf f.type) : Sem (Array (Nat × Nat))).run P w = .ok (fs.map fun f => (f.offset, (szT P f.type).getD 0)) w := by
  obtain ⟨l⟩ := fs
  simp only [List.all_toArray] at h
  simp only [List.mapM_toArray, Sem.run_map, List.map_toArray]
  have key : ∀ (l : List Field), l.all (fun f => (szT P f.type).isSome) = true → (l.mapM fun f => do pure (f.offset, ← sizeOf f.type) : Sem (List (Nat × Nat))).run P w = .ok (l.map fun f => (f.offset, (szT P f.type).getD 0)) w := by
    intro l h
    induction l with
    | nil => rfl
    | cons f l ih =>
      simp only [List.all_cons, Bool.and_eq_true] at h
      obtain ⟨n, hn⟩ := Option.isSome_iff_exists.1 h.1
      simp only [List.mapM_cons, Sem.run_bind, run_sizeOf hn, Result.andThen_ok, Sem.run_pure, ih h.2, List.map_cons, hn, Option.getD_some]
  rw [key l (by simpa using h)]
  simp
theorem buildX_sound {X : Cx} {γ : Gh} {w : World} {T : TypeId} {ps : List (Nat × XV)} {qs : List (Nat × Value)} {y : XV} {φ : Prop} (hpq : All2 (fun p q => p.1 = q.1 ∧ RepV γ w p.2 q.2) ps qs)
    (h : buildX X.P T ps = some (φ, y)) (hφ : φ) : Yields X.P γ w (Instr.build T qs.toArray) y := by
  simp only [buildX, Option.bind_eq_some_iff, Option.map_eq_some_iff, Prod.mk.injEq] at h
  obtain ⟨zs, hz, pl, hpl, ⟨ψ, r⟩, hr, rfl, rfl⟩ := h
  obtain ⟨v, hv, vs, hvs, hl⟩ := zerC_sound (γ := γ) (w := w) hz
  obtain ⟨vs', e1, e2⟩ := fillX_sound ps qs zs r vs ψ hpq hl hr hφ
  refine ⟨.agg vs'.toArray, ?_, vs', rfl, e2⟩
  unfold buildPlace at hpl
  split at hpl
  · rename_i hs
    simp only [Option.some.injEq] at hpl
    subst hpl
    unfold structT at hs
    split at hs
    · rename_i fs hfs
      simp only [Instr.build, Sem.run_bind, hv, Result.andThen_ok, run_underlying' hfs, run_mapM_places fs hs, hvs]
      have hp : (fun i => (fs.map fun f => (f.offset, (szT X.P f.type).getD 0))[i]?) = fun i => (fieldT X.P T i).bind fun r => (szT X.P r.2).map fun n => (r.1, n) := by
        funext i
        simp only [fieldT, hfs, Array.getElem?_map]
        cases hfi : fs[i]? with
        | none => rfl
        | some f =>
          have hm : (szT X.P f.type).isSome = true := by
            have := Array.all_eq_true.1 hs
            obtain ⟨hi, rfl⟩ := Array.getElem?_eq_some_iff.1 hfi
            exact this i hi
          obtain ⟨n, hn⟩ := Option.isSome_iff_exists.1 hm
          simp [hn]
      simp only [hp, e1, Sem.run_pure]
    · simp at hs
  · simp only [Option.bind_eq_some_iff, Option.map_eq_some_iff] at hpl
    obtain ⟨⟨m, e⟩, hm, s, hs, rfl⟩ := hpl
    simp only [Instr.build, Sem.run_bind, hv, Result.andThen_ok, run_underlying' (arrT_some hm), run_sizeOf hs, hvs, e1, Sem.run_pure]
end Go.SX
