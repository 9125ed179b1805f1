/- SX: one operation that changes nothing, by its form; the frame; the step in a list of operations. Own work. -/
import Derived.Test.YtpaklnjfcjcdaaaDoorSX4
namespace Go.SX
set_option linter.unusedVariables false
set_option linter.unusedSimpArgs false

def evX (fr : List XV) : Operand → XV
  | .tmp t => fr.getD t .any
  | .const v => .c (.d (.val v))
  | .func f => .c (.clo f [])
  | .global _ => .any
theorem evX_sound {γ : Gh} {w : World} {fr : List XV} {a : Act} {vs : List Value} (ha : a.tmps = vs.toArray) (hf : All2 (RepV γ w) fr vs) (x : Operand) : RepV γ w (evX fr x) (a.eval x) := by
  cases x with
  | tmp t =>
    simp only [evX, Act.eval, ha]
    by_cases ht : t < fr.length
    · have hg : fr[t]? = some fr[t] := List.getElem?_eq_getElem ht
      obtain ⟨v, hv, hr⟩ := hf.get t _ hg
      simp only [List.getD_eq_getElem?_getD, hg, Option.getD_some]
      have : vs.toArray.getD t undef = v := by simp [hv]
      rw [this]; exact hr
    · have : fr.getD t .any = .any := by simp [List.getD_eq_getElem?_getD, List.getElem?_eq_none (Nat.le_of_not_lt ht)]
      rw [this]; trivial
  | const v => exact rfl
  | func f => exact rfl
  | global g => trivial

def pickX (c a b : XV) : Option (Prop × XV) :=
  match strip c, strip a, strip b with
  | (φ, .c (.d (.val (.bool t)))), (ψ, .c (.d (.val (.bool p)))), (χ, .c (.d (.val (.bool q)))) => some (φ ∧ (t = true → ψ) ∧ (t = false → χ), .c (.d (.val (.bool (bif t then p else q)))))
  | (φ, .c (.d (.val (.bool t)))), (ψ, .c (.d (.val (.bool p)))), (_, .any) => some (φ ∧ t = true ∧ ψ, .c (.d (.val (.bool p))))
  | (φ, .c (.d (.val (.bool t)))), (_, .any), (χ, .c (.d (.val (.bool q)))) => some (φ ∧ t = false ∧ χ, .c (.d (.val (.bool q))))
  | _, _, _ => none
def cloCaps : List XV → Option (List Nat)
  | [] => some []
  | .c (.ptr b _ 0 0) :: l => (cloCaps l).map fun r => b :: r
  | _ => none
/-- values that a nil check lets by -/
def passX : XV → Bool
  | .c (.ptr _ _ _ _) => true
  | .c (.d (.rop _ _)) => true
  | .c (.clo _ _) => true
  | .c (.d (.val (.func (.func _) _ _))) => true
  | _ => false
def scal (r : Option (Prop × Value)) : Option (Prop × XV) := r.map fun r => (r.1, .c (.d (.val r.2)))
def binAny (P : Program) (op : BinOp) (T : TypeId) : XV → XV → Option (Prop × Value)
  | .agg l, .agg m => eqX P op T l m
  | x, y => binX P op T x y
def withP (φ : Prop) (r : Option (Prop × XV)) : Option (Prop × XV) := r.map fun r => (φ ∧ r.1, r.2)
def sOpt (ev : Operand → XV) : Option Operand → Prop × Option XV
  | none => (True, none)
  | some x => ((strip (ev x)).1, some (strip (ev x)).2)

/-- An operation that changes nothing: under what condition it runs, and what it gives. -/
def fop (P : Program) (ev : Operand → XV) (hp : List XB) : Op → Option (Prop × XV)
  | .move x | .assign x => some (True, ev x)
  | .pick c a b => pickX (ev c) (ev a) (ev b)
  | .load T p => withP (strip (ev p)).1 (loadX P hp T (strip (ev p)).2)
  | .fieldAddr T p f => withP (strip (ev p)).1 (fieldAddrX P T f (strip (ev p)).2)
  | .field T x f => withP (strip (ev x)).1 (fieldX P T f (strip (ev x)).2)
  | .indexAddr T x i => withP ((strip (ev x)).1 ∧ (strip (ev i)).1) (indexAddrX P T (strip (ev x)).2 (strip (ev i)).2)
  | .index T x i => withP ((strip (ev x)).1 ∧ (strip (ev i)).1) (indexX P T (strip (ev x)).2 (strip (ev i)).2)
  | .extract t i => (extractX i (ev t)).map fun y => (True, y)
  | .nilCheck x => if passX (strip (ev x)).2 then some ((strip (ev x)).1, (strip (ev x)).2) else none
  | .binOp op T x y _ => withP ((strip (ev x)).1 ∧ (strip (ev y)).1) (scal (binAny P op T (strip (ev x)).2 (strip (ev y)).2))
  | .unOp op _ x => withP (strip (ev x)).1 (scal (unX op (strip (ev x)).2))
  | .convert src dst x => withP (strip (ev x)).1 (scal (convX P src dst (strip (ev x)).2))
  | .slice T x lo hi mx => withP ((strip (ev x)).1 ∧ (sOpt ev lo).1 ∧ (sOpt ev hi).1 ∧ (sOpt ev mx).1) (sliceX P T (strip (ev x)).2 (sOpt ev lo).2 (sOpt ev hi).2 (sOpt ev mx).2)
  | .makeFunc (.func f) first captured => if first.size = 0 then (cloCaps (captured.toList.map ev)).map fun bs => (True, .c (.clo f bs)) else none
  | .build T parts => buildX P T (parts.toList.map fun p => (p.1, ev p.2))
  | .call c =>
    match c.callee, c.args.toList, c.argTypes.toList with
    | .builtin .len, [x], [T] => if lenOk P T (strip (ev x)).2 then withP (strip (ev x)).1 ((lenX (strip (ev x)).2).map fun n => (True, .c (.d (.val (.int .i64 n))))) else none
    | .builtin .max, [x, y], _ => withP ((strip (ev x)).1 ∧ (strip (ev y)).1) ((minmaxX true (strip (ev x)).2 (strip (ev y)).2).map fun v => (True, .c (.d (.val v))))
    | .builtin .min, [x, y], _ => withP ((strip (ev x)).1 ∧ (strip (ev y)).1) ((minmaxX false (strip (ev x)).2 (strip (ev y)).2).map fun v => (True, .c (.d (.val v))))
    | _, _, _ => none
  | _ => none

theorem withP_some {φ ψ : Prop} {r : Option (Prop × XV)} {y : XV} (h : withP φ r = some (ψ, y)) (hψ : ψ) : ∃ χ, r = some (χ, y) ∧ φ ∧ χ := by
  simp only [withP, Option.map_eq_some_iff, Prod.mk.injEq] at h
  obtain ⟨⟨χ, y'⟩, hr, rfl, rfl⟩ := h
  exact ⟨χ, hr, hψ.1, hψ.2⟩
theorem scal_some {r : Option (Prop × Value)} {φ : Prop} {y : XV} (h : scal r = some (φ, y)) : ∃ v, r = some (φ, v) ∧ y = .c (.d (.val v)) := by
  simp only [scal, Option.map_eq_some_iff, Prod.mk.injEq] at h
  obtain ⟨⟨ψ, v⟩, hr, rfl, rfl⟩ := h
  exact ⟨v, hr, rfl⟩
theorem cloCaps_sound {γ : Gh} {w : World} : ∀ (l : List XV) (vs : List Value) (bs : List Nat), All2 (RepV γ w) l vs → cloCaps l = some bs → vs = bs.map fun b => Value.pointer (some ⟨γ.blk b, γ.off b, none⟩) := by
  intro l vs bs h
  induction h generalizing bs with
  | nil => intro h; simp only [cloCaps, Option.some.injEq] at h; subst h; rfl
  | cons hr _ ih =>
    intro h
    unfold cloCaps at h
    split at h
    · rename_i heq; simp at heq
    · rename_i b k l' heq
      simp only [List.cons.injEq] at heq
      obtain ⟨rfl, rfl⟩ := heq
      simp only [Option.map_eq_some_iff] at h
      obtain ⟨r, hr', rfl⟩ := h
      rw [ih r hr', List.map_cons]
      congr 1
      have : _ = Value.pointer (some ⟨γ.blk b, γ.off b + (0 * k + 0), none⟩) := hr
      simpa using this
    · simp at h
theorem mapRep {γ : Gh} {w : World} {ev : Operand → XV} {ρ : Operand → Value} (h : ∀ x, RepV γ w (ev x) (ρ x)) : ∀ (l : List Operand), All2 (RepV γ w) (l.map ev) (l.map ρ)
  | [] => .nil
  | x :: l => .cons (h x) (mapRep h l)
theorem mapRep2 {γ : Gh} {w : World} {ev : Operand → XV} {ρ : Operand → Value} (h : ∀ x, RepV γ w (ev x) (ρ x)) : ∀ (l : List (Nat × Operand)),
    All2 (fun p q => p.1 = q.1 ∧ RepV γ w p.2 q.2) (l.map fun p => (p.1, ev p.2)) (l.map fun p => (p.1, ρ p.2))
  | [] => .nil
  | x :: l => .cons ⟨rfl, h x.2⟩ (mapRep2 h l)

theorem pickX_sound {P : Program} {γ : Gh} {w : World} {c a b y : XV} {vc va vb : Value} {φ : Prop} (hc : RepV γ w c vc) (ha : RepV γ w a va) (hb : RepV γ w b vb) (h : pickX c a b = some (φ, y)) (hφ : φ) :
    Yields P γ w (do pure (if ← asBool vc then va else vb)) y := by
  unfold pickX at h
  split at h
  · rename_i φ' t ψ p χ q e1 e2 e3
    simp only [Option.some.injEq, Prod.mk.injEq] at h
    obtain ⟨rfl, rfl⟩ := h
    have h1 := strip_sound hc (by rw [e1]; exact hφ.1)
    rw [e1] at h1
    have : vc = .bool t := h1
    subst this
    refine ⟨if t then va else vb, by simp [asBool], ?_⟩
    cases t with
    | true =>
      have h2 := strip_sound ha (by rw [e2]; exact hφ.2.1 rfl)
      rw [e2] at h2
      exact h2
    | false =>
      have h2 := strip_sound hb (by rw [e3]; exact hφ.2.2 rfl)
      rw [e3] at h2
      exact h2
  · rename_i φ' t ψ p χ e1 e2 e3
    simp only [Option.some.injEq, Prod.mk.injEq] at h
    obtain ⟨rfl, rfl⟩ := h
    have h1 := strip_sound hc (by rw [e1]; exact hφ.1)
    rw [e1] at h1
    have : vc = .bool t := h1
    subst this
    obtain ⟨_, rfl, hψ⟩ := hφ
    have h2 := strip_sound ha (by rw [e2]; exact hψ)
    rw [e2] at h2
    exact ⟨va, by simp [asBool], h2⟩
  · rename_i φ' t ψ χ q e1 e2 e3
    simp only [Option.some.injEq, Prod.mk.injEq] at h
    obtain ⟨rfl, rfl⟩ := h
    have h1 := strip_sound hc (by rw [e1]; exact hφ.1)
    rw [e1] at h1
    have : vc = .bool t := h1
    subst this
    obtain ⟨_, rfl, hψ⟩ := hφ
    have h2 := strip_sound hb (by rw [e3]; exact hψ)
    rw [e3] at h2
    exact ⟨vb, by simp [asBool], h2⟩
  · simp at h

theorem fop_sound {X : Cx} {γ : Gh} {w : World} {hp : List XB} {ev : Operand → XV} {a : Act} {o : Oper} {y : XV} {φ : Prop} (hI : Inv X γ w hp) (hev : ∀ x, RepV γ w (ev x) (a.eval x))
    (h : fop X.P ev hp o.op = some (φ, y)) (hφ : φ) : ∃ v, (execOp a.eval o).run X.P w = .ok (.value v) w ∧ RepV γ w y v := by
  have st : ∀ x, (strip (ev x)).1 → RepV γ w (strip (ev x)).2 (a.eval x) := fun x hs => strip_sound (hev x) hs
  have fin : ∀ {s : Sem Value}, Yields X.P γ w s y → ∃ v, ((do pure (.value (← s))) : Sem Next).run X.P w = .ok (.value v) w ∧ RepV γ w y v := by
    rintro s ⟨v, hv, hr⟩
    exact ⟨v, by simp only [Sem.run_bind, hv, Result.andThen_ok, Sem.run_pure], hr⟩
  have finS : ∀ {s : Sem Value} {v : Value}, y = .c (.d (.val v)) → s.run X.P w = .ok v w → ∃ v, ((do pure (.value (← s))) : Sem Next).run X.P w = .ok (.value v) w ∧ RepV γ w y v := by
    rintro s v rfl hv
    exact ⟨v, by simp only [Sem.run_bind, hv, Result.andThen_ok, Sem.run_pure], rfl⟩
  unfold fop at h
  unfold execOp
  generalize o.op = op at h ⊢
  split at h <;> dsimp only
  · simp only [Option.some.injEq, Prod.mk.injEq] at h
    obtain ⟨rfl, rfl⟩ := h
    exact ⟨_, rfl, hev _⟩
  · simp only [Option.some.injEq, Prod.mk.injEq] at h
    obtain ⟨rfl, rfl⟩ := h
    exact ⟨_, rfl, hev _⟩
  · rename_i c x z
    obtain ⟨v, hv, hr⟩ := pickX_sound (P := X.P) (hev c) (hev x) (hev z) h hφ
    refine ⟨v, ?_, hr⟩
    simp only [Sem.run_bind] at hv ⊢
    cases hb : (asBool (a.eval c)).run X.P w with
    | ok t w' =>
      rw [hb] at hv
      simp only [Result.andThen_ok, Sem.run_pure, Result.ok.injEq] at hv ⊢
      exact ⟨by rw [hv.1], hv.2⟩
    | halt x w' => rw [hb] at hv; simp at hv
  · obtain ⟨χ, h, h1, h2⟩ := withP_some h hφ
    exact fin (loadX_sound hI (st _ h1) h h2)
  · obtain ⟨χ, h, h1, h2⟩ := withP_some h hφ
    exact fin (fieldAddrX_sound (st _ h1) h h2)
  · obtain ⟨χ, h, h1, h2⟩ := withP_some h hφ
    exact fin (fieldX_sound (st _ h1) h h2)
  · obtain ⟨χ, h, h1, h2⟩ := withP_some h hφ
    exact fin (indexAddrX_sound (st _ h1.1) (st _ h1.2) h h2)
  · obtain ⟨χ, h, h1, h2⟩ := withP_some h hφ
    exact fin (indexX_sound (st _ h1.1) (st _ h1.2) h h2)
  · simp only [Option.map_eq_some_iff, Prod.mk.injEq] at h
    obtain ⟨y', h, rfl, rfl⟩ := h
    exact fin (extractX_sound (hev _) h)
  · rename_i x
    split at h
    · rename_i hpass
      simp only [Option.some.injEq, Prod.mk.injEq] at h
      obtain ⟨rfl, rfl⟩ := h
      have hr := st x hφ
      refine ⟨a.eval x, ?_, hr⟩
      generalize (strip (ev x)).2 = z at *
      generalize a.eval x = v at *
      unfold passX at hpass
      split at hpass
      · rw [show v = _ from hr]; rfl
      · obtain ⟨b, o, rfl, _⟩ := hr; rfl
      · rw [show v = _ from hr]; rfl
      · rw [show v = _ from hr]; rfl
      · simp at hpass
    · simp at h
  · rename_i op T x z T2
    obtain ⟨χ, h, h1, h2⟩ := withP_some h hφ
    obtain ⟨v, h, hy⟩ := scal_some h
    refine finS hy ?_
    have hx := st x h1.1
    have hz := st z h1.2
    generalize (strip (ev x)).2 = x' at *
    generalize (strip (ev z)).2 = z' at *
    unfold binAny at h
    split at h
    · exact eqX_sound hx hz h h2
    · exact binX_sound hx hz h h2
  · obtain ⟨χ, h, h1, h2⟩ := withP_some h hφ
    obtain ⟨v, h, hy⟩ := scal_some h
    exact finS hy (unX_sound (st _ h1) h h2)
  · obtain ⟨χ, h, h1, h2⟩ := withP_some h hφ
    obtain ⟨v, h, hy⟩ := scal_some h
    exact finS hy (convX_sound (st _ h1) h h2)
  · rename_i T x lo hi mx
    obtain ⟨χ, h, h1, h2⟩ := withP_some h hφ
    have key : ∀ q : Option Operand, (sOpt ev q).1 → (∀ y u, (sOpt ev q).2 = some y → q.map a.eval = some u → RepV γ w y u) ∧ ((sOpt ev q).2 = none ↔ q.map a.eval = none) := by
      intro q hq
      cases q with
      | none => simp [sOpt]
      | some x =>
        refine ⟨fun y u h1 h2 => ?_, by simp [sOpt]⟩
        simp only [sOpt, Option.some.injEq, Option.map_some] at h1 h2
        subst h1; subst h2
        exact st x hq
    exact fin (sliceX_sound (st x h1.1) (key lo h1.2.1).1 (key lo h1.2.1).2 (key hi h1.2.2.1).1 (key hi h1.2.2.1).2 (key mx h1.2.2.2).2 h h2)
  · rename_i f first captured
    split at h
    · rename_i hf
      simp only [Option.map_eq_some_iff, Prod.mk.injEq] at h
      obtain ⟨bs, hbs, rfl, rfl⟩ := h
      refine ⟨.func (.func f) #[] (captured.map a.eval), ?_, ?_⟩
      · have : first.map a.eval = #[] := by simp [Array.size_eq_zero_iff.1 hf]
        simp only [Instr.makeFunc, this, Sem.run_bind, Sem.run_pure, Result.andThen_ok]
      · show _ = _
        congr 1
        apply Array.toList_inj.1
        rw [Array.toList_map, List.toList_toArray]
        exact cloCaps_sound _ _ bs (mapRep hev captured.toList) hbs
    · simp at h
  · rename_i T parts
    obtain ⟨v, hv, hr⟩ := buildX_sound (X := X) (mapRep2 hev parts.toList) h hφ
    refine fin ⟨v, ?_, hr⟩
    rw [← hv]
    congr 2
    apply Array.toList_inj.1
    simp
  · rename_i c
    obtain ⟨callee, args, argTypes⟩ := c
    simp only at h
    split at h
    · rename_i x T hargs hT
      obtain ⟨args⟩ := args
      obtain ⟨argTypes⟩ := argTypes
      simp only at hargs hT
      subst hargs; subst hT
      split at h
      · rename_i hl
        obtain ⟨χ, h, h1, h2⟩ := withP_some h hφ
        simp only [Option.map_eq_some_iff, Prod.mk.injEq] at h
        obtain ⟨n, hn, _, rfl⟩ := h
        refine ⟨.int .i64 n, ?_, rfl⟩
        have := lenX_sound (P := X.P) (ty := o.type) (st x h1) hn hl
        simp only [resolve, List.map_toArray, List.map_cons, List.map_nil, Sem.run_bind, Sem.run_pure, Result.andThen_ok, invoke, builtin, this]
      · simp at h
    · rename_i x z hargs
      obtain ⟨args⟩ := args
      simp only at hargs
      subst hargs
      obtain ⟨χ, h, h1, h2⟩ := withP_some h hφ
      simp only [Option.map_eq_some_iff, Prod.mk.injEq] at h
      obtain ⟨v, hv, _, rfl⟩ := h
      refine ⟨v, ?_, rfl⟩
      have := minmaxX_sound (P := X.P) (ts := argTypes) (ty := o.type) (st x h1.1) (st z h1.2) hv
      simp only [if_true] at this
      simp only [resolve, List.map_toArray, List.map_cons, List.map_nil, Sem.run_bind, Sem.run_pure, Result.andThen_ok, invoke, builtin, this]
    · rename_i x z hargs
      obtain ⟨args⟩ := args
      simp only at hargs
      subst hargs
      obtain ⟨χ, h, h1, h2⟩ := withP_some h hφ
      simp only [Option.map_eq_some_iff, Prod.mk.injEq] at h
      obtain ⟨v, hv, _, rfl⟩ := h
      refine ⟨v, ?_, rfl⟩
      have := minmaxX_sound (P := X.P) (ts := argTypes) (ty := o.type) (st x h1.1) (st z h1.2) hv
      simp only [Bool.false_eq_true, if_false] at this
      simp only [resolve, List.map_toArray, List.map_cons, List.map_nil, Sem.run_bind, Sem.run_pure, Result.andThen_ok, invoke, builtin, this]
    · simp at h
  · simp at h
end Go.SX
