/- SX: operations that may move a name: the table of those that the walk knows. Own work. -/
import Derived.Test.YtpaklnjfcjcdaaaDoorSXQ
namespace Go.SX
set_option linter.unusedVariables false
set_option linter.unusedSimpArgs false

def callA (X : Cx) (ev : Operand → XV) (hp : List XB) : Builtin → List Operand → List TypeId → Option (Prop × XV × List XB × List Nat)
  | .append, [s, x], [t, tx] => (appX X hp t tx (strip (ev s)).2 (strip (ev x)).2).map fun r => ((strip (ev s)).1 ∧ (strip (ev x)).1 ∧ r.1, r.2)
  | _, _, _ => none
def aop (X : Cx) (ev : Operand → XV) (hp : List XB) : Op → Option (Prop × XV × List XB × List Nat)
  | .call ⟨.builtin b, args, ats⟩ => callA X ev hp b args.toList ats.toList
  | .convert src dst x =>
    match strX X.P hp src dst (strip (ev x)).2 with
    | some r => some ((strip (ev x)).1 ∧ r.1, .c (.d (.val (.string r.2))), hp, [])
    | none => (bytesX X.P hp src dst (strip (ev x)).2).map fun r => ((strip (ev x)).1 ∧ r.1, r.2.1, r.2.2, [])
  | _ => none
theorem out_same {X : Cx} {γ : Gh} {w : World} {hp : List XB} {v : Value} {y : XV} (hI : Inv X γ w hp) (hr : RepV γ w y v) (hs : y.upTo hp.length) : Out X γ w hp γ w v y hp [] :=
  ⟨hI, hr, Gh.Ext.refl _ _, fun _ _ => rfl, hs, Nat.le_refl _⟩
theorem execOp_append {P : Program} {w : World} (ρ : Operand → Value) (dst : Option Tmp) (s x : Operand) (t tx ty : TypeId) (pos : String) (after : Array Edge) (gd : Option (Nat × Bool)) :
    (execOp ρ ⟨dst, .call ⟨.builtin .append, #[s, x], #[t, tx]⟩, ty, pos, after, gd⟩).run P w = ((Builtin.append_ #[t, tx] ty #[ρ s, ρ x]).run P w).andThen fun v w' => .ok (.value v) w' := by
  simp [execOp, resolve, invoke, builtin]
theorem aop_sound {X : Cx} {γ : Gh} {w : World} {hp hp' : List XB} {ev : Operand → XV} {a : Act} {o : Oper} {y : XV} {S : List Nat} {φ : Prop} (hI : Inv X γ w hp) (hev : ∀ x, RepV γ w (ev x) (a.eval x)) (hsc : ∀ x, (ev x).upTo hp.length)
    (h : aop X ev hp o.op = some (φ, y, hp', S)) (hφ : φ) : ∃ v w' γ', (execOp a.eval o).run X.P w = .ok (.value v) w' ∧ Out X γ w hp γ' w' v y hp' S := by
  have st : ∀ x, (strip (ev x)).1 → RepV γ w (strip (ev x)).2 (a.eval x) := fun x hs => strip_sound (hev x) hs
  obtain ⟨dst, op, ty, pos, after, gd⟩ := o
  dsimp only at h
  unfold aop at h
  split at h
  · rename_i b args ats
    unfold callA at h
    split at h
    · rename_i s x t tx ha ht
      have ha' : args = #[s, x] := Array.toList_inj.1 ha
      have ht' : ats = #[t, tx] := Array.toList_inj.1 ht
      subst ha'; subst ht'
      simp only [Option.map_eq_some_iff, Prod.mk.injEq] at h
      obtain ⟨⟨ψ, r⟩, hr, rfl, rfl⟩ := h
      obtain ⟨v, w', γ', h1, h2⟩ := appX_sound (ty := ty) hI (st s hφ.1) (st x hφ.2.1) hr hφ.2.2
      refine ⟨v, w', γ', ?_, h2⟩
      rw [execOp_append]
      rw [h1]
      rfl
    · simp at h
  · rename_i src dst' x
    split at h
    · rename_i r hr
      simp only [Option.some.injEq, Prod.mk.injEq] at h
      obtain ⟨rfl, rfl, rfl, rfl⟩ := h
      have h1 := strX_sound hI (st x hφ.1) hr hφ.2
      refine ⟨_, w, γ, ?_, out_same hI (show RepV γ w (.c (.d (.val (.string r.2)))) (.string r.2) from rfl) trivial⟩
      simp only [execOp, Sem.run_bind, h1, Result.andThen_ok, Sem.run_pure]
    · simp only [Option.map_eq_some_iff, Prod.mk.injEq] at h
      obtain ⟨⟨ψ, y', hp1⟩, hr, rfl, rfl, rfl, rfl⟩ := h
      obtain ⟨v', w', γ', h1, h2⟩ := bytesX_sound hI (st x hφ.1) hr
      refine ⟨v', w', γ', ?_, h2⟩
      simp only [execOp, Sem.run_bind, h1, Result.andThen_ok, Sem.run_pure]
  · simp at h
end Go.SX
