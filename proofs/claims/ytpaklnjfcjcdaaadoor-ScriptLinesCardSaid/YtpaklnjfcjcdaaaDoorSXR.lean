/- SX: an operation looks at its operands alone. Own work. -/
import Derived.Test.YtpaklnjfcjcdaaaDoorSXP
namespace Go.SX
set_option linter.unusedVariables false
set_option linter.unusedSimpArgs false

theorem fop_congr {P : Program} {ev ev' : Operand → XV} {hp : List XB} (op : Op) (h : ∀ x, x ∈ op.operands → ev x = ev' x) : fop P ev hp op = fop P ev' hp op := by
  cases op
  case build T parts =>
    have : parts.toList.map (fun p => (p.1, ev p.2)) = parts.toList.map (fun p => (p.1, ev' p.2)) := List.map_congr_left fun p hp => by
      rw [h p.2 (by simp only [Op.operands, List.mem_toArray, List.mem_map]; exact ⟨p, hp, rfl⟩)]
    simp only [fop, this]
  case call c =>
    obtain ⟨callee, args, ats⟩ := c
    have ha : ∀ x, x ∈ args.toList → ev x = ev' x := fun x hx => h x (by simp only [Op.operands, Call.operands]; cases callee <;> simp [hx, Array.mem_toList_iff.1 hx])
    simp only [fop]
    generalize args.toList = al at ha
    split <;> simp_all
  case makeFunc f first captured =>
    have h1 : captured.toList.map ev = captured.toList.map ev' := List.map_congr_left fun x hx => h x (by simp [Op.operands, Array.mem_toList_iff.1 hx])
    cases f <;> simp only [fop, h1]
  case slice T x l hi m =>
    have h0 : ev x = ev' x := h x (by simp [Op.operands])
    cases l <;> cases hi <;> cases m <;> simp_all [fop, Op.operands, sOpt]
  all_goals (simp only [Op.operands] at h; simp_all [fop])
theorem gop_congr {P : Program} {ev ev' : Operand → XV} {hp : List XB} (op : Op) (h : ∀ x, x ∈ op.operands → ev x = ev' x) : gop P ev hp op = gop P ev' hp op := by
  cases op
  case buildSlice T n parts =>
    have : parts.toList.map (fun p => (p.1, ev p.2)) = parts.toList.map (fun p => (p.1, ev' p.2)) := List.map_congr_left fun p hp => by
      rw [h p.2 (by simp only [Op.operands, List.mem_toArray, List.mem_map]; exact ⟨p, hp, rfl⟩)]
    simp only [gop, this]
  all_goals (simp only [Op.operands] at h; simp_all [gop])
theorem aop_congr {X : Cx} {ev ev' : Operand → XV} {hp : List XB} (op : Op) (h : ∀ x, x ∈ op.operands → ev x = ev' x) : aop X ev hp op = aop X ev' hp op := by
  cases op
  case call c =>
    obtain ⟨callee, args, ats⟩ := c
    have ha : ∀ x, x ∈ args.toList → ev x = ev' x := fun x hx => h x (by simp only [Op.operands, Call.operands]; cases callee <;> simp [hx, Array.mem_toList_iff.1 hx])
    cases callee <;> simp only [aop]
    generalize args.toList = al at ha
    unfold callA
    split <;> simp_all
  all_goals (simp only [Op.operands] at h; simp_all [aop])
open Classical in
/-- what is known of an operation's operands alone -/
noncomputable def evR (op : Op) (ev : Operand → XV) : Operand → XV := fun x => if x ∈ op.operands then ev x else .any
theorem evR_eq (op : Op) (ev : Operand → XV) : ∀ x, x ∈ op.operands → evR op ev x = ev x := fun x hx => by simp [evR, hx]
theorem evR_rep {γ : Gh} {w : World} {op : Op} {ev : Operand → XV} {a : Act} (h : ∀ x, x ∈ op.operands → RepV γ w (ev x) (a.eval x)) : ∀ x, RepV γ w (evR op ev x) (a.eval x) := fun x => by
  unfold evR
  split
  · rename_i hx; exact h x hx
  · trivial
theorem evR_upTo {n : Nat} {op : Op} {ev : Operand → XV} (h : ∀ x, x ∈ op.operands → (ev x).upTo n) : ∀ x, (evR op ev x).upTo n := fun x => by
  unfold evR
  split
  · rename_i hx; exact h x hx
  · trivial
def R1 (y : XV) (hp' : List XB) (S : List Nat) : XV → List XB → List Nat → Prop := fun y' hp'' S' => y' = y ∧ hp'' = hp' ∧ S' = S
theorem effK_fop {X : Cx} {ev : Operand → XV} {hp : List XB} {o : Oper} {y : XV} {φ : Prop} (h : fop X.P ev hp o.op = some (φ, y)) (hφ : φ) : EffK X ev hp o (R1 y hp []) := by
  intro γ w a K Q hI hev hsc hK
  have h' : fop X.P (evR o.op ev) hp o.op = some (φ, y) := by rw [fop_congr o.op (evR_eq o.op ev)]; exact h
  obtain ⟨v, hv, hr⟩ := fop_sound (o := o) hI (evR_rep hev) h' hφ
  have := hK γ w v y hp [] ⟨rfl, rfl, rfl⟩ (out_same hI hr (fop_upTo hI (evR_upTo hsc) h'))
  unfold Oper.wp
  rw [hv]
  exact this
theorem effK_gop {X : Cx} {ev : Operand → XV} {hp hp' : List XB} {o : Oper} {y : XV} {φ : Prop} (h : gop X.P ev hp o.op = some (φ, y, hp')) (hφ : φ) : EffK X ev hp o (R1 y hp' []) := by
  intro γ w a K Q hI hev hsc hK
  have h' : gop X.P (evR o.op ev) hp o.op = some (φ, y, hp') := by rw [gop_congr o.op (evR_eq o.op ev)]; exact h
  obtain ⟨n, v, w', γ', hrun, hn, hI', hy, _, hro, hs, hl, hext⟩ := (gop_sound (o := o) hI (evR_rep hev) (evR_upTo hsc) h' hφ).ex
  have hx : γ.Ext γ' (newN hp.length hp'.length []) := hext.mono fun b hb => by simpa [newN] using hb
  have := hK γ' w' v y hp' [] ⟨rfl, rfl, rfl⟩ ⟨hI', hy, hx, hro, hs, hl⟩
  unfold Oper.wp
  rw [hrun]
  rcases hn with rfl | ⟨rfl, rfl⟩
  · exact this
  · exact this
theorem effK_aop {X : Cx} {ev : Operand → XV} {hp hp' : List XB} {o : Oper} {y : XV} {S : List Nat} {φ : Prop} (h : aop X ev hp o.op = some (φ, y, hp', S)) (hφ : φ) : EffK X ev hp o (R1 y hp' S) := by
  intro γ w a K Q hI hev hsc hK
  have h' : aop X (evR o.op ev) hp o.op = some (φ, y, hp', S) := by rw [aop_congr o.op (evR_eq o.op ev)]; exact h
  obtain ⟨v, w', γ', h1, h2⟩ := aop_sound hI (evR_rep hev) (evR_upTo hsc) h' hφ
  have := hK γ' w' v y hp' S ⟨rfl, rfl, rfl⟩ h2
  unfold Oper.wp
  rw [h1]
  exact this
theorem sxo_aop {X : Cx} {all : Array Oper} {o : Oper} {rest : List Oper} {N : St → Prop} {st : St} {y : XV} {hp' : List XB} {S : List Nat} {φ : Prop} (hg : o.guard = none) (h : aop X (evX st.fr) st.hp o.op = some (φ, y, hp', S)) (hφ : φ)
    (hn : SXo X all rest N ⟨frPut (killF S st.fr) o.dst y, hp'⟩) : SXo X all (o :: rest) N st :=
  sxo_effK hg (effK_aop h hφ) (by rintro _ _ _ ⟨rfl, rfl, rfl⟩; exact hn)
end Go.SX
