/- SX: calls by contract. Own work. -/
import Derived.Test.YtpaklnjfcjcdaaaDoorSX16
namespace Go.SX
set_option linter.unusedVariables false
set_option linter.unusedSimpArgs false

theorem run_callFunc {P : Program} {f : FuncId} (h : Enters P f) (args : Array Value) (w : World) : (callFunc f args).run P w = .ok (.enter f args) w := by
  obtain ⟨fn, h1, h2, h3⟩ := h
  unfold callFunc
  simp only [Sem.run_bind, program, Sem.run, Result.andThen_ok, h1, h3, h2, Bool.false_eq_true, if_false]
  rfl

def viewArgs (S : List Nat) (hp : List XB) : List XV → Prop
  | [] => True
  | x :: l => (viewW S hp x).1 ∧ viewArgs S hp l
/-- What is given against what is asked. -/
def argsLe (S : List Nat) (hp : List XB) (sel : List Nat) : List XV → List XV → Prop
  | [], [] => True
  | y :: l, x :: m => (viewW S hp y).1 ∧ xle (viewW S hp y).2 (x.ren sel) ∧ argsLe S hp sel l m
  | _, _ => False
theorem xle_rep {γ : Gh} {w : World} {y x : XV} {v : Value} (h : xle y x) (hy : RepV γ w y v) : RepV γ w x v := by
  rcases h with rfl | rfl
  · trivial
  · exact hy
theorem argsLe_sound {X : Cx} {γ : Gh} {w : World} {hp : List XB} {sel S : List Nat} (hI : Inv X γ w hp) : ∀ (ys xs : List XV) (vs : List Value), argsLe S hp sel ys xs → All2 (RepV γ w) ys vs → All2 (RepV (ghIn γ hp sel S) w) xs vs := by
  intro ys
  induction ys with
  | nil =>
    intro xs vs h hl
    cases xs with
    | nil => cases hl; exact .nil
    | cons x xs => exact h.elim
  | cons y ys ih =>
    intro xs vs h hl
    cases xs with
    | nil => exact h.elim
    | cons x xs =>
      cases hl with
      | cons h1 h2 =>
        refine .cons ?_ (ih xs _ h.2.2 h2)
        exact RepV.ren x _ (xle_rep h.2.1 (viewW_sound hI y _ h1 h.1))

def freeH (K : List Nat) (sel : List Nat) : Nat → List XB → Prop
  | _, [] => True
  | b, .box l _ :: h => (b ∈ sel ∨ ∀ c, c ∈ l → XC.free K c) ∧ freeH K sel (b + 1) h
  | b, _ :: h => freeH K sel (b + 1) h
theorem freeH_spec {K sel : List Nat} : ∀ (h : List XB) (i : Nat), freeH K sel i h → ∀ (b : Nat) (l : List XC) (T : TypeId), h[b]? = some (XB.box l T) → i + b ∉ sel → ∀ c, c ∈ l → XC.free K c
  | [], i, _, b, l, T, hb => by simp at hb
  | x :: h, i, hf, b, l, T, hb => by
    cases b with
    | zero =>
      simp only [List.getElem?_cons_zero, Option.some.injEq] at hb
      subst hb
      intro hs c hc
      rcases hf.1 with h1 | h1
      · exact absurd h1 hs
      · exact h1 c hc
    | succ b =>
      simp only [List.getElem?_cons_succ] at hb
      have hf' : freeH K sel (i + 1) h := by
        cases x with
        | box l T => exact hf.2
        | dead => exact hf
        | row k m g T => exact hf
        | ob o => exact hf
      intro hs
      exact freeH_spec h (i + 1) hf' b l T hb (by rw [show i + 1 + b = i + (b + 1) from by omega]; exact hs)
theorem freeH_nil {sel : List Nat} : ∀ (h : List XB) (i : Nat), freeH [] sel i h
  | [], _ => trivial
  | .box l _ :: h, i => ⟨.inr fun c _ => XC.free_nil c, freeH_nil h (i + 1)⟩
  | .dead :: h, i => freeH_nil h (i + 1)
  | .row _ _ _ _ :: h, i => freeH_nil h (i + 1)
  | .ob _ :: h, i => freeH_nil h (i + 1)

/-- The effect of a call by contract: sel: the caller's names of the callee's blocks; S: names that are viewed for this call. -/
theorem effK_con {X : Cx} {ev : Operand → XV} {hp hp0 : List XB} {f : FuncId} {args : Array Operand} {kd : List Nat} {xs : List XV} {post : XV → List XB → Prop} {dst : Option Tmp} {ats : Array TypeId} {ty : TypeId} {pos : String} {after : Array Edge} {gd : Option (Nat × Bool)}
    (hcon : Con X.P f hp0 kd xs post) (sel S : List Nat) (hsel : hp0.map (XB.ren sel) = sel.map fun b => hp.getD b .dead) (hnd : sel.Nodup) (hbl : ∀ b, b ∈ sel → b < hp.length) (hs0 : scB hp0.length hp0)
    (hS : ∀ b, b ∈ S → b ∉ sel) (hK : ∀ j, j ∈ kd → ¬ X.kn (sel.getD j 0)) (hF : freeH (kd.map fun j => sel.getD j 0) sel 0 hp) (hargs : argsLe S hp sel (args.toList.map ev) xs)
    (hfl : S = [] ∨ ∀ x hp', post x hp' → x.flat ∧ ∀ xb, xb ∈ hp' → xb.flat) :
    EffK X ev hp ⟨dst, .call ⟨.value (.func f), args, ats⟩, ty, pos, after, gd⟩ fun y hp'' K => ∃ x hp', post x hp' ∧ y = x.ren (sel1 sel hp.length hp'.length) ∧ hp'' = outH hp sel hp' ∧ K = kd.map fun j => sel.getD j 0 := by
  intro γ w a K Q hI hev hsc hK2
  have hvs : All2 (RepV γ w) (args.toList.map ev) (args.toList.map a.eval) := by
    have hin : ∀ x, x ∈ args.toList → RepV γ w (ev x) (a.eval x) := fun x hx => hev x (by simp [Op.operands, Call.operands, Array.mem_toList_iff.1 hx])
    generalize args.toList = l at hin
    induction l with
    | nil => exact .nil
    | cons x l ih => exact .cons (hin x (List.mem_cons_self ..)) (ih fun y hy => hin y (List.mem_cons_of_mem _ hy))
  have hrun : (execOp a.eval ⟨dst, .call ⟨.value (.func f), args, ats⟩, ty, pos, after, gd⟩).run X.P w = .ok (.enter f (args.toList.map a.eval).toArray) w := by
    rw [execOp_call_go]
    rw [run_callFunc hcon.1]
    congr 2
    apply Array.toList_inj.1
    simp
  unfold Oper.wp
  rw [hrun, Oper.upon_enter]
  have h1 := hcon.2 w (roS γ hp S) (ghIn γ hp sel S) (args.toList.map a.eval) (con_pre hI hsel hnd (scB_all _ _ hs0) hS) (argsLe_sound hI _ _ _ hargs hvs)
  refine h1.mono ?_
  rintro e w' ⟨v, x, hp', γ', rfl, hpost, hI', hr, hsx⟩
  have ho := con_post hI hsel hnd hbl hS hK (fun b l T hb hbs => freeH_spec hp 0 hF b l T hb (by simpa using hbs)) hI' hr hsx (hfl.imp id fun h => h x hp' hpost)
  exact hK2 _ _ _ _ _ _ ⟨x, hp', hpost, rfl, rfl, rfl⟩ ho

/-- A call by contract, in a walk. -/
theorem ev_call {X : Cx} {Q : KX} {k : List It} {st : St} {hp0 : List XB} {f : FuncId} {args : Array Operand} {kd : List Nat} {xs : List XV} {post : XV → List XB → Prop} {dst : Option Tmp} {ats : Array TypeId} {ty : TypeId} {pos : String} {after : Array Edge} {gd : Option (Nat × Bool)}
    (hcon : Con X.P f hp0 kd xs post) (sel S : List Nat) (hargs : argsLe S st.hp sel (args.toList.map (evX st.fr)) xs)
    (hside : hp0.map (XB.ren sel) = (sel.map fun b => st.hp.getD b .dead) ∧ sel.Nodup ∧ (∀ b, b ∈ sel → b < st.hp.length) ∧ scB hp0.length hp0 ∧ (∀ b, b ∈ S → b ∉ sel) ∧ (∀ j, j ∈ kd → ¬ X.kn (sel.getD j 0)) ∧ freeH (kd.map fun j => sel.getD j 0) sel 0 st.hp)
    (hfl : S = [] ∨ ∀ x hp', post x hp' → x.flat ∧ ∀ xb, xb ∈ hp' → xb.flat)
    (h : ∀ x hp', post x hp' → SC X Q 400 k ⟨frPut (killF (kd.map fun j => sel.getD j 0) st.fr) dst (x.ren (sel1 sel st.hp.length hp'.length)), outH st.hp sel hp'⟩) :
    EvOp X Q ⟨dst, .call ⟨.value (.func f), args, ats⟩, ty, pos, after, gd⟩ k st :=
  ev_eff (effK_con hcon sel S hside.1 hside.2.1 hside.2.2.1 hside.2.2.2.1 hside.2.2.2.2.1 hside.2.2.2.2.2.1 hside.2.2.2.2.2.2 hargs hfl) (by
    rintro y hp'' K ⟨x, hp', hpost, rfl, rfl, rfl⟩
    exact h x hp' hpost)
/-- the same, for a contract without named blocks, where nothing is viewed -/
theorem ev_call0 {X : Cx} {Q : KX} {k : List It} {st : St} {f : FuncId} {args : Array Operand} {xs : List XV} {post : XV → List XB → Prop} {dst : Option Tmp} {ats : Array TypeId} {ty : TypeId} {pos : String} {after : Array Edge} {gd : Option (Nat × Bool)}
    (hcon : Spec X.P f xs post) (hargs : args.toList.map (evX st.fr) = xs) (hn : xs.map (XV.ren []) = xs)
    (h : ∀ x hp', post x hp' → SC X Q 400 k ⟨frPut st.fr dst (x.ren (List.range' st.hp.length hp'.length)), st.hp ++ hp'.map (XB.ren (List.range' st.hp.length hp'.length))⟩) :
    EvOp X Q ⟨dst, .call ⟨.value (.func f), args, ats⟩, ty, pos, after, gd⟩ k st := by
  refine ev_call hcon [] [] ?_ ⟨rfl, List.nodup_nil, by simp, trivial, by simp, by simp, freeH_nil _ _⟩ (.inl rfl) ?_
  · rw [hargs]
    clear h hargs hcon
    induction xs with
    | nil => trivial
    | cons x xs ih =>
      simp only [List.map_cons, List.cons.injEq] at hn
      have vs : ∀ x, viewS [] st.hp x = (True, x) := fun x => by cases x <;> simp [viewS]
      have v0 : ∀ x, viewP [] st.hp x = (True, x) := fun x => by cases x <;> simp [viewP, vs]
      have v1 : viewW [] st.hp x = (True, x) := by
        cases x <;> simp [viewW, v0]
      refine ⟨by rw [v1]; trivial, .inr ?_, ih hn.2⟩
      rw [v1, hn.1]
  · intro x hp' hpost
    have := h x hp' hpost
    simpa [killF, outH, putH, sel1] using this
end Go.SX
