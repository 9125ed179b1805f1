/- SX: ranges over strings; calls of function values. Own work. -/
import Derived.Test.YtpaklnjfcjcdaaaDoorSX19
import Derived.Laws.Externs
import Derived.Scope
namespace Go.SX
set_option linter.unusedVariables false
set_option linter.unusedSimpArgs false

/-! ### calls whose callee is reckoned by the run -/
theorem effK_conR {X : Cx} {ev : Operand → XV} {hp hp0 : List XB} {f : FuncId} {kd : List Nat} {xs ys : List XV} {post : XV → List XB → Prop} {o : Oper}
    (hcon : Con X.P f hp0 kd xs post) (sel S : List Nat) (hsel : hp0.map (XB.ren sel) = sel.map fun b => hp.getD b .dead) (hnd : sel.Nodup) (hbl : ∀ b, b ∈ sel → b < hp.length) (hs0 : scB hp0.length hp0)
    (hS : ∀ b, b ∈ S → b ∉ sel) (hK : ∀ j, j ∈ kd → ¬ X.kn (sel.getD j 0)) (hF : freeH (kd.map fun j => sel.getD j 0) sel 0 hp) (hargs : argsLe S hp sel ys xs)
    (hfl : S = [] ∨ ∀ x hp', post x hp' → x.flat ∧ ∀ xb, xb ∈ hp' → xb.flat)
    (hrun : ∀ (γ : Gh) (w : World) (a : Act), Inv X γ w hp → (∀ x, x ∈ o.op.operands → RepV γ w (ev x) (a.eval x)) → ∃ vs : List Value, (execOp a.eval o).run X.P w = .ok (.enter f vs.toArray) w ∧ All2 (RepV γ w) ys vs) :
    EffK X ev hp o fun y hp'' K => ∃ x hp', post x hp' ∧ y = x.ren (sel1 sel hp.length hp'.length) ∧ hp'' = outH hp sel hp' ∧ K = kd.map fun j => sel.getD j 0 := by
  intro γ w a K Q hI hev hsc hK2
  obtain ⟨vs, hr0, hvs⟩ := hrun γ w a hI hev
  unfold Oper.wp
  rw [hr0, Oper.upon_enter]
  have h1 := hcon.2 w (roS γ hp S) (ghIn γ hp sel S) vs (con_pre hI hsel hnd (scB_all _ _ hs0) hS) (argsLe_sound hI _ _ _ hargs hvs)
  refine h1.mono ?_
  rintro e w' ⟨v, x, hp', γ', rfl, hpost, hI', hr, hsx⟩
  have ho := con_post hI hsel hnd hbl hS hK (fun b l T hb hbs => freeH_spec hp 0 hF b l T hb (by simpa using hbs)) hI' hr hsx (hfl.imp id fun h => h x hp' hpost)
  exact hK2 _ _ _ _ _ _ ⟨x, hp', hpost, rfl, rfl, rfl⟩ ho

/-- what a closure's captured places are as arguments; ks: the boxes' cells -/
def capsV : List Nat → List Nat → List XV
  | b :: bs, k :: ks => .c (.ptr b k 0 0) :: capsV bs ks
  | _, _ => []
theorem capsV_rep {γ : Gh} {w : World} : ∀ (bs ks : List Nat), ks.length = bs.length → All2 (RepV γ w) (capsV bs ks) (bs.map fun b => Value.pointer (some ⟨γ.blk b, γ.off b, none⟩))
  | [], [], _ => .nil
  | b :: bs, k :: ks, h => .cons (by show _ = _; simp) (capsV_rep bs ks (by simpa using h))
  | [], _ :: _, h => by simp at h
  | _ :: _, [], h => by simp at h
theorem run_callVal {P : Program} {w : World} {f : FuncId} (hf : Enters P f) {ρ : Operand → Value} {x : Operand} {args : Array Operand} {ats : Array TypeId} {dst : Option Tmp} {ty : TypeId} {pos : String} {after : Array Edge} {gd : Option (Nat × Bool)} {cs : Array Value} (hx : ρ x = .func (.func f) #[] cs) :
    (execOp ρ ⟨dst, .call ⟨.value x, args, ats⟩, ty, pos, after, gd⟩).run P w = .ok (.enter f ((args.toList.map ρ) ++ cs.toList).toArray) w := by
  have e : execOp ρ ⟨dst, .call ⟨.value x, args, ats⟩, ty, pos, after, gd⟩ = (do let d ← Deferred.ofValue (ρ x) (args.map ρ); invoke d.target d.args) := rfl
  rw [e, hx]
  simp only [Deferred.ofValue, Sem.run_bind, Sem.run_pure, Result.andThen_ok]
  show (callFunc f (#[] ++ args.map ρ ++ cs)).run P w = _
  rw [run_callFunc hf]
  congr 2
  apply Array.toList_inj.1
  simp
/-- a call of a closure whose code is f, by f's contract -/
theorem ev_callF {X : Cx} {Q : KX} {k : List It} {st : St} {hp0 : List XB} {f : FuncId} {bs : List Nat} {x : Operand} {args : Array Operand} {kd : List Nat} {xs : List XV} {post : XV → List XB → Prop} {dst : Option Tmp} {ats : Array TypeId} {ty : TypeId} {pos : String} {after : Array Edge} {gd : Option (Nat × Bool)}
    (hcon : Con X.P f hp0 kd xs post) (hx : evX st.fr x = .c (.clo f bs)) (ks : List Nat) (hks : ks.length = bs.length) (sel S : List Nat) (hargs : argsLe S st.hp sel (args.toList.map (evX st.fr) ++ capsV bs ks) xs)
    (hside : hp0.map (XB.ren sel) = (sel.map fun b => st.hp.getD b .dead) ∧ sel.Nodup ∧ (∀ b, b ∈ sel → b < st.hp.length) ∧ scB hp0.length hp0 ∧ (∀ b, b ∈ S → b ∉ sel) ∧ (∀ j, j ∈ kd → ¬ X.kn (sel.getD j 0)) ∧ freeH (kd.map fun j => sel.getD j 0) sel 0 st.hp)
    (hfl : S = [] ∨ ∀ x hp', post x hp' → x.flat ∧ ∀ xb, xb ∈ hp' → xb.flat)
    (h : ∀ x hp', post x hp' → SC X Q 400 k ⟨frPut (killF (kd.map fun j => sel.getD j 0) st.fr) dst (x.ren (sel1 sel st.hp.length hp'.length)), outH st.hp sel hp'⟩) :
    EvOp X Q ⟨dst, .call ⟨.value x, args, ats⟩, ty, pos, after, gd⟩ k st := by
  refine ev_eff (effK_conR hcon sel S hside.1 hside.2.1 hside.2.2.1 hside.2.2.2.1 hside.2.2.2.2.1 hside.2.2.2.2.2.1 hside.2.2.2.2.2.2 hargs hfl ?_) ?_
  · intro γ w a hI hev
    have hxv := hev x (by simp [Op.operands, Call.operands])
    rw [hx] at hxv
    refine ⟨_, run_callVal hcon.1 hxv, ?_⟩
    have hin : ∀ y, y ∈ args.toList → RepV γ w (evX st.fr y) (a.eval y) := fun y hy => hev y (by simp [Op.operands, Call.operands, Array.mem_toList_iff.1 hy])
    refine All2.append ?_ (by simpa using capsV_rep bs ks hks)
    generalize args.toList = l at hin
    induction l with
    | nil => exact .nil
    | cons y l ih => exact .cons (hin y (List.mem_cons_self ..)) (ih fun z hz => hin z (List.mem_cons_of_mem _ hz))
  · rintro y hp'' K ⟨x, hp', hpost, rfl, rfl, rfl⟩
    exact h x hp' hpost
/-- a closure without captures, a contract without named blocks -/
theorem ev_callF0 {X : Cx} {Q : KX} {k : List It} {st : St} {f : FuncId} {x : Operand} {args : Array Operand} {xs : List XV} {post : XV → List XB → Prop} {dst : Option Tmp} {ats : Array TypeId} {ty : TypeId} {pos : String} {after : Array Edge} {gd : Option (Nat × Bool)}
    (hcon : Spec X.P f xs post) (hx : evX st.fr x = .c (.clo f [])) (hargs : args.toList.map (evX st.fr) = xs) (hn : xs.map (XV.ren []) = xs)
    (h : ∀ x hp', post x hp' → SC X Q 400 k ⟨frPut st.fr dst (x.ren (List.range' st.hp.length hp'.length)), st.hp ++ hp'.map (XB.ren (List.range' st.hp.length hp'.length))⟩) :
    EvOp X Q ⟨dst, .call ⟨.value x, args, ats⟩, ty, pos, after, gd⟩ k st := by
  refine ev_callF hcon hx [] rfl [] [] ?_ ⟨rfl, List.nodup_nil, by simp, trivial, by simp, by simp, freeH_nil _ _⟩ (.inl rfl) ?_
  · rw [hargs, show capsV [] [] = ([] : List XV) from rfl, List.append_nil]
    clear h hargs hcon
    induction xs with
    | nil => trivial
    | cons x xs ih =>
      simp only [List.map_cons, List.cons.injEq] at hn
      have vs : ∀ x, viewS [] st.hp x = (True, x) := fun x => by cases x <;> simp [viewS]
      have v0 : ∀ x, viewP [] st.hp x = (True, x) := fun x => by cases x <;> simp [viewP, vs]
      have v1 : viewW [] st.hp x = (True, x) := by
        cases x <;> simp [viewW, v0]
      refine ⟨by rw [v1]; trivial, .inr ?_, ih hn.2⟩
      rw [v1, hn.1]
  · intro x hp' hpost
    have := h x hp' hpost
    simpa [killF, outH, putH, sel1] using this

/-! ### ranges over strings -/
theorem ev_range {X : Cx} {Q : KX} {k : List It} {st : St} {s : ByteArray} {x : Operand} {xType : TypeId} {dst : Option Tmp} {ty : TypeId} {pos : String} {after : Array Edge} {gd : Option (Nat × Bool)}
    (ht : strT X.P xType = true) (hx : evX st.fr x = .c (.d (.val (.string s))))
    (h : SC X Q 400 k ⟨frPut st.fr dst (.c (.ptr st.hp.length 1 0 0)), st.hp ++ [.ob (.stringIter s 0)]⟩) : EvOp X Q ⟨dst, .range xType x, ty, pos, after, gd⟩ k st := by
  refine ev_eff (R := fun y hp' S => y = .c (.ptr st.hp.length 1 0 0) ∧ hp' = st.hp ++ [.ob (.stringIter s 0)] ∧ S = []) ?_ ?_
  · intro γ w a K Q hI hev hsc hK
    have hxv := hev x (by simp [Op.operands])
    rw [hx] at hxv
    have hxv : a.eval x = .string s := hxv
    have hrun : (execOp a.eval ⟨dst, .range xType x, ty, pos, after, gd⟩).run X.P w = .ok (.value (.pointer (some ⟨w.heap.size, 0, none⟩))) (w.alloc (.stringIter s 0)) := by
      have e : execOp a.eval ⟨dst, .range xType x, ty, pos, after, gd⟩ = (do let v ← Instr.range xType (a.eval x); pure (.value v)) := rfl
      rw [e, hxv]
      simp only [Instr.range, Sem.run_bind, run_underlying' (strT_true ht), Result.andThen_ok, Sem.run_pure, run_newObj_alloc]
    have hg : GoodB (γ.put st.hp.length w.heap.size 0 1) (w.alloc (.stringIter s 0)) st.hp.length (.ob (.stringIter s 0)) := by
      refine ⟨Gh.put_off .., Gh.put_cap .., ?_⟩
      rw [Gh.put_blk]
      show (w.heap.push _)[w.heap.size]? = _
      simp
    obtain ⟨h1, h2⟩ := inv_alloc (cap := 1) hI hg (fun l T' e => by simp at e)
    unfold Oper.wp
    rw [hrun]
    refine hK _ _ _ _ _ _ ⟨rfl, rfl, rfl⟩ ⟨h1, ?_, (γ.put_ext _ _ _ _).mono fun b hb => by rw [List.mem_singleton] at hb; subst hb; simp [newN], h2, by show _ < _; simp, by simp⟩
    show _ = _
    simp [Gh.put]
  · rintro y hp' S ⟨rfl, rfl, rfl⟩
    exact h
theorem ev_next {X : Cx} {Q : KX} {k : List It} {st : St} {s : ByteArray} {p b k' : Nat} {it : Operand} {dst : Option Tmp} {ty : TypeId} {pos : String} {after : Array Edge} {gd : Option (Nat × Bool)}
    (hx : evX st.fr it = .c (.ptr b k' 0 0)) (hb : st.hp[b]? = some (.ob (.stringIter s p)))
    (h : (p < s.size → SC X Q 400 k ⟨frPut st.fr dst (.tup [.c (.d (.val (.bool true))), .c (.d (.val (.int .i64 p))), .c (.d (.val (.int .i32 (Utf8.decode s p).1)))]), st.hp.set b (.ob (.stringIter s (p + (Utf8.decode s p).2)))⟩) ∧
      (¬ p < s.size → SC X Q 400 k ⟨frPut st.fr dst (.tup [.c (.d (.val (.bool false)))]), st.hp⟩)) : EvOp X Q ⟨dst, .next it true, ty, pos, after, gd⟩ k st := by
  refine ev_eff (R := fun y hp' S => S = [] ∧ ((p < s.size ∧ y = .tup [.c (.d (.val (.bool true))), .c (.d (.val (.int .i64 p))), .c (.d (.val (.int .i32 (Utf8.decode s p).1)))] ∧ hp' = st.hp.set b (.ob (.stringIter s (p + (Utf8.decode s p).2)))) ∨ (¬ p < s.size ∧ y = .tup [.c (.d (.val (.bool false)))] ∧ hp' = st.hp))) ?_ ?_
  · intro γ w a K Q hI hev hsc hK
    have hxv := hev it (by simp [Op.operands])
    rw [hx] at hxv
    have hxv : a.eval it = .pointer (some ⟨γ.blk b, γ.off b + (0 * k' + 0), none⟩) := hxv
    obtain ⟨g0, g1, hw⟩ := hI.good b _ hb
    have e : execOp a.eval ⟨dst, .next it true, ty, pos, after, gd⟩ = (do let v ← Instr.next (a.eval it) true ty; pure (.value v)) := rfl
    have hget : (getObj (γ.blk b)).run X.P w = .ok (.stringIter s p) w := by simp [getObj, Sem.run, hw]
    have hset : ∀ o, (setObj (γ.blk b) o).run X.P w = .ok () { w with heap := w.heap.setIfInBounds (γ.blk b) o } := fun o => by simp [setObj, Sem.run, hw]
    unfold Oper.wp
    rw [e, hxv, g0]
    by_cases hp : p < s.size
    · have hlt : γ.blk b < w.heap.size := by
        rcases Nat.lt_or_ge (γ.blk b) w.heap.size with h | h
        · exact h
        · rw [Array.getElem?_eq_none h] at hw; simp at hw
      have hrun : (do let v ← Instr.next (.pointer (some ⟨γ.blk b, 0 + (0 * k' + 0), none⟩)) true ty; pure (Next.value v) : Sem Next).run X.P w = .ok (.value (.tuple #[.bool true, goInt p, .int .i32 (Utf8.decode s p).1])) { w with heap := w.heap.setIfInBounds (γ.blk b) (.stringIter s (p + (Utf8.decode s p).2)) } := by
        simp only [Instr.next, Nat.zero_mul, Nat.zero_add, Nat.add_zero, Sem.run_bind, hget, Result.andThen_ok, if_pos hp, Sem.run_ite, hset, Sem.run_pure]
      rw [hrun]
      obtain ⟨h1, h2⟩ := inv_modify (w' := { w with heap := w.heap.setIfInBounds (γ.blk b) (.stringIter s (p + (Utf8.decode s p).2)) }) (xb' := .ob (.stringIter s (p + (Utf8.decode s p).2))) hI hb trivial
        (fun k hk => by simp [Array.getElem?_setIfInBounds, Ne.symm hk]) rfl rfl rfl (by simp) ⟨g0, g1, by simp [Array.getElem?_setIfInBounds, hlt]⟩ (fun l T e => by simp at e)
      refine hK _ _ _ _ _ _ ⟨rfl, .inl ⟨hp, rfl, rfl⟩⟩ ⟨h1, ⟨_, rfl, .cons rfl (.cons rfl (.cons rfl .nil))⟩, Gh.Ext.refl _ _, h2, ?_, by simp⟩
      intro x hx
      simp only [List.mem_cons, List.not_mem_nil, or_false] at hx
      rcases hx with rfl | rfl | rfl <;> trivial
    · have hrun : (do let v ← Instr.next (.pointer (some ⟨γ.blk b, 0 + (0 * k' + 0), none⟩)) true ty; pure (Next.value v) : Sem Next).run X.P w = .ok (.value (.tuple #[.bool false])) w := by
        simp only [Instr.next, Nat.zero_mul, Nat.zero_add, Nat.add_zero, Sem.run_bind, hget, Result.andThen_ok, if_neg hp, Sem.run_ite, Sem.run_pure]
      rw [hrun]
      refine hK _ _ _ _ _ _ ⟨rfl, .inr ⟨hp, rfl, rfl⟩⟩ ⟨hI, ⟨_, rfl, .cons rfl .nil⟩, Gh.Ext.refl _ _, fun _ _ => rfl, ?_, Nat.le_refl _⟩
      intro x hx
      simp only [List.mem_cons, List.not_mem_nil, or_false] at hx
      subst hx
      trivial
  · rintro y hp' S ⟨rfl, ⟨hp, rfl, rfl⟩ | ⟨hp, rfl, rfl⟩⟩
    · exact h.1 hp
    · exact h.2 hp

/-! ### operations whose run gives a value and changes nothing -/
theorem effK_pure {X : Cx} {ev : Operand → XV} {hp : List XB} {o : Oper} {y : XV} (hy : y.upTo hp.length)
    (hrun : ∀ (γ : Gh) (w : World) (a : Act), Inv X γ w hp → (∀ x, x ∈ o.op.operands → RepV γ w (ev x) (a.eval x)) → ∃ v, (execOp a.eval o).run X.P w = .ok (.value v) w ∧ RepV γ w y v) :
    EffK X ev hp o fun y' hp' S => y' = y ∧ hp' = hp ∧ S = [] := by
  intro γ w a K Q hI hev hsc hK
  obtain ⟨v, hr, hv⟩ := hrun γ w a hI hev
  unfold Oper.wp
  rw [hr]
  exact hK _ _ _ _ _ _ ⟨rfl, rfl, rfl⟩ ⟨hI, hv, Gh.Ext.refl _ _, fun _ _ => rfl, hy, Nat.le_refl _⟩
theorem ev_pure {X : Cx} {Q : KX} {k : List It} {st : St} {o : Oper} {y : XV} (hy : y.upTo st.hp.length)
    (hrun : ∀ (γ : Gh) (w : World) (a : Act), Inv X γ w st.hp → (∀ x, x ∈ o.op.operands → RepV γ w (evX st.fr x) (a.eval x)) → ∃ v, (execOp a.eval o).run X.P w = .ok (.value v) w ∧ RepV γ w y v)
    (h : SC X Q 400 k ⟨frPut st.fr o.dst y, st.hp⟩) : EvOp X Q o k st :=
  ev_eff (effK_pure hy hrun) (by rintro y' hp' S ⟨rfl, rfl, rfl⟩; exact h)
/-- string(r), r a number -/
theorem ev_runeStr {X : Cx} {Q : KX} {k : List It} {st : St} {src dstT : TypeId} {x : Operand} {n : Int} {ik : IntKind} {dst : Option Tmp} {ty : TypeId} {pos : String} {after : Array Edge} {gd : Option (Nat × Bool)}
    (hs : kindT X.P src = some ik) (hd : strT X.P dstT = true) (hx : evX st.fr x = .c (.d (.val (.int ik n))))
    (h : SC X Q 400 k ⟨frPut st.fr dst (.c (.d (.val (.string (Utf8.encode n))))), st.hp⟩) : EvOp X Q ⟨dst, .convert src dstT x, ty, pos, after, gd⟩ k st := by
  refine ev_pure (y := .c (.d (.val (.string (Utf8.encode n))))) trivial ?_ h
  intro γ w a hI hev
  have hxv := hev x (by simp [Op.operands])
  rw [hx] at hxv
  have hxv : a.eval x = .int ik n := hxv
  refine ⟨_, ?_, rfl⟩
  have e : execOp a.eval ⟨dst, .convert src dstT x, ty, pos, after, gd⟩ = (do let v ← convert src dstT (a.eval x); pure (.value v)) := rfl
  rw [e, hxv]
  simp only [convert, Sem.run_bind, run_underlying' (kindT_some hs), run_underlying' (strT_true hd), Result.andThen_ok, Conv.intToString, Sem.run_pure]
/-- bytealg.IndexByteString -/
theorem ev_indexByte {X : Cx} {Q : KX} {k : List It} {st : St} {f : FuncId} {fn : Func} {x y : Operand} {s : ByteArray} {c : Int} {ats : Array TypeId} {dst : Option Tmp} {ty : TypeId} {pos : String} {after : Array Edge} {gd : Option (Nat × Bool)}
    (hf : X.P.funcs[f]? = some fn) (hname : (fn.name == "runtime.NumGoroutine") = false) (hb : fn.body.isNone = true) (hn : Extern.findNext fn = none) (he : Extern.find fn = some Extern.BytealgIndexByte.indexByte)
    (hx : evX st.fr x = .c (.d (.val (.string s)))) (hy : evX st.fr y = .c (.d (.val (.int .u8 c))))
    (h : SC X Q 400 k ⟨frPut st.fr dst (.c (.d (.val (.int .i64 (firstIdx s c.toNat.toUInt8))))), st.hp⟩) : EvOp X Q ⟨dst, .call ⟨.value (.func f), #[x, y], ats⟩, ty, pos, after, gd⟩ k st := by
  refine ev_pure (y := .c (.d (.val (.int .i64 (firstIdx s c.toNat.toUInt8))))) trivial ?_ h
  intro γ w a hI hev
  have h1 := hev x (by simp [Op.operands, Call.operands])
  have h2 := hev y (by simp [Op.operands, Call.operands])
  rw [hx] at h1
  rw [hy] at h2
  have h1 : a.eval x = .string s := h1
  have h2 : a.eval y = .int .u8 c := h2
  refine ⟨_, ?_, rfl⟩
  rw [execOp_call_go]
  have e : (#[] ++ (#[x, y] : Array Operand).map a.eval ++ #[] : Array Value) = #[.string s, .int .u8 c] := by simp [h1, h2]
  rw [e, run_callFunc_extern hf hname hb hn he, run_indexByte_string]
  rfl

/-! ### scopes whose labels are not gone to -/
@[push_cast] theorem SC_scope (X : Cx) (Q : KX) (n : Nat) (k : List It) (st : St) (b : Code) : SC X Q (n + 1) (.c (.scope b) :: k) st = EvC X Q (.scope b) k st := rfl
@[push_cast] theorem SC_label (X : Cx) (Q : KX) (n : Nat) (k : List It) (st : St) (l : Nat) : SC X Q (n + 1) (.c (.label l) :: k) st = EvC X Q (.label l) k st := rfl
theorem ev_scope {X : Cx} {Q : KX} {k : List It} {st : St} {b : Code} (h : SC X Q 400 (.c b :: k) st) : EvC X Q (.scope b) k st := by
  have h := SC_sound 400 _ _ h
  intro a w hr
  refine wp_scope_straight (Code.wp_mono ?_ (h a w hr))
  intro e a' w' hq
  cases e with
  | goto l => exact hq.elim
  | _ => exact hq
end Go.SX
