/- SX: calls with views. Own work. -/
import Derived.Test.YtpaklnjfcjcdaaaDoorSX18
namespace Go.SX
set_option linter.unusedVariables false
set_option linter.unusedSimpArgs false
attribute [push_cast] argsLe viewW viewP viewS datC notCond sel1 putH freeH XC.free
attribute [push_cast] XD.flat XC.flat XV.flat XV.flatW XB.flat List.append_nil List.range'_zero List.nodup_nil
@[push_cast] theorem cellsN_zero (zs : List XC) (k : Nat) : cellsN zs k 0 = [] := by simp [cellsN]
@[push_cast] theorem cellsN_succ (zs : List XC) (k n : Nat) (h : zs.length = k) : cellsN zs k (n + 1) = zs ++ cellsN zs k n := by
  have h1 : List.map (fun i => zs.getD (i % k) (.d .any)) (List.range k) = zs := by
    apply List.ext_getElem (by simp [h])
    intro i h1 h2
    simp only [List.getElem_map, List.getElem_range]
    rw [Nat.mod_eq_of_lt (by omega), List.getD_eq_getElem?_getD, List.getElem?_eq_getElem h2]
    rfl
  have h2 : (n + 1) * k = k + n * k := by rw [Nat.add_mul, Nat.one_mul, Nat.add_comm]
  unfold cellsN
  rw [h2, List.range_add, List.map_append, h1, List.map_map]
  congr 1
  refine List.map_congr_left fun i _ => ?_
  simp [Nat.add_mod_left]
/-- a call of a function without named blocks that gives data which reads nothing; S: the named blocks that it may read -/
theorem ev_callV {X : Cx} {Q : KX} {k : List It} {st : St} {f : FuncId} {args : Array Operand} {xs : List XV} {y : XV} {dst : Option Tmp} {ats : Array TypeId} {ty : TypeId} {pos : String} {after : Array Edge} {gd : Option (Nat × Bool)}
    (hcon : Spec X.P f xs (fun x hp => x = y ∧ hp = [])) (S : List Nat) (hargs : argsLe S st.hp [] (args.toList.map (evX st.fr)) xs) (hy : y.ren [] = y) (hfl : y.flat)
    (h : SC X Q 400 k ⟨frPut st.fr dst y, st.hp⟩) :
    EvOp X Q ⟨dst, .call ⟨.value (.func f), args, ats⟩, ty, pos, after, gd⟩ k st := by
  refine ev_call hcon [] S hargs ⟨rfl, List.nodup_nil, by simp, trivial, by simp, by simp, freeH_nil _ _⟩ (.inr fun x hp' hp => by obtain ⟨rfl, rfl⟩ := hp; exact ⟨hfl, by simp⟩) ?_
  rintro x hp' ⟨rfl, rfl⟩
  have e1 : sel1 [] st.hp.length ([] : List XB).length = [] := rfl
  have e2 : outH st.hp [] [] = st.hp := by simp [outH, putH]
  rw [e1, e2, hy]
  exact h
end Go.SX
