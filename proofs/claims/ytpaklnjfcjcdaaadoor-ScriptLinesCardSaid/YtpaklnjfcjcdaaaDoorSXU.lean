/- SX: calls that leave the entry's blocks as they are. Own work. -/
import Derived.Test.YtpaklnjfcjcdaaaDoorSXT
namespace Go.SX
set_option linter.unusedVariables false
set_option linter.unusedSimpArgs false
theorem getD_range {n b : Nat} (h : b < n) : (List.range n).getD b 0 = b := by
  rw [List.getD_eq_getElem?_getD, List.getElem?_range h]; rfl
theorem XC.ren_id {n : Nat} : ∀ (x : XC), x.upTo n → x.ren (List.range n) = x
  | .d _, _ => rfl
  | .ptr b k i o, h => by simp only [XC.ren, getD_range (show b < n from h)]
  | .slc b k i m, h => by simp only [XC.ren, getD_range (show b < n from h)]
  | .clo f bs, h => by
    simp only [XC.ren]
    congr 1
    refine (List.map_congr_left fun b hb => ?_).trans (List.map_id _)
    exact getD_range (h b hb)
  | .cond φ x, h => by simp only [XC.ren, XC.ren_id x h]
theorem map_id' {α : Type} {f : α → α} : ∀ {l : List α}, (∀ x, x ∈ l → f x = x) → l.map f = l
  | [], _ => rfl
  | x :: l, h => by
    rw [List.map_cons, h x (List.mem_cons_self ..), map_id' fun y hy => h y (List.mem_cons_of_mem _ hy)]
theorem XV.renW_id {n : Nat} (x : XV) (h : x.upToW n) : x.renW (List.range n) = x := by
  cases x with
  | any => rfl
  | c x => simp only [XV.renW, XC.ren_id x h]
  | agg l => simp only [XV.renW]; rw [map_id' fun x hx => XC.ren_id x (h x hx)]
  | tup l => rfl
theorem XV.ren_id {n : Nat} (x : XV) (h : x.upTo n) : x.ren (List.range n) = x := by
  cases x with
  | tup l => simp only [XV.ren]; rw [map_id' fun x hx => XV.renW_id x (h x hx)]
  | any => rfl
  | c x => exact XV.renW_id (.c x) h
  | agg l => exact XV.renW_id (.agg l) h
theorem hp_ren_id {hp0 : List XB} (h : scH hp0) : hp0.map (XB.ren (List.range hp0.length)) = hp0 := by
  refine map_id' fun x hx => ?_
  obtain ⟨b, hb⟩ := List.mem_iff_getElem?.1 hx
  cases x with
  | box l T => simp only [XB.ren]; rw [map_id' fun c hc => XC.ren_id c (h b l T hb c hc)]
  | _ => rfl
theorem range_getD {hp0 rest : List XB} : ((List.range hp0.length).map fun b => (hp0 ++ rest).getD b .dead) = hp0 := by
  apply List.ext_getElem?
  intro b
  rw [List.getElem?_map]
  by_cases hb : b < hp0.length
  · rw [List.getElem?_range hb, Option.map_some, List.getD_eq_getElem?_getD, List.getElem?_append_left hb, List.getElem?_eq_getElem hb]; rfl
  · rw [List.getElem?_eq_none (by simpa using Nat.le_of_not_lt hb), List.getElem?_eq_none (by simpa using Nat.le_of_not_lt hb)]; rfl
theorem argsLe_id (hp : List XB) (n : Nat) : ∀ (xs : List XV), (∀ x, x ∈ xs → x.upTo n) → argsLe [] hp (List.range n) xs xs
  | [], _ => trivial
  | x :: xs, h => by
    have vs : ∀ x, viewS [] hp x = (True, x) := fun x => by cases x <;> simp [viewS]
    have v0 : ∀ x, viewP [] hp x = (True, x) := fun x => by cases x <;> simp [viewP, vs]
    have v1 : viewW [] hp x = (True, x) := by
      cases x <;> simp [viewW, v0]
    refine ⟨by rw [v1]; trivial, .inr ?_, argsLe_id hp n xs fun y hy => h y (List.mem_cons_of_mem _ hy)⟩
    rw [v1, XV.ren_id x (h x (List.mem_cons_self ..))]
theorem outH_id (hp0 rest : List XB) (hs : scH hp0) : outH (hp0 ++ rest) (List.range hp0.length) hp0 = hp0 ++ rest := by
  have hl : (List.range hp0.length).length ≤ hp0.length := by simp
  have hlen := outH_length (hp := hp0 ++ rest) (sel := List.range hp0.length) (hp' := hp0) hl
  apply List.ext_getElem?
  intro b
  by_cases hb : b < hp0.length
  · have h1 : (sel1 (List.range hp0.length) (hp0 ++ rest).length hp0.length)[b]? = some b := by
      rw [sel1_old (by simpa using hb), List.getElem?_range hb]
    have hx : hp0[b]? = some hp0[b] := List.getElem?_eq_getElem hb
    rw [outH_at List.nodup_range (fun b hb => by simp at hb ⊢; omega) hl h1 hx, List.getElem?_append_left hb, hx]
    have e : sel1 (List.range hp0.length) (hp0 ++ rest).length hp0.length = List.range hp0.length := by simp [sel1]
    rw [e]
    have := hp_ren_id hs
    have h2 := congrArg (fun l => l[b]?) this
    simp only [List.getElem?_map, hx, Option.map_some, Option.some.injEq] at h2
    rw [h2]
  · by_cases hb2 : b < (hp0 ++ rest).length
    · exact outH_other (by simpa using hb) hb2
    · rw [List.getElem?_eq_none (by rw [hlen]; simp at hb2 ⊢; omega), List.getElem?_eq_none (by omega)]
/-- a call of a closure over blocks that are as they were behind it -/
theorem ev_callFid {X : Cx} {Q : KX} {k : List It} {st : St} {hp0 rest : List XB} {f : FuncId} {bs ks : List Nat} {x : Operand} {args : Array Operand} {xs : List XV} {d : XD} {dst : Option Tmp} {ats : Array TypeId} {ty : TypeId} {pos : String} {after : Array Edge} {gd : Option (Nat × Bool)}
    (hcon : Con X.P f hp0 [] (xs ++ capsV bs ks) (fun x hp => x = .c (.d d) ∧ hp = hp0)) (hhp : st.hp = hp0 ++ rest) (hx : evX st.fr x = .c (.clo f bs)) (hks : ks.length = bs.length) (hargs : args.toList.map (evX st.fr) = xs)
    (hu : ∀ x, x ∈ xs ++ capsV bs ks → x.upTo hp0.length) (hs : scB hp0.length hp0)
    (h : SC X Q 400 k ⟨frPut st.fr dst (.c (.d d)), st.hp⟩) : EvOp X Q ⟨dst, .call ⟨.value x, args, ats⟩, ty, pos, after, gd⟩ k st := by
  have hsH : scH hp0 := scB_all _ _ hs
  refine ev_callF hcon hx ks hks (List.range hp0.length) [] ?_ ⟨?_, List.nodup_range, fun b hb => ?_, hs, by simp, by simp, freeH_nil _ _⟩ (.inl rfl) ?_
  · rw [hargs]; exact argsLe_id _ _ _ hu
  · rw [hp_ren_id hsH, hhp, range_getD]
  · rw [hhp]; simp at hb ⊢; omega
  · rintro x' hp' ⟨rfl, rfl⟩
    rw [hhp, outH_id _ _ hsH, ← hhp]
    simpa [killF, XV.ren, XV.renW, XC.ren] using h
/-- the same for a named function -/
theorem ev_callid {X : Cx} {Q : KX} {k : List It} {st : St} {hp0 rest : List XB} {f : FuncId} {args : Array Operand} {xs : List XV} {d : XD} {dst : Option Tmp} {ats : Array TypeId} {ty : TypeId} {pos : String} {after : Array Edge} {gd : Option (Nat × Bool)}
    (hcon : Con X.P f hp0 [] xs (fun x hp => x = .c (.d d) ∧ hp = hp0)) (hhp : st.hp = hp0 ++ rest) (hst : stL (args.toList.map (evX st.fr))) (hargs : unG (args.toList.map (evX st.fr)) = xs)
    (hu : ∀ x, x ∈ xs → x.upTo hp0.length) (hs : scB hp0.length hp0)
    (h : SC X Q 400 k ⟨frPut st.fr dst (.c (.d d)), st.hp⟩) : EvOp X Q ⟨dst, .call ⟨.value (.func f), args, ats⟩, ty, pos, after, gd⟩ k st := by
  have hsH : scH hp0 := scB_all _ _ hs
  refine ev_callS hcon (List.range hp0.length) [] hst ?_ ⟨?_, List.nodup_range, fun b hb => ?_, hs, by simp, by simp, freeH_nil _ _⟩ (.inl rfl) ?_
  · rw [hargs]; exact argsLe_id _ _ _ hu
  · rw [hp_ren_id hsH, hhp, range_getD]
  · rw [hhp]; simp at hb ⊢; omega
  · rintro x' hp' ⟨rfl, rfl⟩
    rw [hhp, outH_id _ _ hsH, ← hhp]
    simpa [killF, XV.ren, XV.renW, XC.ren] using h
/-- results of a body that leaves the entry's blocks as they were -/
theorem ret_id {m : Nat} {kd : List Nat} {post : XV → List XB → Prop} {hp0 rest : List XB} {d : XD} (hs : scB hp0.length hp0) (hp' : post (.c (.d d)) hp0) : retP hp0.length kd m post (hp0 ++ rest) (.c (.d d)) :=
  ret_sel (List.range hp0.length) (.c (.d d)) hp0 rfl (by rw [hp_ren_id (scB_all _ _ hs), range_getD]) (fun l hl => by simp at hl) List.nodup_range hs trivial (by simp) (fun b hb _ => getD_range hb) hp'
theorem ret_id0 {m : Nat} {kd : List Nat} {post : XV → List XB → Prop} {hp0 : List XB} {d : XD} (hs : scB hp0.length hp0) (hp' : post (.c (.d d)) hp0) : retP hp0.length kd m post hp0 (.c (.d d)) := by
  have := ret_id (m := m) (kd := kd) (post := post) (rest := []) hs hp'
  simpa using this
theorem outH_same {hp hp0 : List XB} {sel : List Nat} (hsel : hp0.map (XB.ren sel) = sel.map fun b => hp.getD b .dead) (hnd : sel.Nodup) (hbl : ∀ b, b ∈ sel → b < hp.length) : outH hp sel hp0 = hp := by
  have hlen : hp0.length = sel.length := by have := congrArg List.length hsel; simpa using this
  have hl : sel.length ≤ hp0.length := Nat.le_of_eq hlen.symm
  have e1 : sel1 sel hp.length hp0.length = sel := by simp [sel1, hlen]
  have hl2 := outH_length (hp := hp) (sel := sel) (hp' := hp0) hl
  apply List.ext_getElem?
  intro b
  by_cases hb : b ∈ sel
  · obtain ⟨j, hj⟩ := List.mem_iff_getElem?.1 hb
    have hjl : j < hp0.length := by rw [hlen]; exact (List.getElem?_eq_some_iff.1 hj).1
    have hx : hp0[j]? = some hp0[j] := List.getElem?_eq_getElem hjl
    rw [outH_at hnd hbl hl (by rw [e1]; exact hj) hx, e1]
    have h2 := congrArg (fun l => l[j]?) hsel
    simp only [List.getElem?_map, hx, hj, Option.map_some, Option.some.injEq] at h2
    rw [h2, List.getD_eq_getElem?_getD, List.getElem?_eq_getElem (hbl b hb)]
    rfl
  · by_cases hb2 : b < hp.length
    · exact outH_other hb hb2
    · rw [List.getElem?_eq_none (by rw [hl2]; omega), List.getElem?_eq_none (by omega)]
/-- a call that leaves the callee's blocks as they were -/
theorem ev_cp {X : Cx} {Q : KX} {k : List It} {st : St} {hp0 : List XB} {f : FuncId} {args : Array Operand} {xs : List XV} {d : XD} {dst : Option Tmp} {ats : Array TypeId} {ty : TypeId} {pos : String} {after : Array Edge} {gd : Option (Nat × Bool)}
    (hcon : Con X.P f hp0 [] xs (fun x hp => x = .c (.d d) ∧ hp = hp0)) (sel S : List Nat) (hst : stL (args.toList.map (evX st.fr))) (hargs : argsLe S st.hp sel (unG (args.toList.map (evX st.fr))) xs)
    (hsel : hp0.map (XB.ren sel) = sel.map fun b => st.hp.getD b .dead) (hnd : sel.Nodup) (hbl : ∀ b, b ∈ sel → b < st.hp.length) (hs0 : scB hp0.length hp0) (hS : ∀ b, b ∈ S → b ∉ sel) (hfl : S = [] ∨ d.flat ∧ ∀ xb, xb ∈ hp0 → xb.flat)
    (h : SC X Q 400 k ⟨frPut st.fr dst (.c (.d d)), st.hp⟩) : EvOp X Q ⟨dst, .call ⟨.value (.func f), args, ats⟩, ty, pos, after, gd⟩ k st := by
  refine ev_callS hcon sel S hst hargs ⟨hsel, hnd, hbl, hs0, hS, by simp, freeH_nil _ _⟩ (hfl.imp id fun hf x hp' hp => by obtain ⟨rfl, rfl⟩ := hp; exact hf) ?_
  rintro x' hp' ⟨rfl, rfl⟩
  rw [outH_same hsel hnd hbl]
  simpa [killF, XV.ren, XV.renW, XC.ren] using h
theorem celle_self : ∀ (l : List XC), celle l l
  | [] => trivial
  | c :: l => ⟨.inl rfl, celle_self l⟩
theorem xble_self (x : XB) : xble x x := by
  cases x with
  | dead => trivial
  | box l T => exact ⟨rfl, celle_self l⟩
  | row k n g T => exact ⟨rfl, rfl, rfl, fun _ _ _ _ => rfl⟩
  | ob o => rfl
@[push_cast] theorem wkB_self : ∀ (h : List XB), wkB h h = True
  | [] => rfl
  | x :: h => by rw [wkB_cons, wkB_self h]; simp [xble_self]
theorem wkB_app : ∀ (h r : List XB), wkB (h ++ r) h
  | [], r => by rw [wkB_nil]; trivial
  | x :: h, r => ⟨xble_self x, wkB_app h r⟩
attribute [push_cast] capsV
end Go.SX
