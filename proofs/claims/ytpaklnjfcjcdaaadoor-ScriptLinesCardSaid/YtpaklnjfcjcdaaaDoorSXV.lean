/- SX: contracts under a premise on the world that outlasts new blocks; contracts that come from elsewhere. Own work. -/
import Derived.Test.YtpaklnjfcjcdaaaDoorSXU
namespace Go.SX
set_option linter.unusedVariables false
set_option linter.unusedSimpArgs false
/-- w' is w with new blocks -/
structure More (w w' : World) : Prop where
  os : w'.os = w.os
  tape : w'.tape = w.tape
  output : w'.output = w.output
  size : w.heap.size ≤ w'.heap.size
  block : ∀ k, k < w.heap.size → w'.heap[k]? = w.heap[k]?
theorem inv_more {X : Cx} {γ : Gh} {w w' : World} (hI : Inv X γ w []) (hm : More w w') : Inv X γ w' [] :=
  ⟨fun b xb h => by simp at h, fun b b' x y h => by simp at h, fun b x h => by simp at h, fun b hb => ⟨Nat.lt_of_lt_of_le (hI.ro b hb).1 hm.size, (hI.ro b hb).2⟩, hI.ro0, hI.roX, fun b l T h => by simp at h,
    ⟨hm.os.trans hI.keep.os, hm.tape.trans hI.keep.tape, hm.output.trans hI.keep.output, Nat.le_trans hI.keep.size hm.size, fun k hk hf => by rw [hm.block k (Nat.lt_of_lt_of_le hk hI.keep.size)]; exact hI.keep.block k hk hf⟩, hI.nl, hI.kl, hI.nm⟩
/-- Where nothing was named at the entry, all that was there is as it was. -/
theorem inv_cxM_more {P : Program} {w0 : World} {ro : Nat → Prop} {γ0 γ : Gh} {kd : List Nat} {w : World} {hp : List XB} (hI : Inv (cxM P w0 ro γ0 [] kd) γ w hp) : More w0 w :=
  ⟨hI.keep.os, hI.keep.tape, hI.keep.output, hI.keep.size, fun k hk => hI.keep.block k hk (no_fp P w0 ro γ0 kd k)⟩
def ConT (T : World → Prop) (P : Program) (f : FuncId) (xs : List XV) (post : XV → List XB → Prop) : Prop :=
  Enters P f ∧ ∀ (w : World) (ro : Nat → Prop) (γ : Gh) (vs : List Value), T w → Inv (cxM P w ro γ [] []) γ w [] → All2 (RepV γ w) xs vs →
    Calls P f vs.toArray w fun e w' => ∃ v x hp' γ', e = .returned v ∧ post x hp' ∧ Inv (cxM P w ro γ [] []) γ' w' hp' ∧ RepV γ' w' x v ∧ x.upTo hp'.length
theorem conT_of {T : World → Prop} {P : Program} {f : FuncId} {xs : List XV} {post : XV → List XB → Prop} (h : Spec P f xs post) : ConT T P f xs post := ⟨h.1, fun w ro γ vs _ => h.2 w ro γ vs⟩
theorem conT_introG {T : World → Prop} {P : Program} {f : FuncId} {fn : Func} {c : Code} {xs : List XV} {post : XV → List XB → Prop} {rs : List ResultVar} (hf : P.funcs[f]? = some fn) (hb : fn.body = some c) (hrs : fn.results = rs.toArray) (hnm : (fn.name == "runtime.NumGoroutine") = false) (hx : ∀ x, x ∈ xs → x.upTo 0)
    (h : ∀ w ro γ, T w → SX (cxM P w ro γ [] []) c ⟨retK P 0 [] rs post, retK P 0 [] rs post, fun _ _ => False⟩ (st0 xs fn.ntmps [])) : ConT T P f xs post := by
  refine ⟨⟨fn, hf, by rw [hb]; rfl, hnm⟩, ?_⟩
  intro w ro γ0 vs hT hI0 hvs
  refine calls_of_wp hf hb ?_
  have hst : Rr (cxM P w ro γ0 [] []) (st0 xs fn.ntmps []) { tmps := vs.toArray ++ Array.replicate (fn.ntmps - vs.toArray.size) undef, defers := [] } w := by
    refine ⟨γ0, hI0, rfl, ⟨vs ++ List.replicate (fn.ntmps - xs.length) undef, ?_, hvs.append (all2_any _)⟩, ?_⟩
    · have := hvs.length
      apply Array.toList_inj.1
      simp [this]
    · intro x hm
      rcases List.mem_append.1 hm with h1 | h1
      · exact hx x h1
      · rw [(List.mem_replicate.1 h1).2]; trivial
  have fin : ∀ {a' : Act} {w' : World}, (∃ st, Rr (cxM P w ro γ0 [] []) st a' w' ∧ retK P 0 [] rs post st) → a'.defers = [] ∧ ∃ v, (results fn a'.tmps).run P w' = .ok v w' ∧
      (fun e w' => ∃ v x hp' γ', e = Ending.returned v ∧ post x hp' ∧ Inv (cxM P w ro γ0 [] []) γ' w' hp' ∧ RepV γ' w' x v ∧ x.upTo hp'.length) (Ending.returned v) w' := by
    rintro a' w' ⟨st, ⟨γ, hr⟩, φ, x, y, sel, hp1, hres, hφ, ht, rfl, hsel, hnd, hs1, hsc, ⟨hn, hk⟩, hpost⟩
    obtain ⟨v, hv, hrv⟩ := resX_sound hr hrs hres hφ ht
    exact ⟨hr.df, v, hv, v, y, hp1, γ.sel sel, rfl, hpost, inv_sel hr.inv hsel hnd hs1 hn (fun b hb => hk b hb.1 hb.2), RepV.ren y v hrv, hsc⟩
  refine Code.wp_mono ?_ (h w ro γ0 hT _ _ hst)
  intro e a' w' hq
  cases e with
  | normal => exact fin hq
  | ret => exact fin hq
  | exit id => obtain ⟨_, _, h⟩ := hq; exact h.elim
  | goto l => exact hq.elim
  | panic c => exact hq.elim
  | outgrown => exact hq.elim
theorem sc_enterT {T : World → Prop} {P : Program} {f : FuncId} {fn : Func} {c : Code} {xs : List XV} {post : XV → List XB → Prop} {rs : List ResultVar} (hf : P.funcs[f]? = some fn) (hb : fn.body = some c) (hrs : fn.results = rs.toArray) (hnm : (fn.name == "runtime.NumGoroutine") = false) (hx : scF 0 xs)
    (m : Nat) (hm : fn.ntmps = m) (h : ∀ w ro γ, T w → SC (cxM P w ro γ [] []) (Qret P 0 [] rs post) 400 [.c c] ⟨xs ++ List.replicate (m - xs.length) .any, []⟩) : ConT T P f xs post :=
  conT_introG hf hb hrs hnm (scF_all _ _ hx) (fun w ro γ hT => by subst hm; exact SC_sound 400 [.c c] _ (h w ro γ hT))
/-- a call by a contract under a premise on the world -/
theorem ev_cvT {T : World → Prop} {P : Program} {w0 : World} {ro0 : Nat → Prop} {γ0 : Gh} {Q : KX} {k : List It} {st : St} {f : FuncId} {args : Array Operand} {xs : List XV} {y : XV} {dst : Option Tmp} {ats : Array TypeId} {ty : TypeId} {pos : String} {after : Array Edge} {gd : Option (Nat × Bool)}
    (hcon : ConT T P f xs (fun x hp => x = y ∧ hp = [])) (hT : T w0) (hst0 : ∀ w w', More w w' → T w → T w') (S : List Nat) (hst : stL (args.toList.map (evX st.fr))) (hargs : argsLe S st.hp [] (unG (args.toList.map (evX st.fr))) xs) (hy : y.ren [] = y) (hfl : y.flat)
    (h : SC (cxM P w0 ro0 γ0 [] []) Q 400 k ⟨frPut st.fr dst y, st.hp⟩) : EvOp (cxM P w0 ro0 γ0 [] []) Q ⟨dst, .call ⟨.value (.func f), args, ats⟩, ty, pos, after, gd⟩ k st := by
  refine ev_eff (R := fun y' hp'' K => y' = y ∧ hp'' = st.hp ∧ K = []) ?_ ?_
  · intro γ w a K Q hI hev hsc hK2
    have hvs := stL_rep _ (fun y hy => hev y (by simp [Op.operands, Call.operands, Array.mem_toList_iff.1 hy])) hst
    unfold Oper.wp
    simp only [cxM_P]
    rw [run_callF hcon.1, Oper.upon_enter]
    have hTw : T w := hst0 w0 w (inv_cxM_more hI) hT
    have hsel : ([] : List XB).map (XB.ren []) = ([] : List Nat).map fun b => st.hp.getD b .dead := rfl
    have h1 := hcon.2 w (roS γ st.hp S) (ghIn γ st.hp [] S) _ hTw (con_pre (sel := []) hI hsel List.nodup_nil (fun b l T h => by simp at h) (by simp)) (argsLe_sound hI _ _ _ hargs hvs)
    refine h1.mono ?_
    rintro e w' ⟨v, x, hp', γ', rfl, ⟨rfl, rfl⟩, hI', hr, hsx⟩
    have ho := con_post (sel := []) (kd := []) hI hsel List.nodup_nil (by simp) (by simp) (by simp) (fun b l T hb hbs => by simp [XC.free_nil]) hI' hr hsx (.inr ⟨hfl, by simp⟩)
    have e1 : sel1 [] st.hp.length ([] : List XB).length = [] := rfl
    have e2 : outH st.hp [] [] = st.hp := by simp [outH, putH]
    rw [e1, e2, hy] at ho
    exact hK2 _ _ _ _ _ _ ⟨rfl, rfl, rfl⟩ ho
  · rintro y' hp'' K ⟨rfl, rfl, rfl⟩
    exact h
/-- a contract from a law on calls that leaves a world with new blocks -/
theorem conT_calls {T : World → Prop} {P : Program} {f : FuncId} {xs : List XV} {u : Value} (hE : Enters P f) (h1 : one u = true) (h : ∀ (γ : Gh) (w : World) (vs : List Value), T w → All2 (RepV γ w) xs vs → Calls P f vs.toArray w fun e w' => e = .returned u ∧ More w w') :
    ConT T P f xs (fun x hp => x = .c (.d (.val u)) ∧ hp = []) :=
  ⟨hE, fun w ro γ vs hT hI hvs => (h γ w vs hT hvs).mono fun e w' ⟨he, hm⟩ => ⟨u, _, [], γ, he, ⟨rfl, rfl⟩, inv_more hI hm, rfl, trivial⟩⟩
theorem stable_var (P : Program) (name : String) (cs : Array Value) (w w' : World) (hm : More w w') (h : w.var? P name = some cs) : w'.var? P name = some cs := by
  unfold World.var? at h ⊢
  cases hg : P.globalNamed name with
  | none => rw [hg] at h; simp at h
  | some g =>
    rw [hg] at h
    simp only [Option.bind_some] at h ⊢
    have hlt : g < w.heap.size := by
      rcases Nat.lt_or_ge g w.heap.size with h' | h'
      · exact h'
      · rw [Array.getElem?_eq_none h'] at h; simp at h
    rw [hm.block g hlt]
    exact h
/-- results without names, of a body that keeps the entry's names (hp1: what they are now) -/
@[push_cast] theorem rng1 (s : Nat) : List.range' s 1 = [s] := rfl
@[push_cast] theorem rng2 (s : Nat) : List.range' s 2 = [s, s + 1] := rfl
theorem ret_keep {m : Nat} {kd : List Nat} {post : XV → List XB → Prop} {hp1 rest : List XB} {x : XV} (hs : scB hp1.length hp1) (hx : flatR x) (hren : x.ren (List.range hp1.length) = x) (hp' : post x hp1) : retP hp1.length kd m post (hp1 ++ rest) x := by
  refine ret_sel (List.range hp1.length) x hp1 hren (by rw [hp_ren_id (scB_all _ _ hs), range_getD]) (fun l hl => by subst hl; exact hx.1) List.nodup_range hs ?_ (by simp) (fun b hb _ => getD_range hb) hp'
  have up : ∀ y : XV, notTup y = true → y.upTo 0 → y.upToW hp1.length := fun y hy h => by
    cases y with
    | tup l => simp [notTup] at hy
    | any => trivial
    | c c => exact XC.upTo_mono (Nat.zero_le _) c h
    | agg l => exact fun c hc => XC.upTo_mono (Nat.zero_le _) c (h c hc)
  cases x with
  | tup l => exact fun y hy => up y (List.all_eq_true.1 hx.1 y hy) (scF_all 0 l hx.2 y hy)
  | any => trivial
  | c c => exact XC.upTo_mono (Nat.zero_le _) c hx
  | agg l => exact fun c hc => XC.upTo_mono (Nat.zero_le _) c (hx c hc)
end Go.SX
