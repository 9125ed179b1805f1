/- SX: what a function's call gives: contracts, their proof by a walk, and their use at a call. Own work. -/
import Derived.Test.YtpaklnjfcjcdaaaDoorSX9
namespace Go.SX
set_option linter.unusedVariables false
set_option linter.unusedSimpArgs false

/-! ### results -/
def resX1 (P : Program) (st : St) : ResultVar → Option (Prop × XV)
  | .tmp t => some (True, st.fr.getD t .any)
  | .cell a T => loadX P st.hp T (st.fr.getD a .any)
def resL (P : Program) (st : St) : List ResultVar → Option (Prop × List XV)
  | [] => some (True, [])
  | r :: l => (resX1 P st r).bind fun x => (resL P st l).map fun y => (x.1 ∧ y.1, x.2 :: y.2)
def resX (P : Program) (rs : List ResultVar) (st : St) : Option (Prop × XV) :=
  match rs with
  | [r] => resX1 P st r
  | rs => (resL P st rs).map fun r => (r.1, .tup r.2)
def notTup : XV → Bool
  | .tup _ => false
  | _ => true
theorem RepW_of_RepV {γ : Gh} {w : World} {x : XV} {v : Value} (ht : notTup x = true) (h : RepV γ w x v) : RepW γ w x v := by
  cases x with
  | tup l => simp [notTup] at ht
  | any => exact h
  | c x => exact h
  | agg l => exact h
theorem rg_tmp {X : Cx} {γ : Gh} {st : St} {a : Act} {w : World} (h : Rg X γ st a w) (t : Nat) : RepV γ w (st.fr.getD t .any) (a.tmps.getD t undef) := rg_ev h (.tmp t)
def rv (tmps : Array Value) : ResultVar → Sem Value
  | .tmp t => pure (tmps.getD t undef)
  | .cell q t => do loadVar t (← asAddr (tmps.getD q undef))
theorem results_rv (fn : Func) (tmps : Array Value) : results fn tmps = (do
    let vs ← fn.results.mapM (rv tmps)
    pure (if h : vs.size = 1 then vs[0] else .tuple vs)) := by
  unfold results
  have : (fun r : ResultVar => (match r with | .tmp t => pure (tmps.getD t undef) | .cell a t => do loadVar t (← asAddr (tmps.getD a undef)) : Sem Value)) = rv tmps := by
    funext r
    cases r <;> rfl
  rw [← this]
  rfl
theorem resX1_sound {X : Cx} {γ : Gh} {st : St} {a : Act} {w : World} {r : ResultVar} {x : XV} {φ : Prop} (h : Rg X γ st a w) (hx : resX1 X.P st r = some (φ, x)) (hφ : φ) :
    ∃ v, (rv a.tmps r).run X.P w = .ok v w ∧ RepV γ w x v := by
  cases r with
  | tmp t =>
    simp only [resX1, Option.some.injEq, Prod.mk.injEq] at hx
    obtain ⟨_, rfl⟩ := hx
    exact ⟨_, rfl, rg_tmp h t⟩
  | cell q T =>
    simp only [resX1] at hx
    obtain ⟨v, hv, hr⟩ := loadX_sound h.inv (rg_tmp h q) hx hφ
    refine ⟨v, ?_, hr⟩
    simp only [rv]
    generalize a.tmps.getD q undef = p at *
    simp only [Instr.loadAt, Sem.run_bind] at hv ⊢
    cases p with
    | pointer b =>
      cases b with
      | some b => exact hv
      | none => simp [Instr.sureAddr] at hv
    | _ => simp [Instr.sureAddr] at hv
theorem resL_sound {X : Cx} {γ : Gh} {st : St} {a : Act} {w : World} (h : Rg X γ st a w) : ∀ (rs : List ResultVar) (l : List XV) (φ : Prop), resL X.P st rs = some (φ, l) → φ →
    ∃ vs : List Value, (rs.mapM (rv a.tmps) : Sem (List Value)).run X.P w = .ok vs w ∧ All2 (RepV γ w) l vs := by
  intro rs
  induction rs with
  | nil => intro l φ hx hφ; simp only [resL, Option.some.injEq, Prod.mk.injEq] at hx; obtain ⟨_, rfl⟩ := hx; exact ⟨[], rfl, .nil⟩
  | cons r rs ih =>
    intro l φ hx hφ
    simp only [resL, Option.bind_eq_some_iff, Option.map_eq_some_iff, Prod.mk.injEq] at hx
    obtain ⟨⟨ψ, x⟩, h1, ⟨χ, l'⟩, h2, rfl, rfl⟩ := hx
    obtain ⟨v, hv, hr⟩ := resX1_sound h h1 hφ.1
    obtain ⟨vs, hvs, hl⟩ := ih l' χ h2 hφ.2
    refine ⟨v :: vs, ?_, .cons hr hl⟩
    simp only [List.mapM_cons, Sem.run_bind, hv, Result.andThen_ok, hvs, Sem.run_pure]
theorem resX_sound {X : Cx} {γ : Gh} {st : St} {a : Act} {w : World} {fn : Func} {rs : List ResultVar} {x : XV} {φ : Prop} (h : Rg X γ st a w) (hrs : fn.results = rs.toArray) (hx : resX X.P rs st = some (φ, x)) (hφ : φ)
    (ht : ∀ l, x = .tup l → rs.length ≠ 1 → l.all notTup = true) : ∃ v, (results fn a.tmps).run X.P w = .ok v w ∧ RepV γ w x v := by
  rw [results_rv, hrs]
  unfold resX at hx
  split at hx
  · rename_i r
    obtain ⟨v, hv, hr⟩ := resX1_sound h hx hφ
    refine ⟨v, ?_, hr⟩
    simp only [List.mapM_toArray, List.mapM_cons, List.mapM_nil, Sem.run_bind, Sem.run_map, hv, Result.andThen_ok, Sem.run_pure]
    rfl
  · rename_i hne
    simp only [Option.map_eq_some_iff, Prod.mk.injEq] at hx
    obtain ⟨⟨ψ, l⟩, hl, rfl, rfl⟩ := hx
    obtain ⟨vs, hvs, hr⟩ := resL_sound h rs l ψ hl hφ
    have hlen : rs.length ≠ 1 := by
      intro he
      match rs, he with
      | [r], _ => exact hne r rfl
    have hall := ht l rfl hlen
    have hll : ∀ (rs : List ResultVar) (l : List XV) (φ : Prop), resL X.P st rs = some (φ, l) → l.length = rs.length := by
      intro rs
      induction rs with
      | nil => intro l φ hx; simp only [resL, Option.some.injEq, Prod.mk.injEq] at hx; obtain ⟨_, rfl⟩ := hx; rfl
      | cons r rs ih =>
        intro l φ hx
        simp only [resL, Option.bind_eq_some_iff, Option.map_eq_some_iff, Prod.mk.injEq] at hx
        obtain ⟨_, _, ⟨χ, l'⟩, h2, _, rfl⟩ := hx
        simp [ih l' χ h2]
    have hvl : vs.length ≠ 1 := by rw [← hr.length, hll rs l ψ hl]; exact hlen
    refine ⟨.tuple vs.toArray, ?_, vs, rfl, hr.monoMem fun x v hx hv => RepW_of_RepV (List.all_eq_true.1 hall x hx) hv⟩
    simp only [List.mapM_toArray, Sem.run_bind, Sem.run_map, hvs, Result.andThen_ok, Sem.run_pure]
    rw [dif_neg (by simpa using hvl)]

/-! ### contracts -/
/-- the blocks of the named ones -/
def fpOf (γ : Gh) (hp : List XB) : Nat → Prop := fun k => ∃ b xb, hp[b]? = some xb ∧ solid γ b xb ∧ γ.blk b = k
def cxM (P : Program) (w : World) (ro : Nat → Prop) (γ : Gh) (hp : List XB) (kd : List Nat) : Cx := ⟨P, w, fpOf γ hp, ro, hp.length, fun b => b < hp.length ∧ b ∉ kd, γ⟩
def Enters (P : Program) (f : FuncId) : Prop := ∃ fn, P.funcs[f]? = some fn ∧ fn.body.isNone = false ∧ (fn.name == "runtime.NumGoroutine") = false
/-- Called with what xs say, over the named blocks hp: it returns; nothing else that was there has changed; what it returns, and the named blocks then (those of the entry first; names in kd may have moved), are as 'post' says. -/
def Con (P : Program) (f : FuncId) (hp : List XB) (kd : List Nat) (xs : List XV) (post : XV → List XB → Prop) : Prop :=
  Enters P f ∧ ∀ (w : World) (ro : Nat → Prop) (γ : Gh) (vs : List Value), Inv (cxM P w ro γ hp kd) γ w hp → All2 (RepV γ w) xs vs →
    Calls P f vs.toArray w fun e w' => ∃ v x hp' γ', e = .returned v ∧ post x hp' ∧ Inv (cxM P w ro γ hp kd) γ' w' hp' ∧ RepV γ' w' x v ∧ x.upTo hp'.length
/-- a contract without named blocks -/
abbrev Spec (P : Program) (f : FuncId) (xs : List XV) (post : XV → List XB → Prop) : Prop := Con P f [] [] xs post

/-- A body's state at its entry: the arguments, and nothing else. -/
def st0 (xs : List XV) (n : Nat) (hp : List XB) : St := ⟨xs ++ List.replicate (n - xs.length) .any, hp⟩
/-- names turned: name j becomes sel[j] -/
def XC.ren (sel : List Nat) : XC → XC
  | .d x => .d x
  | .ptr b k i o => .ptr (sel.getD b 0) k i o
  | .slc b k i n => .slc (sel.getD b 0) k i n
  | .clo f bs => .clo f (bs.map fun b => sel.getD b 0)
  | .cond φ x => .cond φ (x.ren sel)
def XV.renW (sel : List Nat) : XV → XV
  | .any => .any
  | .c x => .c (x.ren sel)
  | .agg l => .agg (l.map (XC.ren sel))
  | .tup l => .tup l
def XV.ren (sel : List Nat) : XV → XV
  | .tup l => .tup (l.map (XV.renW sel))
  | x => x.renW sel
def XB.ren (sel : List Nat) : XB → XB
  | .box l T => .box (l.map (XC.ren sel)) T
  | x => x
def Gh.sel (γ : Gh) (sel : List Nat) : Gh := ⟨fun j => γ.blk (sel.getD j 0), fun j => γ.off (sel.getD j 0), fun j => γ.cap (sel.getD j 0), γ.ro⟩
theorem RepC.ren {γ : Gh} {w : World} {sel : List Nat} : ∀ (x : XC) (v : Value), RepC γ w (x.ren sel) v ↔ RepC (γ.sel sel) w x v := by
  intro x
  induction x with
  | d x => exact fun v => Iff.rfl
  | ptr b k i o => exact fun v => Iff.rfl
  | slc b k i n => exact fun v => Iff.rfl
  | clo f bs => intro v; simp only [XC.ren, RepC, List.map_map]; exact Iff.rfl
  | cond φ x ih => intro v; simp only [XC.ren, RepC, ih]
theorem All2.renL {γ : Gh} {w : World} {sel : List Nat} : ∀ (l : List XC) (vs : List Value), All2 (RepC γ w) (l.map (XC.ren sel)) vs → All2 (RepC (γ.sel sel) w) l vs := by
  intro l
  induction l with
  | nil => intro vs h; cases h; exact .nil
  | cons c l ih => intro vs h; cases h with | cons h1 h2 => exact .cons ((RepC.ren c _).1 h1) (ih _ h2)
theorem RepW.ren {γ : Gh} {w : World} {sel : List Nat} (x : XV) (v : Value) (h : RepW γ w (x.renW sel) v) : RepW (γ.sel sel) w x v := by
  cases x with
  | any => trivial
  | c x => exact (RepC.ren x v).1 h
  | agg l => obtain ⟨vs, hv, hl⟩ := h; exact ⟨vs, hv, All2.renL l vs hl⟩
  | tup l => exact h
theorem All2.renWL {γ : Gh} {w : World} {sel : List Nat} : ∀ (l : List XV) (vs : List Value), All2 (RepW γ w) (l.map (XV.renW sel)) vs → All2 (RepW (γ.sel sel) w) l vs := by
  intro l
  induction l with
  | nil => intro vs h; cases h; exact .nil
  | cons c l ih => intro vs h; cases h with | cons h1 h2 => exact .cons (RepW.ren c _ h1) (ih _ h2)
theorem RepV.ren {γ : Gh} {w : World} {sel : List Nat} (x : XV) (v : Value) (h : RepV γ w (x.ren sel) v) : RepV (γ.sel sel) w x v := by
  cases x with
  | tup l => obtain ⟨vs, hv, hl⟩ := h; exact ⟨vs, hv, All2.renWL l vs hl⟩
  | any => trivial
  | c x => exact RepW.ren (.c x) v h
  | agg l => exact RepW.ren (.agg l) v h
def scH (hp : List XB) : Prop := ∀ (b : Nat) (l : List XC) (T : TypeId), hp[b]? = some (XB.box l T) → ∀ x, x ∈ l → XC.upTo hp.length x
theorem inv_sel {X : Cx} {γ : Gh} {w : World} {hp hp1 : List XB} {sel : List Nat} (hI : Inv X γ w hp) (hsel : hp1.map (XB.ren sel) = sel.map fun b => hp.getD b .dead) (hnd : sel.Nodup) (hs : scH hp1) (hn : X.n0 ≤ sel.length) (hk : ∀ b, X.kn b → sel.getD b 0 = b) : Inv X (γ.sel sel) w hp1 := by
  have look : ∀ j xb, hp1[j]? = some xb → ∃ b, sel[j]? = some b ∧ sel.getD j 0 = b ∧ hp.getD b .dead = xb.ren sel := by
    intro j xb hj
    have h1 : (hp1.map (XB.ren sel))[j]? = some (xb.ren sel) := by rw [List.getElem?_map, hj]; rfl
    rw [hsel, List.getElem?_map, Option.map_eq_some_iff] at h1
    obtain ⟨b, hb, he⟩ := h1
    exact ⟨b, hb, by rw [List.getD_eq_getElem?_getD, hb]; rfl, he⟩
  have solid_ren : ∀ j xb, solid (γ.sel sel) j xb → solid γ (sel.getD j 0) (xb.ren sel) := fun j xb h => by cases xb <;> exact h
  have live : ∀ b xb, hp.getD b .dead = xb → solid γ b xb → hp[b]? = some xb := by
    intro b xb hb hs
    rw [List.getD_eq_getElem?_getD] at hb
    cases hg : hp[b]? with
    | none => rw [hg] at hb; simp only [Option.getD_none] at hb; subst hb; exact hs.elim
    | some y => rw [hg] at hb; simp only [Option.getD_some] at hb; rw [hb]
  refine ⟨fun j xb hj => ?_, fun j j' y y' h1 h2 s1 s2 he => ?_, fun j xb hj hso => ?_, hI.ro, hI.ro0, hI.roX, hs, hI.keep, by have := congrArg List.length hsel; simp at this; omega, hI.kl, fun b hb => ?_⟩
  · obtain ⟨b, hb, hb0, he⟩ := look j xb hj
    cases xb with
    | dead => trivial
    | box l T =>
      have hgood := hI.good b _ (live b _ he trivial)
      obtain ⟨h0, h1, vs, hvs, hl⟩ := hgood
      refine ⟨by show γ.off (sel.getD j 0) = 0; rw [hb0]; exact h0, by show γ.cap (sel.getD j 0) = 1; rw [hb0]; exact h1, vs, by show w.heap[γ.blk (sel.getD j 0)]? = _; rw [hb0]; exact hvs, All2.renL l vs hl⟩
    | ob o =>
      have hgood := hI.good b _ (live b _ he trivial)
      obtain ⟨h0, h1, hv⟩ := hgood
      exact ⟨by show γ.off (sel.getD j 0) = 0; rw [hb0]; exact h0, by show γ.cap (sel.getD j 0) = 1; rw [hb0]; exact h1, by show w.heap[γ.blk (sel.getD j 0)]? = _; rw [hb0]; exact hv⟩
    | row k n g T =>
      by_cases hc : γ.cap b = 0
      · rw [List.getD_eq_getElem?_getD] at he
        cases hg : hp[b]? with
        | none => rw [hg] at he; simp [XB.ren] at he
        | some y =>
          rw [hg] at he
          simp only [Option.getD_some] at he
          subst he
          have hgood := hI.good b _ hg
          refine ⟨by show n ≤ γ.cap (sel.getD j 0); rw [hb0]; exact hgood.1, .inl (by show γ.cap (sel.getD j 0) = 0; rw [hb0]; exact hc)⟩
      · have hgood := hI.good b _ (live b _ he (Nat.pos_of_ne_zero hc))
        show _ ≤ γ.cap (sel.getD j 0) ∧ (γ.cap (sel.getD j 0) = 0 ∨ _)
        show n ≤ γ.cap (sel.getD j 0) ∧ (γ.cap (sel.getD j 0) = 0 ∨ ∃ (arr : Array Value) (fz : Nat × Nat), w.heap[γ.blk (sel.getD j 0)]? = some (.cells arr T fz) ∧ (∀ o, o < arr.size → ¬ (fz.1 ≤ o ∧ o < fz.2)) ∧
          γ.off (sel.getD j 0) + γ.cap (sel.getD j 0) * k ≤ arr.size ∧ (∀ o, o < arr.size → ∃ u, arr[o]? = some u ∧ one u = true) ∧
          ∀ i, i < n → ∀ c, c < k → ∃ u, arr[γ.off (sel.getD j 0) + (i * k + c)]? = some u ∧ RepD γ.ro w (g i c) u)
        rw [hb0]
        exact hgood
  · obtain ⟨b, hb, hb0, he1⟩ := look j y h1
    obtain ⟨b', hb', hb0', he2⟩ := look j' y' h2
    have s1' := solid_ren j y s1
    have s2' := solid_ren j' y' s2
    rw [hb0] at s1'
    rw [hb0'] at s2'
    have he' : γ.blk b = γ.blk b' := by rw [← hb0, ← hb0']; exact he
    have := hI.inj b b' _ _ (live b _ he1 s1') (live b' _ he2 s2') s1' s2' he'
    subst this
    exact (List.getElem?_inj (List.getElem?_eq_some_iff.1 hb).1 hnd).1 (hb.trans hb'.symm)
  · obtain ⟨b, hb, hb0, he⟩ := look j xb hj
    have hs' := solid_ren j xb hso
    rw [hb0] at hs'
    have := hI.own b _ (live b _ he hs') hs'
    show γ.blk (sel.getD j 0) < w.heap.size ∧ ¬ γ.ro (γ.blk (sel.getD j 0)) ∧ (X.w0.heap.size ≤ γ.blk (sel.getD j 0) ∨ X.fp (γ.blk (sel.getD j 0)))
    rw [hb0]
    exact this
  · show γ.blk (sel.getD b 0) = _ ∧ γ.off (sel.getD b 0) = _ ∧ γ.cap (sel.getD b 0) = _
    rw [hk b hb]
    exact hI.nm b hb

/-- The end of a body: the results, and the new blocks that they speak of, are what 'post' asks. -/
def retK (P : Program) (n0 : Nat) (kd : List Nat) (rs : List ResultVar) (post : XV → List XB → Prop) (st : St) : Prop :=
  ∃ φ x y sel hp1, resX P rs st = some (φ, x) ∧ φ ∧ (∀ l, x = .tup l → rs.length ≠ 1 → l.all notTup = true) ∧ y.ren sel = x ∧ hp1.map (XB.ren sel) = (sel.map fun b => st.hp.getD b .dead) ∧ sel.Nodup ∧ scH hp1 ∧ y.upTo hp1.length ∧
    (n0 ≤ sel.length ∧ ∀ b, b < n0 → b ∉ kd → sel.getD b 0 = b) ∧ post y hp1
theorem all2_any {γ : Gh} {w : World} (n : Nat) : All2 (RepV γ w) (List.replicate n .any) (List.replicate n undef) := by
  induction n with
  | zero => exact .nil
  | succ n ih => exact .cons trivial ih

theorem con_intro {P : Program} {f : FuncId} {fn : Func} {c : Code} {hp : List XB} {kd : List Nat} {xs : List XV} {post : XV → List XB → Prop} {rs : List ResultVar} (hf : P.funcs[f]? = some fn) (hb : fn.body = some c) (hrs : fn.results = rs.toArray) (hnm : (fn.name == "runtime.NumGoroutine") = false) (hx : ∀ x, x ∈ xs → x.upTo hp.length)
    (h : ∀ w ro γ, SX (cxM P w ro γ hp kd) c ⟨retK P hp.length kd rs post, retK P hp.length kd rs post, fun _ _ => False⟩ (st0 xs fn.ntmps hp)) : Con P f hp kd xs post := by
  refine ⟨⟨fn, hf, by rw [hb]; rfl, hnm⟩, ?_⟩
  intro w ro γ0 vs hI0 hvs
  refine calls_of_wp hf hb ?_
  have hst : Rr (cxM P w ro γ0 hp kd) (st0 xs fn.ntmps hp) { tmps := vs.toArray ++ Array.replicate (fn.ntmps - vs.toArray.size) undef, defers := [] } w := by
    refine ⟨γ0, hI0, rfl, ⟨vs ++ List.replicate (fn.ntmps - xs.length) undef, ?_, hvs.append (all2_any _)⟩, ?_⟩
    · have := hvs.length
      apply Array.toList_inj.1
      simp [this]
    · intro x hm
      rcases List.mem_append.1 hm with h1 | h1
      · exact hx x h1
      · rw [(List.mem_replicate.1 h1).2]; trivial
  have fin : ∀ {a' : Act} {w' : World}, (∃ st, Rr (cxM P w ro γ0 hp kd) st a' w' ∧ retK P hp.length kd rs post st) → a'.defers = [] ∧ ∃ v, (results fn a'.tmps).run P w' = .ok v w' ∧
      (fun e w' => ∃ v x hp' γ', e = Ending.returned v ∧ post x hp' ∧ Inv (cxM P w ro γ0 hp kd) γ' w' hp' ∧ RepV γ' w' x v ∧ x.upTo hp'.length) (Ending.returned v) w' := by
    rintro a' w' ⟨st, ⟨γ, hr⟩, φ, x, y, sel, hp1, hres, hφ, ht, rfl, hsel, hnd, hs1, hsc, ⟨hn, hk⟩, hpost⟩
    obtain ⟨v, hv, hrv⟩ := resX_sound hr hrs hres hφ ht
    exact ⟨hr.df, v, hv, v, y, hp1, γ.sel sel, rfl, hpost, inv_sel hr.inv hsel hnd hs1 hn (fun b hb => hk b hb.1 hb.2), RepV.ren y v hrv, hsc⟩
  refine Code.wp_mono ?_ (h w ro γ0 _ _ hst)
  intro e a' w' hq
  cases e with
  | normal => exact fin hq
  | ret => exact fin hq
  | exit id => obtain ⟨_, _, h⟩ := hq; exact h.elim
  | goto l => exact hq.elim
  | panic c => exact hq.elim
  | outgrown => exact hq.elim
end Go.SX
