/- SX: lists of operations; code; loops. Own work. -/
import Derived.Test.YtpaklnjfcjcdaaaDoorSX8
namespace Go.SX
set_option linter.unusedVariables false
set_option linter.unusedSimpArgs false

def frPut (fr : List XV) : Option Tmp → XV → List XV
  | none, _ => fr
  | some d, x => fr.set d x

theorem evX_upTo {fr : List XV} {n : Nat} (h : ∀ x, x ∈ fr → x.upTo n) (x : Operand) : (evX fr x).upTo n := by
  cases x with
  | tmp t =>
    simp only [evX, List.getD_eq_getElem?_getD]
    cases hg : fr[t]? with
    | none => trivial
    | some x => exact h x (List.mem_of_getElem? hg)
  | const v => trivial
  | func f => exact fun b hb => by simp at hb
  | global g => trivial

/-- The frame and the names outlast a step, and the step's value is laid in its slot. -/
theorem rg_step {X : Cx} {γ γ' : Gh} {st : St} {a : Act} {w w' : World} {hp' : List XB} {y : XV} {v : Value} {dst : Option Tmp} (h : Rg X γ st a w) (hI : Inv X γ' w' hp') (hy : RepV γ' w' y v) (hext : γ.Ext γ' [st.hp.length])
    (hro : ∀ b, γ.ro b → w'.heap[b]? = w.heap[b]?) (hsc : y.upTo hp'.length) (hlen : st.hp.length ≤ hp'.length) : Rg X γ' ⟨frPut st.fr dst y, hp'⟩ (a.put dst v) w' := by
  obtain ⟨vs, hvs, hf⟩ := h.fr
  have hf' : All2 (RepV γ' w') st.fr vs := hf.monoMem fun x u hx => RepV.mono hext hro x u (XV.free_of_upTo (n := st.hp.length) (by simp) x (h.sc x hx))
  refine ⟨hI, ?_, ?_, ?_⟩
  · cases dst <;> exact h.df
  · cases dst with
    | none => exact ⟨vs, hvs, hf'⟩
    | some d => exact ⟨vs.set d v, by simp [Act.put, hvs], hf'.set hy d⟩
  · intro x hx
    cases dst with
    | none => exact XV.upTo_mono hlen x (h.sc x hx)
    | some d =>
      rcases List.mem_or_eq_of_mem_set hx with h1 | rfl
      · exact XV.upTo_mono hlen x (h.sc x h1)
      · exact hsc

theorem rg_ev {X : Cx} {γ : Gh} {st : St} {a : Act} {w : World} (h : Rg X γ st a w) (x : Operand) : RepV γ w (evX st.fr x) (a.eval x) := by
  obtain ⟨vs, hvs, hf⟩ := h.fr
  exact evX_sound hvs hf x

def Qn (X : Cx) (N : St → Prop) : Exit → Act → World → Prop
  | .normal, a, w => ∃ st, Rr X st a w ∧ N st
  | _, _, _ => False
def SXo (X : Cx) (all : Array Oper) (l : List Oper) (N : St → Prop) (st : St) : Prop := ∀ a w, Rr X st a w → wpList X.P all (Qn X N) l a w
theorem sxo_nil {X : Cx} {all : Array Oper} {N : St → Prop} {st : St} (h : N st) : SXo X all [] N st := fun a w hr => ⟨st, hr, h⟩

theorem eff_of_fop {X : Cx} {γ : Gh} {w : World} {hp : List XB} {ev : Operand → XV} {a : Act} {o : Oper} {y : XV} {φ : Prop} (hI : Inv X γ w hp) (hev : ∀ x, RepV γ w (ev x) (a.eval x)) (hsc : ∀ x, (ev x).upTo hp.length)
    (h : fop X.P ev hp o.op = some (φ, y)) (hφ : φ) : Eff X γ w hp a o y hp := by
  obtain ⟨v, hv, hr⟩ := fop_sound hI hev h hφ
  exact ⟨_, v, w, γ, hv, .inl rfl, hI, hr, Gh.Ext.refl _ _, fun _ _ => rfl, fop_upTo hI hsc h, Nat.le_refl _, Gh.Ext.refl _ _⟩

/-- One operation, whatever its effect: what follows is walked in the state that it leaves. -/
theorem upon_eff {X : Cx} {γ : Gh} {st : St} {a : Act} {w : World} {o : Oper} {y : XV} {hp' : List XB} {K : Act → World → Prop} {Q : Exit → Act → World → Prop} (h : Rg X γ st a w) (he : Eff X γ w st.hp a o y hp')
    (hK : ∀ a' w', Rr X ⟨frPut st.fr o.dst y, hp'⟩ a' w' → K a' w') : o.wp X.P a w K Q := by
  obtain ⟨n, v, w', γ', hrun, hn, hI, hy, hext, hro, hsc, hlen, _⟩ := he.ex
  have := hK (a.put o.dst v) w' ⟨γ', rg_step h hI hy hext hro hsc hlen⟩
  unfold Oper.wp
  rw [hrun]
  rcases hn with rfl | ⟨rfl, rfl⟩
  · exact this
  · exact this
theorem sxo_eff {X : Cx} {all : Array Oper} {o : Oper} {rest : List Oper} {N : St → Prop} {st : St} {y : XV} {hp' : List XB} (hg : o.guard = none) (he : ∀ γ a w, Rg X γ st a w → Eff X γ w st.hp a o y hp')
    (h : SXo X all rest N ⟨frPut st.fr o.dst y, hp'⟩) : SXo X all (o :: rest) N st := by
  rintro a w ⟨γ, hr⟩
  exact wpList_plain hg fun K hK => upon_eff hr (he γ a w hr) fun a' w' hr' => hK a' w' (h a' w' hr')

/-! ### guards -/
def gcond (fr : List XV) (d : Option Tmp) (want : Bool) : Option Prop :=
  match d with
  | none => none
  | some t =>
    match fr.getD t .any with
    | .c (.d (.val (.bool b))) => some (b = want)
    | .c (.cond ψ (.d (.val (.bool b)))) => some (ψ ∧ b = want)
    | _ => none
theorem gcond_sound {X : Cx} {γ : Gh} {st : St} {a : Act} {w : World} {all : Array Oper} {o : Oper} {j : Nat} {want : Bool} {A : Prop} (h : Rg X γ st a w) (hg : o.guard = some (j, want)) (hA : gcond st.fr ((all[j]?).bind (·.dst)) want = some A) :
    Region.wanted o (yielded all a.tmps) = true ↔ A := by
  obtain ⟨vs, hvs, hf⟩ := h.fr
  unfold gcond at hA
  simp only [Region.wanted, hg, yielded]
  split at hA
  · simp at hA
  · rename_i t ht
    rw [ht]
    have key : ∀ x, st.fr.getD t .any = x → x ≠ .any → ∃ v, a.tmps[t]? = some v ∧ RepV γ w x v := by
      intro x hx hne
      rw [List.getD_eq_getElem?_getD] at hx
      cases hg : st.fr[t]? with
      | none => rw [hg] at hx; exact absurd hx.symm hne
      | some y =>
        rw [hg] at hx
        simp only [Option.getD_some] at hx
        subst hx
        obtain ⟨v, hv, hr⟩ := hf.get t y hg
        exact ⟨v, by rw [hvs]; simpa using hv, hr⟩
    split at hA
    · rename_i b hb
      simp only [Option.some.injEq] at hA
      subst hA
      obtain ⟨v, hv, hr⟩ := key _ hb (by simp)
      rw [show v = .bool b from hr] at hv
      simp [hv]
    · rename_i ψ b hb
      simp only [Option.some.injEq] at hA
      subst hA
      obtain ⟨v, hv, hr⟩ := key _ hb (by simp)
      by_cases hψ : ψ
      · rw [show v = .bool b from hr.1 hψ] at hv
        simp [hv, hψ]
      · rw [show v = undef from hr.2 hψ] at hv
        simp [hv, hψ, undef]
    · simp at hA

def condX (A : Prop) : XC → XC
  | .cond B z => .cond (A ∧ B) z
  | z => .cond A z
theorem condX_sound {γ : Gh} {w : World} {A : Prop} {y : XC} {v : Value} (h : A → RepC γ w y v) (h' : ¬ A → v = undef) : RepC γ w (condX A y) v := by
  unfold condX
  split
  · rename_i B z
    refine ⟨fun hab => (h hab.1).1 hab.2, fun hab => ?_⟩
    by_cases hA : A
    · exact (h hA).2 fun hb => hab ⟨hA, hb⟩
    · exact h' hA
  · exact ⟨h, h'⟩
theorem condX_upTo {A : Prop} {y : XC} {n : Nat} (h : y.upTo n) : (condX A y).upTo n := by
  unfold condX
  split <;> exact h

/-! ### the walk through a list of operations -/
def stepO (X : Cx) (all : Array Oper) (o : Oper) (rest : List Oper) (st : St) (N : St → Prop) (k : XV → List XB → Prop) : Prop :=
  match fop X.P (evX st.fr) st.hp o.op with
  | some (φ, y) => φ ∧ k y st.hp
  | none =>
    match gop X.P (evX st.fr) st.hp o.op with
    | some (φ, y, hp') => φ ∧ k y hp'
    | none => SXo X all ({ o with guard := none } :: rest) N st

def RO (X : Cx) (all : Array Oper) : List Oper → (St → Prop) → St → Prop
  | [], N, st => N st
  | o :: rest, N, st =>
    match o.guard with
    | none => stepO X all o rest st N fun y hp' => RO X all rest N ⟨frPut st.fr o.dst y, hp'⟩
    | some g =>
      match gcond st.fr ((all[g.1]?).bind (·.dst)) g.2 with
      | none => False
      | some A =>
        match fop X.P (evX st.fr) st.hp o.op with
        | some (φ, .c y) => (A → φ) ∧ RO X all rest N ⟨frPut st.fr o.dst (.c (condX A y)), st.hp⟩
        | _ => (A → stepO X all o rest st N fun y hp' => RO X all rest N ⟨frPut st.fr o.dst y, hp'⟩) ∧ (¬ A → RO X all rest N ⟨frPut st.fr o.dst .any, st.hp⟩)

theorem wanted_none (o : Oper) (f : Nat → Option Bool) : Region.wanted { o with guard := none } f = true := rfl
theorem wpList_unguard {P : Program} {all : Array Oper} {Q : Exit → Act → World → Prop} {o : Oper} {rest : List Oper} {a : Act} {w : World} (hw : Region.wanted o (yielded all a.tmps) = true)
    (h : wpList P all Q ({ o with guard := none } :: rest) a w) : wpList P all Q (o :: rest) a w := by
  simp only [wpList, hw, if_true, wanted_none] at h ⊢
  exact h
theorem stepO_sound {X : Cx} {all : Array Oper} {o : Oper} {rest : List Oper} {st : St} {N : St → Prop} {k : XV → List XB → Prop} (hk : ∀ y hp', k y hp' → SXo X all rest N ⟨frPut st.fr o.dst y, hp'⟩)
    (h : stepO X all o rest st N k) : SXo X all ({ o with guard := none } :: rest) N st := by
  unfold stepO at h
  split at h
  · rename_i φ y hf
    exact sxo_eff rfl (fun γ a w hr => eff_of_fop (o := { o with guard := none }) hr.inv (rg_ev hr) (evX_upTo hr.sc) hf h.1) (hk _ _ h.2)
  · split at h
    · rename_i φ y hp' hg
      exact sxo_eff rfl (fun γ a w hr => gop_sound (o := { o with guard := none }) hr.inv (rg_ev hr) (evX_upTo hr.sc) hg h.1) (hk _ _ h.2)
    · exact h
theorem rg_skip {X : Cx} {γ : Gh} {st : St} {a : Act} {w : World} {dst : Option Tmp} {y : XV} (h : Rg X γ st a w) (hy : RepV γ w y undef) (hsc : y.upTo st.hp.length) : Rg X γ ⟨frPut st.fr dst y, st.hp⟩ (a.put dst undef) w :=
  rg_step h h.inv hy (Gh.Ext.refl _ _) (fun _ _ => rfl) hsc (Nat.le_refl _)
theorem RO_sound {X : Cx} {all : Array Oper} : ∀ (l : List Oper) (N : St → Prop) (st : St), RO X all l N st → SXo X all l N st := by
  intro l
  induction l with
  | nil => intro N st h; exact sxo_nil h
  | cons o rest ih =>
    intro N st h
    unfold RO at h
    split at h
    · rename_i hg
      have := stepO_sound (fun y hp' hk => ih N _ hk) h
      intro a w hr
      exact wpList_unguard (by simp [Region.wanted, hg]) (this a w hr)
    · rename_i g hg
      obtain ⟨j, want⟩ := g
      split at h
      · exact h.elim
      · rename_i A hA
        split at h
        · rename_i φ y hf
          rintro a w ⟨γ, hr⟩
          have hwA := gcond_sound (all := all) hr hg hA
          by_cases hw : Region.wanted o (yielded all a.tmps) = true
          · refine wpList_unguard hw (wpList_plain rfl fun K hK => ?_)
            obtain ⟨v, hv, hry⟩ := fop_sound hr.inv (rg_ev hr) hf (h.1 (hwA.1 hw))
            have hnew : Rg X γ ⟨frPut st.fr o.dst (.c (condX A y)), st.hp⟩ (a.put o.dst v) w :=
              rg_step hr hr.inv (show RepC γ w (condX A y) v from condX_sound (fun _ => hry) (fun hn => absurd (hwA.1 hw) hn)) (Gh.Ext.refl _ _) (fun _ _ => rfl) (condX_upTo (fop_upTo hr.inv (evX_upTo hr.sc) hf)) (Nat.le_refl _)
            have := hK _ _ (ih N _ h.2 _ _ ⟨γ, hnew⟩)
            unfold Oper.wp
            have hv' : (execOp a.eval { o with guard := none }).run X.P w = .ok (.value v) w := hv
            rw [hv']
            exact this
          · have hw' : Region.wanted o (yielded all a.tmps) = false := by simpa using hw
            simp only [wpList, hw', Bool.false_eq_true, if_false]
            refine ih N _ h.2 _ _ ⟨γ, rg_skip hr (show RepC γ w (condX A y) undef from condX_sound (fun hA => absurd (hwA.2 hA) hw) (fun _ => rfl)) (condX_upTo (fop_upTo hr.inv (evX_upTo hr.sc) hf))⟩
        · have hs : A → SXo X all ({ o with guard := none } :: rest) N st := fun hAA => stepO_sound (fun y hp' hk => ih N _ hk) (h.1 hAA)
          rintro a w ⟨γ, hr⟩
          have hwA := gcond_sound (all := all) hr hg hA
          by_cases hw : Region.wanted o (yielded all a.tmps) = true
          · exact wpList_unguard hw (hs (hwA.1 hw) a w ⟨γ, hr⟩)
          · have hw' : Region.wanted o (yielded all a.tmps) = false := by simpa using hw
            simp only [wpList, hw', Bool.false_eq_true, if_false]
            exact ih N _ (h.2 fun hAA => hw (hwA.2 hAA)) _ _ ⟨γ, rg_skip hr trivial trivial⟩

/-! ### code -/
structure KX where
  nrm : St → Prop
  ret : St → Prop
  ext : Nat → St → Prop
def KX.post (X : Cx) (K : KX) : Exit → Act → World → Prop
  | .normal, a, w => ∃ st, Rr X st a w ∧ K.nrm st
  | .ret, a, w => ∃ st, Rr X st a w ∧ K.ret st
  | .exit id, a, w => ∃ st, Rr X st a w ∧ K.ext id st
  | _, _, _ => False
def SX (X : Cx) (c : Code) (K : KX) (st : St) : Prop := ∀ a w, Rr X st a w → c.wp X.P (K.post X) a w

theorem sx_skip {X : Cx} {K : KX} {st : St} (h : K.nrm st) : SX X .skip K st := fun a w hr => wp_skip ⟨st, hr, h⟩
theorem sx_ret {X : Cx} {K : KX} {st : St} (h : K.ret st) : SX X .ret K st := fun a w hr => wp_ret ⟨st, hr, h⟩
theorem sx_exit {X : Cx} {K : KX} {st : St} {id : Nat} (h : K.ext id st) : SX X (.exit id) K st := fun a w hr => wp_exit ⟨st, hr, h⟩
theorem sx_seq {X : Cx} {K : KX} {st : St} {c d : Code} (h : SX X c ⟨fun st => SX X d K st, K.ret, K.ext⟩ st) : SX X (.seq c d) K st := by
  intro a w hr
  refine wp_seq (wp_mono (h a w hr) ?_)
  intro e a' w' hq
  cases e with
  | normal => obtain ⟨st', hr', hk⟩ := hq; exact hk a' w' hr'
  | ret => exact hq
  | exit id => exact hq
  | goto l => exact hq
  | panic c => exact hq
  | outgrown => exact hq
theorem sx_block {X : Cx} {K : KX} {st : St} {id : Nat} {c : Code} (h : SX X c ⟨K.nrm, K.ret, fun i st => if i = id then K.nrm st else K.ext i st⟩ st) : SX X (.block id c) K st := by
  intro a w hr
  refine wp_block (wp_mono (h a w hr) ?_)
  intro e a' w' hq
  cases e with
  | normal => exact hq
  | ret => exact hq
  | exit i =>
    obtain ⟨st', hr', hk⟩ := hq
    simp only [Exit.inBlock]
    by_cases hi : i = id
    · subst hi
      simp only [if_true] at hk ⊢
      exact ⟨st', hr', hk⟩
    · simp only [if_neg hi] at hk ⊢
      exact ⟨st', hr', hk⟩
  | goto l => exact hq
  | panic c => exact hq
  | outgrown => exact hq
theorem sx_cond {X : Cx} {K : KX} {st : St} {c : Operand} {x y : Code} {b : Bool} (hc : evX st.fr c = .c (.d (.val (.bool b)))) (ht : b = true → SX X x K st) (hf : b = false → SX X y K st) : SX X (.cond c x y) K st := by
  rintro a w ⟨γ, hr⟩
  have h := rg_ev hr c
  rw [hc] at h
  exact wp_cond_split (show a.eval c = .bool b from h) (fun hb => ht hb a w ⟨γ, hr⟩) (fun hb => hf hb a w ⟨γ, hr⟩)
theorem sx_region {X : Cx} {K : KX} {st : St} {id : Nat} {ops : Array Oper} (h : RO X ops ops.toList K.nrm st) : SX X (.region id ops false) K st := by
  intro a w hr
  refine wp_mono (wp_region_list (RO_sound _ _ _ h a w hr)) ?_
  intro e a' w' hq
  cases e with
  | normal => exact hq
  | _ => exact hq.elim

/-! ### weaker states; loops -/
def Wk (X : Cx) (st st' : St) : Prop := ∀ a w, Rr X st a w → Rr X st' a w
theorem Wk.refl (X : Cx) (st : St) : Wk X st st := fun _ _ h => h
theorem sx_weaken {X : Cx} {c : Code} {K : KX} {st st' : St} (h : Wk X st st') (h' : SX X c K st') : SX X c K st := fun a w hr => h' a w (h a w hr)
/-- x says at most what y says -/
def xle (y x : XV) : Prop := x = .any ∨ y = x
def scSt (st : St) : Prop := (∀ x, x ∈ st.fr → x.upTo st.hp.length) ∧ ∀ (b : Nat) (l : List XC) (T : TypeId), st.hp[b]? = some (XB.box l T) → ∀ x, x ∈ l → XC.upTo st.hp.length x
theorem wk_intro {X : Cx} {st st' : St} (hf : All2 xle st.fr st'.fr) (hp : st'.hp <+: st.hp) (hs : scSt st') (hn : X.n0 ≤ st'.hp.length) : Wk X st st' := by
  rintro a w ⟨γ, hr⟩
  obtain ⟨r, hr'⟩ := hp
  have look : ∀ (b : Nat) xb, st'.hp[b]? = some xb → st.hp[b]? = some xb := fun b xb hb => by
    rw [← hr', List.getElem?_append_left (List.getElem?_eq_some_iff.1 hb).1]; exact hb
  obtain ⟨vs, hvs, hl⟩ := hr.fr
  refine ⟨γ, ⟨fun b xb hb => hr.inv.good b xb (look b xb hb), fun b b' y y' h1 h2 => hr.inv.inj b b' y y' (look _ _ h1) (look _ _ h2), fun b y h1 => hr.inv.own b y (look _ _ h1), hr.inv.ro, hr.inv.ro0, hr.inv.roX, hs.2, hr.inv.keep, hn, hr.inv.kl, hr.inv.nm⟩, hr.df, ⟨vs, hvs, ?_⟩, hs.1⟩
  clear hs hr' look hvs
  generalize st'.fr = f' at *
  generalize st.fr = f at *
  induction hf generalizing vs with
  | nil => exact hl
  | cons h _ ih =>
    cases hl with
    | cons h1 h2 =>
      refine .cons ?_ (ih _ h2)
      rcases h with rfl | rfl
      · trivial
      · exact h1

theorem sx_loop {X : Cx} {α : Type} {K : KX} {st : St} {c : Code} (S : α → St) (I : α → Prop) (m : α → Nat) (x0 : α) (h0 : I x0) (e0 : Wk X st (S x0))
    (round : ∀ x, I x → SX X c ⟨fun st' => ∃ y, I y ∧ m y < m x ∧ Wk X st' (S y), K.ret, K.ext⟩ (S x)) : SX X (.loop c) K st := by
  intro a w hr
  refine wp_loop_ghost (fun n a w => ∃ x, I x ∧ m x = n ∧ Rr X (S x) a w) (m x0) ⟨x0, h0, rfl, e0 a w hr⟩ ?_
  rintro n a w ⟨x, hx, rfl, hrx⟩
  refine wp_mono (round x hx a w hrx) ?_
  intro e a' w' hq
  cases e with
  | normal =>
    obtain ⟨st', hr', y, hy, hm, hwk⟩ := hq
    exact ⟨m y, hm, y, hy, rfl, hwk a' w' hr'⟩
  | ret => exact hq
  | exit id => exact hq
  | goto l => exact hq
  | panic c => exact hq
  | outgrown => exact hq
end Go.SX
