/- SX: an operation by its effect, in a walk. Own work. -/
import Derived.Test.YtpaklnjfcjcdaaaDoorSX12
namespace Go.SX
set_option linter.unusedVariables false
set_option linter.unusedSimpArgs false

/-- An operation by its effect. -/
theorem ev_eff {X : Cx} {Q : KX} {o : Oper} {k : List It} {st : St} {R : XV → List XB → List Nat → Prop} (he : EffK X (evX st.fr) st.hp o R)
    (h : ∀ y hp' S, R y hp' S → SC X Q 400 k ⟨frPut (killF S st.fr) o.dst y, hp'⟩) : EvOp X Q o k st :=
  ⟨R, he, fun y hp' S hR => SC_sound 400 k _ (h y hp' S hR)⟩

/-! ### drawn regions -/
theorem oper_wp_post {P : Program} {o : Oper} {a : Act} {w : World} {K : Act → World → Prop} {Q Q' : Exit → Act → World → Prop} (hq : ∀ c a w, Q (.panic c) a w → Q' (.panic c) a w) (hl : LetsOut Q → LetsOut Q') (h : o.wp P a w K Q) : o.wp P a w K Q' := by
  unfold Oper.wp at h ⊢
  generalize (execOp a.eval o).run P w = r at h ⊢
  cases r with
  | ok n w' =>
    cases n <;> simp only [Oper.upon] at h ⊢
    case enter f args =>
      refine h.mono fun e w'' he => ?_
      cases e with
      | returned v => exact he
      | panicked c => exact hq _ _ _ he
      | outgrown => exact hl he
    all_goals exact h
  | halt x w' =>
    cases x <;> simp only [Oper.upon] at h ⊢
    case panic v => exact hq _ _ _ h
theorem wpAny_post {P : Program} {md : Region.Mode} {all : Array Oper} {Q Q' : Exit → Act → World → Prop} (hn : ∀ a w, Q .normal a w → Q' .normal a w) (hq : ∀ c a w, Q (.panic c) a w → Q' (.panic c) a w) (hl : LetsOut Q → LetsOut Q') :
    ∀ (fuel : Nat) (listed : Array Bool) (a : Act) (w : World), wpAny P md all Q fuel listed a w → wpAny P md all Q' fuel listed a w := by
  intro fuel
  induction fuel with
  | zero => intro listed a w h; exact ⟨h.1, hn _ _ h.2⟩
  | succ fuel ih =>
    intro listed a w h
    refine ⟨fun hr => hn _ _ (h.1 hr), fun i hi => ?_⟩
    have h1 := wpOp_mono (fun a w => ih _ a w) (h.2 i hi)
    unfold wpOp at h1 ⊢
    split
    · rename_i hno; rw [hno] at h1; exact h1
    · rename_i o ho
      rw [ho] at h1
      dsimp only at h1
      split
      · rename_i hw
        rw [if_pos hw] at h1
        exact h1.imp (oper_wp_post hq hl) (And.imp id hl)
      · rename_i hw
        rw [if_neg hw] at h1
        exact h1
def tabOf (ops : Array Oper) (sch : Tr) : List (Nat × List Nat) := ancs ops sch.idx []
theorem ev_drawT {X : Cx} {Q : KX} {id : Nat} {ops : Array Oper} {k : List It} {st : St} (sch : Tr) (fin : List Nat) (hm : X.P.follows .mixedOrders = true) (hc : (lookB ops (tabOf ops sch) && statB ops (tabOf ops sch) fin [] [] sch) = true)
    (h : ∀ T, SC X Q 400 (.dr ops T fin [] [] sch :: k) st) : EvC X Q (.region id ops true) k st := by
  rw [Bool.and_eq_true] at hc
  have hT : TabOk ops (tabOf ops sch) := ancs_ok _ _ (tabOk_nil ops)
  have hd : DS X ops (tabOf ops sch) fin [] [] sch (SK X Q k) st := SC_sound 400 _ _ (h _)
  have hd := hd ⟨hT, lookB_ok hc.1, trivial, fun i h => by simp at h, hc.2⟩
  rintro a w ⟨γ, hr⟩
  have hnone : ∀ i, ¬ isL (Array.replicate ops.size false) i := fun i h => by
    unfold isL at h
    rw [Array.getD_eq_getD_getElem?, Array.getElem?_replicate] at h
    split at h <;> simp at h
  refine wp_region_any hm (wpAny_post (Q := Qn X (SK X Q k)) (Q' := KX.post X (KK X Q k)) (fun a w h => h) (fun c a w h => h.elim) (fun ⟨a, w, h⟩ => h.elim) _ _ _ _ ?_)
  refine hd ops.size _ a _ (by simp) ?_ (fun i hi => absurd hi (hnone i)) (fun i hi => absurd hi (hnone i)) (fun e he => by simp at he) hr.sc ⟨γ, ?_⟩
  · unfold unl
    have := List.countP_le_length (p := fun i => !(Array.replicate ops.size false).getD i false) (l := List.range ops.size)
    simpa using this
  · have hI := inv_same (w' := { w with drawn := w.drawn + 1 }) hr.inv rfl rfl rfl rfl
    obtain ⟨vs, hvs, hl⟩ := hr.fr
    refine ⟨hI, hr.df, ⟨vs, hvs, ?_⟩, mask_upTo hr.sc⟩
    have h1 : All2 (RepV γ { w with drawn := w.drawn + 1 }) st.fr vs := hl.mono fun x u hx => RepV.mono (w := w) (w' := { w with drawn := w.drawn + 1 }) (Gh.Ext.refl γ []) (fun _ _ => rfl) x u (XV.free_nil hx) hx
    refine all2_xle (all2_of_getD (mask_length ..) fun t ht => ?_) h1
    by_cases ho : open' ops (Array.replicate ops.size false) t
    · left
      rw [List.getD_eq_getElem?_getD, maskF_get]
      cases st.fr[t]? with
      | none => rfl
      | some x => simp [ho]
    · right
      exact (maskF_getD _ _ _ _ ho).symm
theorem ev_draw {X : Cx} {Q : KX} {id : Nat} {ops : Array Oper} {k : List It} {st : St} (sch : Sch) (fin : List Nat) (hm : X.P.follows .mixedOrders = true) (hc : (lookB ops (tabOf ops (ofSch sch)) && statB ops (tabOf ops (ofSch sch)) fin [] [] (ofSch sch)) = true)
    (h : ∀ T, SC X Q 400 (.dr ops T fin [] [] (ofSch sch) :: k) st) : EvC X Q (.region id ops true) k st := ev_drawT (ofSch sch) fin hm hc h
/-- a region whose ways are brought together in one state -/
theorem ev_drawJ {X : Cx} {Q : KX} {id : Nat} {ops : Array Oper} {k : List It} {st : St} (sch : Tr) (fin : List Nat) (st1 : St) (hm : X.P.follows .mixedOrders = true) (hc : (lookB ops (tabOf ops sch) && statB ops (tabOf ops sch) fin [] [] sch) = true)
    (h : ∀ T, SC X Q 400 (.dr ops T fin [] [] sch :: .inv (fun s => Wk X s st1) :: k) st) (h1 : SC X Q 400 k st1) : EvC X Q (.region id ops true) k st := by
  have h2 : EvC X Q (.region id ops true) (.inv (fun s => Wk X s st1) :: k) st := ev_drawT sch fin hm hc h
  have h3 := SC_sound 400 k _ h1
  intro a w hr
  refine Code.wp_mono ?_ (h2 a w hr)
  intro e a' w' hq
  cases e with
  | normal =>
    obtain ⟨s, hs, hw⟩ := hq
    exact ⟨st1, hw _ _ hs, h3⟩
  | _ => exact hq
end Go.SX
