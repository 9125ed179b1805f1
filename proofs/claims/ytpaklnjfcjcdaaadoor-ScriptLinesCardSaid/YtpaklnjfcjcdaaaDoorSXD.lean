/- SX: regions that draw their order. Own work. -/
import Derived.Test.YtpaklnjfcjcdaaaDoorSXR
namespace Go.SX
open Classical
set_option linter.unusedVariables false
set_option linter.unusedSimpArgs false

/-! ### what must come before what -/
def preds (all : Array Oper) (i : Nat) : List Nat := match all[i]? with
  | some o => (o.after.toList.filter fun e => Region.binds .any e).map (·.on)
  | none => []
def lookL (T : List (Nat × List Nat)) (i : Nat) : List Nat := match T.find? fun p => p.1 == i with
  | some p => p.2
  | none => []
/-- the ancestors of each, along the schedule -/
def ancs (all : Array Oper) : List Nat → List (Nat × List Nat) → List (Nat × List Nat)
  | [], T => T
  | i :: s, T => ancs all s ((i, ((preds all i).flatMap fun p => p :: lookL T p).eraseDups) :: T)
def isL (listed : Array Bool) (i : Nat) : Prop := listed.getD i false = true
def DownL (all : Array Oper) (listed : Array Bool) : Prop := ∀ i, isL listed i → ∀ p, p ∈ preds all i → isL listed p
/-- the table speaks true -/
def TabOk (all : Array Oper) (T : List (Nat × List Nat)) : Prop := ∀ listed, DownL all listed → ∀ i, (∀ p, p ∈ preds all i → isL listed p) → ∀ j, j ∈ lookL T i → isL listed j
theorem tabOk_nil (all : Array Oper) : TabOk all [] := fun listed _ i _ j hj => by simp [lookL] at hj
theorem tabOk_cons {all : Array Oper} {T : List (Nat × List Nat)} (h : TabOk all T) (i : Nat) : TabOk all ((i, ((preds all i).flatMap fun p => p :: lookL T p).eraseDups) :: T) := by
  intro listed hd k hk j hj
  unfold lookL at hj
  rw [List.find?_cons] at hj
  by_cases e : i = k
  · subst e
    simp only [beq_self_eq_true] at hj
    rw [List.mem_eraseDups] at hj
    obtain ⟨p, hp, hm⟩ := List.mem_flatMap.1 hj
    rcases List.mem_cons.1 hm with rfl | hm
    · exact hk _ hp
    · exact h listed hd p (hd p (hk p hp)) j hm
  · have : (i == k) = false := by simpa using e
    simp only [this] at hj
    exact h listed hd k hk j hj
theorem ancs_ok {all : Array Oper} : ∀ (s : List Nat) (T : List (Nat × List Nat)), TabOk all T → TabOk all (ancs all s T)
  | [], T, h => h
  | i :: s, T, h => ancs_ok s _ (tabOk_cons h i)
/-! ### states of which some slots are not known yet -/
def open' (all : Array Oper) (listed : Array Bool) (t : Nat) : Prop := ∃ j o, all[j]? = some o ∧ o.dst = some t ∧ ¬ isL listed j
noncomputable def maskF (all : Array Oper) (listed : Array Bool) (fr : List XV) : List XV := fr.mapIdx fun t x => if open' all listed t then .any else x
theorem maskF_get (all : Array Oper) (listed : Array Bool) (fr : List XV) (t : Nat) : (maskF all listed fr)[t]? = (fr[t]?).map fun x => if open' all listed t then .any else x := by
  simp [maskF]
theorem maskF_getD (all : Array Oper) (listed : Array Bool) (fr : List XV) (t : Nat) (h : ¬ open' all listed t) : (maskF all listed fr).getD t .any = fr.getD t .any := by
  rw [List.getD_eq_getElem?_getD, List.getD_eq_getElem?_getD, maskF_get]
  cases fr[t]? with
  | none => rfl
  | some x => simp [h]
/-- What is laid in a slot, under a guard. -/
def slotX (fr : List XV) (d : Option Tmp) (y : XV) : Prop := match d with | none => True | some t => fr.getD t .any = y
def gd (all : Array Oper) (fr : List XV) (o : Oper) : Option Prop := match o.guard with
  | none => some True
  | some g => gcond fr ((all[g.1]?).bind (·.dst)) g.2
/-- A quiet operation says in this state what its slot says. -/
def VQ (X : Cx) (all : Array Oper) (st : St) (i : Nat) : Prop := match all[i]? with
  | none => False
  | some o => match gd all st.fr o with
    | none => False
    | some A => match fop X.P (evX st.fr) st.hp o.op with
      | some (φ, .c y) => (A → φ) ∧ (slotX st.fr o.dst (.c (condX A y)) ∨ (A ∧ slotX st.fr o.dst (.c y)) ∨ (¬ A ∧ slotX st.fr o.dst .any))
      | some (φ, y) => (A ∧ φ ∧ slotX st.fr o.dst y) ∨ (¬ A ∧ slotX st.fr o.dst .any)
      | none => ¬ A ∧ slotX st.fr o.dst .any
/-- The slots that an operation looks at are written by its ancestors; no two operations write one slot. -/
def LookOk (all : Array Oper) (T : List (Nat × List Nat)) : Prop :=
  (∀ (i : Nat) (o : Oper) (t j : Nat) (p : Oper), all[i]? = some o → t ∈ o.looksAt all → all[j]? = some p → p.dst = some t → j ∈ lookL T i) ∧
  (∀ (i j : Nat) (o p : Oper) (t : Tmp), all[i]? = some o → all[j]? = some p → o.dst = some t → p.dst = some t → i = j)
theorem not_open {all : Array Oper} {T : List (Nat × List Nat)} {listed : Array Bool} (hT : TabOk all T) (hl : LookOk all T) (hd : DownL all listed) {i : Nat} {o : Oper} (hi : all[i]? = some o) (hr : ∀ p, p ∈ preds all i → isL listed p) (t : Nat) (ht : t ∈ o.looksAt all) : ¬ open' all listed t := by
  rintro ⟨j, p, hj, hpd, hn⟩
  exact hn (hT listed hd i hr j (hl.1 i o t j p hi ht hj hpd))
theorem evX_mask {all : Array Oper} {listed : Array Bool} {fr : List XV} {o : Oper} (h : ∀ t, t ∈ o.looksAt all → ¬ open' all listed t) : ∀ x, x ∈ o.op.operands → evX (maskF all listed fr) x = evX fr x := by
  intro x hx
  cases x with
  | tmp t =>
    show (maskF all listed fr).getD t .any = fr.getD t .any
    refine maskF_getD all listed fr t (h t ?_)
    exact List.mem_append_left _ (List.mem_filterMap.2 ⟨.tmp t, by simpa using hx, rfl⟩)
  | _ => rfl
theorem gd_mask {all : Array Oper} {listed : Array Bool} {fr : List XV} {o : Oper} (h : ∀ t, t ∈ o.looksAt all → ¬ open' all listed t) : gd all (maskF all listed fr) o = gd all fr o := by
  unfold gd
  cases hg : o.guard with
  | none => rfl
  | some g =>
    dsimp only
    cases ht : (all[g.1]?).bind (·.dst) with
    | none => rfl
    | some t =>
      unfold gcond
      dsimp only
      rw [maskF_getD all listed fr t (h t ?_)]
      refine List.mem_append_right _ ?_
      rw [hg]
      show t ∈ ((all[g.1]?).bind (·.dst)).toList
      rw [ht]
      simp
theorem gd_wanted {X : Cx} {γ : Gh} {st : St} {a : Act} {w : World} {all : Array Oper} {o : Oper} {A : Prop} (h : Rg X γ st a w) (hA : gd all st.fr o = some A) : Region.wanted o (yielded all a.tmps) = true ↔ A := by
  unfold gd at hA
  cases hg : o.guard with
  | none =>
    rw [hg] at hA
    simp only [Option.some.injEq] at hA
    subst hA
    simp [Region.wanted, hg]
  | some g =>
    rw [hg] at hA
    exact gcond_sound h hg hA
theorem isL_set {listed : Array Bool} {i j : Nat} : isL (listed.setIfInBounds i true) j ↔ isL listed j ∨ (j = i ∧ i < listed.size) := by
  unfold isL
  rw [Array.getD_eq_getD_getElem?, Array.getD_eq_getD_getElem?, Array.getElem?_setIfInBounds]
  by_cases e : i = j
  · subst e
    by_cases h : i < listed.size
    · simp [h]
    · simp [h]
  · simp [e, Ne.symm e]
theorem open_set {all : Array Oper} {listed : Array Bool} {i : Nat} {o : Oper} {T : List (Nat × List Nat)} (hl : LookOk all T) (hi : all[i]? = some o) (hs : listed.size = all.size) (t : Nat) : open' all (listed.setIfInBounds i true) t ↔ open' all listed t ∧ o.dst ≠ some t := by
  have hlt : i < listed.size := by rw [hs]; exact (Array.getElem?_eq_some_iff.1 hi).1
  constructor
  · rintro ⟨j, p, hj, hp, hn⟩
    rw [isL_set] at hn
    refine ⟨⟨j, p, hj, hp, fun h => hn (.inl h)⟩, fun hd => hn (.inr ⟨?_, hlt⟩)⟩
    exact hl.2 j i p o t hj hi hp hd
  · rintro ⟨⟨j, p, hj, hp, hn⟩, hd⟩
    refine ⟨j, p, hj, hp, fun h => ?_⟩
    rcases isL_set.1 h with h | ⟨rfl, _⟩
    · exact hn h
    · rw [hi] at hj
      simp only [Option.some.injEq] at hj
      subst hj
      exact hd hp
/-- what is laid in i's slot is what the whole state says there -/
theorem mask_put {all : Array Oper} {listed : Array Bool} {fr : List XV} {i : Nat} {o : Oper} {T : List (Nat × List Nat)} {y : XV} (hl : LookOk all T) (hi : all[i]? = some o) (hs : listed.size = all.size) (hy : ∀ d, o.dst = some d → d < fr.length → fr.getD d .any = y) : ∀ t, t < fr.length → xle ((frPut (maskF all listed fr) o.dst y).getD t .any) ((maskF all (listed.setIfInBounds i true) fr).getD t .any) := by
  intro t ht
  by_cases ho : open' all (listed.setIfInBounds i true) t
  · left
    rw [List.getD_eq_getElem?_getD, maskF_get]
    cases fr[t]? with
    | none => rfl
    | some x => simp [ho]
  · right
    rw [maskF_getD _ _ _ _ ho]
    have h1 := fun h => ho ((open_set hl hi hs t).2 h)
    cases hd : o.dst with
    | none =>
      have : ¬ open' all listed t := fun h => h1 ⟨h, by rw [hd]; simp⟩
      show (maskF all listed fr).getD t .any = _
      exact maskF_getD _ _ _ _ this
    | some d =>
      by_cases e : d = t
      · subst e
        rw [hy d hd ht]
        show ((maskF all listed fr).set d y).getD d .any = y
        rw [List.getD_eq_getElem?_getD, List.getElem?_set_self (by simpa [maskF] using ht)]
        rfl
      · have : ¬ open' all listed t := fun h => h1 ⟨h, by rw [hd]; simpa using e⟩
        show ((maskF all listed fr).set d y).getD t .any = _
        rw [List.getD_eq_getElem?_getD, List.getElem?_set_ne e, ← List.getD_eq_getElem?_getD]
        exact maskF_getD _ _ _ _ this
theorem all2_xle {γ : Gh} {w : World} {f f' : List XV} {vs : List Value} (hf : All2 xle f f') (hl : All2 (RepV γ w) f vs) : All2 (RepV γ w) f' vs := by
  induction hf generalizing vs with
  | nil => exact hl
  | cons h _ ih =>
    cases hl with
    | cons h1 h2 =>
      refine .cons ?_ (ih h2)
      rcases h with rfl | rfl
      · trivial
      · exact h1
theorem all2_of_getD {fr fr' : List XV} (hl : fr'.length = fr.length) (h : ∀ t, t < fr.length → xle (fr.getD t .any) (fr'.getD t .any)) : All2 xle fr fr' :=
  All2.of_get hl.symm fun i a b ha hb => by
    have := h i (List.getElem?_eq_some_iff.1 ha).1
    rw [List.getD_eq_getElem?_getD, List.getD_eq_getElem?_getD, ha, hb] at this
    exact this
theorem mask_length (all : Array Oper) (listed : Array Bool) (fr : List XV) : (maskF all listed fr).length = fr.length := by simp [maskF]
theorem mask_upTo {all : Array Oper} {listed : Array Bool} {fr : List XV} {n : Nat} (h : ∀ x, x ∈ fr → x.upTo n) : ∀ x, x ∈ maskF all listed fr → x.upTo n := by
  intro x hx
  obtain ⟨i, hi⟩ := List.mem_iff_getElem?.1 hx
  rw [maskF_get, Option.map_eq_some_iff] at hi
  obtain ⟨y, hy, rfl⟩ := hi
  split
  · trivial
  · exact h y (List.mem_of_getElem? hy)
/-- A state that is said in full, from what a step has left. -/
theorem rr_mask {X : Cx} {all : Array Oper} {listed : Array Bool} {st : St} {i : Nat} {o : Oper} {T : List (Nat × List Nat)} {y : XV} {γ : Gh} {a : Act} {w : World} {fr0 : List XV} (hl : LookOk all T) (hi : all[i]? = some o) (hs : listed.size = all.size) (hy : ∀ d, o.dst = some d → d < st.fr.length → st.fr.getD d .any = y)
    (h0 : fr0 = maskF all listed st.fr) (hsc : ∀ x, x ∈ st.fr → x.upTo st.hp.length) (h : Rg X γ ⟨frPut fr0 o.dst y, st.hp⟩ a w) : Rg X γ ⟨maskF all (listed.setIfInBounds i true) st.fr, st.hp⟩ a w := by
  subst h0
  obtain ⟨vs, hvs, hr⟩ := h.fr
  have hlen : (frPut (maskF all listed st.fr) o.dst y).length = st.fr.length := by
    cases o.dst with
    | none => exact mask_length ..
    | some d => show ((maskF all listed st.fr).set d y).length = _; rw [List.length_set, mask_length]
  refine ⟨h.inv, h.df, ⟨vs, hvs, all2_xle (all2_of_getD (by rw [mask_length, hlen]) fun t ht => mask_put hl hi hs hy t (by rw [← hlen]; exact ht)) hr⟩, mask_upTo hsc⟩

/-- A quiet operation, whenever it comes. -/
theorem wpOp_quiet {X : Cx} {all : Array Oper} {listed : Array Bool} {st : St} {i : Nat} {T : List (Nat × List Nat)} {Q : Exit → Act → World → Prop} {K : Act → World → Prop} {a : Act} {w : World} (hT : TabOk all T) (hl : LookOk all T) (hs : listed.size = all.size) (hd : DownL all listed)
    (hr : ∀ p, p ∈ preds all i → isL listed p) (hsc : ∀ x, x ∈ st.fr → x.upTo st.hp.length) (hv : VQ X all st i) (h : Rr X ⟨maskF all listed st.fr, st.hp⟩ a w)
    (hK : ∀ a' w', Rr X ⟨maskF all (listed.setIfInBounds i true) st.fr, st.hp⟩ a' w' → K a' w') : wpOp X.P all Q i K a w := by
  obtain ⟨γ, hrg⟩ := h
  unfold VQ at hv
  unfold wpOp
  cases hi : all[i]? with
  | none => rw [hi] at hv; exact hv.elim
  | some o =>
    rw [hi] at hv
    dsimp only at hv ⊢
    have hno := fun t ht => not_open hT hl hd hi hr t ht
    have hev := evX_mask (fr := st.fr) hno
    have hgm := gd_mask (fr := st.fr) hno
    cases hA : gd all st.fr o with
    | none => rw [hA] at hv; exact hv.elim
    | some A =>
      rw [hA] at hv
      dsimp only at hv
      have hwA := gd_wanted (all := all) (o := o) hrg (show gd all (maskF all listed st.fr) o = some A by rw [hgm, hA])
      have hrun : ∀ (φ : Prop) (y : XV), fop X.P (evX st.fr) st.hp o.op = some (φ, y) → φ → ∃ v, (execOp a.eval o).run X.P w = .ok (.value v) w ∧ RepV γ w y v ∧ y.upTo st.hp.length := by
        intro φ y hf hφ
        have hf' : fop X.P (evX (maskF all listed st.fr)) st.hp o.op = some (φ, y) := by rw [fop_congr o.op hev]; exact hf
        obtain ⟨v, h1, h2⟩ := fop_sound (o := o) hrg.inv (rg_ev hrg) hf' hφ
        exact ⟨v, h1, h2, fop_upTo hrg.inv (evX_upTo hrg.sc) hf'⟩
      have go : ∀ (v : Value) (y : XV), RepV γ w y v → y.upTo st.hp.length → slotX st.fr o.dst y → K (a.put o.dst v) w := fun v y h1 h2 h3 => by
        have := rg_step (dst := o.dst) hrg hrg.inv h1 (Gh.Ext.refl _ _) (fun _ _ => rfl) h2 (Nat.le_refl _)
        exact hK _ _ ⟨γ, rr_mask hl hi hs (fun d hd _ => by rw [hd] at h3; exact h3) rfl hsc this⟩
      split
      · rename_i hw
        refine .inl ?_
        have hAA := hwA.1 hw
        unfold Oper.wp
        split at hv
        · rename_i φ y hf
          obtain ⟨v, h1, h2, h3⟩ := hrun _ _ hf (hv.1 hAA)
          rw [h1]
          rcases hv.2 with h4 | h4 | h4
          · exact go v (.c (condX A y)) (condX_sound (γ := γ) (w := w) (fun _ => h2) fun hn => absurd hAA hn) (condX_upTo h3) h4
          · exact go v _ h2 h3 h4.2
          · exact absurd hAA h4.1
        · rename_i φ y hne hf
          rcases hv with h4 | h4
          · obtain ⟨v, h1, h2, h3⟩ := hrun _ _ hf h4.2.1
            rw [h1]
            exact go v _ h2 h3 h4.2.2
          · exact absurd hAA h4.1
        · exact absurd hAA hv.1
      · rename_i hw
        have hAA : ¬ A := fun h => hw (hwA.2 h)
        split at hv
        · rename_i φ y hf
          rcases hv.2 with h4 | h4 | h4
          · refine go undef (.c (condX A y)) (condX_sound (γ := γ) (w := w) (fun h => absurd h hAA) fun _ => rfl) ?_ h4
            have hf' : fop X.P (evX (maskF all listed st.fr)) st.hp o.op = some (φ, .c y) := by rw [fop_congr o.op hev]; exact hf
            exact condX_upTo (fop_upTo hrg.inv (evX_upTo hrg.sc) hf')
          · exact absurd h4.1 hAA
          · exact go undef .any trivial trivial h4.2
        · rcases hv with h4 | h4
          · exact absurd h4.1 hAA
          · exact go undef .any trivial trivial h4.2
        · exact go undef .any trivial trivial hv.2
theorem effK_congr {X : Cx} {ev ev' : Operand → XV} {hp : List XB} {o : Oper} {R : XV → List XB → List Nat → Prop} (h : ∀ x, x ∈ o.op.operands → ev' x = ev x) (he : EffK X ev hp o R) : EffK X ev' hp o R := by
  intro γ w a K Q hI hev hsc hK
  exact he γ w a K Q hI (fun x hx => by rw [← h x hx]; exact hev x hx) (fun x hx => by rw [← h x hx]; exact hsc x hx) hK
def killX (S : List Nat) (x : XV) : XV := match S with | [] => x | _ => x.kill S
theorem killF_get (S : List Nat) (fr : List XV) (t : Nat) : (killF S fr)[t]? = (fr[t]?).map (killX S) := by
  cases S with
  | nil => show fr[t]? = _; cases fr[t]? <;> rfl
  | cons b S => show (fr.map (XV.kill (b :: S)))[t]? = _; rw [List.getElem?_map]; rfl
theorem killX_any (S : List Nat) : killX S .any = .any := by
  cases S with
  | nil => rfl
  | cons b S => show XV.kill (b :: S) .any = .any; simp only [XV.kill]; split <;> rfl
theorem frPut_kill_mask (all : Array Oper) (listed : Array Bool) (fr : List XV) (S : List Nat) (d : Option Tmp) (y : XV) : frPut (killF S (maskF all listed fr)) d y = frPut (maskF all listed (frPut (killF S fr) d y)) d y := by
  have base : ∀ t : Nat, (killF S (maskF all listed fr))[t]? = (maskF all listed (killF S fr))[t]? := by
    intro t
    rw [killF_get, maskF_get, maskF_get, killF_get]
    cases fr[t]? with
    | none => rfl
    | some x =>
      simp only [Option.map_some]
      by_cases ho : open' all listed t
      · simp only [ho, if_true, killX_any]
      · simp only [ho, if_false]
  apply List.ext_getElem?
  intro t
  cases d with
  | none => exact base t
  | some d =>
    show ((killF S (maskF all listed fr)).set d y)[t]? = ((maskF all listed ((killF S fr).set d y)).set d y)[t]?
    by_cases e : d = t
    · subst e
      rw [List.getElem?_set, List.getElem?_set]
      have : (killF S (maskF all listed fr)).length = (maskF all listed ((killF S fr).set d y)).length := by
        have h1 : ∀ (l : List XV), (killF S l).length = l.length := fun l => by cases S <;> simp [killF]
        rw [h1, mask_length, mask_length, List.length_set, h1]
      simp [this]
    · rw [List.getElem?_set_ne e, List.getElem?_set_ne e, base, maskF_get, maskF_get, List.getElem?_set_ne e]

/-- An effect, at its turn. -/
theorem wpOp_eff {X : Cx} {all : Array Oper} {listed : Array Bool} {st : St} {i : Nat} {o : Oper} {A : Prop} {T : List (Nat × List Nat)} {R : XV → List XB → List Nat → Prop} {Q : Exit → Act → World → Prop} {K : Act → World → Prop} {a : Act} {w : World} (hT : TabOk all T) (hl : LookOk all T) (hs : listed.size = all.size) (hd : DownL all listed)
    (hi : all[i]? = some o) (hr : ∀ p, p ∈ preds all i → isL listed p) (hsc : ∀ x, x ∈ st.fr → x.upTo st.hp.length) (hA : gd all st.fr o = some A) (he : A → EffK X (evX st.fr) st.hp o R) (h : Rr X ⟨maskF all listed st.fr, st.hp⟩ a w)
    (hK : A → ∀ y hp' S, R y hp' S → (∀ x, x ∈ frPut (killF S st.fr) o.dst y → x.upTo hp'.length) → ∀ a' w', Rr X ⟨maskF all (listed.setIfInBounds i true) (frPut (killF S st.fr) o.dst y), hp'⟩ a' w' → K a' w')
    (hK' : ¬ A → (∀ x, x ∈ frPut st.fr o.dst .any → x.upTo st.hp.length) → ∀ a' w', Rr X ⟨maskF all (listed.setIfInBounds i true) (frPut st.fr o.dst .any), st.hp⟩ a' w' → K a' w') : wpOp X.P all Q i K a w := by
  obtain ⟨γ, hrg⟩ := h
  have hno := fun t ht => not_open hT hl hd hi hr t ht
  have hev := evX_mask (fr := st.fr) hno
  have hgm := gd_mask (fr := st.fr) hno
  have hwA := gd_wanted (all := all) (o := o) hrg (show gd all (maskF all listed st.fr) o = some A by rw [hgm, hA])
  have hput : ∀ (fr : List XV) (y : XV) (d : Tmp), o.dst = some d → d < (frPut fr o.dst y).length → (frPut fr o.dst y).getD d .any = y := fun fr y d hd hlt => by
    rw [hd] at hlt ⊢
    show (fr.set d y).getD d .any = y
    have : d < fr.length := by have h : d < (fr.set d y).length := hlt; simpa using h
    rw [List.getD_eq_getElem?_getD, List.getElem?_set_self this]
    rfl
  unfold wpOp
  rw [hi]
  dsimp only
  split
  · rename_i hw
    refine .inl ?_
    have hAA := hwA.1 hw
    refine effK_congr hev (he hAA) γ w a K Q hrg.inv (fun x _ => rg_ev hrg x) (fun x _ => evX_upTo hrg.sc x) ?_
    intro γ' w' v y hp' S hR ho
    have h1 := rg_out (dst := o.dst) hrg ho
    have hsc' : ∀ x, x ∈ frPut (killF S st.fr) o.dst y → x.upTo hp'.length := by
      have hk : ∀ x, x ∈ killF S st.fr → x.upTo hp'.length := by
        intro x hx
        obtain ⟨t, ht⟩ := List.mem_iff_getElem?.1 hx
        rw [killF_get, Option.map_eq_some_iff] at ht
        obtain ⟨z, hz, rfl⟩ := ht
        have hz' := XV.upTo_mono ho.len z (hsc z (List.mem_of_getElem? hz))
        cases S with
        | nil => exact hz'
        | cons b S => exact XV.kill_upTo hz'
      intro x hx
      cases hd : o.dst with
      | none => rw [hd] at hx; exact hk x hx
      | some d =>
        rw [hd] at hx
        rcases List.mem_or_eq_of_mem_set hx with h | rfl
        · exact hk x h
        · exact ho.sc
    refine hK hAA y hp' S hR hsc' _ _ ⟨γ', rr_mask (st := ⟨frPut (killF S st.fr) o.dst y, hp'⟩) (y := y) hl hi hs (fun d hd hlt => hput _ y d hd hlt) rfl hsc' ?_⟩
    rw [← frPut_kill_mask]
    exact h1
  · rename_i hw
    have hAA : ¬ A := fun h => hw (hwA.2 h)
    have h1 := rg_step (dst := o.dst) (v := undef) (y := .any) hrg hrg.inv trivial (Gh.Ext.refl _ _) (fun _ _ => rfl) trivial (Nat.le_refl _)
    have hsc' : ∀ x, x ∈ frPut st.fr o.dst .any → x.upTo st.hp.length := by
      intro x hx
      cases hd : o.dst with
      | none => rw [hd] at hx; exact hsc x hx
      | some d =>
        rw [hd] at hx
        rcases List.mem_or_eq_of_mem_set hx with h | rfl
        · exact hsc x h
        · trivial
    refine hK' hAA hsc' _ _ ⟨γ, rr_mask (st := ⟨frPut st.fr o.dst .any, st.hp⟩) (y := .any) hl hi hs (fun d hd hlt => hput _ _ d hd hlt) rfl hsc' ?_⟩
    have := frPut_kill_mask all listed st.fr [] o.dst .any
    simp only [killF] at this
    rw [← this]
    exact h1
/-! ### the whole region -/
def unl (all : Array Oper) (listed : Array Bool) : Nat := (List.range all.size).countP fun i => !listed.getD i false
def DSem (X : Cx) (all : Array Oper) (T : List (Nat × List Nat)) (eff done : List Nat) (N : St → Prop) (st : St) : Prop :=
  ∀ (fuel : Nat) (listed : Array Bool) (a : Act) (w : World), listed.size = all.size → unl all listed ≤ fuel → DownL all listed → (∀ i, isL listed i → i ∈ done) → (∀ e, e ∈ eff → isL listed e) →
    (∀ x, x ∈ st.fr → x.upTo st.hp.length) → Rr X ⟨maskF all listed st.fr, st.hp⟩ a w → wpAny X.P .any all (Qn X N) fuel listed a w
/-- a stack of operations, each above what must come before -/
def ordOk (all : Array Oper) : List Nat → Prop
  | [] => True
  | i :: d => (∀ p, p ∈ preds all i → p ∈ d) ∧ ordOk all d
theorem ord_first {all : Array Oper} {listed : Array Bool} : ∀ (d : List Nat), ordOk all d → (∃ i, i ∈ d ∧ ¬ isL listed i) → ∃ i, i ∈ d ∧ ¬ isL listed i ∧ ∀ p, p ∈ preds all i → isL listed p
  | [], _, ⟨i, h, _⟩ => by simp at h
  | j :: d, ho, ⟨i, h, hn⟩ => by
    by_cases hd : ∃ i, i ∈ d ∧ ¬ isL listed i
    · obtain ⟨k, h1, h2, h3⟩ := ord_first d ho.2 hd
      exact ⟨k, List.mem_cons_of_mem _ h1, h2, h3⟩
    · have hall : ∀ k, k ∈ d → isL listed k := fun k hk => Classical.byContradiction fun h => hd ⟨k, hk, h⟩
      rcases List.mem_cons.1 h with rfl | h
      · exact ⟨i, List.mem_cons_self .., hn, fun p hp => hall p (ho.1 p hp)⟩
      · exact absurd (hall i h) hn
theorem ready_iff {all : Array Oper} {listed : Array Bool} (hs : listed.size = all.size) {j : Nat} : j ∈ Region.ready .any all listed ↔ j < all.size ∧ ¬ isL listed j ∧ ∀ p, p ∈ preds all j → isL listed p := by
  rw [mem_ready]
  constructor
  · rintro ⟨h0, o, ho, hall⟩
    have hlt := (Array.getElem?_eq_some_iff.1 ho).1
    refine ⟨hlt, fun h => ?_, fun p hp => ?_⟩
    · unfold isL at h
      rw [Array.getD_eq_getD_getElem?, Array.getElem?_eq_getElem (by omega)] at h h0
      simp at h h0
      rw [h] at h0; cases h0
    · unfold preds at hp
      rw [ho] at hp
      simp only [List.mem_map, List.mem_filter, Array.mem_toList_iff] at hp
      obtain ⟨e, ⟨he, hb⟩, rfl⟩ := hp
      exact hall e he hb
  · rintro ⟨hlt, hn, hp⟩
    refine ⟨?_, all[j], Array.getElem?_eq_getElem hlt, fun e he hb => hp e.on ?_⟩
    · unfold isL at hn
      rw [Array.getD_eq_getD_getElem?, Array.getElem?_eq_getElem (by omega)] at hn ⊢
      simpa using hn
    · unfold preds
      rw [Array.getElem?_eq_getElem hlt]
      simp only [List.mem_map, List.mem_filter, Array.mem_toList_iff]
      exact ⟨e, ⟨he, hb⟩, rfl⟩
theorem downL_set {all : Array Oper} {listed : Array Bool} {i : Nat} (hd : DownL all listed) (hr : ∀ p, p ∈ preds all i → isL listed p) : DownL all (listed.setIfInBounds i true) := by
  intro j hj p hp
  rcases isL_set.1 hj with h | ⟨rfl, _⟩
  · exact isL_set.2 (.inl (hd j h p hp))
  · exact isL_set.2 (.inl (hr p hp))
theorem unl_set {all : Array Oper} {listed : Array Bool} {i fuel : Nat} (hs : listed.size = all.size) (hi : i < all.size) (hn : ¬ isL listed i) (hu : unl all listed ≤ fuel + 1) : unl all (listed.setIfInBounds i true) ≤ fuel := by
  have key : ∀ (l : List Nat), l.Nodup → i ∈ l → (l.countP fun j => !(listed.setIfInBounds i true).getD j false) + 1 ≤ l.countP fun j => !listed.getD j false := by
    intro l
    induction l with
    | nil => intro _ h; simp at h
    | cons x l ih =>
      intro hnd hm
      rw [List.nodup_cons] at hnd
      have other : ∀ j, j ≠ i → (listed.setIfInBounds i true).getD j false = listed.getD j false := fun j hj => getD_set_ne false (fun e => hj e.symm)
      have rest : i ∉ l → (l.countP fun j => !(listed.setIfInBounds i true).getD j false) = l.countP fun j => !listed.getD j false := fun hni => List.countP_congr fun j hj => by rw [other j (fun e => hni (e ▸ hj))]
      by_cases e : x = i
      · subst e
        have h1 : (listed.setIfInBounds x true).getD x false = true := isL_set.2 (.inr ⟨rfl, by omega⟩)
        have h2 : listed.getD x false = false := by simpa [isL] using hn
        rw [List.countP_cons, List.countP_cons, rest hnd.1, h1, h2]
        simp
      · have hm' : i ∈ l := (List.mem_cons.1 hm).resolve_left (fun h => e h.symm)
        have := ih hnd.2 hm'
        rw [List.countP_cons, List.countP_cons, other x e]
        omega
  have := key (List.range all.size) List.nodup_range (List.mem_range.2 hi)
  unfold unl at hu ⊢
  omega
theorem unl_pos {all : Array Oper} {listed : Array Bool} {i : Nat} (hi : i < all.size) (hn : ¬ isL listed i) : 0 < unl all listed := by
  unfold unl
  rw [List.countP_pos_iff]
  exact ⟨i, List.mem_range.2 hi, by simpa [isL] using hn⟩
/-- every quiet operation that may still come says what its slot says -/
def VAll (X : Cx) (all : Array Oper) (T : List (Nat × List Nat)) (eff done : List Nat) (st : St) : Prop := ∀ i, i ∈ done → i ∈ eff ∨ (∃ e, e ∈ eff ∧ i ∈ lookL T e) ∨ VQ X all st i
theorem dsem_end {X : Cx} {all : Array Oper} {T : List (Nat × List Nat)} {eff done : List Nat} {N : St → Prop} {st : St} (hT : TabOk all T) (hl : LookOk all T) (ho : ordOk all done) (hb : ∀ i, i ∈ done → i < all.size) (hall : ∀ i, i < all.size → i ∈ done) (hv : VAll X all T eff done st) (hN : N st) : DSem X all T eff done N st := by
  intro fuel
  induction fuel with
  | zero =>
    intro listed a w hs hu hd hsub heff hsc hr
    have hfull : ∀ i, i < all.size → isL listed i := fun i hi => Classical.byContradiction fun hn => absurd (unl_pos hi hn) (by omega)
    have hno : ∀ t, ¬ open' all listed t := fun t ⟨j, p, hj, _, hn⟩ => hn (hfull j (Array.getElem?_eq_some_iff.1 hj).1)
    refine ⟨?_, st, ?_, hN⟩
    · cases h : Region.ready .any all listed with
      | nil => rfl
      | cons j l =>
        have : j ∈ Region.ready .any all listed := by rw [h]; exact List.mem_cons_self ..
        obtain ⟨h1, h2, _⟩ := (ready_iff hs).1 this
        exact absurd (hfull j h1) h2
    · have : maskF all listed st.fr = st.fr := by
        apply List.ext_getElem?
        intro t
        rw [maskF_get]
        cases st.fr[t]? with
        | none => rfl
        | some x => simp [hno t]
      rw [this] at hr
      exact hr
  | succ fuel ih =>
    intro listed a w hs hu hd hsub heff hsc hr
    refine ⟨fun hnil => ?_, fun i hi => ?_⟩
    · -- all are listed
      have hfull : ∀ i, i < all.size → isL listed i := fun i hi => Classical.byContradiction fun hn => by
        obtain ⟨j, h1, h2, h3⟩ := ord_first done ho ⟨i, hall i hi, hn⟩
        have : j ∈ Region.ready .any all listed := (ready_iff hs).2 ⟨hb j h1, h2, h3⟩
        rw [hnil] at this
        cases this
      have hno : ∀ t, ¬ open' all listed t := fun t ⟨j, p, hj, _, hn⟩ => hn (hfull j (Array.getElem?_eq_some_iff.1 hj).1)
      refine ⟨st, ?_, hN⟩
      have : maskF all listed st.fr = st.fr := by
        apply List.ext_getElem?
        intro t
        rw [maskF_get]
        cases st.fr[t]? with
        | none => rfl
        | some x => simp [hno t]
      rw [this] at hr
      exact hr
    · obtain ⟨h1, h2, h3⟩ := (ready_iff hs).1 hi
      rcases hv i (hall i h1) with h | ⟨e, he, hie⟩ | h
      · exact absurd (heff i h) h2
      · have := hT listed hd e (fun p hp => hd e (heff e he) p hp) i hie
        exact absurd this h2
      · refine wpOp_quiet hT hl hs hd h3 hsc h hr fun a' w' hr' => ?_
        exact ih _ a' w' (by simpa using hs) (unl_set hs h1 h2 hu) (downL_set hd h3) (fun j hj => by
          rcases isL_set.1 hj with h | ⟨rfl, _⟩
          · exact hsub j h
          · exact hall j h1) (fun e he => isL_set.2 (.inl (heff e he))) hsc hr'
theorem dsem_put {X : Cx} {all : Array Oper} {T : List (Nat × List Nat)} {eff done : List Nat} {N : St → Prop} {st : St} {i : Nat} {o : Oper} {y' : XV} (hi : all[i]? = some o) (hni : i ∉ done) (hyu : ∀ γ w, Inv X γ w st.hp → y'.upTo st.hp.length)
    (h : DSem X all T eff (i :: done) N ⟨frPut st.fr o.dst y', st.hp⟩) : DSem X all T eff done N st := by
  intro fuel listed a w hs hu hd hsub heff hsc hr
  have hnl : ¬ isL listed i := fun h => hni (hsub i h)
  have hup : ∀ x, x ∈ frPut st.fr o.dst y' → x.upTo st.hp.length := by
    obtain ⟨γ, hrg⟩ := hr
    have := hyu _ _ hrg.inv
    intro x hx
    cases hd : o.dst with
    | none => rw [hd] at hx; exact hsc x hx
    | some d =>
      rw [hd] at hx
      rcases List.mem_or_eq_of_mem_set hx with h | rfl
      · exact hsc x h
      · exact this
  refine h fuel listed a w hs hu hd (fun j hj => List.mem_cons_of_mem _ (hsub j hj)) heff hup ?_
  have : maskF all listed (frPut st.fr o.dst y') = maskF all listed st.fr := by
    apply List.ext_getElem?
    intro t
    rw [maskF_get, maskF_get]
    cases hdd : o.dst with
    | none => rfl
    | some d =>
      show ((st.fr.set d y')[t]?).map _ = _
      by_cases e : d = t
      · subst e
        have hop : open' all listed d := ⟨i, o, hi, hdd, hnl⟩
        rw [List.getElem?_set]
        by_cases hlt : d < st.fr.length
        · simp [hlt, hop]
        · simp [hlt]
      · rw [List.getElem?_set_ne e]
  show Rr X ⟨maskF all listed (frPut st.fr o.dst y'), st.hp⟩ a w
  rw [this]
  exact hr
theorem dsem_quiet {X : Cx} {all : Array Oper} {T : List (Nat × List Nat)} {eff done : List Nat} {N : St → Prop} {st : St} {i : Nat} {o : Oper} {φ : Prop} {y y' : XV} (hi : all[i]? = some o) (hni : i ∉ done) (hf : fop X.P (evX st.fr) st.hp o.op = some (φ, y)) (hy : ∀ n, y.upTo n → y'.upTo n)
    (h : DSem X all T eff (i :: done) N ⟨frPut st.fr o.dst y', st.hp⟩) : DSem X all T eff done N st := by
  intro fuel listed a w hs hu hd hsub heff hsc hr
  exact dsem_put hi hni (fun γ w hI => hy _ (fop_upTo hI (evX_upTo hsc) hf)) h fuel listed a w hs hu hd hsub heff hsc hr
theorem dsem_eff {X : Cx} {all : Array Oper} {T : List (Nat × List Nat)} {eff done : List Nat} {N : St → Prop} {st : St} {e : Nat} {o : Oper} {A : Prop} {R : XV → List XB → List Nat → Prop} (hT : TabOk all T) (hl : LookOk all T) (ho : ordOk all (e :: done)) (hb : ∀ i, i ∈ e :: done → i < all.size) (hne : e ∉ done)
    (hlater : ∀ i, i < all.size → i ∉ done → i ≠ e → e ∈ lookL T i) (hv : VAll X all T eff done st) (hi : all[e]? = some o) (hA : gd all st.fr o = some A) (he : A → EffK X (evX st.fr) st.hp o R)
    (h1 : A → ∀ y hp' S, R y hp' S → DSem X all T (e :: eff) (e :: done) N ⟨frPut (killF S st.fr) o.dst y, hp'⟩) (h2 : ¬ A → DSem X all T (e :: eff) (e :: done) N ⟨frPut st.fr o.dst .any, st.hp⟩) : DSem X all T eff done N st := by
  intro fuel
  have hlt : e < all.size := hb e (List.mem_cons_self ..)
  induction fuel with
  | zero =>
    intro listed a w hs hu hd hsub heff hsc hr
    exact absurd (unl_pos hlt (fun h => hne (hsub e h))) (by omega)
  | succ fuel ih =>
    intro listed a w hs hu hd hsub heff hsc hr
    have hnl : ¬ isL listed e := fun h => hne (hsub e h)
    refine ⟨fun hnil => ?_, fun i hi' => ?_⟩
    · obtain ⟨j, q1, q2, q3⟩ := ord_first (e :: done) ho ⟨e, List.mem_cons_self .., hnl⟩
      have : j ∈ Region.ready .any all listed := (ready_iff hs).2 ⟨hb j q1, q2, q3⟩
      rw [hnil] at this
      cases this
    · obtain ⟨q1, q2, q3⟩ := (ready_iff hs).1 hi'
      have hu' := unl_set hs q1 q2 hu
      by_cases hie : i = e
      · subst hie
        have heff' : ∀ e', e' ∈ i :: eff → isL (listed.setIfInBounds i true) e' := fun e' he' => by
          rcases List.mem_cons.1 he' with rfl | he'
          · exact isL_set.2 (.inr ⟨rfl, by omega⟩)
          · exact isL_set.2 (.inl (heff e' he'))
        have hsub' : ∀ j, isL (listed.setIfInBounds i true) j → j ∈ i :: done := fun j hj => by
          rcases isL_set.1 hj with h | ⟨rfl, _⟩
          · exact List.mem_cons_of_mem _ (hsub j h)
          · exact List.mem_cons_self ..
        refine wpOp_eff hT hl hs hd hi q3 hsc hA he hr (fun hAA y hp' S hR hsc' a' w' hr' => ?_) (fun hAA hsc' a' w' hr' => ?_)
        · exact h1 hAA y hp' S hR fuel _ a' w' (by simpa using hs) hu' (downL_set hd q3) hsub' heff' hsc' hr'
        · exact h2 hAA fuel _ a' w' (by simpa using hs) hu' (downL_set hd q3) hsub' heff' hsc' hr'
      · by_cases hid : i ∈ done
        · rcases hv i hid with h | ⟨e', he', hie'⟩ | h
          · exact absurd (heff i h) q2
          · exact absurd (hT listed hd e' (fun p hp => hd e' (heff e' he') p hp) i hie') q2
          · refine wpOp_quiet hT hl hs hd q3 hsc h hr fun a' w' hr' => ?_
            exact ih _ a' w' (by simpa using hs) hu' (downL_set hd q3) (fun j hj => by
              rcases isL_set.1 hj with h | ⟨rfl, _⟩
              · exact hsub j h
              · exact hid) (fun e' he' => isL_set.2 (.inl (heff e' he'))) hsc hr'
        · exact absurd (hT listed hd i q3 e (hlater i q1 hid hie)) hnl
/-- several effects may be next -/
theorem dsem_cands {X : Cx} {all : Array Oper} {T : List (Nat × List Nat)} {eff done cands : List Nat} {N : St → Prop} {st : St} (hT : TabOk all T) (hl : LookOk all T) (e0 : Nat) (he0 : e0 ∈ cands) (ho : ordOk all done) (hb : ∀ i, i ∈ done → i < all.size)
    (hc : ∀ e, e ∈ cands → e < all.size ∧ e ∉ done ∧ ∀ p, p ∈ preds all e → p ∈ done) (hlater : ∀ i, i < all.size → i ∉ done → i ∉ cands → ∃ e, e ∈ cands ∧ e ∈ lookL T i) (hv : VAll X all T eff done st)
    (hstep : ∀ e, e ∈ cands → ∃ (o : Oper) (A : Prop) (R : XV → List XB → List Nat → Prop), all[e]? = some o ∧ gd all st.fr o = some A ∧ (A → EffK X (evX st.fr) st.hp o R) ∧
      (A → ∀ y hp' S, R y hp' S → DSem X all T (e :: eff) (e :: done) N ⟨frPut (killF S st.fr) o.dst y, hp'⟩) ∧ (¬ A → DSem X all T (e :: eff) (e :: done) N ⟨frPut st.fr o.dst .any, st.hp⟩)) : DSem X all T eff done N st := by
  intro fuel
  have hlt : e0 < all.size := (hc e0 he0).1
  have ho0 : ordOk all (e0 :: done) := ⟨(hc e0 he0).2.2, ho⟩
  induction fuel with
  | zero =>
    intro listed a w hs hu hd hsub heff hsc hr
    exact absurd (unl_pos hlt (fun h => (hc e0 he0).2.1 (hsub e0 h))) (by omega)
  | succ fuel ih =>
    intro listed a w hs hu hd hsub heff hsc hr
    have hnlc : ∀ e, e ∈ cands → ¬ isL listed e := fun e he h => (hc e he).2.1 (hsub e h)
    refine ⟨fun hnil => ?_, fun i hi' => ?_⟩
    · obtain ⟨j, q1, q2, q3⟩ := ord_first (e0 :: done) ho0 ⟨e0, List.mem_cons_self .., hnlc e0 he0⟩
      have hjs : j < all.size := by
        rcases List.mem_cons.1 q1 with rfl | h
        · exact hlt
        · exact hb j h
      have : j ∈ Region.ready .any all listed := (ready_iff hs).2 ⟨hjs, q2, q3⟩
      rw [hnil] at this
      cases this
    · obtain ⟨q1, q2, q3⟩ := (ready_iff hs).1 hi'
      have hu' := unl_set hs q1 q2 hu
      by_cases hie : i ∈ cands
      · obtain ⟨o, A, R, hi, hA, he, h1, h2⟩ := hstep i hie
        have heff' : ∀ e', e' ∈ i :: eff → isL (listed.setIfInBounds i true) e' := fun e' he' => by
          rcases List.mem_cons.1 he' with rfl | he'
          · exact isL_set.2 (.inr ⟨rfl, by omega⟩)
          · exact isL_set.2 (.inl (heff e' he'))
        have hsub' : ∀ j, isL (listed.setIfInBounds i true) j → j ∈ i :: done := fun j hj => by
          rcases isL_set.1 hj with h | ⟨rfl, _⟩
          · exact List.mem_cons_of_mem _ (hsub j h)
          · exact List.mem_cons_self ..
        refine wpOp_eff hT hl hs hd hi q3 hsc hA he hr (fun hAA y hp' S hR hsc' a' w' hr' => ?_) (fun hAA hsc' a' w' hr' => ?_)
        · exact h1 hAA y hp' S hR fuel _ a' w' (by simpa using hs) hu' (downL_set hd q3) hsub' heff' hsc' hr'
        · exact h2 hAA fuel _ a' w' (by simpa using hs) hu' (downL_set hd q3) hsub' heff' hsc' hr'
      · by_cases hid : i ∈ done
        · rcases hv i hid with h | ⟨e', he', hie'⟩ | h
          · exact absurd (heff i h) q2
          · exact absurd (hT listed hd e' (fun p hp => hd e' (heff e' he') p hp) i hie') q2
          · refine wpOp_quiet hT hl hs hd q3 hsc h hr fun a' w' hr' => ?_
            exact ih _ a' w' (by simpa using hs) hu' (downL_set hd q3) (fun j hj => by
              rcases isL_set.1 hj with h | ⟨rfl, _⟩
              · exact hsub j h
              · exact hid) (fun e' he' => isL_set.2 (.inl (heff e' he'))) hsc hr'
        · obtain ⟨e, he, hel⟩ := hlater i q1 hid hie
          exact absurd (hT listed hd i q3 e hel) (hnlc e he)
end Go.SX
namespace Go.SX
/-! ### the checks that look at the text alone -/
abbrev Sch := List (Nat × Option (List Nat))
/-- a plan: quiet operations, effects (with the quiet ones that are looked at anew ahead of it), two effects in either order -/
inductive Tr where
  | nil
  | q (i : Nat) (r : Tr)
  | e (i : Nat) (js : List Nat) (r : Tr)
  | alt (js : List Nat) (i : Nat) (a : Tr) (j : Nat) (b : Tr)
def ofSch : Sch → Tr
  | [] => .nil
  | (i, none) :: r => .q i (ofSch r)
  | (i, some js) :: r => .e i js (ofSch r)
def Tr.idx : Tr → List Nat
  | .nil => []
  | .q i r => i :: r.idx
  | .e i _ r => i :: r.idx
  | .alt _ i a j b => i :: a.idx
def statB (all : Array Oper) (T : List (Nat × List Nat)) (fin : List Nat) : (eff done : List Nat) → Tr → Bool
  | eff, done, .nil => ((List.range all.size).all fun i => done.contains i) && done.all fun i => eff.contains i || (eff.any fun e => (lookL T e).contains i) || fin.contains i
  | eff, done, .q i r => !done.contains i && decide (i < all.size) && ((preds all i).all fun p => done.contains p) && statB all T fin eff (i :: done) r
  | eff, done, .e i js r => !done.contains i && decide (i < all.size) && ((preds all i).all fun p => done.contains p) &&
      ((List.range all.size).all fun j => done.contains j || j == i || (lookL T j).contains i) && (done.all fun j => eff.contains j || (eff.any fun e => (lookL T e).contains j) || js.contains j) && statB all T fin (i :: eff) (i :: done) r
  | eff, done, .alt js i a j b => (!done.contains i && decide (i < all.size) && (preds all i).all fun p => done.contains p) && (!done.contains j && decide (j < all.size) && (preds all j).all fun p => done.contains p) &&
      ((List.range all.size).all fun k => done.contains k || k == i || k == j || (lookL T k).contains i || (lookL T k).contains j) && (done.all fun k => eff.contains k || (eff.any fun e => (lookL T e).contains k) || js.contains k) &&
      statB all T fin (i :: eff) (i :: done) a && statB all T fin (j :: eff) (j :: done) b
def lookB (all : Array Oper) (T : List (Nat × List Nat)) : Bool :=
  ((List.range all.size).all fun i => match all[i]? with
    | none => true
    | some o => (o.looksAt all).all fun t => (List.range all.size).all fun j => match all[j]? with
      | none => true
      | some p => if p.dst = some t then (lookL T i).contains j else true) &&
  ((List.range all.size).all fun i => (List.range all.size).all fun j => i == j || match all[i]?, all[j]? with
    | some o, some p => o.dst.isNone || !(o.dst == p.dst)
    | _, _ => true)
theorem lookB_ok {all : Array Oper} {T : List (Nat × List Nat)} (h : lookB all T = true) : LookOk all T := by
  unfold lookB at h
  rw [Bool.and_eq_true] at h
  obtain ⟨h1, h2⟩ := h
  constructor
  · intro i o t j p hi ht hj hp
    have hil := (Array.getElem?_eq_some_iff.1 hi).1
    have hjl := (Array.getElem?_eq_some_iff.1 hj).1
    have := List.all_eq_true.1 h1 i (List.mem_range.2 hil)
    rw [hi] at this
    have := List.all_eq_true.1 this t ht
    have := List.all_eq_true.1 this j (List.mem_range.2 hjl)
    rw [hj] at this
    dsimp only at this
    rw [if_pos hp] at this
    simpa using this
  · intro i j o p t hi hj ho hp
    have hil := (Array.getElem?_eq_some_iff.1 hi).1
    have hjl := (Array.getElem?_eq_some_iff.1 hj).1
    have := List.all_eq_true.1 (List.all_eq_true.1 h2 i (List.mem_range.2 hil)) j (List.mem_range.2 hjl)
    rw [hi, hj] at this
    simp only [ho, hp, Option.isNone_some, Bool.false_or, Bool.or_eq_true, beq_iff_eq, beq_self_eq_true, Bool.not_true, Bool.or_false, Bool.false_eq_true, or_false] at this
    exact this
/-- all that the rules ask of the text -/
structure StaticOk (all : Array Oper) (T : List (Nat × List Nat)) (fin eff done : List Nat) (todo : Tr) : Prop where
  tab : TabOk all T
  look : LookOk all T
  ord : ordOk all done
  bd : ∀ i, i ∈ done → i < all.size
  st : statB all T fin eff done todo = true
def VChk (X : Cx) (all : Array Oper) (st : St) : List Nat → Prop
  | [] => True
  | i :: l => VQ X all st i ∧ VChk X all st l
theorem vchk_mem {X : Cx} {all : Array Oper} {st : St} : ∀ (l : List Nat), VChk X all st l → ∀ i, i ∈ l → VQ X all st i
  | [], _, i, h => by simp at h
  | j :: l, hv, i, h => by
    rcases List.mem_cons.1 h with rfl | h
    · exact hv.1
    · exact vchk_mem l hv.2 i h
theorem vall_of {X : Cx} {all : Array Oper} {T : List (Nat × List Nat)} {eff done js : List Nat} {st : St} (h : (done.all fun i => eff.contains i || (eff.any fun e => (lookL T e).contains i) || js.contains i) = true) (hv : VChk X all st js) : VAll X all T eff done st := by
  intro i hi
  have := List.all_eq_true.1 h i hi
  simp only [Bool.or_eq_true, List.any_eq_true, List.contains_iff_mem] at this
  rcases this with (h | h) | h
  · exact .inl h
  · exact .inr (.inl h)
  · exact .inr (.inr (vchk_mem js hv i h))
def DS (X : Cx) (all : Array Oper) (T : List (Nat × List Nat)) (fin eff done : List Nat) (todo : Tr) (N : St → Prop) (st : St) : Prop := StaticOk all T fin eff done todo → DSem X all T eff done N st
theorem ds_end {X : Cx} {all : Array Oper} {T : List (Nat × List Nat)} {fin eff done : List Nat} {N : St → Prop} {st : St} (hv : VChk X all st fin) (hN : N st) : DS X all T fin eff done .nil N st := by
  intro hs
  have h := hs.st
  simp only [statB, Bool.and_eq_true] at h
  refine dsem_end hs.tab hs.look hs.ord hs.bd (fun i hi => ?_) (vall_of h.2 hv) hN
  have := List.all_eq_true.1 h.1 i (List.mem_range.2 hi)
  simpa using this
theorem ds_quiet {X : Cx} {all : Array Oper} {T : List (Nat × List Nat)} {fin eff done : List Nat} {N : St → Prop} {st : St} {i : Nat} {r : Tr} {o : Oper} {φ : Prop} {y y' : XV} (hi : all[i]? = some o) (hf : fop X.P (evX st.fr) st.hp o.op = some (φ, y)) (hy : ∀ n, y.upTo n → y'.upTo n)
    (h : DS X all T fin eff (i :: done) r N ⟨frPut st.fr o.dst y', st.hp⟩) : DS X all T fin eff done (.q i r) N st := by
  intro hs
  have hst := hs.st
  simp only [statB, Bool.and_eq_true, Bool.not_eq_true', decide_eq_true_eq] at hst
  obtain ⟨⟨⟨h1, h2⟩, h3⟩, h4⟩ := hst
  have hp : ∀ p, p ∈ preds all i → p ∈ done := fun p hp => by simpa using List.all_eq_true.1 h3 p hp
  refine dsem_quiet hi (by simpa using h1) hf hy (h ⟨hs.tab, hs.look, ⟨hp, hs.ord⟩, fun j hj => ?_, h4⟩)
  rcases List.mem_cons.1 hj with rfl | hj
  · exact h2
  · exact hs.bd j hj
theorem ds_skip {X : Cx} {all : Array Oper} {T : List (Nat × List Nat)} {fin eff done : List Nat} {N : St → Prop} {st : St} {i : Nat} {r : Tr} {o : Oper} (hi : all[i]? = some o)
    (h : DS X all T fin eff (i :: done) r N ⟨frPut st.fr o.dst .any, st.hp⟩) : DS X all T fin eff done (.q i r) N st := by
  intro hs
  have hst := hs.st
  simp only [statB, Bool.and_eq_true, Bool.not_eq_true', decide_eq_true_eq] at hst
  obtain ⟨⟨⟨h1, h2⟩, h3⟩, h4⟩ := hst
  have hp : ∀ p, p ∈ preds all i → p ∈ done := fun p hp => by simpa using List.all_eq_true.1 h3 p hp
  refine dsem_put (y' := .any) hi (by simpa using h1) (fun _ _ _ => trivial) (h ⟨hs.tab, hs.look, ⟨hp, hs.ord⟩, fun j hj => ?_, h4⟩)
  rcases List.mem_cons.1 hj with rfl | hj
  · exact h2
  · exact hs.bd j hj
theorem ds_eff {X : Cx} {all : Array Oper} {T : List (Nat × List Nat)} {fin eff done js : List Nat} {N : St → Prop} {st : St} {e : Nat} {r : Tr} {o : Oper} {A : Prop} {R : XV → List XB → List Nat → Prop} (hv : VChk X all st js) (hi : all[e]? = some o) (hA : gd all st.fr o = some A) (he : A → EffK X (evX st.fr) st.hp o R)
    (h1 : A → ∀ y hp' S, R y hp' S → DS X all T fin (e :: eff) (e :: done) r N ⟨frPut (killF S st.fr) o.dst y, hp'⟩) (h2 : ¬ A → DS X all T fin (e :: eff) (e :: done) r N ⟨frPut st.fr o.dst .any, st.hp⟩) : DS X all T fin eff done (.e e js r) N st := by
  intro hs
  have hst := hs.st
  simp only [statB, Bool.and_eq_true, Bool.not_eq_true', decide_eq_true_eq] at hst
  obtain ⟨⟨⟨⟨⟨q1, q2⟩, q3⟩, q4⟩, q5⟩, q6⟩ := hst
  have hp : ∀ p, p ∈ preds all e → p ∈ done := fun p hp => by simpa using List.all_eq_true.1 q3 p hp
  have hb : ∀ i, i ∈ e :: done → i < all.size := fun j hj => by
    rcases List.mem_cons.1 hj with rfl | hj
    · exact q2
    · exact hs.bd j hj
  have hs' : StaticOk all T fin (e :: eff) (e :: done) r := ⟨hs.tab, hs.look, ⟨hp, hs.ord⟩, hb, q6⟩
  refine dsem_eff hs.tab hs.look ⟨hp, hs.ord⟩ hb (by simpa using q1) (fun i hil hni hne => ?_) (vall_of q5 hv) hi hA he (fun hAA y hp' S hR => h1 hAA y hp' S hR hs') (fun hAA => h2 hAA hs')
  have := List.all_eq_true.1 q4 i (List.mem_range.2 hil)
  simp only [Bool.or_eq_true, beq_iff_eq, List.contains_iff_mem] at this
  rcases this with (h | h) | h
  · exact absurd h hni
  · exact absurd h hne
  · exact h
theorem ds_alt {X : Cx} {all : Array Oper} {T : List (Nat × List Nat)} {fin eff done js : List Nat} {N : St → Prop} {st : St} {i j : Nat} {a b : Tr} {o p : Oper} {A B : Prop} {R R' : XV → List XB → List Nat → Prop} (hv : VChk X all st js)
    (hi : all[i]? = some o) (hA : gd all st.fr o = some A) (he : A → EffK X (evX st.fr) st.hp o R) (h1 : A → ∀ y hp' S, R y hp' S → DS X all T fin (i :: eff) (i :: done) a N ⟨frPut (killF S st.fr) o.dst y, hp'⟩) (h2 : ¬ A → DS X all T fin (i :: eff) (i :: done) a N ⟨frPut st.fr o.dst .any, st.hp⟩)
    (hj : all[j]? = some p) (hB : gd all st.fr p = some B) (hf : B → EffK X (evX st.fr) st.hp p R') (g1 : B → ∀ y hp' S, R' y hp' S → DS X all T fin (j :: eff) (j :: done) b N ⟨frPut (killF S st.fr) p.dst y, hp'⟩) (g2 : ¬ B → DS X all T fin (j :: eff) (j :: done) b N ⟨frPut st.fr p.dst .any, st.hp⟩) :
    DS X all T fin eff done (.alt js i a j b) N st := by
  intro hs
  have hst := hs.st
  simp only [statB, Bool.and_eq_true, Bool.not_eq_true', decide_eq_true_eq] at hst
  obtain ⟨⟨⟨⟨⟨⟨⟨q1, q2⟩, q3⟩, ⟨p1, p2⟩, p3⟩, q4⟩, q5⟩, q6⟩, q7⟩ := hst
  have hp : ∀ x, x ∈ preds all i → x ∈ done := fun x hx => by simpa using List.all_eq_true.1 q3 x hx
  have hq : ∀ x, x ∈ preds all j → x ∈ done := fun x hx => by simpa using List.all_eq_true.1 p3 x hx
  have hbi : ∀ x, x ∈ i :: done → x < all.size := fun x hx => by
    rcases List.mem_cons.1 hx with rfl | hx
    · exact q2
    · exact hs.bd x hx
  have hbj : ∀ x, x ∈ j :: done → x < all.size := fun x hx => by
    rcases List.mem_cons.1 hx with rfl | hx
    · exact p2
    · exact hs.bd x hx
  have hsi : StaticOk all T fin (i :: eff) (i :: done) a := ⟨hs.tab, hs.look, ⟨hp, hs.ord⟩, hbi, q6⟩
  have hsj : StaticOk all T fin (j :: eff) (j :: done) b := ⟨hs.tab, hs.look, ⟨hq, hs.ord⟩, hbj, q7⟩
  refine dsem_cands (cands := [i, j]) hs.tab hs.look i (List.mem_cons_self ..) hs.ord hs.bd ?_ (fun k hk hnd hnc => ?_) (vall_of q5 hv) ?_
  · intro e he
    simp only [List.mem_cons, List.not_mem_nil, or_false] at he
    rcases he with rfl | rfl
    · exact ⟨q2, by simpa using q1, hp⟩
    · exact ⟨p2, by simpa using p1, hq⟩
  · have := List.all_eq_true.1 q4 k (List.mem_range.2 hk)
    simp only [Bool.or_eq_true, beq_iff_eq, List.contains_iff_mem] at this
    simp only [List.mem_cons, List.not_mem_nil, or_false, not_or] at hnc
    rcases this with (((h | h) | h) | h) | h
    · exact absurd h hnd
    · exact absurd h hnc.1
    · exact absurd h hnc.2
    · exact ⟨i, by simp, h⟩
    · exact ⟨j, by simp, h⟩
  · intro e hem
    simp only [List.mem_cons, List.not_mem_nil, or_false] at hem
    rcases hem with rfl | rfl
    · exact ⟨o, A, R, hi, hA, he, fun hAA y hp' S hR => h1 hAA y hp' S hR hsi, fun hAA => h2 hAA hsi⟩
    · exact ⟨p, B, R', hj, hB, hf, fun hBB y hp' S hR => g1 hBB y hp' S hR hsj, fun hBB => g2 hBB hsj⟩
end Go.SX
