/- SX: calls by contract: the names of the callee's blocks, before and after. Own work. -/
import Derived.Test.YtpaklnjfcjcdaaaDoorSX14
namespace Go.SX
set_option linter.unusedVariables false
set_option linter.unusedSimpArgs false

def sel1 (sel : List Nat) (n m : Nat) : List Nat := sel ++ List.range' n (m - sel.length)
def putH : List Nat → List XB → List XB → List XB
  | b :: s, x :: xs, h => (putH s xs h).set b x
  | _, _, h => h
def outH (hp : List XB) (sel : List Nat) (hp' : List XB) : List XB :=
  putH sel ((hp'.map (XB.ren (sel1 sel hp.length hp'.length))).take sel.length) hp ++ (hp'.map (XB.ren (sel1 sel hp.length hp'.length))).drop sel.length

theorem putH_length : ∀ (sel : List Nat) (xs h : List XB), (putH sel xs h).length = h.length := by
  intro sel
  induction sel with
  | nil => intro xs h; cases xs <;> rfl
  | cons b s ih => intro xs h; cases xs with
    | nil => rfl
    | cons x xs => simp [putH, ih]
theorem putH_other : ∀ (sel : List Nat) (xs h : List XB) (b : Nat), b ∉ sel → (putH sel xs h)[b]? = h[b]? := by
  intro sel
  induction sel with
  | nil => intro xs h b _; cases xs <;> rfl
  | cons c s ih => intro xs h b hb; cases xs with
    | nil => rfl
    | cons x xs =>
      simp only [List.mem_cons, not_or] at hb
      simp only [putH]
      rw [List.getElem?_set_ne (fun e => hb.1 e.symm)]
      exact ih xs h b hb.2
theorem putH_at : ∀ (sel : List Nat) (xs h : List XB) (j b : Nat) (x : XB), sel.Nodup → sel[j]? = some b → xs[j]? = some x → b < h.length → (putH sel xs h)[b]? = some x := by
  intro sel
  induction sel with
  | nil => intro xs h j b x _ hj; simp at hj
  | cons c s ih =>
    intro xs h j b x hn hj hx hb
    rw [List.nodup_cons] at hn
    cases xs with
    | nil => simp at hx
    | cons y xs =>
      simp only [putH]
      cases j with
      | zero =>
        simp only [List.getElem?_cons_zero, Option.some.injEq] at hj hx
        subst hj; subst hx
        exact List.getElem?_set_self (by rw [putH_length]; exact hb)
      | succ j =>
        simp only [List.getElem?_cons_succ] at hj hx
        rw [List.getElem?_set_ne (fun (e : c = b) => hn.1 (by rw [e]; exact List.mem_of_getElem? hj))]
        exact ih xs h j b x hn.2 hj hx hb

section
variable {hp hp' : List XB} {sel : List Nat}
theorem sel1_length (hl : sel.length ≤ hp'.length) : (sel1 sel hp.length hp'.length).length = hp'.length := by simp [sel1]; omega
theorem sel1_old {j : Nat} (hj : j < sel.length) : (sel1 sel hp.length hp'.length)[j]? = sel[j]? := List.getElem?_append_left hj
theorem sel1_new {j : Nat} (hj : sel.length ≤ j) (hj' : j < hp'.length) : (sel1 sel hp.length hp'.length)[j]? = some (hp.length + (j - sel.length)) := by
  unfold sel1
  rw [List.getElem?_append_right hj, List.getElem?_range' (by omega)]
  simp
theorem sel1_nodup (hn : sel.Nodup) (hb : ∀ b, b ∈ sel → b < hp.length) : (sel1 sel hp.length hp'.length).Nodup := by
  unfold sel1
  rw [List.nodup_append]
  refine ⟨hn, List.nodup_range', fun a ha b hb' e => ?_⟩
  subst e
  have := hb a ha
  have := (List.mem_range'_1.1 hb').1
  omega
theorem outH_length (hl : sel.length ≤ hp'.length) : (outH hp sel hp').length = hp.length + (hp'.length - sel.length) := by
  simp [outH, putH_length]
theorem outH_other {b : Nat} (hb : b ∉ sel) (hlt : b < hp.length) : (outH hp sel hp')[b]? = hp[b]? := by
  unfold outH
  rw [List.getElem?_append_left (by rw [putH_length]; exact hlt)]
  exact putH_other _ _ _ b hb
theorem outH_at {j b : Nat} {xb : XB} (hn : sel.Nodup) (hbl : ∀ b, b ∈ sel → b < hp.length) (hl : sel.length ≤ hp'.length) (hj : (sel1 sel hp.length hp'.length)[j]? = some b) (hx : hp'[j]? = some xb) :
    (outH hp sel hp')[b]? = some (xb.ren (sel1 sel hp.length hp'.length)) := by
  have hxr : (hp'.map (XB.ren (sel1 sel hp.length hp'.length)))[j]? = some (xb.ren (sel1 sel hp.length hp'.length)) := by rw [List.getElem?_map, hx]; rfl
  have hlt := (List.getElem?_eq_some_iff.1 hx).1
  by_cases h : j < sel.length
  · rw [sel1_old h] at hj
    have hb := hbl b (List.mem_of_getElem? hj)
    unfold outH
    rw [List.getElem?_append_left (by rw [putH_length]; exact hb)]
    refine putH_at _ _ _ j b _ hn hj ?_ hb
    rw [List.getElem?_take_of_lt h]
    exact hxr
  · rw [sel1_new (by omega) hlt] at hj
    simp only [Option.some.injEq] at hj
    subst hj
    unfold outH
    rw [List.getElem?_append_right (by rw [putH_length]; omega), putH_length, List.getElem?_drop]
    rw [show sel.length + (hp.length + (j - sel.length) - hp.length) = j from by omega]
    exact hxr
theorem outH_inv {b : Nat} {xb : XB} (hn : sel.Nodup) (hbl : ∀ b, b ∈ sel → b < hp.length) (hl : sel.length ≤ hp'.length) (h : (outH hp sel hp')[b]? = some xb) :
    (∃ (j : Nat) (xb' : XB), (sel1 sel hp.length hp'.length)[j]? = some b ∧ hp'[j]? = some xb' ∧ xb = xb'.ren (sel1 sel hp.length hp'.length)) ∨ (b ∉ sel1 sel hp.length hp'.length ∧ b < hp.length ∧ hp[b]? = some xb) := by
  by_cases hb : b ∈ sel1 sel hp.length hp'.length
  · obtain ⟨j, hj⟩ := List.mem_iff_getElem?.1 hb
    have hlt : j < hp'.length := by have := (List.getElem?_eq_some_iff.1 hj).1; rw [sel1_length hl] at this; exact this
    have := outH_at hn hbl hl hj (List.getElem?_eq_getElem hlt)
    rw [this, Option.some.injEq] at h
    exact .inl ⟨j, _, hj, List.getElem?_eq_getElem hlt, h.symm⟩
  · have hlt : b < hp.length := by
      have h1 := (List.getElem?_eq_some_iff.1 h).1
      rw [outH_length hl] at h1
      rcases Nat.lt_or_ge b hp.length with h2 | h2
      · exact h2
      · exfalso
        refine hb ?_
        unfold sel1
        exact List.mem_append_right _ (List.mem_range'_1.2 ⟨h2, by omega⟩)
    have hbs : b ∉ sel := fun hm => hb (List.mem_append_left _ hm)
    rw [outH_other hbs hlt] at h
    exact .inr ⟨hb, hlt, h⟩
end

theorem inv_weak {X : Cx} {γ : Gh} {w : World} {hp : List XB} (hI : Inv X γ w hp) : Inv { X with n0 := 0, kn := fun _ => False } γ w hp :=
  ⟨hI.good, hI.inj, hI.own, hI.ro, hI.ro0, hI.roX, hI.sc, ⟨hI.keep.os, hI.keep.tape, hI.keep.output, hI.keep.size, hI.keep.block⟩, Nat.zero_le _, fun _ h => h.elim, fun _ h => h.elim⟩

/-- the callee's ghost at its entry -/
def ghIn (γ : Gh) (hp : List XB) (sel S : List Nat) : Gh := { γ.sel sel with ro := roS γ hp S }
theorem roS_lt {X : Cx} {γ : Gh} {w : World} {hp : List XB} {S : List Nat} (hI : Inv X γ w hp) {k : Nat} (h : roS γ hp S k) : k < w.heap.size := by
  rcases h with h | ⟨b, xb, _, hb, hs, rfl⟩
  · exact (hI.ro k h).1
  · exact (hI.own b xb hb hs).1

theorem live_of {γ : Gh} {hp : List XB} {b : Nat} {xb : XB} (hb : hp.getD b .dead = xb) (hs : solid γ b xb) : hp[b]? = some xb := by
  rw [List.getD_eq_getElem?_getD] at hb
  cases hg : hp[b]? with
  | none => rw [hg] at hb; simp only [Option.getD_none] at hb; subst hb; exact hs.elim
  | some y => rw [hg] at hb; simp only [Option.getD_some] at hb; rw [hb]

theorem con_pre {X : Cx} {γ : Gh} {w : World} {hp hp0 : List XB} {sel S kd : List Nat} (hI : Inv X γ w hp) (hsel : hp0.map (XB.ren sel) = sel.map fun b => hp.getD b .dead) (hnd : sel.Nodup) (hs : scH hp0) (hS : ∀ b, b ∈ S → b ∉ sel) :
    Inv (cxM X.P w (roS γ hp S) (ghIn γ hp sel S) hp0 kd) (ghIn γ hp sel S) w hp0 := by
  have h1 := inv_sel (inv_weak hI) hsel hnd hs (Nat.zero_le _) (fun b h => h.elim)
  have solidEq : ∀ j xb, solid (ghIn γ hp sel S) j xb ↔ solid (γ.sel sel) j xb := fun j xb => by cases xb <;> exact Iff.rfl
  have hlen : hp0.length = sel.length := by have := congrArg List.length hsel; simpa using this
  have src : ∀ j xb, hp0[j]? = some xb → solid (γ.sel sel) j xb → ∃ b, sel[j]? = some b ∧ hp[b]? = some (xb.ren sel) ∧ solid γ b (xb.ren sel) ∧ (γ.sel sel).blk j = γ.blk b := by
    intro j xb hj hso
    have h2 : (hp0.map (XB.ren sel))[j]? = some (xb.ren sel) := by rw [List.getElem?_map, hj]; rfl
    rw [hsel, List.getElem?_map, Option.map_eq_some_iff] at h2
    obtain ⟨b, hb, he⟩ := h2
    have hb0 : sel.getD j 0 = b := by rw [List.getD_eq_getElem?_getD, hb]; rfl
    have hs2 : solid γ b (xb.ren sel) := by
      have : solid γ (sel.getD j 0) (xb.ren sel) := by cases xb <;> exact hso
      rwa [hb0] at this
    exact ⟨b, hb, live_of he hs2, hs2, by show γ.blk (sel.getD j 0) = _; rw [hb0]⟩
  have notro : ∀ j xb, hp0[j]? = some xb → solid (γ.sel sel) j xb → ¬ roS γ hp S ((γ.sel sel).blk j) := by
    intro j xb hj hso hro
    obtain ⟨b, hb, hb2, hs2, he⟩ := src j xb hj hso
    rw [he] at hro
    rcases hro with hro | ⟨c, xc, hc, hc2, hc3, hc4⟩
    · exact (hI.own b _ hb2 hs2).2.1 hro
    · have := hI.inj c b xc _ hc2 hb2 hc3 hs2 hc4
      subst this
      exact hS c hc (List.mem_of_getElem? hb)
  refine ⟨fun j xb hj => ?_, fun j j' y y' q1 q2 s1 s2 he => h1.inj j j' y y' q1 q2 ((solidEq _ _).1 s1) ((solidEq _ _).1 s2) he, fun j xb hj hso => ?_, fun k hk => ?_, fun _ h => h, fun _ h => .inl h, hs, ⟨rfl, rfl, rfl, Nat.le_refl _, fun _ _ _ => rfl⟩, Nat.le_refl _, fun _ h => h.1, fun _ _ => ⟨rfl, rfl, rfl⟩⟩
  · exact GoodB.mono (γ := γ.sel sel) (S := []) ⟨fun _ _ => rfl, fun _ _ => rfl, fun _ _ => rfl, fun _ h => Or.inl h⟩ (fun _ _ => rfl) (by simp) (fun _ => rfl) (fun _ _ _ x _ => XC.free_nil x) (h1.good j xb hj)
  · have hso' := (solidEq _ _).1 hso
    exact ⟨(h1.own j xb hj hso').1, notro j xb hj hso', .inr ⟨j, xb, hj, hso, rfl⟩⟩
  · refine ⟨roS_lt hI hk, fun _ hf => ?_⟩
    obtain ⟨j, xb, hj, hso, rfl⟩ := hf
    exact notro j xb hj ((solidEq _ _).1 hso) hk
end Go.SX
