/- SX: weaker states, more; loops told by what they change. Own work. -/
import Derived.Test.YtpaklnjfcjcdaaaDoorSX17
namespace Go.SX
set_option linter.unusedVariables false
set_option linter.unusedSimpArgs false

def anyOk : XC → Bool
  | .d (.val u) => one u
  | .cond _ _ => false
  | _ => true
def celle : List XC → List XC → Prop
  | [], [] => True
  | c :: l, d :: m => (d = c ∨ (d = .d .any ∧ anyOk c = true)) ∧ celle l m
  | _, _ => False
/-- y says at most what x says -/
def xble : XB → XB → Prop
  | _, .dead => True
  | .box l T, .box l' T' => T' = T ∧ celle l l'
  | .ob o, .ob o' => o' = o
  | .row k n g T, .row k' n' g' T' => k' = k ∧ n' = n ∧ T' = T ∧ ∀ i, i < n → ∀ c, c < k → g' i c = g i c
  | _, _ => False
def wkB : List XB → List XB → Prop
  | _, [] => True
  | a :: l, b :: m => xble a b ∧ wkB l m
  | _, _ => False
theorem celle_rep {γ : Gh} {w : World} : ∀ (l m : List XC) (vs : List Value), celle l m → All2 (RepC γ w) l vs → All2 (RepC γ w) m vs
  | [], [], vs, _, h => h
  | c :: l, d :: m, vs, h, hl => by
    cases hl with
    | cons h1 h2 =>
      refine .cons ?_ (celle_rep l m _ h.2 h2)
      rcases h.1 with rfl | ⟨rfl, hn⟩
      · exact h1
      · cases c with
        | d x =>
          cases x with
          | val u => have h1 : _ = _ := h1; subst h1; exact hn
          | any => exact h1
          | ros k n g => obtain ⟨a, cap, rfl, _⟩ := h1; rfl
          | rop k g => obtain ⟨b, o, rfl, _⟩ := h1; rfl
        | ptr b k i o => have h1 : _ = _ := h1; subst h1; rfl
        | slc b k i n => obtain ⟨a, cap, rfl, _⟩ := h1; rfl
        | clo f bs => have h1 : _ = _ := h1; subst h1; rfl
        | cond φ x => simp [anyOk] at hn
  | [], _ :: _, _, h, _ => h.elim
  | _ :: _, [], _, h, _ => h.elim
theorem xble_good {γ : Gh} {w : World} {b : Nat} (x y : XB) (h : xble x y) (hg : GoodB γ w b x) : GoodB γ w b y := by
  cases y with
  | dead => trivial
  | box l' T' =>
    cases x with
    | box l T => obtain ⟨rfl, h⟩ := h; obtain ⟨h0, h1, vs, hv, hl⟩ := hg; exact ⟨h0, h1, vs, hv, celle_rep l l' vs h hl⟩
    | dead => exact h.elim
    | ob o => exact h.elim
    | row k n g T => exact h.elim
  | ob o' =>
    cases x with
    | ob o => have h : o' = o := h; subst h; exact hg
    | dead => exact h.elim
    | box l T => exact h.elim
    | row k n g T => exact h.elim
  | row k' n' g' T' =>
    cases x with
    | row k n g T =>
      obtain ⟨rfl, rfl, rfl, h⟩ := h
      obtain ⟨h0, h1⟩ := hg
      refine ⟨h0, h1.imp id ?_⟩
      rintro ⟨arr, fz, ha, hz, hs, ho, hc⟩
      refine ⟨arr, fz, ha, hz, hs, ho, fun i hi c hck => ?_⟩
      rw [h i hi c hck]
      exact hc i hi c hck
    | dead => exact h.elim
    | ob o => exact h.elim
    | box l T => exact h.elim
theorem xble_solid {γ : Gh} {b : Nat} (x y : XB) (h : xble x y) (hs : solid γ b y) : solid γ b x := by
  cases y with
  | dead => exact hs.elim
  | box l' T' =>
    cases x with
    | box l T => trivial
    | dead => exact h.elim
    | ob o => exact h.elim
    | row k n g T => exact h.elim
  | ob o' =>
    cases x with
    | ob o => trivial
    | dead => exact h.elim
    | box l T => exact h.elim
    | row k n g T => exact h.elim
  | row k' n' g' T' =>
    cases x with
    | row k n g T => exact hs
    | dead => exact h.elim
    | ob o => exact h.elim
    | box l T => exact h.elim
theorem wkB_get : ∀ (l m : List XB), wkB l m → ∀ (b : Nat) (y : XB), m[b]? = some y → ∃ x, l[b]? = some x ∧ xble x y
  | _, [], _, b, y, h => by simp at h
  | [], _ :: _, h, _, _, _ => h.elim
  | a :: l, c :: m, h, b, y, hb => by
    cases b with
    | zero => simp only [List.getElem?_cons_zero, Option.some.injEq] at hb; subst hb; exact ⟨a, rfl, h.1⟩
    | succ b => simp only [List.getElem?_cons_succ] at hb; simpa using wkB_get l m h.2 b y hb
theorem inv_wkB {X : Cx} {γ : Gh} {w : World} {hp hp' : List XB} (hI : Inv X γ w hp) (h : wkB hp hp') (hs : scB hp'.length hp') (hn : X.n0 ≤ hp'.length) : Inv X γ w hp' := by
  refine ⟨fun b y hb => ?_, fun b b' y y' h1 h2 s1 s2 he => ?_, fun b y hb hso => ?_, hI.ro, hI.ro0, hI.roX, scB_all _ _ hs, hI.keep, hn, hI.kl, hI.nm⟩
  · obtain ⟨x, hx, hle⟩ := wkB_get _ _ h b y hb
    exact xble_good x y hle (hI.good b x hx)
  · obtain ⟨x, hx, hle⟩ := wkB_get _ _ h b y h1
    obtain ⟨x', hx', hle'⟩ := wkB_get _ _ h b' y' h2
    exact hI.inj b b' x x' hx hx' (xble_solid x y hle s1) (xble_solid x' y' hle' s2) he
  · obtain ⟨x, hx, hle⟩ := wkB_get _ _ h b y hb
    exact hI.own b x hx (xble_solid x y hle hso)
theorem wk_mkB {X : Cx} {st st' : St} (hf : wkF st.fr st'.fr) (hh : wkB st.hp st'.hp) (h1 : scF st'.hp.length st'.fr) (h2 : scB st'.hp.length st'.hp) (hn : X.n0 ≤ st'.hp.length) : Wk X st st' := by
  rintro a w ⟨γ, hr⟩
  obtain ⟨vs, hvs, hl⟩ := hr.fr
  exact ⟨γ, inv_wkB hr.inv hh h2 hn, hr.df, ⟨vs, hvs, all2_xle (wkF_all2 _ _ hf) hl⟩, scF_all _ _ h1⟩
theorem loopJ_mk {α : Type} {X : Cx} {S : α → St} {I : α → Prop} {m : α → Nat} {x : α} {st : St} (y : α) (hI : I y) (hm : m y < m x) (hf : wkF st.fr (S y).fr) (hh : wkB st.hp (S y).hp) (h1 : scF (S y).hp.length (S y).fr) (h2 : scB (S y).hp.length (S y).hp) (hn : X.n0 ≤ (S y).hp.length) : LoopJ X S I m x st :=
  ⟨y, hI, hm, wk_mkB hf hh h1 h2 hn⟩

/-! ### loops told by what they change -/
def overD : List Nat → List XV → List XV
  | [], fr => fr
  | d :: l, fr => overD l (fr.set d .any)
def overS : List (Nat × XV) → List XV → List XV
  | [], fr => fr
  | p :: l, fr => overS l (fr.set p.1 p.2)
def overB : List (Nat × XB) → List XB → List XB
  | [], hp => hp
  | p :: l, hp => overB l (hp.set p.1 p.2)
def overSt {α : Type} (dead : List Nat) (ov : α → List (Nat × XV)) (ob : α → List (Nat × XB)) (st : St) (x : α) : St := ⟨overS (ov x) (overD dead st.fr), overB (ob x) st.hp⟩
theorem ev_over {X : Cx} {Q : KX} {k : List It} {α : Type} {st : St} {c : Code} (dead : List Nat) (ov : α → List (Nat × XV)) (ob : α → List (Nat × XB)) (I : α → Prop) (m : α → Nat) (x0 : α) (h0 : I x0) (e0 : Wk X st (overSt dead ov ob st x0))
    (round : ∀ x, I x → SC X Q 400 (.c c :: .inv (LoopJ X (overSt dead ov ob st) I m x) :: k) (overSt dead ov ob st x)) : EvC X Q (.loop c) k st :=
  ev_loop (overSt dead ov ob st) I m x0 h0 e0 round

/-! ### a nil slice as a row without elements -/
theorem wk_adopt {X : Cx} {st : St} (t k : Nat) (g : Nat → Nat → XD) (T : TypeId) (ht : st.fr[t]? = some (.c (.d (.val (.slice none 0 0))))) : Wk X st ⟨st.fr.set t (.c (.slc st.hp.length k 0 0)), st.hp ++ [.row k 0 g T]⟩ := by
  rintro a w ⟨γ, hr⟩
  obtain ⟨vs, hvs, hl⟩ := hr.fr
  have hext := γ.put_ext st.hp.length 0 0 0
  refine ⟨γ.put st.hp.length 0 0 0, inv_adopt hr.inv, hr.df, ⟨vs, hvs, ?_⟩, ?_⟩
  · have h1 : All2 (RepV (γ.put st.hp.length 0 0 0) w) st.fr vs := hl.monoMem fun x u hx => RepV.mono hext (fun _ _ => rfl) x u (XV.free_of_upTo (n := st.hp.length) (by simp) x (hr.sc x hx))
    obtain ⟨v, hv, hrv⟩ := hl.get t _ ht
    have hv2 : v = .slice none 0 0 := hrv
    have : vs = vs.set t v := by
      apply List.ext_getElem?
      intro i
      by_cases e : t = i
      · subst e; rw [List.getElem?_set_self (List.getElem?_eq_some_iff.1 hv).1]; exact hv
      · rw [List.getElem?_set_ne e]
    rw [this]
    exact h1.set (show RepV _ _ (.c (.slc st.hp.length k 0 0)) v from ⟨none, 0, hv2, Nat.le_refl _, .inl rfl⟩) t
  · intro x hx
    show x.upTo (st.hp ++ [XB.row k 0 g T]).length
    rcases List.mem_or_eq_of_mem_set hx with h1 | rfl
    · exact XV.upTo_mono (by simp) x (hr.sc x h1)
    · show _ < _; simp
theorem ev_adopt {X : Cx} {Q : KX} {c : Code} {k : List It} {st : St} (t w : Nat) (g : Nat → Nat → XD) (T : TypeId) (ht : st.fr[t]? = some (.c (.d (.val (.slice none 0 0))))) (h : EvC X Q c k ⟨st.fr.set t (.c (.slc st.hp.length w 0 0)), st.hp ++ [.row w 0 g T]⟩) : EvC X Q c k st :=
  sx_weaken (wk_adopt t w g T ht) h

/-! ### rows of data -/
def rowG {α : Type} [Inhabited α] (enc : α → List XD) (l : List α) : Nat → Nat → XD := fun i c => (enc (l.getD i default)).getD c .any
theorem rowG_at {α : Type} [Inhabited α] (enc : α → List XD) (l : List α) (i c : Nat) : rowG enc l i c = (enc (l.getD i default)).getD c .any := rfl
theorem rowG_snoc {α : Type} [Inhabited α] (enc : α → List XD) (l : List α) (a : α) (k : Nat) (ds : List XD) (hd : enc a = ds) (hk : ds.length = k) : ∀ i, i < l.length + 1 → ∀ c, c < k → rowG enc (l ++ [a]) i c = appG l.length (rowG enc l) (rowOf k ds) i c := by
  intro i hi c hc
  unfold appG rowG rowOf
  split
  · rename_i h
    have : (l ++ [a]).getD i default = l.getD i default := by
      simp only [List.getD_eq_getElem?_getD, List.getElem?_append_left h]
    rw [this]
  · rename_i h
    have : i = l.length := by omega
    subst this
    have : (l ++ [a]).getD l.length default = a := by simp [List.getD_eq_getElem?_getD]
    rw [this, hd]
    simp
attribute [push_cast] overSt overS overD overB rowG_at
@[push_cast] theorem wkB_nil (l : List XB) : wkB l [] = True := by cases l <;> rfl
@[push_cast] theorem wkB_cons (a b : XB) (l m : List XB) : wkB (a :: l) (b :: m) = (xble a b ∧ wkB l m) := rfl
attribute [push_cast] xble celle anyOk one
end Go.SX
