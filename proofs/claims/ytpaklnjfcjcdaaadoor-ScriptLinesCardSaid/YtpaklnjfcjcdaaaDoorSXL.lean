/- SX: append; bytes and strings; new rows. Own work. -/
import Derived.Test.YtpaklnjfcjcdaaaDoorSXK
namespace Go.SX
set_option linter.unusedVariables false
set_option linter.unusedSimpArgs false

/-! ### boxes that spoke of a name that has moved -/
def notCond' : XC → Bool
  | .cond _ _ => false
  | _ => true
def XC.killC (S : List Nat) (c : XC) : XC := if c.has S then .d .any else c
def killB (S : List Nat) : XB → XB
  | .box l T => .box (l.map (XC.killC S)) T
  | x => x
def okB (S : List Nat) : XB → Prop
  | .box l _ => ∀ c, c ∈ l → c.has S = true → notCond' c = true
  | _ => True
def okH (S : List Nat) : List XB → Prop
  | [] => True
  | x :: l => okB S x ∧ okH S l
theorem okH_spec {S : List Nat} : ∀ (h : List XB), okH S h → ∀ x, x ∈ h → okB S x
  | [], _, x, hx => by simp at hx
  | y :: l, h, x, hx => by
    rcases List.mem_cons.1 hx with rfl | hx
    · exact h.1
    · exact okH_spec l h.2 x hx
theorem killC_rep {γ : Gh} {w : World} {S : List Nat} {c : XC} {v : Value} (hn : c.has S = true → notCond' c = true) (h : RepC γ w c v) : RepC γ w (c.killC S) v := by
  unfold XC.killC
  split
  · rename_i hs
    have hn := hn hs
    cases c with
    | d x => simp [XC.has] at hs
    | ptr b k i o => have h : v = _ := h; subst h; rfl
    | slc b k i n => obtain ⟨a, cap, rfl, _⟩ := h; rfl
    | clo f bs => have h : v = _ := h; subst h; rfl
    | cond φ x => simp [notCond'] at hn
  · exact h
theorem killC_free (S : List Nat) (c : XC) : (c.killC S).free S := by
  unfold XC.killC
  split
  · trivial
  · rename_i h; exact XC.has_free c (by simpa using h)
theorem killC_upTo {S : List Nat} {c : XC} {n : Nat} (h : c.upTo n) : (c.killC S).upTo n := by
  unfold XC.killC
  split
  · trivial
  · exact h
theorem killL_rep {γ : Gh} {w : World} {S : List Nat} : ∀ (l : List XC) (vs : List Value), (∀ c, c ∈ l → c.has S = true → notCond' c = true) → All2 (RepC γ w) l vs → All2 (RepC γ w) (l.map (XC.killC S)) vs := by
  intro l vs hn h
  induction h with
  | nil => exact .nil
  | cons h _ ih => exact .cons (killC_rep (hn _ (List.mem_cons_self ..)) h) (ih fun c hc => hn c (List.mem_cons_of_mem _ hc))
/-- The boxes forget a name. -/
theorem inv_kill {X : Cx} {γ : Gh} {w : World} {hp : List XB} {S : List Nat} (hI : Inv X γ w hp) (hk : okH S hp) : Inv X γ w (hp.map (killB S)) := by
  have look : ∀ b xb, (hp.map (killB S))[b]? = some xb → ∃ yb, hp[b]? = some yb ∧ xb = killB S yb := fun b xb h => by
    rw [List.getElem?_map, Option.map_eq_some_iff] at h
    obtain ⟨yb, h1, rfl⟩ := h
    exact ⟨yb, h1, rfl⟩
  have sol : ∀ b yb, solid γ b (killB S yb) ↔ solid γ b yb := fun b yb => by cases yb <;> exact Iff.rfl
  refine ⟨fun b xb hb => ?_, fun b b' y y' h1 h2 s1 s2 he => ?_, fun b y h1 s1 => ?_, hI.ro, hI.ro0, hI.roX, fun b l T hb x hx => ?_, hI.keep, by rw [List.length_map]; exact hI.nl, hI.kl, hI.nm⟩
  · obtain ⟨yb, h1, rfl⟩ := look b xb hb
    have hg := hI.good b yb h1
    cases yb with
    | dead => trivial
    | box l T => obtain ⟨h0, h2, vs, hv, hl⟩ := hg; exact ⟨h0, h2, vs, hv, killL_rep l vs (okH_spec hp hk _ (List.mem_of_getElem? h1)) hl⟩
    | row k n g T => exact hg
    | ob o => exact hg
  · obtain ⟨yb, q1, rfl⟩ := look b y h1
    obtain ⟨yb', q2, rfl⟩ := look b' y' h2
    exact hI.inj b b' yb yb' q1 q2 ((sol _ _).1 s1) ((sol _ _).1 s2) he
  · obtain ⟨yb, q1, rfl⟩ := look b y h1
    exact hI.own b yb q1 ((sol _ _).1 s1)
  · obtain ⟨yb, q1, he⟩ := look b _ hb
    rw [List.length_map]
    cases yb with
    | dead => simp [killB] at he
    | row k n g T => simp [killB] at he
    | ob o => simp [killB] at he
    | box l' T' =>
      simp only [killB, XB.box.injEq] at he
      obtain ⟨rfl, rfl⟩ := he
      obtain ⟨c, hc, rfl⟩ := List.mem_map.1 hx
      exact killC_upTo (hI.sc b l' _ q1 c hc)
theorem killB_free (S : List Nat) (xb : XB) (l : List XC) (T : TypeId) (h : killB S xb = .box l T) : ∀ x, x ∈ l → x.free S := by
  cases xb with
  | dead => simp [killB] at h
  | row k n g T => simp [killB] at h
  | ob o => simp [killB] at h
  | box l' T' =>
    simp only [killB, XB.box.injEq] at h
    obtain ⟨rfl, rfl⟩ := h
    intro x hx
    obtain ⟨c, hc, rfl⟩ := List.mem_map.1 hx
    exact killC_free S c
/-- A named block moves to a new one. -/
theorem inv_move {X : Cx} {γ : Gh} {w w' : World} {hp : List XB} {b cap k n : Nat} {g : Nat → Nat → XD} {T : TypeId} (hI : Inv X γ w hp) (hk : okH [b] hp) (hb : b < hp.length) (hkn : ¬ X.kn b)
    (hw : ∀ k, k < w.heap.size → w'.heap[k]? = w.heap[k]?) (hos : w'.os = w.os) (hta : w'.tape = w.tape) (hou : w'.output = w.output) (hsz : w'.heap.size = w.heap.size + 1)
    (hg : GoodB (γ.put b w.heap.size 0 cap) w' b (.row k n g T)) :
    Inv X (γ.put b w.heap.size 0 cap) w' ((hp.map (killB [b])).set b (.row k n g T)) ∧ ∀ b, γ.ro b → w'.heap[b]? = w.heap[b]? := by
  have hK := inv_kill hI hk
  have hbl : b < (hp.map (killB [b])).length := by rw [List.length_map]; exact hb
  have hro : ∀ k, γ.ro k → w'.heap[k]? = w.heap[k]? := fun k hk => hw k (hI.ro k hk).1
  have hext := γ.put_ext b w.heap.size 0 cap
  have look : ∀ c y, ((hp.map (killB [b])).set b (.row k n g T))[c]? = some y → (c = b ∧ y = .row k n g T) ∨ (c ≠ b ∧ (hp.map (killB [b]))[c]? = some y) := fun c y hc => by
    by_cases e : c = b
    · subst e; rw [List.getElem?_set_self hbl] at hc; simp at hc; exact .inl ⟨rfl, hc.symm⟩
    · rw [List.getElem?_set_ne (fun h => e h.symm)] at hc; exact .inr ⟨e, hc⟩
  have old : ∀ c, c ≠ b → (γ.put b w.heap.size 0 cap).blk c = γ.blk c ∧ (γ.put b w.heap.size 0 cap).cap c = γ.cap c := fun c hc => by simp [Gh.put, hc]
  have sold : ∀ c y, c ≠ b → (solid (γ.put b w.heap.size 0 cap) c y ↔ solid γ c y) := fun c y hc => by cases y <;> simp [solid, (old c hc).2]
  have new : (γ.put b w.heap.size 0 cap).blk b = w.heap.size := Gh.put_blk ..
  refine ⟨⟨fun c y hc => ?_, fun c c' y y' h1 h2 s1 s2 he => ?_, fun c y hc hs => ?_, fun c hc => ?_, hI.ro0, hI.roX, fun c l T' hc x hx => ?_, ?_, by rw [List.length_set]; exact hK.nl, hI.kl, fun c hc => ?_⟩, hro⟩
  · rcases look c y hc with ⟨rfl, rfl⟩ | ⟨e, h⟩
    · exact hg
    · refine GoodB.mono hext hro (by simpa using e) (fun hs => hw _ (hK.own c y h hs).1) (fun l T' e2 x hx => ?_) (hK.good c y h)
      rw [List.getElem?_map, Option.map_eq_some_iff] at h
      obtain ⟨z, hz, hz2⟩ := h
      exact killB_free [b] z l T' (hz2.trans e2) x hx
  · rcases look c y h1 with ⟨rfl, rfl⟩ | ⟨e, h⟩ <;> rcases look c' y' h2 with ⟨rfl, rfl⟩ | ⟨e', h'⟩
    · rfl
    · rw [new, (old c' e').1] at he
      have := (hK.own c' y' h' ((sold c' y' e').1 s2)).1
      omega
    · rw [new, (old c e).1] at he
      have := (hK.own c y h ((sold c y e).1 s1)).1
      omega
    · rw [(old c e).1, (old c' e').1] at he
      exact hK.inj c c' y y' h h' ((sold c y e).1 s1) ((sold c' y' e').1 s2) he
  · rcases look c y hc with ⟨rfl, rfl⟩ | ⟨e, h⟩
    · rw [new]
      exact ⟨by omega, fun h => Nat.lt_irrefl _ (hI.ro _ h).1, .inl hI.keep.size⟩
    · obtain ⟨p, q, r⟩ := hK.own c y h ((sold c y e).1 hs)
      rw [(old c e).1]
      exact ⟨by omega, q, r⟩
  · obtain ⟨p, q⟩ := hI.ro c hc
    exact ⟨by omega, q⟩
  · rw [List.length_set]
    rcases look c _ hc with ⟨rfl, e⟩ | ⟨e, h⟩
    · cases e
    · exact hK.sc c l T' h x hx
  · refine ⟨hos.trans hI.keep.os, hta.trans hI.keep.tape, hou.trans hI.keep.output, by have := hI.keep.size; omega, fun k hk hf => ?_⟩
    rw [hw k (by have := hI.keep.size; omega)]
    exact hI.keep.block k hk hf
  · have hne : c ∉ [b] := by
      rw [List.mem_singleton]
      rintro rfl
      exact hkn hc
    rw [hext.blk c hne, hext.off c hne, hext.cap c hne]
    exact hI.nm c hc
end Go.SX
