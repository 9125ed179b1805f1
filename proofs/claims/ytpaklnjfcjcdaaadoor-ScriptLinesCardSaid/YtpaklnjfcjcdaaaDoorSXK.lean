/- SX: effects as a whole: what an operation leaves, whatever the frame. Own work. -/
import Derived.Test.YtpaklnjfcjcdaaaDoorSX10
namespace Go.SX
set_option linter.unusedVariables false
set_option linter.unusedSimpArgs false

/-! ### names that have moved -/
def XC.has (S : List Nat) : XC → Bool
  | .d _ => false
  | .ptr b _ _ _ => S.contains b
  | .slc b _ _ _ => S.contains b
  | .clo _ bs => bs.any fun b => S.contains b
  | .cond _ x => x.has S
def XV.hasW (S : List Nat) : XV → Bool
  | .any => false
  | .c x => x.has S
  | .agg l => l.any (XC.has S)
  | .tup _ => true
def XV.kill (S : List Nat) : XV → XV
  | .tup l => if l.any (XV.hasW S) then .any else .tup l
  | x => if x.hasW S then .any else x
def killF (S : List Nat) (fr : List XV) : List XV := match S with | [] => fr | _ => fr.map (XV.kill S)
theorem XC.has_free {S : List Nat} : ∀ (x : XC), x.has S = false → x.free S := by
  intro x
  induction x with
  | d x => exact fun _ => trivial
  | ptr b k i o => intro h; simpa [XC.has, XC.free] using h
  | slc b k i o => intro h; simpa [XC.has, XC.free] using h
  | clo f bs => intro h; simpa [XC.has, XC.free] using h
  | cond φ x ih => exact ih
theorem XV.hasW_free {S : List Nat} (x : XV) (h : x.hasW S = false) : x.freeW S := by
  cases x with
  | any => trivial
  | c x => exact XC.has_free x h
  | agg l => intro c hc; exact XC.has_free c (by simpa using (List.any_eq_false.1 h) c hc)
  | tup l => simp [XV.hasW] at h
theorem XV.kill_free (S : List Nat) (x : XV) : (x.kill S).free S := by
  cases x with
  | tup l =>
    simp only [XV.kill]
    split
    · trivial
    · rename_i h
      intro x hx
      exact XV.hasW_free x (by simpa using (List.any_eq_false.1 (by simpa using h)) x hx)
  | any => simp only [XV.kill]; split <;> trivial
  | c x =>
    simp only [XV.kill]
    split
    · trivial
    · rename_i h; exact XV.hasW_free (.c x) (by simpa using h)
  | agg l =>
    simp only [XV.kill]
    split
    · trivial
    · rename_i h; exact XV.hasW_free (.agg l) (by simpa using h)
theorem XV.kill_le (S : List Nat) (x : XV) : x.kill S = .any ∨ x.kill S = x := by
  cases x <;> simp only [XV.kill] <;> split <;> simp
theorem XV.kill_rep {γ : Gh} {w : World} {S : List Nat} {x : XV} {v : Value} (h : RepV γ w x v) : RepV γ w (x.kill S) v := by
  rcases XV.kill_le S x with e | e <;> rw [e]
  · trivial
  · exact h
theorem XV.kill_upTo {n : Nat} {S : List Nat} {x : XV} (h : x.upTo n) : (x.kill S).upTo n := by
  rcases XV.kill_le S x with e | e <;> rw [e]
  · trivial
  · exact h

/-! ### effects -/
/-- names from n on, below m, and S -/
def newN (n m : Nat) (S : List Nat) : List Nat := S ++ List.range' n (m - n)
structure Out (X : Cx) (γ : Gh) (w : World) (hp : List XB) (γ' : Gh) (w' : World) (v : Value) (y : XV) (hp' : List XB) (S : List Nat) : Prop where
  inv : Inv X γ' w' hp'
  rep : RepV γ' w' y v
  ext : γ.Ext γ' (newN hp.length hp'.length S)
  ro : ∀ b, γ.ro b → w'.heap[b]? = w.heap[b]?
  sc : y.upTo hp'.length
  len : hp.length ≤ hp'.length
/-- What an operation leaves: a value, the blocks, the names that have moved. -/
def EffK (X : Cx) (ev : Operand → XV) (hp : List XB) (o : Oper) (R : XV → List XB → List Nat → Prop) : Prop :=
  ∀ (γ : Gh) (w : World) (a : Act) (K : Act → World → Prop) (Q : Exit → Act → World → Prop), Inv X γ w hp → (∀ x, x ∈ o.op.operands → RepV γ w (ev x) (a.eval x)) → (∀ x, x ∈ o.op.operands → (ev x).upTo hp.length) →
    (∀ γ' w' v y hp' S, R y hp' S → Out X γ w hp γ' w' v y hp' S → K (a.put o.dst v) w') → o.wp X.P a w K Q

theorem rg_out {X : Cx} {γ γ' : Gh} {st : St} {a : Act} {w w' : World} {hp' : List XB} {y : XV} {v : Value} {S : List Nat} {dst : Option Tmp} (h : Rg X γ st a w) (ho : Out X γ w st.hp γ' w' v y hp' S) :
    Rg X γ' ⟨frPut (killF S st.fr) dst y, hp'⟩ (a.put dst v) w' := by
  obtain ⟨vs, hvs, hf⟩ := h.fr
  have hsc : ∀ x, x ∈ killF S st.fr → x.upTo st.hp.length := by
    intro x hx
    unfold killF at hx
    split at hx
    · exact h.sc x hx
    · obtain ⟨y, hy, rfl⟩ := List.mem_map.1 hx
      exact XV.kill_upTo (h.sc y hy)
  have hk : All2 (RepV γ w) (killF S st.fr) vs := by
    unfold killF
    split
    · exact hf
    · clear hvs hsc
      generalize st.fr = fr at hf
      induction hf with
      | nil => exact .nil
      | cons h1 _ ih => exact .cons (XV.kill_rep h1) ih
  have hfree : ∀ x, x ∈ killF S st.fr → x.free (newN st.hp.length hp'.length S) := by
    intro x hx
    have hr : x.free (List.range' st.hp.length (hp'.length - st.hp.length)) := XV.free_of_upTo (n := st.hp.length) (fun b hb => (List.mem_range'_1.1 hb).1) x (hsc x hx)
    have h2 : x.free S := by
      unfold killF at hx
      split at hx
      · cases x with
        | tup l =>
          obtain ⟨i, hi⟩ := List.mem_iff_getElem?.1 hx
          obtain ⟨b, _, hb⟩ := hf.get i _ hi
          exact XV.free_nil hb
        | _ =>
          obtain ⟨i, hi⟩ := List.mem_iff_getElem?.1 hx
          obtain ⟨b, _, hb⟩ := hf.get i _ hi
          exact XV.free_nil hb
      · obtain ⟨y, hy, rfl⟩ := List.mem_map.1 hx
        exact XV.kill_free _ y
    have fc : ∀ (c : XC) (A B : List Nat), c.free A → c.free B → c.free (A ++ B) := by
      intro c A B
      induction c with
      | d x => exact fun _ _ => trivial
      | ptr b k i o => intro h1 h2 hm; exact (List.mem_append.1 hm).elim h1 h2
      | slc b k i o => intro h1 h2 hm; exact (List.mem_append.1 hm).elim h1 h2
      | clo f bs => intro h1 h2 b hb hm; exact (List.mem_append.1 hm).elim (h1 b hb) (h2 b hb)
      | cond φ x ih => exact ih
    have fw : ∀ (x : XV) (A B : List Nat), x.freeW A → x.freeW B → x.freeW (A ++ B) := by
      intro x A B
      cases x with
      | any => exact fun _ _ => trivial
      | c x => exact fc x A B
      | agg l => exact fun h1 h2 c hc => fc c A B (h1 c hc) (h2 c hc)
      | tup l => exact fun h _ => h
    unfold newN
    cases x with
    | tup l => exact fun y hy => fw y _ _ (h2 y hy) (hr y hy)
    | any => trivial
    | c x => exact fc x _ _ h2 hr
    | agg l => exact fun c hc => fc c _ _ (h2 c hc) (hr c hc)
  have hf' : All2 (RepV γ' w') (killF S st.fr) vs := hk.monoMem fun x u hx => RepV.mono ho.ext ho.ro x u (hfree x hx)
  refine ⟨ho.inv, ?_, ?_, ?_⟩
  · cases dst <;> exact h.df
  · cases dst with
    | none => exact ⟨vs, hvs, hf'⟩
    | some d => exact ⟨vs.set d v, by simp [Act.put, hvs], hf'.set ho.rep d⟩
  · intro x hx
    cases dst with
    | none => exact XV.upTo_mono ho.len x (hsc x hx)
    | some d =>
      rcases List.mem_or_eq_of_mem_set hx with h1 | rfl
      · exact XV.upTo_mono ho.len x (hsc x h1)
      · exact ho.sc

theorem sxo_effK {X : Cx} {all : Array Oper} {o : Oper} {rest : List Oper} {N : St → Prop} {st : St} {R : XV → List XB → List Nat → Prop} (hg : o.guard = none) (he : EffK X (evX st.fr) st.hp o R)
    (h : ∀ y hp' S, R y hp' S → SXo X all rest N ⟨frPut (killF S st.fr) o.dst y, hp'⟩) : SXo X all (o :: rest) N st := by
  rintro a w ⟨γ, hr⟩
  exact wpList_plain hg fun K hK => he γ w a K _ hr.inv (fun x _ => rg_ev hr x) (fun x _ => evX_upTo hr.sc x) fun γ' w' v y hp' S hR ho => hK _ _ (h y hp' S hR _ _ ⟨γ', rg_out hr ho⟩)
end Go.SX
