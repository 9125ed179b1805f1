/- SX: the walk as a term that simp works out: code, what is still to do, the state. It stops at loops, calls and what else wants a word. Own work. -/
import Derived.Test.YtpaklnjfcjcdaaaDoorSXD
namespace Go.SX
set_option linter.unusedVariables false
set_option linter.unusedSimpArgs false

inductive It where
  | c (x : Code)
  | ops (all : Array Oper) (l : List Oper)
  | blk (id : Nat)
  | inv (J : St → Prop)
  | rd (m : Nat) (x : Code)
  | dr (all : Array Oper) (T : List (Nat × List Nat)) (fin eff done : List Nat) (todo : Tr)

/-- What is to be shown where what is to do is done, and where an exit leaves. -/
def ske (X : Cx) (Q : KX) : List It → (St → Prop) × (Nat → St → Prop)
  | [] => (Q.nrm, Q.ext)
  | .blk j :: k => ((ske X Q k).1, fun id st => if id = j then (ske X Q k).1 st else (ske X Q k).2 id st)
  | .inv J :: k => (J, (ske X Q k).2)
  | .rd m x :: k => (fun st => ∀ a w, Rr X st a w → Code.rounds X.P x (KX.post X ⟨(ske X Q k).1, Q.ret, (ske X Q k).2⟩) m a w, (ske X Q k).2)
  | .c x :: k => (fun st => SX X x ⟨(ske X Q k).1, Q.ret, (ske X Q k).2⟩ st, (ske X Q k).2)
  | .ops all l :: k => (fun st => SXo X all l (ske X Q k).1 st, (ske X Q k).2)
  | .dr all T fin eff done todo :: k => (fun st => DS X all T fin eff done todo (ske X Q k).1 st, (ske X Q k).2)
def SK (X : Cx) (Q : KX) (k : List It) (st : St) : Prop := (ske X Q k).1 st
def KK (X : Cx) (Q : KX) (k : List It) : KX := ⟨(ske X Q k).1, Q.ret, (ske X Q k).2⟩

/-- an operation that wants a word; what is to do behind it -/
def EvOp (X : Cx) (Q : KX) (o : Oper) (k : List It) (st : St) : Prop := ∃ R, EffK X (evX st.fr) st.hp o R ∧ ∀ y hp' S, R y hp' S → SK X Q k ⟨frPut (killF S st.fr) o.dst y, hp'⟩
/-- a loop, a region that draws, a range over a function -/
def EvC (X : Cx) (Q : KX) (c : Code) (k : List It) (st : St) : Prop := SX X c (KK X Q k) st

def exitTo (id : Nat) : List It → Option (List It)
  | [] => none
  | .blk j :: k => if id = j then some k else exitTo id k
  | _ :: k => exitTo id k

/-- an effect in a drawn region -/
def stepE (X : Cx) (Q : KX) (o : Oper) (k : List It) (st : St) (f : List XV → XV → List XB → Prop) : Prop :=
  match gop X.P (evX st.fr) st.hp o.op with
  | some (φ, y, hp') => φ ∧ f st.fr y hp'
  | none =>
    match aop X (evX st.fr) st.hp o.op with
    | some (φ, y, hp', S) => φ ∧ f (killF S st.fr) y hp'
    | none => EvOp X Q { o with guard := none } k st
def stepOp (X : Cx) (Q : KX) (all : Array Oper) (o : Oper) (rest : List Oper) (k : List It) (st : St) (f : List XV → XV → List XB → Prop) : Prop :=
  match fop X.P (evX st.fr) st.hp o.op with
  | some (φ, y) => φ ∧ f st.fr y st.hp
  | none =>
    match gop X.P (evX st.fr) st.hp o.op with
    | some (φ, y, hp') => φ ∧ f st.fr y hp'
    | none =>
      match aop X (evX st.fr) st.hp o.op with
      | some (φ, y, hp', S) => φ ∧ f (killF S st.fr) y hp'
      | none => EvOp X Q { o with guard := none } (.ops all rest :: k) st
def branch (x : XV) (p q : Prop) : Prop :=
  match x with
  | .c (.d (.val (.bool b))) => (b = true → p) ∧ (b = false → q)
  | _ => False

def SC (X : Cx) (Q : KX) : Nat → List It → St → Prop
  | 0, k, st => SK X Q k st
  | n + 1, [], st => Q.nrm st
  | n + 1, .blk _ :: k, st => SC X Q n k st
  | n + 1, .inv J :: k, st => J st
  | n + 1, .rd 0 c :: k, st => False
  | n + 1, .rd (m + 1) c :: k, st => SC X Q n (.c c :: .rd m c :: k) st
  | n + 1, .dr all T fin eff done .nil :: k, st => VChk X all st fin ∧ SC X Q n k st
  | n + 1, .dr all T fin eff done (.q i r) :: k, st =>
    match all[i]? with
    | none => False
    | some o =>
      match fop X.P (evX st.fr) st.hp o.op with
      | none =>
        match o.guard with
        | none => False
        | some g =>
          match gcond st.fr ((all[g.1]?).bind (·.dst)) g.2 with
          | none => False
          | some A => ¬ A ∧ SC X Q n (.dr all T fin eff (i :: done) r :: k) ⟨frPut st.fr o.dst .any, st.hp⟩
      | some (_, y) =>
        match o.guard with
        | none => SC X Q n (.dr all T fin eff (i :: done) r :: k) ⟨frPut st.fr o.dst y, st.hp⟩
        | some g =>
          match gcond st.fr ((all[g.1]?).bind (·.dst)) g.2 with
          | none => False
          | some A =>
            match y with
            | .c z => SC X Q n (.dr all T fin eff (i :: done) r :: k) ⟨frPut st.fr o.dst (.c (condX A z)), st.hp⟩
            | y => (A → SC X Q n (.dr all T fin eff (i :: done) r :: k) ⟨frPut st.fr o.dst y, st.hp⟩) ∧ (¬ A → SC X Q n (.dr all T fin eff (i :: done) r :: k) ⟨frPut st.fr o.dst .any, st.hp⟩)
  | n + 1, .dr all T fin eff done (.e i js r) :: k, st =>
    VChk X all st js ∧
    match all[i]? with
    | none => False
    | some o =>
      match gd all st.fr o with
      | none => False
      | some A => (A → stepE X Q o (.dr all T fin (i :: eff) (i :: done) r :: k) st fun fr y hp' => SC X Q n (.dr all T fin (i :: eff) (i :: done) r :: k) ⟨frPut fr o.dst y, hp'⟩) ∧ (¬ A → SC X Q n (.dr all T fin (i :: eff) (i :: done) r :: k) ⟨frPut st.fr o.dst .any, st.hp⟩)
  | n + 1, .dr all T fin eff done (.alt js i a j b) :: k, st =>
    VChk X all st js ∧
    match all[i]?, all[j]? with
    | some o, some p =>
      match gd all st.fr o, gd all st.fr p with
      | some A, some B =>
        ((A → stepE X Q o (.dr all T fin (i :: eff) (i :: done) a :: k) st fun fr y hp' => SC X Q n (.dr all T fin (i :: eff) (i :: done) a :: k) ⟨frPut fr o.dst y, hp'⟩) ∧ (¬ A → SC X Q n (.dr all T fin (i :: eff) (i :: done) a :: k) ⟨frPut st.fr o.dst .any, st.hp⟩)) ∧
        ((B → stepE X Q p (.dr all T fin (j :: eff) (j :: done) b :: k) st fun fr y hp' => SC X Q n (.dr all T fin (j :: eff) (j :: done) b :: k) ⟨frPut fr p.dst y, hp'⟩) ∧ (¬ B → SC X Q n (.dr all T fin (j :: eff) (j :: done) b :: k) ⟨frPut st.fr p.dst .any, st.hp⟩))
      | _, _ => False
    | _, _ => False
  | n + 1, .ops all [] :: k, st => SC X Q n k st
  | n + 1, .ops all (o :: rest) :: k, st =>
    match o.guard with
    | none => stepOp X Q all o rest k st fun fr y hp' => SC X Q n (.ops all rest :: k) ⟨frPut fr o.dst y, hp'⟩
    | some g =>
      match gcond st.fr ((all[g.1]?).bind (·.dst)) g.2 with
      | none => False
      | some A =>
        match fop X.P (evX st.fr) st.hp o.op with
        | some (φ, .c y) => (A → φ) ∧ SC X Q n (.ops all rest :: k) ⟨frPut st.fr o.dst (.c (condX A y)), st.hp⟩
        | _ => (A → stepOp X Q all o rest k st fun fr y hp' => SC X Q n (.ops all rest :: k) ⟨frPut fr o.dst y, hp'⟩) ∧ (¬ A → SC X Q n (.ops all rest :: k) ⟨frPut st.fr o.dst .any, st.hp⟩)
  | n + 1, .c .skip :: k, st => SC X Q n k st
  | n + 1, .c (.seq a b) :: k, st => SC X Q n (.c a :: .c b :: k) st
  | n + 1, .c (.block id b) :: k, st => SC X Q n (.c b :: .blk id :: k) st
  | n + 1, .c (.region id ops draw) :: k, st => if draw then EvC X Q (.region id ops draw) k st else SC X Q n (.ops ops ops.toList :: k) st
  | n + 1, .c (.cond c t e) :: k, st => branch (evX st.fr c) (SC X Q n (.c t :: k) st) (SC X Q n (.c e :: k) st)
  | n + 1, .c (.exit id) :: k, st => match exitTo id k with | some k' => SC X Q n k' st | none => Q.ext id st
  | n + 1, .c .ret :: k, st => Q.ret st
  | n + 1, .c x :: k, st => EvC X Q x k st

theorem ske_exit (X : Cx) (Q : KX) (id : Nat) : ∀ (k : List It) (st : St), (match exitTo id k with | some k' => SK X Q k' st | none => Q.ext id st) → (ske X Q k).2 id st := by
  intro k
  induction k with
  | nil => intro st h; exact h
  | cons x k ih =>
    intro st h
    cases x with
    | c x => exact ih st h
    | ops all l => exact ih st h
    | inv J => exact ih st h
    | rd m c => exact ih st h
    | dr all T fin eff done todo => exact ih st h
    | blk j =>
      simp only [exitTo] at h
      by_cases e : id = j
      · rw [if_pos e] at h
        show (if id = j then _ else _ : Prop)
        rw [if_pos e]; exact h
      · rw [if_neg e] at h
        show (if id = j then _ else _ : Prop)
        rw [if_neg e]; exact ih st h

theorem sxo_mono {X : Cx} {all : Array Oper} {l : List Oper} {N N' : St → Prop} {st : St} (h : SXo X all l N st) (hn : ∀ st, N st → N' st) : SXo X all l N' st := by
  intro a w hr
  have hq : ∀ e a w, Qn X N e a w → Qn X N' e a w := by
    intro e a w hq
    cases e with
    | normal => obtain ⟨st', h1, h2⟩ := hq; exact ⟨st', h1, hn _ h2⟩
    | _ => exact hq.elim
  have key : ∀ (l : List Oper) (a : Act) (w : World), wpList X.P all (Qn X N) l a w → wpList X.P all (Qn X N') l a w := by
    intro l
    induction l with
    | nil => intro a w h; exact hq _ _ _ h
    | cons o l ih =>
      intro a w h
      unfold wpList at h ⊢
      split at h
      · rename_i hw
        rw [if_pos hw]
        rcases h with h | ⟨h, a', w', h'⟩
        · refine .inl ?_
          unfold Oper.wp at h ⊢
          generalize (execOp a.eval o).run X.P w = r at h ⊢
          cases r with
          | ok n w' =>
            cases n <;> simp only [Oper.upon] at h ⊢
            case enter f args =>
              refine h.mono fun e w'' he => ?_
              cases e with
              | returned v => exact ih _ _ he
              | panicked c => exact he.elim
              | outgrown => obtain ⟨_, _, he⟩ := he; exact he.elim
            case row r args => exact h.mono fun v w'' he => ih _ _ he
            all_goals exact ih _ _ h
          | halt x w' =>
            cases x <;> simp only [Oper.upon] at h ⊢
            case panic v => exact h.elim
        · exact h'.elim
      · rename_i hw
        rw [if_neg hw]
        exact ih _ _ h
  exact key l a w (h a w hr)

theorem stepOp_sound {X : Cx} {Q : KX} {all : Array Oper} {o : Oper} {rest : List Oper} {k : List It} {st : St} {f : List XV → XV → List XB → Prop} (hf : ∀ fr y hp', f fr y hp' → SXo X all rest (SK X Q k) ⟨frPut fr o.dst y, hp'⟩)
    (h : stepOp X Q all o rest k st f) : SXo X all ({ o with guard := none } :: rest) (SK X Q k) st := by
  unfold stepOp at h
  split at h
  · rename_i φ y hfo
    exact sxo_eff rfl (fun γ a w hr => eff_of_fop (o := { o with guard := none }) hr.inv (rg_ev hr) (evX_upTo hr.sc) hfo h.1) (hf _ _ _ h.2)
  · split at h
    · rename_i φ y hp' hg
      exact sxo_eff rfl (fun γ a w hr => gop_sound (o := { o with guard := none }) hr.inv (rg_ev hr) (evX_upTo hr.sc) hg h.1) (hf _ _ _ h.2)
    · split at h
      · rename_i φ y hp' S ha
        exact sxo_aop (o := { o with guard := none }) rfl ha h.1 (hf _ _ _ h.2)
      · obtain ⟨R, he, hk⟩ := h
        exact sxo_effK rfl he hk
/-- what an effect leaves, as a relation -/
theorem stepE_sound {X : Cx} {Q : KX} {o : Oper} {k : List It} {st : St} {f : List XV → XV → List XB → Prop} (hf : ∀ fr y hp', f fr y hp' → SK X Q k ⟨frPut fr o.dst y, hp'⟩)
    (h : stepE X Q o k st f) : ∃ R, EffK X (evX st.fr) st.hp o R ∧ ∀ y hp' S, R y hp' S → SK X Q k ⟨frPut (killF S st.fr) o.dst y, hp'⟩ := by
  unfold stepE at h
  split at h
  · rename_i φ y hp' hg
    exact ⟨_, effK_gop hg h.1, by rintro _ _ _ ⟨rfl, rfl, rfl⟩; exact hf _ _ _ h.2⟩
  · split at h
    · rename_i φ y hp' S ha
      exact ⟨_, effK_aop ha h.1, by rintro _ _ _ ⟨rfl, rfl, rfl⟩; exact hf _ _ _ h.2⟩
    · obtain ⟨R, he, hk⟩ := h
      exact ⟨R, he, hk⟩

theorem SC_ops {X : Cx} {Q : KX} {n : Nat} {all : Array Oper} {o : Oper} {rest : List Oper} {k : List It} {st : St} (ih : ∀ st, SC X Q n (.ops all rest :: k) st → SXo X all rest (SK X Q k) st)
    (h : SC X Q (n + 1) (.ops all (o :: rest) :: k) st) : SXo X all (o :: rest) (SK X Q k) st := by
  unfold SC at h
  split at h
  · rename_i hg
    have := stepOp_sound (fun fr y hp' hk => ih _ hk) h
    intro a w hr
    exact wpList_unguard (by simp [Region.wanted, hg]) (this a w hr)
  · rename_i g hg
    obtain ⟨j, want⟩ := g
    split at h
    · exact h.elim
    · rename_i A hA
      split at h
      · rename_i φ y hf
        rintro a w ⟨γ, hr⟩
        have hwA := gcond_sound (all := all) hr hg hA
        by_cases hw : Region.wanted o (yielded all a.tmps) = true
        · refine wpList_unguard hw (wpList_plain rfl fun K hK => ?_)
          obtain ⟨v, hv, hry⟩ := fop_sound hr.inv (rg_ev hr) hf (h.1 (hwA.1 hw))
          have hnew := rg_step (dst := o.dst) hr hr.inv (show RepV γ w (.c (condX A y)) v from condX_sound (fun _ => hry) (fun hn => absurd (hwA.1 hw) hn)) (Gh.Ext.refl _ _) (fun _ _ => rfl) (condX_upTo (fop_upTo hr.inv (evX_upTo hr.sc) hf)) (Nat.le_refl _)
          have := hK _ _ (ih _ h.2 _ _ ⟨γ, hnew⟩)
          unfold Oper.wp
          have hv' : (execOp a.eval { o with guard := none }).run X.P w = .ok (.value v) w := hv
          rw [hv']
          exact this
        · have hw' : Region.wanted o (yielded all a.tmps) = false := by simpa using hw
          simp only [wpList, hw', Bool.false_eq_true, if_false]
          exact ih _ h.2 _ _ ⟨γ, rg_skip hr (show RepC γ w (condX A y) undef from condX_sound (fun hA => absurd (hwA.2 hA) hw) (fun _ => rfl)) (condX_upTo (fop_upTo hr.inv (evX_upTo hr.sc) hf))⟩
      · have hs := fun hAA => stepOp_sound (fun fr y hp' hk => ih _ hk) (h.1 hAA)
        rintro a w ⟨γ, hr⟩
        have hwA := gcond_sound (all := all) hr hg hA
        by_cases hw : Region.wanted o (yielded all a.tmps) = true
        · exact wpList_unguard hw (hs (hwA.1 hw) a w ⟨γ, hr⟩)
        · have hw' : Region.wanted o (yielded all a.tmps) = false := by simpa using hw
          simp only [wpList, hw', Bool.false_eq_true, if_false]
          exact ih _ (h.2 fun hAA => hw (hwA.2 hAA)) _ _ ⟨γ, rg_skip hr trivial trivial⟩

theorem branch_sound {X : Cx} {K : KX} {st : St} {c : Operand} {t e : Code} {p q : Prop} (hp : p → SX X t K st) (hq : q → SX X e K st) (h : branch (evX st.fr c) p q) : SX X (.cond c t e) K st := by
  unfold branch at h
  split at h
  · rename_i b hb
    exact sx_cond hb (fun hb => hp (h.1 hb)) (fun hb => hq (h.2 hb))
  · exact h.elim

theorem SC_sound {X : Cx} {Q : KX} : ∀ (n : Nat) (k : List It) (st : St), SC X Q n k st → SK X Q k st := by
  intro n
  induction n with
  | zero => intro k st h; exact h
  | succ n ih =>
    intro k st h
    match k, h with
    | [], h => exact h
    | .blk _ :: k, h => exact ih k st h
    | .inv J :: k, h => exact h
    | .rd 0 c :: k, h => exact h.elim
    | .rd (m + 1) c :: k, h =>
      have h2 := ih (.c c :: .rd m c :: k) st h
      intro a w hr
      rw [rounds_succ]
      refine Code.wp_mono ?_ (h2 a w hr)
      intro e a' w' hq
      cases e with
      | normal => obtain ⟨st', hr', hk⟩ := hq; exact hk a' w' hr'
      | _ => exact hq
    | .dr all T fin eff done .nil :: k, h => exact ds_end h.1 (ih k st h.2)
    | .dr all T fin eff done (.q i r) :: k, h =>
      unfold SC at h
      split at h
      · exact h.elim
      · rename_i o hi
        split at h
        · split at h
          · exact h.elim
          · split at h
            · exact h.elim
            · exact ds_skip hi (ih (.dr all T fin eff (i :: done) r :: k) _ h.2)
        · rename_i φ y hf
          split at h
          · exact ds_quiet hi hf (fun _ h => h) (ih (.dr all T fin eff (i :: done) r :: k) _ h)
          · split at h
            · exact h.elim
            · rename_i A hA
              split at h
              · rename_i z
                exact ds_quiet (y' := .c (condX A z)) hi hf (fun n h => condX_upTo (A := A) (y := z) (n := n) h) (ih (.dr all T fin eff (i :: done) r :: k) _ h)
              · by_cases hAA : A
                · exact ds_quiet hi hf (fun _ h => h) (ih (.dr all T fin eff (i :: done) r :: k) _ (h.1 hAA))
                · exact ds_quiet (y' := .any) hi hf (fun _ _ => trivial) (ih (.dr all T fin eff (i :: done) r :: k) _ (h.2 hAA))
    | .dr all T fin eff done (.e i js r) :: k, h =>
      unfold SC at h
      obtain ⟨hv, h⟩ := h
      split at h
      · exact h.elim
      · rename_i o hi
        split at h
        · exact h.elim
        · rename_i A hA
          by_cases hAA : A
          · obtain ⟨R, he, hk⟩ := stepE_sound (fun fr y hp' hk => ih (.dr all T fin (i :: eff) (i :: done) r :: k) _ hk) (h.1 hAA)
            exact ds_eff (R := R) hv hi hA (fun _ => he) (fun _ y hp' S hR => hk y hp' S hR) (fun hn => absurd hAA hn)
          · exact ds_eff (R := fun _ _ _ => False) hv hi hA (fun h => absurd h hAA) (fun h => absurd h hAA) (fun hn => ih (.dr all T fin (i :: eff) (i :: done) r :: k) _ (h.2 hn))
    | .dr all T fin eff done (.alt js i a j b) :: k, h =>
      unfold SC at h
      obtain ⟨hv, h⟩ := h
      split at h
      · rename_i o p hi hj
        split at h
        · rename_i A B hA hB
          obtain ⟨⟨hA1, hA2⟩, hB1, hB2⟩ := h
          have eA : ∃ R, (A → EffK X (evX st.fr) st.hp o R) ∧ (A → ∀ y hp' S, R y hp' S → DS X all T fin (i :: eff) (i :: done) a (SK X Q k) ⟨frPut (killF S st.fr) o.dst y, hp'⟩) := by
            by_cases hAA : A
            · obtain ⟨R, he, hk⟩ := stepE_sound (fun fr y hp' hk => ih (.dr all T fin (i :: eff) (i :: done) a :: k) _ hk) (hA1 hAA)
              exact ⟨R, fun _ => he, fun _ y hp' S hR => hk y hp' S hR⟩
            · exact ⟨fun _ _ _ => False, fun h => absurd h hAA, fun h => absurd h hAA⟩
          have eB : ∃ R, (B → EffK X (evX st.fr) st.hp p R) ∧ (B → ∀ y hp' S, R y hp' S → DS X all T fin (j :: eff) (j :: done) b (SK X Q k) ⟨frPut (killF S st.fr) p.dst y, hp'⟩) := by
            by_cases hBB : B
            · obtain ⟨R, he, hk⟩ := stepE_sound (fun fr y hp' hk => ih (.dr all T fin (j :: eff) (j :: done) b :: k) _ hk) (hB1 hBB)
              exact ⟨R, fun _ => he, fun _ y hp' S hR => hk y hp' S hR⟩
            · exact ⟨fun _ _ _ => False, fun h => absurd h hBB, fun h => absurd h hBB⟩
          obtain ⟨R, r1, r2⟩ := eA
          obtain ⟨R', s1, s2⟩ := eB
          exact ds_alt hv hi hA r1 r2 (fun hn => ih (.dr all T fin (i :: eff) (i :: done) a :: k) _ (hA2 hn)) hj hB s1 s2 (fun hn => ih (.dr all T fin (j :: eff) (j :: done) b :: k) _ (hB2 hn))
        · exact h.elim
      · exact h.elim
    | .ops all [] :: k, h => exact sxo_nil (ih k st h)
    | .ops all (o :: rest) :: k, h => exact SC_ops (ih (.ops all rest :: k)) h
    | .c .skip :: k, h => exact sx_skip (ih k st h)
    | .c (.seq a b) :: k, h => exact sx_seq (ih (.c a :: .c b :: k) st h)
    | .c (.block id b) :: k, h => exact sx_block (ih (.c b :: .blk id :: k) st h)
    | .c (.region id ops draw) :: k, h =>
      simp only [SC] at h
      cases draw with
      | true => exact h
      | false =>
        simp only [Bool.false_eq_true, if_false] at h
        have h2 := ih (.ops ops ops.toList :: k) st h
        show SX X (.region id ops false) _ st
        intro a w hr
        refine wp_mono (wp_region_list (h2 a w hr)) ?_
        intro e a' w' hq
        cases e with
        | normal => exact hq
        | _ => exact hq.elim
    | .c (.cond c t e) :: k, h => exact branch_sound (fun hp => ih (.c t :: k) st hp) (fun hq => ih (.c e :: k) st hq) h
    | .c (.exit id) :: k, h =>
      refine sx_exit (ske_exit X Q id k st ?_)
      simp only [SC] at h
      cases hx : exitTo id k with
      | some k' => rw [hx] at h; exact ih k' st h
      | none => rw [hx] at h; exact h
    | .c .ret :: k, h => exact sx_ret h
    | .c (.loop b) :: k, h => exact h
    | .c (.rangeFunc f p a b) :: k, h => exact h
    | .c (.scope b) :: k, h => exact h
    | .c (.label l) :: k, h => exact h
    | .c (.goto l) :: k, h => exact h
    | .c (.refuse why) :: k, h => exact h
end Go.SX
