/- SX: calls by contract: what is left behind. Own work. -/
import Derived.Test.YtpaklnjfcjcdaaaDoorSX15
namespace Go.SX
set_option linter.unusedVariables false
set_option linter.unusedSimpArgs false

def ghOut (γ γ' : Gh) (hp hp' : List XB) (sel S : List Nat) : Gh where
  blk b := if b ∈ sel1 sel hp.length hp'.length then γ'.blk ((sel1 sel hp.length hp'.length).idxOf b) else γ.blk b
  off b := if b ∈ sel1 sel hp.length hp'.length then γ'.off ((sel1 sel hp.length hp'.length).idxOf b) else γ.off b
  cap b := if b ∈ sel1 sel hp.length hp'.length then γ'.cap ((sel1 sel hp.length hp'.length).idxOf b) else γ.cap b
  ro k := γ'.ro k ∧ ¬ ∃ b xb, b ∈ S ∧ hp[b]? = some xb ∧ solid γ b xb ∧ γ.blk b = k

theorem idxOf_at {l : List Nat} (hn : l.Nodup) {j b : Nat} (h : l[j]? = some b) : l.idxOf b = j := by
  obtain ⟨hj, rfl⟩ := List.getElem?_eq_some_iff.1 h
  exact hn.idxOf_getElem j hj

theorem XC.ren_upTo {sel : List Nat} {n m : Nat} (h : ∀ j, j < n → sel.getD j 0 < m) : ∀ (x : XC), x.upTo n → (x.ren sel).upTo m := by
  intro x
  induction x with
  | d x => exact fun _ => trivial
  | ptr b k i o => exact fun hb => h b hb
  | slc b k i o => exact fun hb => h b hb
  | clo f bs => intro hb b hm; obtain ⟨c, hc, rfl⟩ := List.mem_map.1 hm; exact h c (hb c hc)
  | cond φ x ih => exact ih
theorem XV.ren_upToW {sel : List Nat} {n m : Nat} (h : ∀ j, j < n → sel.getD j 0 < m) (x : XV) (hx : x.upToW n) : (x.renW sel).upToW m := by
  cases x with
  | any => trivial
  | c x => exact XC.ren_upTo h x hx
  | agg l => intro c hc; obtain ⟨d, hd, rfl⟩ := List.mem_map.1 hc; exact XC.ren_upTo h d (hx d hd)
  | tup l => exact hx
theorem XV.ren_upTo {sel : List Nat} {n m : Nat} (h : ∀ j, j < n → sel.getD j 0 < m) (x : XV) (hx : x.upTo n) : (x.ren sel).upTo m := by
  cases x with
  | tup l => intro c hc; obtain ⟨d, hd, rfl⟩ := List.mem_map.1 hc; exact XV.ren_upToW h d (hx d hd)
  | any => trivial
  | c x => exact XC.ren_upTo h x hx
  | agg l => exact XV.ren_upToW h (.agg l) hx
theorem All2.renR {γ : Gh} {w : World} {sel : List Nat} : ∀ (l : List XC) (vs : List Value), All2 (RepC (γ.sel sel) w) l vs → All2 (RepC γ w) (l.map (XC.ren sel)) vs := by
  intro l
  induction l with
  | nil => intro vs h; cases h; exact .nil
  | cons c l ih => intro vs h; cases h with | cons h1 h2 => exact .cons ((RepC.ren c _).2 h1) (ih _ h2)
theorem RepW.renR {γ : Gh} {w : World} {sel : List Nat} (x : XV) (v : Value) (h : RepW (γ.sel sel) w x v) : RepW γ w (x.renW sel) v := by
  cases x with
  | any => trivial
  | c x => exact (RepC.ren x v).2 h
  | agg l => obtain ⟨vs, hv, hl⟩ := h; exact ⟨vs, hv, All2.renR l vs hl⟩
  | tup l => exact h
theorem All2.renRW {γ : Gh} {w : World} {sel : List Nat} : ∀ (l : List XV) (vs : List Value), All2 (RepW (γ.sel sel) w) l vs → All2 (RepW γ w) (l.map (XV.renW sel)) vs := by
  intro l
  induction l with
  | nil => intro vs h; cases h; exact .nil
  | cons c l ih => intro vs h; cases h with | cons h1 h2 => exact .cons (RepW.renR c _ h1) (ih _ h2)
theorem RepV.renR {γ : Gh} {w : World} {sel : List Nat} (x : XV) (v : Value) (h : RepV (γ.sel sel) w x v) : RepV γ w (x.ren sel) v := by
  cases x with
  | tup l => obtain ⟨vs, hv, hl⟩ := h; exact ⟨vs, hv, All2.renRW l vs hl⟩
  | any => trivial
  | c x => exact RepW.renR (.c x) v h
  | agg l => exact RepW.renR (.agg l) v h
theorem GoodB.renR {γ : Gh} {w : World} {sel : List Nat} {j b : Nat} {xb : XB} (hj : sel.getD j 0 = b) (h : GoodB (γ.sel sel) w j xb) : GoodB γ w b (xb.ren sel) := by
  subst hj
  cases xb with
  | dead => trivial
  | box l T => obtain ⟨h0, h1, vs, hv, hl⟩ := h; exact ⟨h0, h1, vs, hv, All2.renR l vs hl⟩
  | row k m g T => exact h
  | ob o => exact h
theorem getD_of {l : List Nat} {j b : Nat} (h : l[j]? = some b) : l.getD j 0 = b := by rw [List.getD_eq_getElem?_getD, h]; rfl
theorem solid_renR {γ : Gh} {sel : List Nat} {j b : Nat} {xb : XB} (hj : sel.getD j 0 = b) : solid γ b (xb.ren sel) ↔ solid (γ.sel sel) j xb := by
  subst hj
  cases xb <;> exact Iff.rfl
theorem XB.ren_flat {sel : List Nat} (x : XB) (l : List XC) (T : TypeId) (h : x.ren sel = .box l T) : ∃ l', x = .box l' T ∧ l = l'.map (XC.ren sel) := by
  cases x with
  | dead => simp [XB.ren] at h
  | row k m g T => simp [XB.ren] at h
  | ob o => simp [XB.ren] at h
  | box l' T' => simp only [XB.ren, XB.box.injEq] at h; obtain ⟨rfl, rfl⟩ := h; exact ⟨l', rfl, rfl⟩

section
variable {X : Cx} {γ γ' : Gh} {w w' : World} {hp hp0 hp' : List XB} {sel S kd : List Nat}
theorem con_post {v : Value} {x : XV} (hI : Inv X γ w hp) (hsel : hp0.map (XB.ren sel) = sel.map fun b => hp.getD b .dead) (hnd : sel.Nodup) (hbl : ∀ b, b ∈ sel → b < hp.length) (hS : ∀ b, b ∈ S → b ∉ sel)
    (hK : ∀ j, j ∈ kd → ¬ X.kn (sel.getD j 0)) (hF : ∀ (b : Nat) (l : List XC) (T : TypeId), hp[b]? = some (XB.box l T) → b ∉ sel → ∀ c, c ∈ l → XC.free (kd.map fun j => sel.getD j 0) c)
    (hI' : Inv (cxM X.P w (roS γ hp S) (ghIn γ hp sel S) hp0 kd) γ' w' hp') (hr : RepV γ' w' x v) (hsc : x.upTo hp'.length) (hfl : S = [] ∨ (x.flat ∧ ∀ xb, xb ∈ hp' → xb.flat)) :
    Out X γ w hp (ghOut γ γ' hp hp' sel S) w' v (x.ren (sel1 sel hp.length hp'.length)) (outH hp sel hp') (kd.map fun j => sel.getD j 0) := by
  have hlen : hp0.length = sel.length := by have := congrArg List.length hsel; simpa using this
  have hl : sel.length ≤ hp'.length := by have := hI'.nl; rw [← hlen]; exact this
  have hn1 : (sel1 sel hp.length hp'.length).Nodup := sel1_nodup hnd hbl
  have at1 : ∀ {j b : Nat}, (sel1 sel hp.length hp'.length)[j]? = some b → (ghOut γ γ' hp hp' sel S).blk b = γ'.blk j ∧ (ghOut γ γ' hp hp' sel S).off b = γ'.off j ∧ (ghOut γ γ' hp hp' sel S).cap b = γ'.cap j := by
    intro j b hj
    have hm := List.mem_of_getElem? hj
    simp only [ghOut, if_pos hm, idxOf_at hn1 hj, and_self]
  have at0 : ∀ {b : Nat}, b ∉ sel1 sel hp.length hp'.length → (ghOut γ γ' hp hp' sel S).blk b = γ.blk b ∧ (ghOut γ γ' hp hp' sel S).off b = γ.off b ∧ (ghOut γ γ' hp hp' sel S).cap b = γ.cap b := by
    intro b hb
    simp only [ghOut, if_neg hb, and_self]
  have get1 : ∀ {j : Nat}, j < hp'.length → ∃ b, (sel1 sel hp.length hp'.length)[j]? = some b ∧ (sel1 sel hp.length hp'.length).getD j 0 = b := by
    intro j hj
    have h1 : j < (sel1 sel hp.length hp'.length).length := by rw [sel1_length hl]; exact hj
    exact ⟨_, List.getElem?_eq_getElem h1, getD_of (List.getElem?_eq_getElem h1)⟩
  have hEq : γ'.EqTo ((ghOut γ γ' hp hp' sel S).sel (sel1 sel hp.length hp'.length)) hp'.length := by
    refine ⟨fun j hj => ?_, fun j hj => ?_, fun j hj => ?_⟩ <;> obtain ⟨b, h1, h2⟩ := get1 hj
    · show (ghOut γ γ' hp hp' sel S).blk _ = _; rw [h2]; exact (at1 h1).1
    · show (ghOut γ γ' hp hp' sel S).off _ = _; rw [h2]; exact (at1 h1).2.1
    · show (ghOut γ γ' hp hp' sel S).cap _ = _; rw [h2]; exact (at1 h1).2.2
  have hroS : S = [] → ∀ k, γ'.ro k → ((ghOut γ γ' hp hp' sel S).sel (sel1 sel hp.length hp'.length)).ro k := by
    intro e k hk
    subst e
    exact ⟨hk, fun ⟨b, xb, hb, _⟩ => by simp at hb⟩
  have roIn : ∀ k, γ.ro k → (ghOut γ γ' hp hp' sel S).ro k := fun k hk =>
    ⟨hI'.ro0 k (.inl hk), fun ⟨b, xb, _, hb, hs, he⟩ => (hI.own b xb hb hs).2.1 (he ▸ hk)⟩
  have roOut : ∀ k, (ghOut γ γ' hp hp' sel S).ro k → γ.ro k ∨ w.heap.size ≤ k := by
    rintro k ⟨h1, h2⟩
    rcases hI'.roX k h1 with h | h
    · rcases h with h | h
      · exact .inl h
      · exact absurd h h2
    · exact .inr h
  -- the callee's blocks that were the caller's
  have fpIs : ∀ k, fpOf (ghIn γ hp sel S) hp0 k → ∃ b xb, b ∈ sel ∧ hp[b]? = some xb ∧ solid γ b xb ∧ γ.blk b = k := by
    rintro k ⟨j, xb, hj, hs, rfl⟩
    have h2 : (hp0.map (XB.ren sel))[j]? = some (xb.ren sel) := by rw [List.getElem?_map, hj]; rfl
    rw [hsel, List.getElem?_map, Option.map_eq_some_iff] at h2
    obtain ⟨b, hb, he⟩ := h2
    have hb0 : sel.getD j 0 = b := getD_of hb
    have hs2 : solid γ b (xb.ren sel) := (solid_renR hb0).2 (by cases xb <;> exact hs)
    exact ⟨b, _, List.mem_of_getElem? hb, live_of he hs2, hs2, by show _ = γ.blk (sel.getD j 0); rw [hb0]⟩
  have hsame : ∀ k, k < w.heap.size → (∀ b xb, b ∈ sel → hp[b]? = some xb → solid γ b xb → γ.blk b ≠ k) → w'.heap[k]? = w.heap[k]? := fun k hk hne =>
    hI'.keep.block k hk fun hf => by obtain ⟨b, xb, h1, h2, h3, h4⟩ := fpIs k hf; exact hne b xb h1 h2 h3 h4
  have hro : ∀ k, γ.ro k → w'.heap[k]? = w.heap[k]? := fun k hk =>
    hsame k (hI.ro k hk).1 fun b xb _ h2 h3 h4 => (hI.own b xb h2 h3).2.1 (h4 ▸ hk)
  have hsz : w.heap.size ≤ w'.heap.size := hI'.keep.size
  have hext : γ.Ext (ghOut γ γ' hp hp' sel S) (newN hp.length (outH hp sel hp').length (kd.map fun j => sel.getD j 0)) := by
    have key : ∀ b, b ∉ newN hp.length (outH hp sel hp').length (kd.map fun j => sel.getD j 0) → (ghOut γ γ' hp hp' sel S).blk b = γ.blk b ∧ (ghOut γ γ' hp hp' sel S).off b = γ.off b ∧ (ghOut γ γ' hp hp' sel S).cap b = γ.cap b := by
      intro b hb
      simp only [newN, List.mem_append, not_or] at hb
      by_cases hm : b ∈ sel1 sel hp.length hp'.length
      · have hm2 := hm
        unfold sel1 at hm2
        rcases List.mem_append.1 hm2 with h1 | h1
        · obtain ⟨j, hj⟩ := List.mem_iff_getElem?.1 h1
          have hjl := (List.getElem?_eq_some_iff.1 hj).1
          have hj1 : (sel1 sel hp.length hp'.length)[j]? = some b := by rw [sel1_old hjl]; exact hj
          obtain ⟨e1, e2, e3⟩ := at1 hj1
          have hjk : j ∉ kd := fun h => hb.1 (List.mem_map.2 ⟨j, h, getD_of hj⟩)
          obtain ⟨f1, f2, f3⟩ := hI'.nm j ⟨by rw [hlen]; exact hjl, hjk⟩
          have g0 : sel.getD j 0 = b := getD_of hj
          have f1 : γ'.blk j = γ.blk (sel.getD j 0) := f1
          have f2 : γ'.off j = γ.off (sel.getD j 0) := f2
          have f3 : γ'.cap j = γ.cap (sel.getD j 0) := f3
          rw [e1, e2, e3, f1, f2, f3, g0]
          exact ⟨rfl, rfl, rfl⟩
        · exfalso
          have := List.mem_range'_1.1 h1
          refine hb.2 (List.mem_range'_1.2 ⟨this.1, ?_⟩)
          rw [outH_length hl]
          omega
      · exact at0 hm
    exact ⟨fun b hb => (key b hb).1, fun b hb => (key b hb).2.1, fun b hb => (key b hb).2.2, roIn⟩
  have hup : ∀ j, j < hp'.length → (sel1 sel hp.length hp'.length).getD j 0 < (outH hp sel hp').length := by
    intro j hj
    obtain ⟨b, h1, h2⟩ := get1 hj
    rw [h2]
    have := outH_at hnd hbl hl h1 (List.getElem?_eq_getElem hj)
    exact (List.getElem?_eq_some_iff.1 this).1
  have hfree : ∀ (b : Nat) (l : List XC) (T : TypeId), hp[b]? = some (XB.box l T) → b ∉ sel → ∀ c, c ∈ l → XC.free (newN hp.length (outH hp sel hp').length (kd.map fun j => sel.getD j 0)) c := by
    intro b l T hb hbs c hc
    have h1 := hF b l T hb hbs c hc
    have h2 : XC.free (List.range' hp.length ((outH hp sel hp').length - hp.length)) c := XC.free_of_upTo (n := hp.length) (fun b hb => (List.mem_range'_1.1 hb).1) c (hI.sc b l T hb c hc)
    unfold newN
    clear hc
    induction c with
    | d x => trivial
    | ptr b k i o => exact fun hm => (List.mem_append.1 hm).elim h1 h2
    | slc b k i o => exact fun hm => (List.mem_append.1 hm).elim h1 h2
    | clo f bs => exact fun b hb hm => (List.mem_append.1 hm).elim (h1 b hb) (h2 b hb)
    | cond φ x ih => exact ih h1 h2
  have sold : ∀ {j b : Nat} {xb : XB}, (sel1 sel hp.length hp'.length)[j]? = some b → (solid (ghOut γ γ' hp hp' sel S) b (xb.ren (sel1 sel hp.length hp'.length)) ↔ solid γ' j xb) := by
    intro j b xb hj
    obtain ⟨e1, e2, e3⟩ := at1 hj
    cases xb <;> simp only [solid, XB.ren, e3]
  have sold0 : ∀ {b : Nat} {xb : XB}, b ∉ sel1 sel hp.length hp'.length → (solid (ghOut γ γ' hp hp' sel S) b xb ↔ solid γ b xb) := by
    intro b xb hb
    obtain ⟨e1, e2, e3⟩ := at0 hb
    cases xb <;> simp only [solid, e3]
  have cross : ∀ {j b : Nat} {xb xc : XB}, hp'[j]? = some xb → solid γ' j xb → b ∉ sel1 sel hp.length hp'.length → hp[b]? = some xc → solid γ b xc → γ'.blk j ≠ γ.blk b := by
    intro j b xb xc h1 h2 h3 h4 h5 he
    have hown := hI.own b xc h4 h5
    rcases (hI'.own j xb h1 h2).2.2 with h | h
    · have : w.heap.size ≤ γ'.blk j := h
      omega
    · obtain ⟨c, xd, c1, c2, c3, c4⟩ := fpIs _ h
      have := hI.inj c b xd xc c2 h4 c3 h5 (c4.trans he)
      subst this
      exact h3 (List.mem_append_left _ c1)
  refine ⟨⟨fun b xb hb => ?_, fun b b' y y' h1 h2 s1 s2 he => ?_, fun b xb hb hs => ?_, fun k hk => ?_, fun k hk => roIn k (hI.ro0 k hk), fun k hk => ?_, fun b l T hb c hc => ?_, ?_, ?_, hI.kl, fun b hb => ?_⟩, ?_, hext, hro, XV.ren_upTo hup x hsc, by rw [outH_length hl]; omega⟩
  · rcases outH_inv hnd hbl hl hb with ⟨j, xb', hj, hj', rfl⟩ | ⟨hb1, hb2, hb3⟩
    · refine GoodB.renR (getD_of hj) (GoodB.eqTo hEq xb' (List.getElem?_eq_some_iff.1 hj').1 ?_ (fun l T e x hx => ?_) (hI'.good j xb' hj'))
      · rcases hfl with h | h
        · exact .inl (hroS h)
        · exact .inr (h.2 _ (List.mem_of_getElem? hj'))
      · subst e; exact hI'.sc j l T hj' x hx
    · have hbs : b ∉ sel := fun hm => hb1 (List.mem_append_left _ hm)
      have hnot : b ∉ newN hp.length (outH hp sel hp').length (kd.map fun j => sel.getD j 0) ∨ True := .inr trivial
      have hg := hI.good b xb hb3
      -- its ghost is the old one
      obtain ⟨e1, e2, e3⟩ := at0 hb1
      have hblk : solid γ b xb → w'.heap[γ.blk b]? = w.heap[γ.blk b]? := fun hs =>
        hsame _ (hI.own b xb hb3 hs).1 fun c xc c1 c2 c3 c4 => hbs (by have := hI.inj c b xc xb c2 hb3 c3 hs c4; subst this; exact c1)
      cases xb with
      | dead => trivial
      | box l T =>
        obtain ⟨h0, h1, vs, hv, hl'⟩ := hg
        exact ⟨by rw [e2]; exact h0, by rw [e3]; exact h1, vs, by rw [e1, hblk trivial]; exact hv, hl'.monoMem fun c u hc => RepC.mono hext hro c u (hfree b l T hb3 hbs c hc)⟩
      | ob o => obtain ⟨h0, h1, hv⟩ := hg; exact ⟨by rw [e2]; exact h0, by rw [e3]; exact h1, by rw [e1, hblk trivial]; exact hv⟩
      | row k m g T =>
        obtain ⟨h0, h1⟩ := hg
        refine ⟨by rw [e3]; exact h0, ?_⟩
        rw [e3, e1, e2]
        rcases h1 with h1 | ⟨arr, fz, ha, hz, hs, ho, hc⟩
        · exact .inl h1
        · by_cases hcap : γ.cap b = 0
          · exact .inl hcap
          · refine .inr ⟨arr, fz, by rw [hblk (Nat.pos_of_ne_zero hcap)]; exact ha, hz, hs, ho, fun i hi c hck => ?_⟩
            obtain ⟨u, hu, hr⟩ := hc i hi c hck
            exact ⟨u, hu, RepD.mono roIn hro _ _ hr⟩
  · rcases outH_inv hnd hbl hl h1 with ⟨j, xb', hj, hj', rfl⟩ | ⟨hb1, hb2, hb3⟩ <;> rcases outH_inv hnd hbl hl h2 with ⟨j', yb', hk, hk', rfl⟩ | ⟨hc1, hc2, hc3⟩
    · rw [(at1 hj).1, (at1 hk).1] at he
      have := hI'.inj j j' xb' yb' hj' hk' ((sold hj).1 s1) ((sold hk).1 s2) he
      subst this
      exact Option.some.inj (hj.symm.trans hk)
    · rw [(at1 hj).1, (at0 hc1).1] at he
      exact absurd he (cross hj' ((sold hj).1 s1) hc1 hc3 ((sold0 hc1).1 s2))
    · rw [(at0 hb1).1, (at1 hk).1] at he
      exact absurd he.symm (cross hk' ((sold hk).1 s2) hb1 hb3 ((sold0 hb1).1 s1))
    · rw [(at0 hb1).1, (at0 hc1).1] at he
      exact hI.inj b b' _ _ hb3 hc3 ((sold0 hb1).1 s1) ((sold0 hc1).1 s2) he
  · rcases outH_inv hnd hbl hl hb with ⟨j, xb', hj, hj', rfl⟩ | ⟨hb1, hb2, hb3⟩
    · obtain ⟨o1, o2, o3⟩ := hI'.own j xb' hj' ((sold hj).1 hs)
      rw [(at1 hj).1]
      refine ⟨o1, fun h => o2 h.1, ?_⟩
      rcases o3 with h | h
      · have : w.heap.size ≤ γ'.blk j := h
        have := hI.keep.size
        exact .inl (by omega)
      · obtain ⟨c, xd, c1, c2, c3, c4⟩ := fpIs _ h
        rw [← c4]
        exact (hI.own c xd c2 c3).2.2
    · obtain ⟨o1, o2, o3⟩ := hI.own b xb hb3 ((sold0 hb1).1 hs)
      rw [(at0 hb1).1]
      refine ⟨by omega, fun h => ?_, o3⟩
      rcases roOut _ h with h | h
      · exact o2 h
      · omega
  · refine ⟨(hI'.ro k hk.1).1, fun hlt => ?_⟩
    rcases roOut k hk with h | h
    · exact (hI.ro k h).2 hlt
    · have := hI.keep.size; omega
  · rcases roOut k hk with h | h
    · exact hI.roX k h
    · have := hI.keep.size; exact .inr (by omega)
  · rcases outH_inv hnd hbl hl hb with ⟨j, xb', hj, hj', he⟩ | ⟨hb1, hb2, hb3⟩
    · obtain ⟨l', rfl, rfl⟩ := XB.ren_flat xb' l T he.symm
      obtain ⟨d, hd, rfl⟩ := List.mem_map.1 hc
      exact XC.ren_upTo hup d (hI'.sc j l' T hj' d hd)
    · exact XC.upTo_mono (by rw [outH_length hl]; omega) c (hI.sc b l T hb3 c hc)
  · refine ⟨hI'.keep.os.trans hI.keep.os, hI'.keep.tape.trans hI.keep.tape, hI'.keep.output.trans hI.keep.output, by have := hI.keep.size; omega, fun k hk hf => ?_⟩
    rw [hsame k (by have := hI.keep.size; omega) fun b xb h1 h2 h3 h4 => ?_]
    · exact hI.keep.block k hk hf
    · rcases (hI.own b xb h2 h3).2.2 with h | h
      · omega
      · exact hf (h4 ▸ h)
  · rw [outH_length hl]; have := hI.nl; omega
  · have h1 : b ∉ newN hp.length (outH hp sel hp').length (kd.map fun j => sel.getD j 0) := by
      have := hI.kl b hb
      have := hI.nl
      simp only [newN, List.mem_append, not_or]
      refine ⟨fun hm => ?_, fun hm => ?_⟩
      · obtain ⟨j, hj, rfl⟩ := List.mem_map.1 hm
        exact hK j hj hb
      · have := (List.mem_range'_1.1 hm).1
        omega
    rw [hext.blk b h1, hext.off b h1, hext.cap b h1]
    exact hI.nm b hb
  · refine RepV.renR x v (RepV.eqTo hEq x v ?_ hsc hr)
    rcases hfl with h | h
    · exact .inl (hroS h)
    · exact .inr h.1
end
end Go.SX
