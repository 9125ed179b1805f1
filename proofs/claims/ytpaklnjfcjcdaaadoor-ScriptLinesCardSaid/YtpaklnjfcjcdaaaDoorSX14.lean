/- SX: named blocks viewed as read-only data for one call; data without reads. Own work. -/
import Derived.Test.YtpaklnjfcjcdaaaDoorSX13
namespace Go.SX
set_option linter.unusedVariables false
set_option linter.unusedSimpArgs false

/-! ### data that reads nothing -/
def XD.flat : XD → Prop
  | .val _ => True
  | .any => True
  | _ => False
def XC.flat : XC → Prop
  | .d x => x.flat
  | .cond _ x => x.flat
  | _ => True
def XV.flatW : XV → Prop
  | .c x => x.flat
  | .agg l => ∀ x, x ∈ l → x.flat
  | _ => True
def XV.flat : XV → Prop
  | .tup l => ∀ x, x ∈ l → x.flatW
  | x => x.flatW
def XB.flat : XB → Prop
  | .dead => True
  | .box l _ => ∀ x, x ∈ l → x.flat
  | .row k n g _ => ∀ i, i < n → ∀ c, c < k → (g i c).flat
  | .ob _ => True
theorem RepD.flat {ro ro' : Nat → Prop} {w w' : World} (x : XD) (v : Value) (hf : x.flat) (h : RepD ro w x v) : RepD ro' w' x v := by
  cases x with
  | val u => exact h
  | any => exact h
  | ros k n g => exact hf.elim
  | rop k g => exact hf.elim

/-- the ghosts agree below n -/
structure Gh.EqTo (γ γ' : Gh) (n : Nat) : Prop where
  blk : ∀ b, b < n → γ'.blk b = γ.blk b
  off : ∀ b, b < n → γ'.off b = γ.off b
  cap : ∀ b, b < n → γ'.cap b = γ.cap b
theorem RepC.eqTo {γ γ' : Gh} {w : World} {n : Nat} (hg : γ.EqTo γ' n) : ∀ (x : XC) (v : Value), (∀ b, γ.ro b → γ'.ro b) ∨ x.flat → x.upTo n → RepC γ w x v → RepC γ' w x v := by
  intro x
  induction x with
  | d x =>
    intro v hf _ h
    rcases hf with hf | hf
    · exact RepD.mono hf (fun _ _ => rfl) x v h
    · exact RepD.flat x v hf h
  | ptr b k i o => intro v _ hn h; simp only [RepC, hg.blk b hn, hg.off b hn]; exact h
  | slc b k i o => intro v _ hn h; simp only [RepC, hg.blk b hn, hg.off b hn, hg.cap b hn]; exact h
  | clo f bs =>
    intro v _ hn h
    simp only [RepC] at h ⊢
    rw [h]
    congr 2
    exact List.map_congr_left fun b hb => by rw [hg.blk b (hn b hb), hg.off b (hn b hb)]
  | cond φ x ih => intro v hf hn h; exact ⟨fun hφ => ih v hf hn (h.1 hφ), h.2⟩
theorem RepW.eqTo {γ γ' : Gh} {w : World} {n : Nat} (hg : γ.EqTo γ' n) (x : XV) (v : Value) (hf : (∀ b, γ.ro b → γ'.ro b) ∨ x.flatW) (hn : x.upToW n) (h : RepW γ w x v) : RepW γ' w x v := by
  cases x with
  | any => trivial
  | c x => exact RepC.eqTo hg x v hf hn h
  | agg l => obtain ⟨vs, hv, hl⟩ := h; exact ⟨vs, hv, hl.monoMem fun c u hc => RepC.eqTo hg c u (hf.imp id fun hf => hf c hc) (hn c hc)⟩
  | tup l => exact h
theorem RepV.eqTo {γ γ' : Gh} {w : World} {n : Nat} (hg : γ.EqTo γ' n) (x : XV) (v : Value) (hf : (∀ b, γ.ro b → γ'.ro b) ∨ x.flat) (hn : x.upTo n) (h : RepV γ w x v) : RepV γ' w x v := by
  cases x with
  | tup l => obtain ⟨vs, hv, hl⟩ := h; exact ⟨vs, hv, hl.monoMem fun c u hc => RepW.eqTo hg c u (hf.imp id fun hf => hf c hc) (hn c hc)⟩
  | any => trivial
  | c x => exact RepW.eqTo hg (.c x) v hf hn h
  | agg l => exact RepW.eqTo hg (.agg l) v hf hn h
theorem GoodB.eqTo {γ γ' : Gh} {w : World} {n b : Nat} (hg : γ.EqTo γ' n) (xb : XB) (hb : b < n) (hf : (∀ b, γ.ro b → γ'.ro b) ∨ xb.flat) (hn : ∀ l T, xb = .box l T → ∀ x, x ∈ l → XC.upTo n x) (h : GoodB γ w b xb) : GoodB γ' w b xb := by
  cases xb with
  | dead => trivial
  | box l T =>
    obtain ⟨h0, h1, vs, hv, hl⟩ := h
    exact ⟨by rw [hg.off b hb]; exact h0, by rw [hg.cap b hb]; exact h1, vs, by rw [hg.blk b hb]; exact hv, hl.monoMem fun c u hc => RepC.eqTo hg c u (hf.imp id fun hf => hf c hc) (hn l T rfl c hc)⟩
  | ob o => obtain ⟨h0, h1, hv⟩ := h; exact ⟨by rw [hg.off b hb]; exact h0, by rw [hg.cap b hb]; exact h1, by rw [hg.blk b hb]; exact hv⟩
  | row k m g T =>
    obtain ⟨h0, h1⟩ := h
    refine ⟨by rw [hg.cap b hb]; exact h0, ?_⟩
    rw [hg.cap b hb, hg.blk b hb, hg.off b hb]
    rcases h1 with h1 | ⟨arr, fz, ha, hz, hs, ho, hc⟩
    · exact .inl h1
    · refine .inr ⟨arr, fz, ha, hz, hs, ho, fun i hi c hck => ?_⟩
      obtain ⟨u, hu, hr⟩ := hc i hi c hck
      refine ⟨u, hu, ?_⟩
      rcases hf with hf | hf
      · exact RepD.mono hf (fun _ _ => rfl) _ _ hr
      · exact RepD.flat _ _ (hf i hi c hck) hr

/-! ### views -/
def datC : XC → XD
  | .d x => x
  | _ => .any
def viewS (S : List Nat) (hp : List XB) : XC → Prop × XC
  | .slc b k i n => if S.contains b then match hp[b]? with
      | some (.row k' m g T) => (k' = k ∧ i + n ≤ m, .d (.ros k n (shiftG i g)))
      | _ => (False, .d .any)
    else (True, .slc b k i n)
  | x => (True, x)
def notCond : XC → Bool
  | .cond _ _ => false
  | _ => true
def viewP (S : List Nat) (hp : List XB) : XC → Prop × XC
  | .ptr b k i o => if S.contains b then match hp[b]? with
      | some (.box l T) => (i = 0 ∧ (∀ x, x ∈ l → (viewS S hp x).1 ∧ notCond x = true), .d (.rop (l.length - o) fun c => datC (viewS S hp (l.getD (o + c) (.d .any))).2))
      | some (.row k' m g T) => (k' = k ∧ i < m, .d (.rop (k - o) fun c => g i (o + c)))
      | _ => (False, .d .any)
    else (True, .ptr b k i o)
  | x => viewS S hp x
def viewW (S : List Nat) (hp : List XB) : XV → Prop × XV
  | .c x => ((viewP S hp x).1, .c (viewP S hp x).2)
  | .agg l => (∀ x, x ∈ l → (viewP S hp x).1, .agg (l.map fun x => (viewP S hp x).2))
  | x => (True, x)
def roS (γ : Gh) (hp : List XB) (S : List Nat) : Nat → Prop := fun k => γ.ro k ∨ ∃ b xb, b ∈ S ∧ hp[b]? = some xb ∧ solid γ b xb ∧ γ.blk b = k

theorem ext_roS (γ : Gh) (hp : List XB) (S : List Nat) : γ.Ext { γ with ro := roS γ hp S } [] := ⟨fun _ _ => rfl, fun _ _ => rfl, fun _ _ => rfl, fun _ h => Or.inl h⟩
theorem same_roS {γ : Gh} {w : World} {hp : List XB} {S : List Nat} (x : XC) (v : Value) (h : RepC γ w x v) : RepC { γ with ro := roS γ hp S } w x v :=
  RepC.mono (ext_roS γ hp S) (fun _ _ => rfl) x v (XC.free_nil x) h
theorem viewS_sound {X : Cx} {γ : Gh} {w : World} {hp : List XB} {S : List Nat} (hI : Inv X γ w hp) (x : XC) (v : Value) (hx : RepC γ w x v) (hφ : (viewS S hp x).1) : RepC { γ with ro := roS γ hp S } w (viewS S hp x).2 v := by
  cases x with
  | slc b k i n =>
    simp only [viewS] at hφ ⊢
    split
    · rename_i hS
      simp only [hS, if_true] at hφ
      split
      · rename_i k' m g T hb
        simp only [hb] at hφ
        obtain ⟨rfl, him⟩ := hφ
        obtain ⟨a, cap, rfl, hn, hc⟩ := hx
        refine ⟨a, cap, rfl, hn, fun j hj => ?_⟩
        rcases hc with hc | ⟨rfl, hc⟩
        · omega
        · obtain ⟨hm, hr⟩ := hI.good b _ hb
          rcases hr with hr | ⟨arr, fz, ha, hz, hs, ho, hcell⟩
          · omega
          · refine ⟨_, _, rfl, .inr ⟨b, _, by simpa using hS, hb, show 0 < γ.cap b by omega, rfl⟩, fun c hck => ?_⟩
            obtain ⟨u, hu, hr⟩ := hcell (i + j) (by omega) c hck
            refine ⟨u, ?_, RepD.mono (fun _ h => Or.inl h) (fun _ _ => rfl) _ _ hr⟩
            simp only [World.cell?, ha]
            rw [show γ.off b + i * k' + (j * k' + c) = γ.off b + ((i + j) * k' + c) from by rw [Nat.add_mul]; omega]
            exact hu
      · rename_i hne
        split at hφ
        · rename_i k' m g T hb
          exact absurd hb (hne _ _ _ _)
        · exact hφ.elim
    · exact same_roS _ v hx
  | d x => exact same_roS _ v hx
  | ptr b k i o => exact same_roS _ v hx
  | clo f bs => exact same_roS _ v hx
  | cond φ x => exact same_roS _ v hx
theorem datC_sound {γ : Gh} {w : World} {x : XC} {v : Value} (h : RepC γ w x v) (hn : notCond x = true) : RepD γ.ro w (datC x) v := by
  cases x with
  | d x => exact h
  | ptr b k i o => have h : v = _ := h; subst h; rfl
  | slc b k i n => obtain ⟨a, cap, rfl, _⟩ := h; rfl
  | clo f bs => have h : v = _ := h; subst h; rfl
  | cond φ x => simp [notCond] at hn
theorem viewS_notCond {S : List Nat} {hp : List XB} {x : XC} (h : notCond x = true) : notCond (viewS S hp x).2 = true := by
  cases x with
  | slc b k i n =>
    simp only [viewS]
    split
    · split <;> rfl
    · rfl
  | d x => rfl
  | ptr b k i o => rfl
  | clo f bs => rfl
  | cond φ x => simp [notCond] at h
theorem viewP_sound {X : Cx} {γ : Gh} {w : World} {hp : List XB} {S : List Nat} (hI : Inv X γ w hp) (x : XC) (v : Value) (hx : RepC γ w x v) (hφ : (viewP S hp x).1) : RepC { γ with ro := roS γ hp S } w (viewP S hp x).2 v := by
  cases x with
  | ptr b k i o =>
    simp only [viewP] at hφ ⊢
    split
    · rename_i hS
      simp only [hS, if_true] at hφ
      have hv : v = _ := hx
      subst hv
      split
      · rename_i l T hb
        simp only [hb] at hφ
        obtain ⟨rfl, hall⟩ := hφ
        obtain ⟨h0, h1, vs, hvs, hl⟩ := hI.good b _ hb
        refine ⟨_, _, rfl, .inr ⟨b, _, by simpa using hS, hb, trivial, rfl⟩, fun c hc => ?_⟩
        have hlt : o + c < l.length := by omega
        obtain ⟨u, hu, hr⟩ := hl.get (o + c) _ (List.getElem?_eq_getElem hlt)
        have hm := hall _ (List.getElem_mem hlt)
        refine ⟨u, ?_, ?_⟩
        · simp only [World.cell?, hvs, h0]
          simpa using hu
        · show RepD _ _ (datC (viewS S hp (l.getD (o + c) (.d .any))).2) u
          rw [List.getD_eq_getElem?_getD, List.getElem?_eq_getElem hlt, Option.getD_some]
          exact datC_sound (viewS_sound hI _ u hr hm.1) (viewS_notCond hm.2)
      · rename_i k' m g T hb
        simp only [hb] at hφ
        obtain ⟨rfl, him⟩ := hφ
        obtain ⟨hm, hr⟩ := hI.good b _ hb
        rcases hr with hr | ⟨arr, fz, ha, hz, hs, ho, hcell⟩
        · omega
        · refine ⟨_, _, rfl, .inr ⟨b, _, by simpa using hS, hb, show 0 < γ.cap b by omega, rfl⟩, fun c hck => ?_⟩
          obtain ⟨u, hu, hr⟩ := hcell i him (o + c) (by omega)
          refine ⟨u, ?_, RepD.mono (fun _ h => Or.inl h) (fun _ _ => rfl) _ _ hr⟩
          simp only [World.cell?, ha]
          rw [show γ.off b + (i * k' + o) + c = γ.off b + (i * k' + (o + c)) from by omega]
          exact hu
      · rename_i h1 h2
        split at hφ
        · rename_i l T hb; exact absurd hb (h1 _ _)
        · rename_i k' m g T hb; exact absurd hb (h2 _ _ _ _)
        · exact hφ.elim
    · exact same_roS _ v hx
  | slc b k i n => exact viewS_sound hI _ v hx hφ
  | d x => exact same_roS _ v hx
  | clo f bs => exact same_roS _ v hx
  | cond φ x => exact same_roS _ v hx
theorem viewL_sound {X : Cx} {γ : Gh} {w : World} {hp : List XB} {S : List Nat} (hI : Inv X γ w hp) : ∀ (l : List XC) (vs : List Value), All2 (RepC γ w) l vs → (∀ x, x ∈ l → (viewP S hp x).1) → All2 (RepC { γ with ro := roS γ hp S } w) (l.map fun x => (viewP S hp x).2) vs := by
  intro l vs h
  induction h with
  | nil => exact fun _ => .nil
  | cons h _ ih => exact fun hφ => .cons (viewP_sound hI _ _ h (hφ _ (List.mem_cons_self ..))) (ih fun x hx => hφ x (List.mem_cons_of_mem _ hx))
theorem viewW_sound {X : Cx} {γ : Gh} {w : World} {hp : List XB} {S : List Nat} (hI : Inv X γ w hp) (x : XV) (v : Value) (hx : RepV γ w x v) (hφ : (viewW S hp x).1) : RepV { γ with ro := roS γ hp S } w (viewW S hp x).2 v := by
  cases x with
  | any => trivial
  | c x => exact viewP_sound hI x v hx hφ
  | agg l =>
    obtain ⟨vs, hv, hl⟩ := hx
    exact ⟨vs, hv, viewL_sound hI l vs hl hφ⟩
  | tup l =>
    obtain ⟨vs, hv, hl⟩ := hx
    refine ⟨vs, hv, hl.monoMem fun x u hx h => ?_⟩
    cases x with
    | any => trivial
    | c x => exact same_roS x u h
    | agg l => obtain ⟨us, hu, hl⟩ := h; exact ⟨us, hu, hl.monoMem fun c q _ hc => same_roS c q hc⟩
    | tup l => exact h.elim
end Go.SX
