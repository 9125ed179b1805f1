/- SX: names stay in scope; new blocks; stores into blocks. Own work. -/
import Derived.Test.YtpaklnjfcjcdaaaDoorSX5
namespace Go.SX
set_option linter.unusedVariables false
set_option linter.unusedSimpArgs false

/-! ### scope -/
theorem XC.upTo_mono {n m : Nat} (h : n ≤ m) : ∀ (x : XC), x.upTo n → x.upTo m := by
  intro x
  induction x with
  | d x => exact fun h => h
  | ptr b k i o => exact fun hb => Nat.lt_of_lt_of_le hb h
  | slc b k i n => exact fun hb => Nat.lt_of_lt_of_le hb h
  | clo f bs => exact fun hb b hm => Nat.lt_of_lt_of_le (hb b hm) h
  | cond φ x ih => exact ih
theorem XV.upToW_mono {n m : Nat} (h : n ≤ m) (x : XV) (hx : x.upToW n) : x.upToW m := by
  cases x with
  | any => trivial
  | c x => exact XC.upTo_mono h x hx
  | agg l => exact fun x hm => XC.upTo_mono h x (hx x hm)
  | tup l => exact hx
theorem XV.upTo_mono {n m : Nat} (h : n ≤ m) (x : XV) (hx : x.upTo n) : x.upTo m := by
  cases x with
  | tup l => exact fun x hm => XV.upToW_mono h x (hx x hm)
  | any => trivial
  | c x => exact XC.upTo_mono h x hx
  | agg l => exact fun x hm => XC.upTo_mono h x (hx x hm)

theorem strip_upTo {n : Nat} {x : XV} (h : x.upTo n) : (strip x).2.upTo n := by
  unfold strip; split <;> exact h
theorem atPtr_upTo {X : Cx} {γ : Gh} {w : World} {hp : List XB} {n : Nat} {x : XV} {cs : List XC} {φ : Prop} (hI : Inv X γ w hp) (h : atPtr hp n x = some (φ, cs)) : ∀ c, c ∈ cs → c.upTo hp.length := by
  have hrow : ∀ (f : Nat → XD) (n o : Nat) c, c ∈ rowL f o n → c.upTo hp.length := by
    intro f n o c hc
    rw [rowL_eq, List.mem_map] at hc
    obtain ⟨j, _, rfl⟩ := hc
    trivial
  unfold atPtr at h
  split at h
  · split at h
    · rename_i b k i o _ l T hb
      simp only [Option.some.injEq, Prod.mk.injEq] at h
      obtain ⟨_, rfl⟩ := h
      exact fun c hc => hI.sc b l T hb c (List.mem_of_mem_drop (List.mem_of_mem_take hc))
    · simp only [Option.some.injEq, Prod.mk.injEq] at h
      obtain ⟨_, rfl⟩ := h
      exact hrow _ _ _
    · simp at h
  · simp only [Option.some.injEq, Prod.mk.injEq] at h
    obtain ⟨_, rfl⟩ := h
    exact hrow _ _ _
  · simp at h
theorem atPtr1_upTo {X : Cx} {γ : Gh} {w : World} {hp : List XB} {x : XV} {c : XC} {φ : Prop} (hI : Inv X γ w hp) (h : atPtr1 hp x = some (φ, c)) : c.upTo hp.length := by
  unfold atPtr1 at h
  split at h
  · split at h
    · rename_i b k i o _ l T hb
      simp only [Option.map_eq_some_iff, Prod.mk.injEq] at h
      obtain ⟨c', hc, _, rfl⟩ := h
      exact hI.sc b l T hb _ (List.mem_of_getElem? hc)
    · simp only [Option.some.injEq, Prod.mk.injEq] at h
      obtain ⟨_, rfl⟩ := h
      trivial
    · simp at h
  · simp only [Option.some.injEq, Prod.mk.injEq] at h
    obtain ⟨_, rfl⟩ := h
    trivial
  · simp at h
theorem partX_upTo {P : Program} {t : TypeId} {l : List XC} {off n : Nat} {y : XV} {φ : Prop} (hl : ∀ c, c ∈ l → c.upTo n) (h : partX P t l off = some (φ, y)) : y.upTo n := by
  unfold partX at h
  split at h
  · simp only [Option.map_eq_some_iff, Prod.mk.injEq] at h
    obtain ⟨m, _, _, rfl⟩ := h
    exact fun c hc => hl c (List.mem_of_mem_drop (List.mem_of_mem_take hc))
  · simp only [Option.map_eq_some_iff, Prod.mk.injEq] at h
    obtain ⟨c, hc, _, rfl⟩ := h
    exact hl c (List.mem_of_getElem? hc)
  · simp at h
theorem setCells_upTo {n : Nat} : ∀ (cs l : List XC) (o : Nat), (∀ c, c ∈ l → c.upTo n) → (∀ c, c ∈ cs → c.upTo n) → ∀ c, c ∈ setCells l o cs → c.upTo n := by
  intro cs
  induction cs with
  | nil => exact fun l o hl _ => hl
  | cons u cs ih =>
    intro l o hl hc
    refine ih _ _ (fun c hm => ?_) (fun c hm => hc c (List.mem_cons_of_mem _ hm))
    rcases List.mem_or_eq_of_mem_set hm with h | rfl
    · exact hl c h
    · exact hc _ (List.mem_cons_self ..)
theorem cellsV_upTo {n : Nat} {x : XV} {l : List XC} (hx : x.upTo n) (h : cellsV x = some l) : ∀ c, c ∈ l → c.upTo n := by
  unfold cellsV at h
  split at h
  · simp only [Option.some.injEq] at h; subst h
    intro c hc
    rw [List.mem_singleton] at hc
    subst hc; exact hx
  · simp only [Option.some.injEq] at h; subst h; exact hx
  · simp at h
theorem fillX_upTo {n : Nat} {place : Nat → Option (Nat × Nat)} : ∀ (ps : List (Nat × XV)) (cells cells' : List XC) (φ : Prop), (∀ p, p ∈ ps → p.2.upTo n) → (∀ c, c ∈ cells → c.upTo n) → fillX place cells ps = some (φ, cells') → ∀ c, c ∈ cells' → c.upTo n := by
  intro ps
  induction ps with
  | nil => intro cells cells' φ _ hc h; simp only [fillX, Option.some.injEq, Prod.mk.injEq] at h; obtain ⟨_, rfl⟩ := h; exact hc
  | cons p ps ih =>
    intro cells cells' φ hp hc h
    obtain ⟨i, y⟩ := p
    simp only [fillX, Option.bind_eq_some_iff] at h
    obtain ⟨⟨o, m⟩, _, cs, hcs, h⟩ := h
    split at h
    · simp only [Option.map_eq_some_iff, Prod.mk.injEq] at h
      obtain ⟨⟨ψ, r⟩, hr, _, rfl⟩ := h
      exact ih _ _ _ (fun p hm => hp p (List.mem_cons_of_mem _ hm)) (setCells_upTo _ _ _ hc (cellsV_upTo (hp (i, y) (List.mem_cons_self ..)) hcs)) hr
    · simp at h
theorem zerC_upTo {P : Program} {T : TypeId} {zs : List XC} {n : Nat} (h : zerC P T = some zs) : ∀ c, c ∈ zs → c.upTo n := by
  simp only [zerC, Option.map_eq_some_iff] at h
  obtain ⟨l, _, rfl⟩ := h
  intro c hc
  rw [List.mem_map] at hc
  obtain ⟨v, _, rfl⟩ := hc
  trivial
theorem cloCaps_upTo {n : Nat} : ∀ (l : List XV) (bs : List Nat), (∀ x, x ∈ l → x.upTo n) → cloCaps l = some bs → ∀ b, b ∈ bs → b < n := by
  intro l
  induction l with
  | nil => intro bs _ h; simp only [cloCaps, Option.some.injEq] at h; subst h; simp
  | cons x l ih =>
    intro bs hl h
    unfold cloCaps at h
    split at h
    · rename_i heq; simp at heq
    · rename_i b k l' heq
      simp only [List.cons.injEq] at heq
      obtain ⟨rfl, rfl⟩ := heq
      simp only [Option.map_eq_some_iff] at h
      obtain ⟨r, hr, rfl⟩ := h
      intro b' hb
      rcases List.mem_cons.1 hb with rfl | hb
      · exact hl _ (List.mem_cons_self ..)
      · exact ih r (fun x hx => hl x (List.mem_cons_of_mem _ hx)) hr b' hb
    · simp at h

theorem fop_upTo {X : Cx} {γ : Gh} {w : World} {hp : List XB} {ev : Operand → XV} {op : Op} {y : XV} {φ : Prop} (hI : Inv X γ w hp) (hev : ∀ x, (ev x).upTo hp.length)
    (h : fop X.P ev hp op = some (φ, y)) : y.upTo hp.length := by
  have wp : ∀ {φ ψ : Prop} {r : Option (Prop × XV)} {y : XV}, withP φ r = some (ψ, y) → ∃ χ, r = some (χ, y) := by
    intro φ ψ r y h
    simp only [withP, Option.map_eq_some_iff, Prod.mk.injEq] at h
    obtain ⟨⟨χ, y'⟩, hr, _, rfl⟩ := h
    exact ⟨χ, hr⟩
  have st : ∀ x, (strip (ev x)).2.upTo hp.length := fun x => strip_upTo (hev x)
  have sc : ∀ {r : Option (Prop × Value)} {ψ : Prop} {y : XV}, scal r = some (ψ, y) → y.upTo hp.length := by
    intro r ψ y h
    obtain ⟨v, _, rfl⟩ := scal_some h
    trivial
  unfold fop at h
  split at h
  · simp only [Option.some.injEq, Prod.mk.injEq] at h; obtain ⟨_, rfl⟩ := h; exact hev _
  · simp only [Option.some.injEq, Prod.mk.injEq] at h; obtain ⟨_, rfl⟩ := h; exact hev _
  · unfold pickX at h
    split at h
    · simp only [Option.some.injEq, Prod.mk.injEq] at h; obtain ⟨_, rfl⟩ := h; trivial
    · simp only [Option.some.injEq, Prod.mk.injEq] at h; obtain ⟨_, rfl⟩ := h; trivial
    · simp only [Option.some.injEq, Prod.mk.injEq] at h; obtain ⟨_, rfl⟩ := h; trivial
    · simp at h
  · obtain ⟨χ, h⟩ := wp h
    unfold loadX at h
    split at h
    · simp only [Option.bind_eq_some_iff, Option.map_eq_some_iff, Prod.mk.injEq] at h
      obtain ⟨n, _, ⟨ψ, cs⟩, hr, _, rfl⟩ := h
      exact atPtr_upTo hI hr
    · simp only [Option.map_eq_some_iff, Prod.mk.injEq] at h
      obtain ⟨⟨ψ, c⟩, hr, _, rfl⟩ := h
      exact atPtr1_upTo hI hr
    · simp at h
  · rename_i T p f
    obtain ⟨χ, h⟩ := wp h
    have hx := st p
    generalize (strip (ev p)).2 = x at *
    unfold fieldAddrX at h
    split at h
    · simp only [Option.bind_eq_some_iff] at h
      obtain ⟨r, _, n, _, h⟩ := h
      split at h
      · simp at h
      · simp only [Option.some.injEq, Prod.mk.injEq] at h; obtain ⟨_, rfl⟩ := h; exact hx
    · simp only [Option.bind_eq_some_iff] at h
      obtain ⟨r, _, n, _, h⟩ := h
      split at h
      · simp at h
      · simp only [Option.some.injEq, Prod.mk.injEq] at h; obtain ⟨_, rfl⟩ := h; trivial
    · simp at h
  · rename_i T p f
    obtain ⟨χ, h⟩ := wp h
    have hx := st p
    generalize (strip (ev p)).2 = x at *
    unfold fieldX at h
    split at h
    · simp only [Option.bind_eq_some_iff] at h
      obtain ⟨r, _, h⟩ := h
      exact partX_upTo hx h
    · simp at h
  · rename_i T x i
    obtain ⟨χ, h⟩ := wp h
    have hx := st x
    generalize (strip (ev x)).2 = x at *
    unfold indexAddrX at h
    simp only [Option.bind_eq_some_iff] at h
    obtain ⟨n, _, h⟩ := h
    split at h
    · simp only [Option.bind_eq_some_iff] at h
      obtain ⟨e, _, h⟩ := h
      split at h
      · simp only [Option.some.injEq, Prod.mk.injEq] at h; obtain ⟨_, rfl⟩ := h; exact hx
      · simp at h
    · simp only [Option.bind_eq_some_iff] at h
      obtain ⟨e, _, h⟩ := h
      split at h
      · simp only [Option.some.injEq, Prod.mk.injEq] at h; obtain ⟨_, rfl⟩ := h; trivial
      · simp at h
    · simp only [Option.bind_eq_some_iff, Option.map_eq_some_iff, Prod.mk.injEq] at h
      obtain ⟨r, _, s, _, _, rfl⟩ := h; exact hx
    · simp only [Option.bind_eq_some_iff, Option.map_eq_some_iff, Prod.mk.injEq] at h
      obtain ⟨r, _, s, _, _, rfl⟩ := h; trivial
    · simp at h
  · rename_i T x i
    obtain ⟨χ, h⟩ := wp h
    have hx := st x
    generalize (strip (ev x)).2 = x at *
    unfold indexX at h
    simp only [Option.bind_eq_some_iff] at h
    obtain ⟨n, _, h⟩ := h
    split at h
    · simp only [Option.bind_eq_some_iff, Option.map_eq_some_iff, Prod.mk.injEq] at h
      obtain ⟨r, _, s, _, ⟨ψ, q⟩, hq, _, rfl⟩ := h
      exact partX_upTo hx hq
    · split at h
      · simp only [Option.some.injEq, Prod.mk.injEq] at h; obtain ⟨_, rfl⟩ := h; trivial
      · simp at h
    · simp at h
  · rename_i t i
    simp only [Option.map_eq_some_iff, Prod.mk.injEq] at h
    obtain ⟨y', h, _, rfl⟩ := h
    have hx := hev t
    generalize ev t = x at *
    unfold extractX at h
    split at h
    · have := hx y' (List.mem_of_getElem? h)
      cases y' with
      | tup l => exact this.elim
      | any => trivial
      | c x => exact this
      | agg l => exact this
    · simp at h
  · split at h
    · simp only [Option.some.injEq, Prod.mk.injEq] at h; obtain ⟨_, rfl⟩ := h; exact st _
    · simp at h
  · obtain ⟨χ, h⟩ := wp h
    exact sc h
  · obtain ⟨χ, h⟩ := wp h
    exact sc h
  · obtain ⟨χ, h⟩ := wp h
    exact sc h
  · rename_i T x lo hi mx
    obtain ⟨χ, h⟩ := wp h
    have hx := st x
    generalize (strip (ev x)).2 = x at *
    unfold sliceX at h
    split at h
    · simp at h
    · split at h
      · split at h
        · simp only [Option.bind_eq_some_iff, Option.map_eq_some_iff, Prod.mk.injEq] at h
          obtain ⟨l, _, hh, _, _, rfl⟩ := h; trivial
        · simp at h
      · simp only [Option.bind_eq_some_iff] at h
        obtain ⟨e, _, h⟩ := h
        split at h
        · simp only [Option.bind_eq_some_iff, Option.map_eq_some_iff, Prod.mk.injEq] at h
          obtain ⟨l, _, hh, _, _, rfl⟩ := h; exact hx
        · simp at h
      · simp only [Option.bind_eq_some_iff] at h
        obtain ⟨e, _, h⟩ := h
        split at h
        · simp only [Option.bind_eq_some_iff, Option.map_eq_some_iff, Prod.mk.injEq] at h
          obtain ⟨l, _, hh, _, _, rfl⟩ := h; trivial
        · simp at h
      · simp at h
  · rename_i f first captured
    split at h
    · simp only [Option.map_eq_some_iff, Prod.mk.injEq] at h
      obtain ⟨bs, hbs, _, rfl⟩ := h
      refine cloCaps_upTo _ bs (fun x hx => ?_) hbs
      rw [List.mem_map] at hx
      obtain ⟨z, _, rfl⟩ := hx
      exact hev z
    · simp at h
  · rename_i T parts
    simp only [buildX, Option.bind_eq_some_iff, Option.map_eq_some_iff, Prod.mk.injEq] at h
    obtain ⟨zs, hz, pl, _, ⟨ψ, r⟩, hr, _, rfl⟩ := h
    refine fillX_upTo _ zs r ψ (fun p hp => ?_) (zerC_upTo hz) hr
    rw [List.mem_map] at hp
    obtain ⟨z, _, rfl⟩ := hp
    exact hev z.2
  · split at h
    · split at h
      · obtain ⟨χ, h⟩ := wp h
        simp only [Option.map_eq_some_iff, Prod.mk.injEq] at h
        obtain ⟨n, _, _, rfl⟩ := h; trivial
      · simp at h
    · obtain ⟨χ, h⟩ := wp h
      simp only [Option.map_eq_some_iff, Prod.mk.injEq] at h
      obtain ⟨n, _, _, rfl⟩ := h; trivial
    · obtain ⟨χ, h⟩ := wp h
      simp only [Option.map_eq_some_iff, Prod.mk.injEq] at h
      obtain ⟨n, _, _, rfl⟩ := h; trivial
    · simp at h
  · simp at h
end Go.SX
