/- SX: operations that make blocks or write into blocks of known names. Own work. -/
import Derived.Test.YtpaklnjfcjcdaaaDoorSX6
namespace Go.SX
set_option linter.unusedVariables false
set_option linter.unusedSimpArgs false

def Gh.put (γ : Gh) (b blk off cap : Nat) : Gh :=
  { γ with blk := fun x => if x = b then blk else γ.blk x, off := fun x => if x = b then off else γ.off x, cap := fun x => if x = b then cap else γ.cap x }
theorem Gh.put_ext (γ : Gh) (b blk off cap : Nat) : γ.Ext (γ.put b blk off cap) [b] := by
  refine ⟨fun x hx => ?_, fun x hx => ?_, fun x hx => ?_, fun _ h => h⟩ <;> (rw [List.mem_singleton] at hx; simp [Gh.put, hx])
theorem Gh.put_blk (γ : Gh) (b blk off cap : Nat) : (γ.put b blk off cap).blk b = blk := by simp [Gh.put]
theorem Gh.put_off (γ : Gh) (b blk off cap : Nat) : (γ.put b blk off cap).off b = off := by simp [Gh.put]
theorem Gh.put_cap (γ : Gh) (b blk off cap : Nat) : (γ.put b blk off cap).cap b = cap := by simp [Gh.put]

theorem XC.free_of_upTo {n : Nat} {S : List Nat} (hS : ∀ b, b ∈ S → n ≤ b) : ∀ (x : XC), x.upTo n → x.free S := by
  intro x
  induction x with
  | d x => exact fun _ => trivial
  | ptr b k i o => exact fun hb hm => absurd (hS b hm) (Nat.not_le_of_lt hb)
  | slc b k i o => exact fun hb hm => absurd (hS b hm) (Nat.not_le_of_lt hb)
  | clo f bs => exact fun hb b hm hs => absurd (hS b hs) (Nat.not_le_of_lt (hb b hm))
  | cond φ x ih => exact ih
theorem XV.freeW_of_upTo {n : Nat} {S : List Nat} (hS : ∀ b, b ∈ S → n ≤ b) (x : XV) (h : x.upToW n) : x.freeW S := by
  cases x with
  | any => trivial
  | c x => exact XC.free_of_upTo hS x h
  | agg l => exact fun x hm => XC.free_of_upTo hS x (h x hm)
  | tup l => exact h
theorem XV.free_of_upTo {n : Nat} {S : List Nat} (hS : ∀ b, b ∈ S → n ≤ b) (x : XV) (h : x.upTo n) : x.free S := by
  cases x with
  | tup l => exact fun x hm => XV.freeW_of_upTo hS x (h x hm)
  | any => trivial
  | c x => exact XC.free_of_upTo hS x h
  | agg l => exact fun x hm => XC.free_of_upTo hS x (h x hm)

theorem getElem?_append_one {α : Type} {l : List α} {x y : α} {b : Nat} (h : (l ++ [x])[b]? = some y) : (b < l.length ∧ l[b]? = some y) ∨ (b = l.length ∧ y = x) := by
  rcases Nat.lt_or_ge b l.length with hb | hb
  · rw [List.getElem?_append_left hb] at h; exact .inl ⟨hb, h⟩
  · rw [List.getElem?_append_right hb] at h
    rcases Nat.eq_or_lt_of_le hb with e | e
    · rw [← e] at h; simp at h; exact .inr ⟨e.symm, h.symm⟩
    · rw [List.getElem?_eq_none (by simp; omega)] at h; simp at h

theorem alloc_size (w : World) (o : Obj) : (w.alloc o).heap.size = w.heap.size + 1 := by simp
/-- A new block under a new name. -/
theorem inv_alloc {X : Cx} {γ : Gh} {w : World} {hp : List XB} {ob : Obj} {xb : XB} {cap : Nat} (hI : Inv X γ w hp)
    (hg : GoodB (γ.put hp.length w.heap.size 0 cap) (w.alloc ob) hp.length xb)
    (hs : ∀ l T, xb = .box l T → ∀ x, x ∈ l → x.upTo hp.length) :
    Inv X (γ.put hp.length w.heap.size 0 cap) (w.alloc ob) (hp ++ [xb]) ∧ ∀ b, γ.ro b → (w.alloc ob).heap[b]? = w.heap[b]? := by
  have hlt : ∀ k, k < w.heap.size → (w.alloc ob).heap[k]? = w.heap[k]? := fun k hk => Go.RowKit.Below.heap_alloc w _ k hk
  have hro : ∀ b, γ.ro b → (w.alloc ob).heap[b]? = w.heap[b]? := fun b hb => hlt b (hI.ro b hb).1
  have hext := γ.put_ext hp.length w.heap.size 0 cap
  have old : ∀ b, b < hp.length → (γ.put hp.length w.heap.size 0 cap).blk b = γ.blk b ∧ (γ.put hp.length w.heap.size 0 cap).cap b = γ.cap b := fun b hb => by simp [Gh.put, Nat.ne_of_lt hb]
  have sold : ∀ b xb', b < hp.length → (solid (γ.put hp.length w.heap.size 0 cap) b xb' ↔ solid γ b xb') := fun b xb' hb => by
    cases xb' <;> simp [solid, (old b hb).2]
  refine ⟨⟨fun b xb' hb => ?_, fun b b' y y' h1 h2 s1 s2 he => ?_, fun b y hb hs => ?_, fun b hb => ?_, hI.ro0, hI.roX, fun b l T' hb x hx => ?_, ?_, by have := hI.nl; simp; omega, hI.kl, fun b hb => ?_⟩, hro⟩
  · rcases getElem?_append_one hb with ⟨hb1, hb2⟩ | ⟨rfl, rfl⟩
    · refine GoodB.mono hext hro (by simp; omega) (fun hso => hlt _ (hI.own b xb' hb2 hso).1) (fun l T e x hx => ?_) (hI.good b xb' hb2)
      subst e
      exact XC.free_of_upTo (n := hp.length) (by simp) x (hI.sc b l T hb2 x hx)
    · exact hg
  · rcases getElem?_append_one h1 with ⟨a1, a2⟩ | ⟨rfl, rfl⟩ <;> rcases getElem?_append_one h2 with ⟨c1, c2⟩ | ⟨rfl, rfl⟩
    · rw [(old b a1).1, (old b' c1).1] at he
      exact hI.inj b b' y y' a2 c2 ((sold b y a1).1 s1) ((sold b' y' c1).1 s2) he
    · rw [(old b a1).1, Gh.put_blk] at he
      have := (hI.own b y a2 ((sold b y a1).1 s1)).1
      omega
    · rw [(old b' c1).1, Gh.put_blk] at he
      have := (hI.own b' y' c2 ((sold b' y' c1).1 s2)).1
      omega
    · rfl
  · rcases getElem?_append_one hb with ⟨hb1, hb2⟩ | ⟨rfl, rfl⟩
    · obtain ⟨p, q, r⟩ := hI.own b y hb2 ((sold b y hb1).1 hs)
      rw [(old b hb1).1]
      exact ⟨by rw [alloc_size]; omega, q, r⟩
    · rw [Gh.put_blk]
      refine ⟨by rw [alloc_size]; omega, fun h => ?_, .inl hI.keep.size⟩
      have := (hI.ro _ h).1
      omega
  · obtain ⟨p, q⟩ := hI.ro b hb
    exact ⟨by rw [alloc_size]; omega, q⟩
  · simp only [List.length_append, List.length_singleton]
    rcases getElem?_append_one hb with ⟨hb1, hb2⟩ | ⟨rfl, e⟩
    · exact XC.upTo_mono (by omega) x (hI.sc b l T' hb2 x hx)
    · exact XC.upTo_mono (by omega) x (hs l T' e.symm x hx)
  · exact ⟨hI.keep.os, hI.keep.tape, hI.keep.output, by have := hI.keep.size; rw [alloc_size]; omega, fun k hk hf => (hlt k (by have := hI.keep.size; omega)).trans (hI.keep.block k hk hf)⟩
  · have h1 := hI.nl
    have h2 := hI.kl b hb
    have hne : b ∉ [hp.length] := by simp; omega
    rw [hext.blk b hne, hext.off b hne, hext.cap b hne]
    exact hI.nm b hb

/-- A named block is written. -/
theorem inv_modify {X : Cx} {γ : Gh} {w w' : World} {hp : List XB} {b : Nat} {xb xb' : XB} (hI : Inv X γ w hp) (hb : hp[b]? = some xb) (hso : solid γ b xb)
    (hw : ∀ k, k ≠ γ.blk b → w'.heap[k]? = w.heap[k]?) (hos : w'.os = w.os) (hta : w'.tape = w.tape) (hou : w'.output = w.output) (hsz : w'.heap.size = w.heap.size)
    (hg : GoodB γ w' b xb') (hs : ∀ l T, xb' = .box l T → ∀ x, x ∈ l → x.upTo hp.length) :
    Inv X γ w' (hp.set b xb') ∧ ∀ b, γ.ro b → w'.heap[b]? = w.heap[b]? := by
  obtain ⟨o1, o2, o3⟩ := hI.own b xb hb hso
  have hro : ∀ k, γ.ro k → w'.heap[k]? = w.heap[k]? := fun k hk => hw k (fun e => o2 (e ▸ hk))
  have hblt := (List.getElem?_eq_some_iff.1 hb).1
  have look : ∀ k y, (hp.set b xb')[k]? = some y → (k = b ∧ y = xb') ∨ (k ≠ b ∧ hp[k]? = some y) := fun k y hk => by
    by_cases e : k = b
    · subst e; rw [List.getElem?_set_self hblt] at hk; simp at hk; exact .inl ⟨rfl, hk.symm⟩
    · rw [List.getElem?_set_ne (fun h => e h.symm)] at hk; exact .inr ⟨e, hk⟩
  have low : ∀ y, solid γ b y → γ.blk b < w.heap.size := fun _ _ => o1
  refine ⟨⟨fun k y hk => ?_, fun k k' y y' h1 h2 s1 s2 he => ?_, fun k y hk hs => ?_, fun k hk => ?_, hI.ro0, hI.roX, fun k l T hk x hx => ?_, ?_, by rw [List.length_set]; exact hI.nl, hI.kl, hI.nm⟩, hro⟩
  · rcases look k y hk with ⟨rfl, rfl⟩ | ⟨e, h⟩
    · exact hg
    · refine GoodB.mono (Gh.Ext.refl γ []) hro (by simp) (fun hs => hw _ fun he => e (hI.inj k b y xb h hb hs hso he)) (fun l T _ x _ => XC.free_nil x) (hI.good k y h)
  · rcases look k y h1 with ⟨rfl, rfl⟩ | ⟨e, h⟩ <;> rcases look k' y' h2 with ⟨rfl, rfl⟩ | ⟨e', h'⟩
    · rfl
    · exact hI.inj k k' xb y' hb h' hso s2 he
    · exact hI.inj k k' y xb h hb s1 hso he
    · exact hI.inj k k' y y' h h' s1 s2 he
  · rcases look k y hk with ⟨rfl, rfl⟩ | ⟨e, h⟩
    · exact ⟨by rw [hsz]; exact o1, o2, o3⟩
    · obtain ⟨p, q, r⟩ := hI.own k y h hs
      exact ⟨by rw [hsz]; exact p, q, r⟩
  · obtain ⟨p, q⟩ := hI.ro k hk
    exact ⟨by rw [hsz]; exact p, q⟩
  · rw [List.length_set]
    rcases look k _ hk with ⟨rfl, e⟩ | ⟨e, h⟩
    · exact hs l T e.symm x hx
    · exact hI.sc k l T h x hx
  · refine ⟨hos.trans hI.keep.os, hta.trans hI.keep.tape, hou.trans hI.keep.output, by rw [hsz]; exact hI.keep.size, fun k hk hf => ?_⟩
    rw [hw k fun e => ?_]
    · exact hI.keep.block k hk hf
    · rcases o3 with o3 | o3
      · omega
      · exact hf (e ▸ o3)

/-! ### the run of a store -/
def wrL (l : List Value) (o : Nat) : List Value → List Value
  | [] => l
  | u :: us => wrL (l.set o u) (o + 1) us
theorem wrL_length : ∀ (us l : List Value) (o : Nat), (wrL l o us).length = l.length := by
  intro us
  induction us with
  | nil => intro l o; rfl
  | cons u us ih => intro l o; rw [wrL, ih, List.length_set]
theorem wrL_get : ∀ (us l : List Value) (o j : Nat), o + us.length ≤ l.length → (wrL l o us)[j]? = if o ≤ j ∧ j < o + us.length then us[j - o]? else l[j]? := by
  intro us
  induction us with
  | nil => intro l o j h; simp [wrL]; intros; omega
  | cons u us ih =>
    intro l o j h
    simp only [List.length_cons] at h
    rw [wrL, ih _ _ _ (by rw [List.length_set]; omega)]
    simp only [List.length_cons]
    by_cases e : j = o
    · subst e
      rw [if_neg (by omega), if_pos (by omega), List.getElem?_set_self (by omega)]
      simp
    · rw [List.getElem?_set_ne (fun h => e h.symm)]
      by_cases h1 : o + 1 ≤ j ∧ j < o + 1 + us.length
      · rw [if_pos h1, if_pos (by omega)]
        rw [show j - o = (j - (o + 1)) + 1 from by omega, List.getElem?_cons_succ]
      · rw [if_neg h1, if_neg (by omega)]
theorem oneCell'_of_one {v : Value} (h : one v = true) : v.oneCell' = true := by cases v <;> first | rfl | simp [one] at h
theorem run_storeCells {P : Program} : ∀ (us : List Value) (w : World) (b o i : Nat) (l : List Value) (T : TypeId) (fz : Nat × Nat), w.heap[b]? = some (.cells l.toArray T fz) → (∀ o, o < l.length → ¬ (fz.1 ≤ o ∧ o < fz.2)) →
    o + i + us.length ≤ l.length → (∀ u, u ∈ us → one u = true) →
    ∃ w', (storeCells ⟨b, o, none⟩ us i).run P w = .ok () w' ∧ w'.heap[b]? = some (.cells (wrL l (o + i) us).toArray T fz) ∧ (∀ k, k ≠ b → w'.heap[k]? = w.heap[k]?) ∧ w'.os = w.os ∧ w'.tape = w.tape ∧ w'.output = w.output ∧ w'.heap.size = w.heap.size := by
  intro us
  induction us with
  | nil => intro w b o i l T fz hb _ _ _; exact ⟨w, rfl, hb, fun _ _ => rfl, rfl, rfl, rfl, rfl⟩
  | cons u us ih =>
    intro w b o i l T fz hb hz hl hone
    simp only [List.length_cons] at hl
    have hc : w.cell? ⟨b, o + i, none⟩ = some (l[o + i]'(by omega)) := by
      simp only [World.cell?, hb]
      simp
    have hf : w.frozen? ⟨b, o + i, none⟩ = false := by
      have := hz (o + i) (by omega)
      simp only [World.frozen?, hb]
      obtain ⟨lo, hi⟩ := fz
      simp only [Bool.and_eq_false_iff, decide_eq_false_iff_not]
      simp only at this
      omega
    have hst : (store ⟨b, o + i, none⟩ u .plain).run P w = .ok () (w.setCell ⟨b, o + i, none⟩ u) := by
      rw [run_store P w _ u _ (oneCell'_of_one (hone u (List.mem_cons_self ..))), hc]
      simp [hf]
    have hb' : (w.setCell ⟨b, o + i, none⟩ u).heap[b]? = some (.cells (l.set (o + i) u).toArray T fz) := by
      simp only [World.setCell, Array.getElem?_modify, if_pos, hb, Option.map_some]
      simp
    obtain ⟨w', h1, h2, h3, h4, h5, h6, h7⟩ := ih (w.setCell ⟨b, o + i, none⟩ u) b o (i + 1) (l.set (o + i) u) T fz hb' (fun o ho => hz o (by simpa using ho)) (by rw [List.length_set]; omega) (fun u hu => hone u (List.mem_cons_of_mem _ hu))
    refine ⟨w', ?_, ?_, fun k hk => ?_, h4, h5, h6, ?_⟩
    · rw [storeCells]
      simp only [Sem.run_bind, add_at, hst, Result.andThen_ok]
      exact h1
    · rw [h2, wrL]; rfl
    · rw [h3 k hk]
      simp only [World.setCell, Array.getElem?_modify]
      rw [if_neg (fun h => hk h.symm)]
    · rw [h7]; simp [World.setCell]

theorem wrL_sound {γ : Gh} {w : World} : ∀ (cs : List XC) (us : List Value), All2 (RepC γ w) cs us → ∀ (l : List XC) (vs : List Value) (o : Nat), All2 (RepC γ w) l vs → All2 (RepC γ w) (setCells l o cs) (wrL vs o us) := by
  intro cs us h
  induction h with
  | nil => intro l vs o hl; exact hl
  | cons hr _ ih => intro l vs o hl; exact ih _ _ _ (hl.set hr o)
theorem All2.memR {α β : Type} {R : α → β → Prop} {l : List α} {m : List β} (h : All2 R l m) : ∀ b, b ∈ m → ∃ a, a ∈ l ∧ R a b := by
  induction h with
  | nil => intro b hb; simp at hb
  | cons h _ ih =>
    intro b hb
    rcases List.mem_cons.1 hb with rfl | hb
    · exact ⟨_, List.mem_cons_self .., h⟩
    · obtain ⟨a, ha, hr⟩ := ih b hb
      exact ⟨a, List.mem_cons_of_mem _ ha, hr⟩
theorem oneXV_cells {γ : Gh} {w : World} {x : XV} {v : Value} {cs : List XC} {us : List Value} (h1 : oneXV x = true) (hc : cellsV x = some cs) (hl : All2 (RepC γ w) cs us) : ∀ u, u ∈ us → one u = true := by
  intro u hu
  obtain ⟨c, hcm, hr⟩ := hl.memR u hu
  have : oneC c = true := by
    unfold cellsV at hc
    split at hc
    · simp only [Option.some.injEq] at hc; subst hc
      rw [List.mem_singleton] at hcm; subst hcm; exact h1
    · simp only [Option.some.injEq] at hc; subst hc
      exact List.all_eq_true.1 h1 c hcm
    · simp at hc
  exact oneC_sound this hr

def datL : List XC → Option (List XD)
  | [] => some []
  | .d x :: l => (datL l).map fun r => x :: r
  | _ => none
theorem datL_sound {γ : Gh} {w : World} : ∀ (cs : List XC) (us : List Value) (ds : List XD), All2 (RepC γ w) cs us → datL cs = some ds → All2 (RepD γ.ro w) ds us := by
  intro cs us ds h
  induction h generalizing ds with
  | nil => intro h; simp only [datL, Option.some.injEq] at h; subst h; exact .nil
  | cons hr _ ih =>
    intro h
    unfold datL at h
    split at h
    · rename_i heq; simp at heq
    · rename_i x l' heq
      simp only [List.cons.injEq] at heq
      obtain ⟨rfl, rfl⟩ := heq
      simp only [Option.map_eq_some_iff] at h
      obtain ⟨r, hr', rfl⟩ := h
      exact .cons hr (ih r hr')
    · simp at h
theorem datL_length : ∀ (cs : List XC) (ds : List XD), datL cs = some ds → ds.length = cs.length := by
  intro cs
  induction cs with
  | nil => intro ds h; simp only [datL, Option.some.injEq] at h; subst h; rfl
  | cons c cs ih =>
    intro ds h
    unfold datL at h
    split at h
    · rename_i heq; simp at heq
    · rename_i x l' heq
      simp only [List.cons.injEq] at heq
      obtain ⟨rfl, rfl⟩ := heq
      simp only [Option.map_eq_some_iff] at h
      obtain ⟨r, hr', rfl⟩ := h
      simp [ih r hr']
    · simp at h
/-- element i of a row, some of its cells written -/
def setRow (g : Nat → Nat → XD) (i o : Nat) (ds : List XD) : Nat → Nat → XD :=
  fun i' c => if i' = i then (if o ≤ c ∧ c < o + ds.length then ds.getD (c - o) .any else g i' c) else g i' c

def storeX (P : Program) (hp : List XB) (T : TypeId) (p y : XV) : Option (Prop × List XB) :=
  (szT P T).bind fun n => (cellsV y).bind fun cs => if oneXV y then
    match p with
    | .c (.ptr b k i o) =>
      match hp[b]? with
      | some (.box l T') => some (cs.length = n ∧ i = 0 ∧ o + n ≤ l.length, hp.set b (.box (setCells l o cs) T'))
      | some (.row k' m g T') => (datL cs).map fun ds => (cs.length = n ∧ k' = k ∧ i < m ∧ o + n ≤ k, hp.set b (.row k' m (setRow g i o ds) T'))
      | _ => none
    | _ => none
  else none

theorem storeX_sound {X : Cx} {γ : Gh} {w : World} {hp hp' : List XB} {T : TypeId} {p y : XV} {v u : Value} {φ : Prop} (hI : Inv X γ w hp) (hp0 : RepV γ w p v) (hy : RepV γ w y u) (hys : y.upTo hp.length) (h : storeX X.P hp T p y = some (φ, hp')) (hφ : φ) :
    ∃ w', (Instr.storeAt T v u).run X.P w = .ok () w' ∧ Inv X γ w' hp' ∧ hp'.length = hp.length ∧ ∀ b, γ.ro b → w'.heap[b]? = w.heap[b]? := by
  simp only [storeX, Option.bind_eq_some_iff] at h
  obtain ⟨n, hn, cs, hcs, h⟩ := h
  split at h
  · rename_i h1
    obtain ⟨us, hus, hul⟩ := cellsV_sound hy hcs (fun c hc => by subst hc; exact oneC_sound h1 hy)
    have hone := oneXV_cells (v := u) h1 hcs hul
    have hcsc := cellsV_upTo hys hcs
    split at h
    · rename_i b k i o
      have hv : v = .pointer (some ⟨γ.blk b, γ.off b + (i * k + o), none⟩) := hp0
      subst hv
      have hrun : ∀ w', cs.length = n → (storeCells ⟨γ.blk b, γ.off b + (i * k + o), none⟩ us 0).run X.P w = .ok () w' → (Instr.storeAt T (.pointer (some ⟨γ.blk b, γ.off b + (i * k + o), none⟩)) u).run X.P w = .ok () w' := by
        intro w' hl hst
        have hul' := hul.length
        simp only [Instr.storeAt, Instr.sureAddr, storeVar, Sem.run_bind, Sem.run_pure, Result.andThen_ok, run_sizeOf hn, hus]
        rw [if_neg (by simp; omega)]
        exact hst
      split at h
      · rename_i l T' hb
        simp only [Option.some.injEq, Prod.mk.injEq] at h
        obtain ⟨rfl, rfl⟩ := h
        obtain ⟨hlen, rfl, hon⟩ := hφ
        obtain ⟨h0, hc1, vs, hvs, hl⟩ := hI.good b _ hb
        have hll := hl.length
        have hul' := hul.length
        obtain ⟨w', g1, g2, g3, g4, g5, g6, g7⟩ := run_storeCells (P := X.P) us w (γ.blk b) (γ.off b + (0 * k + o)) 0 vs T' (0, 0) hvs (by simp) (by omega) hone
        have hg : GoodB γ w' b (.box (setCells l o cs) T') := by
          refine ⟨h0, hc1, _, g2, ?_⟩
          have hro : ∀ k, γ.ro k → w'.heap[k]? = w.heap[k]? := fun k hk => g3 k (fun e => (hI.own b _ hb trivial).2.1 (e ▸ hk))
          have := wrL_sound cs us hul l vs o hl
          rw [show γ.off b + (0 * k + o) + 0 = o from by omega]
          exact this.monoMem fun a u _ => RepC.mono (Gh.Ext.refl γ []) hro a u (XC.free_nil a)
        have hs : ∀ l' T'', XB.box (setCells l o cs) T' = .box l' T'' → ∀ x, x ∈ l' → XC.upTo hp.length x := by
          intro l' T'' e x hx
          simp only [XB.box.injEq] at e
          obtain ⟨rfl, _⟩ := e
          exact setCells_upTo cs l o (fun c hc => hI.sc b l T' hb c hc) hcsc x hx
        obtain ⟨k1, k2⟩ := inv_modify hI hb trivial g3 g4 g5 g6 g7 hg hs
        exact ⟨w', hrun w' hlen g1, k1, by simp, k2⟩
      · rename_i k' m g T' hb
        simp only [Option.map_eq_some_iff, Prod.mk.injEq] at h
        obtain ⟨ds, hds, rfl, rfl⟩ := h
        obtain ⟨hlen, rfl, him, hon⟩ := hφ
        obtain ⟨hm, hr⟩ := hI.good b _ hb
        rcases hr with hr | ⟨arr, fz, ha, hz, hs, hone', hc⟩
        · omega
        · have hso : solid γ b (.row k' m g T') := show 0 < γ.cap b by omega
          have hul' := hul.length
          have hbd : i * k' + k' ≤ γ.cap b * k' := by
            have : (i + 1) * k' ≤ γ.cap b * k' := Nat.mul_le_mul_right _ (by omega)
            rwa [Nat.add_mul, Nat.one_mul] at this
          have haL : w.heap[γ.blk b]? = some (.cells arr.toList.toArray T' fz) := by simpa using ha
          obtain ⟨w', g1, g2, g3, g4, g5, g6, g7⟩ := run_storeCells (P := X.P) us w (γ.blk b) (γ.off b + (i * k' + o)) 0 arr.toList T' fz haL (by simpa using hz) (by simp; omega) hone
          have hro : ∀ k, γ.ro k → w'.heap[k]? = w.heap[k]? := fun k hk => g3 k (fun e => (hI.own b _ hb hso).2.1 (e ▸ hk))
          have hdl := datL_length cs ds hds
          have hdr := datL_sound cs us ds hul hds
          have hg : GoodB γ w' b (.row k' m (setRow g i o ds) T') := by
            refine ⟨hm, .inr ⟨_, fz, g2, by simp only [List.size_toArray, wrL_length]; simpa using hz, by simp only [List.size_toArray, wrL_length]; simpa using hs, fun q hq => ?_, fun i' hi' c hck => ?_⟩⟩
            · simp only [List.size_toArray, wrL_length] at hq
              simp only [List.getElem?_toArray]
              rw [wrL_get _ _ _ _ (by simp; omega)]
              split
              · rename_i hin
                refine ⟨us[q - (γ.off b + (i * k' + o) + 0)]'(by omega), List.getElem?_eq_getElem _, hone _ (List.getElem_mem _)⟩
              · obtain ⟨u', hu', h1'⟩ := hone' q (by simpa using hq)
                exact ⟨u', by simpa using hu', h1'⟩
            · simp only [List.getElem?_toArray]
              rw [wrL_get _ _ _ _ (by simp; omega)]
              by_cases hin : i' = i ∧ o ≤ c ∧ c < o + ds.length
              · obtain ⟨rfl, h2, h3⟩ := hin
                rw [if_pos (by omega)]
                have hd : ds[c - o]? = some (ds[c - o]'(by omega)) := List.getElem?_eq_getElem (by omega)
                obtain ⟨u', hu', hr'⟩ := hdr.get (c - o) _ hd
                refine ⟨u', by rw [← hu']; congr 1; omega, ?_⟩
                have : setRow g i' o ds i' c = ds[c - o] := by
                  simp only [setRow, if_true, if_pos (And.intro h2 h3)]
                  rw [List.getD_eq_getElem?_getD, hd]; rfl
                rw [this]
                exact RepD.mono (fun _ h => h) hro _ _ hr'
              · obtain ⟨u', hu', hr'⟩ := hc i' hi' c hck
                have hno : ¬ (γ.off b + (i * k' + o) + 0 ≤ γ.off b + (i' * k' + c) ∧ γ.off b + (i' * k' + c) < γ.off b + (i * k' + o) + 0 + us.length) := by
                  rintro ⟨q1, q2⟩
                  by_cases hii : i' = i
                  · subst hii
                    exact hin ⟨rfl, by omega, by omega⟩
                  · rcases Nat.lt_or_gt_of_ne hii with hlt | hgt
                    · have : (i' + 1) * k' ≤ i * k' := Nat.mul_le_mul_right _ hlt
                      rw [Nat.add_mul, Nat.one_mul] at this
                      omega
                    · have : (i + 1) * k' ≤ i' * k' := Nat.mul_le_mul_right _ hgt
                      rw [Nat.add_mul, Nat.one_mul] at this
                      omega
                rw [if_neg hno]
                refine ⟨u', by simpa using hu', ?_⟩
                have : setRow g i o ds i' c = g i' c := by
                  simp only [setRow]
                  split
                  · rename_i e; subst e
                    rw [if_neg (fun h => hin ⟨rfl, h.1, h.2⟩)]
                  · rfl
                rw [this]
                exact RepD.mono (fun _ h => h) hro _ _ hr'
          obtain ⟨k1, k2⟩ := inv_modify hI hb hso g3 g4 g5 g6 g7 hg (fun l' T'' e => by simp at e)
          exact ⟨w', hrun w' hlen g1, k1, by simp, k2⟩
      · simp at h
    · simp at h
  · simp at h
end Go.SX
