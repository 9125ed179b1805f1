/- SX, the base: abstract values, what they say of the machine's values, and what of it outlasts a change of the world. Own work. -/
import Derived.WalkKit
import Derived.WalkSpells
import Derived.WalkLawsBesides
import Derived.Orders
import Derived.Deep.LoopGhost
namespace Go.SX
set_option linter.unusedVariables false
set_option linter.unusedSimpArgs false

/-- A value that one cell holds. -/
def one : Value → Bool
  | .agg _ | .tuple _ => false
  | _ => true

/-- Data of one cell, without names: a value; something; a slice that is only read (k cells an element, n elements); a pointer that is only read. -/
inductive XD where
  | val (v : Value)
  | any
  | ros (k n : Nat) (g : Nat → Nat → XD)
  | rop (k : Nat) (g : Nat → XD)

/-- One cell: data; a pointer into a named block (element i of k cells, cell o); a slice of a named row, from element i on; a closure over named boxes; data under a condition. -/
inductive XC where
  | d (x : XD)
  | ptr (b k i o : Nat)
  | slc (b k i n : Nat)
  | clo (f : FuncId) (bs : List Nat)
  | cond (φ : Prop) (x : XC)

/-- elements from i on -/
def shiftG (i : Nat) (g : Nat → Nat → XD) : Nat → Nat → XD := fun j c => g (i + j) c
theorem shiftG_zero (g : Nat → Nat → XD) : shiftG 0 g = g := by funext j c; simp [shiftG]
theorem shiftG_at (i : Nat) (g : Nat → Nat → XD) (j c : Nat) : shiftG i g j c = g (i + j) c := rfl
theorem shiftG_shiftG (a b : Nat) (g : Nat → Nat → XD) : shiftG a (shiftG b g) = shiftG (b + a) g := by funext j c; simp [shiftG, Nat.add_assoc]
/-- What a temporary holds. -/
inductive XV where
  | any
  | c (x : XC)
  | agg (l : List XC)
  | tup (l : List XV)

/-- A named block: none yet; a box of known cells; a row of n elements of k cells each. -/
inductive XB where
  | dead
  | box (l : List XC) (T : TypeId)
  | row (k n : Nat) (g : Nat → Nat → XD) (T : TypeId)
  | ob (o : Obj)

structure Gh where
  blk : Nat → Nat
  off : Nat → Nat
  cap : Nat → Nat
  ro : Nat → Prop

def RepD (ro : Nat → Prop) (w : World) : XD → Value → Prop
  | .val u, v => v = u
  | .any, v => one v = true
  | .ros k n g, v => ∃ (a : Option Addr) (cap : Nat), v = .slice a n cap ∧ n ≤ cap ∧
      ∀ i, i < n → ∃ b o, a = some ⟨b, o, none⟩ ∧ ro b ∧ ∀ c, c < k → ∃ u, w.cell? ⟨b, o + (i * k + c), none⟩ = some u ∧ RepD ro w (g i c) u
  | .rop k g, v => ∃ b o, v = .pointer (some ⟨b, o, none⟩) ∧ ro b ∧ ∀ c, c < k → ∃ u, w.cell? ⟨b, o + c, none⟩ = some u ∧ RepD ro w (g c) u

def RepC (γ : Gh) (w : World) : XC → Value → Prop
  | .d x, v => RepD γ.ro w x v
  | .ptr b k i o, v => v = .pointer (some ⟨γ.blk b, γ.off b + (i * k + o), none⟩)
  | .slc b k i n, v => ∃ (a : Option Addr) (cap : Nat), v = .slice a n cap ∧ n ≤ cap ∧ (cap = 0 ∨ (a = some ⟨γ.blk b, γ.off b + i * k, none⟩ ∧ i + cap ≤ γ.cap b))
  | .clo f bs, v => v = .func (.func f) #[] (bs.map fun b => Value.pointer (some ⟨γ.blk b, γ.off b, none⟩)).toArray
  | .cond φ x, v => (φ → RepC γ w x v) ∧ (¬ φ → v = undef)

inductive All2 {α β : Type} (R : α → β → Prop) : List α → List β → Prop
  | nil : All2 R [] []
  | cons {a b l m} (h : R a b) (t : All2 R l m) : All2 R (a :: l) (b :: m)

def RepW (γ : Gh) (w : World) : XV → Value → Prop
  | .any, _ => True
  | .c x, v => RepC γ w x v
  | .agg l, v => ∃ vs : List Value, v = .agg vs.toArray ∧ All2 (RepC γ w) l vs
  | .tup _, _ => False

def RepV (γ : Gh) (w : World) : XV → Value → Prop
  | .tup l, v => ∃ vs : List Value, v = .tuple vs.toArray ∧ All2 (RepW γ w) l vs
  | x, v => RepW γ w x v

def GoodB (γ : Gh) (w : World) (b : Nat) : XB → Prop
  | .dead => True
  | .box l T => γ.off b = 0 ∧ γ.cap b = 1 ∧ ∃ vs : List Value, w.heap[γ.blk b]? = some (.cells vs.toArray T (0, 0)) ∧ All2 (RepC γ w) l vs
  | .row k n g T => n ≤ γ.cap b ∧ (γ.cap b = 0 ∨ ∃ (arr : Array Value) (fz : Nat × Nat), w.heap[γ.blk b]? = some (.cells arr T fz) ∧ (∀ o, o < arr.size → ¬ (fz.1 ≤ o ∧ o < fz.2)) ∧
      γ.off b + γ.cap b * k ≤ arr.size ∧ (∀ o, o < arr.size → ∃ u, arr[o]? = some u ∧ one u = true) ∧
      ∀ i, i < n → ∀ c, c < k → ∃ u, arr[γ.off b + (i * k + c)]? = some u ∧ RepD γ.ro w (g i c) u)
  | .ob o => γ.off b = 0 ∧ γ.cap b = 1 ∧ w.heap[γ.blk b]? = some o

/-- Has the name a block? -/
def solid (γ : Gh) (b : Nat) : XB → Prop
  | .dead => False
  | .box _ _ => True
  | .row _ _ _ _ => 0 < γ.cap b
  | .ob _ => True

/-- Where a body runs: the program, the world at the call, the old blocks that may change, the old blocks that are read. -/
structure Cx where
  P : Program
  w0 : World
  fp : Nat → Prop
  ro0 : Nat → Prop
  /-- the entry's names: how many; which keep their blocks; the entry's ghost -/
  n0 : Nat
  kn : Nat → Prop
  g0 : Gh

structure Keep (X : Cx) (w : World) : Prop where
  os : w.os = X.w0.os
  tape : w.tape = X.w0.tape
  output : w.output = X.w0.output
  size : X.w0.heap.size ≤ w.heap.size
  block : ∀ k, k < X.w0.heap.size → ¬ X.fp k → w.heap[k]? = X.w0.heap[k]?

/-- All names of a cell lie below n. -/
def XC.upTo (n : Nat) : XC → Prop
  | .d _ => True
  | .ptr b _ _ _ => b < n
  | .slc b _ _ _ => b < n
  | .clo _ bs => ∀ b, b ∈ bs → b < n
  | .cond _ x => x.upTo n
def XV.upToW (n : Nat) : XV → Prop
  | .any => True
  | .c x => x.upTo n
  | .agg l => ∀ x, x ∈ l → x.upTo n
  | .tup _ => False
def XV.upTo (n : Nat) : XV → Prop
  | .tup l => ∀ x, x ∈ l → x.upToW n
  | x => x.upToW n

structure Inv (X : Cx) (γ : Gh) (w : World) (hp : List XB) : Prop where
  good : ∀ b xb, hp[b]? = some xb → GoodB γ w b xb
  inj : ∀ b b' xb xb', hp[b]? = some xb → hp[b']? = some xb' → solid γ b xb → solid γ b' xb' → γ.blk b = γ.blk b' → b = b'
  own : ∀ b xb, hp[b]? = some xb → solid γ b xb → γ.blk b < w.heap.size ∧ ¬ γ.ro (γ.blk b) ∧ (X.w0.heap.size ≤ γ.blk b ∨ X.fp (γ.blk b))
  ro : ∀ b, γ.ro b → b < w.heap.size ∧ (b < X.w0.heap.size → ¬ X.fp b)
  ro0 : ∀ b, X.ro0 b → γ.ro b
  roX : ∀ b, γ.ro b → X.ro0 b ∨ X.w0.heap.size ≤ b
  sc : ∀ (b : Nat) (l : List XC) (T : TypeId), hp[b]? = some (XB.box l T) → ∀ x, x ∈ l → XC.upTo hp.length x
  keep : Keep X w
  nl : X.n0 ≤ hp.length
  kl : ∀ b, X.kn b → b < X.n0
  nm : ∀ b, X.kn b → γ.blk b = X.g0.blk b ∧ γ.off b = X.g0.off b ∧ γ.cap b = X.g0.cap b

structure St where
  fr : List XV
  hp : List XB

structure Rg (X : Cx) (γ : Gh) (st : St) (a : Act) (w : World) : Prop where
  inv : Inv X γ w st.hp
  df : a.defers = []
  fr : ∃ vs : List Value, a.tmps = vs.toArray ∧ All2 (RepV γ w) st.fr vs
  sc : ∀ x, x ∈ st.fr → x.upTo st.hp.length
def Rr (X : Cx) (st : St) (a : Act) (w : World) : Prop := ∃ γ, Rg X γ st a w

/-! ### All2 -/
theorem All2.length {α β : Type} {R : α → β → Prop} {l : List α} {m : List β} (h : All2 R l m) : l.length = m.length := by
  induction h with
  | nil => rfl
  | cons _ _ ih => simp [ih]
theorem All2.mono {α β : Type} {R S : α → β → Prop} {l : List α} {m : List β} (h : All2 R l m) (hr : ∀ a b, R a b → S a b) : All2 S l m := by
  induction h with
  | nil => exact .nil
  | cons h _ ih => exact .cons (hr _ _ h) ih
theorem All2.get {α β : Type} {R : α → β → Prop} {l : List α} {m : List β} (h : All2 R l m) : ∀ (i : Nat) (a : α), l[i]? = some a → ∃ b, m[i]? = some b ∧ R a b := by
  induction h with
  | nil => intro i a h; simp at h
  | cons h _ ih =>
    intro i a hi
    cases i with
    | zero => simp at hi; subst hi; exact ⟨_, rfl, h⟩
    | succ i => simp at hi; simpa using ih i a hi
theorem All2.set {α β : Type} {R : α → β → Prop} {l : List α} {m : List β} (h : All2 R l m) {x : α} {y : β} (hxy : R x y) : ∀ (i : Nat), All2 R (l.set i x) (m.set i y) := by
  induction h with
  | nil => intro i; exact .nil
  | cons h t ih =>
    intro i
    cases i with
    | zero => exact .cons hxy t
    | succ i => exact .cons h (ih i)
theorem All2.append {α β : Type} {R : α → β → Prop} {l l' : List α} {m m' : List β} (h : All2 R l m) (h' : All2 R l' m') : All2 R (l ++ l') (m ++ m') := by
  induction h with
  | nil => exact h'
  | cons h _ ih => exact .cons h ih
theorem All2.drop {α β : Type} {R : α → β → Prop} {l : List α} {m : List β} (h : All2 R l m) : ∀ (i : Nat), All2 R (l.drop i) (m.drop i) := by
  induction h with
  | nil => intro i; simpa using All2.nil
  | cons h t ih =>
    intro i
    cases i with
    | zero => exact .cons h t
    | succ i => simpa using ih i
theorem All2.take {α β : Type} {R : α → β → Prop} {l : List α} {m : List β} (h : All2 R l m) : ∀ (i : Nat), All2 R (l.take i) (m.take i) := by
  induction h with
  | nil => intro i; simpa using All2.nil
  | cons h t ih =>
    intro i
    cases i with
    | zero => exact .nil
    | succ i => simpa using All2.cons h (ih i)
theorem All2.of_get {α β : Type} {R : α → β → Prop} : ∀ {l : List α} {m : List β}, l.length = m.length → (∀ (i : Nat) (a : α) (b : β), l[i]? = some a → m[i]? = some b → R a b) → All2 R l m
  | [], [], _, _ => .nil
  | a :: l, b :: m, h, hr => .cons (hr 0 a b rfl rfl) (All2.of_get (by simpa using h) fun i a b ha hb => hr (i + 1) a b (by simpa using ha) (by simpa using hb))

/-! ### what outlasts a change -/
theorem cell?_heap {w w' : World} {b : Nat} (h : w'.heap[b]? = w.heap[b]?) (o : Nat) : w'.cell? ⟨b, o, none⟩ = w.cell? ⟨b, o, none⟩ := by
  simp only [World.cell?, h]
theorem RepD.mono {ro ro' : Nat → Prop} {w w' : World} (hro : ∀ b, ro b → ro' b) (hw : ∀ b, ro b → w'.heap[b]? = w.heap[b]?) : ∀ (x : XD) (v : Value), RepD ro w x v → RepD ro' w' x v := by
  intro x
  induction x with
  | val u => intro v h; exact h
  | any => intro v h; exact h
  | ros k n g ih =>
    intro v h
    obtain ⟨a, cap, hv, hn, hi⟩ := h
    refine ⟨a, cap, hv, hn, fun i hlt => ?_⟩
    obtain ⟨b, o, ha, hb, hc⟩ := hi i hlt
    refine ⟨b, o, ha, hro _ hb, fun c hck => ?_⟩
    obtain ⟨u, hu, hr⟩ := hc c hck
    exact ⟨u, by rw [cell?_heap (hw b hb)]; exact hu, ih i c u hr⟩
  | rop k g ih =>
    intro v h
    obtain ⟨b, o, hv, hb, hc⟩ := h
    refine ⟨b, o, hv, hro _ hb, fun c hck => ?_⟩
    obtain ⟨u, hu, hr⟩ := hc c hck
    exact ⟨u, by rw [cell?_heap (hw b hb)]; exact hu, ih c u hr⟩

/-- The ghost's words for all names but those in S are the same; what is read is read on. -/
structure Gh.Ext (γ γ' : Gh) (S : List Nat) : Prop where
  blk : ∀ b, b ∉ S → γ'.blk b = γ.blk b
  off : ∀ b, b ∉ S → γ'.off b = γ.off b
  cap : ∀ b, b ∉ S → γ'.cap b = γ.cap b
  ro : ∀ b, γ.ro b → γ'.ro b
theorem Gh.Ext.refl (γ : Gh) (S : List Nat) : γ.Ext γ S := ⟨fun _ _ => rfl, fun _ _ => rfl, fun _ _ => rfl, fun _ h => h⟩
theorem Gh.Ext.trans {γ γ' γ'' : Gh} {S : List Nat} (h : γ.Ext γ' S) (h' : γ'.Ext γ'' S) : γ.Ext γ'' S :=
  ⟨fun b hb => (h'.blk b hb).trans (h.blk b hb), fun b hb => (h'.off b hb).trans (h.off b hb), fun b hb => (h'.cap b hb).trans (h.cap b hb), fun b hb => h'.ro b (h.ro b hb)⟩
theorem Gh.Ext.mono {γ γ' : Gh} {S S' : List Nat} (h : γ.Ext γ' S) (hs : ∀ b, b ∈ S → b ∈ S') : γ.Ext γ' S' :=
  ⟨fun b hb => h.blk b fun h => hb (hs b h), fun b hb => h.off b fun h => hb (hs b h), fun b hb => h.cap b fun h => hb (hs b h), h.ro⟩

/-- Does a cell speak of one of the names? -/
def XC.free (S : List Nat) : XC → Prop
  | .d _ => True
  | .ptr b _ _ _ => b ∉ S
  | .slc b _ _ _ => b ∉ S
  | .clo _ bs => ∀ b, b ∈ bs → b ∉ S
  | .cond _ x => x.free S

theorem RepC.mono {γ γ' : Gh} {w w' : World} {S : List Nat} (hg : γ.Ext γ' S) (hw : ∀ b, γ.ro b → w'.heap[b]? = w.heap[b]?) : ∀ (x : XC) (v : Value), x.free S → RepC γ w x v → RepC γ' w' x v := by
  intro x
  induction x with
  | d x => intro v _ h; exact RepD.mono hg.ro hw x v h
  | ptr b k i o => intro v hf h; simp only [RepC, hg.blk b hf, hg.off b hf]; exact h
  | slc b k i n => intro v hf h; simp only [RepC, hg.blk b hf, hg.off b hf, hg.cap b hf]; exact h
  | clo f bs =>
    intro v hf h
    simp only [RepC] at h ⊢
    rw [h]
    congr 2
    exact List.map_congr_left fun b hb => by rw [hg.blk b (hf b hb), hg.off b (hf b hb)]
  | cond φ x ih => intro v hf h; exact ⟨fun hφ => ih v hf (h.1 hφ), h.2⟩

def XV.freeW (S : List Nat) : XV → Prop
  | .any => True
  | .c x => x.free S
  | .agg l => ∀ x, x ∈ l → x.free S
  | .tup _ => False
def XV.free (S : List Nat) : XV → Prop
  | .tup l => ∀ x, x ∈ l → x.freeW S
  | x => x.freeW S

theorem All2.monoMem {α β : Type} {R S : α → β → Prop} {l : List α} {m : List β} (h : All2 R l m) : (∀ a b, a ∈ l → R a b → S a b) → All2 S l m := by
  induction h with
  | nil => intro _; exact .nil
  | cons h _ ih => intro hr; exact .cons (hr _ _ (List.mem_cons_self ..) h) (ih fun a b ha => hr a b (List.mem_cons_of_mem _ ha))

theorem RepW.mono {γ γ' : Gh} {w w' : World} {S : List Nat} (hg : γ.Ext γ' S) (hw : ∀ b, γ.ro b → w'.heap[b]? = w.heap[b]?) (x : XV) (v : Value) (hf : x.freeW S) (h : RepW γ w x v) : RepW γ' w' x v := by
  cases x with
  | any => trivial
  | c x => exact RepC.mono hg hw x v hf h
  | agg l => obtain ⟨vs, hv, hl⟩ := h; exact ⟨vs, hv, hl.monoMem fun a b ha => RepC.mono hg hw a b (hf a ha)⟩
  | tup l => exact h
theorem RepV.mono {γ γ' : Gh} {w w' : World} {S : List Nat} (hg : γ.Ext γ' S) (hw : ∀ b, γ.ro b → w'.heap[b]? = w.heap[b]?) (x : XV) (v : Value) (hf : x.free S) (h : RepV γ w x v) : RepV γ' w' x v := by
  cases x with
  | tup l => obtain ⟨vs, hv, hl⟩ := h; exact ⟨vs, hv, hl.monoMem fun a b ha => RepW.mono hg hw a b (hf a ha)⟩
  | any => trivial
  | c x => exact RepW.mono hg hw (.c x) v hf h
  | agg l => exact RepW.mono hg hw (.agg l) v hf h

theorem XC.free_nil : ∀ (x : XC), x.free [] := by
  intro x
  induction x with
  | d x => trivial
  | ptr b k i o => simp [XC.free]
  | slc b k i n => simp [XC.free]
  | clo f bs => simp [XC.free]
  | cond φ x ih => exact ih
theorem XV.freeW_nil {γ : Gh} {w : World} {x : XV} {v : Value} (h : RepW γ w x v) : x.freeW [] := by
  cases x with
  | any => trivial
  | c x => exact XC.free_nil x
  | agg l => exact fun x _ => XC.free_nil x
  | tup l => exact h
theorem XV.free_nil {γ : Gh} {w : World} {x : XV} {v : Value} (h : RepV γ w x v) : x.free [] := by
  cases x with
  | tup l =>
    obtain ⟨vs, _, hl⟩ := h
    intro x hx
    obtain ⟨i, hi⟩ := List.mem_iff_getElem?.1 hx
    obtain ⟨b, _, hr⟩ := hl.get i x hi
    exact XV.freeW_nil hr
  | any => trivial
  | c x => exact XC.free_nil x
  | agg l => exact fun x _ => XC.free_nil x

theorem GoodB.mono {γ γ' : Gh} {w w' : World} {S : List Nat} {b : Nat} {xb : XB} (hg : γ.Ext γ' S) (hw : ∀ b, γ.ro b → w'.heap[b]? = w.heap[b]?) (hb : b ∉ S)
    (hblk : solid γ b xb → w'.heap[γ.blk b]? = w.heap[γ.blk b]?) (hf : ∀ l T, xb = .box l T → ∀ x, x ∈ l → x.free S) (h : GoodB γ w b xb) : GoodB γ' w' b xb := by
  cases xb with
  | dead => trivial
  | box l T =>
    obtain ⟨h0, h1, vs, hv, hl⟩ := h
    refine ⟨by rw [hg.off b hb]; exact h0, by rw [hg.cap b hb]; exact h1, vs, by rw [hg.blk b hb, hblk trivial]; exact hv, hl.monoMem fun a u ha => RepC.mono hg hw a u (hf l T rfl a ha)⟩
  | ob o =>
    obtain ⟨h0, h1, hv⟩ := h
    exact ⟨by rw [hg.off b hb]; exact h0, by rw [hg.cap b hb]; exact h1, by rw [hg.blk b hb, hblk trivial]; exact hv⟩
  | row k n g T =>
    obtain ⟨h0, h1⟩ := h
    refine ⟨by rw [hg.cap b hb]; exact h0, ?_⟩
    rw [hg.cap b hb, hg.blk b hb, hg.off b hb]
    rcases h1 with h1 | ⟨arr, fz, ha, hz, hs, ho, hc⟩
    · exact .inl h1
    · by_cases hcap : γ.cap b = 0
      · exact .inl hcap
      · refine .inr ⟨arr, fz, by rw [hblk (Nat.pos_of_ne_zero hcap)]; exact ha, hz, hs, ho, fun i hi c hck => ?_⟩
        obtain ⟨u, hu, hr⟩ := hc i hi c hck
        exact ⟨u, hu, RepD.mono hg.ro hw _ _ hr⟩

theorem Keep.refl (P : Program) (w0 : World) (fp ro0 : Nat → Prop) (n0 : Nat) (kn : Nat → Prop) (g0 : Gh) : Keep ⟨P, w0, fp, ro0, n0, kn, g0⟩ w0 := ⟨rfl, rfl, rfl, Nat.le_refl _, fun _ _ _ => rfl⟩
end Go.SX
