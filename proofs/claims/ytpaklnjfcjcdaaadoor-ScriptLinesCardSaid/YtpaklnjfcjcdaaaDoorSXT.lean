/- SX: ends of bodies whose results are made read-only, or whose nil slices are taken for empty rows; slices against nil; make. Own work. -/
import Derived.Test.YtpaklnjfcjcdaaaDoorSXS
import Derived.Laws.MakeOwn
import Derived.Lib.SliceRun
namespace Go.SX
set_option linter.unusedVariables false
set_option linter.unusedSimpArgs false

/-! ### named blocks made read-only for good -/
def frzH (S : List Nat) : Nat → List XB → List XB
  | _, [] => []
  | i, x :: l => (if S.contains i then .dead else killB S x) :: frzH S (i + 1) l
theorem frzH_get (S : List Nat) : ∀ (l : List XB) (i b : Nat), (frzH S i l)[b]? = (l[b]?).map fun x => if S.contains (i + b) then .dead else killB S x
  | [], _, _ => by simp [frzH]
  | x :: l, i, 0 => by simp [frzH]
  | x :: l, i, b + 1 => by
    have := frzH_get S l (i + 1) b
    rw [show i + 1 + b = i + (b + 1) from by omega] at this
    simpa [frzH] using this
theorem frzH_length (S : List Nat) : ∀ (l : List XB) (i : Nat), (frzH S i l).length = l.length
  | [], _ => rfl
  | x :: l, i => by simp [frzH, frzH_length S l]
theorem inv_freeze {X : Cx} {γ : Gh} {w : World} {hp : List XB} {S : List Nat} (hI : Inv X γ w hp) (hfp : ∀ k, ¬ X.fp k) (hk : okH S hp) : Inv X { γ with ro := roS γ hp S } w (frzH S 0 hp) := by
  have hK := inv_kill hI hk
  have look : ∀ b xb, (frzH S 0 hp)[b]? = some xb → xb = .dead ∨ (b ∉ S ∧ ∃ y, hp[b]? = some y ∧ xb = killB S y) := by
    intro b xb hb
    rw [frzH_get, Option.map_eq_some_iff] at hb
    obtain ⟨y, hy, rfl⟩ := hb
    rw [Nat.zero_add]
    by_cases h : S.contains b = true
    · left; rw [if_pos h]
    · right
      rw [if_neg h]
      exact ⟨fun hm => h (by simpa using hm), y, hy, rfl⟩
  have hkg : ∀ b y, hp[b]? = some y → (hp.map (killB S))[b]? = some (killB S y) := fun b y h => by rw [List.getElem?_map, h]; rfl
  have sol : ∀ b yb, solid γ b (killB S yb) ↔ solid γ b yb := fun b yb => by cases yb <;> exact Iff.rfl
  have sol2 : ∀ b yb, solid { γ with ro := roS γ hp S } b yb ↔ solid γ b yb := fun b yb => by cases yb <;> exact Iff.rfl
  refine ⟨fun b xb hb => ?_, fun b b' y y' h1 h2 s1 s2 he => ?_, fun b y h1 s1 => ?_, fun k hk => ⟨roS_lt hI hk, fun _ => hfp k⟩, fun k h => .inl (hI.ro0 k h), fun k h => ?_, fun b l T hb x hx => ?_, hI.keep, by rw [frzH_length]; exact hI.nl, hI.kl, hI.nm⟩
  · rcases look b xb hb with rfl | ⟨hS, y, hy, rfl⟩
    · trivial
    · exact GoodB.mono (γ := γ) (S := []) (ext_roS γ hp S) (fun _ _ => rfl) (by simp) (fun _ => rfl) (fun _ _ _ x _ => XC.free_nil x) (hK.good b _ (hkg b y hy))
  · rcases look b y h1 with rfl | ⟨hS, z, hz, rfl⟩
    · exact s1.elim
    · rcases look b' y' h2 with rfl | ⟨hS', z', hz', rfl⟩
      · exact s2.elim
      · exact hK.inj b b' _ _ (hkg b z hz) (hkg b' z' hz') ((sol2 _ _).1 s1) ((sol2 _ _).1 s2) he
  · rcases look b y h1 with rfl | ⟨hS, z, hz, rfl⟩
    · exact s1.elim
    · have s1' := (sol2 _ _).1 s1
      obtain ⟨o1, o2, o3⟩ := hK.own b _ (hkg b z hz) s1'
      refine ⟨o1, ?_, o3⟩
      rintro (h | ⟨c, xc, hc, hc2, hc3, hc4⟩)
      · exact o2 h
      · have := hI.inj c b xc z hc2 hz hc3 ((sol _ _).1 s1') hc4
        subst this
        exact hS hc
  · rcases h with h | ⟨c, xc, hc, hc2, hc3, hc4⟩
    · exact hI.roX k h
    · right
      rcases (hI.own c xc hc2 hc3).2.2 with h | h
      · rw [← hc4]; exact h
      · exact absurd h (hfp _)
  · rcases look b _ hb with h | ⟨hS, y, hy, h⟩
    · simp at h
    · rw [frzH_length]
      have := hK.sc b l T (by rw [hkg b y hy, ← h]) x hx
      rwa [List.length_map] at this

/-! ### results adapted -/
def adC (S : List Nat) (hp : List XB) (c c' : XC) : Prop := (c' = (viewP S hp c).2 ∧ (viewP S hp c).1) ∨ (c = .d (.val (.slice none 0 0)) ∧ ∃ k g, c' = .d (.ros k 0 g))
def adL (S : List Nat) (hp : List XB) : List XC → List XC → Prop
  | [], m => m = []
  | a :: l, m => ∃ b m', m = b :: m' ∧ adC S hp a b ∧ adL S hp l m'
def adW (S : List Nat) (hp : List XB) : XV → XV → Prop
  | .any, y => y = .any
  | .c c, y => ∃ c', y = .c c' ∧ adC S hp c c'
  | .agg l, y => ∃ l', y = .agg l' ∧ adL S hp l l'
  | .tup _, _ => False
def adT (S : List Nat) (hp : List XB) : List XV → List XV → Prop
  | [], m => m = []
  | a :: l, m => ∃ b m', m = b :: m' ∧ adW S hp a b ∧ adT S hp l m'
def adX (S : List Nat) (hp : List XB) : XV → XV → Prop
  | .tup l, y => ∃ l', y = .tup l' ∧ adT S hp l l'
  | x, y => adW S hp x y
section
variable {X : Cx} {γ : Gh} {w : World} {hp : List XB} {S : List Nat}
theorem adC_rep (hI : Inv X γ w hp) {c c' : XC} {v : Value} (h : adC S hp c c') (hr : RepC γ w c v) : RepC { γ with ro := roS γ hp S } w c' v := by
  rcases h with ⟨rfl, h⟩ | ⟨rfl, k, g, rfl⟩
  · exact viewP_sound hI c v hr h
  · have hr : v = .slice none 0 0 := hr
    exact ⟨none, 0, hr, Nat.le_refl _, fun i hi => absurd hi (Nat.not_lt_zero _)⟩
theorem adL_rep (hI : Inv X γ w hp) : ∀ (l m : List XC) (vs : List Value), adL S hp l m → All2 (RepC γ w) l vs → All2 (RepC { γ with ro := roS γ hp S } w) m vs
  | [], m, vs, h, hr => by cases hr; rw [show m = [] from h]; exact .nil
  | a :: l, m, vs, h, hr => by
    obtain ⟨b, m', rfl, h1, h2⟩ := h
    cases hr with
    | cons r1 r2 => exact .cons (adC_rep hI h1 r1) (adL_rep hI l m' _ h2 r2)
theorem adW_rep (hI : Inv X γ w hp) {x y : XV} {v : Value} (h : adW S hp x y) (hr : RepW γ w x v) : RepW { γ with ro := roS γ hp S } w y v := by
  cases x with
  | any => rw [show y = .any from h]; trivial
  | c c => obtain ⟨c', rfl, h⟩ := h; exact adC_rep hI h hr
  | agg l => obtain ⟨l', rfl, h⟩ := h; obtain ⟨vs, hv, hl⟩ := hr; exact ⟨vs, hv, adL_rep hI l l' vs h hl⟩
  | tup l => exact h.elim
theorem adT_rep (hI : Inv X γ w hp) : ∀ (l m : List XV) (vs : List Value), adT S hp l m → All2 (RepW γ w) l vs → All2 (RepW { γ with ro := roS γ hp S } w) m vs
  | [], m, vs, h, hr => by cases hr; rw [show m = [] from h]; exact .nil
  | a :: l, m, vs, h, hr => by
    obtain ⟨b, m', rfl, h1, h2⟩ := h
    cases hr with
    | cons r1 r2 => exact .cons (adW_rep hI h1 r1) (adT_rep hI l m' _ h2 r2)
theorem adX_rep (hI : Inv X γ w hp) {x y : XV} {v : Value} (h : adX S hp x y) (hr : RepV γ w x v) : RepV { γ with ro := roS γ hp S } w y v := by
  cases x with
  | any => rw [show y = .any from h]; trivial
  | c c => obtain ⟨c', rfl, h⟩ := h; exact adC_rep hI h hr
  | agg l => obtain ⟨l', rfl, h⟩ := h; obtain ⟨vs, hv, hl⟩ := hr; exact ⟨vs, hv, adL_rep hI l l' vs h hl⟩
  | tup l => obtain ⟨l', rfl, h⟩ := h; obtain ⟨vs, hv, hl⟩ := hr; exact ⟨vs, hv, adT_rep hI l l' vs h hl⟩
end

def RetF (X : Cx) (P : Program) (n0 : Nat) (kd : List Nat) (rs : List ResultVar) (post : XV → List XB → Prop) (st : St) : Prop :=
  ∃ st' S φ x x' y sel hp1, Wk X st st' ∧ (S = [] ∨ ∀ k, ¬ X.fp k) ∧ okH S st'.hp ∧ resX P rs st' = some (φ, x) ∧ φ ∧ (∀ l, x = .tup l → rs.length ≠ 1 → l.all notTup = true) ∧ adX S st'.hp x x' ∧
    y.ren sel = x' ∧ hp1.map (XB.ren sel) = (sel.map fun b => (frzH S 0 st'.hp).getD b .dead) ∧ sel.Nodup ∧ scH hp1 ∧ y.upTo hp1.length ∧ (n0 ≤ sel.length ∧ ∀ b, b < n0 → b ∉ kd → sel.getD b 0 = b) ∧ post y hp1
theorem okH_nil : ∀ (h : List XB), okH [] h
  | [] => trivial
  | .box l T :: h => ⟨fun c _ hc => by
      have : ∀ c : XC, c.has [] = false := fun c => by
        induction c with
        | cond φ x ih => exact ih
        | clo f bs => simp [XC.has]
        | _ => rfl
      rw [this c] at hc; simp at hc, okH_nil h⟩
  | .dead :: h => ⟨trivial, okH_nil h⟩
  | .row _ _ _ _ :: h => ⟨trivial, okH_nil h⟩
  | .ob _ :: h => ⟨trivial, okH_nil h⟩
theorem inv_freeze' {X : Cx} {γ : Gh} {w : World} {hp : List XB} {S : List Nat} (hI : Inv X γ w hp) (hS : S = [] ∨ ∀ k, ¬ X.fp k) (hk : okH S hp) : Inv X { γ with ro := roS γ hp S } w (frzH S 0 hp) := by
  rcases hS with rfl | hfp
  · have hro : roS γ hp [] = γ.ro := by
      funext k
      apply propext
      exact ⟨fun h => h.elim id fun ⟨b, _, hb, _⟩ => by simp at hb, .inl⟩
    have hK := inv_kill hI hk
    have e : frzH [] 0 hp = hp.map (killB []) := by
      apply List.ext_getElem?
      intro b
      rw [frzH_get, List.getElem?_map]
      simp
    rw [e, hro]
    exact hK
  · exact inv_freeze hI hfp hk
theorem con_introW {P : Program} {f : FuncId} {fn : Func} {c : Code} {hp : List XB} {kd : List Nat} {xs : List XV} {post : XV → List XB → Prop} {rs : List ResultVar} (hf : P.funcs[f]? = some fn) (hb : fn.body = some c) (hrs : fn.results = rs.toArray) (hnm : (fn.name == "runtime.NumGoroutine") = false) (hx : ∀ x, x ∈ xs → x.upTo hp.length)
    (h : ∀ w ro γ, SX (cxM P w ro γ hp kd) c ⟨RetF (cxM P w ro γ hp kd) P hp.length kd rs post, RetF (cxM P w ro γ hp kd) P hp.length kd rs post, fun _ _ => False⟩ (st0 xs fn.ntmps hp)) : Con P f hp kd xs post := by
  refine ⟨⟨fn, hf, by rw [hb]; rfl, hnm⟩, ?_⟩
  intro w ro γ0 vs hI0 hvs
  refine calls_of_wp hf hb ?_
  have hst : Rr (cxM P w ro γ0 hp kd) (st0 xs fn.ntmps hp) { tmps := vs.toArray ++ Array.replicate (fn.ntmps - vs.toArray.size) undef, defers := [] } w := by
    refine ⟨γ0, hI0, rfl, ⟨vs ++ List.replicate (fn.ntmps - xs.length) undef, ?_, hvs.append (all2_any _)⟩, ?_⟩
    · have := hvs.length
      apply Array.toList_inj.1
      simp [this]
    · intro x hm
      rcases List.mem_append.1 hm with h1 | h1
      · exact hx x h1
      · rw [(List.mem_replicate.1 h1).2]; trivial
  have fin : ∀ {a' : Act} {w' : World}, (∃ st, Rr (cxM P w ro γ0 hp kd) st a' w' ∧ RetF (cxM P w ro γ0 hp kd) P hp.length kd rs post st) → a'.defers = [] ∧ ∃ v, (results fn a'.tmps).run P w' = .ok v w' ∧
      (fun e w' => ∃ v x hp' γ', e = Ending.returned v ∧ post x hp' ∧ Inv (cxM P w ro γ0 hp kd) γ' w' hp' ∧ RepV γ' w' x v ∧ x.upTo hp'.length) (Ending.returned v) w' := by
    rintro a' w' ⟨st, hr0, st', S, φ, x, x', y, sel, hp1, hwk, hS, hok, hres, hφ, ht, had, rfl, hsel, hnd, hs1, hsc, ⟨hn, hk⟩, hpost⟩
    obtain ⟨γ, hr⟩ := hwk _ _ hr0
    obtain ⟨v, hv, hrv⟩ := resX_sound hr hrs hres hφ ht
    have hI2 := inv_freeze' hr.inv hS hok
    have hrv2 := adX_rep hr.inv had hrv
    exact ⟨hr.df, v, hv, v, y, hp1, _, rfl, hpost, inv_sel hI2 hsel hnd hs1 hn (fun b hb => hk b hb.1 hb.2), RepV.ren y v hrv2, hsc⟩
  refine Code.wp_mono ?_ (h w ro γ0 _ _ hst)
  intro e a' w' hq
  cases e with
  | normal => exact fin hq
  | ret => exact fin hq
  | exit id => obtain ⟨_, _, h⟩ := hq; exact h.elim
  | goto l => exact hq.elim
  | panic c => exact hq.elim
  | outgrown => exact hq.elim
def QretW (X : Cx) (P : Program) (n0 : Nat) (kd : List Nat) (rs : List ResultVar) (post : XV → List XB → Prop) : KX := ⟨RetF X P n0 kd rs post, RetF X P n0 kd rs post, fun _ _ => False⟩
@[push_cast] theorem QretW_ret (X : Cx) (P : Program) (n0 : Nat) (kd : List Nat) (rs : List ResultVar) (post : XV → List XB → Prop) : (QretW X P n0 kd rs post).ret = RetF X P n0 kd rs post := rfl
@[push_cast] theorem QretW_nrm (X : Cx) (P : Program) (n0 : Nat) (kd : List Nat) (rs : List ResultVar) (post : XV → List XB → Prop) : (QretW X P n0 kd rs post).nrm = RetF X P n0 kd rs post := rfl
/-- the entry of a body whose results are adapted at its end -/
theorem sc_enterW {P : Program} {f : FuncId} {fn : Func} {c : Code} {hp : List XB} {kd : List Nat} {xs : List XV} {post : XV → List XB → Prop} {rs : List ResultVar} (hf : P.funcs[f]? = some fn) (hb : fn.body = some c) (hrs : fn.results = rs.toArray) (hnm : (fn.name == "runtime.NumGoroutine") = false) (hx : scF hp.length xs)
    (m : Nat) (hm : fn.ntmps = m) (h : ∀ w ro γ, SC (cxM P w ro γ hp kd) (QretW (cxM P w ro γ hp kd) P hp.length kd rs post) 400 [.c c] ⟨xs ++ List.replicate (m - xs.length) .any, hp⟩) : Con P f hp kd xs post :=
  con_introW hf hb hrs hnm (scF_all _ _ hx) (fun w ro γ => by subst hm; exact SC_sound 400 [.c c] _ (h w ro γ))
theorem no_fp (P : Program) (w : World) (ro : Nat → Prop) (γ : Gh) (kd : List Nat) : ∀ k, ¬ (cxM P w ro γ [] kd).fp k := by
  rintro k ⟨b, xb, hb, _⟩
  simp at hb
/-- results that speak of no block behind the views of S -/
theorem retF_flat {X : Cx} {P : Program} {rs : List ResultVar} {post : XV → List XB → Prop} {st : St} {φ : Prop} {x : XV} (S : List Nat) (x' : XV) (hx : resX P rs st = some (φ, x)) (hφ : φ) (hS : S = [] ∨ ∀ k, ¬ X.fp k) (hok : okH S st.hp)
    (ht : ∀ l, x = .tup l → l.all notTup = true) (had : adX S st.hp x x') (hs : flatR x') (hren : x'.ren [] = x') (hp' : post x' []) : RetF X P 0 [] rs post st := by
  refine ⟨st, S, φ, x, x', x', [], [], Wk.refl _ _, hS, hok, hx, hφ, fun l h _ => ht l h, had, hren, rfl, List.nodup_nil, fun b l T h => by simp at h, ?_, ⟨Nat.zero_le _, fun b h => absurd h (Nat.not_lt_zero _)⟩, hp'⟩
  cases x' with
  | tup l =>
    intro x hx
    have h1 := scF_all 0 l hs.2 x hx
    have h2 := List.all_eq_true.1 hs.1 x hx
    cases x with
    | tup l => simp [notTup] at h2
    | any => exact h1
    | c x => exact h1
    | agg l => exact h1
  | any => exact hs
  | c x => exact hs
  | agg l => exact hs
theorem retF_wk {X : Cx} {P : Program} {n0 : Nat} {kd : List Nat} {rs : List ResultVar} {post : XV → List XB → Prop} {st st' : St} (hw : Wk X st st') (h : RetF X P n0 kd rs post st') : RetF X P n0 kd rs post st := by
  obtain ⟨st2, S, φ, x, x', y, sel, hp1, h1, h2⟩ := h
  exact ⟨st2, S, φ, x, x', y, sel, hp1, fun a w hr => h1 a w (hw a w hr), h2⟩
/-- a result that is nil is an empty row -/
theorem retF_adopt {X : Cx} {P : Program} {n0 : Nat} {kd : List Nat} {rs : List ResultVar} {post : XV → List XB → Prop} {st : St} (t k : Nat) (g : Nat → Nat → XD) (T : TypeId) (ht : st.fr[t]? = some (.c (.d (.val (.slice none 0 0)))))
    (h : RetF X P n0 kd rs post ⟨st.fr.set t (.c (.slc st.hp.length k 0 0)), st.hp ++ [.row k 0 g T]⟩) : RetF X P n0 kd rs post st := retF_wk (wk_adopt t k g T ht) h
/-- the plain end -/
theorem retF_sel {X : Cx} {P : Program} {n0 : Nat} {kd : List Nat} {rs : List ResultVar} {post : XV → List XB → Prop} {st : St} {φ : Prop} {x : XV} (sel : List Nat) (y : XV) (hp1 : List XB) (hx : resX P rs st = some (φ, x)) (hφ : φ) (had : adX [] st.hp x x) (hren : y.ren sel = x)
    (hsel : hp1.map (XB.ren sel) = sel.map fun b => (frzH [] 0 st.hp).getD b .dead) (ht : ∀ l, x = .tup l → l.all notTup = true) (hnd : sel.Nodup) (hs1 : scB hp1.length hp1) (hs : y.upTo hp1.length) (hn : n0 ≤ sel.length) (hk : ∀ b, b < n0 → b ∉ kd → sel.getD b 0 = b) (hp' : post y hp1) :
    RetF X P n0 kd rs post st :=
  ⟨st, [], φ, x, x, y, sel, hp1, Wk.refl _ _, .inl rfl, okH_nil _, hx, hφ, fun l h _ => ht l h, had, hren, hsel, hnd, scB_all _ _ hs1, hs, ⟨hn, hk⟩, hp'⟩
attribute [push_cast] adX adW adT adL adC frzH
@[push_cast] theorem bool_beq_true (b : Bool) : (b == true) = b := by cases b <;> rfl
@[push_cast] theorem bool_beq_false (b : Bool) : (b == false) = !b := by cases b <;> rfl
@[push_cast] theorem bool_true_beq (b : Bool) : (true == b) = b := by cases b <;> rfl
@[push_cast] theorem bool_false_beq (b : Bool) : (false == b) = !b := by cases b <;> rfl
@[push_cast] theorem bool_bne_true (b : Bool) : (b != true) = !b := by cases b <;> rfl
@[push_cast] theorem bool_bne_false (b : Bool) : (b != false) = b := by cases b <;> rfl

/-! ### a slice held against nil -/
def slLen : XV → Option Nat
  | .c (.d (.ros _ n _)) => some n
  | .c (.slc _ _ _ n) => some n
  | _ => none
theorem slLen_rep {γ : Gh} {w : World} {x : XV} {v : Value} {n : Nat} (h : slLen x = some n) (hr : RepV γ w x v) : ∃ a cap, v = .slice a n cap ∧ n ≤ cap ∧ (0 < n → a.isNone = false) := by
  unfold slLen at h
  split at h
  · simp only [Option.some.injEq] at h
    subst h
    obtain ⟨a, cap, rfl, hn, hc⟩ := hr
    refine ⟨a, cap, rfl, hn, fun h0 => ?_⟩
    obtain ⟨b, o, rfl, _⟩ := hc 0 h0
    rfl
  · simp only [Option.some.injEq] at h
    subst h
    obtain ⟨a, cap, rfl, hn, hc⟩ := hr
    refine ⟨a, cap, rfl, hn, fun h0 => ?_⟩
    rcases hc with hc | ⟨rfl, _⟩
    · omega
    · rfl
  · simp at h
theorem ev_sliceNil {X : Cx} {Q : KX} {k : List It} {st : St} {x : Operand} {T T2 : TypeId} {n : Nat} {dst : Option Tmp} {ty : TypeId} {pos : String} {after : Array Edge} {gd : Option (Nat × Bool)}
    (ht : slT X.P T = true) (hx : slLen (evX st.fr x) = some n) (h : ∀ b : Bool, (0 < n → b = false) → SC X Q 400 k ⟨frPut st.fr dst (.c (.d (.val (.bool b)))), st.hp⟩) :
    EvOp X Q ⟨dst, .binOp .eql T x (.const (.slice none 0 0)) T2, ty, pos, after, gd⟩ k st := by
  refine ev_eff (R := fun y hp' S => hp' = st.hp ∧ S = [] ∧ ∃ b : Bool, (0 < n → b = false) ∧ y = .c (.d (.val (.bool b)))) ?_ ?_
  · intro γ w a K Q hI hev hsc hK
    obtain ⟨ad, cap, hv, hn, hc⟩ := slLen_rep hx (hev x (by simp [Op.operands]))
    obtain ⟨e, he⟩ := slT_true ht
    have hrun : (execOp a.eval ⟨dst, .binOp .eql T x (.const (.slice none 0 0)) T2, ty, pos, after, gd⟩).run X.P w = .ok (.value (.bool ad.isNone)) w := by
      have e1 : execOp a.eval ⟨dst, .binOp .eql T x (.const (.slice none 0 0)) T2, ty, pos, after, gd⟩ = (do let v ← (do eqGuard .eql T x (.const (.slice none 0 0)) (a.eval x) (.slice none 0 0); binOp .eql T (a.eval x) (.slice none 0 0) : Sem Value); pure (.value v)) := rfl
      rw [e1, hv]
      simp only [Sem.run_bind, eqGuard_scalar .eql T x (.const (.slice none 0 0)) (.slice ad n cap) (.slice none 0 0) (by simp) (by simp), Result.andThen_ok, Lib.run_eql_slice_nil w T e ad n cap 0 0 he, Sem.run_pure]
    unfold Oper.wp
    rw [hrun]
    exact hK _ _ _ _ _ _ ⟨rfl, rfl, _, hc, rfl⟩ ⟨hI, rfl, Gh.Ext.refl _ _, fun _ _ => rfl, trivial, Nat.le_refl _⟩
  · rintro y hp' S ⟨rfl, rfl, b, hb, rfl⟩
    exact h b hb

/-! ### make([]T, n, c) -/
def zerG (zs : List Value) : Nat → Nat → XD := fun _ c => .val (zs.getD c undef)
theorem ev_makeSlice {X : Cx} {Q : KX} {k : List It} {st : St} {T e sz by' : Nat} {zs : List Value} {l c : Operand} {ln cn : Int} {kl kc : IntKind} {dst : Option Tmp} {ty : TypeId} {pos : String} {after : Array Edge} {gd : Option (Nat × Bool)}
    (ht : elemSl X.P T = some e) (hsz : szT X.P e = some sz) (hby : bytesT X.P e = some by') (hz : zerT X.P e = some zs) (hzl : zs.length = sz) (hz1 : zs.all one = true) (h0 : 0 < sz)
    (hl : evX st.fr l = .c (.d (.val (.int kl ln)))) (hc : evX st.fr c = .c (.d (.val (.int kc cn)))) (hb : 0 ≤ ln ∧ ln ≤ cn ∧ (by' : Int) * cn ≤ 281474976710656 ∧ cn ≤ 9223372036854775807)
    (h : SC X Q 400 k ⟨frPut st.fr dst (.c (.slc st.hp.length sz 0 ln.toNat)), st.hp ++ [.row sz ln.toNat (zerG zs) e]⟩) : EvOp X Q ⟨dst, .makeSlice T l c, ty, pos, after, gd⟩ k st := by
  refine ev_eff (R := fun y hp' S => y = .c (.slc st.hp.length sz 0 ln.toNat) ∧ hp' = st.hp ++ [.row sz ln.toNat (zerG zs) e] ∧ S = []) ?_ ?_
  · intro γ w a K Q hI hev hsc hK
    obtain ⟨b0, b1, b2, b3⟩ := hb
    have v1 := hev l (by simp [Op.operands])
    have v2 := hev c (by simp [Op.operands])
    rw [hl] at v1
    rw [hc] at v2
    have v1 : a.eval l = .int kl ln := v1
    have v2 : a.eval c = .int kc cn := v2
    simp only [zerT, Option.bind_eq_some_iff, Option.map_eq_some_iff] at hz
    obtain ⟨i, hi, z, hz, hzs⟩ := hz
    have hsz' : i.size = sz := by simp only [szT, hi, Option.map_some, Option.some.injEq] at hsz; exact hsz
    have hby2 : i.bytes = by' := by simp only [bytesT, hi, Option.map_some, Option.some.injEq] at hby; exact hby
    have hr := run_make (P := X.P) w T e i z (elemSl_some ht) hi hz kl kc ln cn b0 b1 (by rw [hby2]; exact b2) b3
    have hrun : (execOp a.eval ⟨dst, .makeSlice T l c, ty, pos, after, gd⟩).run X.P w = .ok (.value (.slice (some ⟨w.heap.size, 0, none⟩) ln.toNat cn.toNat)) (w.alloc (.cells (madeCells z.cells (cn.toNat * i.size)) e)) := by
      have e1 : execOp a.eval ⟨dst, .makeSlice T l c, ty, pos, after, gd⟩ = (do let v ← Instr.makeSlice T (a.eval l) (a.eval c); pure (.value v)) := rfl
      rw [e1, v1, v2]
      simp only [Sem.run_bind, hr, Result.andThen_ok, Sem.run_pure]
    have hcell : ∀ o, o < cn.toNat * sz → (madeCells z.cells (cn.toNat * i.size))[o]? = some (zs.getD (o % sz) undef) ∧ one (zs.getD (o % sz) undef) = true := by
      intro o ho
      have hzz : z.cells.size = sz := by rw [← hzl, ← hzs]; simp
      have hm : o % sz < sz := Nat.mod_lt _ h0
      have e2 : z.cells[o % z.cells.size]! = zs.getD (o % sz) undef := by
        rw [hzz, getElem!_pos z.cells (o % sz) (by omega), List.getD_eq_getElem?_getD, List.getElem?_eq_getElem (by omega)]
        simp [← hzs]
      refine ⟨?_, ?_⟩
      · unfold madeCells
        rw [hsz', Array.getElem?_map, Array.getElem?_range]
        rw [if_pos ho]
        simp only [Option.map_some, e2]
      · have := List.all_eq_true.1 hz1 (zs.getD (o % sz) undef) (by
          rw [List.getD_eq_getElem?_getD, List.getElem?_eq_getElem (by omega)]
          exact List.getElem_mem _)
        exact this
    have hg : GoodB (γ.put st.hp.length w.heap.size 0 cn.toNat) (w.alloc (.cells (madeCells z.cells (cn.toNat * i.size)) e)) st.hp.length (.row sz ln.toNat (zerG zs) e) := by
      have hcap : (γ.put st.hp.length w.heap.size 0 cn.toNat).cap st.hp.length = cn.toNat := Gh.put_cap ..
      refine ⟨by rw [hcap]; omega, ?_⟩
      rw [hcap, Gh.put_blk, Gh.put_off]
      by_cases hc0 : cn.toNat = 0
      · exact .inl hc0
      · refine .inr ⟨madeCells z.cells (cn.toNat * i.size), (0, 0), ?_, fun o _ h => by have := h.2; simp at this, ?_, fun o ho => ?_, fun j hj q hq => ?_⟩
        · show (w.heap.push _)[w.heap.size]? = _
          simp
        · rw [size_madeCells, hsz']; omega
        · rw [size_madeCells, hsz'] at ho
          exact ⟨_, (hcell o ho).1, (hcell o ho).2⟩
        · have hlt : j * sz + q < cn.toNat * sz := by
            have : (j + 1) * sz ≤ cn.toNat * sz := Nat.mul_le_mul_right _ (by omega)
            rw [Nat.add_mul, Nat.one_mul] at this
            omega
          rw [Nat.zero_add]
          refine ⟨_, (hcell _ hlt).1, ?_⟩
          have hmod : (j * sz + q) % sz = q := by rw [Nat.mul_comm, Nat.mul_add_mod, Nat.mod_eq_of_lt hq]
          rw [hmod]
          exact rfl
    obtain ⟨h1, h2⟩ := inv_alloc (cap := cn.toNat) hI hg (fun l T' e => by simp at e)
    unfold Oper.wp
    rw [hrun]
    refine hK _ _ _ _ _ _ ⟨rfl, rfl, rfl⟩ ⟨h1, ?_, (γ.put_ext _ _ _ _).mono fun b hb => by rw [List.mem_singleton] at hb; subst hb; simp [newN], h2, by show _ < _; simp, by simp⟩
    refine ⟨some ⟨w.heap.size, 0, none⟩, cn.toNat, rfl, by omega, ?_⟩
    right
    simp [Gh.put]
  · rintro y hp' S ⟨rfl, rfl, rfl⟩
    exact h

/-! ### calls whose arguments may lie behind guards that hold -/
def stL : List XV → Prop
  | [] => True
  | x :: l => (strip x).1 ∧ stL l
def unG (l : List XV) : List XV := l.map fun x => (strip x).2
attribute [push_cast] stL unG
theorem stL_rep {γ : Gh} {w : World} {ev : Operand → XV} {ρ : Operand → Value} : ∀ (l : List Operand), (∀ x, x ∈ l → RepV γ w (ev x) (ρ x)) → stL (l.map ev) → All2 (RepV γ w) (unG (l.map ev)) (l.map ρ)
  | [], _, _ => .nil
  | x :: l, h, hs => .cons (strip_sound (h x (List.mem_cons_self ..)) hs.1) (stL_rep l (fun y hy => h y (List.mem_cons_of_mem _ hy)) hs.2)
theorem run_callF {P : Program} {w : World} {f : FuncId} (hf : Enters P f) {a : Act} {args : Array Operand} {ats : Array TypeId} {dst : Option Tmp} {ty : TypeId} {pos : String} {after : Array Edge} {gd : Option (Nat × Bool)} :
    (execOp a.eval ⟨dst, .call ⟨.value (.func f), args, ats⟩, ty, pos, after, gd⟩).run P w = .ok (.enter f (args.toList.map a.eval).toArray) w := by
  rw [execOp_call_go, run_callFunc hf]
  congr 2
  apply Array.toList_inj.1
  simp
theorem ev_callS {X : Cx} {Q : KX} {k : List It} {st : St} {hp0 : List XB} {f : FuncId} {args : Array Operand} {kd : List Nat} {xs : List XV} {post : XV → List XB → Prop} {dst : Option Tmp} {ats : Array TypeId} {ty : TypeId} {pos : String} {after : Array Edge} {gd : Option (Nat × Bool)}
    (hcon : Con X.P f hp0 kd xs post) (sel S : List Nat) (hst : stL (args.toList.map (evX st.fr))) (hargs : argsLe S st.hp sel (unG (args.toList.map (evX st.fr))) xs)
    (hside : hp0.map (XB.ren sel) = (sel.map fun b => st.hp.getD b .dead) ∧ sel.Nodup ∧ (∀ b, b ∈ sel → b < st.hp.length) ∧ scB hp0.length hp0 ∧ (∀ b, b ∈ S → b ∉ sel) ∧ (∀ j, j ∈ kd → ¬ X.kn (sel.getD j 0)) ∧ freeH (kd.map fun j => sel.getD j 0) sel 0 st.hp)
    (hfl : S = [] ∨ ∀ x hp', post x hp' → x.flat ∧ ∀ xb, xb ∈ hp' → xb.flat)
    (h : ∀ x hp', post x hp' → SC X Q 400 k ⟨frPut (killF (kd.map fun j => sel.getD j 0) st.fr) dst (x.ren (sel1 sel st.hp.length hp'.length)), outH st.hp sel hp'⟩) :
    EvOp X Q ⟨dst, .call ⟨.value (.func f), args, ats⟩, ty, pos, after, gd⟩ k st := by
  refine ev_eff (effK_conR hcon sel S hside.1 hside.2.1 hside.2.2.1 hside.2.2.2.1 hside.2.2.2.2.1 hside.2.2.2.2.2.1 hside.2.2.2.2.2.2 hargs hfl ?_) ?_
  · intro γ w a hI hev
    refine ⟨_, run_callF hcon.1, stL_rep _ (fun y hy => hev y (by simp [Op.operands, Call.operands, Array.mem_toList_iff.1 hy])) hst⟩
  · rintro y hp'' K ⟨x, hp', hpost, rfl, rfl, rfl⟩
    exact h x hp' hpost
theorem argsLe_nil (hp : List XB) : ∀ (xs : List XV), xs.map (XV.ren []) = xs → argsLe [] hp [] xs xs
  | [], _ => trivial
  | x :: xs, hn => by
    simp only [List.map_cons, List.cons.injEq] at hn
    have vs : ∀ x, viewS [] hp x = (True, x) := fun x => by cases x <;> simp [viewS]
    have v0 : ∀ x, viewP [] hp x = (True, x) := fun x => by cases x <;> simp [viewP, vs]
    have v1 : viewW [] hp x = (True, x) := by
      cases x <;> simp [viewW, v0]
    refine ⟨by rw [v1]; trivial, .inr ?_, argsLe_nil hp xs hn.2⟩
    rw [v1, hn.1]
/-- a contract without named blocks, nothing viewed -/
theorem ev_c0 {X : Cx} {Q : KX} {k : List It} {st : St} {f : FuncId} {args : Array Operand} {xs : List XV} {post : XV → List XB → Prop} {dst : Option Tmp} {ats : Array TypeId} {ty : TypeId} {pos : String} {after : Array Edge} {gd : Option (Nat × Bool)}
    (hcon : Spec X.P f xs post) (hst : stL (args.toList.map (evX st.fr))) (hargs : unG (args.toList.map (evX st.fr)) = xs) (hn : xs.map (XV.ren []) = xs)
    (h : ∀ x hp', post x hp' → SC X Q 400 k ⟨frPut st.fr dst (x.ren (List.range' st.hp.length hp'.length)), st.hp ++ hp'.map (XB.ren (List.range' st.hp.length hp'.length))⟩) :
    EvOp X Q ⟨dst, .call ⟨.value (.func f), args, ats⟩, ty, pos, after, gd⟩ k st := by
  refine ev_callS hcon [] [] hst ?_ ⟨rfl, List.nodup_nil, by simp, trivial, by simp, by simp, freeH_nil _ _⟩ (.inl rfl) ?_
  · rw [hargs]; exact argsLe_nil _ _ hn
  · intro x hp' hpost
    have := h x hp' hpost
    simpa [killF, outH, putH, sel1] using this
/-- the same, a function of its arguments alone -/
theorem ev_cf {X : Cx} {Q : KX} {k : List It} {st : St} {f : FuncId} {args : Array Operand} {xs : List XV} {y : XV} {dst : Option Tmp} {ats : Array TypeId} {ty : TypeId} {pos : String} {after : Array Edge} {gd : Option (Nat × Bool)}
    (hcon : Spec X.P f xs (fun x hp => x = y ∧ hp = [])) (hst : stL (args.toList.map (evX st.fr))) (hargs : unG (args.toList.map (evX st.fr)) = xs) (hn : xs.map (XV.ren []) = xs) (hy : y.ren [] = y)
    (h : SC X Q 400 k ⟨frPut st.fr dst y, st.hp⟩) : EvOp X Q ⟨dst, .call ⟨.value (.func f), args, ats⟩, ty, pos, after, gd⟩ k st := by
  refine ev_c0 hcon hst hargs hn ?_
  rintro x hp' ⟨rfl, rfl⟩
  rw [show List.range' st.hp.length ([] : List XB).length = [] from rfl, hy]
  simpa using h
/-- the same, where named blocks S are read -/
theorem ev_cv {X : Cx} {Q : KX} {k : List It} {st : St} {f : FuncId} {args : Array Operand} {xs : List XV} {y : XV} {dst : Option Tmp} {ats : Array TypeId} {ty : TypeId} {pos : String} {after : Array Edge} {gd : Option (Nat × Bool)}
    (hcon : Spec X.P f xs (fun x hp => x = y ∧ hp = [])) (S : List Nat) (hst : stL (args.toList.map (evX st.fr))) (hargs : argsLe S st.hp [] (unG (args.toList.map (evX st.fr))) xs) (hy : y.ren [] = y) (hfl : y.flat)
    (h : SC X Q 400 k ⟨frPut st.fr dst y, st.hp⟩) : EvOp X Q ⟨dst, .call ⟨.value (.func f), args, ats⟩, ty, pos, after, gd⟩ k st := by
  refine ev_callS hcon [] S hst hargs ⟨rfl, List.nodup_nil, by simp, trivial, by simp, by simp, freeH_nil _ _⟩ (.inr fun x hp' hp => by obtain ⟨rfl, rfl⟩ := hp; exact ⟨hfl, by simp⟩) ?_
  rintro x hp' ⟨rfl, rfl⟩
  have e1 : sel1 [] st.hp.length ([] : List XB).length = [] := rfl
  have e2 : outH st.hp [] [] = st.hp := by simp [outH, putH]
  rw [e1, e2, hy]
  exact h

/-! ### a state under other names -/
theorem all2_ren {γ : Gh} {w : World} {sel : List Nat} : ∀ (l : List XV) (vs : List Value), All2 (RepV γ w) (l.map (XV.ren sel)) vs → All2 (RepV (γ.sel sel) w) l vs
  | [], vs, h => by cases h; exact .nil
  | x :: l, vs, h => by
    cases h with
    | cons h1 h2 => exact .cons (RepV.ren x _ h1) (all2_ren l _ h2)
theorem wk_sel {X : Cx} {st st1 : St} (sel : List Nat) (hf : wkF st.fr (st1.fr.map (XV.ren sel))) (hh : st1.hp.map (XB.ren sel) = sel.map fun b => st.hp.getD b .dead) (hnd : sel.Nodup) (h1 : scF st1.hp.length st1.fr) (h2 : scB st1.hp.length st1.hp) (hn : X.n0 ≤ sel.length) (hk : ∀ b, X.kn b → sel.getD b 0 = b) : Wk X st st1 := by
  rintro a w ⟨γ, hr⟩
  obtain ⟨vs, hvs, hl⟩ := hr.fr
  exact ⟨γ.sel sel, inv_sel hr.inv hh hnd (scB_all _ _ h2) hn hk, hr.df, ⟨vs, hvs, all2_ren _ _ (all2_xle (wkF_all2 _ _ hf) hl)⟩, scF_all _ _ h1⟩
def Tr.qs : List Nat → Tr → Tr
  | [], r => r
  | i :: l, r => .q i (Tr.qs l r)
attribute [push_cast] Tr.qs
end Go.SX
