/- SX: the rules by which simp works a walk out; loops; calls; results. Own work. -/
import Derived.Test.YtpaklnjfcjcdaaaDoorSX11
namespace Go.SX
set_option linter.unusedVariables false
set_option linter.unusedSimpArgs false

/-! ### the simp set: 'simp only [push_cast]' -/
attribute [push_cast] fop gop scal withP strip sOpt pickX binX binAny binI binS shX binB unX convX lenX lenOk minmaxX sliceX natOpt indexAddrX indexX extractX fieldAddrX fieldX partX loadX atPtr atPtr1 rowL intX buildX buildPlace fillX cellsV oneXV oneC setCells storeX datL cloCaps passX
attribute [push_cast] evX frPut gcond condX stepOp branch exitTo cellsOf arithX zerC one eqX valsOf kindOf kindsOf
attribute [push_cast] List.getElem?_cons_zero List.getElem?_cons_succ List.getElem?_nil List.getD_cons_zero List.getD_cons_succ List.getD_nil List.set_cons_zero List.set_cons_succ List.length_cons List.length_nil List.map_cons List.map_nil List.cons_append List.nil_append List.drop_zero List.drop_succ_cons List.take_zero List.take_succ_cons List.drop_nil List.take_nil List.all_cons List.all_nil List.replicate_succ List.replicate_zero
attribute [push_cast] List.getElem?_toArray List.size_toArray
attribute [push_cast] Option.bind_some Option.bind_none Option.map_some Option.map_none Option.some.injEq Option.getD_some Option.getD_none Option.isSome_some Option.isSome_none
attribute [push_cast] true_and and_true true_implies implies_true false_implies false_and and_false eq_self forall_const not_true_eq_false not_false_eq_true Bool.true_and Bool.and_true Bool.false_and Bool.and_false Bool.false_eq_true Prod.mk.injEq true_or or_true false_or or_false ite_true ite_false
attribute [push_cast] decide_true decide_false imp_self inI64 cond_true cond_false Bool.cond_true_left Bool.cond_false_right Nat.le_refl Nat.zero_le Bool.not_true Bool.not_false Option.some_inj
attribute [push_cast] Int.toNat_natCast Int.toNat_zero Nat.zero_mul Nat.zero_add Nat.add_zero Nat.mul_one Int.sub_zero

attribute [push_cast] strX bytesX VChk VQ gd slotX stepE or_self true_or or_true
attribute [push_cast] shiftG_zero shiftG_at shiftG_shiftG aop callA appX srcX slT killF XV.kill XV.hasW XC.has XC.killC killB okH okB notCond'
attribute [push_cast] List.contains_cons List.contains_nil List.any_cons List.any_nil List.mem_cons List.not_mem_nil Bool.or_false Bool.or_true Bool.false_or Bool.true_or or_self Nat.not_lt_zero not_false_eq_true Option.isSome_none List.mem_singleton and_self
theorem toList_toArray' (l : List Oper) : (List.toArray l).toList = l := by simp
theorem toList_toArrayO (l : List Operand) : (List.toArray l).toList = l := by simp
theorem toList_toArrayT (l : List TypeId) : (List.toArray l).toList = l := by simp
theorem toList_toArrayP (l : List (Nat × Operand)) : (List.toArray l).toList = l := by simp
attribute [push_cast] toList_toArray' toList_toArrayO toList_toArrayT toList_toArrayP

section
variable (X : Cx) (Q : KX) (n : Nat) (k : List It) (st : St)
@[push_cast] theorem cxM_P (P : Program) (w : World) (ro : Nat → Prop) (γ : Gh) (hp : List XB) (kd : List Nat) : (cxM P w ro γ hp kd).P = P := rfl
@[push_cast] theorem cxM_kn (P : Program) (w : World) (ro : Nat → Prop) (γ : Gh) (hp : List XB) (kd : List Nat) (b : Nat) : (cxM P w ro γ hp kd).kn b = (b < hp.length ∧ b ∉ kd) := rfl
@[push_cast] theorem cxM_n0 (P : Program) (w : World) (ro : Nat → Prop) (γ : Gh) (hp : List XB) (kd : List Nat) : (cxM P w ro γ hp kd).n0 = hp.length := rfl
@[push_cast] theorem SC_nil : SC X Q (n + 1) [] st = Q.nrm st := rfl
@[push_cast] theorem SC_blk (i : Nat) : SC X Q (n + 1) (.blk i :: k) st = SC X Q n k st := rfl
@[push_cast] theorem SC_inv (J : St → Prop) : SC X Q (n + 1) (.inv J :: k) st = J st := rfl
@[push_cast] theorem SC_ops_nil (all : Array Oper) : SC X Q (n + 1) (.ops all [] :: k) st = SC X Q n k st := rfl
@[push_cast] theorem SC_ops_none (all : Array Oper) (d : Option Tmp) (op : Op) (ty : TypeId) (pos : String) (after : Array Edge) (rest : List Oper) :
    SC X Q (n + 1) (.ops all (⟨d, op, ty, pos, after, none⟩ :: rest) :: k) st = stepOp X Q all ⟨d, op, ty, pos, after, none⟩ rest k st fun fr y hp' => SC X Q n (.ops all rest :: k) ⟨frPut fr d y, hp'⟩ := rfl
@[push_cast] theorem SC_ops_some (all : Array Oper) (d : Option Tmp) (op : Op) (ty : TypeId) (pos : String) (after : Array Edge) (g : Nat × Bool) (rest : List Oper) :
    SC X Q (n + 1) (.ops all (⟨d, op, ty, pos, after, some g⟩ :: rest) :: k) st =
      match gcond st.fr ((all[g.1]?).bind (·.dst)) g.2 with
      | none => False
      | some A =>
        match fop X.P (evX st.fr) st.hp op with
        | some (φ, .c y) => (A → φ) ∧ SC X Q n (.ops all rest :: k) ⟨frPut st.fr d (.c (condX A y)), st.hp⟩
        | _ => (A → stepOp X Q all ⟨d, op, ty, pos, after, some g⟩ rest k st fun fr y hp' => SC X Q n (.ops all rest :: k) ⟨frPut fr d y, hp'⟩) ∧ (¬ A → SC X Q n (.ops all rest :: k) ⟨frPut st.fr d .any, st.hp⟩) := rfl
@[push_cast] theorem SC_dr_nil (all : Array Oper) (T : List (Nat × List Nat)) (fin eff done : List Nat) : SC X Q (n + 1) (.dr all T fin eff done .nil :: k) st = (VChk X all st fin ∧ SC X Q n k st) := rfl
@[push_cast] theorem SC_dr_q (all : Array Oper) (T : List (Nat × List Nat)) (fin eff done : List Nat) (i : Nat) (r : Tr) : SC X Q (n + 1) (.dr all T fin eff done (.q i r) :: k) st =
    match all[i]? with
    | none => False
    | some o =>
      match fop X.P (evX st.fr) st.hp o.op with
      | none =>
        match o.guard with
        | none => False
        | some g =>
          match gcond st.fr ((all[g.1]?).bind (·.dst)) g.2 with
          | none => False
          | some A => ¬ A ∧ SC X Q n (.dr all T fin eff (i :: done) r :: k) ⟨frPut st.fr o.dst .any, st.hp⟩
      | some (_, y) =>
        match o.guard with
        | none => SC X Q n (.dr all T fin eff (i :: done) r :: k) ⟨frPut st.fr o.dst y, st.hp⟩
        | some g =>
          match gcond st.fr ((all[g.1]?).bind (·.dst)) g.2 with
          | none => False
          | some A =>
            match y with
            | .c z => SC X Q n (.dr all T fin eff (i :: done) r :: k) ⟨frPut st.fr o.dst (.c (condX A z)), st.hp⟩
            | y => (A → SC X Q n (.dr all T fin eff (i :: done) r :: k) ⟨frPut st.fr o.dst y, st.hp⟩) ∧ (¬ A → SC X Q n (.dr all T fin eff (i :: done) r :: k) ⟨frPut st.fr o.dst .any, st.hp⟩) := rfl
@[push_cast] theorem SC_dr_e (all : Array Oper) (T : List (Nat × List Nat)) (fin eff done js : List Nat) (i : Nat) (r : Tr) : SC X Q (n + 1) (.dr all T fin eff done (.e i js r) :: k) st =
    (VChk X all st js ∧
    match all[i]? with
    | none => False
    | some o =>
      match gd all st.fr o with
      | none => False
      | some A => (A → stepE X Q o (.dr all T fin (i :: eff) (i :: done) r :: k) st fun fr y hp' => SC X Q n (.dr all T fin (i :: eff) (i :: done) r :: k) ⟨frPut fr o.dst y, hp'⟩) ∧ (¬ A → SC X Q n (.dr all T fin (i :: eff) (i :: done) r :: k) ⟨frPut st.fr o.dst .any, st.hp⟩)) := rfl
@[push_cast] theorem SC_dr_alt (all : Array Oper) (T : List (Nat × List Nat)) (fin eff done js : List Nat) (i j : Nat) (a b : Tr) : SC X Q (n + 1) (.dr all T fin eff done (.alt js i a j b) :: k) st =
    (VChk X all st js ∧
    match all[i]?, all[j]? with
    | some o, some p =>
      match gd all st.fr o, gd all st.fr p with
      | some A, some B =>
        ((A → stepE X Q o (.dr all T fin (i :: eff) (i :: done) a :: k) st fun fr y hp' => SC X Q n (.dr all T fin (i :: eff) (i :: done) a :: k) ⟨frPut fr o.dst y, hp'⟩) ∧ (¬ A → SC X Q n (.dr all T fin (i :: eff) (i :: done) a :: k) ⟨frPut st.fr o.dst .any, st.hp⟩)) ∧
        ((B → stepE X Q p (.dr all T fin (j :: eff) (j :: done) b :: k) st fun fr y hp' => SC X Q n (.dr all T fin (j :: eff) (j :: done) b :: k) ⟨frPut fr p.dst y, hp'⟩) ∧ (¬ B → SC X Q n (.dr all T fin (j :: eff) (j :: done) b :: k) ⟨frPut st.fr p.dst .any, st.hp⟩))
      | _, _ => False
    | _, _ => False) := rfl
@[push_cast] theorem ofSch_nil : ofSch [] = .nil := rfl
@[push_cast] theorem ofSch_q (i : Nat) (r : Sch) : ofSch ((i, none) :: r) = .q i (ofSch r) := rfl
@[push_cast] theorem ofSch_e (i : Nat) (js : List Nat) (r : Sch) : ofSch ((i, some js) :: r) = .e i js (ofSch r) := rfl
@[push_cast] theorem SC_skip : SC X Q (n + 1) (.c .skip :: k) st = SC X Q n k st := rfl
@[push_cast] theorem SC_seq (a b : Code) : SC X Q (n + 1) (.c (.seq a b) :: k) st = SC X Q n (.c a :: .c b :: k) st := rfl
@[push_cast] theorem SC_block (i : Nat) (b : Code) : SC X Q (n + 1) (.c (.block i b) :: k) st = SC X Q n (.c b :: .blk i :: k) st := rfl
@[push_cast] theorem SC_region_false (i : Nat) (ops : Array Oper) : SC X Q (n + 1) (.c (.region i ops false) :: k) st = SC X Q n (.ops ops ops.toList :: k) st := rfl
@[push_cast] theorem SC_region_true (i : Nat) (ops : Array Oper) : SC X Q (n + 1) (.c (.region i ops true) :: k) st = EvC X Q (.region i ops true) k st := rfl
@[push_cast] theorem SC_cond (c : Operand) (t e : Code) : SC X Q (n + 1) (.c (.cond c t e) :: k) st = branch (evX st.fr c) (SC X Q n (.c t :: k) st) (SC X Q n (.c e :: k) st) := rfl
@[push_cast] theorem SC_exit (i : Nat) : SC X Q (n + 1) (.c (.exit i) :: k) st = match exitTo i k with | some k' => SC X Q n k' st | none => Q.ext i st := rfl
@[push_cast] theorem SC_ret : SC X Q (n + 1) (.c .ret :: k) st = Q.ret st := rfl
@[push_cast] theorem SC_loop (b : Code) : SC X Q (n + 1) (.c (.loop b) :: k) st = EvC X Q (.loop b) k st := rfl
@[push_cast] theorem SC_rangeFunc (f : Operand) (p : Array Tmp) (a b : Code) : SC X Q (n + 1) (.c (.rangeFunc f p a b) :: k) st = EvC X Q (.rangeFunc f p a b) k st := rfl
end

def wkF : List XV → List XV → Prop
  | [], [] => True
  | a :: l, b :: m => xle a b ∧ wkF l m
  | _, _ => False
def wkH : List XB → List XB → Prop
  | _, [] => True
  | a :: l, b :: m => a = b ∧ wkH l m
  | _, _ => False
def scF (n : Nat) : List XV → Prop
  | [] => True
  | x :: l => x.upTo n ∧ scF n l
def scB (n : Nat) : List XB → Prop
  | [] => True
  | .box c _ :: l => (∀ x, x ∈ c → XC.upTo n x) ∧ scB n l
  | _ :: l => scB n l
theorem wkF_all2 : ∀ (l m : List XV), wkF l m → All2 xle l m
  | [], [], _ => .nil
  | a :: l, b :: m, h => .cons h.1 (wkF_all2 l m h.2)
  | [], _ :: _, h => h.elim
  | _ :: _, [], h => h.elim
theorem wkH_prefix : ∀ (l m : List XB), wkH l m → m <+: l
  | _, [], _ => List.nil_prefix
  | a :: l, b :: m, h => by obtain ⟨rfl, h⟩ := h; exact (List.prefix_cons_inj a).2 (wkH_prefix l m h)
  | [], _ :: _, h => h.elim
theorem scF_all (n : Nat) : ∀ (l : List XV), scF n l → ∀ x, x ∈ l → x.upTo n
  | [], _, x, hx => by simp at hx
  | y :: l, h, x, hx => by
    rcases List.mem_cons.1 hx with rfl | hx
    · exact h.1
    · exact scF_all n l h.2 x hx
theorem scB_all (n : Nat) : ∀ (l : List XB), scB n l → ∀ (b : Nat) (c : List XC) (T : TypeId), l[b]? = some (XB.box c T) → ∀ x, x ∈ c → XC.upTo n x
  | [], _, b, c, T, hb => by simp at hb
  | y :: l, h, b, c, T, hb => by
    cases b with
    | zero => simp at hb; subst hb; exact h.1
    | succ b =>
      simp at hb
      refine scB_all n l ?_ b c T hb
      cases y with
      | box c' T' => exact h.2
      | dead => exact h
      | row k m g T => exact h
      | ob o => exact h
/-! ### entry, results -/
def Qret (P : Program) (n0 : Nat) (kd : List Nat) (rs : List ResultVar) (post : XV → List XB → Prop) : KX := ⟨retK P n0 kd rs post, retK P n0 kd rs post, fun _ _ => False⟩
@[push_cast] theorem Qret_ret (P : Program) (n0 : Nat) (kd : List Nat) (rs : List ResultVar) (post : XV → List XB → Prop) : (Qret P n0 kd rs post).ret = retK P n0 kd rs post := rfl
@[push_cast] theorem Qret_nrm (P : Program) (n0 : Nat) (kd : List Nat) (rs : List ResultVar) (post : XV → List XB → Prop) : (Qret P n0 kd rs post).nrm = retK P n0 kd rs post := rfl
theorem sc_enter {P : Program} {f : FuncId} {fn : Func} {c : Code} {hp : List XB} {kd : List Nat} {xs : List XV} {post : XV → List XB → Prop} {rs : List ResultVar} (hf : P.funcs[f]? = some fn) (hb : fn.body = some c) (hrs : fn.results = rs.toArray) (hnm : (fn.name == "runtime.NumGoroutine") = false) (hx : scF hp.length xs)
    (m : Nat) (hm : fn.ntmps = m) (h : ∀ w ro γ, SC (cxM P w ro γ hp kd) (Qret P hp.length kd rs post) 400 [.c c] ⟨xs ++ List.replicate (m - xs.length) .any, hp⟩) : Con P f hp kd xs post :=
  con_intro hf hb hrs hnm (scF_all _ _ hx) (fun w ro γ => by subst hm; exact SC_sound 400 [.c c] _ (h w ro γ))

attribute [push_cast] resX resX1 resL XC.ren XV.ren XV.renW XB.ren notTup
/-- what is to be said of results x over the blocks hp -/
def retP (n0 : Nat) (kd : List Nat) (m : Nat) (post : XV → List XB → Prop) (hp : List XB) (x : XV) : Prop :=
  ∃ y sel hp1, (∀ l, x = .tup l → m ≠ 1 → l.all notTup = true) ∧ y.ren sel = x ∧ hp1.map (XB.ren sel) = (sel.map fun b => hp.getD b .dead) ∧ sel.Nodup ∧ scH hp1 ∧ y.upTo hp1.length ∧
    (n0 ≤ sel.length ∧ ∀ b, b < n0 → b ∉ kd → sel.getD b 0 = b) ∧ post y hp1
@[push_cast] theorem retK_eq (P : Program) (n0 : Nat) (kd : List Nat) (rs : List ResultVar) (post : XV → List XB → Prop) (st : St) : retK P n0 kd rs post st = match resX P rs st with
    | some r => r.1 ∧ retP n0 kd rs.length post st.hp r.2
    | none => False := by
  unfold retK retP
  cases h : resX P rs st with
  | none => simp
  | some r =>
    obtain ⟨φ, x⟩ := r
    simp only [Option.some.injEq, Prod.mk.injEq]
    apply propext
    constructor
    · rintro ⟨φ', x', y, sel, hp1, ⟨rfl, rfl⟩, hφ, h1⟩
      exact ⟨hφ, y, sel, hp1, h1⟩
    · rintro ⟨hφ, y, sel, hp1, h1⟩
      exact ⟨φ, x, y, sel, hp1, ⟨rfl, rfl⟩, hφ, h1⟩
/-- results; sel: the names that are told, those of the entry first -/
theorem ret_sel {n0 m : Nat} {kd : List Nat} {post : XV → List XB → Prop} {hp : List XB} {x : XV} (sel : List Nat) (y : XV) (hp1 : List XB) (hren : y.ren sel = x) (hsel : hp1.map (XB.ren sel) = sel.map fun b => hp.getD b .dead)
    (ht : ∀ l, x = .tup l → l.all notTup = true) (hnd : sel.Nodup) (hs1 : scB hp1.length hp1) (hs : y.upTo hp1.length) (hn : n0 ≤ sel.length) (hk : ∀ b, b < n0 → b ∉ kd → sel.getD b 0 = b) (hp' : post y hp1) : retP n0 kd m post hp x :=
  ⟨y, sel, hp1, fun l hl _ => ht l hl, hren, hsel, hnd, scB_all _ _ hs1, hs, ⟨hn, hk⟩, hp'⟩
def flatR : XV → Prop
  | .tup l => l.all notTup = true ∧ scF 0 l
  | x => x.upTo 0
/-- results without named blocks -/
theorem ret_flat {m : Nat} {post : XV → List XB → Prop} {hp : List XB} {x : XV} (hs : flatR x) (hren : x.ren [] = x) (hp' : post x []) : retP 0 [] m post hp x := by
  refine ret_sel [] x [] hren rfl (fun l hl => by subst hl; exact hs.1) List.nodup_nil trivial ?_ (Nat.le_refl _) (fun b hb => absurd hb (Nat.not_lt_zero _)) hp'
  cases x with
  | tup l =>
    intro x hx
    have h1 := scF_all 0 l hs.2 x hx
    have h2 := List.all_eq_true.1 hs.1 x hx
    cases x with
    | tup l => simp [notTup] at h2
    | any => exact h1
    | c x => exact h1
    | agg l => exact h1
  | any => exact hs
  | c x => exact hs
  | agg l => exact hs
attribute [push_cast] flatR List.length_singleton forall_eq_or_imp forall_eq

/-! ### loops -/
def LoopJ {α : Type} (X : Cx) (S : α → St) (I : α → Prop) (m : α → Nat) (x : α) (st : St) : Prop := ∃ y, I y ∧ m y < m x ∧ Wk X st (S y)
theorem ev_loop {X : Cx} {Q : KX} {k : List It} {α : Type} {st : St} {c : Code} (S : α → St) (I : α → Prop) (m : α → Nat) (x0 : α) (h0 : I x0) (e0 : Wk X st (S x0))
    (round : ∀ x, I x → SC X Q 400 (.c c :: .inv (LoopJ X S I m x) :: k) (S x)) : EvC X Q (.loop c) k st :=
  sx_loop S I m x0 h0 e0 fun x hx => SC_sound 400 _ _ (round x hx)
/-- a loop of at most m rounds, each walked for itself -/
theorem ev_rounds {X : Cx} {Q : KX} {k : List It} {st : St} {c : Code} (m : Nat) (h : SC X Q 400 (.rd m c :: k) st) : EvC X Q (.loop c) k st := by
  have h := SC_sound 400 _ _ h
  intro a w hr
  exact wp_loop_rounds m (h a w hr)
@[push_cast] theorem SC_rd (X : Cx) (Q : KX) (n m : Nat) (c : Code) (k : List It) (st : St) : SC X Q (n + 1) (.rd (m + 1) c :: k) st = SC X Q n (.c c :: .rd m c :: k) st := rfl

/-! ### weaker states -/
theorem wk_mk {X : Cx} {st st' : St} (hf : wkF st.fr st'.fr) (hh : wkH st.hp st'.hp) (h1 : scF st'.hp.length st'.fr) (h2 : scB st'.hp.length st'.hp) (hn : X.n0 ≤ st'.hp.length) : Wk X st st' :=
  wk_intro (wkF_all2 _ _ hf) (wkH_prefix _ _ hh) ⟨scF_all _ _ h1, scB_all _ _ h2⟩ hn
theorem loopJ_intro {α : Type} {X : Cx} {S : α → St} {I : α → Prop} {m : α → Nat} {x : α} {st : St} (y : α) (hI : I y) (hm : m y < m x) (hf : wkF st.fr (S y).fr) (hh : wkH st.hp (S y).hp) (h1 : scF (S y).hp.length (S y).fr) (h2 : scB (S y).hp.length (S y).hp) (hn : X.n0 ≤ (S y).hp.length) : LoopJ X S I m x st :=
  ⟨y, hI, hm, wk_mk hf hh h1 h2 hn⟩
attribute [push_cast] scF scB XV.upTo XV.upToW XC.upTo
@[push_cast] theorem wkF_nil : wkF [] [] = True := rfl
@[push_cast] theorem wkF_cons (a b : XV) (l m : List XV) : wkF (a :: l) (b :: m) = (xle a b ∧ wkF l m) := rfl
@[push_cast] theorem wkH_nil (l : List XB) : wkH l [] = True := by cases l <;> rfl
@[push_cast] theorem wkH_cons (a b : XB) (l m : List XB) : wkH (a :: l) (b :: m) = (a = b ∧ wkH l m) := rfl
@[push_cast] theorem xle_any (a : XV) : xle a .any = True := by simp [xle]
@[push_cast] theorem xle_self (a : XV) : xle a a = True := by simp [xle]
theorem xle_c (a : XV) (b : XC) : xle a (.c b) = (a = .c b) := by simp [xle]
theorem xle_agg (a : XV) (b : List XC) : xle a (.agg b) = (a = .agg b) := by simp [xle]
attribute [push_cast] xle_c xle_agg
end Go.SX
