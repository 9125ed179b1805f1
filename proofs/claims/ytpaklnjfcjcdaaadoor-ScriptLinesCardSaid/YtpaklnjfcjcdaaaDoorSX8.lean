/- SX: the walk through a list of operations, and through code. Own work. -/
import Derived.Test.YtpaklnjfcjcdaaaDoorSX7
namespace Go.SX
set_option linter.unusedVariables false
set_option linter.unusedSimpArgs false

/-! ### operations that make or write -/
def rowOf (k : Nat) (ds : List XD) : Nat → Nat → XD := fun i c => ds.getD (i * k + c) .any
def cellsN (zs : List XC) (k len : Nat) : List XC := (List.range (len * k)).map fun i => zs.getD (i % k) (.d .any)
def gop (P : Program) (ev : Operand → XV) (hp : List XB) : Op → Option (Prop × XV × List XB)
  | .alloc T => (zerC P T).map fun zs => (True, .c (.ptr hp.length zs.length 0 0), hp ++ [.box zs T])
  | .box T x => (cellsV (strip (ev x)).2).bind fun cs => if oneXV (strip (ev x)).2 then some ((strip (ev x)).1, .c (.ptr hp.length cs.length 0 0), hp ++ [.box cs T]) else none
  | .store T p x => (storeX P hp T (strip (ev p)).2 (strip (ev x)).2).map fun r => ((strip (ev p)).1 ∧ (strip (ev x)).1 ∧ r.1, .any, r.2)
  | .buildSlice T len parts => (elemSl P T).bind fun e => (szT P e).bind fun k => if k = 0 ∨ len * k > 16777216 then none else (zerC P e).bind fun zs =>
      (fillX (fun i => some (i * k, k)) (cellsN zs k len) (parts.toList.map fun p => (p.1, ev p.2))).bind fun r => (datL r.2).map fun ds =>
        (r.1 ∧ zs.length = k ∧ (zs.all oneC = true), .c (.slc hp.length k 0 len), hp ++ [.row k len (rowOf k ds) e])
  | _ => none

structure Eff (X : Cx) (γ : Gh) (w : World) (hp : List XB) (a : Act) (o : Oper) (y : XV) (hp' : List XB) : Prop where
  ex : ∃ n v w' γ', (execOp a.eval o).run X.P w = .ok n w' ∧ (n = .value v ∨ (n = .skip ∧ v = undef)) ∧ Inv X γ' w' hp' ∧ RepV γ' w' y v ∧ γ.Ext γ' [hp.length] ∧ (∀ b, γ.ro b → w'.heap[b]? = w.heap[b]?) ∧ y.upTo hp'.length ∧ hp.length ≤ hp'.length ∧ γ.Ext γ' (List.range' hp.length (hp'.length - hp.length))

theorem upTo_len {hp : List XB} {xb : XB} (x : XC) (h : x.upTo hp.length) : x.upTo (hp ++ [xb]).length := XC.upTo_mono (by simp) x h

theorem eff_newbox {X : Cx} {γ : Gh} {w : World} {hp : List XB} {cs : List XC} {vs : List Value} {T : TypeId} (hI : Inv X γ w hp) (hl : All2 (RepC γ w) cs vs) (hsc : ∀ c, c ∈ cs → c.upTo hp.length) :
    ∃ w' γ', w' = w.alloc (.cells vs.toArray T) ∧ Inv X γ' w' (hp ++ [.box cs T]) ∧ RepV γ' w' (.c (.ptr hp.length cs.length 0 0)) (.pointer (some ⟨w.heap.size, 0, none⟩)) ∧ γ.Ext γ' [hp.length] ∧ (∀ b, γ.ro b → w'.heap[b]? = w.heap[b]?) := by
  have hro0 : ∀ b, γ.ro b → (w.alloc (.cells vs.toArray T)).heap[b]? = w.heap[b]? := fun b hb => Go.RowKit.Below.heap_alloc w _ b (hI.ro b hb).1
  have hg : GoodB (γ.put hp.length w.heap.size 0 1) (w.alloc (.cells vs.toArray T)) hp.length (.box cs T) := by
    refine ⟨Gh.put_off .., Gh.put_cap .., vs, ?_, hl.monoMem fun c u hc => RepC.mono (γ.put_ext _ _ _ _) hro0 c u (XC.free_of_upTo (n := hp.length) (by simp) c (hsc c hc))⟩
    rw [Gh.put_blk]
    show (w.heap.push _)[w.heap.size]? = _
    simp
  obtain ⟨h1, h2⟩ := inv_alloc (cap := 1) hI hg (fun l T' e x hx => by simp only [XB.box.injEq] at e; obtain ⟨rfl, _⟩ := e; exact hsc x hx)
  refine ⟨_, _, rfl, h1, ?_, γ.put_ext _ _ _ _, h2⟩
  show _ = _
  simp [Gh.put]

theorem cellsN_get (zs : List XC) (k len j : Nat) (hj : j < len * k) : (cellsN zs k len)[j]? = some (zs.getD (j % k) (.d .any)) := by
  simp [cellsN, hj]
theorem foldl_set_size (off : Nat) (zz : Array (Value × Nat)) (c : Array Value) : (zz.foldl (fun cs (x : Value × Nat) => cs.setIfInBounds (off + x.2) x.1) c).size = c.size := by
  obtain ⟨zz⟩ := zz
  simp only [List.foldl_toArray]
  induction zz generalizing c with
  | nil => rfl
  | cons z zz ih2 => simp only [List.foldl_cons]; rw [ih2]; simp
theorem gop_sound {X : Cx} {γ : Gh} {w : World} {hp hp' : List XB} {ev : Operand → XV} {a : Act} {o : Oper} {y : XV} {φ : Prop} (hI : Inv X γ w hp) (hev : ∀ x, RepV γ w (ev x) (a.eval x)) (hsc : ∀ x, (ev x).upTo hp.length)
    (h : gop X.P ev hp o.op = some (φ, y, hp')) (hφ : φ) : Eff X γ w hp a o y hp' := by
  have st : ∀ x, (strip (ev x)).1 → RepV γ w (strip (ev x)).2 (a.eval x) := fun x hs => strip_sound (hev x) hs
  constructor
  unfold execOp
  generalize o.op = op at h ⊢
  unfold gop at h
  split at h <;> dsimp only
  · rename_i T
    simp only [Option.map_eq_some_iff, Prod.mk.injEq] at h
    obtain ⟨zs, hz, _, rfl, rfl⟩ := h
    obtain ⟨v, hv, vs, hvs, hl⟩ := zerC_sound (γ := γ) (w := w) hz
    obtain ⟨w', γ', rfl, e1, e2, e3, e4⟩ := eff_newbox (T := T) hI hl (zerC_upTo hz)
    refine ⟨_, _, _, γ', ?_, .inl rfl, e1, e2, e3, e4, by show _ < _; simp, by simp, e3.mono (by simp)⟩
    simp only [Instr.alloc, Sem.run_bind, hv, Result.andThen_ok, newVar, newRow, hvs, run_newObj_alloc, Sem.run_pure]
  · rename_i T x
    simp only [Option.bind_eq_some_iff] at h
    obtain ⟨cs, hcs, h⟩ := h
    split at h
    · rename_i h1
      simp only [Option.some.injEq, Prod.mk.injEq] at h
      obtain ⟨rfl, rfl, rfl⟩ := h
      have hx := st x hφ
      obtain ⟨vs, hvs, hl⟩ := cellsV_sound hx hcs (fun c hc => by rw [hc] at h1 hx; exact oneC_sound h1 hx)
      obtain ⟨w', γ', rfl, e1, e2, e3, e4⟩ := eff_newbox (T := T) hI hl (cellsV_upTo (strip_upTo (hsc x)) hcs)
      refine ⟨_, _, _, γ', ?_, .inl rfl, e1, e2, e3, e4, by show _ < _; simp, by simp, e3.mono (by simp)⟩
      simp only [Instr.box, Sem.run_bind, Result.andThen_ok, newVar, newRow, hvs, run_newObj_alloc, Sem.run_pure]
    · simp at h
  · rename_i T p x
    simp only [Option.map_eq_some_iff, Prod.mk.injEq] at h
    obtain ⟨⟨ψ, hp1⟩, hr, rfl, rfl, rfl⟩ := h
    obtain ⟨w', h1, h2, h3, h4⟩ := storeX_sound hI (st p hφ.1) (st x hφ.2.1) (strip_upTo (hsc x)) hr hφ.2.2
    refine ⟨_, _, w', γ, ?_, .inr ⟨rfl, rfl⟩, h2, trivial, Gh.Ext.refl _ _, h4, trivial, Nat.le_of_eq h3.symm, Gh.Ext.refl _ _⟩
    simp only [Sem.run_bind, h1, Result.andThen_ok, Sem.run_pure]
  · rename_i T len parts
    simp only [Option.bind_eq_some_iff] at h
    obtain ⟨e, he, k, hk, h⟩ := h
    split at h
    · simp at h
    · rename_i hk0
      simp only [Option.bind_eq_some_iff, Option.map_eq_some_iff, Prod.mk.injEq] at h
      obtain ⟨zs, hz, ⟨ψ, r⟩, hr, ds, hds, rfl, rfl, rfl⟩ := h
      obtain ⟨v, hv, vs, hvs, hl⟩ := zerC_sound (γ := γ) (w := w) hz
      obtain ⟨hψ, hzk, hone⟩ := hφ
      have hvl := hl.length
      have hN : All2 (RepC γ w) (cellsN zs k len) ((List.range (len * k)).map fun i => vs.getD (i % k) default) := by
        refine All2.of_get (by simp [cellsN]) fun i a b h1 h2 => ?_
        simp only [cellsN, List.getElem?_map, Option.map_eq_some_iff] at h1 h2
        obtain ⟨j1, q1, rfl⟩ := h1
        obtain ⟨j2, q2, rfl⟩ := h2
        obtain ⟨hlt, rfl⟩ := range_some q1
        obtain ⟨_, rfl⟩ := range_some q2
        have hm : j2 % k < zs.length := by rw [hzk]; exact Nat.mod_lt _ (by omega)
        obtain ⟨b, hb, hr⟩ := hl.get (j2 % k) _ (List.getElem?_eq_getElem hm)
        simp only [List.getD_eq_getElem?_getD, List.getElem?_eq_getElem hm, hb, Option.getD_some]
        exact hr
      obtain ⟨vs', f1, f2⟩ := fillX_sound _ _ _ r _ ψ (mapRep2 hev parts.toList) hN hr hψ
      have hro0 : ∀ b, γ.ro b → (w.alloc (.cells vs'.toArray e)).heap[b]? = w.heap[b]? := fun b hb => Go.RowKit.Below.heap_alloc w _ b (hI.ro b hb).1
      have hdr := datL_sound r vs' ds f2 hds
      have hdl := datL_length r ds hds
      have hrl : vs'.length = len * k := by
        have hlen : ∀ (pl : Nat → Option (Nat × Nat)) (qs : List (Nat × Value)) (c c' : Array Value), Instr.fill pl c qs = some c' → c'.size = c.size := by
          intro pl qs
          induction qs with
          | nil => intro c c' h; simp only [Instr.fill, Option.some.injEq] at h; subst h; rfl
          | cons q qs ih =>
            intro c c' h
            obtain ⟨i, u⟩ := q
            simp only [Instr.fill] at h
            split at h
            · simp at h
            · split at h
              · simp at h
              · rw [ih _ _ h, foldl_set_size]
        have := hlen _ _ _ _ f1
        simpa using this
      have hones : ∀ u, u ∈ vs' → one u = true := by
        intro u hu
        obtain ⟨c, hc, hrc⟩ := hdr.memR u hu
        cases c with
        | val x =>
          have hsrc : XC.d (.val x) ∈ r := by
            have hmem : ∀ (cs : List XC) (ds : List XD), datL cs = some ds → ∀ d, d ∈ ds → XC.d d ∈ cs := by
              intro cs
              induction cs with
              | nil => intro ds h; simp only [datL, Option.some.injEq] at h; subst h; simp
              | cons c cs ih =>
                intro ds h d hd
                unfold datL at h
                split at h
                · rename_i heq; simp at heq
                · rename_i x l' heq
                  simp only [List.cons.injEq] at heq
                  obtain ⟨rfl, rfl⟩ := heq
                  simp only [Option.map_eq_some_iff] at h
                  obtain ⟨r', hr', rfl⟩ := h
                  rcases List.mem_cons.1 hd with rfl | hd
                  · exact List.mem_cons_self ..
                  · exact List.mem_cons_of_mem _ (ih r' hr' d hd)
                · simp at h
            exact hmem r ds hds _ hc
          have h1 : oneC (.d (.val x)) = true := by
            have hall : ∀ (ps : List (Nat × XV)) (pl : Nat → Option (Nat × Nat)) (c c' : List XC) (φ : Prop), (∀ z, z ∈ c → oneC z = true) → fillX pl c ps = some (φ, c') → ∀ z, z ∈ c' → oneC z = true := by
              intro ps
              induction ps with
              | nil => intro pl c c' φ hc h; simp only [fillX, Option.some.injEq, Prod.mk.injEq] at h; obtain ⟨_, rfl⟩ := h; exact hc
              | cons p ps ih =>
                intro pl c c' φ hc h
                obtain ⟨i, q⟩ := p
                simp only [fillX, Option.bind_eq_some_iff] at h
                obtain ⟨⟨oo, mm⟩, _, cs, hcs, h⟩ := h
                split at h
                · rename_i hone1
                  simp only [Option.map_eq_some_iff, Prod.mk.injEq] at h
                  obtain ⟨⟨ψ', r'⟩, hr', _, rfl⟩ := h
                  refine ih _ _ _ _ ?_ hr'
                  have hcs1 : ∀ z, z ∈ cs → oneC z = true := by
                    unfold cellsV at hcs
                    split at hcs
                    · simp only [Option.some.injEq] at hcs; subst hcs
                      intro z hz; rw [List.mem_singleton] at hz; subst hz; exact hone1
                    · simp only [Option.some.injEq] at hcs; subst hcs
                      exact fun z hz => List.all_eq_true.1 hone1 z hz
                    · simp at hcs
                  have hset : ∀ (cs l : List XC) (o : Nat), (∀ z, z ∈ l → oneC z = true) → (∀ z, z ∈ cs → oneC z = true) → ∀ z, z ∈ setCells l o cs → oneC z = true := by
                    intro cs
                    induction cs with
                    | nil => exact fun l o hl _ => hl
                    | cons u cs ih =>
                      intro l o hl hc
                      refine ih _ _ (fun c hm => ?_) (fun c hm => hc c (List.mem_cons_of_mem _ hm))
                      rcases List.mem_or_eq_of_mem_set hm with h | rfl
                      · exact hl c h
                      · exact hc _ (List.mem_cons_self ..)
                  exact hset cs c oo hc hcs1
                · simp at h
            refine hall _ _ _ _ _ (fun z hz => ?_) hr _ hsrc
            simp only [cellsN, List.mem_map, List.mem_range] at hz
            obtain ⟨j, hj, rfl⟩ := hz
            have hm : j % k < zs.length := by rw [hzk]; exact Nat.mod_lt _ (by omega)
            rw [List.getD_eq_getElem?_getD, List.getElem?_eq_getElem hm, Option.getD_some]
            exact List.all_eq_true.1 hone _ (List.getElem_mem _)
          rw [show u = x from hrc]; exact h1
        | any => exact hrc
        | ros k n g => obtain ⟨a, cap, rfl, _⟩ := hrc; rfl
        | rop k g => obtain ⟨b, o, rfl, _⟩ := hrc; rfl
      have hg : GoodB (γ.put hp.length w.heap.size 0 len) (w.alloc (.cells vs'.toArray e)) hp.length (.row k len (rowOf k ds) e) := by
        refine ⟨by rw [Gh.put_cap]; omega, .inr ⟨vs'.toArray, (0, 0), ?_, by simp, by rw [Gh.put_off, Gh.put_cap]; simp [hrl], fun q hq => ?_, fun i hi c hck => ?_⟩⟩
        · rw [Gh.put_blk]
          show (w.heap.push _)[w.heap.size]? = _
          simp
        · simp only [List.size_toArray] at hq
          exact ⟨vs'[q], by simp [hq], hones _ (List.getElem_mem _)⟩
        · have hj : i * k + c < len * k := by
            have : (i + 1) * k ≤ len * k := Nat.mul_le_mul_right _ hi
            rw [Nat.add_mul, Nat.one_mul] at this
            omega
          have hfl := f2.length
          have hd : ds[i * k + c]? = some (ds[i * k + c]'(by omega)) := List.getElem?_eq_getElem (by omega)
          obtain ⟨u, hu, hru⟩ := hdr.get _ _ hd
          refine ⟨u, by rw [Gh.put_off]; simpa using hu, ?_⟩
          have : rowOf k ds i c = ds[i * k + c]'(by omega) := by
            simp only [rowOf, List.getD_eq_getElem?_getD, hd, Option.getD_some]
          rw [this]
          exact RepD.mono (fun _ h => h) hro0 _ _ hru
      obtain ⟨e1, e2⟩ := inv_alloc (cap := len) hI hg (fun l T' e => by simp at e)
      refine ⟨_, .slice (some ⟨w.heap.size, 0, none⟩) len len, _, _, ?_, .inl rfl, e1, ?_, γ.put_ext _ _ _ _, e2, by show _ < _; simp, by simp, (γ.put_ext _ _ _ _).mono (by simp)⟩
      · have hsz : ¬ (len * k > 2 ^ 24) := by omega
        by_cases hlk : len * k = 0
        · have hvn : vs' = [] := List.length_eq_zero_iff.1 (by rw [hrl, hlk])
          subst hvn
          have hf0 : Instr.fill (fun i => some (i * k, k)) (#[] : Array Value) (parts.toList.map fun p => (p.1, a.eval p.2)) = some #[] := by
            rw [← f1, hlk]; rfl
          obtain rfl : len = 0 := by
            rcases Nat.mul_eq_zero.1 hlk with h | h
            · exact h
            · omega
          have hr0 : Array.map (fun x => (default : Value)) (Array.range 0) = #[] := by rw [Array.range_zero']; simp
          simp [Instr.buildSlice, run_underlying' (elemSl_some he), run_sizeOf hk, newRow, hf0, hr0]
        · simp only [Instr.buildSlice, Sem.run_bind, run_underlying' (elemSl_some he), Result.andThen_ok, run_sizeOf hk, if_neg hsz, Sem.run_pure, Sem.run_ite, if_neg hlk, hv]
          have harr : (Array.range (len * k)).map (fun x => v.cells[x % v.cells.size]!) = List.toArray ((List.range (len * k)).map fun i => vs.getD (i % k) default) := by
            apply Array.toList_inj.1
            rw [Array.toList_map, Array.toList_range]
            refine List.map_congr_left fun i _ => ?_
            rw [hvs, List.size_toArray, ← hvl, hzk]
            simp [List.getD_eq_getElem?_getD, getElem!_def]
            cases vs[i % k]? <;> rfl
          rw [harr]
          simp only [Array.toList_map, f1, newRow, Sem.run_bind, run_newObj_alloc, Result.andThen_ok, Sem.run_pure]
      · refine ⟨_, len, rfl, by omega, .inr ⟨by rw [Gh.put_blk, Gh.put_off]; simp, by rw [Gh.put_cap]; omega⟩⟩
  · simp at h
end Go.SX
