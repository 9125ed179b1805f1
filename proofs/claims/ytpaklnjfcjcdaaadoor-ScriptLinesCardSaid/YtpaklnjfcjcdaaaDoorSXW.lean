/- SX: a reading of the arguments as data; the end of a law that leaves its arguments alone. Own work. -/
import Derived.Test.YtpaklnjfcjcdaaaDoorSXV
import Derived.Carry
import Derived.ChangeArms
import Derived.ChangeSame
import Derived.OpenShut
namespace Go.SX
set_option linter.unusedVariables false
set_option linter.unusedSimpArgs false
abbrev roW (w : World) : Nat → Prop := fun b => b < w.heap.size
theorem all2_length {α β : Type} {R : α → β → Prop} {l : List α} {m : List β} (h : All2 R l m) : l.length = m.length := by
  induction h with
  | nil => rfl
  | cons _ _ ih => simp [ih]
theorem all2_append {α β : Type} {R : α → β → Prop} {l l' : List α} {m m' : List β} (h : All2 R l m) (h' : All2 R l' m') : All2 R (l ++ l') (m ++ m') := by
  induction h with
  | nil => exact h'
  | cons a _ ih => exact .cons a ih
theorem all2_getD {α β : Type} {R : α → β → Prop} {l : List α} {m : List β} (h : All2 R l m) (d : α) : ∀ i v, m[i]? = some v → R (l.getD i d) v := by
  induction h with
  | nil => intro i v hv; simp at hv
  | cons a _ ih =>
    intro i v hv
    cases i with
    | zero => simp at hv; subst hv; exact a
    | succ i => simpa using ih i v (by simpa using hv)
section
variable {H : Type} (enc : TypeId × Value → H) (P : Program) (w : World)
/-- the cells of a type that are read are data -/
def Rd {α : Type} (t : TypeId) (e : α → List XD) (ok : α → Prop) : Prop :=
  ∀ fuel cs d ps, DataW.trod enc P w 0 (fun _ => true) true fuel t cs = some (d, ps) → (∀ x, x ∈ d.weights P t → x ≤ reachBytes) → ∃ a, All2 (RepD (roW w) w) (e a) cs ∧ ok a
def RdF {α : Type} (L off : Nat) (fs : List Field) (e : α → List XD) (ok : α → Prop) : Prop :=
  ∀ (n : Nat) (cs : List Value) (xs : List (DataW H × List MemPlace)), cs.length = L → xs.length = fs.length → (∀ (i : Nat) (f : Field), fs[i]? = some f → DataW.trod enc P w 0 (fun _ => true) true n f.type ((cs.drop f.offset).take (P.cellsOf f.type)) = xs[i]?) →
    (∀ x, x ∈ DataW.weightsEach P (fs.map (·.type)) (xs.map (·.1)) → x ≤ reachBytes) → ∃ a, All2 (RepD (roW w) w) (e a) (cs.drop off) ∧ ok a
variable {enc P w}
theorem Rd.map {α β : Type} {t : TypeId} {e : α → List XD} {ok : α → Prop} {e' : β → List XD} {ok' : β → Prop} (h : Rd enc P w t e ok) (g : α → β) (he : ∀ a, e' (g a) = e a) (hok : ∀ a, ok a → ok' (g a)) : Rd enc P w t e' ok' := by
  intro fuel cs d ps hd hw
  obtain ⟨a, ha, hb⟩ := h fuel cs d ps hd hw
  exact ⟨g a, by rw [he]; exact ha, hok a hb⟩
theorem rd_int {t : TypeId} (ht : P.underlying t = some (.int .i64)) : Rd enc P w t (fun n : Int => [.val (.int .i64 n)]) (fun n => -9223372036854775808 ≤ n ∧ n ≤ 9223372036854775807) := by
  intro fuel cs d ps hd hw
  obtain ⟨n, rfl, hx, hwf⟩ := DataW.trod_int ht hd
  refine ⟨n, .cons rfl .nil, ?_⟩
  simpa [Lit.wf, IntKind.min, IntKind.max, IntKind.signed, IntKind.bits] using hwf
theorem rd_bool {t : TypeId} (ht : P.underlying t = some .bool) : Rd enc P w t (fun n : Bool => [.val (.bool n)]) (fun _ => True) := by
  intro fuel cs d ps hd hw
  obtain ⟨n, rfl, hx⟩ := DataW.trod_bool ht hd
  exact ⟨n, .cons rfl .nil, trivial⟩
theorem rd_str {t : TypeId} (ht : P.underlying t = some .string) : Rd enc P w t (fun s : ByteArray => [.val (.string s)]) (fun s => s.size ≤ reachBytes) := by
  intro fuel cs d ps hd hw
  obtain ⟨s, rfl, hx, _⟩ := DataW.trod_string ht hd
  simp only [Prod.mk.injEq] at hx
  obtain ⟨rfl, _⟩ := hx
  refine ⟨s, .cons rfl .nil, ?_⟩
  simpa [DataW.weights] using hw
theorem rdF_nil {L off : Nat} (h : L ≤ off) : RdF enc P w L off [] (fun _ : Unit => []) (fun _ => True) := by
  intro n cs xs hl _ _ _
  refine ⟨(), ?_, trivial⟩
  rw [List.drop_eq_nil_of_le (by omega)]
  exact .nil
theorem rdF_cons {α β : Type} {L off k : Nat} {f : Field} {fs : List Field} {e1 : α → List XD} {ok1 : α → Prop} {e2 : β → List XD} {ok2 : β → Prop} (h1 : Rd enc P w f.type e1 ok1) (ho : f.offset = off) (hk : P.cellsOf f.type = k) (h2 : RdF enc P w L (off + k) fs e2 ok2) :
    RdF enc P w L off (f :: fs) (fun a : α × β => e1 a.1 ++ e2 a.2) (fun a => ok1 a.1 ∧ ok2 a.2) := by
  intro n cs xs hl hx hi hw
  match xs, hx with
  | y :: ys, hx =>
    have h0 := hi 0 f rfl
    simp only [List.getElem?_cons_zero] at h0
    obtain ⟨a1, ha1, hok1⟩ := h1 n _ y.1 y.2 h0 (fun x hx' => hw x (by simp [DataW.weightsEach, hx']))
    obtain ⟨a2, ha2, hok2⟩ := h2 n cs ys hl (by simpa using hx) (fun i f' hf' => by simpa using hi (i + 1) f' (by simpa using hf')) (fun x hx' => hw x (by simp only [List.map_cons, DataW.weightsEach, List.mem_append]; exact .inr hx'))
    refine ⟨(a1, a2), ?_, hok1, hok2⟩
    have e : cs.drop off = (cs.drop off).take k ++ cs.drop (off + k) := by rw [← List.drop_drop, List.take_append_drop]
    rw [e]
    rw [ho, hk] at ha1
    exact all2_append ha1 ha2
theorem rd_struct {α : Type} {t : TypeId} {fs : Array Field} {L : Nat} {e : α → List XD} {ok : α → Prop} (ht : P.underlying t = some (.struct fs)) (hL : P.cellsOf t = L) (h : RdF enc P w L 0 fs.toList e ok) : Rd enc P w t e ok := by
  intro fuel cs d ps hd hw
  obtain ⟨xs, n, _, hx, hl, hlen, hf⟩ := DataW.trod_struct ht hd
  simp only [Prod.mk.injEq] at hx
  obtain ⟨rfl, _⟩ := hx
  simp only [DataW.weights, ht] at hw
  simpa using h n cs xs (hl.trans hL) (by simpa using hlen) (fun i f hi => hf i f (by simpa using hi)) hw
theorem weightsAll_mem {t : TypeId} : ∀ (l : List (DataW H)) (d : DataW H), d ∈ l → ∀ x, x ∈ d.weights P t → x ∈ DataW.weightsAll P t l
  | a :: l, d, h, x, hx => by
    simp only [DataW.weightsAll, List.mem_append]
    rcases List.mem_cons.1 h with rfl | h
    · exact .inl hx
    · exact .inr (weightsAll_mem l d h x hx)
theorem cell_spot {a : Addr} {m c : Nat} {u : Value} (h : w.cell? ((a.add m).add c) = some u) : w.cell? ⟨a.block, a.off + (m + c), none⟩ = some u := by
  obtain ⟨b, o, s⟩ := a
  by_cases h1 : c = 0 <;> by_cases h2 : m = 0
  · subst h1; subst h2
    simp only [Addr.add, if_true, World.cell?] at h ⊢
    split at h
    · split at h
      · cases h
      · simpa using h
    · cases h
  · subst h1
    simpa [Addr.add, h2] using h
  · subst h2
    simpa [Addr.add, h1] using h
  · simpa [Addr.add, h1, h2, Nat.add_assoc] using h
theorem cell_none {a : Addr} {u : Value} (h : w.cell? a = some u) : a = ⟨a.block, a.off, none⟩ ∧ a.block < w.heap.size := by
  obtain ⟨b, o, s⟩ := a
  simp only [World.cell?] at h
  split at h
  · rename_i c t f hb
    split at h
    · simp at h
    · rename_i hs
      refine ⟨?_, ?_⟩
      · simp at hs; subst hs; rfl
      · by_cases hlt : b < w.heap.size
        · exact hlt
        · rw [Array.getElem?_eq_none (by omega)] at hb; cases hb
  · simp at h
theorem rd_slice {α : Type} [Inhabited α] {t te : TypeId} {k m : Nat} {e : α → List XD} {ok : α → Prop} (h : Rd enc P w te e ok) (ht : P.underlying t = some (.slice te)) (hk : P.cellsOf te = k) (hk0 : 0 < k) (hm : P.bytesOf te = m) :
    Rd enc P w t (fun l : List α => [.ros k l.length (rowG e l)]) (fun l => l.length * m ≤ reachBytes ∧ ∀ i, i < l.length → ok (l.getD i default)) := by
  intro fuel cs d ps hd hw
  rcases DataW.trod_slice ht hd with ⟨rfl, hx⟩ | ⟨a, len, cap, elems, rest, n, _, rfl, hx, _, hlc, _, hlen, hel, hsp, _⟩
  · exact ⟨[], .cons ⟨none, 0, rfl, Nat.le_refl _, fun i hi => absurd hi (Nat.not_lt_zero _)⟩ .nil, by simp, fun i hi => absurd hi (Nat.not_lt_zero _)⟩
  · simp only [Prod.mk.injEq] at hx
    obtain ⟨rfl, _⟩ := hx
    simp only [DataW.weights, ht] at hw
    have hall : ∀ i : Fin len, ∃ (x : α) (cl : List Value), w.cells? 0 (a.add (i.1 * k)) k = some cl ∧ All2 (RepD (roW w) w) (e x) cl ∧ ok x := by
      intro i
      have hi := hel i.1 i.2
      rw [hk] at hi
      have hi' : i.1 < elems.length := by rw [hlen]; exact i.2
      rw [List.getElem?_eq_getElem hi', Option.bind_eq_some_iff] at hi
      obtain ⟨cl, h1, h2⟩ := hi
      obtain ⟨x, hx1, hx2⟩ := h n cl (elems[i.1]).1 (elems[i.1]).2 h2 (fun y hy => hw y (by
        simp only [List.mem_cons, List.mem_append]
        exact .inr (.inl (weightsAll_mem _ _ (List.mem_map_of_mem (List.getElem_mem hi')) y hy))))
      exact ⟨x, cl, h1, hx1, hx2⟩
    let f : Fin len → α := fun i => (hall i).choose
    have hf : ∀ i : Fin len, ∃ cl, w.cells? 0 (a.add (i.1 * k)) k = some cl ∧ All2 (RepD (roW w) w) (e (f i)) cl ∧ ok (f i) := fun i => (hall i).choose_spec
    have hg : ∀ i (hi : i < len), (List.ofFn f).getD i default = f ⟨i, hi⟩ := by
      intro i hi
      rw [List.getD_eq_getElem?_getD, List.getElem?_eq_getElem (by simpa using hi)]
      simp
    have hcell : ∀ i (hi : i < len), ∀ c, c < k → ∃ u, w.cell? ((a.add (i * k)).add c) = some u ∧ RepD (roW w) w ((e (f ⟨i, hi⟩)).getD c .any) u := by
      intro i hi c hc
      obtain ⟨cl, h1, h2, _⟩ := hf ⟨i, hi⟩
      simp only [World.cells?, Nat.zero_le, if_true] at h1
      have hl := mapM_some_length h1
      have := mapM_some_get h1 c c (by simp [hc])
      have hc' : c < cl.length := by rw [hl]; simpa using hc
      rw [List.getElem?_eq_getElem hc'] at this
      exact ⟨_, this, all2_getD h2 .any c _ (List.getElem?_eq_getElem hc')⟩
    refine ⟨List.ofFn f, .cons ⟨some a, cap, by simp, by simpa using hlc, ?_⟩ .nil, ?_, ?_⟩
    · intro i hi
      have hi : i < len := by simpa using hi
      obtain ⟨u0, h0, _⟩ := hcell 0 (by omega) 0 hk0
      have ha : (a.add (0 * k)).add 0 = a := by simp [Addr.add]
      rw [ha] at h0
      obtain ⟨hna, hlt⟩ := cell_none h0
      refine ⟨a.block, a.off, by rw [← hna], hlt, fun c hc => ?_⟩
      obtain ⟨u, h1, h2⟩ := hcell i hi c hc
      refine ⟨u, cell_spot h1, ?_⟩
      simp only [rowG]
      rw [hg i hi]
      exact h2
    · have := hw ((elems.map (·.1)).length + (rest.map (·.1)).length |> (· * P.bytesOf te)) (by simp)
      rw [hm] at this
      simp only [List.length_map, hlen] at this
      simp only [List.length_ofFn]
      exact Nat.le_trans (Nat.mul_le_mul_right m (Nat.le_add_right _ _)) this
    · intro i hi
      have hi : i < len := by simpa using hi
      rw [hg i hi]
      obtain ⟨_, _, _, h3⟩ := hf ⟨i, hi⟩
      exact h3
theorem rd_arr3 {t te : TypeId} (ht : P.underlying t = some (.array 3 te)) (hte : P.underlying te = some (.int .i64)) (hk : P.cellsOf te = 1) (hk3 : P.cellsOf t = 3) :
    Rd enc P w t (fun n : Int × Int × Int => [.val (.int .i64 n.1), .val (.int .i64 n.2.1), .val (.int .i64 n.2.2)]) (fun n => (-9223372036854775808 ≤ n.1 ∧ n.1 ≤ 9223372036854775807) ∧ (-9223372036854775808 ≤ n.2.1 ∧ n.2.1 ≤ 9223372036854775807) ∧ (-9223372036854775808 ≤ n.2.2 ∧ n.2.2 ≤ 9223372036854775807)) := by
  intro fuel cs d ps hd hw
  obtain ⟨xs, n, _, hx, hl, hlen, hf⟩ := DataW.trod_array ht hd
  rw [hk3] at hl
  match cs, hl with
  | [c0, c1, c2], _ =>
    have h0 := hf 0 (by omega)
    have h1 := hf 1 (by omega)
    have h2 := hf 2 (by omega)
    rw [hk] at h0 h1 h2
    simp only [Nat.zero_mul, Nat.one_mul, Nat.mul_one, List.drop_zero, List.drop_succ_cons, List.take_succ_cons, List.take_zero] at h0 h1 h2
    rw [List.getElem?_eq_getElem (by omega)] at h0 h1 h2
    obtain ⟨a0, e0, _, w0⟩ := DataW.trod_int hte h0
    obtain ⟨a1, e1, _, w1⟩ := DataW.trod_int hte h1
    obtain ⟨a2, e2, _, w2⟩ := DataW.trod_int hte h2
    simp only [List.cons.injEq, and_true] at e0 e1 e2
    subst e0; subst e1; subst e2
    refine ⟨(a0, a1, a2), .cons rfl (.cons rfl (.cons rfl .nil)), ?_, ?_, ?_⟩
    · simpa [Lit.wf, IntKind.min, IntKind.max, IntKind.signed, IntKind.bits] using w0
    · simpa [Lit.wf, IntKind.min, IntKind.max, IntKind.signed, IntKind.bits] using w1
    · simpa [Lit.wf, IntKind.min, IntKind.max, IntKind.signed, IntKind.bits] using w2
end
/-- the invariant where a call from outside begins -/
theorem inv_begin (P : Program) (W : World) (γ : Gh) (hro : γ.ro = roW W) : Inv (cxM P W (roW W) γ [] []) γ W [] := by
  refine ⟨?_, ?_, ?_, ?_, ?_, ?_, ?_, ?_, ?_, ?_, ?_⟩
  · intro b xb h; simp at h
  · intro b b' xb xb' h; simp at h
  · intro b xb h; simp at h
  · intro b h
    rw [hro] at h
    exact ⟨h, fun _ => no_fp P W _ γ [] b⟩
  · intro b h
    rw [hro]
    exact h
  · intro b h
    rw [hro] at h
    exact .inl h
  · intro b l T h; simp at h
  · exact ⟨rfl, rfl, rfl, Nat.le_refl _, fun _ _ _ => rfl⟩
  · exact Nat.le_refl _
  · intro b h
    exact h.1
  · intro b h
    exact absurd h.1 (Nat.not_lt_zero _)
def ghW (W : World) : Gh := ⟨fun _ => 0, fun _ => 0, fun _ => 0, roW W⟩
theorem more_below {W W' : World} (h : More W W') : Go.RowKit.Below W.heap.size W W' := ⟨h.os, h.tape, h.output, h.size, fun k hk => h.block k hk⟩
theorem more_kept {W W' : World} (h : More W W') (may : MemPlace → Prop) : W.keptBut W' may := by
  refine ⟨h.os, h.output, fun i hi => ?_⟩
  rw [h.block i hi]
  split
  · rename_i h1 h2
    rw [h1] at h2
    simp only [Option.some.injEq, Obj.cells.injEq] at h2
    obtain ⟨rfl, rfl, rfl⟩ := h2
    exact ⟨rfl, rfl, rfl, fun _ _ => rfl⟩
  · rename_i h1 h2
    rw [h1] at h2
    simp only [Option.some.injEq, Obj.map.injEq] at h2
    exact .inr ⟨h2.1.symm, h2.2.symm⟩
  · rfl
theorem frozen_more {W W' : World} (h : More W W') (a : Addr) (ha : a.block < W.heap.size) : W'.frozen? a = W.frozen? a := by
  unfold World.frozen?
  rw [h.block _ ha]
/-- arguments behind the call -/
def ArgOk (P : Program) (ts : List TypeId) : Prop := ∀ t, t ∈ ts → P.readableRec t = true ∧ t < P.types.size
theorem args_more {H : Type} {enc : TypeId × Value → H} {P : Program} {W W' : World} (hl : laidOutB P = true) (hm : More W W') (sp : Nat → Bool) : ∀ {ts : List TypeId} {vs : List Value} {ds : List (DataW H)} {ps : List MemPlace}, ArgOk P ts → DataW.TrodAll enc P W 0 (fun _ => true) true ts vs ds ps →
    (∀ x ∈ ps, x.block < W.heap.size ∧ sp x.block = true) → DataW.TrodAll enc P W' 0 sp true ts vs ds ps
  | [], [], [], ps, _, h, _ => h
  | t :: ts, v :: vs, d :: ds, ps, ho, h, hlt => by
    obtain ⟨p, q, h1, h2, rfl⟩ := h
    exact ⟨p, q, WideElems.Trod_stays hl (ho t (by simp)).1 (ho t (by simp)).2 h1 (fun x hx => (more_below hm).same (hlt x (by simp [hx])).1) (fun x hx => (hlt x (by simp [hx])).2),
      args_more hl hm sp (fun t ht => ho t (by simp [ht])) h2 (fun x hx => hlt x (by simp [hx])), rfl⟩
  | [], _ :: _, _, _, _, h, _ => h.elim
  | [], [], _ :: _, _, _, h, _ => h.elim
  | _ :: _, [], _, _, _, h, _ => h.elim
  | _ :: _, _ :: _, [], _, _, h, _ => h.elim
/-- the end of a law: true, and all as it was -/
theorem law_post {H : Type} {enc : TypeId × Value → H} {P : Program} {f : Func} {s : ChangeSpec} {apart fresh handsOn again : Bool} {W W' : World} {args : Array Value} {ds : List (DataW H)} {before : List MemPlace} {tb : TypeId}
    (hv : s.vars = []) (hs : s.fn H ds = { results := [.lit (.bool true)], args := ds }) (hres : f.resultTypes = #[tb]) (htb : P.underlying tb = some .bool) (hl : laidOutB P = true) (ho : ArgOk P f.params.toList)
    (hW : DataW.Whole enc P f.params.toList s.vars apart W args.toList ds [] before) (hm : More W W') : s.post enc P f apart fresh handsOn again W args (.bool true) W' := by
  have hlt : ∀ x ∈ before, x.block < W.heap.size := fun x hx => by simpa using hW.lt x hx
  have hW0 := hW
  obtain ⟨p, q, hA, hV, hpq, hz, hn⟩ := hW
  rw [hv] at hV
  obtain ⟨_, rfl⟩ := ChangeShapes.trodVars_none hV
  obtain rfl : before = p := by rw [hpq]; simp
  have hargs : ∀ sp : Nat → Bool, (∀ x ∈ before, sp x.block = true) → DataW.TrodAll enc P W' 0 sp true f.params.toList args.toList ds before := fun sp hsp => args_more hl hm sp ho hA (fun x hx => ⟨hlt x hx, hsp x hx⟩)
  have hr : ∀ (b : Nat) (sp : Nat → Bool) (hd : Bool), DataW.TrodAll enc P W' b sp hd f.resultTypes.toList ((Value.bool true).resultList f.resultTypes.size) [.lit (.bool true)] [] := by
    intro b sp hd
    rw [hres]
    exact ⟨[], [], Go.RowKit.shut_bool htb true, rfl, rfl⟩
  refine ⟨ds, [], before, [], before, [], hW0, ?_, ?_, ?_, more_kept hm _, fun _ => ?_⟩
  · rw [List.append_nil, hs]
    exact hr _ _ _
  · rw [List.append_nil, hs]
    exact hargs _ (fun x hx => by simpa using hlt x hx)
  · rw [hv, List.append_nil, hs]
    exact rfl
  · refine ⟨Go.RowKit.ok_one hres rfl (Go.RowKit.okWide_bool_mk htb _), [.lit (.bool true)] ++ ds, [], before, ⟨[] ++ before, [], ChangeShapes.trodAll_append (hargs _ (fun _ _ => rfl)) (hr _ _ _), ?_, by simp, ?_, hn⟩, fun x hx _ => hx⟩
    · rw [hv]; exact rfl
    · intro b off hp
      rw [frozen_more hm _ (hlt _ hp)]
      exact hz b off hp
end Go.SX
