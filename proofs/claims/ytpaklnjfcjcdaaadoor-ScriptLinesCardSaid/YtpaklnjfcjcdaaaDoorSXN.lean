/- SX: append, its effect. Own work. -/
import Derived.Test.YtpaklnjfcjcdaaaDoorSXM
namespace Go.SX
set_option linter.unusedVariables false
set_option linter.unusedSimpArgs false

def appG (n : Nat) (g g' : Nat → Nat → XD) : Nat → Nat → XD := fun i c => if i < n then g i c else g' (i - n) c
/-- append(s, x): s nil or a named row's first elements -/
def appX (X : Cx) (hp : List XB) (t tx : TypeId) (s x : XV) : Option (Prop × XV × List XB × List Nat) :=
  (elemSl X.P t).bind fun e => (szT X.P e).bind fun k => (bytesT X.P e).bind fun by' => (zerT X.P e).bind fun zs => (srcX X.P hp tx k x).bind fun r =>
    match s with
    | .c (.d (.val (.slice none 0 0))) => some (r.1 ∧ 0 < k ∧ 0 < by' ∧ zs.length = k ∧ zs.all one = true ∧ r.2.1 * by' ≤ 140737488355328, .c (.slc hp.length k 0 r.2.1), hp ++ [.row k r.2.1 r.2.2 e], [])
    | .c (.slc b k1 i n) =>
      match hp[b]? with
      | some (.row k2 n2 g T) => some (r.1 ∧ 0 < k ∧ 0 < by' ∧ zs.length = k ∧ zs.all one = true ∧ (n + r.2.1) * by' ≤ 140737488355328 ∧ k1 = k ∧ k2 = k ∧ i = 0 ∧ n ≤ n2 ∧ T = e ∧ okH [b] hp ∧ ¬ X.kn b,
          .c (.slc b k 0 (n + r.2.1)), (hp.map (killB [b])).set b (.row k (n + r.2.1) (appG n g r.2.2) e), [b])
      | _ => none
    | _ => none

theorem run_append_in {P : Program} {w w' : World} {t tx ty e : TypeId} {i : TypeInfo} (ht : P.underlying t = some (.slice e)) (hi : P.info? e = some i) {b off sLen sCap : Nat} {x : Value} {n : Nat} {news : List Value} (hs : Src P i.size tx x n news w)
    (hroom : sLen + n ≤ sCap) (hst : (storeCells ⟨b, off + sLen * i.size, none⟩ news 0).run P w = .ok () w') :
    (Builtin.append_ #[t, tx] ty #[.slice (some ⟨b, off, none⟩) sLen sCap, x]).run P w = .ok (.slice (some ⟨b, off, none⟩) (sLen + n) sCap) w' := by
  rcases hs.kind with ⟨e', hk⟩ | hk <;> simp [Builtin.append_, run_underlying ht, run_underlying hk, sizeOf, typeInfo, hi, hs.len, hroom, hs.cells, Addr.add_lit, hst]
theorem run_append_in0 {P : Program} {w : World} {t tx ty e : TypeId} {i : TypeInfo} (ht : P.underlying t = some (.slice e)) (hi : P.info? e = some i) {base : Option Addr} {sLen sCap : Nat} {x : Value} {n : Nat} (hs : Src P i.size tx x n [] w) (hroom : sLen + n ≤ sCap) :
    (Builtin.append_ #[t, tx] ty #[.slice base sLen sCap, x]).run P w = .ok (.slice base (sLen + n) sCap) w := by
  cases base <;> rcases hs.kind with ⟨e', hk⟩ | hk <;> simp [Builtin.append_, run_underlying ht, run_underlying hk, sizeOf, typeInfo, hi, hs.len, hroom, hs.cells, Addr.add_lit, storeCells]

theorem all2_split {k n m : Nat} {R : XD → Value → Prop} {olds news : List Value} {g g' : Nat → Nat → XD} (hl : olds.length = n * k) (h1 : ∀ j, j < n → ∀ c, c < k → ∃ u, olds[j * k + c]? = some u ∧ R (g j c) u)
    (h2 : ∀ j, j < m → ∀ c, c < k → ∃ u, news[j * k + c]? = some u ∧ R (g' j c) u) : ∀ j, j < n + m → ∀ c, c < k → ∃ u, (olds ++ news)[j * k + c]? = some u ∧ R (appG n g g' j c) u := by
  intro j hj c hc
  unfold appG
  split
  · rename_i hjn
    obtain ⟨u, hu, hr⟩ := h1 j hjn c hc
    have : j * k + c < olds.length := (List.getElem?_eq_some_iff.1 hu).1
    exact ⟨u, by rw [List.getElem?_append_left this]; exact hu, hr⟩
  · rename_i hjn
    obtain ⟨u, hu, hr⟩ := h2 (j - n) (by omega) c hc
    have hge : n * k ≤ j * k := Nat.mul_le_mul_right _ (by omega)
    refine ⟨u, ?_, hr⟩
    rw [List.getElem?_append_right (by omega), hl]
    rw [show j * k + c - n * k = (j - n) * k + c from by rw [Nat.sub_mul]; omega]
    exact hu

theorem info_of {P : Program} {e k by' : Nat} {zs : List Value} (h1 : szT P e = some k) (h2 : bytesT P e = some by') (h3 : zerT P e = some zs) : ∃ i z, P.info? e = some i ∧ i.size = k ∧ i.bytes = by' ∧ i.zero = some z ∧ z.cells.toList = zs := by
  unfold szT at h1
  rw [Option.map_eq_some_iff] at h1
  obtain ⟨i, hi, rfl⟩ := h1
  unfold bytesT at h2
  rw [hi] at h2
  simp only [Option.map_some, Option.some.injEq] at h2
  unfold zerT at h3
  rw [hi] at h3
  simp only [Option.bind_some, Option.map_eq_some_iff] at h3
  obtain ⟨z, hz, rfl⟩ := h3
  exact ⟨i, z, hi, rfl, h2, hz, rfl⟩
theorem one_default : one (default : Value) = true ∨ True := .inr trivial
theorem zeroCells_one {z : Value} {k n : Nat} (hk : 0 < k) (hl : z.cells.toList.length = k) (h1 : z.cells.toList.all one = true) : ∀ u, u ∈ (Builtin.zeroCells z.cells n).toList → one u = true := by
  intro u hu
  simp only [Builtin.zeroCells, Array.toList_map, List.mem_map] at hu
  obtain ⟨q, _, rfl⟩ := hu
  have hlt : q % z.cells.size < z.cells.size := Nat.mod_lt _ (by simpa using (hl ▸ hk : 0 < z.cells.toList.length))
  rw [getElem!_pos z.cells _ hlt]
  exact List.all_eq_true.1 h1 _ (by simp)

/-- A row that a growing append has made. -/
theorem good_grown {γ : Gh} {w w' : World} {b cap k len : Nat} {g : Nat → Nat → XD} {e : TypeId} {vals : List Value} {zc : Array Value} (hheap : w'.heap[w.heap.size]? = some (.cells (vals.toArray ++ zc) e (0, 0))) (hcap : len ≤ cap) (hsz : vals.length = len * k) (hzs : zc.size = (cap - len) * k)
    (h1 : ∀ u, u ∈ vals → one u = true) (h2 : ∀ u, u ∈ zc.toList → one u = true) (hv : ∀ j, j < len → ∀ c, c < k → ∃ u, vals[j * k + c]? = some u ∧ RepD γ.ro w' (g j c) u) :
    GoodB (γ.put b w.heap.size 0 cap) w' b (.row k len g e) := by
  refine ⟨by rw [Gh.put_cap]; exact hcap, .inr ⟨_, _, by rw [Gh.put_blk]; exact hheap, by simp, ?_, fun q hq => ?_, fun i hi c hc => ?_⟩⟩
  · rw [Gh.put_off, Gh.put_cap]
    simp only [Array.size_append, List.size_toArray, hsz, hzs, ← Nat.add_mul]
    rw [show len + (cap - len) = cap from by omega]
    omega
  · have hq' : q < (vals.toArray ++ zc).size := hq
    refine ⟨(vals.toArray ++ zc)[q], Array.getElem?_eq_getElem hq', ?_⟩
    rcases Array.mem_append.1 (Array.getElem_mem hq') with h | h
    · exact h1 _ (by simpa using h)
    · exact h2 _ (by simpa using h)
  · obtain ⟨u, hu, hr⟩ := hv i hi c hc
    refine ⟨u, ?_, hr⟩
    rw [Gh.put_off, Nat.zero_add]
    have hlt : i * k + c < vals.length := (List.getElem?_eq_some_iff.1 hu).1
    rw [Array.getElem?_append_left (by simpa using hlt)]
    simpa using hu
theorem inv_same {X : Cx} {γ : Gh} {w w' : World} {hp : List XB} (hI : Inv X γ w hp) (hh : w'.heap = w.heap) (hos : w'.os = w.os) (hta : w'.tape = w.tape) (hou : w'.output = w.output) : Inv X γ w' hp :=
  ⟨fun b xb hb => GoodB.mono (S := []) (Gh.Ext.refl _ _) (fun _ _ => by rw [hh]) (by simp) (fun _ => by rw [hh]) (fun _ _ _ x _ => XC.free_nil x) (hI.good b xb hb), hI.inj, fun b xb hb hs => by rw [hh]; exact hI.own b xb hb hs, fun b hb => by rw [hh]; exact hI.ro b hb, hI.ro0, hI.roX, hI.sc,
    ⟨hos.trans hI.keep.os, hta.trans hI.keep.tape, hou.trans hI.keep.output, by rw [hh]; exact hI.keep.size, fun k h1 h2 => by rw [hh]; exact hI.keep.block k h1 h2⟩, hI.nl, hI.kl, hI.nm⟩
/-- A row is told otherwise. -/
theorem inv_setrow {X : Cx} {γ : Gh} {w : World} {hp : List XB} {b k n k' n' : Nat} {g g' : Nat → Nat → XD} {T T' : TypeId} (hI : Inv X γ w hp) (hb : hp[b]? = some (.row k n g T)) (hg : GoodB γ w b (.row k' n' g' T')) : Inv X γ w (hp.set b (.row k' n' g' T')) := by
  have hbl := (List.getElem?_eq_some_iff.1 hb).1
  have look : ∀ c y, (hp.set b (.row k' n' g' T'))[c]? = some y → (c = b ∧ y = .row k' n' g' T') ∨ (c ≠ b ∧ hp[c]? = some y) := fun c y hc => by
    by_cases e : c = b
    · subst e; rw [List.getElem?_set_self hbl] at hc; simp at hc; exact .inl ⟨rfl, hc.symm⟩
    · rw [List.getElem?_set_ne (fun h => e h.symm)] at hc; exact .inr ⟨e, hc⟩
  have back : ∀ c y, (hp.set b (.row k' n' g' T'))[c]? = some y → solid γ c y → ∃ z, hp[c]? = some z ∧ solid γ c z := fun c y hc hs => by
    rcases look c y hc with ⟨rfl, rfl⟩ | ⟨e, h⟩
    · exact ⟨_, hb, hs⟩
    · exact ⟨y, h, hs⟩
  refine ⟨fun c y hc => ?_, fun c c' y y' h1 h2 s1 s2 he => ?_, fun c y hc hs => ?_, hI.ro, hI.ro0, hI.roX, fun c l T hc x hx => ?_, hI.keep, by rw [List.length_set]; exact hI.nl, hI.kl, hI.nm⟩
  · rcases look c y hc with ⟨rfl, rfl⟩ | ⟨e, h⟩
    · exact hg
    · exact hI.good c y h
  · obtain ⟨z, z1, z2⟩ := back c y h1 s1
    obtain ⟨z', z1', z2'⟩ := back c' y' h2 s2
    exact hI.inj c c' z z' z1 z1' z2 z2' he
  · obtain ⟨z, z1, z2⟩ := back c y hc hs
    exact hI.own c z z1 z2
  · rw [List.length_set]
    rcases look c _ hc with ⟨rfl, e⟩ | ⟨e, h⟩
    · cases e
    · exact hI.sc c l T h x hx
/-- A row without a block gets a name. -/
theorem inv_adopt {X : Cx} {γ : Gh} {w : World} {hp : List XB} {k : Nat} {g : Nat → Nat → XD} {T : TypeId} (hI : Inv X γ w hp) : Inv X (γ.put hp.length 0 0 0) w (hp ++ [.row k 0 g T]) := by
  have hext := γ.put_ext hp.length 0 0 0
  have old : ∀ b, b < hp.length → (γ.put hp.length 0 0 0).blk b = γ.blk b ∧ (γ.put hp.length 0 0 0).cap b = γ.cap b := fun b hb => by simp [Gh.put, Nat.ne_of_lt hb]
  have sold : ∀ b xb', b < hp.length → (solid (γ.put hp.length 0 0 0) b xb' ↔ solid γ b xb') := fun b xb' hb => by cases xb' <;> simp [solid, (old b hb).2]
  have nsol : ∀ {y}, y = XB.row k 0 g T → ¬ solid (γ.put hp.length 0 0 0) hp.length y := fun e => by subst e; simp [solid, Gh.put_cap]
  refine ⟨fun b xb' hb => ?_, fun b b' y y' h1 h2 s1 s2 he => ?_, fun b y hb hs => ?_, hI.ro, hI.ro0, hI.roX, fun b l T' hb x hx => ?_, hI.keep, by have := hI.nl; simp; omega, hI.kl, fun b hb => ?_⟩
  · rcases getElem?_append_one hb with ⟨hb1, hb2⟩ | ⟨rfl, rfl⟩
    · refine GoodB.mono hext (fun _ _ => rfl) (by simp; omega) (fun _ => rfl) (fun l T e x hx => ?_) (hI.good b xb' hb2)
      subst e
      exact XC.free_of_upTo (n := hp.length) (by simp) x (hI.sc b l T hb2 x hx)
    · exact ⟨Nat.zero_le _, .inl (Gh.put_cap ..)⟩
  · rcases getElem?_append_one h1 with ⟨hb1, hb2⟩ | ⟨rfl, rfl⟩
    · rcases getElem?_append_one h2 with ⟨hc1, hc2⟩ | ⟨rfl, rfl⟩
      · rw [(old b hb1).1, (old b' hc1).1] at he
        exact hI.inj b b' y y' hb2 hc2 ((sold b y hb1).1 s1) ((sold b' y' hc1).1 s2) he
      · exact absurd s2 (nsol rfl)
    · exact absurd s1 (nsol rfl)
  · rcases getElem?_append_one hb with ⟨hb1, hb2⟩ | ⟨rfl, rfl⟩
    · rw [(old b hb1).1]
      exact hI.own b y hb2 ((sold b y hb1).1 hs)
    · exact absurd hs (nsol rfl)
  · rw [List.length_append]
    rcases getElem?_append_one hb with ⟨hb1, hb2⟩ | ⟨rfl, e⟩
    · exact XC.upTo_mono (by simp) x (hI.sc b l T' hb2 x hx)
    · cases e
  · have h1 := hI.nl
    have h2 := hI.kl b hb
    have hne : b ∉ [hp.length] := by simp; omega
    rw [hext.blk b hne, hext.off b hne, hext.cap b hne]
    exact hI.nm b hb
end Go.SX
