/- SX: append. Own work. -/
import Derived.Test.YtpaklnjfcjcdaaaDoorSXL
import Derived.Deep.AppendSrc
namespace Go.SX
set_option linter.unusedVariables false
set_option linter.unusedSimpArgs false

def rowB (s : ByteArray) : Nat → Nat → XD := fun i _ => .val (.int .u8 (byteAt s i))
def oneD : XD → Bool
  | .val u => one u
  | _ => true
def oneG (k m : Nat) (g : Nat → Nat → XD) : Prop := ∀ j, j < m → ∀ c, c < k → oneD (g j c) = true
theorem RepD_one {ro : Nat → Prop} {w : World} {x : XD} {v : Value} (h : oneD x = true) (hr : RepD ro w x v) : one v = true := by
  cases x with
  | val u => have hr : v = u := hr; subst hr; exact h
  | any => exact hr
  | ros k n g => obtain ⟨a, cap, rfl, _⟩ := hr; rfl
  | rop k g => obtain ⟨b, o, rfl, _⟩ := hr; rfl
theorem one_oneCell {v : Value} (h : one v = true) : v.oneCell' = true := oneCell'_of_one h

theorem news_of {ro : Nat → Prop} {w : World} {b o m k : Nat} {g : Nat → Nat → XD} (hc : ∀ i, i < m → ∀ c, c < k → ∃ u, w.cell? ⟨b, o + (i * k + c), none⟩ = some u ∧ one u = true ∧ RepD ro w (g i c) u) :
    ∃ news : List Value, news.length = m * k ∧ (∀ (j : Nat) u, news[j]? = some u → w.cell? ⟨b, o + j, none⟩ = some u) ∧ (∀ u, u ∈ news → one u = true) ∧ ∀ j, j < m → ∀ c, c < k → ∃ u, news[j * k + c]? = some u ∧ RepD ro w (g j c) u := by
  have key : ∀ q, q < m * k → ∃ u, w.cell? ⟨b, o + q, none⟩ = some u ∧ one u = true ∧ RepD ro w (g (q / k) (q % k)) u := by
    intro q hq
    have hk : 0 < k := Nat.pos_of_ne_zero (fun h => by subst h; simp at hq)
    have h1 : q / k < m := Nat.div_lt_of_lt_mul (by rw [Nat.mul_comm]; exact hq)
    obtain ⟨u, h2, h3, h4⟩ := hc (q / k) h1 (q % k) (Nat.mod_lt _ hk)
    rw [Nat.div_add_mod' q k] at h2
    exact ⟨u, h2, h3, h4⟩
  refine ⟨(List.range (m * k)).map fun q => (w.cell? ⟨b, o + q, none⟩).getD undef, by simp, fun j u hj => ?_, fun u hu => ?_, fun j hj c hck => ?_⟩
  · rw [List.getElem?_map, Option.map_eq_some_iff] at hj
    obtain ⟨q, hq, rfl⟩ := hj
    obtain ⟨h1, rfl⟩ := range_some hq
    obtain ⟨u, h2, _⟩ := key q h1
    rw [h2]; rfl
  · obtain ⟨q, hq, rfl⟩ := List.mem_map.1 hu
    obtain ⟨u, h2, h3, _⟩ := key q (List.mem_range.1 hq)
    rw [h2]; exact h3
  · have hlt : j * k + c < m * k := by
      have : (j + 1) * k ≤ m * k := Nat.mul_le_mul_right _ hj
      rw [Nat.add_mul, Nat.one_mul] at this
      omega
    obtain ⟨u, h2, h3, h4⟩ := hc j hj c hck
    refine ⟨u, ?_, h4⟩
    rw [List.getElem?_map, List.getElem?_range hlt]
    simp [h2]

def slT (P : Program) (T : TypeId) : Bool := (elemSl P T).isSome
def srcX (P : Program) (hp : List XB) (tx : TypeId) (k : Nat) : XV → Option (Prop × Nat × (Nat → Nat → XD))
  | .c (.slc b k' i m) => match hp[b]? with
    | some (.row k2 m2 g T) => if slT P tx then some (k' = k ∧ k2 = k ∧ i + m ≤ m2, m, shiftG i g) else none
    | _ => none
  | .c (.d (.ros k' m g)) => if slT P tx then some (k' = k ∧ oneG k m g, m, g) else none
  | .c (.d (.val (.string s))) => if strT P tx then some (k = 1, s.size, rowB s) else none
  | .c (.d (.val (.slice none 0 _))) => if slT P tx then some (True, 0, fun _ _ => .any) else none
  | _ => none
theorem slT_true {P : Program} {T : TypeId} (h : slT P T = true) : ∃ e, P.underlying T = some (.slice e) := by
  unfold slT at h
  obtain ⟨e, he⟩ := Option.isSome_iff_exists.1 h
  exact ⟨e, elemSl_some he⟩
theorem src_slice {P : Program} {γ : Gh} {w : World} {tx e : TypeId} {k m cap : Nat} {a : Option Addr} {g : Nat → Nat → XD} (ht : P.underlying tx = some (.slice e))
    (h : ∀ i, i < m → ∃ b o, a = some ⟨b, o, none⟩ ∧ ∀ c, c < k → ∃ u, w.cell? ⟨b, o + (i * k + c), none⟩ = some u ∧ one u = true ∧ RepD γ.ro w (g i c) u) :
    ∃ news, Src P k tx (.slice a m cap) m news w ∧ (∀ u, u ∈ news → one u = true) ∧ ∀ j, j < m → ∀ c, c < k → ∃ u, news[j * k + c]? = some u ∧ RepD γ.ro w (g j c) u := by
  rcases Nat.eq_zero_or_pos m with rfl | hm
  · cases a with
    | none => exact ⟨[], Src.ofNil w ht cap, by simp, by simp⟩
    | some a => exact ⟨[], Src.ofSlice w ht a 0 cap [] (by simp) (by simp) (by simp), by simp, by simp⟩
  · obtain ⟨b, o, rfl, _⟩ := h 0 hm
    obtain ⟨news, n1, n2, n3, n4⟩ := news_of (w := w) (b := b) (o := o) (m := m) (k := k) (g := g) (ro := γ.ro) fun i hi c hc => by
      obtain ⟨b', o', he, h2⟩ := h i hi
      simp only [Option.some.injEq, Addr.mk.injEq, and_true] at he
      obtain ⟨rfl, rfl⟩ := he
      exact h2 c hc
    exact ⟨news, Src.ofSlice w ht ⟨b, o, none⟩ m cap news n1 (fun j u hj => by rw [add_at]; exact n2 j u hj) (fun u hu => one_oneCell (n3 u hu)), n3, n4⟩
theorem srcX_sound {X : Cx} {γ : Gh} {w : World} {hp : List XB} {tx : TypeId} {k m : Nat} {g : Nat → Nat → XD} {x : XV} {v : Value} {φ : Prop} (hI : Inv X γ w hp) (hx : RepV γ w x v) (h : srcX X.P hp tx k x = some (φ, m, g)) (hφ : φ) :
    ∃ news, Src X.P k tx v m news w ∧ (∀ u, u ∈ news → one u = true) ∧ ∀ j, j < m → ∀ c, c < k → ∃ u, news[j * k + c]? = some u ∧ RepD γ.ro w (g j c) u := by
  unfold srcX at h
  split at h
  · rename_i b k' i m'
    split at h
    · rename_i k2 m2 g2 T hb
      split at h
      · rename_i ht
        simp only [Option.some.injEq, Prod.mk.injEq] at h
        obtain ⟨rfl, rfl, rfl⟩ := h
        obtain ⟨rfl, rfl, him⟩ := hφ
        obtain ⟨e, he⟩ := slT_true ht
        obtain ⟨a, cap, rfl, hn, hc⟩ := hx
        refine src_slice he fun j hj => ?_
        rcases hc with hc | ⟨rfl, hc⟩
        · omega
        · obtain ⟨hm, hr⟩ := hI.good b _ hb
          rcases hr with hr | ⟨arr, fz, ha, hz, hs, ho, hcell⟩
          · omega
          · refine ⟨_, _, rfl, fun c hck => ?_⟩
            obtain ⟨u, hu, hr⟩ := hcell (i + j) (by omega) c hck
            refine ⟨u, ?_, ?_, hr⟩
            · simp only [World.cell?, ha]
              rw [show γ.off b + i * k2 + (j * k2 + c) = γ.off b + ((i + j) * k2 + c) from by rw [Nat.add_mul]; omega]
              exact hu
            · obtain ⟨hlt, _⟩ := Array.getElem?_eq_some_iff.1 hu
              obtain ⟨u', h1, h2⟩ := ho _ hlt
              rw [hu] at h1
              simp only [Option.some.injEq] at h1
              rw [h1]; exact h2
      · simp at h
    · simp at h
  · rename_i k' m' g'
    split at h
    · rename_i ht
      simp only [Option.some.injEq, Prod.mk.injEq] at h
      obtain ⟨rfl, rfl, rfl⟩ := h
      obtain ⟨rfl, hone⟩ := hφ
      obtain ⟨e, he⟩ := slT_true ht
      obtain ⟨a, cap, rfl, hn, hc⟩ := hx
      refine src_slice he fun j hj => ?_
      obtain ⟨b, o, ha, hb, hc⟩ := hc j hj
      exact ⟨b, o, ha, fun c hck => by obtain ⟨u, h1, h2⟩ := hc c hck; exact ⟨u, h1, RepD_one (hone j hj c hck) h2, h2⟩⟩
    · simp at h
  · rename_i s
    split at h
    · rename_i ht
      simp only [Option.some.injEq, Prod.mk.injEq] at h
      obtain ⟨rfl, rfl, rfl⟩ := h
      subst hφ
      have hv : v = .string s := hx
      subst hv
      refine ⟨byteCells s, Src.ofString w (strT_true ht) s, fun u hu => ?_, fun j hj c hc => ?_⟩
      · obtain ⟨_, _, rfl⟩ := List.mem_map.1 hu
        rfl
      · obtain rfl : c = 0 := by omega
        have hj' : j < s.data.toList.length := by simpa using hj
        refine ⟨.int .u8 (s.data.toList[j]).toNat, ?_, ?_⟩
        · simp only [Nat.mul_one, Nat.add_zero, byteCells, List.getElem?_map, List.getElem?_eq_getElem hj', Option.map_some]
        · show Value.int .u8 (s.data.toList[j]).toNat = Value.int .u8 ((s.data.toList.getD j 0).toNat : Nat)
          rw [List.getD_eq_getElem?_getD, List.getElem?_eq_getElem hj', Option.getD_some]
    · simp at h
  · split at h
    · rename_i ht
      simp only [Option.some.injEq, Prod.mk.injEq] at h
      obtain ⟨rfl, rfl, rfl⟩ := h
      obtain ⟨e, he⟩ := slT_true ht
      have hv : v = _ := hx
      subst hv
      exact src_slice he fun j hj => absurd hj (Nat.not_lt_zero _)
    · simp at h
  · simp at h
end Go.SX
