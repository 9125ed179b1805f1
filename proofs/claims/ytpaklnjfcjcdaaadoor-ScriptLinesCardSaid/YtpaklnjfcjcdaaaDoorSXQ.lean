/- SX: bytes and strings. Own work. -/
import Derived.Test.YtpaklnjfcjcdaaaDoorSXO
import Derived.Laws.IdiomStrings
namespace Go.SX
set_option linter.unusedVariables false
set_option linter.unusedSimpArgs false

def byteOf : XD → UInt8
  | .val (.int .u8 v) => UInt8.ofNat v.toNat
  | _ => 0
def strOf (n : Nat) (g : Nat → Nat → XD) : ByteArray := ⟨((List.range n).map fun i => byteOf (g i 0)).toArray⟩
def bytesOk (n : Nat) (g : Nat → Nat → XD) : Prop := ∀ i, i < n → ∃ b : UInt8, g i 0 = .val (.int .u8 b.toNat)
/-- string(x), x bytes -/
def strX (P : Program) (hp : List XB) (src dst : TypeId) (x : XV) : Option (Prop × ByteArray) :=
  (elemSl P src).bind fun e => if kindT P e = some .u8 ∧ strT P dst = true then (srcX P hp src 1 x).map fun r => (r.1 ∧ bytesOk r.2.1 r.2.2, strOf r.2.1 r.2.2) else none
theorem strX_sound {X : Cx} {γ : Gh} {w : World} {hp : List XB} {src dst : TypeId} {x : XV} {v : Value} {s : ByteArray} {φ : Prop} (hI : Inv X γ w hp) (hx : RepV γ w x v) (h : strX X.P hp src dst x = some (φ, s)) (hφ : φ) :
    (convert src dst v).run X.P w = .ok (.string s) w := by
  simp only [strX, Option.bind_eq_some_iff] at h
  obtain ⟨e, he, h⟩ := h
  split at h
  · rename_i hk
    simp only [Option.map_eq_some_iff, Prod.mk.injEq] at h
    obtain ⟨⟨ψ, m, g⟩, hr, rfl, rfl⟩ := h
    obtain ⟨hψ, hb⟩ := hφ
    obtain ⟨news, hS, h1, hN⟩ := srcX_sound hI hx hr hψ
    have hs := elemSl_some he
    have hu := kindT_some hk.1
    have hd := strT_true hk.2
    have hnl : news.length = m := by rw [hS.newsLen, Nat.mul_one]
    have hbyte : ∀ i, i < m → news[i]? = some (.int .u8 ((byteOf (g i 0)).toNat : Int)) := by
      intro i hi
      obtain ⟨u, hu1, hu2⟩ := hN i hi 0 (by omega)
      obtain ⟨b, hb⟩ := hb i hi
      dsimp only at hb
      rw [hb] at hu2
      have hu2 : u = .int .u8 b.toNat := hu2
      rw [hb]
      simp only [Nat.mul_one, Nat.add_zero] at hu1
      rw [hu1, hu2]
      simp [byteOf]
    -- what the value is
    have hv : ∃ a cap, v = .slice a m cap := by
      have hl := hS.len w
      have hc := hS.cells
      unfold srcX at hr
      split at hr
      · obtain ⟨a, cap, rfl, _⟩ := hx
        have := hS.len w
        simp [Builtin.lenOf] at this
        exact ⟨a, cap, by rw [this]⟩
      · obtain ⟨a, cap, rfl, _⟩ := hx
        have := hS.len w
        simp [Builtin.lenOf] at this
        exact ⟨a, cap, by rw [this]⟩
      · rename_i s'
        exfalso
        split at hr
        · rename_i hst
          have := strT_true hst
          rw [hs] at this
          simp at this
        · simp at hr
      · have hx : v = _ := hx
        subst hx
        have := hS.len w
        simp [Builtin.lenOf] at this
        exact ⟨none, _, by rw [this]⟩
      · simp at hr
    obtain ⟨a, cap, rfl⟩ := hv
    have hlist : strOf m g = ⟨((List.range m).map fun i => byteOf (g i 0)).toArray⟩ := rfl
    cases a with
    | none =>
      have hm : m = 0 := by
        have hc := hS.cells
        simp [Builtin.firstCells] at hc
        rw [← hnl]
        simp [hc]
      subst hm
      rw [run_convert_bytes_string w src dst e none 0 cap hs hu hd]
      simp [Conv.bytesToString, strOf]
      rfl
    | some a =>
      have hc := hS.cells
      have hcells : (loadCells a m).run X.P w = .ok (((List.range m).map fun i => ((byteOf (g i 0)).toNat : Int)).map (Value.int .u8)).toArray w := by
        simp only [Builtin.firstCells, Nat.mul_one] at hc
        rw [hc]
        congr 2
        apply List.ext_getElem?
        intro i
        by_cases hi : i < m
        · rw [hbyte i hi]
          simp [hi]
        · rw [List.getElem?_eq_none (by omega), List.getElem?_eq_none (by simp; omega)]
      rw [run_convert_bytes_string w src dst e (some a) m cap hs hu hd, run_bytesToString w a m cap _ hcells]
      have := foldl_push_byteCells ((List.range m).map fun i => byteOf (g i 0)) ByteArray.empty
      rw [List.map_map] at this
      congr 2
      refine Eq.trans this ?_
      simp [strOf]
  · simp at h
/-! ### bytes of a string -/
def bytesX (P : Program) (hp : List XB) (src dst : TypeId) (x : XV) : Option (Prop × XV × List XB) :=
  match x with
  | .c (.d (.val (.string s))) => (elemSl P dst).bind fun e => if kindT P e = some .u8 ∧ strT P src = true then some (True, .c (.slc hp.length 1 0 s.size), hp ++ [.row 1 s.size (rowB s) e]) else none
  | _ => none
theorem bytesX_sound {X : Cx} {γ : Gh} {w : World} {hp hp' : List XB} {src dst : TypeId} {x y : XV} {v : Value} {φ : Prop} (hI : Inv X γ w hp) (hx : RepV γ w x v) (h : bytesX X.P hp src dst x = some (φ, y, hp')) :
    ∃ v' w' γ', (convert src dst v).run X.P w = .ok v' w' ∧ Out X γ w hp γ' w' v' y hp' [] := by
  unfold bytesX at h
  split at h
  · rename_i s
    simp only [Option.bind_eq_some_iff] at h
    obtain ⟨e, he, h⟩ := h
    split at h
    · rename_i hk
      simp only [Option.some.injEq, Prod.mk.injEq] at h
      obtain ⟨_, rfl, rfl⟩ := h
      have hv : v = _ := hx
      subst hv
      have hrun := run_bytes_of_string (P := X.P) w src dst e s (strT_true hk.2) (elemSl_some he) (kindT_some hk.1)
      have hIw : Inv X γ w.drew hp := inv_same hI rfl rfl rfl rfl
      have hge := grownCap_ge w s.size 0 e
      have hro : ∀ b, γ.ro b → (w.drew.alloc (.cells (bytesRow s (grownCap w s.size 0 e)) e ((bytesRow s (grownCap w s.size 0 e)).size, (bytesRow s (grownCap w s.size 0 e)).size + 1))).heap[b]? = w.heap[b]? := fun b hb => Go.RowKit.Below.heap_alloc w.drew _ b (hI.ro b hb).1
      have hsz : (bytesRow s (grownCap w s.size 0 e)).size = grownCap w s.size 0 e := by
        simp [bytesRow]
        have : s.data.size = s.size := rfl
        omega
      have hg : GoodB (γ.put hp.length w.drew.heap.size 0 (grownCap w s.size 0 e)) (w.drew.alloc (.cells (bytesRow s (grownCap w s.size 0 e)) e ((bytesRow s (grownCap w s.size 0 e)).size, (bytesRow s (grownCap w s.size 0 e)).size + 1))) hp.length (.row 1 s.size (rowB s) e) := by
        refine ⟨by rw [Gh.put_cap]; exact hge, .inr ⟨_, _, by rw [Gh.put_blk]; exact heap_alloc_new w.drew _, fun o ho => by dsimp only; omega, by rw [Gh.put_off, Gh.put_cap, hsz]; omega, fun o ho => ?_, fun i hi c hc => ?_⟩⟩
        · refine ⟨_, Array.getElem?_eq_getElem ho, ?_⟩
          have hm := Array.getElem_mem ho
          generalize (bytesRow s (grownCap w s.size 0 e))[o] = u at hm
          simp only [bytesRow, Array.mem_append, Array.mem_map, Array.mem_replicate] at hm
          rcases hm with ⟨b, _, hb⟩ | ⟨_, hb⟩
          · rw [← hb]; rfl
          · rw [hb]; rfl
        · obtain rfl : c = 0 := by omega
          have hi' : i < s.data.size := hi
          refine ⟨.int .u8 (s.data[i]).toNat, ?_, ?_⟩
          · rw [Gh.put_off]
            simp only [Nat.mul_one, Nat.add_zero, Nat.zero_add, bytesRow]
            rw [Array.getElem?_append_left (by simpa using hi'), Array.getElem?_map, Array.getElem?_eq_getElem hi']
            rfl
          · show Value.int .u8 (s.data[i]).toNat = Value.int .u8 ((s.data.toList.getD i 0).toNat : Nat)
            rw [List.getD_eq_getElem?_getD, List.getElem?_eq_getElem (by simpa using hi'), Option.getD_some]
            simp
      obtain ⟨e1, e2⟩ := inv_alloc (cap := grownCap w s.size 0 e) hIw hg (fun l T' e => by simp at e)
      refine ⟨_, _, _, hrun, e1, ?_, ?_, hro, by show _ < _; simp, by simp⟩
      · refine ⟨_, _, rfl, hge, .inr ⟨?_, ?_⟩⟩
        · rw [Gh.put_blk, Gh.put_off]; simp
        · rw [Gh.put_cap]; omega
      · exact (γ.put_ext _ _ _ _).mono fun b hb => by rw [List.mem_singleton] at hb; subst hb; rw [List.length_append]; exact newN_one rfl
    · simp at h
  · simp at h
end Go.SX
