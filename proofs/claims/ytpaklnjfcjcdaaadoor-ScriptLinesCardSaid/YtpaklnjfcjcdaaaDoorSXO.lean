/- SX: append, the proof of its effect. Own work. -/
import Derived.Test.YtpaklnjfcjcdaaaDoorSXN
namespace Go.SX
set_option linter.unusedVariables false
set_option linter.unusedSimpArgs false

theorem newN_mem_S {n m : Nat} {S : List Nat} {b : Nat} (h : b ∈ S) : b ∈ newN n m S := List.mem_append_left _ h
theorem newN_one {n : Nat} {b : Nat} (h : b = n) : b ∈ newN n (n + 1) [] := by subst h; simp [newN]

theorem appX_sound {X : Cx} {γ : Gh} {w : World} {hp hp' : List XB} {t tx ty : TypeId} {s x y : XV} {vs vx : Value} {φ : Prop} {S : List Nat} (hI : Inv X γ w hp) (hs : RepV γ w s vs) (hx : RepV γ w x vx)
    (h : appX X hp t tx s x = some (φ, y, hp', S)) (hφ : φ) : ∃ v w' γ', (Builtin.append_ #[t, tx] ty #[vs, vx]).run X.P w = .ok v w' ∧ Out X γ w hp γ' w' v y hp' S := by
  simp only [appX, Option.bind_eq_some_iff] at h
  obtain ⟨e, he, k, hk, by', hby, zs, hzs, ⟨ψ, m, g'⟩, hsrc, h⟩ := h
  obtain ⟨i, z, hi, hik, hib, hz, hzc⟩ := info_of hk hby hzs
  have ht := elemSl_some he
  subst hik
  split at h
  · -- s nil
    simp only [Option.some.injEq, Prod.mk.injEq] at h
    obtain ⟨rfl, rfl, rfl, rfl⟩ := h
    obtain ⟨hψ, hk0, hb0, hzl, hz1, hfit⟩ := hφ
    have hvs : vs = .slice none 0 0 := hs
    subst hvs
    obtain ⟨news, hS, hN1, hN⟩ := srcX_sound hI hx hsrc hψ
    rcases Nat.eq_zero_or_pos m with rfl | hm
    · have hn0 : news = [] := List.length_eq_zero_iff.1 (by rw [hS.newsLen]; simp)
      subst hn0
      refine ⟨_, w, _, run_append_in0 (P := X.P) ht hi hS (by omega), inv_adopt hI, ?_, ?_, fun _ _ => rfl, by show _ < _; simp, by simp⟩
      · refine ⟨none, 0, rfl, Nat.le_refl _, .inl rfl⟩
      · exact (γ.put_ext _ _ _ _).mono fun b hb => by rw [List.mem_singleton] at hb; subst hb; rw [List.length_append]; exact newN_one rfl
    · have hgrow := run_append_grow_src (P := X.P) w t tx ty e i z ht hi hz none 0 0 [] (run_firstCells_none w.drew i.size 0 0 0) vx m news hS (by omega)
        (by have : m ≤ m * by' := Nat.le_mul_of_pos_right _ hb0; omega) (growslice_fits (by omega) (by rw [hib]; simpa using hfit))
      have hge := grownCap_ge w (0 + m) 0 e
      have hge' : m ≤ grownCap w m 0 e := grownCap_ge w m 0 e
      have hgeq : grownCap w (0 + m) 0 e = grownCap w m 0 e := by rw [Nat.zero_add]
      have hIw : Inv X γ w.drew hp := inv_same hI rfl rfl rfl rfl
      have hnl := hS.newsLen
      have hro : ∀ b, γ.ro b → (w.drew.alloc (.cells ((([] : List Value) ++ news).toArray ++ Builtin.zeroCells z.cells (grownCap w (0 + m) 0 e - (0 + m))) e)).heap[b]? = w.heap[b]? := fun b hb => Go.RowKit.Below.heap_alloc w.drew _ b (hI.ro b hb).1
      have hg : GoodB (γ.put hp.length w.drew.heap.size 0 (grownCap w (0 + m) 0 e)) (w.drew.alloc (.cells ((([] : List Value) ++ news).toArray ++ Builtin.zeroCells z.cells (grownCap w (0 + m) 0 e - (0 + m))) e)) hp.length (.row i.size m g' e) := by
        refine good_grown (w := w.drew) (vals := [] ++ news) (heap_alloc_new w.drew _) (by omega) (by simpa using hnl) ?_ (by simpa using hN1) (zeroCells_one hk0 (by rw [hzc]; exact hzl) (by rw [hzc]; exact hz1)) ?_
        · rw [size_zeroCells, ← Array.length_toList, hzc, hzl]
          simp
        · intro j hj c hc
          obtain ⟨u, hu, hr⟩ := hN j hj c hc
          exact ⟨u, by simpa using hu, RepD.mono (fun _ h => h) hro _ _ hr⟩
      obtain ⟨e1, e2⟩ := inv_alloc (cap := grownCap w (0 + m) 0 e) hIw hg (fun l T' e => by simp at e)
      refine ⟨_, _, _, hgrow, e1, ?_, ?_, hro, by show _ < _; simp, by simp⟩
      · refine ⟨_, _, by rw [Nat.zero_add], by omega, .inr ⟨?_, ?_⟩⟩
        · rw [Gh.put_blk, Gh.put_off]; simp
        · rw [Gh.put_cap]; omega
      · exact (γ.put_ext _ _ _ _).mono fun b hb => by rw [List.mem_singleton] at hb; subst hb; rw [List.length_append]; exact newN_one rfl
  · -- s a named row
    rename_i b k1 i1 n
    split at h
    · rename_i k2 n2 g T hb
      simp only [Option.some.injEq, Prod.mk.injEq] at h
      obtain ⟨rfl, rfl, rfl, rfl⟩ := h
      obtain ⟨hψ, hk0, hb0, hzl, hz1, hfit, rfl, rfl, rfl, hnn, rfl, hok, hkn⟩ := hφ
      obtain ⟨news, hS, hN1, hN⟩ := srcX_sound hI hx hsrc hψ
      obtain ⟨olds, hO, hO1, hOg⟩ := srcX_sound (m := n) (g := shiftG 0 g) (φ := i.size = i.size ∧ i.size = i.size ∧ 0 + n ≤ n2) (k := i.size) (tx := t) hI hs (by simp [srcX, hb, slT, he]) ⟨rfl, rfl, by omega⟩
      rw [shiftG_zero] at hOg
      obtain ⟨a, cap', rfl, hncap, hc⟩ := hs
      have hbl : b < hp.length := (List.getElem?_eq_some_iff.1 hb).1
      have hbl2 : b < (hp.map (killB [b])).length := by rw [List.length_map]; exact hbl
      have hbk : (hp.map (killB [b]))[b]? = some (.row i.size n2 g T) := by rw [List.getElem?_map, hb]; rfl
      have hIk := inv_kill hI hok
      have hgood := hI.good b _ hb
      have hextb : ∀ c, c ∈ [b] → c ∈ newN hp.length ((hp.map (killB [b])).set b (.row i.size (n + m) (appG n g g') T)).length [b] := fun c hc => newN_mem_S hc
      have hlen : hp.length ≤ ((hp.map (killB [b])).set b (.row i.size (n + m) (appG n g g') T)).length := by simp
      have hsc : XV.upTo ((hp.map (killB [b])).set b (.row i.size (n + m) (appG n g g') T)).length (.c (.slc b i.size 0 (n + m))) := by show b < _; simpa using hbl
      by_cases hroom : n + m ≤ cap'
      · by_cases hm : m = 0
        · -- nothing is written
          subst hm
          have hn0 : news = [] := List.length_eq_zero_iff.1 (by rw [hS.newsLen]; simp)
          subst hn0
          have hg2 : GoodB γ w b (.row i.size (n + 0) (appG n g g') T) := by
            obtain ⟨h0, h1⟩ := hgood
            refine ⟨by omega, ?_⟩
            rcases h1 with h1 | ⟨arr, fz, ha, hzf, hsz, ho, hcell⟩
            · exact .inl h1
            · refine .inr ⟨arr, fz, ha, hzf, hsz, ho, fun j hj c hc => ?_⟩
              have : appG n g g' j c = g j c := by unfold appG; rw [if_pos (by omega)]
              rw [this]
              exact hcell j (by omega) c hc
          refine ⟨_, w, γ, run_append_in0 (P := X.P) ht hi hS hroom, inv_setrow hIk hbk hg2, ?_, Gh.Ext.refl _ _, fun _ _ => rfl, hsc, hlen⟩
          exact ⟨a, cap', rfl, hroom, hc⟩
        · rcases hc with hc | ⟨rfl, hc⟩
          · omega
          · obtain ⟨h0, h1⟩ := hgood
            rcases h1 with h1 | ⟨arr, fz, ha, hzf, hsz, ho, hcell⟩
            · omega
            · have haL : w.heap[γ.blk b]? = some (.cells arr.toList.toArray T fz) := by simpa using ha
              have hnl := hS.newsLen
              have hbd : (n + m) * i.size ≤ γ.cap b * i.size := Nat.mul_le_mul_right _ (by omega)
              rw [Nat.add_mul] at hbd
              obtain ⟨w', g1, g2, g3, g4, g5, g6, g7⟩ := run_storeCells (P := X.P) news w (γ.blk b) (γ.off b + 0 * i.size + n * i.size) 0 arr.toList T fz haL (by simpa using hzf) (by simp; omega) hN1
              have hso : solid γ b (.row i.size n2 g T) := show 0 < γ.cap b by omega
              have hro : ∀ k, γ.ro k → w'.heap[k]? = w.heap[k]? := fun k hk => g3 k (fun e => (hI.own b _ hb hso).2.1 (e ▸ hk))
              have hg : GoodB γ w' b (.row i.size (n + m) (appG n g g') T) := by
                refine ⟨by omega, .inr ⟨_, fz, g2, by simp only [List.size_toArray, wrL_length]; simpa using hzf, by simp only [List.size_toArray, wrL_length]; simpa using hsz, fun q hq => ?_, fun j hj c hck => ?_⟩⟩
                · simp only [List.size_toArray, wrL_length] at hq
                  simp only [List.getElem?_toArray]
                  rw [wrL_get _ _ _ _ (by simp; omega)]
                  split
                  · rename_i hin
                    refine ⟨_, List.getElem?_eq_getElem (by omega), hN1 _ (List.getElem_mem _)⟩
                  · obtain ⟨u, h1, h2⟩ := ho q (by simpa using hq)
                    exact ⟨u, by simpa using h1, h2⟩
                · simp only [List.getElem?_toArray]
                  rw [wrL_get _ _ _ _ (by simp; omega)]
                  unfold appG
                  by_cases hjn : j < n
                  · rw [if_pos hjn]
                    have hjk : j * i.size + i.size ≤ n * i.size := by
                      have : (j + 1) * i.size ≤ n * i.size := Nat.mul_le_mul_right _ hjn
                      rwa [Nat.add_mul, Nat.one_mul] at this
                    rw [if_neg (by omega)]
                    obtain ⟨u, hu, hr⟩ := hcell j (by omega) c hck
                    exact ⟨u, by simpa using hu, RepD.mono (fun _ h => h) hro _ _ hr⟩
                  · rw [if_neg hjn]
                    have hnj : n * i.size ≤ j * i.size := Nat.mul_le_mul_right _ (by omega)
                    have hjk : j * i.size + i.size ≤ n * i.size + m * i.size := by
                      have : (j + 1) * i.size ≤ (n + m) * i.size := Nat.mul_le_mul_right _ hj
                      rwa [Nat.add_mul, Nat.one_mul, Nat.add_mul] at this
                    rw [if_pos (by omega)]
                    obtain ⟨u, hu, hr⟩ := hN (j - n) (by omega) c hck
                    refine ⟨u, ?_, RepD.mono (fun _ h => h) hro _ _ hr⟩
                    rw [show γ.off b + (j * i.size + c) - (γ.off b + 0 * i.size + n * i.size + 0) = (j - n) * i.size + c from by rw [Nat.sub_mul]; omega]
                    exact hu
              obtain ⟨k1, k2⟩ := inv_modify hIk hbk hso g3 g4 g5 g6 g7 hg (fun l T' e => by simp at e)
              refine ⟨_, w', γ, run_append_in (P := X.P) ht hi hS hroom g1, k1, ?_, Gh.Ext.refl _ _, k2, hsc, hlen⟩
              exact ⟨_, cap', rfl, hroom, .inr ⟨rfl, hc⟩⟩
      · -- it grows
        have hgrow := run_append_grow_src (P := X.P) w t tx ty T i z ht hi hz a n cap' olds hO.cellsD vx m news hS (by omega)
          (by have : n + m ≤ (n + m) * by' := Nat.le_mul_of_pos_right _ hb0; omega) (growslice_fits (by omega) (by rw [hib]; exact hfit))
        have hge := grownCap_ge w (n + m) cap' T
        have hIw : Inv X γ w.drew hp := inv_same hI rfl rfl rfl rfl
        have hnl := hS.newsLen
        have hol := hO.newsLen
        have hro : ∀ b, γ.ro b → (w.drew.alloc (.cells ((olds ++ news).toArray ++ Builtin.zeroCells z.cells (grownCap w (n + m) cap' T - (n + m))) T)).heap[b]? = w.heap[b]? := fun b hb => Go.RowKit.Below.heap_alloc w.drew _ b (hI.ro b hb).1
        have hg : GoodB (γ.put b w.drew.heap.size 0 (grownCap w (n + m) cap' T)) (w.drew.alloc (.cells ((olds ++ news).toArray ++ Builtin.zeroCells z.cells (grownCap w (n + m) cap' T - (n + m))) T)) b (.row i.size (n + m) (appG n g g') T) := by
          refine good_grown (w := w.drew) (vals := olds ++ news) (heap_alloc_new w.drew _) hge (by rw [List.length_append, hol, hnl, Nat.add_mul]) ?_ (fun u hu => ?_) (zeroCells_one hk0 (by rw [hzc]; exact hzl) (by rw [hzc]; exact hz1)) ?_
          · rw [size_zeroCells, ← Array.length_toList, hzc, hzl]
          · rcases List.mem_append.1 hu with h | h
            · exact hO1 u h
            · exact hN1 u h
          · intro j hj c hc
            obtain ⟨u, hu, hr⟩ := all2_split (R := RepD γ.ro w) hol hOg hN j hj c hc
            exact ⟨u, hu, RepD.mono (fun _ h => h) hro _ _ hr⟩
        obtain ⟨e1, e2⟩ := inv_move (w' := w.drew.alloc (.cells ((olds ++ news).toArray ++ Builtin.zeroCells z.cells (grownCap w (n + m) cap' T - (n + m))) T)) hIw hok hbl hkn (fun k hk => Go.RowKit.Below.heap_alloc w.drew _ k hk) rfl rfl rfl (by simp) hg
        refine ⟨_, _, _, hgrow, e1, ?_, (γ.put_ext _ _ _ _).mono hextb, hro, hsc, hlen⟩
        refine ⟨_, _, rfl, hge, .inr ⟨?_, ?_⟩⟩
        · rw [Gh.put_blk, Gh.put_off]; simp
        · rw [Gh.put_cap]; omega
    · simp at h
  · simp at h
end Go.SX
