/- ScriptLines: for every step and every answer the program's line and the reference's are alike: the statement and its card. Own work. -/
import Derived.Test.YtpaklnjfcjcdaaaDoorL4
import Derived.Test.YtpaklnjfcjcdaaaDoorCards
import Derived.Test.YtpaklnjfcjcdaaaDoorTie
import Derived.WalkKit
import Derived.ProofKit
import Derived.OpenShut
import Derived.Deep.DeepHandedRow
import Derived.Lib.LaidTab
import Derived.Stop.LaidErr
namespace Go.Proofs.YtpaklnjfcjcdaaaDoor.fnScriptLines
open Go.ChangeShapes Go.WideShapes Go.ChangeAt Go.RowKit Go.SX
set_option maxRecDepth 20000

theorem own : ownKnob Tryd.prog.godebug = none := by kernel_rfl
theorem table {W : World} (h : laidMetH Tryd.prog Rows.scriptLinesRow.laid W) : TabP W := by
  have h : laidMet Tryd.prog Rows.scriptLinesRow.laid W := h
  exact Lib.tabIs_of_head (rest := []) (g := 0) (by kernel_rfl) (by kernel_rfl) Tryd.underlying79 Tryd.underlying68 (by kernel_rfl) (by kernel_rfl) (laidMet.tail (laidMet.tail h))
theorem arg_struct {W : World} {t : TypeId} {v : Value} {fs : Array Field} {base : Nat} (ht : Tryd.prog.underlying t = some (.struct fs)) (h : Value.okWide Tryd.prog W .any base t v) : ∃ cs, v = .agg cs := by
  unfold Value.okWide at h
  rw [ht] at h
  obtain ⟨cs, rfl, _⟩ := h
  exact ⟨cs, rfl⟩
theorem rep_arg {W : World} {e : List XD} {cs : Array Value} (h : All2 (RepD (roW W) W) e cs.toList) : RepV (ghW W) W (aggV e) (.agg cs) := by
  refine ⟨cs.toList, by simp, ?_⟩
  generalize cs.toList = l at h
  induction h with
  | nil => exact .nil
  | cons a _ ih => exact .cons a ih
theorem contract (H : Type) (enc : TypeId × Value → H) (W : World) (base : Nat) (args : Array Value) (ds gs : List (DataW H)) (before : List MemPlace)
    (hval : ∀ (j : Nat) t v, Tryd.f3.params[j]? = some t → args[j]? = some v → Value.okWide Tryd.prog W .any base t v)
    (hW : DataW.Whole enc Tryd.prog Tryd.f3.params.toList Rows.scriptLinesSpec.vars false W args.toList ds gs before)
    (hw : (DataW.weightsEach Tryd.prog (Tryd.f3.params.toList ++ []) (ds ++ gs)).all (· ≤ reachBytes) = true)
    (hL : laidMetH Tryd.prog Rows.scriptLinesRow.laid W) :
    Calls Tryd.prog 3 args W fun e W' => ∃ v, e = .returned v ∧ Rows.scriptLinesSpec.post enc Tryd.prog Tryd.f3 false true false false W args v W' := by
  have hW0 := hW
  obtain ⟨p, q, hA0, hV, rfl, hfz, hnd⟩ := hW
  have hA : DataW.TrodAll enc Tryd.prog W 0 (fun _ => true) true Tryd.f3.params.toList args.toList ds p := hA0
  rw [Tryd.params3] at hA hval hw
  obtain ⟨v0, vs0, d0, ds0, p0, q0, hargs, rfl, rfl, h0, r0⟩ := trodAll_cons hA
  obtain ⟨v1, vs1, d1, ds1, p1, q1, rfl, rfl, rfl, h1, r1⟩ := trodAll_cons r0
  obtain ⟨rfl, rfl, rfl⟩ := trodAll_nil r1
  obtain rfl : args = #[v0, v1] := by cases args; simp_all
  obtain ⟨rfl, rfl⟩ := trodVars_none hV
  obtain ⟨c0, rfl⟩ := arg_struct Tryd.underlying34 (hval 0 _ _ rfl rfl)
  obtain ⟨c1, rfl⟩ := arg_struct Tryd.underlying37 (hval 1 _ _ rfl rfl)
  simp only [List.append_nil, DataW.weightsEach, List.all_append, Bool.and_eq_true, List.all_eq_true, decide_eq_true_eq] at hw
  obtain ⟨n0, h0'⟩ := h0
  obtain ⟨n1, h1'⟩ := h1
  obtain ⟨s, hs, _⟩ := rd_step n0 _ _ _ h0' hw.1
  obtain ⟨a, ha, ha0, ha1, ha2⟩ := rd_ans n1 _ _ _ h1' hw.2
  have hz : ∀ i, (a.acts.getD i default).task.size ≤ 140737488355328 ∧ (a.acts.getD i default).node.size ≤ 140737488355328 := by
    intro i
    by_cases hi : i < a.acts.length
    · have := ha2 i hi
      simp only [reachBytes] at this
      omega
    · rw [List.getD_eq_getElem?_getD, List.getElem?_eq_none (by omega)]
      decide
  refine ((law_conT s a ha0 ha1 hz).2 W (roW W) (ghW W) [.agg c0, .agg c1] (table hL) (inv_begin _ _ _ rfl) (.cons (rep_arg hs) (.cons (rep_arg ha) .nil))).mono fun e W' he => ?_
  obtain ⟨v, x, hp', γ', rfl, ⟨rfl, rfl⟩, hI', hr, _⟩ := he
  have hr : v = .bool true := hr
  subst hr
  refine ⟨_, rfl, ?_⟩
  exact law_post rfl rfl (by kernel_rfl) Tryd.underlying4 (by kernel_rfl) (by intro t ht; rw [Tryd.params3] at ht; simp at ht; rcases ht with rfl | rfl <;> exact ⟨by kernel_rfl, of_decide_eq_true (by kernel_rfl)⟩) hW0 (inv_cxM_more hI')
/-- the arguments of the witness -/
def arg0 : Value := .agg #[.int .i64 0, .int .i64 0, .int .i64 0, .string ⟨#[]⟩, .int .i64 0, .string ⟨#[]⟩, .int .i64 0, .int .i64 0, .int .i64 0, .slice none 0 0, .string ⟨#[]⟩, .int .i64 0, .int .i64 0, .int .i64 0, .string ⟨#[]⟩, .string ⟨#[]⟩, .int .i64 0, .int .i64 0, .int .i64 0, .int .i64 0, .slice none 0 0, .string ⟨#[]⟩, .string ⟨#[]⟩, .int .i64 0, .string ⟨#[]⟩]
def arg1 : Value := .agg #[.int .i64 0, .slice none 0 0, .int .i64 0]
def tab32 : List Int := [0, 1, 28, 2, 29, 14, 24, 3, 30, 22, 20, 15, 25, 17, 4, 8, 31, 27, 13, 23, 21, 19, 16, 7, 26, 12, 18, 6, 11, 5, 10, 9]
def tab64 : List Int := [0, 1, 56, 2, 57, 49, 28, 3, 61, 58, 42, 50, 38, 29, 17, 4, 62, 47, 59, 36, 45, 43, 51, 22, 53, 39, 33, 30, 24, 18, 12, 5, 63, 55, 48, 27, 60, 41, 37, 16, 46, 35, 44, 21, 52, 32, 23, 11, 54, 26, 40, 15, 34, 20, 31, 10, 25, 14, 19, 9, 13, 8, 7, 6]
def setCells (l : Array Value) : Obj → Obj
  | .cells _ t frozen => .cells l t frozen
  | o => o
/-- a world for the witness: the settled one, the tables holding what their initialisers lay -/
noncomputable def laidWorld (os : Os) : World :=
  { World.holding Tryd.prog os ⟨#[], #[], []⟩ with
    heap := (((World.holding Tryd.prog os ⟨#[], #[], []⟩).heap.modify 0 (setCells (Lib.pow10Tab.map fun z => Value.int .u64 z).toArray)).modify 1 (setCells (tab32.map fun z => Value.int .u8 z).toArray)).modify 2 (setCells (tab64.map fun z => Value.int .u8 z).toArray) }
theorem laid_met (os : Os) : laidMet Tryd.prog Rows.scriptLinesRow.laid ((laidWorld os).forCall (fun _ _ => 0) ⟨#[], #[arg0, arg1], []⟩).memory :=
  laidMet_of_run' 8 (by kernel_rfl) (by kernel_rfl)
def i0 {H : Type} : DataW H := .lit (.int .i64 0)
def s0 {H : Type} : DataW H := .lit (.string [])
def r0 {H : Type} : DataW H := .agg [i0, i0, i0]
def d0 {H : Type} : DataW H := .agg [i0, i0, i0, s0, .agg [i0, .agg [s0, r0, .nil], .agg [s0, r0], .agg [s0, s0, i0, r0, .nil, s0, s0, i0], s0]]
def d1 {H : Type} : DataW H := .agg [i0, .nil, i0]
theorem reads (os : Os) {H : Type} (enc : TypeId × Value → H) : ∃ places, DataW.whole enc Tryd.prog ((laidWorld os).forCall (fun _ _ => 0) ⟨#[], #[arg0, arg1], []⟩).memory Tryd.f3.params.toList Rows.scriptLinesSpec.vars false #[arg0, arg1].toList 8 = some ([d0, d1], [], places) :=
  ⟨[], by kernel_rfl⟩
theorem lifted (os : Os) (started : os.Started) (H : Type) (enc : TypeId × Value → H) (F : Stop.Interp) :
    ReturnsInHanded {} Tryd.checked os 3 .any ((OpenSpec.ofChange Rows.scriptLinesSpec).preRow enc Tryd.prog Tryd.f3 Rows.scriptLinesRow.domain false Rows.scriptLinesRow.laid) (((OpenSpec.ofChange Rows.scriptLinesSpec).at F).post enc Tryd.prog Tryd.f3 false true false false) := by
  obtain ⟨places, hx⟩ := reads os enc
  refine returnsInHanded_of_row (C := Tryd.checked) (s := OpenSpec.ofChange Rows.scriptLinesSpec) own started (by kernel_rfl) Tryd.func3
    (witness_row_at (enc := enc) (C := Tryd.checked) false (laidWorld os) #[arg0, arg1] rfl (by kernel_rfl) (by kernel_rfl) (by kernel_rfl)
      (OpenSpec.preRow_of_cond 8 hx (by kernel_rfl) (fun k hk => by cases hk) (by kernel_rfl) (laid_met os))) ?_
  intro W base args ds gs before hval hW _ _ hw hL _ _
  exact contract H enc W base args ds gs before hval hW hw hL
theorem said : Rows.ScriptLinesSaid :=
  OpenClaim.holds_of_cond 3 Tryd.f3 rfl rfl rfl rfl rfl rfl rfl ⟨rfl, rfl, rfl, rfl, rfl⟩ rfl rfl rfl rfl rfl (by kernel_rfl) Tryd.func3 (by kernel_rfl)
    (of_decide_eq_true (by kernel_rfl)) (by unfold Func.isWrapper; first | (rw [if_pos (by decide +kernel)]; kernel_rfl) | (rw [if_neg (by decide +kernel)]; exact ⟨rfl, rfl⟩))
    (fun os started H enc _ F => by rw [OpenClaim.pre_eq_preRow]; exact lifted os started H enc F)
theorem plain (f : FuncId) (fn : Func) (hf : Tryd.pinned.checked.prog.funcNamed "interregnum/interregnumlaw27.ScriptLines" = some f) (hfn : Tryd.pinned.checked.prog.funcs[f]? = some fn) :
    false = Tryd.pinned.checked.prog.looks [] ∧ ∀ (j : Nat) t, fn.params[j]? = some t → Tryd.pinned.checked.prog.wantsStandIn t = false := by
  obtain rfl : f = 3 := Option.some.inj ((show Tryd.prog.funcNamed "interregnum/interregnumlaw27.ScriptLines" = some 3 by kernel_rfl).symm.trans hf) |>.symm
  obtain rfl : fn = Tryd.f3 := (Option.some.inj (Tryd.func3.symm.trans hfn)).symm
  refine ⟨by kernel_rfl, fun j t ht => ?_⟩
  rw [Tryd.params3] at ht
  have := Array.mem_of_getElem? ht
  simp at this
  rcases this with rfl | rfl
  · exact (show Tryd.prog.wantsStandIn 34 = false by kernel_rfl)
  · exact (show Tryd.prog.wantsStandIn 37 = false by kernel_rfl)
/-- THE CARD -/
theorem card : Rows.ScriptLinesCardSaid :=
  Claim7.holds_tied_plain_at .later [] _ _ _ _ said (fun _ h => by cases h) (by kernel_rfl) (fun _ h => by cases h) scriptLines_row_tie rfl ⟨rfl, rfl⟩ (by kernel_rfl) rfl plain (by kernel_rfl)
end Go.Proofs.YtpaklnjfcjcdaaaDoor.fnScriptLines
namespace Go.Proofs.YtpaklnjfcjcdaaaDoor
theorem scriptLines_card : Rows.ScriptLinesCardSaid := fnScriptLines.card
end Go.Proofs.YtpaklnjfcjcdaaaDoor
