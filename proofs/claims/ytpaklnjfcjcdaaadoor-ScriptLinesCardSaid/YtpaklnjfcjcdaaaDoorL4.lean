/- The law's arguments, read as data. Own work. -/
import Derived.Test.YtpaklnjfcjcdaaaDoorL3
import Derived.Test.YtpaklnjfcjcdaaaDoorSXW
namespace Go.SX
open Go.Proofs
set_option linter.unusedSimpArgs false
set_option linter.unusedVariables false
set_option maxRecDepth 20000
section
variable {H : Type} {enc : TypeId × Value → H} {w : World}
theorem rd_label : Rd enc Tryd.prog w 74 labelD (fun l => l.key.size ≤ reachBytes ∧ l.val.size ≤ reachBytes) :=
  (rd_struct (L := 2) Tryd.underlying74 (by kernel_rfl) (rdF_cons (rd_str Tryd.underlying9) rfl (k := 1) (by kernel_rfl) (rdF_cons (rd_str Tryd.underlying9) rfl (k := 1) (by kernel_rfl) (rdF_nil (by omega))))).map (fun a => (⟨a.1, a.2.1⟩ : Label)) (fun _ => rfl) (fun a h => ⟨h.1, h.2.1⟩)
theorem rd_labels : Rd enc Tryd.prog w 24 (fun l => [slD labelD 2 l]) (fun l => l.length * 32 ≤ reachBytes ∧ ∀ i, i < l.length → (l.getD i default).key.size ≤ reachBytes ∧ (l.getD i default).val.size ≤ reachBytes) :=
  rd_slice rd_label Tryd.underlying24 (by kernel_rfl) (by decide) (by kernel_rfl)
theorem rd_res : Rd enc Tryd.prog w 23 resD (fun _ => True) :=
  (rd_arr3 Tryd.underlying23 Tryd.underlying3 (by kernel_rfl) (by kernel_rfl)).map (fun n => (⟨n.1, n.2.1, n.2.2⟩ : Res)) (fun _ => rfl) (fun _ _ => trivial)
theorem rd_node : Rd enc Tryd.prog w 26 nodeD (fun _ => True) :=
  (rd_struct (L := 5) Tryd.underlying26 (by kernel_rfl) (rdF_cons (rd_str Tryd.underlying9) rfl (k := 1) (by kernel_rfl) (rdF_cons rd_res rfl (k := 3) (by kernel_rfl) (rdF_cons rd_labels rfl (k := 1) (by kernel_rfl) (rdF_nil (by omega)))))).map
    (fun a => (⟨a.1, a.2.1, a.2.2.1⟩ : Node)) (fun _ => rfl) (fun _ _ => trivial)
theorem rd_queue : Rd enc Tryd.prog w 28 queueD (fun _ => True) :=
  (rd_struct (L := 4) Tryd.underlying28 (by kernel_rfl) (rdF_cons (rd_str Tryd.underlying9) rfl (k := 1) (by kernel_rfl) (rdF_cons rd_res rfl (k := 3) (by kernel_rfl) (rdF_nil (by omega))))).map
    (fun a => (⟨a.1, a.2.1⟩ : Queue)) (fun _ => rfl) (fun _ _ => trivial)
theorem rd_task : Rd enc Tryd.prog w 30 taskD (fun _ => True) :=
  (rd_struct (L := 10) Tryd.underlying30 (by kernel_rfl) (rdF_cons (rd_str Tryd.underlying9) rfl (k := 1) (by kernel_rfl) (rdF_cons (rd_str Tryd.underlying9) rfl (k := 1) (by kernel_rfl) (rdF_cons (rd_int Tryd.underlying3) rfl (k := 1) (by kernel_rfl)
    (rdF_cons rd_res rfl (k := 3) (by kernel_rfl) (rdF_cons rd_labels rfl (k := 1) (by kernel_rfl) (rdF_cons (rd_str Tryd.underlying9) rfl (k := 1) (by kernel_rfl) (rdF_cons (rd_str Tryd.underlying9) rfl (k := 1) (by kernel_rfl)
    (rdF_cons (rd_int Tryd.underlying3) rfl (k := 1) (by kernel_rfl) (rdF_nil (by omega))))))))))).map
    (fun a => (⟨a.1, a.2.1, a.2.2.1, a.2.2.2.1, a.2.2.2.2.1, a.2.2.2.2.2.1, a.2.2.2.2.2.2.1, a.2.2.2.2.2.2.2.1⟩ : Task)) (fun _ => rfl) (fun _ _ => trivial)
theorem rd_op : Rd enc Tryd.prog w 32 opD (fun _ => True) :=
  (rd_struct (L := 21) Tryd.underlying32 (by kernel_rfl) (rdF_cons (rd_int Tryd.underlying3) rfl (k := 1) (by kernel_rfl) (rdF_cons rd_node rfl (k := 5) (by kernel_rfl) (rdF_cons rd_queue rfl (k := 4) (by kernel_rfl)
    (rdF_cons rd_task rfl (k := 10) (by kernel_rfl) (rdF_cons (rd_str Tryd.underlying9) rfl (k := 1) (by kernel_rfl) (rdF_nil (by omega)))))))).map
    (fun a => (⟨a.1, a.2.1, a.2.2.1, a.2.2.2.1, a.2.2.2.2.1⟩ : Op')) (fun _ => rfl) (fun _ _ => trivial)
theorem rd_act : Rd enc Tryd.prog w 52 actD (fun a => a.task.size ≤ reachBytes ∧ a.node.size ≤ reachBytes) :=
  (rd_struct (L := 3) Tryd.underlying52 (by kernel_rfl) (rdF_cons (rd_int Tryd.underlying3) rfl (k := 1) (by kernel_rfl) (rdF_cons (rd_str Tryd.underlying9) rfl (k := 1) (by kernel_rfl) (rdF_cons (rd_str Tryd.underlying9) rfl (k := 1) (by kernel_rfl) (rdF_nil (by omega)))))).map
    (fun a => (⟨a.1, a.2.1, a.2.2.1⟩ : Act')) (fun _ => rfl) (fun _ h => ⟨h.2.1, h.2.2.1⟩)
theorem rd_acts : Rd enc Tryd.prog w 35 (fun l => [slD actD 3 l]) (fun l => l.length * 40 ≤ reachBytes ∧ ∀ i, i < l.length → (l.getD i default).task.size ≤ reachBytes ∧ (l.getD i default).node.size ≤ reachBytes) :=
  rd_slice rd_act Tryd.underlying35 (by kernel_rfl) (by decide) (by kernel_rfl)
theorem rd_step : Rd enc Tryd.prog w 34 stepD (fun _ => True) :=
  (rd_struct (L := 25) Tryd.underlying34 (by kernel_rfl) (rdF_cons (rd_int Tryd.underlying3) rfl (k := 1) (by kernel_rfl) (rdF_cons (rd_int Tryd.underlying3) rfl (k := 1) (by kernel_rfl) (rdF_cons (rd_int Tryd.underlying3) rfl (k := 1) (by kernel_rfl)
    (rdF_cons (rd_str Tryd.underlying9) rfl (k := 1) (by kernel_rfl) (rdF_cons rd_op rfl (k := 21) (by kernel_rfl) (rdF_nil (by omega)))))))).map
    (fun a => (⟨a.1, a.2.1, a.2.2.1, a.2.2.2.1, a.2.2.2.2.1⟩ : Step')) (fun _ => rfl) (fun _ _ => trivial)
theorem rd_ans : Rd enc Tryd.prog w 37 ansD (fun a => -9223372036854775808 ≤ a.n ∧ a.n ≤ 9223372036854775807 ∧ ∀ i, i < a.acts.length → (a.acts.getD i default).task.size ≤ reachBytes ∧ (a.acts.getD i default).node.size ≤ reachBytes) :=
  (rd_struct (L := 3) Tryd.underlying37 (by kernel_rfl) (rdF_cons (rd_int Tryd.underlying3) rfl (k := 1) (by kernel_rfl) (rdF_cons rd_acts rfl (k := 1) (by kernel_rfl) (rdF_cons (rd_int Tryd.underlying3) rfl (k := 1) (by kernel_rfl) (rdF_nil (by omega)))))).map
    (fun a => (⟨a.1, a.2.1, a.2.2.1⟩ : Ans')) (fun _ => rfl) (fun _ h => ⟨h.2.2.1.1, h.2.2.1.2, h.2.1.2⟩)
end
end Go.SX
