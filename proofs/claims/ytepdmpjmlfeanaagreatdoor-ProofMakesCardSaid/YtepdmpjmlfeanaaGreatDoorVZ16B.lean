/- What the laws of this seat share: the arguments' types, the measure of what is read. -/
import Derived.Test.YtepdmpjmlfeanaaGreatDoorVZ16T
import Derived.Test.YtepdmpjmlfeanaaGreatDoorVJ11
import Derived.Test.YtepdmpjmlfeanaaGreatDoorRows
set_option linter.unusedVariables false
namespace Go.Proofs.YtepdmpjmlfeanaaGreatDoor
open Go.V
def Ds : List Nat := [3, 5, 22, 24, 42]
theorem hD : ∀ e ∈ Ds, DataT PE Ds e :=
  List.forall_mem_cons.2 ⟨fun n => ⟨n, rfl⟩,
  List.forall_mem_cons.2 ⟨fun n => ⟨n, rfl⟩,
  List.forall_mem_cons.2 ⟨⟨by decide, by decide, fun l => ⟨l, rfl⟩⟩,
  List.forall_mem_cons.2 ⟨⟨by decide, by decide, fun l _ => ⟨l, rfl⟩⟩,
  List.forall_mem_cons.2 ⟨⟨by decide, rfl, fun l h => by
    match l, h with
    | [_, _], ⟨⟨x0, rfl⟩, ⟨x1, rfl⟩, _⟩ => exact ⟨S_api_Leaf.mk x0 x1, rfl⟩⟩,
  (fun _ h => nomatch h)⟩⟩⟩⟩⟩
theorem all_sum {H : Type} : ∀ l : List (DataW H), Rows.uptoBulkAll l = (l.map Rows.uptoBulk).sum
  | [] => by simp [Rows.uptoBulkAll]
  | d :: l => by simp [Rows.uptoBulkAll, all_sum l]
theorem hB (H : Type) : Bulk (Rows.uptoBulk (H := H)) where
  str s := by simp [Rows.uptoBulk]
  one d := by
    cases d with
    | lit l => cases l <;> simp [Rows.uptoBulk]
    | _ => simp [Rows.uptoBulk]
  sl l m := by rw [← all_sum]; simp only [Rows.uptoBulk]; omega
  agg l := by rw [← all_sum]; simp only [Rows.uptoBulk]; omega
theorem own : ownKnob Tryz.prog.godebug = none := by kernel_rfl
theorem laidOut : laidOutB Tryz.prog = true := by kernel_rfl
end Go.Proofs.YtepdmpjmlfeanaaGreatDoor
