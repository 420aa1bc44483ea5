/- What the laws of this seat share: the arguments' types, the measure of what is read. -/
import Derived.Test.YtgeonfbhejigjaaGreatDoorVI10T
import Derived.Test.YtgeonfbhejigjaaGreatDoorVJ09
import Derived.Test.YtgeonfbhejigjaaGreatDoorRows
set_option linter.unusedVariables false
namespace Go.Proofs.YtgeonfbhejigjaaGreatDoor
open Go.V
def Ds : List Nat := [3, 5, 9, 22, 23, 24, 26, 29, 34, 38, 40, 41, 43, 45, 47, 65, 68]
theorem hD : ∀ e ∈ Ds, DataT PE Ds e :=
  List.forall_mem_cons.2 ⟨fun n => ⟨n, rfl⟩,
  List.forall_mem_cons.2 ⟨fun n => ⟨n, rfl⟩,
  List.forall_mem_cons.2 ⟨fun n => ⟨n, rfl⟩,
  List.forall_mem_cons.2 ⟨⟨by decide, by decide, fun l => ⟨l, rfl⟩⟩,
  List.forall_mem_cons.2 ⟨⟨by decide, by decide, fun l => ⟨l, rfl⟩⟩,
  List.forall_mem_cons.2 ⟨⟨by decide, by decide, fun l => ⟨l, rfl⟩⟩,
  List.forall_mem_cons.2 ⟨⟨by decide, rfl, fun l h => by
    match l, h with
    | [_, _, _, _], ⟨⟨x0, rfl⟩, ⟨x1, rfl⟩, ⟨x2, rfl⟩, ⟨x3, rfl⟩, _⟩ => exact ⟨S_api_Directory.mk x0 x1 x2 x3, rfl⟩⟩,
  List.forall_mem_cons.2 ⟨⟨by decide, by decide, fun l _ => ⟨l, rfl⟩⟩,
  List.forall_mem_cons.2 ⟨fun n => ⟨n, rfl⟩,
  List.forall_mem_cons.2 ⟨⟨by decide, by decide, fun l => ⟨l, rfl⟩⟩,
  List.forall_mem_cons.2 ⟨⟨by decide, rfl, fun l h => by
    match l, h with
    | [_, _], ⟨⟨x0, rfl⟩, ⟨x1, rfl⟩, _⟩ => exact ⟨S_api_User.mk x0 x1, rfl⟩⟩,
  List.forall_mem_cons.2 ⟨fun n => ⟨n, rfl⟩,
  List.forall_mem_cons.2 ⟨⟨by decide, rfl, fun l h => by
    match l, h with
    | [_, _, _], ⟨⟨x0, rfl⟩, ⟨x1, rfl⟩, ⟨x2, rfl⟩, _⟩ => exact ⟨S_api_Version.mk x0 x1 x2, rfl⟩⟩,
  List.forall_mem_cons.2 ⟨⟨by decide, rfl, fun l h => by
    match l, h with
    | [_, _, _], ⟨⟨x0, rfl⟩, ⟨x1, rfl⟩, ⟨x2, rfl⟩, _⟩ => exact ⟨S_api_Head.mk x0 x1 x2, rfl⟩⟩,
  List.forall_mem_cons.2 ⟨⟨by decide, rfl, fun l h => by
    match l, h with
    | [_, _, _, _], ⟨⟨x0, rfl⟩, ⟨x1, rfl⟩, ⟨x2, rfl⟩, ⟨x3, rfl⟩, _⟩ => exact ⟨S_api_Session.mk x0 x1 x2 x3, rfl⟩⟩,
  List.forall_mem_cons.2 ⟨⟨by decide, by decide, fun l => ⟨l, rfl⟩⟩,
  List.forall_mem_cons.2 ⟨⟨by decide, rfl, fun l h => by
    match l, h with
    | [_, _], ⟨⟨x0, rfl⟩, ⟨x1, rfl⟩, _⟩ => exact ⟨S_api_Signed.mk x0 x1, rfl⟩⟩,
  (fun _ h => nomatch h)⟩⟩⟩⟩⟩⟩⟩⟩⟩⟩⟩⟩⟩⟩⟩⟩⟩
theorem all_sum {H : Type} : ∀ l : List (DataW H), Rows.uptoBulkAll l = (l.map Rows.uptoBulk).sum
  | [] => by simp [Rows.uptoBulkAll]
  | d :: l => by simp [Rows.uptoBulkAll, all_sum l]
theorem hB (H : Type) : Bulk (Rows.uptoBulk (H := H)) where
  str s := by simp [Rows.uptoBulk]
  one d := by
    cases d with
    | lit l => cases l <;> simp [Rows.uptoBulk]
    | _ => simp [Rows.uptoBulk]
  sl l m := by rw [← all_sum]; simp only [Rows.uptoBulk]; omega
  agg l := by rw [← all_sum]; simp only [Rows.uptoBulk]; omega
theorem own : ownKnob Tryz.prog.godebug = none := by kernel_rfl
theorem laidOut : laidOutB Tryz.prog = true := by kernel_rfl
theorem p_maps : mapsRowed Tryz.prog = true := by kernel_rfl
theorem p_heard : Tryz.prog.stopsHeard = true := by kernel_rfl
theorem p_enter : Tryz.prog.mayEnter = true := by kernel_rfl
theorem p_lifts : (Rows.directoryLooksRow.lifted == Tryz.prog.liftsFinal) = true := by kernel_rfl
theorem p_make : (Tryz.prog.make == some Rows.directoryLooksRow.make) = true := by kernel_rfl
theorem p_keys : (Rows.directoryLooksRow.plainKeys == Tryz.prog.plainKeys) = true := by kernel_rfl
end Go.Proofs.YtgeonfbhejigjaaGreatDoor
