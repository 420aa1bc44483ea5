/- What the laws of this seat share: the arguments' types, the measure of what is read. -/
import Derived.Test.YtnmecdecebdfiaaDoorVP23T
import Derived.Test.YtnmecdecebdfiaaDoorVJ09
import Derived.Test.YtnmecdecebdfiaaDoorRows
set_option linter.unusedVariables false
namespace Go.Proofs.YtnmecdecebdfiaaDoor
open Go.V
theorem encAll_cons {f : TypeId × Nat} {fs : List (TypeId × Nat)} {l : List (A PU)} (h : EncAll PE (f :: fs) l) : ∃ x l2, l = PE.enc f.1 x :: l2 ∧ EncAll PE fs l2 := by
  cases l with
  | nil => exact h.elim
  | cons a l => obtain ⟨⟨x, rfl⟩, h2⟩ := h; exact ⟨x, l, rfl, h2⟩
theorem encAll_nil {l : List (A PU)} (h : EncAll PE [] l) : l = [] := by
  cases l with
  | nil => rfl
  | cons a l => exact h.elim
def Ds : List Nat := [3, 5, 9, 22, 23, 25, 27, 28, 29, 31, 33]
theorem hD : ∀ e ∈ Ds, DataT PE Ds e :=
  List.forall_mem_cons.2 ⟨fun n => ⟨n, rfl⟩,
  List.forall_mem_cons.2 ⟨fun n => ⟨n, rfl⟩,
  List.forall_mem_cons.2 ⟨fun n => ⟨n, rfl⟩,
  List.forall_mem_cons.2 ⟨fun n => ⟨n, rfl⟩,
  List.forall_mem_cons.2 ⟨fun n => ⟨n, rfl⟩,
  List.forall_mem_cons.2 ⟨⟨by decide, by decide, fun l _ => ⟨l, rfl⟩⟩,
  List.forall_mem_cons.2 ⟨⟨by decide, rfl, fun l h0 => by
    obtain ⟨x0, _, rfl, h1⟩ := encAll_cons h0
    obtain ⟨x1, _, rfl, h2⟩ := encAll_cons h1
    obtain ⟨x2, _, rfl, h3⟩ := encAll_cons h2
    obtain ⟨x3, _, rfl, h4⟩ := encAll_cons h3
    obtain ⟨x4, _, rfl, h5⟩ := encAll_cons h4
    obtain ⟨x5, _, rfl, h6⟩ := encAll_cons h5
    obtain ⟨x6, _, rfl, h7⟩ := encAll_cons h6
    cases encAll_nil h7
    exact ⟨S_api_Command.mk x0 x1 x2 x3 x4 x5 x6, rfl⟩⟩,
  List.forall_mem_cons.2 ⟨fun n => ⟨n, rfl⟩,
  List.forall_mem_cons.2 ⟨fun n => ⟨n, rfl⟩,
  List.forall_mem_cons.2 ⟨⟨by decide, rfl, fun l h0 => by
    obtain ⟨x0, _, rfl, h1⟩ := encAll_cons h0
    obtain ⟨x1, _, rfl, h2⟩ := encAll_cons h1
    cases encAll_nil h2
    exact ⟨S_api_Change.mk x0 x1, rfl⟩⟩,
  List.forall_mem_cons.2 ⟨⟨by decide, rfl, fun l h0 => by
    obtain ⟨x0, _, rfl, h1⟩ := encAll_cons h0
    obtain ⟨x1, _, rfl, h2⟩ := encAll_cons h1
    obtain ⟨x2, _, rfl, h3⟩ := encAll_cons h2
    obtain ⟨x3, _, rfl, h4⟩ := encAll_cons h3
    obtain ⟨x4, _, rfl, h5⟩ := encAll_cons h4
    obtain ⟨x5, _, rfl, h6⟩ := encAll_cons h5
    obtain ⟨x6, _, rfl, h7⟩ := encAll_cons h6
    obtain ⟨x7, _, rfl, h8⟩ := encAll_cons h7
    cases encAll_nil h8
    exact ⟨S_api_Act.mk x0 x1 x2 x3 x4 x5 x6 x7, rfl⟩⟩,
  (fun _ h => nomatch h)⟩⟩⟩⟩⟩⟩⟩⟩⟩⟩⟩
theorem all_sum {H : Type} : ∀ l : List (DataW H), Rows.uptoBulkAll l = (l.map Rows.uptoBulk).sum
  | [] => by simp [Rows.uptoBulkAll]
  | d :: l => by simp [Rows.uptoBulkAll, all_sum l]
theorem hB (H : Type) : Bulk (Rows.uptoBulk (H := H)) where
  str s := by simp [Rows.uptoBulk]
  one d := by
    cases d with
    | lit l => cases l <;> simp [Rows.uptoBulk]
    | _ => simp [Rows.uptoBulk]
  sl l m := by rw [← all_sum]; simp only [Rows.uptoBulk]; omega
  agg l := by rw [← all_sum]; simp only [Rows.uptoBulk]; omega
theorem own : ownKnob Tryd.prog.godebug = none := by kernel_rfl
theorem laidOut : laidOutB Tryd.prog = true := by kernel_rfl
theorem p_maps : mapsRowed Tryd.prog = true := by kernel_rfl
theorem p_heard : Tryd.prog.stopsHeard = true := by kernel_rfl
theorem p_enter : Tryd.prog.mayEnter = true := by kernel_rfl
theorem p_lifts : (Rows.deskParsesRow.lifted == Tryd.prog.liftsFinal) = true := by kernel_rfl
theorem p_make : (Tryd.prog.make == some Rows.deskParsesRow.make) = true := by kernel_rfl
theorem p_keys : (Rows.deskParsesRow.plainKeys == Tryd.prog.plainKeys) = true := by kernel_rfl
end Go.Proofs.YtnmecdecebdfiaaDoor
