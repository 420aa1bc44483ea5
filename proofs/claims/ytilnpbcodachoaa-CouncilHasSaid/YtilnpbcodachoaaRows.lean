/-
  No cell of these rows narrows 'for every input' (looked for: loops, veiled, ifaces, maps, wideKeys, modest, calm, conditions, laid).
  DERIVED. THE GIVEN ROWS OF THIS SEAT. 6 by the template 'for every input the law returns true; each argument reads behind the call as it read before'; 0 by the template 'total and deterministic' (their statements: YtilnpbcodachoaaTotals.lean).
  GIVEN WITH THE SEED: the statements are not yours to turn. If you find one false, say at which input.
  Laid BY PROGRAM, IN A SANDBOX (cutbox-rows.mjs): the forced cells as the released guide's own fill.sh prints them over the translation 1091b8b557703478… (all of the seat's roots in one cut). By AI agents, Wed Nov 11 2026. No macro, syntax, notation, axiom, sorry.
-/
import Derived.Test.YtilnpbcodachoaaChecked
import GoSem.Claim
import GoSem.ClaimJoined
import GoSem.ClaimMapViews
import Derived.JoinedTies
import Derived.KernelRfl
namespace Go.Proofs.Ytilnpbcodachoaa
/- THE CELL 'sum', in the pinned program and in every row, IS THE sha256 OF THE DUMP (.gsa) THAT YtilnpbcodachoaaProg.lean LOADS. Nothing in Lean hashes anything: it is a label: what it is worth is what the hold of that sum in a sandbox is worth. -/
noncomputable def Try.pinned : Pinned := { name := "ytilnpbcodachoaa", sum := "1091b8b55770347882e9e41a6a7a4a27d0295289423e6df034df81d4e8c6e9f0", checked := Try.checked }
namespace Rows
def none {H : Type} : Left H := { results := [], args := [] }

/-- 'tabellionlaw15.CouncilChanges': WHATEVER THE INPUT: true; the input reads as it did. -/
def councilChangesSpec : ChangeSpec := { name := "councilChanges", fn := fun _ => fun
  | [d1, d2] => { results := [.lit (.bool true)], args := [d1, d2] }
  | _ => none }
def councilChangesRow : OpenClaim := { program := "ytilnpbcodachoaa", sum := "1091b8b55770347882e9e41a6a7a4a27d0295289423e6df034df81d4e8c6e9f0", func := "tabellion/tabellionlaw15.CouncilChanges", spec := "councilChanges", apart := false }
def CouncilChangesSaid : Prop := councilChangesRow.holds Try.pinned (OpenSpec.ofChange councilChangesSpec)

/-- ITS FALSE NEIGHBOUR: 'it returns false'. Refute it at one input. -/
def councilChangesWrong : ChangeSpec := { name := "councilChanges", fn := fun _ => fun
  | [d1, d2] => { results := [.lit (.bool false)], args := [d1, d2] }
  | _ => none }
def CouncilChangesWrongFalsely : Prop := councilChangesRow.holds Try.pinned (OpenSpec.ofChange councilChangesWrong)

/-- 'tabellionlaw15.CouncilAsks': WHATEVER THE INPUT: true; the input reads as it did. -/
def councilAsksSpec : ChangeSpec := { name := "councilAsks", fn := fun _ => fun
  | [d1, d2, d3] => { results := [.lit (.bool true)], args := [d1, d2, d3] }
  | _ => none }
def councilAsksRow : OpenClaim := { program := "ytilnpbcodachoaa", sum := "1091b8b55770347882e9e41a6a7a4a27d0295289423e6df034df81d4e8c6e9f0", func := "tabellion/tabellionlaw15.CouncilAsks", spec := "councilAsks", apart := false }
def CouncilAsksSaid : Prop := councilAsksRow.holds Try.pinned (OpenSpec.ofChange councilAsksSpec)

/-- ITS FALSE NEIGHBOUR: 'it returns false'. Refute it at one input. -/
def councilAsksWrong : ChangeSpec := { name := "councilAsks", fn := fun _ => fun
  | [d1, d2, d3] => { results := [.lit (.bool false)], args := [d1, d2, d3] }
  | _ => none }
def CouncilAsksWrongFalsely : Prop := councilAsksRow.holds Try.pinned (OpenSpec.ofChange councilAsksWrong)

/-- 'tabellionlaw15.CouncilMeets': WHATEVER THE INPUT: true; the input reads as it did. -/
def councilMeetsSpec : ChangeSpec := { name := "councilMeets", fn := fun _ => fun
  | [d1, d2, d3, d4] => { results := [.lit (.bool true)], args := [d1, d2, d3, d4] }
  | _ => none }
def councilMeetsRow : OpenClaim := { program := "ytilnpbcodachoaa", sum := "1091b8b55770347882e9e41a6a7a4a27d0295289423e6df034df81d4e8c6e9f0", func := "tabellion/tabellionlaw15.CouncilMeets", spec := "councilMeets", apart := false }
def CouncilMeetsSaid : Prop := councilMeetsRow.holds Try.pinned (OpenSpec.ofChange councilMeetsSpec)

/-- ITS FALSE NEIGHBOUR: 'it returns false'. Refute it at one input. -/
def councilMeetsWrong : ChangeSpec := { name := "councilMeets", fn := fun _ => fun
  | [d1, d2, d3, d4] => { results := [.lit (.bool false)], args := [d1, d2, d3, d4] }
  | _ => none }
def CouncilMeetsWrongFalsely : Prop := councilMeetsRow.holds Try.pinned (OpenSpec.ofChange councilMeetsWrong)

/-- 'tabellionlaw15.CouncilBack': WHATEVER THE INPUT: true; the input reads as it did. -/
def councilBackSpec : ChangeSpec := { name := "councilBack", fn := fun _ => fun
  | [d1, d2] => { results := [.lit (.bool true)], args := [d1, d2] }
  | _ => none }
def councilBackRow : OpenClaim := { program := "ytilnpbcodachoaa", sum := "1091b8b55770347882e9e41a6a7a4a27d0295289423e6df034df81d4e8c6e9f0", func := "tabellion/tabellionlaw15.CouncilBack", spec := "councilBack", apart := false }
def CouncilBackSaid : Prop := councilBackRow.holds Try.pinned (OpenSpec.ofChange councilBackSpec)

/-- ITS FALSE NEIGHBOUR: 'it returns false'. Refute it at one input. -/
def councilBackWrong : ChangeSpec := { name := "councilBack", fn := fun _ => fun
  | [d1, d2] => { results := [.lit (.bool false)], args := [d1, d2] }
  | _ => none }
def CouncilBackWrongFalsely : Prop := councilBackRow.holds Try.pinned (OpenSpec.ofChange councilBackWrong)

/-- 'tabellionlaw15.CouncilSure': WHATEVER THE INPUT: true; the input reads as it did. -/
def councilSureSpec : ChangeSpec := { name := "councilSure", fn := fun _ => fun
  | [d1, d2, d3] => { results := [.lit (.bool true)], args := [d1, d2, d3] }
  | _ => none }
def councilSureRow : OpenClaim := { program := "ytilnpbcodachoaa", sum := "1091b8b55770347882e9e41a6a7a4a27d0295289423e6df034df81d4e8c6e9f0", func := "tabellion/tabellionlaw15.CouncilSure", spec := "councilSure", unfollowed := true, recurses := true, apart := false }
def CouncilSureSaid : Prop := councilSureRow.holds Try.pinned (OpenSpec.ofChange councilSureSpec)

/-- ITS FALSE NEIGHBOUR: 'it returns false'. Refute it at one input. -/
def councilSureWrong : ChangeSpec := { name := "councilSure", fn := fun _ => fun
  | [d1, d2, d3] => { results := [.lit (.bool false)], args := [d1, d2, d3] }
  | _ => none }
def CouncilSureWrongFalsely : Prop := councilSureRow.holds Try.pinned (OpenSpec.ofChange councilSureWrong)

/-- 'tabellionlaw15.CouncilHas': WHATEVER THE INPUT: true; the input reads as it did. -/
def councilHasSpec : ChangeSpec := { name := "councilHas", fn := fun _ => fun
  | [d1, d2, d3] => { results := [.lit (.bool true)], args := [d1, d2, d3] }
  | _ => none }
def councilHasRow : OpenClaim := { program := "ytilnpbcodachoaa", sum := "1091b8b55770347882e9e41a6a7a4a27d0295289423e6df034df81d4e8c6e9f0", func := "tabellion/tabellionlaw15.CouncilHas", spec := "councilHas", unfollowed := true, recurses := true, apart := false }
def CouncilHasSaid : Prop := councilHasRow.holds Try.pinned (OpenSpec.ofChange councilHasSpec)

/-- ITS FALSE NEIGHBOUR: 'it returns false'. Refute it at one input. -/
def councilHasWrong : ChangeSpec := { name := "councilHas", fn := fun _ => fun
  | [d1, d2, d3] => { results := [.lit (.bool false)], args := [d1, d2, d3] }
  | _ => none }
def CouncilHasWrongFalsely : Prop := councilHasRow.holds Try.pinned (OpenSpec.ofChange councilHasWrong)

/- THE SECOND FORM. 'bulk': how many values and letters a reading holds, each counted each time it is reached (what is shared counts as often as it is met; a slice's spare places count too). A statement '..UptoSaid' is the law's where the arguments, and the package variables that the reading takes, are together of bulk at most 1048576: NARROWER than '..Said'. Prove '..Said' where nothing that the law and all that it calls make is longer than what came in: it says more and counts as full. Else prove '..UptoSaid'. A law counts once. -/
mutual
def uptoBulk {H : Type} : DataW H → Nat
  | .lit (.string bytes) => bytes.length + 1
  | .lit _ => 1
  | .nil => 1
  | .ptr d => uptoBulk d + 1
  | .slice elems spare => uptoBulkAll elems + uptoBulkAll spare + 1
  | .agg parts => uptoBulkAll parts + 1
  | .iface _ d => uptoBulk d + 1
  | .map entries => uptoBulkEntries entries + 1
  | .held _ => 1
def uptoBulkAll {H : Type} : List (DataW H) → Nat
  | [] => 0
  | d :: r => uptoBulk d + uptoBulkAll r
def uptoBulkEntries {H : Type} : List (Lit × DataW H) → Nat
  | [] => 0
  | x :: r => uptoBulkEntry x + uptoBulkEntries r
def uptoBulkEntry {H : Type} : Lit × DataW H → Nat
  | (.string bytes, d) => bytes.length + uptoBulk d + 1
  | (_, d) => uptoBulk d + 1
 end
def uptoSmall : (H : Type) → List (DataW H) → Bool := fun _ ds => decide (uptoBulkAll ds ≤ 1048576)
def OpenSpec.upto (s : _root_.Go.ChangeSpec) : _root_.Go.OpenSpec := { _root_.Go.OpenSpec.ofChange s with cond := some uptoSmall }

/-- 'tabellionlaw15.CouncilChanges', WHERE WHAT IT READS IS OF BULK AT MOST 1048576: true; the input reads as it did. -/
def councilChangesUptoRow : OpenClaim := { program := "ytilnpbcodachoaa", sum := "1091b8b55770347882e9e41a6a7a4a27d0295289423e6df034df81d4e8c6e9f0", func := "tabellion/tabellionlaw15.CouncilChanges", spec := "councilChanges", apart := false, narrowed := true }
def CouncilChangesUptoSaid : Prop := councilChangesUptoRow.holds Try.pinned (OpenSpec.upto councilChangesSpec)

/-- 'tabellionlaw15.CouncilAsks', WHERE WHAT IT READS IS OF BULK AT MOST 1048576: true; the input reads as it did. -/
def councilAsksUptoRow : OpenClaim := { program := "ytilnpbcodachoaa", sum := "1091b8b55770347882e9e41a6a7a4a27d0295289423e6df034df81d4e8c6e9f0", func := "tabellion/tabellionlaw15.CouncilAsks", spec := "councilAsks", apart := false, narrowed := true }
def CouncilAsksUptoSaid : Prop := councilAsksUptoRow.holds Try.pinned (OpenSpec.upto councilAsksSpec)

/-- 'tabellionlaw15.CouncilMeets', WHERE WHAT IT READS IS OF BULK AT MOST 1048576: true; the input reads as it did. -/
def councilMeetsUptoRow : OpenClaim := { program := "ytilnpbcodachoaa", sum := "1091b8b55770347882e9e41a6a7a4a27d0295289423e6df034df81d4e8c6e9f0", func := "tabellion/tabellionlaw15.CouncilMeets", spec := "councilMeets", apart := false, narrowed := true }
def CouncilMeetsUptoSaid : Prop := councilMeetsUptoRow.holds Try.pinned (OpenSpec.upto councilMeetsSpec)

/-- 'tabellionlaw15.CouncilBack', WHERE WHAT IT READS IS OF BULK AT MOST 1048576: true; the input reads as it did. -/
def councilBackUptoRow : OpenClaim := { program := "ytilnpbcodachoaa", sum := "1091b8b55770347882e9e41a6a7a4a27d0295289423e6df034df81d4e8c6e9f0", func := "tabellion/tabellionlaw15.CouncilBack", spec := "councilBack", apart := false, narrowed := true }
def CouncilBackUptoSaid : Prop := councilBackUptoRow.holds Try.pinned (OpenSpec.upto councilBackSpec)

/-- 'tabellionlaw15.CouncilSure', WHERE WHAT IT READS IS OF BULK AT MOST 1048576: true; the input reads as it did. -/
def councilSureUptoRow : OpenClaim := { program := "ytilnpbcodachoaa", sum := "1091b8b55770347882e9e41a6a7a4a27d0295289423e6df034df81d4e8c6e9f0", func := "tabellion/tabellionlaw15.CouncilSure", spec := "councilSure", unfollowed := true, recurses := true, apart := false, narrowed := true }
def CouncilSureUptoSaid : Prop := councilSureUptoRow.holds Try.pinned (OpenSpec.upto councilSureSpec)

/-- 'tabellionlaw15.CouncilHas', WHERE WHAT IT READS IS OF BULK AT MOST 1048576: true; the input reads as it did. -/
def councilHasUptoRow : OpenClaim := { program := "ytilnpbcodachoaa", sum := "1091b8b55770347882e9e41a6a7a4a27d0295289423e6df034df81d4e8c6e9f0", func := "tabellion/tabellionlaw15.CouncilHas", spec := "councilHas", unfollowed := true, recurses := true, apart := false, narrowed := true }
def CouncilHasUptoSaid : Prop := councilHasUptoRow.holds Try.pinned (OpenSpec.upto councilHasSpec)

end Rows
end Go.Proofs.Ytilnpbcodachoaa
