/-
  NARROWER THAN 'FOR EVERY INPUT', by the rows' own cells (each row's printed sentence says how): SmtRoots: laid · SmtOrder: laid · SmtShort: laid · SmtBack: laid · SmtFull: laid · SmtNil: laid · SmtGrows: laid · SmtBatches: laid.
  DERIVED. THE GIVEN ROWS OF THIS SEAT. 8 by the template 'for every input the law returns true; each argument reads behind the call as it read before'; 0 by the template 'total and deterministic' (their statements: YtdpmcnhdmhanbaaDoorTotals.lean).
  GIVEN WITH THE SEED: the statements are not yours to turn. If you find one false, say at which input.
  Laid BY PROGRAM, IN A SANDBOX (cutbox-rows.mjs): the forced cells as the released guide's own fill.sh prints them over the translation ce8cf18dac95ad0d… (all of the seat's roots in one cut). By AI agents, Wed Nov 11 2026. No macro, syntax, notation, axiom, sorry.
-/
import Derived.Test.YtdpmcnhdmhanbaaDoorChecked
import GoSem.Claim
import GoSem.ClaimJoined
import GoSem.ClaimMapViews
import Derived.JoinedTies
import Derived.KernelRfl
namespace Go.Proofs.YtdpmcnhdmhanbaaDoor
/- THE CELL 'sum', in the pinned program and in every row, IS THE sha256 OF THE DUMP (.gsa) THAT YtdpmcnhdmhanbaaDoorProg.lean LOADS. Nothing in Lean hashes anything: it is a label: what it is worth is what the hold of that sum in a sandbox is worth. -/
noncomputable def Tryd.pinned : Pinned := { name := "ytdpmcnhdmhanbaadoor", sum := "ce8cf18dac95ad0d3661482a6712c3cd10055a61f7aa3cf95f55a82118cc4bf2", checked := Tryd.checked }
namespace Rows
def none {H : Type} : Left H := { results := [], args := [] }

/- WHAT THE LISTED PACKAGE-LEVEL VARIABLES READ AS WHEN THE CALL BEGINS. Each datum BY PROGRAM (the guide's laid-datum.mjs) off the statement by which the dump's own 'gosem.cut.vars' lays the variable. In a bare row this is a premise. The card (YtdpmcnhdmhanbaaDoorCards.lean) ties it to the program's text. -/
def laid_tabellion_sha_keys {H : Type} : DataW H := .agg [.lit (.int .u32 1116352408), .lit (.int .u32 1899447441), .lit (.int .u32 3049323471), .lit (.int .u32 3921009573), .lit (.int .u32 961987163), .lit (.int .u32 1508970993), .lit (.int .u32 2453635748), .lit (.int .u32 2870763221), .lit (.int .u32 3624381080), .lit (.int .u32 310598401), .lit (.int .u32 607225278), .lit (.int .u32 1426881987), .lit (.int .u32 1925078388), .lit (.int .u32 2162078206), .lit (.int .u32 2614888103), .lit (.int .u32 3248222580), .lit (.int .u32 3835390401), .lit (.int .u32 4022224774), .lit (.int .u32 264347078), .lit (.int .u32 604807628), .lit (.int .u32 770255983), .lit (.int .u32 1249150122), .lit (.int .u32 1555081692), .lit (.int .u32 1996064986), .lit (.int .u32 2554220882), .lit (.int .u32 2821834349), .lit (.int .u32 2952996808), .lit (.int .u32 3210313671), .lit (.int .u32 3336571891), .lit (.int .u32 3584528711), .lit (.int .u32 113926993), .lit (.int .u32 338241895), .lit (.int .u32 666307205), .lit (.int .u32 773529912), .lit (.int .u32 1294757372), .lit (.int .u32 1396182291), .lit (.int .u32 1695183700), .lit (.int .u32 1986661051), .lit (.int .u32 2177026350), .lit (.int .u32 2456956037), .lit (.int .u32 2730485921), .lit (.int .u32 2820302411), .lit (.int .u32 3259730800), .lit (.int .u32 3345764771), .lit (.int .u32 3516065817), .lit (.int .u32 3600352804), .lit (.int .u32 4094571909), .lit (.int .u32 275423344), .lit (.int .u32 430227734), .lit (.int .u32 506948616), .lit (.int .u32 659060556), .lit (.int .u32 883997877), .lit (.int .u32 958139571), .lit (.int .u32 1322822218), .lit (.int .u32 1537002063), .lit (.int .u32 1747873779), .lit (.int .u32 1955562222), .lit (.int .u32 2024104815), .lit (.int .u32 2227730452), .lit (.int .u32 2361852424), .lit (.int .u32 2428436474), .lit (.int .u32 2756734187), .lit (.int .u32 3204031479), .lit (.int .u32 3329325298)]
def laid_tabellion_tabellionref02_key {H : Type} : DataW H := .agg [.lit (.int .u32 1116352408), .lit (.int .u32 1899447441), .lit (.int .u32 3049323471), .lit (.int .u32 3921009573), .lit (.int .u32 961987163), .lit (.int .u32 1508970993), .lit (.int .u32 2453635748), .lit (.int .u32 2870763221), .lit (.int .u32 3624381080), .lit (.int .u32 310598401), .lit (.int .u32 607225278), .lit (.int .u32 1426881987), .lit (.int .u32 1925078388), .lit (.int .u32 2162078206), .lit (.int .u32 2614888103), .lit (.int .u32 3248222580), .lit (.int .u32 3835390401), .lit (.int .u32 4022224774), .lit (.int .u32 264347078), .lit (.int .u32 604807628), .lit (.int .u32 770255983), .lit (.int .u32 1249150122), .lit (.int .u32 1555081692), .lit (.int .u32 1996064986), .lit (.int .u32 2554220882), .lit (.int .u32 2821834349), .lit (.int .u32 2952996808), .lit (.int .u32 3210313671), .lit (.int .u32 3336571891), .lit (.int .u32 3584528711), .lit (.int .u32 113926993), .lit (.int .u32 338241895), .lit (.int .u32 666307205), .lit (.int .u32 773529912), .lit (.int .u32 1294757372), .lit (.int .u32 1396182291), .lit (.int .u32 1695183700), .lit (.int .u32 1986661051), .lit (.int .u32 2177026350), .lit (.int .u32 2456956037), .lit (.int .u32 2730485921), .lit (.int .u32 2820302411), .lit (.int .u32 3259730800), .lit (.int .u32 3345764771), .lit (.int .u32 3516065817), .lit (.int .u32 3600352804), .lit (.int .u32 4094571909), .lit (.int .u32 275423344), .lit (.int .u32 430227734), .lit (.int .u32 506948616), .lit (.int .u32 659060556), .lit (.int .u32 883997877), .lit (.int .u32 958139571), .lit (.int .u32 1322822218), .lit (.int .u32 1537002063), .lit (.int .u32 1747873779), .lit (.int .u32 1955562222), .lit (.int .u32 2024104815), .lit (.int .u32 2227730452), .lit (.int .u32 2361852424), .lit (.int .u32 2428436474), .lit (.int .u32 2756734187), .lit (.int .u32 3204031479), .lit (.int .u32 3329325298)]

/-- 'tabellionlaw05.SmtRoots': WHATEVER THE INPUT: true; the input reads as it did. -/
def smtRootsSpec : ChangeSpec := { name := "smtRoots", fn := fun _ => fun
  | [d1, d2] => { results := [.lit (.bool true)], args := [d1, d2] }
  | _ => none }
def smtRootsRow : OpenClaim := { program := "ytdpmcnhdmhanbaadoor", sum := "ce8cf18dac95ad0d3661482a6712c3cd10055a61f7aa3cf95f55a82118cc4bf2", func := "tabellion/tabellionlaw05.SmtRoots", spec := "smtRoots", inPlace := ["sync/atomic.LoadUint32", "(*internal/sync.Mutex).Lock", "internal/race.Disable", "sync/atomic.CompareAndSwapInt32", "internal/race.Enable", "internal/race.Acquire", "(*internal/sync.Mutex).lockSlow", "internal/sync.runtime_canSpin", "internal/sync.runtime_doSpin", "internal/sync.throw", "internal/sync.runtime_nanotime", "internal/sync.runtime_SemacquireMutex", "sync/atomic.AddInt32", "(*internal/sync.Mutex).Unlock", "internal/race.ReleaseMerge", "(*internal/sync.Mutex).unlockSlow", "internal/sync.fatal", "internal/sync.runtime_Semrelease", "sync/atomic.StoreUint32"], unfollowed := true, recurses := true, named := ["tabellion/sha.keys", "tabellion/tabellionref02.key"], apart := false, laid := [("tabellion/sha.keys", laid_tabellion_sha_keys), ("tabellion/tabellionref02.key", laid_tabellion_tabellionref02_key)] }
def SmtRootsSaid : Prop := smtRootsRow.holds Tryd.pinned (OpenSpec.ofChange smtRootsSpec)

/-- ITS FALSE NEIGHBOUR: 'it returns false'. Refute it at one input. -/
def smtRootsWrong : ChangeSpec := { name := "smtRoots", fn := fun _ => fun
  | [d1, d2] => { results := [.lit (.bool false)], args := [d1, d2] }
  | _ => none }
def SmtRootsWrongFalsely : Prop := smtRootsRow.holds Tryd.pinned (OpenSpec.ofChange smtRootsWrong)

/-- 'tabellionlaw05.SmtOrder': WHATEVER THE INPUT: true; the input reads as it did. -/
def smtOrderSpec : ChangeSpec := { name := "smtOrder", fn := fun _ => fun
  | [d1, d2, d3] => { results := [.lit (.bool true)], args := [d1, d2, d3] }
  | _ => none }
def smtOrderRow : OpenClaim := { program := "ytdpmcnhdmhanbaadoor", sum := "ce8cf18dac95ad0d3661482a6712c3cd10055a61f7aa3cf95f55a82118cc4bf2", func := "tabellion/tabellionlaw05.SmtOrder", spec := "smtOrder", inPlace := ["sync/atomic.LoadUint32", "(*internal/sync.Mutex).Lock", "internal/race.Disable", "sync/atomic.CompareAndSwapInt32", "internal/race.Enable", "internal/race.Acquire", "(*internal/sync.Mutex).lockSlow", "internal/sync.runtime_canSpin", "internal/sync.runtime_doSpin", "internal/sync.throw", "internal/sync.runtime_nanotime", "internal/sync.runtime_SemacquireMutex", "sync/atomic.AddInt32", "(*internal/sync.Mutex).Unlock", "internal/race.ReleaseMerge", "(*internal/sync.Mutex).unlockSlow", "internal/sync.fatal", "internal/sync.runtime_Semrelease", "sync/atomic.StoreUint32"], unfollowed := true, recurses := true, named := ["tabellion/sha.keys"], apart := false, laid := [("tabellion/sha.keys", laid_tabellion_sha_keys)] }
def SmtOrderSaid : Prop := smtOrderRow.holds Tryd.pinned (OpenSpec.ofChange smtOrderSpec)

/-- ITS FALSE NEIGHBOUR: 'it returns false'. Refute it at one input. -/
def smtOrderWrong : ChangeSpec := { name := "smtOrder", fn := fun _ => fun
  | [d1, d2, d3] => { results := [.lit (.bool false)], args := [d1, d2, d3] }
  | _ => none }
def SmtOrderWrongFalsely : Prop := smtOrderRow.holds Tryd.pinned (OpenSpec.ofChange smtOrderWrong)

/-- 'tabellionlaw05.SmtShort': WHATEVER THE INPUT: true; the input reads as it did. -/
def smtShortSpec : ChangeSpec := { name := "smtShort", fn := fun _ => fun
  | [d1, d2, d3, d4, d5] => { results := [.lit (.bool true)], args := [d1, d2, d3, d4, d5] }
  | _ => none }
def smtShortRow : OpenClaim := { program := "ytdpmcnhdmhanbaadoor", sum := "ce8cf18dac95ad0d3661482a6712c3cd10055a61f7aa3cf95f55a82118cc4bf2", func := "tabellion/tabellionlaw05.SmtShort", spec := "smtShort", inPlace := ["sync/atomic.LoadUint32", "(*internal/sync.Mutex).Lock", "internal/race.Disable", "sync/atomic.CompareAndSwapInt32", "internal/race.Enable", "internal/race.Acquire", "(*internal/sync.Mutex).lockSlow", "internal/sync.runtime_canSpin", "internal/sync.runtime_doSpin", "internal/sync.throw", "internal/sync.runtime_nanotime", "internal/sync.runtime_SemacquireMutex", "sync/atomic.AddInt32", "(*internal/sync.Mutex).Unlock", "internal/race.ReleaseMerge", "(*internal/sync.Mutex).unlockSlow", "internal/sync.fatal", "internal/sync.runtime_Semrelease", "sync/atomic.StoreUint32"], unfollowed := true, recurses := true, named := ["tabellion/sha.keys", "tabellion/tabellionref02.key"], apart := false, laid := [("tabellion/sha.keys", laid_tabellion_sha_keys), ("tabellion/tabellionref02.key", laid_tabellion_tabellionref02_key)] }
def SmtShortSaid : Prop := smtShortRow.holds Tryd.pinned (OpenSpec.ofChange smtShortSpec)

/-- ITS FALSE NEIGHBOUR: 'it returns false'. Refute it at one input. -/
def smtShortWrong : ChangeSpec := { name := "smtShort", fn := fun _ => fun
  | [d1, d2, d3, d4, d5] => { results := [.lit (.bool false)], args := [d1, d2, d3, d4, d5] }
  | _ => none }
def SmtShortWrongFalsely : Prop := smtShortRow.holds Tryd.pinned (OpenSpec.ofChange smtShortWrong)

/-- 'tabellionlaw05.SmtBack': WHATEVER THE INPUT: true; the input reads as it did. -/
def smtBackSpec : ChangeSpec := { name := "smtBack", fn := fun _ => fun
  | [d1, d2, d3] => { results := [.lit (.bool true)], args := [d1, d2, d3] }
  | _ => none }
def smtBackRow : OpenClaim := { program := "ytdpmcnhdmhanbaadoor", sum := "ce8cf18dac95ad0d3661482a6712c3cd10055a61f7aa3cf95f55a82118cc4bf2", func := "tabellion/tabellionlaw05.SmtBack", spec := "smtBack", inPlace := ["sync/atomic.LoadUint32", "(*internal/sync.Mutex).Lock", "internal/race.Disable", "sync/atomic.CompareAndSwapInt32", "internal/race.Enable", "internal/race.Acquire", "(*internal/sync.Mutex).lockSlow", "internal/sync.runtime_canSpin", "internal/sync.runtime_doSpin", "internal/sync.throw", "internal/sync.runtime_nanotime", "internal/sync.runtime_SemacquireMutex", "sync/atomic.AddInt32", "(*internal/sync.Mutex).Unlock", "internal/race.ReleaseMerge", "(*internal/sync.Mutex).unlockSlow", "internal/sync.fatal", "internal/sync.runtime_Semrelease", "sync/atomic.StoreUint32"], unfollowed := true, recurses := true, named := ["tabellion/sha.keys"], apart := false, laid := [("tabellion/sha.keys", laid_tabellion_sha_keys)] }
def SmtBackSaid : Prop := smtBackRow.holds Tryd.pinned (OpenSpec.ofChange smtBackSpec)

/-- ITS FALSE NEIGHBOUR: 'it returns false'. Refute it at one input. -/
def smtBackWrong : ChangeSpec := { name := "smtBack", fn := fun _ => fun
  | [d1, d2, d3] => { results := [.lit (.bool false)], args := [d1, d2, d3] }
  | _ => none }
def SmtBackWrongFalsely : Prop := smtBackRow.holds Tryd.pinned (OpenSpec.ofChange smtBackWrong)

/-- 'tabellionlaw05.SmtFull': WHATEVER THE INPUT: true; the input reads as it did. -/
def smtFullSpec : ChangeSpec := { name := "smtFull", fn := fun _ => fun
  | [d1, d2] => { results := [.lit (.bool true)], args := [d1, d2] }
  | _ => none }
def smtFullRow : OpenClaim := { program := "ytdpmcnhdmhanbaadoor", sum := "ce8cf18dac95ad0d3661482a6712c3cd10055a61f7aa3cf95f55a82118cc4bf2", func := "tabellion/tabellionlaw05.SmtFull", spec := "smtFull", inPlace := ["sync/atomic.LoadUint32", "(*internal/sync.Mutex).Lock", "internal/race.Disable", "sync/atomic.CompareAndSwapInt32", "internal/race.Enable", "internal/race.Acquire", "(*internal/sync.Mutex).lockSlow", "internal/sync.runtime_canSpin", "internal/sync.runtime_doSpin", "internal/sync.throw", "internal/sync.runtime_nanotime", "internal/sync.runtime_SemacquireMutex", "sync/atomic.AddInt32", "(*internal/sync.Mutex).Unlock", "internal/race.ReleaseMerge", "(*internal/sync.Mutex).unlockSlow", "internal/sync.fatal", "internal/sync.runtime_Semrelease", "sync/atomic.StoreUint32"], unfollowed := true, recurses := true, named := ["tabellion/sha.keys"], apart := false, laid := [("tabellion/sha.keys", laid_tabellion_sha_keys)] }
def SmtFullSaid : Prop := smtFullRow.holds Tryd.pinned (OpenSpec.ofChange smtFullSpec)

/-- ITS FALSE NEIGHBOUR: 'it returns false'. Refute it at one input. -/
def smtFullWrong : ChangeSpec := { name := "smtFull", fn := fun _ => fun
  | [d1, d2] => { results := [.lit (.bool false)], args := [d1, d2] }
  | _ => none }
def SmtFullWrongFalsely : Prop := smtFullRow.holds Tryd.pinned (OpenSpec.ofChange smtFullWrong)

/-- 'tabellionlaw05.SmtNil': WHATEVER THE INPUT: true; the input reads as it did. -/
def smtNilSpec : ChangeSpec := { name := "smtNil", fn := fun _ => fun
  | [d1, d2] => { results := [.lit (.bool true)], args := [d1, d2] }
  | _ => none }
def smtNilRow : OpenClaim := { program := "ytdpmcnhdmhanbaadoor", sum := "ce8cf18dac95ad0d3661482a6712c3cd10055a61f7aa3cf95f55a82118cc4bf2", func := "tabellion/tabellionlaw05.SmtNil", spec := "smtNil", inPlace := ["sync/atomic.LoadUint32", "(*internal/sync.Mutex).Lock", "internal/race.Disable", "sync/atomic.CompareAndSwapInt32", "internal/race.Enable", "internal/race.Acquire", "(*internal/sync.Mutex).lockSlow", "internal/sync.runtime_canSpin", "internal/sync.runtime_doSpin", "internal/sync.throw", "internal/sync.runtime_nanotime", "internal/sync.runtime_SemacquireMutex", "sync/atomic.AddInt32", "(*internal/sync.Mutex).Unlock", "internal/race.ReleaseMerge", "(*internal/sync.Mutex).unlockSlow", "internal/sync.fatal", "internal/sync.runtime_Semrelease", "sync/atomic.StoreUint32"], unfollowed := true, recurses := true, named := ["tabellion/sha.keys"], apart := false, laid := [("tabellion/sha.keys", laid_tabellion_sha_keys)] }
def SmtNilSaid : Prop := smtNilRow.holds Tryd.pinned (OpenSpec.ofChange smtNilSpec)

/-- ITS FALSE NEIGHBOUR: 'it returns false'. Refute it at one input. -/
def smtNilWrong : ChangeSpec := { name := "smtNil", fn := fun _ => fun
  | [d1, d2] => { results := [.lit (.bool false)], args := [d1, d2] }
  | _ => none }
def SmtNilWrongFalsely : Prop := smtNilRow.holds Tryd.pinned (OpenSpec.ofChange smtNilWrong)

/-- 'tabellionlaw05.SmtGrows': WHATEVER THE INPUT: true; the input reads as it did. -/
def smtGrowsSpec : ChangeSpec := { name := "smtGrows", fn := fun _ => fun
  | [d1, d2, d3] => { results := [.lit (.bool true)], args := [d1, d2, d3] }
  | _ => none }
def smtGrowsRow : OpenClaim := { program := "ytdpmcnhdmhanbaadoor", sum := "ce8cf18dac95ad0d3661482a6712c3cd10055a61f7aa3cf95f55a82118cc4bf2", func := "tabellion/tabellionlaw05.SmtGrows", spec := "smtGrows", inPlace := ["sync/atomic.LoadUint32", "(*internal/sync.Mutex).Lock", "internal/race.Disable", "sync/atomic.CompareAndSwapInt32", "internal/race.Enable", "internal/race.Acquire", "(*internal/sync.Mutex).lockSlow", "internal/sync.runtime_canSpin", "internal/sync.runtime_doSpin", "internal/sync.throw", "internal/sync.runtime_nanotime", "internal/sync.runtime_SemacquireMutex", "sync/atomic.AddInt32", "(*internal/sync.Mutex).Unlock", "internal/race.ReleaseMerge", "(*internal/sync.Mutex).unlockSlow", "internal/sync.fatal", "internal/sync.runtime_Semrelease", "sync/atomic.StoreUint32"], unfollowed := true, recurses := true, named := ["tabellion/sha.keys"], apart := false, laid := [("tabellion/sha.keys", laid_tabellion_sha_keys)] }
def SmtGrowsSaid : Prop := smtGrowsRow.holds Tryd.pinned (OpenSpec.ofChange smtGrowsSpec)

/-- ITS FALSE NEIGHBOUR: 'it returns false'. Refute it at one input. -/
def smtGrowsWrong : ChangeSpec := { name := "smtGrows", fn := fun _ => fun
  | [d1, d2, d3] => { results := [.lit (.bool false)], args := [d1, d2, d3] }
  | _ => none }
def SmtGrowsWrongFalsely : Prop := smtGrowsRow.holds Tryd.pinned (OpenSpec.ofChange smtGrowsWrong)

/-- 'tabellionlaw05.SmtBatches': WHATEVER THE INPUT: true; the input reads as it did. -/
def smtBatchesSpec : ChangeSpec := { name := "smtBatches", fn := fun _ => fun
  | [d1, d2, d3] => { results := [.lit (.bool true)], args := [d1, d2, d3] }
  | _ => none }
def smtBatchesRow : OpenClaim := { program := "ytdpmcnhdmhanbaadoor", sum := "ce8cf18dac95ad0d3661482a6712c3cd10055a61f7aa3cf95f55a82118cc4bf2", func := "tabellion/tabellionlaw05.SmtBatches", spec := "smtBatches", inPlace := ["sync/atomic.LoadUint32", "(*internal/sync.Mutex).Lock", "internal/race.Disable", "sync/atomic.CompareAndSwapInt32", "internal/race.Enable", "internal/race.Acquire", "(*internal/sync.Mutex).lockSlow", "internal/sync.runtime_canSpin", "internal/sync.runtime_doSpin", "internal/sync.throw", "internal/sync.runtime_nanotime", "internal/sync.runtime_SemacquireMutex", "sync/atomic.AddInt32", "(*internal/sync.Mutex).Unlock", "internal/race.ReleaseMerge", "(*internal/sync.Mutex).unlockSlow", "internal/sync.fatal", "internal/sync.runtime_Semrelease", "sync/atomic.StoreUint32"], unfollowed := true, recurses := true, named := ["tabellion/sha.keys"], apart := false, laid := [("tabellion/sha.keys", laid_tabellion_sha_keys)] }
def SmtBatchesSaid : Prop := smtBatchesRow.holds Tryd.pinned (OpenSpec.ofChange smtBatchesSpec)

/-- ITS FALSE NEIGHBOUR: 'it returns false'. Refute it at one input. -/
def smtBatchesWrong : ChangeSpec := { name := "smtBatches", fn := fun _ => fun
  | [d1, d2, d3] => { results := [.lit (.bool false)], args := [d1, d2, d3] }
  | _ => none }
def SmtBatchesWrongFalsely : Prop := smtBatchesRow.holds Tryd.pinned (OpenSpec.ofChange smtBatchesWrong)

/- THE SECOND FORM. 'bulk': how many values and letters a reading holds, each counted each time it is reached (what is shared counts as often as it is met; a slice's spare places count too). A statement '..UptoSaid' is the law's where the arguments, and the package variables that the reading takes, are together of bulk at most 1048576: NARROWER than '..Said'. Prove '..Said' where nothing that the law and all that it calls make is longer than what came in: it says more and counts as full. Else prove '..UptoSaid'. A law counts once. -/
mutual
def uptoBulk {H : Type} : DataW H → Nat
  | .lit (.string bytes) => bytes.length + 1
  | .lit _ => 1
  | .nil => 1
  | .ptr d => uptoBulk d + 1
  | .slice elems spare => uptoBulkAll elems + uptoBulkAll spare + 1
  | .agg parts => uptoBulkAll parts + 1
  | .iface _ d => uptoBulk d + 1
  | .map entries => uptoBulkEntries entries + 1
  | .held _ => 1
def uptoBulkAll {H : Type} : List (DataW H) → Nat
  | [] => 0
  | d :: r => uptoBulk d + uptoBulkAll r
def uptoBulkEntries {H : Type} : List (Lit × DataW H) → Nat
  | [] => 0
  | x :: r => uptoBulkEntry x + uptoBulkEntries r
def uptoBulkEntry {H : Type} : Lit × DataW H → Nat
  | (.string bytes, d) => bytes.length + uptoBulk d + 1
  | (_, d) => uptoBulk d + 1
 end
def uptoSmall : (H : Type) → List (DataW H) → Bool := fun _ ds => decide (uptoBulkAll ds ≤ 1048576)
def OpenSpec.upto (s : _root_.Go.ChangeSpec) : _root_.Go.OpenSpec := { _root_.Go.OpenSpec.ofChange s with cond := some uptoSmall }

/-- 'tabellionlaw05.SmtRoots', WHERE WHAT IT READS IS OF BULK AT MOST 1048576: true; the input reads as it did. -/
def smtRootsUptoRow : OpenClaim := { program := "ytdpmcnhdmhanbaadoor", sum := "ce8cf18dac95ad0d3661482a6712c3cd10055a61f7aa3cf95f55a82118cc4bf2", func := "tabellion/tabellionlaw05.SmtRoots", spec := "smtRoots", inPlace := ["sync/atomic.LoadUint32", "(*internal/sync.Mutex).Lock", "internal/race.Disable", "sync/atomic.CompareAndSwapInt32", "internal/race.Enable", "internal/race.Acquire", "(*internal/sync.Mutex).lockSlow", "internal/sync.runtime_canSpin", "internal/sync.runtime_doSpin", "internal/sync.throw", "internal/sync.runtime_nanotime", "internal/sync.runtime_SemacquireMutex", "sync/atomic.AddInt32", "(*internal/sync.Mutex).Unlock", "internal/race.ReleaseMerge", "(*internal/sync.Mutex).unlockSlow", "internal/sync.fatal", "internal/sync.runtime_Semrelease", "sync/atomic.StoreUint32"], unfollowed := true, recurses := true, named := ["tabellion/sha.keys", "tabellion/tabellionref02.key"], apart := false, laid := [("tabellion/sha.keys", laid_tabellion_sha_keys), ("tabellion/tabellionref02.key", laid_tabellion_tabellionref02_key)], narrowed := true }
def SmtRootsUptoSaid : Prop := smtRootsUptoRow.holds Tryd.pinned (OpenSpec.upto smtRootsSpec)

/-- 'tabellionlaw05.SmtOrder', WHERE WHAT IT READS IS OF BULK AT MOST 1048576: true; the input reads as it did. -/
def smtOrderUptoRow : OpenClaim := { program := "ytdpmcnhdmhanbaadoor", sum := "ce8cf18dac95ad0d3661482a6712c3cd10055a61f7aa3cf95f55a82118cc4bf2", func := "tabellion/tabellionlaw05.SmtOrder", spec := "smtOrder", inPlace := ["sync/atomic.LoadUint32", "(*internal/sync.Mutex).Lock", "internal/race.Disable", "sync/atomic.CompareAndSwapInt32", "internal/race.Enable", "internal/race.Acquire", "(*internal/sync.Mutex).lockSlow", "internal/sync.runtime_canSpin", "internal/sync.runtime_doSpin", "internal/sync.throw", "internal/sync.runtime_nanotime", "internal/sync.runtime_SemacquireMutex", "sync/atomic.AddInt32", "(*internal/sync.Mutex).Unlock", "internal/race.ReleaseMerge", "(*internal/sync.Mutex).unlockSlow", "internal/sync.fatal", "internal/sync.runtime_Semrelease", "sync/atomic.StoreUint32"], unfollowed := true, recurses := true, named := ["tabellion/sha.keys"], apart := false, laid := [("tabellion/sha.keys", laid_tabellion_sha_keys)], narrowed := true }
def SmtOrderUptoSaid : Prop := smtOrderUptoRow.holds Tryd.pinned (OpenSpec.upto smtOrderSpec)

/-- 'tabellionlaw05.SmtShort', WHERE WHAT IT READS IS OF BULK AT MOST 1048576: true; the input reads as it did. -/
def smtShortUptoRow : OpenClaim := { program := "ytdpmcnhdmhanbaadoor", sum := "ce8cf18dac95ad0d3661482a6712c3cd10055a61f7aa3cf95f55a82118cc4bf2", func := "tabellion/tabellionlaw05.SmtShort", spec := "smtShort", inPlace := ["sync/atomic.LoadUint32", "(*internal/sync.Mutex).Lock", "internal/race.Disable", "sync/atomic.CompareAndSwapInt32", "internal/race.Enable", "internal/race.Acquire", "(*internal/sync.Mutex).lockSlow", "internal/sync.runtime_canSpin", "internal/sync.runtime_doSpin", "internal/sync.throw", "internal/sync.runtime_nanotime", "internal/sync.runtime_SemacquireMutex", "sync/atomic.AddInt32", "(*internal/sync.Mutex).Unlock", "internal/race.ReleaseMerge", "(*internal/sync.Mutex).unlockSlow", "internal/sync.fatal", "internal/sync.runtime_Semrelease", "sync/atomic.StoreUint32"], unfollowed := true, recurses := true, named := ["tabellion/sha.keys", "tabellion/tabellionref02.key"], apart := false, laid := [("tabellion/sha.keys", laid_tabellion_sha_keys), ("tabellion/tabellionref02.key", laid_tabellion_tabellionref02_key)], narrowed := true }
def SmtShortUptoSaid : Prop := smtShortUptoRow.holds Tryd.pinned (OpenSpec.upto smtShortSpec)

/-- 'tabellionlaw05.SmtBack', WHERE WHAT IT READS IS OF BULK AT MOST 1048576: true; the input reads as it did. -/
def smtBackUptoRow : OpenClaim := { program := "ytdpmcnhdmhanbaadoor", sum := "ce8cf18dac95ad0d3661482a6712c3cd10055a61f7aa3cf95f55a82118cc4bf2", func := "tabellion/tabellionlaw05.SmtBack", spec := "smtBack", inPlace := ["sync/atomic.LoadUint32", "(*internal/sync.Mutex).Lock", "internal/race.Disable", "sync/atomic.CompareAndSwapInt32", "internal/race.Enable", "internal/race.Acquire", "(*internal/sync.Mutex).lockSlow", "internal/sync.runtime_canSpin", "internal/sync.runtime_doSpin", "internal/sync.throw", "internal/sync.runtime_nanotime", "internal/sync.runtime_SemacquireMutex", "sync/atomic.AddInt32", "(*internal/sync.Mutex).Unlock", "internal/race.ReleaseMerge", "(*internal/sync.Mutex).unlockSlow", "internal/sync.fatal", "internal/sync.runtime_Semrelease", "sync/atomic.StoreUint32"], unfollowed := true, recurses := true, named := ["tabellion/sha.keys"], apart := false, laid := [("tabellion/sha.keys", laid_tabellion_sha_keys)], narrowed := true }
def SmtBackUptoSaid : Prop := smtBackUptoRow.holds Tryd.pinned (OpenSpec.upto smtBackSpec)

/-- 'tabellionlaw05.SmtFull', WHERE WHAT IT READS IS OF BULK AT MOST 1048576: true; the input reads as it did. -/
def smtFullUptoRow : OpenClaim := { program := "ytdpmcnhdmhanbaadoor", sum := "ce8cf18dac95ad0d3661482a6712c3cd10055a61f7aa3cf95f55a82118cc4bf2", func := "tabellion/tabellionlaw05.SmtFull", spec := "smtFull", inPlace := ["sync/atomic.LoadUint32", "(*internal/sync.Mutex).Lock", "internal/race.Disable", "sync/atomic.CompareAndSwapInt32", "internal/race.Enable", "internal/race.Acquire", "(*internal/sync.Mutex).lockSlow", "internal/sync.runtime_canSpin", "internal/sync.runtime_doSpin", "internal/sync.throw", "internal/sync.runtime_nanotime", "internal/sync.runtime_SemacquireMutex", "sync/atomic.AddInt32", "(*internal/sync.Mutex).Unlock", "internal/race.ReleaseMerge", "(*internal/sync.Mutex).unlockSlow", "internal/sync.fatal", "internal/sync.runtime_Semrelease", "sync/atomic.StoreUint32"], unfollowed := true, recurses := true, named := ["tabellion/sha.keys"], apart := false, laid := [("tabellion/sha.keys", laid_tabellion_sha_keys)], narrowed := true }
def SmtFullUptoSaid : Prop := smtFullUptoRow.holds Tryd.pinned (OpenSpec.upto smtFullSpec)

/-- 'tabellionlaw05.SmtNil', WHERE WHAT IT READS IS OF BULK AT MOST 1048576: true; the input reads as it did. -/
def smtNilUptoRow : OpenClaim := { program := "ytdpmcnhdmhanbaadoor", sum := "ce8cf18dac95ad0d3661482a6712c3cd10055a61f7aa3cf95f55a82118cc4bf2", func := "tabellion/tabellionlaw05.SmtNil", spec := "smtNil", inPlace := ["sync/atomic.LoadUint32", "(*internal/sync.Mutex).Lock", "internal/race.Disable", "sync/atomic.CompareAndSwapInt32", "internal/race.Enable", "internal/race.Acquire", "(*internal/sync.Mutex).lockSlow", "internal/sync.runtime_canSpin", "internal/sync.runtime_doSpin", "internal/sync.throw", "internal/sync.runtime_nanotime", "internal/sync.runtime_SemacquireMutex", "sync/atomic.AddInt32", "(*internal/sync.Mutex).Unlock", "internal/race.ReleaseMerge", "(*internal/sync.Mutex).unlockSlow", "internal/sync.fatal", "internal/sync.runtime_Semrelease", "sync/atomic.StoreUint32"], unfollowed := true, recurses := true, named := ["tabellion/sha.keys"], apart := false, laid := [("tabellion/sha.keys", laid_tabellion_sha_keys)], narrowed := true }
def SmtNilUptoSaid : Prop := smtNilUptoRow.holds Tryd.pinned (OpenSpec.upto smtNilSpec)

/-- 'tabellionlaw05.SmtGrows', WHERE WHAT IT READS IS OF BULK AT MOST 1048576: true; the input reads as it did. -/
def smtGrowsUptoRow : OpenClaim := { program := "ytdpmcnhdmhanbaadoor", sum := "ce8cf18dac95ad0d3661482a6712c3cd10055a61f7aa3cf95f55a82118cc4bf2", func := "tabellion/tabellionlaw05.SmtGrows", spec := "smtGrows", inPlace := ["sync/atomic.LoadUint32", "(*internal/sync.Mutex).Lock", "internal/race.Disable", "sync/atomic.CompareAndSwapInt32", "internal/race.Enable", "internal/race.Acquire", "(*internal/sync.Mutex).lockSlow", "internal/sync.runtime_canSpin", "internal/sync.runtime_doSpin", "internal/sync.throw", "internal/sync.runtime_nanotime", "internal/sync.runtime_SemacquireMutex", "sync/atomic.AddInt32", "(*internal/sync.Mutex).Unlock", "internal/race.ReleaseMerge", "(*internal/sync.Mutex).unlockSlow", "internal/sync.fatal", "internal/sync.runtime_Semrelease", "sync/atomic.StoreUint32"], unfollowed := true, recurses := true, named := ["tabellion/sha.keys"], apart := false, laid := [("tabellion/sha.keys", laid_tabellion_sha_keys)], narrowed := true }
def SmtGrowsUptoSaid : Prop := smtGrowsUptoRow.holds Tryd.pinned (OpenSpec.upto smtGrowsSpec)

/-- 'tabellionlaw05.SmtBatches', WHERE WHAT IT READS IS OF BULK AT MOST 1048576: true; the input reads as it did. -/
def smtBatchesUptoRow : OpenClaim := { program := "ytdpmcnhdmhanbaadoor", sum := "ce8cf18dac95ad0d3661482a6712c3cd10055a61f7aa3cf95f55a82118cc4bf2", func := "tabellion/tabellionlaw05.SmtBatches", spec := "smtBatches", inPlace := ["sync/atomic.LoadUint32", "(*internal/sync.Mutex).Lock", "internal/race.Disable", "sync/atomic.CompareAndSwapInt32", "internal/race.Enable", "internal/race.Acquire", "(*internal/sync.Mutex).lockSlow", "internal/sync.runtime_canSpin", "internal/sync.runtime_doSpin", "internal/sync.throw", "internal/sync.runtime_nanotime", "internal/sync.runtime_SemacquireMutex", "sync/atomic.AddInt32", "(*internal/sync.Mutex).Unlock", "internal/race.ReleaseMerge", "(*internal/sync.Mutex).unlockSlow", "internal/sync.fatal", "internal/sync.runtime_Semrelease", "sync/atomic.StoreUint32"], unfollowed := true, recurses := true, named := ["tabellion/sha.keys"], apart := false, laid := [("tabellion/sha.keys", laid_tabellion_sha_keys)], narrowed := true }
def SmtBatchesUptoSaid : Prop := smtBatchesUptoRow.holds Tryd.pinned (OpenSpec.upto smtBatchesSpec)

end Rows
end Go.Proofs.YtdpmcnhdmhanbaaDoor
