import Derived.Test.YtgeonfbhejigjaaGreatDoorVI10Sa
set_option linter.unusedVariables false
set_option linter.unusedSimpArgs false
set_option maxRecDepth 8000
namespace Go.V
theorem bA:bitN lfA.f0 0=0:=by decide +kernel
theorem bB:bitN lfB.f0 0=1:=by decide +kernel
theorem hA:halfL [lfA,lfB] 0 (bitN z32 0)=[lfA]:=by
 rw[show bitN z32 0=0 from by decide +kernel]
 unfold halfL
 rw[List.filter_cons,if_pos (decide_eq_true bA),List.filter_cons,if_neg (by rw[bB];decide)];rfl
theorem hB2:halfL [lfA,lfB] 0 (1-bitN z32 0)=[lfB]:=by
 rw[show bitN z32 0=0 from by decide +kernel]
 unfold halfL
 rw[List.filter_cons,if_neg (by rw[bA];decide),List.filter_cons,if_pos (decide_eq_true bB)];rfl
end Go.V
