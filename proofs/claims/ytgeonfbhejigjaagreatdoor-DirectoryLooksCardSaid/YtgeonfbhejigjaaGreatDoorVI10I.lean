import Derived.Test.YtgeonfbhejigjaaGreatDoorVI10E
import Derived.Test.YtgeonfbhejigjaaGreatDoorVJ10
import Derived.Test.YtgeonfbhejigjaaGreatDoorVJ08
import Derived.Lib.Bytealg
import Derived.Shelf.RegionOpenPlain
import Derived.Lib.Walk
set_option linter.unusedVariables false
set_option linter.unusedSimpArgs false
set_option maxRecDepth 100000
set_option maxHeartbeats 1600000
namespace Go.V
open Go Go.Proofs Go.Shelf
def insRen84:Ren where
 f:=fun|22=>84|29=>120|30=>121|n=>n
 t:=fun|9=>47|24=>24|n=>n
 g:=fun n=>n
theorem insLays84:InsLays Tryz.prog insRen84 (PE.sz 47) (PE.by' 47) (((Tryz.prog.info? 47).bind (·.zero)).getD undef) where
 mixed:=by kernel_rfl
 f22:=⟨ "slices.Insert[[]tabellion/api.Session,tabellion/api.Session]",by decide,Tryz.func84.trans (congrArg some (by kernel_rfl))⟩
 ov:=fun w a b la ca lb cb hne tA tB kA kB hsa hsb hkB hfa hfe=>by
  show (callFunc 120 _).run Tryz.prog w=_
  rw[run_callFunc_extern Tryz.func120 (by kernel_rfl) (by kernel_rfl) (by kernel_rfl) (e:=Extern.SlicesOverlaps.overlaps #[24,24] #[4]) (by kernel_rfl),Lib.run_overlaps_apart w 24 4 47 Tryz.underlying24 _ Tryz.sizeOf47 a b la ca lb cb hne tA tB kA kB hsa hsb hkB hfa hfe]
  rfl
 t0:=Tryz.underlying0
 a0:=Tryz.isAgg0
 z0:=Tryz.sizeOf0
 v0:=Tryz.zeroValue0
 t3:=Tryz.underlying3
 a3:=Tryz.isAgg3
 z3:=Tryz.sizeOf3
 v3:=Tryz.zeroValue3
 t4:=Tryz.underlying4
 a4:=Tryz.isAgg4
 z4:=Tryz.sizeOf4
 v4:=Tryz.zeroValue4
 z9:=Tryz.sizeOf47
 t24:=Tryz.underlying24
 a24:=Tryz.isAgg24
 z24:=Tryz.sizeOf24
 v24:=Tryz.zeroValue24
 i9:=by kernel_rfl
theorem hand84(i:Int)(l vs:List (PU 47))(K:A PU->List (AObj PU)->Prop)(h:((0<=i/\i<=((List.length l:Nat):Int))/\List.length vs=1/\room (List.length l+1) (PE.by' 47))/\K (.own 2) [.dead,.dead,.lst 47 (insAt i l vs)]):RowSound PE 84 [.own 0,.int .i64 i,.own 1] [.lst 47 l,.lst 47 vs] K:=
 ins_row PEok (ρ:=insRen84) (c:=47) rfl insLays84 (by kernel_rfl) (by kernel_rfl) (by kernel_rfl) (by kernel_rfl) (by kernel_rfl) (by kernel_rfl) (by kernel_rfl) (by kernel_rfl) h
def insRen123:Ren where
 f:=fun|22=>123|29=>163|30=>164|n=>n
 t:=fun|9=>40|24=>22|n=>n
 g:=fun n=>n
theorem insLays123:InsLays Tryz.prog insRen123 (PE.sz 40) (PE.by' 40) (((Tryz.prog.info? 40).bind (·.zero)).getD undef) where
 mixed:=by kernel_rfl
 f22:=⟨ "slices.Insert[[]tabellion/api.User,tabellion/api.User]",by decide,Tryz.func123.trans (congrArg some (by kernel_rfl))⟩
 ov:=fun w a b la ca lb cb hne tA tB kA kB hsa hsb hkB hfa hfe=>by
  show (callFunc 163 _).run Tryz.prog w=_
  rw[run_callFunc_extern Tryz.func163 (by kernel_rfl) (by kernel_rfl) (by kernel_rfl) (e:=Extern.SlicesOverlaps.overlaps #[22,22] #[4]) (by kernel_rfl),Lib.run_overlaps_apart w 22 4 40 Tryz.underlying22 _ Tryz.sizeOf40 a b la ca lb cb hne tA tB kA kB hsa hsb hkB hfa hfe]
  rfl
 t0:=Tryz.underlying0
 a0:=Tryz.isAgg0
 z0:=Tryz.sizeOf0
 v0:=Tryz.zeroValue0
 t3:=Tryz.underlying3
 a3:=Tryz.isAgg3
 z3:=Tryz.sizeOf3
 v3:=Tryz.zeroValue3
 t4:=Tryz.underlying4
 a4:=Tryz.isAgg4
 z4:=Tryz.sizeOf4
 v4:=Tryz.zeroValue4
 z9:=Tryz.sizeOf40
 t24:=Tryz.underlying22
 a24:=Tryz.isAgg22
 z24:=Tryz.sizeOf22
 v24:=Tryz.zeroValue22
 i9:=by kernel_rfl
theorem hand123(i:Int)(l vs:List (PU 40))(K:A PU->List (AObj PU)->Prop)(h:((0<=i/\i<=((List.length l:Nat):Int))/\List.length vs=1/\room (List.length l+1) (PE.by' 40))/\K (.own 2) [.dead,.dead,.lst 40 (insAt i l vs)]):RowSound PE 123 [.own 0,.int .i64 i,.own 1] [.lst 40 l,.lst 40 vs] K:=
 ins_row PEok (ρ:=insRen123) (c:=40) rfl insLays123 (by kernel_rfl) (by kernel_rfl) (by kernel_rfl) (by kernel_rfl) (by kernel_rfl) (by kernel_rfl) (by kernel_rfl) (by kernel_rfl) h
theorem cmp_bytes:∀ x y:List UInt8,Lib.compareBytes x y=cond (Op.bytesLess x y) (-1) (cond (Op.bytesLess y x) 1 0)
 | [],[]=>rfl
 | [],b::y=>rfl
 | a::x,[]=>rfl
 | a::x,b::y=>by
  have ih:=cmp_bytes x y
  unfold Lib.compareBytes Op.bytesLess
  by_cases h1:a<b
  ·simp[h1]
  ·by_cases h2:b<a
   ·have h3:¬a=b:=by rintro rfl;exact h1 h2
    have h4:(a==b)=false:=beq_false_of_ne h3
    simp[h1,h2,h4]
   ·have h3:a=b:=by
     rw[UInt8.lt_iff_toNat_lt] at h1 h2
     exact UInt8.toNat_inj.1 (by omega)
    subst h3
    simp only[h1,decide_false,Bool.false_or,beq_self_eq_true,Bool.true_and,if_false]
    exact ih
theorem cmp_walk(a b:ByteArray)(w:World):Calls Tryz.prog 176 #[.string a,.string b] w fun e w'=>e=.returned (.int .i64 (Lib.compareBytes a.data.toList b.data.toList))/\w'=w:=by
 go_enter Tryz.func176,Tryz.ntmps176
 go_wp2
 rw[run_callFunc_extern Tryz.func194 (by kernel_rfl) (by kernel_rfl) (by kernel_rfl) (e:=Extern.BytealgCompare.compare) (by kernel_rfl),Lib.run_compareString]
 simp only[Result.andThen]
 rw[Oper.upon_value]
 go_wp2
 go_ret
 exact⟨rfl,rfl⟩
theorem hand176(a b:ByteArray)(K:A PU->List (AObj PU)->Prop)(h:K (.int .i64 (cmpS a b)) []):RowSound PE 176 [.str a,.str b] [] K:=by
 refine RowSound.of_fn (by rfl) fun _=>⟨fun _ _=>⟨⟨_,Tryz.func176,by kernel_rfl,by kernel_rfl⟩,fun w St us hus hlt hS=>?_⟩,fun hp=>(by rw[show memN 176 PE.procs=false from by kernel_rfl] at hp;cases hp)⟩
 obtain⟨us⟩:=us
 obtain rfl:us=[.string a,.string b]:=by
  cases us with
  | nil=>exact hus.elim
  | cons u0 us=>
  cases us with
  | nil=>exact hus.2.elim
  | cons u1 us=>
  cases us with
  | cons _ _=>exact hus.2.2.elim
  | nil=>
   have h0:=RV.str_inv (hus.1.resolve_left (by intro e;cases e))
   have h1:=RV.str_inv (hus.2.1.resolve_left (by intro e;cases e))
   rw[h0,h1]
 refine (cmp_walk a b w).mono ?_
 rintro e w' ⟨rfl,rfl⟩
 have hc:Lib.compareBytes a.data.toList b.data.toList=cmpS a b:=by
  unfold cmpS slt
  rw[ByteArray.toList_eq,ByteArray.toList_eq]
  exact cmp_bytes _ _
 rw[hc]
 exact⟨.int .i64 (cmpS a b),_,[],St,rfl,⟨h,⟨.int .nil,rfl⟩,Fr.refl _ _,hS,fun _ _ _ h=>h,(fun _ hb=>by cases hb),List.nodup_nil,fun _ _ h=>.inl h,hlt⟩⟩
end Go.V
