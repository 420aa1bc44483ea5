import Derived.Test.YtnmecdecebdfiaaDoorVP23G
import Derived.Test.YtnmecdecebdfiaaDoorVJ09
import Derived.Shelf.Strings.SplitCore
import Derived.Shelf.Strings.Search3
import Derived.Shelf.Strings.Count
import Derived.Lib.SplitLaws
set_option linter.unusedVariables false
set_option linter.unusedSimpArgs false
namespace Go.V
open Go
theorem idx_cons_eq(c:UInt8)(l:List UInt8):Lib.index (c::l) [c]=0:=by rw[Lib.index];simp[List.isPrefixOf]
theorem idx_cons_ne{b c:UInt8}(l:List UInt8)(h:b≠c):Lib.index (b::l) [c]=if Lib.index l [c] == -1 then -1 else Lib.index l [c]+1:=by
 have hp:([c]:List UInt8).isPrefixOf (b::l)=false:=by simp[List.isPrefixOf,Ne.symm h]
 rw[Lib.index,hp];simp
theorem idx_one(c:UInt8):∀ l:List UInt8,Lib.index l [c]=Lib.indexByte l c
 | []=>by simp[Lib.index,Lib.indexByte]
 | b::l=>by
  rw[Lib.indexByte]
  by_cases h:b=c
  ·subst h;rw[idx_cons_eq];simp
  ·rw[idx_cons_ne l h,idx_one c l];simp[h]
theorem splitK_ne{b c:UInt8}(l:List UInt8)(h:b≠c)(k:Nat):Lib.splitK [c] 0 k (b::l)=match Lib.splitK [c] 0 k l with
  | w::r=>(b::w)::r
  | []=>[[b]]:=by
 cases k with
 | zero=>rfl
 | succ k=>
  rw[Lib.splitK,Lib.splitK,idx_cons_ne l h]
  have hge:=Lib.index_ge l [c]
  by_cases hm:Lib.index l [c] = -1
  ·rw[hm];simp
  ·have e0:(Lib.index l [c] == -1)=false:=by simpa using hm
   have e1:(Lib.index l [c]+1 == -1)=false:=by simp;omega
   simp only[e0,e1,Bool.false_eq_true,if_false]
   obtain⟨i,hi⟩:∃ i:Nat,Lib.index l [c]=i:=⟨(Lib.index l [c]).toNat,by omega⟩
   rw[hi]
   have e:((i:Int)+1).toNat=i+1:=by omega
   simp[e]
theorem splitK_parts(c:UInt8):∀ l:List UInt8,Lib.splitK [c] 0 (Lib.count l [c]) l=partsL c l
 | []=>by rw[Lib.count_miss (by simp[Lib.index])];rfl
 | b::l=>by
  rw[partsL]
  by_cases h:b=c
  ·subst h
   rw[Lib.count_cons_eq,Nat.add_comm,Lib.splitK,idx_cons_eq]
   simp[splitK_parts b l]
  ·have:(b==c)=false:=by simpa using h
   rw[this,cond_false,Lib.count_cons_ne b c l h,splitK_ne l h,splitK_parts c l]
   cases partsL c l<;>rfl
theorem splitB_L(s:ByteArray)(c:UInt8):Lib.splitB ⟨#[c]⟩ 0 (Lib.countB s ⟨#[c]⟩) s=splitL s ⟨#[c]⟩:=by
 have h:(Lib.splitB ⟨#[c]⟩ 0 (Lib.countB s ⟨#[c]⟩) s).map (·.data.toList)=partsL c s.data.toList:=by
  rw[Lib.splitB_data];exact splitK_parts c s.data.toList
 have h2:∀ l:List ByteArray,(l.map (·.data.toList)).map ofL=l:=fun l=>by
  rw[List.map_map]
  exact List.map_id'' (fun x=>rfl) l
 rw[<-h2 (Lib.splitB _ _ _ _),h]
 rfl
end Go.V
namespace Go.Proofs
open Go.Shelf Go.RowKit Go.Lib Go.V
variable {P:Program} {ρ:Ren}
theorem gen_one(L:Lays.n221 P ρ)(hi9:(P.info? (ρ.t 9)).map (fun i=>(i.zero,i.size,i.bytes))=some (some (.string ByteArray.empty),1,16))(s:ByteArray)(c:UInt8)(w:World)(hs:s.size<=1000000) :
  Calls P (ρ.f 221) #[.string s,.string ⟨#[c]⟩,.int .i64 0,.int .i64 (-1)] w fun e w'=>
   e=.returned (.slice (some ⟨w.heap.size,0,none⟩) (splitL s ⟨#[c]⟩).length (splitL s ⟨#[c]⟩).length)/\w'=w.alloc (.cells ((splitL s ⟨#[c]⟩).map Value.string).toArray (ρ.t 9)):=by
 have h1:1<=(⟨#[c]⟩:ByteArray).size:=Nat.le_refl _
 have hle:=Lib.countB_le ⟨#[c]⟩ h1 s.size s (Nat.le_refl _)
 have hlen:=Lib.splitB_all ⟨#[c]⟩ h1 0 _ s rfl
 have q:=Any.strings_genSplit_core L hi9 s ⟨#[c]⟩ 0 (-1) (Lib.countB s ⟨#[c]⟩+1) w (by omega) h1 (Nat.zero_le _)
  (fun x cs _=>(Any.strings_Index_one { L with } x c _).mono fun e w' ⟨h1,h2⟩=>⟨by rw[h1];exact congrArg (fun n=>Ending.returned (.int .i64 n)) (idx_one c x.data.toList).symm,h2⟩)
  ((Any.strings_Count_one { L with } s c w).mono fun e w' ⟨h1,h2⟩=>⟨by
   rw[h1]
   exact congrArg (fun n:Nat=>Ending.returned (.int .i64 (n:Int))) (Lib.count_one c s.data.toList).symm,h2⟩)
  (by decide) (by decide) (by rw[if_pos (by decide)];omega)
 rw[Nat.add_sub_cancel,hlen] at q
 have e2:Lib.cellsOf (Lib.splitB ⟨#[c]⟩ 0 (Lib.countB s ⟨#[c]⟩) s) (Lib.countB s ⟨#[c]⟩+1)=((Lib.splitB ⟨#[c]⟩ 0 (Lib.countB s ⟨#[c]⟩) s).map Value.string).toArray:=by
  rw[<-hlen];exact Lib.cellsOf_full _
 rw[e2,<-hlen,splitB_L] at q
 exact q
set_option maxHeartbeats 1000000 in
theorem split_one(L:Lays.n146 P ρ)(hi9:(P.info? (ρ.t 9)).map (fun i=>(i.zero,i.size,i.bytes))=some (some (.string ByteArray.empty),1,16))(s:ByteArray)(c:UInt8)(w:World)(hs:s.size<=1000000) :
  Calls P (ρ.f 146) #[.string s,.string ⟨#[c]⟩] w fun e w'=>
   e=.returned (.slice (some ⟨w.heap.size,0,none⟩) (splitL s ⟨#[c]⟩).length (splitL s ⟨#[c]⟩).length)/\w'=w.alloc (.cells ((splitL s ⟨#[c]⟩).map Value.string).toArray (ρ.t 9)):=by
 have q:=gen_one { L with } hi9 s c w hs
 have t3:=L.t3;have t9:=L.t9;have t31:=L.t31
 have a3:=L.a3;have a9:=L.a9;have a31:=L.a31
 have z3:=L.z3;have v3:=L.v3;have z9:=L.z9;have v9:=L.v9;have z31:=L.z31;have v31:=L.v31
 have e221:∀ args w,(callFunc (ρ.f 221) args).run P w=.ok (.enter (ρ.f 221) args) w:=enters_of L.f221 (by kernel_rfl) rfl
 go_enter L.f146,Body.n146_ntmps ρ
 go_wp2_with (go_at_fn (ρ.f 221);refine q.mono ?_;rintro e w' ⟨rfl,hw⟩;rw[hw])
 go_ret
 exact⟨rfl,rfl⟩
end Go.Proofs
