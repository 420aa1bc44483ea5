import Derived.Test.YtnmecdecebdfiaaDoorVP23F
import Derived.Test.YtnmecdecebdfiaaDoorVJ09
import Derived.Test.YtnmecdecebdfiaaDoorProg
set_option linter.unusedVariables false
namespace Go.V
open Go
def PX:Nat->(α:Type)×α
 | 3=>⟨Int,(0:Int)⟩
 | 4=>⟨Bool,false⟩
 | 5=>⟨Int,(0:Int)⟩
 | 9=>⟨ByteArray,ByteArray.empty⟩
 | 20=>⟨IV,IV.nil⟩
 | 22=>⟨Int,(0:Int)⟩
 | 23=>⟨Int,(0:Int)⟩
 | 24=>⟨(List Int),(List.replicate 32 (0:Int))⟩
 | 25=>⟨(List Int),(List.replicate 32 (0:Int))⟩
 | 27=>⟨S_api_Command,(S_api_Command.mk (0:Int) (0:Int) (0:Int) ByteArray.empty ByteArray.empty (0:Int) (List.replicate 32 (0:Int)))⟩
 | 28=>⟨Int,(0:Int)⟩
 | 29=>⟨Int,(0:Int)⟩
 | 31=>⟨S_api_Change,(S_api_Change.mk (0:Int) (0:Int))⟩
 | 33=>⟨S_api_Act,(S_api_Act.mk (0:Int) (0:Int) (0:Int) (0:Int) (S_api_Command.mk (0:Int) (0:Int) (0:Int) ByteArray.empty ByteArray.empty (0:Int) (List.replicate 32 (0:Int))) (0:Int) ByteArray.empty (S_api_Change.mk (0:Int) (0:Int)))⟩
 | 34=>⟨Int,(0:Int)⟩
 | 42=>⟨Unit,()⟩
 | 43=>⟨(List ByteArray),([]:List ByteArray)⟩
 | 46=>⟨S_desk_line,(S_desk_line.mk ([]:List ByteArray) false)⟩
 | 55=>⟨(List ByteArray),(List.replicate 4 ByteArray.empty)⟩
 | 63=>⟨IV,IV.nil⟩
 | 66=>⟨(List IV),([]:List IV)⟩
 | 84=>⟨(List Bool),(List.replicate 256 false)⟩
 | 88=>⟨Unit,()⟩
 | 96=>⟨Int,(0:Int)⟩
 | 116=>⟨(List Int),(List.replicate 20 (0:Int))⟩
 | 122=>⟨(List Int),(List.replicate 64 (0:Int))⟩
 | _=>⟨Unit,()⟩
def PU(c:Nat):Type:=(PX c).1
def PEnc:(c:Nat)->PU c->A PU
 | 3,(x:Int)=>.int .i64 x
 | 4,(x:Bool)=>.bool x
 | 5,(x:Int)=>.int .u8 x
 | 9,(x:ByteArray)=>.str x
 | 20,(x:IV)=>.iv x
 | 22,(x:Int)=>.int .i64 x
 | 23,(x:Int)=>.int .i64 x
 | 24,(x:(List Int))=>.arr 5 32 x
 | 25,(x:(List Int))=>.arr 5 32 x
 | 27,(x:S_api_Command)=>.agg [.int .i64 x.f0,.int .i64 x.f1,.int .i64 x.f2,.str x.f3,.str x.f4,.int .i64 x.f5,.arr 5 32 x.f6]
 | 28,(x:Int)=>.int .i64 x
 | 29,(x:Int)=>.int .i64 x
 | 31,(x:S_api_Change)=>.agg [.int .i64 x.f0,.int .i64 x.f1]
 | 33,(x:S_api_Act)=>.agg [.int .i64 x.f0,.int .i64 x.f1,.int .i64 x.f2,.int .i64 x.f3,.agg [.int .i64 x.f4.f0,.int .i64 x.f4.f1,.int .i64 x.f4.f2,.str x.f4.f3,.str x.f4.f4,.int .i64 x.f4.f5,.arr 5 32 x.f4.f6],.int .i64 x.f5,.str x.f6,.agg [.int .i64 x.f7.f0,.int .i64 x.f7.f1]]
 | 34,(x:Int)=>.int .i64 x
 | 42,(x:Unit)=>.nilp
 | 43,(x:(List ByteArray))=>.ro false 9 x
 | 46,(x:S_desk_line)=>.agg [.ro false 9 x.f0,.bool x.f1]
 | 55,(x:(List ByteArray))=>.arr 9 4 x
 | 63,(x:IV)=>.iv x
 | 66,(x:(List IV))=>.ro false 20 x
 | 84,(x:(List Bool))=>.arr 4 256 x
 | 88,(x:Unit)=>.nilp
 | 96,(x:Int)=>.int .u64 x
 | 116,(x:(List Int))=>.arr 96 20 x
 | 122,(x:(List Int))=>.arr 5 64 x
 | _,_=>.agg []
def PDec:(c:Nat)->A PU->Option (PU c)
 | 3,a=>ap (U:=PU) (G:=PU 3) [.int .i64] (fun y0=>y0) [.inl a]
 | 4,a=>ap (U:=PU) (G:=PU 4) [.bool] (fun y0=>y0) [.inl a]
 | 5,a=>ap (U:=PU) (G:=PU 5) [.int .u8] (fun y0=>y0) [.inl a]
 | 9,a=>ap (U:=PU) (G:=PU 9) [.str] (fun y0=>y0) [.inl a]
 | 20,a=>ap (U:=PU) (G:=PU 20) [.iv] (fun y0=>y0) [.inl a]
 | 22,a=>ap (U:=PU) (G:=PU 22) [.int .i64] (fun y0=>y0) [.inl a]
 | 23,a=>ap (U:=PU) (G:=PU 23) [.int .i64] (fun y0=>y0) [.inl a]
 | 24,a=>ap (U:=PU) (G:=PU 24) [.arr 5 32] (fun y0=>y0) [.inl a]
 | 25,a=>ap (U:=PU) (G:=PU 25) [.arr 5 32] (fun y0=>y0) [.inl a]
 | 27,a=>ap (U:=PU) (G:=PU 27) [.agg 7,.int .i64,.int .i64,.int .i64,.str,.str,.int .i64,.arr 5 32] (fun y0 y1 y2 y3 y4 y5 y6=>(S_api_Command.mk y0 y1 y2 y3 y4 y5 y6)) [.inl a]
 | 28,a=>ap (U:=PU) (G:=PU 28) [.int .i64] (fun y0=>y0) [.inl a]
 | 29,a=>ap (U:=PU) (G:=PU 29) [.int .i64] (fun y0=>y0) [.inl a]
 | 31,a=>ap (U:=PU) (G:=PU 31) [.agg 2,.int .i64,.int .i64] (fun y0 y1=>(S_api_Change.mk y0 y1)) [.inl a]
 | 33,a=>ap (U:=PU) (G:=PU 33) [.agg 8,.int .i64,.int .i64,.int .i64,.int .i64,.agg 7,.int .i64,.int .i64,.int .i64,.str,.str,.int .i64,.arr 5 32,.int .i64,.str,.agg 2,.int .i64,.int .i64] (fun y0 y1 y2 y3 y4 y5 y6 y7 y8 y9 y10 y11 y12 y13 y14=>(S_api_Act.mk y0 y1 y2 y3 (S_api_Command.mk y4 y5 y6 y7 y8 y9 y10) y11 y12 (S_api_Change.mk y13 y14))) [.inl a]
 | 34,a=>ap (U:=PU) (G:=PU 34) [.int .i64] (fun y0=>y0) [.inl a]
 | 42,a=>ap (U:=PU) (G:=PU 42) [.nilp] (()) [.inl a]
 | 43,a=>ap (U:=PU) (G:=PU 43) [.ro false 9] (fun y0=>y0) [.inl a]
 | 46,a=>ap (U:=PU) (G:=PU 46) [.agg 2,.ro false 9,.bool] (fun y0 y1=>(S_desk_line.mk y0 y1)) [.inl a]
 | 55,a=>ap (U:=PU) (G:=PU 55) [.arr 9 4] (fun y0=>y0) [.inl a]
 | 63,a=>ap (U:=PU) (G:=PU 63) [.iv] (fun y0=>y0) [.inl a]
 | 66,a=>ap (U:=PU) (G:=PU 66) [.ro false 20] (fun y0=>y0) [.inl a]
 | 84,a=>ap (U:=PU) (G:=PU 84) [.arr 4 256] (fun y0=>y0) [.inl a]
 | 88,a=>ap (U:=PU) (G:=PU 88) [.nilp] (()) [.inl a]
 | 96,a=>ap (U:=PU) (G:=PU 96) [.int .u64] (fun y0=>y0) [.inl a]
 | 116,a=>ap (U:=PU) (G:=PU 116) [.arr 96 20] (fun y0=>y0) [.inl a]
 | 122,a=>ap (U:=PU) (G:=PU 122) [.arr 5 64] (fun y0=>y0) [.inl a]
 | _,_=>.none
def PDfl(c:Nat):PU c:=(PX c).2
def PTys:List Row:=[⟨3,.int .i64,1,8⟩,
 ⟨4,.bool,1,1⟩,
 ⟨5,.int .u8,1,1⟩,
 ⟨9,.str,1,16⟩,
 ⟨20,.ifc,1,16⟩,
 ⟨22,.int .i64,1,8⟩,
 ⟨23,.int .i64,1,8⟩,
 ⟨24,.arr 32 5,32,32⟩,
 ⟨25,.arr 32 5,32,32⟩,
 ⟨27,.st [(23,0),(3,1),(3,2),(9,3),(9,4),(3,5),(25,6)],38,96⟩,
 ⟨28,.int .i64,1,8⟩,
 ⟨29,.int .i64,1,8⟩,
 ⟨31,.st [(29,0),(3,1)],2,16⟩,
 ⟨33,.st [(22,0),(3,1),(3,2),(3,3),(27,4),(28,42),(9,43),(31,44)],46,168⟩,
 ⟨34,.int .i64,1,8⟩,
 ⟨42,.ptr 46,1,8⟩,
 ⟨43,.sl 9,1,24⟩,
 ⟨46,.st [(43,0),(4,1)],2,32⟩,
 ⟨55,.arr 4 9,4,64⟩,
 ⟨63,.ifc,1,16⟩,
 ⟨66,.sl 20,1,24⟩,
 ⟨84,.arr 256 4,256,256⟩,
 ⟨88,.ptr 84,1,8⟩,
 ⟨96,.int .u64,1,8⟩,
 ⟨116,.arr 20 96,20,160⟩,
 ⟨122,.arr 64 5,64,64⟩]
def PCuts:List (FuncId×Nat×List Nat):=[(19,2,[0,3]),(19,3,[0,3,4,5]),(19,5,[]),(19,4,[0]),(21,4,[0,1,12,13]),(11,27,[0,4,44]),(11,26,[0,1,4]),(11,12,[0,1,4,5]),(11,20,[0,1,4,5]),(11,68,[4]),(11,8,[0,1,4,5]),(11,29,[0,4,44]),(11,31,[0,4,44]),(11,33,[0,4,44]),(11,35,[0,4,44]),(11,37,[0,4,44]),(11,39,[0,4,44]),(11,41,[0,4,44]),(11,43,[0,4,44]),(11,45,[0,4,44]),(11,47,[0,4,44]),(11,49,[0,4,44]),(11,51,[0,4,44]),(11,53,[0,4,44]),(11,55,[0,4,44]),(11,19,[0,1,4]),(11,57,[0,4,44]),(11,7,[0,1,4]),(11,25,[0,1,4]),(11,62,[0,4,44]),(11,64,[0,4,44]),(11,50,[0,4]),(11,11,[0,1,4]),(11,52,[0,4]),(11,59,[0,4]),(11,2,[0,1,4]),(11,66,[0,4,44]),(11,54,[0,4]),(11,63,[0,4]),(11,65,[0,4]),(11,67,[0,4]),(11,46,[0,4]),(11,48,[0,4]),(11,56,[0,4]),(11,61,[0,4]),(5,5,[2,4,5]),(5,6,[2]),(14,4,[0,3,4,5]),(14,5,[0,3,4,5]),(14,7,[0,3,4,5]),(22,3,[0,3,4]),(22,4,[0,3,4]),(13,3,[0,2,3,4]),(13,6,[2,3]),(24,2,[0,3]),(15,4,[1,3]),(15,6,[1]),(15,3,[1]),(25,3,[0]),(25,9,[3,4]),(6,5,[2]),(27,2,[0,9,10,11]),(27,11,[0,9,10,11])]
def PProcs:List FuncId:=[11,12,19,20]
def PLoops:List (FuncId×Nat×List Nat):=[]
def PEqb:(c:Nat)->List (PU c)->List (PU c)->Bool
 | 3,x,y=>eqLI x y
 | 4,x,y=>eqLB x y
 | 5,x,y=>eqLI x y
 | 9,x,y=>eqLS x y
 | 22,x,y=>eqLI x y
 | 23,x,y=>eqLI x y
 | 28,x,y=>eqLI x y
 | 29,x,y=>eqLI x y
 | 34,x,y=>eqLI x y
 | 96,x,y=>eqLI x y
 | _,_,_=>false
def PToB:(c:Nat)->List (PU c)->Option ByteArray
 | 5,x=>some (bytesOf x)
 | _,_=>.none
def POfB:(c:Nat)->ByteArray->Option (List (PU c))
 | 5,x=>some (bytesTo x)
 | _,_=>.none
def PGlob:Nat->A PU
 | 3=>.rp false 63 [G_strconv_ErrSyntax] 0 []
 | 4=>.rp false 63 [G_strconv_ErrRange] 0 []
 | 5=>.rp false 116 [G_internal_strconv_uint64pow10] 0 []
 | 6=>.rp false 24 [G_math_bits_deBruijn32tab] 0 []
 | 7=>.rp false 122 [G_math_bits_deBruijn64tab] 0 []
 | _=>.none
def PKn:Kn PU:=noKn
noncomputable def PE:Env PU where
 P:=Go.Proofs.Tryd.prog
 kn:=PKn
 tys:=PTys
 enc:=PEnc
 dec:=PDec
 dflt:=PDfl
 eqb:=PEqb
 ofBytes:=POfB
 toBytes:=PToB
 cuts:=PCuts
 procs:=PProcs
 loops:=PLoops
 eqs:=[25,27,31,33]
 glob:=PGlob
 lends:=[]
 whole:=fun g=>cond (Nat.beq g 5) (some 20) .none
theorem PEncOk(c:Nat)(x:PU c):closed (PEnc c x)=true/\size PE.sz (PEnc c x)=PE.sz c:=by
 unfold PEnc
 split
 all_goals try exact⟨rfl,rfl⟩
 ·rename_i h3 h4 h5 h9 h20 h22 h23 h24 h25 h27 h28 h29 h31 h33 h34 h42 h43 h46 h55 h63 h66 h84 h88 h96 h116 h122
  refine⟨rfl,?_⟩
  show 0=_
  unfold Env.sz
  have hn:rowOf c PE.tys=.none:=by
   refine rowOf_none ?_
   intro r hr
   simp only[PE,PTys,List.mem_cons,List.not_mem_nil,or_false] at hr
   rcases hr with rfl|rfl|rfl|rfl|rfl|rfl|rfl|rfl|rfl|rfl|rfl|rfl|rfl|rfl|rfl|rfl|rfl|rfl|rfl|rfl|rfl|rfl|rfl|rfl|rfl|rfl<;>intro e<;>subst e
   ·exact h3 _ rfl HEq.rfl
   ·exact h4 _ rfl HEq.rfl
   ·exact h5 _ rfl HEq.rfl
   ·exact h9 _ rfl HEq.rfl
   ·exact h20 _ rfl HEq.rfl
   ·exact h22 _ rfl HEq.rfl
   ·exact h23 _ rfl HEq.rfl
   ·exact h24 _ rfl HEq.rfl
   ·exact h25 _ rfl HEq.rfl
   ·exact h27 _ rfl HEq.rfl
   ·exact h28 _ rfl HEq.rfl
   ·exact h29 _ rfl HEq.rfl
   ·exact h31 _ rfl HEq.rfl
   ·exact h33 _ rfl HEq.rfl
   ·exact h34 _ rfl HEq.rfl
   ·exact h42 _ rfl HEq.rfl
   ·exact h43 _ rfl HEq.rfl
   ·exact h46 _ rfl HEq.rfl
   ·exact h55 _ rfl HEq.rfl
   ·exact h63 _ rfl HEq.rfl
   ·exact h66 _ rfl HEq.rfl
   ·exact h84 _ rfl HEq.rfl
   ·exact h88 _ rfl HEq.rfl
   ·exact h96 _ rfl HEq.rfl
   ·exact h116 _ rfl HEq.rfl
   ·exact h122 _ rfl HEq.rfl
  rw[hn]
theorem PDecOk(c:Nat)(a:A PU)(x:PU c)(h:PDec c a=some x):PEnc c x=a:=by
 unfold PDec at h
 split at h
 ·exact dec_ok (enc:=PEnc 3) (by kernel_rfl) h
 ·exact dec_ok (enc:=PEnc 4) (by kernel_rfl) h
 ·exact dec_ok (enc:=PEnc 5) (by kernel_rfl) h
 ·exact dec_ok (enc:=PEnc 9) (by kernel_rfl) h
 ·exact dec_ok (enc:=PEnc 20) (by kernel_rfl) h
 ·exact dec_ok (enc:=PEnc 22) (by kernel_rfl) h
 ·exact dec_ok (enc:=PEnc 23) (by kernel_rfl) h
 ·exact dec_ok (enc:=PEnc 24) (by kernel_rfl) h
 ·exact dec_ok (enc:=PEnc 25) (by kernel_rfl) h
 ·exact dec_ok (enc:=PEnc 27) (by kernel_rfl) h
 ·exact dec_ok (enc:=PEnc 28) (by kernel_rfl) h
 ·exact dec_ok (enc:=PEnc 29) (by kernel_rfl) h
 ·exact dec_ok (enc:=PEnc 31) (by kernel_rfl) h
 ·exact dec_ok (enc:=PEnc 33) (by kernel_rfl) h
 ·exact dec_ok (enc:=PEnc 34) (by kernel_rfl) h
 ·exact dec_ok (enc:=PEnc 42) (by kernel_rfl) h
 ·exact dec_ok (enc:=PEnc 43) (by kernel_rfl) h
 ·exact dec_ok (enc:=PEnc 46) (by kernel_rfl) h
 ·exact dec_ok (enc:=PEnc 55) (by kernel_rfl) h
 ·exact dec_ok (enc:=PEnc 63) (by kernel_rfl) h
 ·exact dec_ok (enc:=PEnc 66) (by kernel_rfl) h
 ·exact dec_ok (enc:=PEnc 84) (by kernel_rfl) h
 ·exact dec_ok (enc:=PEnc 88) (by kernel_rfl) h
 ·exact dec_ok (enc:=PEnc 96) (by kernel_rfl) h
 ·exact dec_ok (enc:=PEnc 116) (by kernel_rfl) h
 ·exact dec_ok (enc:=PEnc 122) (by kernel_rfl) h
 ·cases h
theorem PPlain:∀ r∈PE.tys,plainTy r.ty=true->PlainOk PE r.t:=
 List.forall_mem_cons.2 ⟨(fun _=>⟨fun l m=>eqLI_iff l m,fun x y=>⟨decI x y,rfl,decI_iff x y⟩⟩),
 List.forall_mem_cons.2 ⟨(fun _=>⟨fun l m=>eqLB_iff l m,fun x y=>⟨decB x y,rfl,decB_iff x y⟩⟩),
 List.forall_mem_cons.2 ⟨(fun _=>⟨fun l m=>eqLI_iff l m,fun x y=>⟨decI x y,rfl,decI_iff x y⟩⟩),
 List.forall_mem_cons.2 ⟨(fun _=>⟨fun l m=>eqLS_iff l m,fun x y=>⟨seq x y,rfl,seq_iff⟩⟩),
 List.forall_mem_cons.2 ⟨(fun h=>nomatch h),
 List.forall_mem_cons.2 ⟨(fun _=>⟨fun l m=>eqLI_iff l m,fun x y=>⟨decI x y,rfl,decI_iff x y⟩⟩),
 List.forall_mem_cons.2 ⟨(fun _=>⟨fun l m=>eqLI_iff l m,fun x y=>⟨decI x y,rfl,decI_iff x y⟩⟩),
 List.forall_mem_cons.2 ⟨(fun h=>nomatch h),
 List.forall_mem_cons.2 ⟨(fun h=>nomatch h),
 List.forall_mem_cons.2 ⟨(fun h=>nomatch h),
 List.forall_mem_cons.2 ⟨(fun _=>⟨fun l m=>eqLI_iff l m,fun x y=>⟨decI x y,rfl,decI_iff x y⟩⟩),
 List.forall_mem_cons.2 ⟨(fun _=>⟨fun l m=>eqLI_iff l m,fun x y=>⟨decI x y,rfl,decI_iff x y⟩⟩),
 List.forall_mem_cons.2 ⟨(fun h=>nomatch h),
 List.forall_mem_cons.2 ⟨(fun h=>nomatch h),
 List.forall_mem_cons.2 ⟨(fun _=>⟨fun l m=>eqLI_iff l m,fun x y=>⟨decI x y,rfl,decI_iff x y⟩⟩),
 List.forall_mem_cons.2 ⟨(fun h=>nomatch h),
 List.forall_mem_cons.2 ⟨(fun h=>nomatch h),
 List.forall_mem_cons.2 ⟨(fun h=>nomatch h),
 List.forall_mem_cons.2 ⟨(fun h=>nomatch h),
 List.forall_mem_cons.2 ⟨(fun h=>nomatch h),
 List.forall_mem_cons.2 ⟨(fun h=>nomatch h),
 List.forall_mem_cons.2 ⟨(fun h=>nomatch h),
 List.forall_mem_cons.2 ⟨(fun h=>nomatch h),
 List.forall_mem_cons.2 ⟨(fun _=>⟨fun l m=>eqLI_iff l m,fun x y=>⟨decI x y,rfl,decI_iff x y⟩⟩),
 List.forall_mem_cons.2 ⟨(fun h=>nomatch h),
 List.forall_mem_cons.2 ⟨(fun h=>nomatch h),
 (fun _ h=>nomatch h)⟩⟩⟩⟩⟩⟩⟩⟩⟩⟩⟩⟩⟩⟩⟩⟩⟩⟩⟩⟩⟩⟩⟩⟩⟩⟩
theorem PToBOk(c:Nat)(l:List (PU c))(t:ByteArray)(h:PToB c l=some t):PE.ty c=.int .u8/\∃ ns:List Int,l.map (PE.enc c)=ns.map (.int .u8)/\t=bytesOf ns:=by
 unfold PToB at h
 split at h
 ·rename_i x;cases h;exact⟨rfl,x,List.map_congr_left fun _ _=>rfl,rfl⟩
 ·cases h
theorem POfBOk(c:Nat)(t:ByteArray)(l:List (PU c))(h:POfB c t=some l):PE.ty c=.int .u8/\l.map (PE.enc c)=(bytesTo t).map (.int .u8):=by
 unfold POfB at h
 split at h
 ·cases h;exact⟨rfl,List.map_congr_left fun _ _=>rfl⟩
 ·cases h
theorem PGlobOk(g:Nat):loan (PGlob g)=false/\noTupG (PGlob g)=true:=by
 unfold PGlob
 split<;>exact⟨rfl,rfl⟩
theorem PEok:EnvOk2 PE:=envOk_of PE ⟨fun c x=>(PEncOk c x).1,fun c x=>(PEncOk c x).2,PDecOk,fun _ _=>rfl⟩ (by kernel_rfl) (by kernel_rfl) ⟨PGlobOk,eqA_of PPlain,by kernel_rfl,PToBOk,POfBOk⟩
end Go.V
