import Derived.Test.YtnmecdecebdfiaaDoorVP23A
set_option linter.unusedVariables false
set_option linter.unusedSimpArgs false
set_option maxRecDepth 8000
namespace Go.V
theorem partsL_ne(c:UInt8):∀ l:List UInt8,partsL c l≠[]
 | []=>by simp[partsL]
 | b::l=>by
  rw[partsL]
  cases hb:b==c with
  | true=>simp
  | false=>
   simp only[cond_false]
   cases hp:partsL c l with
   | nil=>exact absurd hp (partsL_ne c l)
   | cons w r=>simp
theorem partsL_none{c:UInt8}:∀ {a:List UInt8},(∀ x∈a,x≠c)->partsL c a=[a]
 | [],h=>rfl
 | b::a,h=>by
  rw[partsL,partsL_none fun x hx=>h x (List.mem_cons_of_mem _ hx)]
  have:(b==c)=false:=by simpa using h b (by simp)
  rw[this];rfl
theorem partsL_cut{c:UInt8}:∀ {a b:List UInt8},(∀ x∈a,x≠c)->partsL c (a++c::b)=a::partsL c b
 | [],b,h=>by rw[List.nil_append,partsL];simp
 | x::a,b,h=>by
  rw[List.cons_append,partsL,partsL_cut fun y hy=>h y (List.mem_cons_of_mem _ hy)]
  have:(x==c)=false:=by simpa using h x (by simp)
  rw[this];rfl
theorem partsL_len{c:UInt8}:∀ {l:List UInt8},(partsL c l).length<=l.length+1/\∀ w∈partsL c l,w.length<=l.length
 | []=>⟨by simp[partsL],by simp[partsL]⟩
 | b::l=>by
  obtain⟨h1,h2⟩:=partsL_len (c:=c) (l:=l)
  rw[partsL]
  cases hb:b==c with
  | true=>
   refine⟨by simp;omega,fun w hw=>?_⟩
   simp only[cond_true,List.mem_cons] at hw
   rcases hw with rfl|hw
   ·simp
   ·have:=h2 w hw;simp;omega
  | false=>
   simp only[cond_false]
   cases hp:partsL c l with
   | nil=>simp
   | cons w r=>
    rw[hp] at h1 h2
    refine⟨by simp at h1 ⊢;omega,fun x hx=>?_⟩
    rcases List.mem_cons.1 hx with rfl|hx
    ·have:=h2 w (by simp);simpa using this
    ·have:=h2 x (List.mem_cons_of_mem _ hx);simp;omega
def wordsL(s:ByteArray):List ByteArray:=splitL s str0
theorem ofL_size(l:List UInt8):(ofL l).size=l.length:=by show l.toArray.size=_;simp
theorem wordsL_eq(s:ByteArray):wordsL s=(partsL 32 s.data.toList).map ofL:=rfl
theorem wordsL_facts{s:ByteArray}(h:s.size<=1000):Sh (wordsL s)/\(wordsL s).length<=1001/\wordsL s≠[]:=by
 have hs:s.data.toList.length=s.size:=by rw[Array.length_toList];rfl
 obtain⟨h1,h2⟩:=partsL_len (c:=32) (l:=s.data.toList)
 rw[wordsL_eq]
 refine⟨fun w hw=>?_,by rw[List.length_map];omega,fun e=>partsL_ne 32 _ (List.map_eq_nil_iff.1 e)⟩
 obtain⟨x,hx,rfl⟩:=List.mem_map.1 hw
 rw[ofL_size]
 have:=h2 x hx
 omega
abbrev KQ:=Int->Int->Int->Int->Int->Int->Int->ByteArray->ByteArray->Int->List Int->Int->ByteArray->Int->Int->Int->Prop
def pK(K:KQ)(r:S_api_Act×Int):Prop:=K r.1.f0 r.1.f1 r.1.f2 r.1.f3 r.1.f4.f0 r.1.f4.f1 r.1.f4.f2 r.1.f4.f3 r.1.f4.f4 r.1.f4.f5 r.1.f4.f6 r.1.f5 r.1.f6 r.1.f7.f0 r.1.f7.f1 r.2
def actW(l:List ByteArray):S_api_Act×Bool×List ByteArray:=actM (l.headD ByteArray.empty) false l 1
def parM(s:ByteArray):S_api_Act×Int:=
 if 200<s.size then (zA,200) else if (actW (wordsL s)).2.1=true\/(actW (wordsL s)).2.2≠[] then (zA,200) else ((actW (wordsL s)).1,0)
theorem Parse_s(k:Nat){s:ByteArray}{K:KQ}(hk:100300<=k)(h:pK K (parM s)):F_desk_Parse k s K:=by
 obtain⟨k,rfl⟩:∃ m,k=m+1:=⟨k-1,by omega⟩
 rw[F_desk_Parse]
 simp only[Hold_eq]
 unfold parM at h
 refine cond_dec (fun g=>?_) (fun g=>?_)
 ·rw[if_pos (by omega)] at h
  exact h
 ·rw[if_neg (by omega)] at h
  obtain⟨hS,hl,hne⟩:=wordsL_facts (s:=s) (by omega)
  obtain⟨k,rfl⟩:∃ m,k=m+1:=⟨k-1,by omega⟩
  rw[F_strings_Split]
  refine⟨⟨by decide +kernel,by omega⟩,?_⟩
  show F_desk_line_word (k+1) false (wordsL s) _ _
  revert h hS hl hne
  generalize wordsL s=l
  intro h hS hl hne
  cases l with
  | nil=>exact absurd rfl hne
  | cons w r=>
  rw[F_desk_line_word]
  refine cond_dec (fun e=>by simp at e;omega) (fun _=>⟨by simp,by simp;omega,?_⟩)
  have e2:(Int.toNat ((((w::r).length:Nat):Int)-1))=r.length:=by simp
  rw[e2]
  refine act_s (k+1) (by omega) (by omega) hS (i:=1) (n:=r.length) (by simp;omega) ?_
  have e3:(w::r).getD (Int.toNat 0) ByteArray.empty=w:=rfl
  rw[e3]
  have e4:actW (w::r)=actM w false (w::r) 1:=rfl
  rw[e4] at h
  show AFin _ _ (w::r) (actM w false (w::r) 1)
  revert h
  generalize actM w false (w::r) 1=q
  intro h
  refine⟨fun j m hj hd=>?_,fun hd=>?_⟩
  ·dsimp only;rw[C_desk_Parse_5_1]
   simp only[Hold_eq]
   refine cond_b (fun g1=>?_) (fun g1=>cond_dec (fun g2=>?_) (fun g2=>?_))
   ·rw[if_pos (.inl g1)] at h
    obtain⟨k,rfl⟩:∃ m,k=m+1:=⟨k-1,by omega⟩
    rw[C_desk_Parse_6];exact h
   ·rw[if_pos (.inr fun e=>by rw[e] at hd;have:=congrArg List.length hd;rw[List.length_drop] at this;simp at this;simp at hj;omega)] at h
    obtain⟨k,rfl⟩:∃ m,k=m+1:=⟨k-1,by omega⟩
    rw[C_desk_Parse_6];exact h
   ·rw[if_neg (fun e=>by
     rcases e with e|e
     ·rw[g1] at e;cases e
     ·refine e ?_
      rw[<-hd]
      exact List.drop_of_length_le (by omega))] at h
    exact h
  ·dsimp only;rw[C_desk_Parse_5]
   simp only[Hold_eq]
   refine cond_b (fun g1=>?_) (fun g1=>cond_dec (fun g2=>by simp at g2) (fun g2=>?_))
   ·rw[if_pos (.inl g1)] at h
    obtain⟨k,rfl⟩:∃ m,k=m+1:=⟨k-1,by omega⟩
    rw[C_desk_Parse_6];exact h
   ·rw[if_neg (fun e=>by
     rcases e with e|e
     ·rw[g1] at e;cases e
     ·exact e hd)] at h
    exact h
theorem extract_toList(s:ByteArray)(a b:Nat):(s.extract a b).data.toList=(s.data.toList.drop a).take (b-a):=by
 simp[ByteArray.data_extract,List.extract]
theorem extract_ofL(s:ByteArray)(a b:Nat):s.extract a b=ofL ((s.data.toList.drop a).take (b-a)):=by rw[<-extract_toList];rfl
theorem bt_at{s:ByteArray}{j:Nat}(h:j<s.data.toList.length):bt s j=((s.data.toList[j].toNat:Nat):Int):=by
 have:j<s.data.size:=by simpa using h
 unfold bt
 have e:s.data.getD j 0=s.data.toList[j]:=by rw[Array.getD_eq_getD_getElem?,Array.getElem?_eq_getElem this];rfl
 rw[e]
theorem words_loop{s:ByteArray}(hs:s.size<=1000000){K:List ByteArray->Prop}:∀ (m i a k:Nat) (acc:List ByteArray),i+m=s.size->a<=i->3*m+5<=k->acc.length<=i->(∀ x∈(s.data.toList.drop a).take (i-a),x≠32) →
  K (acc++(partsL 32 (s.data.toList.drop a)).map ofL)->C_r23_Words_4 k s (a:Int) (i:Int) acc K:=by
 have hn:s.data.toList.length=s.size:=by rw[Array.length_toList];rfl
 intro m
 induction m with
 | zero=>
  intro i a k acc hi ha hk hc hx h
  obtain⟨k,rfl⟩:∃ m,k=m+4:=⟨k-4,by omega⟩
  rw[C_r23_Words_4]
  simp only[Hold_eq]
  refine cond_dec (fun _=>cond_dec (fun _=>?_) (fun e=>by omega)) (fun e=>by omega)
  rw[C_r23_Words_7]
  simp only[Hold_eq]
  refine⟨by omega,by unfold room;simp only[List.length_cons,List.length_nil];omega,?_⟩
  rw[C_r23_Words_5]
  simp only[Hold_eq]
  rw[step64 i (by omega),C_r23_Words_4]
  refine cond_dec (fun e=>by omega) (fun _=>?_)
  have e1:(s.data.toList.drop a).take (i-a)=s.data.toList.drop a:=List.take_of_length_le (by rw[List.length_drop];omega)
  rw[e1] at hx
  rw[partsL_none hx] at h
  rw[extract_ofL,Int.toNat_natCast,Int.toNat_natCast,e1]
  exact h
 | succ m ih=>
  intro i a k acc hi ha hk hc hx h
  obtain⟨k,rfl⟩:∃ m,k=m+3:=⟨k-3,by omega⟩
  have hil:i<s.data.toList.length:=by omega
  rw[C_r23_Words_4]
  simp only[Hold_eq]
  refine cond_dec (fun _=>cond_dec (fun e=>by omega) (fun _=>⟨by omega,?_⟩)) (fun e=>by omega)
  rw[Int.toNat_natCast,bt_at hil]
  have tk:(s.data.toList.drop a).take (i+1-a)=(s.data.toList.drop a).take (i-a)++[s.data.toList[i]]:=by
   rw[show i+1-a=(i-a)+1 by omega,List.take_succ_eq_append_getElem (by rw[List.length_drop];omega),List.getElem_drop]
   congr 2
   congr 1;omega
  have sp:s.data.toList.drop a=(s.data.toList.drop a).take (i-a)++s.data.toList[i]::s.data.toList.drop (i+1):=by
   conv=>lhs;rw[<-List.take_append_drop (i-a) (s.data.toList.drop a)]
   rw[List.drop_drop,show a+(i-a)=i by omega,drop_cons hil]
  refine cond_dec (fun e=>?_) (fun e=>?_)
  ·have e32:s.data.toList[i]=32:=by
    have:s.data.toList[i].toNat=32:=by omega
    exact UInt8.toNat_inj.1 this
   rw[C_r23_Words_7]
   simp only[Hold_eq]
   refine⟨by omega,by unfold room;simp only[List.length_cons,List.length_nil];omega,?_⟩
   rw[C_r23_Words_5]
   simp only[Hold_eq]
   rw[step64 i (by omega)]
   refine ih (i+1) (i+1) k _ (by omega) (by omega) (by omega) (by rw[List.length_append,List.length_singleton];omega) (by rw[Nat.sub_self];simp) ?_
   rw[sp,e32,partsL_cut hx,List.map_cons] at h
   rw[extract_ofL,Int.toNat_natCast,Int.toNat_natCast,List.append_assoc]
   exact h
  ·rw[C_r23_Words_5]
   simp only[Hold_eq]
   rw[step64 i (by omega)]
   refine ih (i+1) a (k+1) _ (by omega) (by omega) (by omega) (by omega) (fun x hx2=>?_) h
   rw[tk] at hx2
   rcases List.mem_append.1 hx2 with hx2|hx2
   ·exact hx x hx2
   ·obtain rfl:=List.mem_singleton.1 hx2
    intro e3
    rw[e3] at e
    exact e rfl
theorem Words_s(k:Nat){s:ByteArray}(hs:s.size<=1000000){K:List ByteArray->Prop}(hk:3*s.size+10<=k)(h:K (wordsL s)):F_r23_Words k s K:=by
 obtain⟨k,rfl⟩:∃ m,k=m+1:=⟨k-1,by omega⟩
 rw[F_r23_Words]
 simp only[Hold_eq]
 exact words_loop hs s.size 0 0 k [] (by omega) (by omega) (by omega) (by simp) (by simp) (by rw[List.nil_append,List.drop_zero];exact h)
end Go.V
