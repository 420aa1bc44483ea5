import Derived.Test.YtgeonfbhejigjaaGreatDoorVI10A
set_option linter.unusedVariables false
set_option linter.unusedSimpArgs false
set_option maxRecDepth 4000
namespace Go.V
def grp(n:Nat):List Int:=if h:n<128 then [(n:Int)] else ((128+n % 128:Nat):Int)::grp (n / 128)
termination_by n
decreasing_by omega
theorem grp_small{n:Nat}(h:n<128):grp n=[(n:Int)]:=by rw[grp,dif_pos h]
theorem grp_big{n:Nat}(h:¬n<128):grp n=((128+n % 128:Nat):Int)::grp (n / 128):=by rw[grp,dif_neg h]
theorem grp_len:∀ (r n:Nat),n<128 ^ (r+1)->(grp n).length<=r+1/\1<=(grp n).length
 | 0,n,h=>by rw[grp_small (by simpa using h)];simp
 | r+1,n,h=>by
  by_cases h1:n<128
  ·rw[grp_small h1];simp
  ·rw[grp_big h1]
   have:=grp_len r (n / 128) (by rw[Nat.div_lt_iff_lt_mul (by omega)];rw[Nat.pow_succ] at h;exact h)
   simp;omega
theorem grp_B8:∀ (n:Nat),B8 (grp n):=by
 intro n
 induction n using Nat.strongRecOn with
 | _ n ih=>
  by_cases h:n<128
  ·rw[grp_small h];exact B8.cons (by omega) B8.nil
  ·rw[grp_big h];exact B8.cons (by omega) (ih _ (by omega))
theorem grp_mod{n:Nat}:Int.tmod (n:Int) 128=((n % 128:Nat):Int):=by rfl
theorem grp_div{n:Nat}:Int.tdiv (n:Int) 128=((n / 128:Nat):Int):=by rfl
theorem groups_loop1:∀ (n k:Nat) (acc:List Int) {K:Int->List Int->Prop},n<4294967296->3*n+3<=k->acc.length+n<=10000000000->(∀ m,K m (acc++grp n))->C_octet_groups_1_0_1 k (n:Int) acc K:=by
 intro n
 induction n using Nat.strongRecOn with
 | _ n ih=>
  intro k acc K hn hk ha h
  obtain⟨k,rfl⟩:∃ m,k=m+1:=⟨k-1,by omega⟩
  rw[C_octet_groups_1_0_1]
  simp only[Hold_eq]
  refine cond_dec (fun h1=>?_) (fun h1=>?_)
  ·obtain⟨k,rfl⟩:∃ m,k=m+2:=⟨k-2,by omega⟩
   rw[grp_big (by omega)] at h
   have e1:IntKind.i64.wrap (((n % 128:Nat):Int)+128)=((128+n % 128:Nat):Int):=by rw[wrap64 (by omega)];omega
   have e2:IntKind.u8.wrap ((128+n % 128:Nat):Int)=((128+n % 128:Nat):Int):=wrap8 (by omega)
   have e3:IntKind.i64.wrap ((n / 128:Nat):Int)=((n / 128:Nat):Int):=wrap64 (by omega)
   rw[C_octet_groups_1_1_1]
   simp only[Hold_eq,F_octet_PutCount_y5_s1,grp_mod,grp_div,e1,e2,e3]
   refine⟨by decide,by unfold room;simp only[List.length_cons,List.length_nil];omega,by decide,?_⟩
   exact ih (n / 128) (by omega) (k+1) (acc++[((128+n % 128:Nat):Int)]) (by omega) (by omega) (by
    simp only[List.length_append,List.length_cons,List.length_nil]
    omega) (fun m=>by
     rw[List.append_assoc]
     exact h m)
  ·obtain⟨k,rfl⟩:∃ m,k=m+1:=⟨k-1,by omega⟩
   rw[grp_small (by omega)] at h
   have e2:IntKind.u8.wrap (n:Int)=(n:Int):=wrap8 (by omega)
   simp only[F_octet_PutCount_y5_s1,e2]
   exact⟨by unfold room;simp only[List.length_cons,List.length_nil];omega,h _⟩
theorem groups_s(n k:Nat)(acc:List Int){K:Int->List Int->Prop}(hn:n<4294967296)(hk:3*n+6<=k)(ha:acc.length<=1000000000)(h:∀ m,K m (acc++grp n)):F_octet_groups_1 k (n:Int) acc K:=by
 obtain⟨k,rfl⟩:∃ m,k=m+2:=⟨k-2,by omega⟩
 rw[F_octet_groups_1,C_octet_groups_1_0]
 simp only[Hold_eq]
 refine cond_dec (fun h1=>?_) (fun h1=>?_)
 ·obtain⟨k,rfl⟩:∃ m,k=m+2:=⟨k-2,by omega⟩
  rw[grp_big (by omega)] at h
  have e1:IntKind.i64.wrap (((n % 128:Nat):Int)+128)=((128+n % 128:Nat):Int):=by rw[wrap64 (by omega)];omega
  have e2:IntKind.u8.wrap ((128+n % 128:Nat):Int)=((128+n % 128:Nat):Int):=wrap8 (by omega)
  have e3:IntKind.i64.wrap ((n / 128:Nat):Int)=((n / 128:Nat):Int):=wrap64 (by omega)
  rw[C_octet_groups_1_1]
  simp only[Hold_eq,F_octet_PutCount_y5,grp_mod,grp_div,e1,e2,e3]
  refine⟨by decide,⟨by unfold room;simp only[List.length_cons,List.length_nil];omega,.inr (by simp)⟩,by decide,?_⟩
  exact groups_loop1 (n / 128) (k+1) (acc++[((128+n % 128:Nat):Int)]) (by omega) (by omega) (by
   simp only[List.length_append,List.length_cons,List.length_nil]
   omega) (fun m=>by
    rw[List.append_assoc]
    exact h m)
 ·obtain⟨k,rfl⟩:∃ m,k=m+1:=⟨k-1,by omega⟩
  rw[grp_small (by omega)] at h
  have e2:IntKind.u8.wrap (n:Int)=(n:Int):=wrap8 (by omega)
  simp only[F_octet_PutCount_y5,e2]
  exact⟨⟨by unfold room;simp only[List.length_cons,List.length_nil];omega,.inr (by simp)⟩,h _⟩
theorem PutCount_s(n k:Nat)(b:List Int){K:List Int->Int->Prop}(hn:n<=2147483647)(hk:3*n+9<=k)(hb:b.length<=1000000000)(h:K (b++grp n) 0):F_octet_PutCount k b (n:Int) K:=by
 obtain⟨k,rfl⟩:∃ m,k=m+2:=⟨k-2,by omega⟩
 rw[F_octet_PutCount]
 simp only[Hold_eq]
 refine cond_dec (fun h1=>by omega) (fun h1=>cond_dec (fun h2=>by omega) (fun h2=>?_))
 refine⟨⟨by omega,by omega,trivial,by omega⟩,?_⟩
 rw[F_octet_groups]
 rw[show cut b (Int.toNat 0) (Int.toNat ((b.length:Int)-0))=b from cut_all _ (by simp)]
 exact groups_s n (k+1) b (by omega) (by omega) hb fun m=>h
theorem PutDigest_s(k:Nat)(b d:List Int){K:List Int->Prop}(hk:1<=k)(hd:Dig d)(hb:b.length<=1000000000)(h:K (b++d)):F_octet_PutDigest k b d K:=by
 obtain⟨k,rfl⟩:∃ m,k=m+1:=⟨k-1,by omega⟩
 rw[F_octet_PutDigest]
 have e1:cut b (Int.toNat 0) (Int.toNat ((b.length:Int)-0))=b:=cut_all _ (by simp)
 have e2:cut d (Int.toNat 0) (Int.toNat (32-0))=d:=cut_all _ (by rw[hd.1];decide)
 rw[e1,e2]
 refine⟨by omega,by decide,⟨by unfold room;rw[hd.1];omega,.inr ?_⟩,h⟩
 intro e
 have:=hd.1
 rw[e] at this
 simp at this
theorem less_tri:∀ x y:List UInt8,(!(Op.bytesLess x y||decide (x=y)))=Op.bytesLess y x
 | [],[]=>rfl
 | [],b::y=>rfl
 | a::x,[]=>rfl
 | a::x,b::y=>by
  have ih:=less_tri x y
  unfold Op.bytesLess
  by_cases h1:a<b
  ·have h2:¬b<a:=by rw[UInt8.lt_iff_toNat_lt] at h1 ⊢;omega
   have h3:¬b=a:=by rintro rfl;exact h2 h1
   simp[h1,h2,h3]
  ·by_cases h2:b<a
   ·have h3:¬a=b:=by rintro rfl;exact h1 h2
    simp[h1,h2,h3]
   ·have h3:a=b:=by
     rw[UInt8.lt_iff_toNat_lt] at h1 h2
     exact UInt8.toNat_inj.1 (by omega)
    subst h3
    simp only[h1,decide_false,Bool.false_or,beq_self_eq_true,Bool.true_and,List.cons.injEq,true_and]
    exact ih
theorem slt_tri(a b:ByteArray):(!(slt a b||seq a b))=slt b a:=by
 unfold slt seq
 have:decide (a=b)=decide (a.toList=b.toList):=by
  refine decide_eq_decide.2 ⟨fun h=>by rw[h],fun h=>?_⟩
  rw[ByteArray.toList_eq,ByteArray.toList_eq] at h
  exact ByteArray.ext (Array.ext' h)
 rw[this]
 exact less_tri _ _
theorem str0_size{a:ByteArray}:a=str0↔a.size=0:=by
 constructor
 ·rintro rfl;rfl
 ·intro h
  refine ByteArray.ext ?_
  have:a.data.size=0:=h
  exact Array.eq_empty_of_size_eq_zero this
theorem seq_str0(a:ByteArray):seq a str0=decide (a.size=0):=decide_eq_decide.2 str0_size
theorem slt_str0(a:ByteArray):slt str0 a=decide (a.size≠0):=by
 rw[<-slt_tri,seq_str0]
 have:slt a str0=false:=by
  unfold slt
  rw[show str0.toList=[] from ByteArray.toList_eq str0]
  cases a.toList<;>rfl
 rw[this,Bool.false_or,<-decide_not]
def mayV(v:S_api_Version):Bool:=(decide (1<=v.f0)&&decide (v.f0<=200))&&cond (decide (v.f1=1)||decide (v.f1=2)) (decide (1<=v.f2.size)&&decide (v.f2.size<=64)) (decide (v.f1=3)&&decide (v.f2.size=0))
def openK(n:Int):Bool:=decide (n=0)||decide (n=3)
def versGo:Int->Int->List S_api_Version->Bool
 | _,_,[]=>true
 | e,d,v::l=>(mayV v&&(decide (e<=v.f0)&&(openK d==decide (v.f1=1))))&&versGo v.f0 v.f1 l
def versB(l:List S_api_Version):Bool:=decide (l.length<=16)&&versGo 0 0 l
theorem within_s(k:Nat){n a b:Int}{K:Bool->Prop}(hk:1<=k)(h:K (decide (a<=n)&&decide (n<=b))):F_directory_within k n a b K:=by
 obtain⟨k,rfl⟩:∃ m,k=m+1:=⟨k-1,by omega⟩
 rw[F_directory_within]
 refine cond_dec (fun h1=>?_) (fun h1=>?_)
 ·rw[decide_eq_true h1,Bool.true_and] at h;exact h
 ·rw[decide_eq_false h1,Bool.false_and] at h;exact h
def nameB(s:ByteArray):Bool:=decide (1<=s.size)&&decide (s.size<=32)
theorem nat_le(a b:Nat):decide ((a:Int)<=(b:Int))=decide (a<=b):=decide_eq_decide.2 (by omega)
theorem name_s(k:Nat){s:ByteArray}{K:Bool->Prop}(hk:2<=k)(h:K (nameB s)):F_directory_name k s K:=by
 obtain⟨k,rfl⟩:∃ m,k=m+1:=⟨k-1,by omega⟩
 rw[F_directory_name]
 simp only[Hold_eq]
 refine within_s k (by omega) ?_
 rw[show (1:Int)=((1:Nat):Int) from rfl,show (32:Int)=((32:Nat):Int) from rfl,nat_le,nat_le]
 exact h
theorem may3_s(k:Nat){ok:Bool}{e d:Int}{key:ByteArray}{K:Bool->Prop}(hk:1<=k)(h:K (ok&&cond (decide (d=1)||decide (d=2)) (decide (1<=key.size)&&decide (key.size<=64)) (decide (d=3)&&decide (key.size=0)))):C_version_may_3 k ok d e d key K:=by
 obtain⟨k,rfl⟩:∃ m,k=m+1:=⟨k-1,by omega⟩
 rw[C_version_may_3,seq_str0]
 have key64:(decide (d=1)||decide (d=2))=true->cond ok (cond (!decide (key.size=0)) (K (decide (((ByteArray.size key:Nat):Int)<=(64:Int)))) (K false)) (K false):=by
  intro hd
  rw[hd,cond_true] at h
  refine cond_b (fun h1=>cond_ndec (fun h2=>?_) (fun h2=>?_)) (fun h1=>?_)
  ·rw[h1,Bool.true_and,decide_eq_true (by omega),Bool.true_and] at h
   rw[show (64:Int)=((64:Nat):Int) from rfl,nat_le];exact h
  ·rw[h1,Bool.true_and,decide_eq_false (by omega),Bool.false_and] at h;exact h
  ·rw[h1,Bool.false_and] at h;exact h
 refine cond_dec (fun h1=>key64 (by simp[h1])) (fun h1=>cond_dec (fun h2=>key64 (by simp[h2])) (fun h2=>?_))
 rw[decide_eq_false h1,decide_eq_false h2,Bool.or_false,cond_false] at h
 refine cond_dec (fun h3=>cond_b (fun h4=>?_) (fun h4=>?_)) (fun h3=>?_)
 ·rw[h4,Bool.true_and,decide_eq_true h3,Bool.true_and] at h;exact h
 ·rw[h4,Bool.false_and] at h;exact h
 ·rw[decide_eq_false h3,Bool.false_and,Bool.and_false] at h;exact h
theorem version_may_s(k:Nat){v:S_api_Version}{K:Bool->Prop}(hk:2<=k)(h:K (mayV v)):F_version_may k v.f0 v.f1 v.f2 K:=by
 obtain⟨k,rfl⟩:∃ m,k=m+1:=⟨k-1,by omega⟩
 rw[F_version_may]
 simp only[Hold_eq]
 unfold mayV at h
 refine cond_dec (fun h1=>may3_s k (by omega) ?_) (fun h1=>may3_s k (by omega) ?_)
 ·rw[decide_eq_true h1,Bool.true_and] at h;exact h
 ·rw[decide_eq_false h1,Bool.false_and,Bool.false_and] at h
  rw[Bool.false_and];exact h
theorem open_s(k:Nat){e d:Int}{key:ByteArray}{K:Bool->Prop}(hk:1<=k)(h:K (openK d)):F_version_open k e d key K:=by
 obtain⟨k,rfl⟩:∃ m,k=m+1:=⟨k-1,by omega⟩
 rw[F_version_open]
 unfold openK at h
 refine cond_dec (fun h1=>?_) (fun h1=>?_)
 ·rw[decide_eq_true h1,Bool.true_or] at h;exact h
 ·rw[decide_eq_false h1,Bool.false_or] at h;exact h
def wasE(l:List S_api_Version)(j:Nat):Int:=if j=0 then 0 else (l.getD (j-1) (S_api_Version.mk 0 0 .empty)).f0
def wasK(l:List S_api_Version)(j:Nat):Int:=if j=0 then 0 else (l.getD (j-1) (S_api_Version.mk 0 0 .empty)).f1
theorem wasE_succ{l:List S_api_Version}{j:Nat}(h:j<l.length):wasE l (j+1)=l[j].f0:=by unfold wasE;rw[if_neg (by omega),Nat.add_sub_cancel,getD_at h]
theorem wasK_succ{l:List S_api_Version}{j:Nat}(h:j<l.length):wasK l (j+1)=l[j].f1:=by unfold wasK;rw[if_neg (by omega),Nat.add_sub_cancel,getD_at h]
theorem last_s(k:Nat){l:List S_api_Version}{j:Nat}{K:Int->Int->ByteArray->Prop}(hj:j<=l.length)(hn:l.length<=100000)(hk:1<=k)(h:∀ key,K (wasE l j) (wasK l j) key):F_version_last k (l.take j) K:=by
 obtain⟨k,rfl⟩:∃ m,k=m+1:=⟨k-1,by omega⟩
 rw[F_version_last]
 have e:(l.take j).length=j:=by rw[List.length_take];omega
 rw[e]
 unfold wasE wasK at h
 refine cond_dec (fun h1=>?_) (fun h1=>?_)
 ·have:j=0:=by omega
  rw[if_pos this,if_pos this] at h
  exact h _
 ·have h0:¬j=0:=by omega
  have e2:IntKind.i64.wrap ((j:Int)-1)=((j-1:Nat):Int):=by rw[wrap64 (by omega)];omega
  rw[e2,Int.toNat_natCast]
  have h2:j-1<(l.take j).length:=by omega
  have h3:j-1<l.length:=by omega
  rw[getD_at h2,List.getElem_take]
  rw[if_neg h0,if_neg h0,getD_at h3] at h
  exact⟨by omega,h _⟩
theorem vers_bad{l:List S_api_Version}(k j:Nat){K:Int->Prop}(hk:1<=k)(h:K 50):C_version_Check_3 k l false (j:Int) K:=by
 obtain⟨k,rfl⟩:∃ m,k=m+1:=⟨k-1,by omega⟩
 rw[C_version_Check_3]
 exact h
theorem vers_loop{l:List S_api_Version}(hn:l.length<=16):∀ (m j k:Nat) {K:Int->Prop},j+m=l.length->2*m+10<=k->K (cond (versGo (wasE l j) (wasK l j) (l.drop j)) 0 50)->C_version_Check_3 k l true (j:Int) K:=by
 intro m
 induction m with
 | zero=>
  intro j k K hj hk h
  obtain⟨k,rfl⟩:∃ m,k=m+1:=⟨k-1,by omega⟩
  rw[C_version_Check_3]
  rw[List.drop_of_length_le (by omega)] at h
  rw[cond_true]
  exact cond_dec (fun h1=>by omega) (fun h1=>h)
 | succ m ih=>
  intro j k K hj hk h
  obtain⟨k,rfl⟩:∃ m,k=m+2:=⟨k-2,by omega⟩
  rw[C_version_Check_3]
  simp only[Hold_eq]
  have hj1:j<l.length:=by omega
  rw[cond_true]
  refine cond_dec (fun h1=>?_) (fun h1=>by omega)
  rw[Int.toNat_natCast,getD_at hj1]
  rw[drop_cons hj1,versGo,<-wasE_succ hj1,<-wasK_succ hj1] at h
  have bad:K 50->C_version_Check_4 (k+1) l false (j:Int) K:=by
   intro h
   rw[C_version_Check_4]
   simp only[Hold_eq]
   rw[step64 j (by omega)]
   exact vers_bad k (j+1) (by omega) h
  refine⟨by omega,last_s (k+1) (by omega) (by omega) (by omega) fun key=>⟨by omega,version_may_s (k+1) (by omega) (cond_b (fun h2=>?_) (fun h2=>?_))⟩⟩
  ·rw[h2,Bool.true_and] at h
   refine⟨by omega,cond_dec (fun h3=>?_) (fun h3=>?_)⟩
   ·rw[wasE_succ hj1,decide_eq_true h3,Bool.true_and] at h
    refine⟨by omega,open_s (k+1) (by omega) ?_⟩
    rw[wasK_succ hj1] at h
    cases h4:(openK (wasK l j)==decide (l[j].f1=1))
    ·rw[h4,Bool.false_and] at h
     exact bad h
    ·rw[h4,Bool.true_and] at h
     rw[C_version_Check_4]
     simp only[Hold_eq]
     rw[step64 j (by omega)]
     exact ih (j+1) k (by omega) (by omega) (by rw[wasE_succ hj1,wasK_succ hj1];exact h)
   ·rw[wasE_succ hj1,decide_eq_false h3,Bool.false_and,Bool.false_and] at h
    exact bad h
  ·rw[h2,Bool.false_and,Bool.false_and] at h
   exact bad h
theorem version_Check_s(k:Nat){l:List S_api_Version}{K:Int->Prop}(hk:100<=k)(h:K (cond (versB l) 0 50)):F_version_Check k l K:=by
 obtain⟨k,rfl⟩:∃ m,k=m+1:=⟨k-1,by omega⟩
 rw[F_version_Check]
 simp only[Hold_eq]
 unfold versB at h
 rw[show (16:Int)=((16:Nat):Int) from rfl,nat_le]
 by_cases h1:l.length<=16
 ·rw[decide_eq_true h1,Bool.true_and] at h
  rw[decide_eq_true h1]
  exact vers_loop h1 l.length 0 k (by omega) (by omega) h
 ·rw[decide_eq_false h1,Bool.false_and] at h
  rw[decide_eq_false h1]
  exact vers_bad k 0 (by omega) h
end Go.V
