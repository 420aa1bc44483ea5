import Derived.Test.YtnmecdecebdfiaaDoorVP23F
import Derived.Test.YtnmecdecebdfiaaDoorVJ09
set_option linter.unusedVariables false
set_option linter.unusedSimpArgs false
set_option maxRecDepth 4000
namespace Go.V
def wordP(no:Bool)(ws:List ByteArray):ByteArray×Bool×List ByteArray:=match ws with
 | []=>(str1,true,[])
 | w::r=>(w,no,r)
def okN(w:ByteArray):Bool:=(atoiE w).isNil&&(decide (w.size<=7)&&(decide (0<=atoiN w)&&(decide (atoiN w<=1000000)&&seq (itoaL (atoiN w)) w)))
def numP(no:Bool)(ws:List ByteArray):Int×Bool×List ByteArray:=
 if okN (wordP no ws).1=true then (atoiN (wordP no ws).1,(wordP no ws).2.1,(wordP no ws).2.2) else (0,true,(wordP no ws).2.2)
def simB(w:ByteArray):Bool:=!seq w str1&&(decide (w.size<=8)&&seq (trimL w str12) str1)
def plainP(no:Bool)(ws:List ByteArray):ByteArray×Bool×List ByteArray:=((wordP no ws).1,(wordP no ws).2.1||!simB (wordP no ws).1,(wordP no ws).2.2)
def Sh(l:List ByteArray):Prop:=∀ w∈l,w.size<=1000
theorem wordP_size{no:Bool}{ws:List ByteArray}(h:Sh ws):(wordP no ws).1.size<=1000:=by
 cases ws with
 | nil=>exact Nat.zero_le _
 | cons w r=>exact h w (by simp)
theorem Sh.drop{l:List ByteArray}(h:Sh l)(i:Nat):Sh (l.drop i):=fun w hw=>h w (List.mem_of_mem_drop hw)
section
variable {l:List ByteArray} {i n:Nat} {no:Bool}
theorem word1_s(k:Nat)(hl:l.length<=100000)(hin:i+n=l.length){K:ByteArray->Nat->Nat->Bool->List ByteArray->Prop}(hk:1<=k)
  (h:∀ j m,j+m=l.length->l.drop j=(wordP no (l.drop i)).2.2->K (wordP no (l.drop i)).1 j m (wordP no (l.drop i)).2.1 l):F_desk_line_word_s1 k i n no l K:=by
 obtain⟨k,rfl⟩:∃ m,k=m+1:=⟨k-1,by omega⟩
 rw[F_desk_line_word_s1]
 refine cond_dec (fun e=>?_) (fun e=>?_)
 ·have:l.drop i=[]:=List.drop_of_length_le (by omega)
  have:=h i n hin
  rw[‹l.drop i=[]›] at this
  exact this rfl
 ·have hi:i<l.length:=by omega
  refine⟨by omega,by omega,?_⟩
  rw[drop_cons hi] at h
  have:=h (i+1) (n-1) (by omega) rfl
  rw[show i+Int.toNat 0=i from rfl,getD_at hi,show i+Int.toNat 1=i+1 from rfl,show Int.toNat ((n:Int)-1)=n-1 by omega]
  exact this
theorem step64(t:Nat)(h:t<1000000000):IntKind.i64.wrap ((t:Int)+1)=((t+1:Nat):Int):=by rw[wrap64 (by omega)];rfl
theorem Atoi_s(k:Nat){w:ByteArray}{K:Int->IV->Prop}(hk:1<=k)(hw:w.size<=1000)(h:K (atoiN w) (atoiE w)):F_strconv_Atoi k w K:=by
 obtain⟨k,rfl⟩:∃ m,k=m+1:=⟨k-1,by omega⟩
 rw[F_strconv_Atoi]
 exact⟨by omega,h⟩
theorem Itoa_s(k:Nat){n:Int}{K:ByteArray->Prop}(hk:1<=k)(hn : -9223372036854775808<=n/\n<=9223372036854775807)(h:K (itoaL n)):F_strconv_Itoa k n K:=by
 obtain⟨k,rfl⟩:∃ m,k=m+1:=⟨k-1,by omega⟩
 rw[F_strconv_Itoa]
 exact⟨hn,h⟩
theorem num4_s(k:Nat){K:Int->Nat->Nat->Bool->List ByteArray->Prop}{j m:Nat}(hk:2<=k)(h:K 0 j m true l):C_desk_line_number_4_1 k j m no l K:=by
 obtain⟨k,rfl⟩:∃ m,k=m+2:=⟨k-2,by omega⟩
 rw[C_desk_line_number_4_1]
 simp only[Hold_eq]
 rw[C_desk_line_number_5_1]
 exact h
theorem number1_s(k:Nat)(hl:l.length<=100000)(hS:Sh l)(hin:i+n=l.length){K:Int->Nat->Nat->Bool->List ByteArray->Prop}(hk:10<=k)
  (h:∀ j m,j+m=l.length->l.drop j=(numP no (l.drop i)).2.2->K (numP no (l.drop i)).1 j m (numP no (l.drop i)).2.1 l):F_desk_line_number_s1 k i n no l K:=by
 obtain⟨k,rfl⟩:∃ m,k=m+1:=⟨k-1,by omega⟩
 rw[F_desk_line_number_s1]
 simp only[Hold_eq]
 refine word1_s k hl hin (by omega) fun j m hj hd=>?_
 have hz:=wordP_size (no:=no) (hS.drop i)
 have h:=h j m hj
 unfold numP at h
 revert h hz hd
 generalize wordP no (l.drop i)=p
 intro hd hz h
 obtain⟨k,rfl⟩:∃ m,k=m+2:=⟨k-2,by omega⟩
 rw[C_desk_line_number_2_1]
 simp only[Hold_eq]
 refine Atoi_s _ (by omega) hz ?_
 rw[C_desk_line_number_3_1]
 simp only[Hold_eq]
 have bad:okN p.1=false->C_desk_line_number_4_1 k j m p.2.1 l K:=fun e=>by
  rw[if_neg (by rw[e];decide)] at h
  exact num4_s k (by omega) (h hd)
 refine cond_nb (fun hn=>bad ?_) (fun hn=>?_)
 ·unfold okN;rw[hn];rfl
 ·refine cond_dec (fun g=>bad ?_) (fun g2=>cond_dec (fun g=>bad ?_) (fun g3=>cond_dec (fun g=>bad ?_) (fun g4=>?_)))
  ·unfold okN;rw[hn,decide_eq_false (by omega)];rfl
  ·unfold okN;rw[hn,decide_eq_false (by omega:¬0<=atoiN p.1)];simp
  ·unfold okN;rw[hn,decide_eq_false (by omega:¬atoiN p.1<=1000000)];simp
  ·refine Itoa_s k (by omega) (by omega) (cond_nb (fun g=>bad ?_) (fun g5=>?_))
   ·unfold okN;rw[hn,g];simp
   ·have:okN p.1=true:=by
     unfold okN
     rw[hn,g5,decide_eq_true (by omega:p.1.size<=7),decide_eq_true (by omega:0<=atoiN p.1),decide_eq_true (by omega:atoiN p.1<=1000000)];rfl
    rw[if_pos this] at h
    exact h hd
theorem simple_s(k:Nat){w:ByteArray}{K:Bool->Prop}(hk:2<=k)(hw:w.size<=1000)(h:K (simB w)):F_desk_simple k w K:=by
 obtain⟨k,rfl⟩:∃ m,k=m+2:=⟨k-2,by omega⟩
 rw[F_desk_simple]
 simp only[Hold_eq]
 unfold simB at h
 refine cond_nb (fun g1=>?_) (fun g1=>?_)
 ·rw[g1] at h
  refine cond_dec (fun g2=>?_) (fun g2=>?_)
  ·rw[decide_eq_true (by omega)] at h
   rw[F_strings_Trim]
   have hne:w.size≠0:=fun e=>by
    have e1:w=str1:=by
     cases w with|mk a=>
     have:a = #[]:=Array.eq_empty_of_size_eq_zero e
     rw[this];rfl
    rw[e1] at g1
    exact absurd g1 (by decide +kernel)
   exact⟨⟨⟨by omega,by omega⟩,by decide +kernel⟩,h⟩
  ·rw[decide_eq_false (by omega)] at h
   exact h
 ·rw[g1] at h
  exact h
theorem plain1_s(k:Nat)(hl:l.length<=100000)(hS:Sh l)(hin:i+n=l.length){K:ByteArray->Nat->Nat->Bool->List ByteArray->Prop}(hk:10<=k)
  (h:∀ j m,j+m=l.length->l.drop j=(plainP no (l.drop i)).2.2->K (plainP no (l.drop i)).1 j m (plainP no (l.drop i)).2.1 l):F_desk_line_plain_s1 k i n no l K:=by
 obtain⟨k,rfl⟩:∃ m,k=m+1:=⟨k-1,by omega⟩
 rw[F_desk_line_plain_s1]
 simp only[Hold_eq]
 refine word1_s k hl hin (by omega) fun j m hj hd=>?_
 have hz:=wordP_size (no:=no) (hS.drop i)
 have h:=h j m hj
 unfold plainP at h
 revert h hz hd
 generalize wordP no (l.drop i)=p
 intro hd hz h
 refine cond_b (fun g=>?_) (fun g=>simple_s k (by omega) hz ?_)
 ·simp only[g,Bool.true_or] at h
  exact h hd
 ·simp only[g,Bool.false_or] at h
  exact h hd
end
end Go.V
