import Derived.Test.YtnmecdecebdfiaaDoorVP23R
set_option linter.unusedVariables false
set_option linter.unusedSimpArgs false
set_option maxRecDepth 8000
namespace Go.V
theorem ofL_app(a b:List UInt8):ofL a++ofL b=ofL (a++b):=by
 apply ByteArray.ext
 show (ofL a++ofL b).data=_
 rw[ByteArray.data_append]
 simp[ofL]
theorem digit_at:∀ d:Nat,d<10->str23.extract d (d+1)=ofL [UInt8.ofNat (48+d)]:=by
 intro d hd
 have:d=0\/d=1\/d=2\/d=3\/d=4\/d=5\/d=6\/d=7\/d=8\/d=9:=by omega
 rcases this with rfl|rfl|rfl|rfl|rfl|rfl|rfl|rfl|rfl|rfl<;>decide +kernel
theorem dec_len:∀ (d u:Nat),u<10 ^ (d+1)->(Lib.decDigits u).length<=d+1
 | 0,u,h=>by rw[Lib.decDigits,dif_pos (by omega)];simp
 | d+1,u,h=>by
  rw[Lib.decDigits]
  split
  ·simp
  ·rw[List.length_append]
   have:=dec_len d (u / 10) (by rw[Nat.pow_succ] at h;omega)
   simp;omega
def I64(n:Int):Prop := -9223372036854775808<=n/\n<=9223372036854775807
theorem itoaL_size{n:Int}(h:I64 n):(itoaL n).size<=21:=by
 obtain⟨h1,h2⟩:=h
 have key:∀ u:Nat,u<10 ^ 20->(Lib.decDigits u).length<=20:=fun u hu=>dec_len 19 u hu
 have hp:(10:Nat) ^ 20=100000000000000000000:=rfl
 unfold itoaL
 rw[ofL_size,Lib.itoa]
 split
 ·have:=key n.natAbs (by omega);simp;omega
 ·have:=key n.toNat (by omega);omega
theorem itoaL_pos{n:Int}(h0:10<=n):itoaL n=itoaL (n / 10)++ofL [UInt8.ofNat (48+(n % 10).toNat)]:=by
 unfold itoaL
 rw[ofL_app,Lib.itoa,if_neg (by omega),Lib.itoa,if_neg (by omega),Lib.decDigits,dif_neg (by omega)]
 rw[show n.toNat / 10=(n / 10).toNat by omega,show n.toNat % 10=(n % 10).toNat by omega]
theorem itoaL_dig{n:Int}(h0:0<=n)(h1:n<10):itoaL n=ofL [UInt8.ofNat (48+n.toNat)]:=by
 unfold itoaL
 rw[Lib.itoa,if_neg (by omega),Lib.decDigits,dif_pos (by omega)]
theorem itoaL_ndig{n:Int}(h0:n<0)(h1 : -10<n):itoaL n=str24++ofL [UInt8.ofNat (48+(-n).toNat)]:=by
 rw[show str24=ofL [45] from rfl,ofL_app]
 unfold itoaL
 rw[Lib.itoa,if_pos h0,Lib.decDigits,dif_pos (by omega),show n.natAbs=(-n).toNat by omega];rfl
theorem itoaL_neg{n:Int}(h0:n <= -10):itoaL n=itoaL (-(-n / 10))++ofL [UInt8.ofNat (48+(-n % 10).toNat)]:=by
 unfold itoaL
 rw[ofL_app,Lib.itoa,if_pos (by omega),Lib.itoa,if_pos (by omega),Lib.decDigits,dif_neg (by omega)]
 rw[show n.natAbs / 10=(-(-n / 10)).natAbs by omega,show n.natAbs % 10=(-n % 10).toNat by omega];rfl
theorem tdiv_pos{n:Int}(h:0<=n):Int.tdiv n 10=n / 10/\Int.tmod n 10=n % 10:=⟨Int.tdiv_eq_ediv_of_nonneg h,Int.tmod_eq_emod_of_nonneg h⟩
theorem tdiv_neg{n:Int}(h:n<0):Int.tdiv n 10 = -(-n / 10)/\Int.tmod n 10 = -(-n % 10):=by
 have h1:=tdiv_pos (n := -n) (by omega)
 have e:n = - -n:=by omega
 constructor
 ·conv=>lhs;rw[e,Int.neg_tdiv]
  rw[h1.1]
 ·conv=>lhs;rw[e,Int.neg_tmod]
  rw[h1.2]
theorem str23_size:str23.size=10:=by decide +kernel
theorem ex_at{d:Int}(h:0<=d/\d<10):str23.extract d.toNat (IntKind.i64.wrap (d+1)).toNat=ofL [UInt8.ofNat (48+d.toNat)]:=by
 rw[wrap64 (by omega),show (d+1).toNat=d.toNat+1 by omega,digit_at _ (by omega)]
theorem max_big:1000000<=maxStr:=by unfold maxStr;omega
theorem Number_s:∀ (d k:Nat) {n:Int} {K:ByteArray->Prop},n.natAbs<10 ^ (d+1)->I64 n->3*d+5<=k->K (itoaL n)->F_r23_Number k n K:=by
 intro d
 induction d with
 | zero=>
  intro k n K hn hr hk h
  obtain⟨k,rfl⟩:∃ m,k=m+2:=⟨k-2,by omega⟩
  rw[F_r23_Number]
  simp only[Hold_eq]
  have hb:=max_big
  refine cond_dec (fun g=>cond_dec (fun g2=>⟨by rw[wrap64 (by omega),str23_size];omega,?_⟩) (fun g2=>by omega)) (fun g=>?_)
  ·rw[ex_at ⟨g,g2⟩,<-itoaL_dig g g2];exact h
  ·rw[C_r23_Number_3]
   obtain⟨t1,t2⟩:=tdiv_neg (n:=n) (by omega)
   have e0 : -n / 10=0:=by omega
   have e1 : -n % 10 = -n:=by omega
   rw[t1,t2,e0,e1]
   simp only[Hold_eq]
   have w1:IntKind.i64.wrap (0 - - -n) = -n:=by rw[wrap64 (by omega)];omega
   rw[w1]
   refine⟨by decide,by decide,cond_dec (fun _=>cond_dec (fun _=>⟨by rw[wrap64 (by omega),str23_size];omega,?_,?_⟩) (fun e=>absurd (by decide) e)) (fun e=>by omega)⟩
   ·rw[ex_at ⟨by omega,by omega⟩,ofL_size]
    have:str24.size=1:=by decide +kernel
    simp;omega
   ·rw[ex_at ⟨by omega,by omega⟩,<-itoaL_ndig (by omega) (by omega)];exact h
 | succ d ih=>
  intro k n K hn hr hk h
  obtain⟨k,rfl⟩:∃ m,k=m+3:=⟨k-3,by omega⟩
  obtain⟨r1,r2⟩:=hr
  have hb:=max_big
  have hp:10 ^ (d+1+1)=10*10 ^ (d+1):=by rw[Nat.pow_succ];omega
  by_cases sm:n.natAbs<10 ^ (d+1)
  ·exact ih (k+3) sm ⟨r1,r2⟩ (by omega) h
  have h10:10<=10 ^ (d+1):=by
   have:0<10 ^ d:=Nat.pow_pos (by decide)
   rw[Nat.pow_succ];omega
  rw[F_r23_Number]
  simp only[Hold_eq]
  have step:∀ dg rest:Int,(0<=dg/\dg<10)->I64 rest->rest.natAbs<10 ^ (d+1)->itoaL n=itoaL rest++ofL [UInt8.ofNat (48+dg.toNat)]->C_r23_Number_9 (k+1) dg rest K:=by
   intro dg rest h1 h2 h3 h4
   rw[C_r23_Number_9]
   simp only[Hold_eq]
   refine ih k h3 h2 (by omega) ⟨by rw[wrap64 (by omega),str23_size];omega,?_,?_⟩
   ·rw[ex_at h1,ofL_size]
    have:=itoaL_size h2
    simp;omega
   ·rw[ex_at h1,<-h4];exact h
  have c3:C_r23_Number_3 (k+2) n K:=by
   rw[C_r23_Number_3]
   simp only[Hold_eq]
   by_cases neg:n<0
   ·obtain⟨t1,t2⟩:=tdiv_neg neg
    rw[t1,t2]
    have w1:IntKind.i64.wrap (0 - -(-n % 10)) = -n % 10:=by rw[wrap64 (by omega)];omega
    have w2:IntKind.i64.wrap (-(-n / 10)) = -(-n / 10):=wrap64 (by omega)
    rw[w1,w2]
    refine⟨by decide,by decide,cond_dec (fun _=>cond_dec (fun e=>by omega) (fun _=>?_)) (fun e=>absurd neg e)⟩
    exact step _ _ (by omega) (by unfold I64;omega) (by omega) (itoaL_neg (by omega))
   ·obtain⟨t1,t2⟩:=tdiv_pos (n:=n) (by omega)
    rw[t1,t2]
    have w2:IntKind.i64.wrap (n / 10)=n / 10:=wrap64 (by omega)
    rw[w2]
    refine⟨by decide,by decide,cond_dec (fun e=>absurd e neg) (fun _=>?_)⟩
    exact step _ _ (by omega) (by unfold I64;omega) (by omega) (itoaL_pos (by omega))
  refine cond_dec (fun g=>cond_dec (fun g2=>by omega) (fun g2=>c3)) (fun g=>c3)
theorem Num_s(k:Nat){n:Int}(hn:I64 n){K:ByteArray->Prop}(hk:100<=k)(h:K (itoaL n)):F_r23_Number k n K:=
 Number_s 19 k (by have hp:(10:Nat) ^ (19+1)=100000000000000000000:=rfl;obtain⟨h1,h2⟩:=hn;omega) hn (by omega) h
theorem app_size(a b:ByteArray):(a++b).size=a.size+b.size:=ByteArray.size_append
theorem str0_z:str0.size=1:=by decide +kernel
theorem str1_z:str1.size=0:=by decide +kernel
theorem str2_z:str2.size=4:=by decide +kernel
theorem str3_z:str3.size=5:=by decide +kernel
theorem str4_z:str4.size=4:=by decide +kernel
theorem str5_z:str5.size=6:=by decide +kernel
theorem str6_z:str6.size=7:=by decide +kernel
theorem str7_z:str7.size=4:=by decide +kernel
theorem str8_z:str8.size=6:=by decide +kernel
theorem str9_z:str9.size=5:=by decide +kernel
theorem str10_z:str10.size=4:=by decide +kernel
theorem str11_z:str11.size=6:=by decide +kernel
theorem str12_z:str12.size=36:=by decide +kernel
theorem str13_z:str13.size=6:=by decide +kernel
theorem str14_z:str14.size=3:=by decide +kernel
theorem str15_z:str15.size=6:=by decide +kernel
theorem str16_z:str16.size=6:=by decide +kernel
theorem str17_z:str17.size=4:=by decide +kernel
theorem str18_z:str18.size=5:=by decide +kernel
theorem str19_z:str19.size=3:=by decide +kernel
theorem str20_z:str20.size=7:=by decide +kernel
theorem str21_z:str21.size=5:=by decide +kernel
theorem str22_z:str22.size=5:=by decide +kernel
theorem str24_z:str24.size=1:=by decide +kernel
theorem str25_z:str25.size=5:=by decide +kernel
theorem str26_z:str26.size=6:=by decide +kernel
theorem str27_z:str27.size=5:=by decide +kernel
theorem str28_z:str28.size=7:=by decide +kernel
theorem str29_z:str29.size=8:=by decide +kernel
theorem str30_z:str30.size=5:=by decide +kernel
theorem str31_z:str31.size=7:=by decide +kernel
theorem str32_z:str32.size=4:=by decide +kernel
theorem str33_z:str33.size=7:=by decide +kernel
theorem str34_z:str34.size=7:=by decide +kernel
theorem str35_z:str35.size=7:=by decide +kernel
theorem str36_z:str36.size=7:=by decide +kernel
theorem str37_z:str37.size=5:=by decide +kernel
theorem str38_z:str38.size=6:=by decide +kernel
theorem str39_z:str39.size=5:=by decide +kernel
theorem str40_z:str40.size=6:=by decide +kernel
theorem str41_z:str41.size=4:=by decide +kernel
theorem str42_z:str42.size=8:=by decide +kernel
theorem str43_z:str43.size=6:=by decide +kernel
theorem str44_z:str44.size=6:=by decide +kernel
theorem str45_z:str45.size=9:=by decide +kernel
theorem str46_z:str46.size=10:=by decide +kernel
theorem str47_z:str47.size=1:=by decide +kernel
theorem str48_z:str48.size=1:=by decide +kernel
theorem str49_z:str49.size=11:=by decide +kernel
theorem str23_z:str23.size=10:=str23_size
structure ActI (a:S_api_Act):Prop where
 node:I64 a.f1
 n:I64 a.f2
 client:I64 a.f3
 to:I64 a.f7.f1
structure ActZ (a:S_api_Act):Prop where
 user:a.f6.size<=1000
 cuser:a.f4.f3.size<=1000
 ckey:a.f4.f4.size<=1000
def comM(a:S_api_Act):ByteArray:=if a.f4.f0=1 then (((str32++(((itoaL a.f3)++str0)++a.f4.f3))++str0)++a.f4.f4) else if a.f4.f0=2 then (((str33++(((itoaL a.f3)++str0)++a.f4.f3))++str0)++a.f4.f4) else (str34++(((itoaL a.f3)++str0)++a.f4.f3))
theorem com_s(k:Nat){a:S_api_Act}(hr:ActI a)(hz:ActZ a){K:ByteArray->Prop}(hk:200<=k)(h:K (comM a)):F_r23_command k a.f0 a.f1 a.f2 a.f3 a.f4.f0 a.f4.f1 a.f4.f2 a.f4.f3 a.f4.f4 a.f4.f5 a.f4.f6 a.f5 a.f6 a.f7.f0 a.f7.f1 K:=by
 obtain⟨k,rfl⟩:∃ m,k=m+1:=⟨k-1,by omega⟩
 rw[F_r23_command]
 simp only[Hold_eq]
 unfold comM at h
 have hb:=max_big
 have z1:=hz.user
 have z2:=hz.cuser
 have z3:=hz.ckey
 refine Num_s k hr.client (by omega) ?_
 have h_a_f3:=itoaL_size hr.client
 refine⟨by simp only[app_size,str0_z,str1_z,str2_z,str3_z,str4_z,str5_z,str6_z,str7_z,str8_z,str9_z,str10_z,str11_z,str12_z,str13_z,str14_z,str15_z,str16_z,str17_z,str18_z,str19_z,str20_z,str21_z,str22_z,str23_z,str24_z,str25_z,str26_z,str27_z,str28_z,str29_z,str30_z,str31_z,str32_z,str33_z,str34_z,str35_z,str36_z,str37_z,str38_z,str39_z,str40_z,str41_z,str42_z,str43_z,str44_z,str45_z,str46_z,str47_z,str48_z,str49_z];omega,⟨by simp only[app_size,str0_z,str1_z,str2_z,str3_z,str4_z,str5_z,str6_z,str7_z,str8_z,str9_z,str10_z,str11_z,str12_z,str13_z,str14_z,str15_z,str16_z,str17_z,str18_z,str19_z,str20_z,str21_z,str22_z,str23_z,str24_z,str25_z,str26_z,str27_z,str28_z,str29_z,str30_z,str31_z,str32_z,str33_z,str34_z,str35_z,str36_z,str37_z,str38_z,str39_z,str40_z,str41_z,str42_z,str43_z,str44_z,str45_z,str46_z,str47_z,str48_z,str49_z];omega,?_⟩⟩
 refine cond_dec (fun g=>?_) (fun g=>?_)
 ·rw[if_pos g] at h
  refine⟨by simp only[app_size,str0_z,str1_z,str2_z,str3_z,str4_z,str5_z,str6_z,str7_z,str8_z,str9_z,str10_z,str11_z,str12_z,str13_z,str14_z,str15_z,str16_z,str17_z,str18_z,str19_z,str20_z,str21_z,str22_z,str23_z,str24_z,str25_z,str26_z,str27_z,str28_z,str29_z,str30_z,str31_z,str32_z,str33_z,str34_z,str35_z,str36_z,str37_z,str38_z,str39_z,str40_z,str41_z,str42_z,str43_z,str44_z,str45_z,str46_z,str47_z,str48_z,str49_z];omega,⟨by simp only[app_size,str0_z,str1_z,str2_z,str3_z,str4_z,str5_z,str6_z,str7_z,str8_z,str9_z,str10_z,str11_z,str12_z,str13_z,str14_z,str15_z,str16_z,str17_z,str18_z,str19_z,str20_z,str21_z,str22_z,str23_z,str24_z,str25_z,str26_z,str27_z,str28_z,str29_z,str30_z,str31_z,str32_z,str33_z,str34_z,str35_z,str36_z,str37_z,str38_z,str39_z,str40_z,str41_z,str42_z,str43_z,str44_z,str45_z,str46_z,str47_z,str48_z,str49_z];omega,⟨by simp only[app_size,str0_z,str1_z,str2_z,str3_z,str4_z,str5_z,str6_z,str7_z,str8_z,str9_z,str10_z,str11_z,str12_z,str13_z,str14_z,str15_z,str16_z,str17_z,str18_z,str19_z,str20_z,str21_z,str22_z,str23_z,str24_z,str25_z,str26_z,str27_z,str28_z,str29_z,str30_z,str31_z,str32_z,str33_z,str34_z,str35_z,str36_z,str37_z,str38_z,str39_z,str40_z,str41_z,str42_z,str43_z,str44_z,str45_z,str46_z,str47_z,str48_z,str49_z];omega,?_⟩⟩⟩
  exact h
 ·rw[if_neg g] at h
  refine cond_dec (fun g=>?_) (fun g=>?_)
  ·rw[if_pos g] at h
   refine⟨by simp only[app_size,str0_z,str1_z,str2_z,str3_z,str4_z,str5_z,str6_z,str7_z,str8_z,str9_z,str10_z,str11_z,str12_z,str13_z,str14_z,str15_z,str16_z,str17_z,str18_z,str19_z,str20_z,str21_z,str22_z,str23_z,str24_z,str25_z,str26_z,str27_z,str28_z,str29_z,str30_z,str31_z,str32_z,str33_z,str34_z,str35_z,str36_z,str37_z,str38_z,str39_z,str40_z,str41_z,str42_z,str43_z,str44_z,str45_z,str46_z,str47_z,str48_z,str49_z];omega,⟨by simp only[app_size,str0_z,str1_z,str2_z,str3_z,str4_z,str5_z,str6_z,str7_z,str8_z,str9_z,str10_z,str11_z,str12_z,str13_z,str14_z,str15_z,str16_z,str17_z,str18_z,str19_z,str20_z,str21_z,str22_z,str23_z,str24_z,str25_z,str26_z,str27_z,str28_z,str29_z,str30_z,str31_z,str32_z,str33_z,str34_z,str35_z,str36_z,str37_z,str38_z,str39_z,str40_z,str41_z,str42_z,str43_z,str44_z,str45_z,str46_z,str47_z,str48_z,str49_z];omega,⟨by simp only[app_size,str0_z,str1_z,str2_z,str3_z,str4_z,str5_z,str6_z,str7_z,str8_z,str9_z,str10_z,str11_z,str12_z,str13_z,str14_z,str15_z,str16_z,str17_z,str18_z,str19_z,str20_z,str21_z,str22_z,str23_z,str24_z,str25_z,str26_z,str27_z,str28_z,str29_z,str30_z,str31_z,str32_z,str33_z,str34_z,str35_z,str36_z,str37_z,str38_z,str39_z,str40_z,str41_z,str42_z,str43_z,str44_z,str45_z,str46_z,str47_z,str48_z,str49_z];omega,?_⟩⟩⟩
   exact h
  ·rw[if_neg g] at h
   refine⟨by simp only[app_size,str0_z,str1_z,str2_z,str3_z,str4_z,str5_z,str6_z,str7_z,str8_z,str9_z,str10_z,str11_z,str12_z,str13_z,str14_z,str15_z,str16_z,str17_z,str18_z,str19_z,str20_z,str21_z,str22_z,str23_z,str24_z,str25_z,str26_z,str27_z,str28_z,str29_z,str30_z,str31_z,str32_z,str33_z,str34_z,str35_z,str36_z,str37_z,str38_z,str39_z,str40_z,str41_z,str42_z,str43_z,str44_z,str45_z,str46_z,str47_z,str48_z,str49_z];omega,?_⟩
   exact h
def textM(a:S_api_Act):ByteArray:=if a.f0=1 then (str25++(itoaL a.f1)) else if a.f0=13 then (str26++(itoaL a.f1)) else if a.f0=9 then (str27++(itoaL a.f1)) else if a.f0=10 then (str28++(itoaL a.f1)) else if a.f0=2 then (str29++(itoaL a.f2)) else if a.f0=3 then (str30++(itoaL a.f2)) else if a.f0=4 then (str31++(itoaL a.f2)) else if a.f0=5 then comM a else if a.f0=6 then (if a.f5=1 then (((str35++(itoaL a.f3))++str0)++a.f6) else if a.f5=2 then (((str36++(itoaL a.f3))++str0)++a.f6) else (str37++(itoaL a.f3))) else if a.f0=7 then (str38++(itoaL a.f3)) else if a.f0=11 then (((str39++(itoaL a.f1))++str0)++(itoaL a.f2)) else if a.f0=12 then (if a.f2<0 then ((str40++(itoaL a.f1))++str41) else (((str40++(itoaL a.f1))++str0)++(itoaL a.f2))) else if a.f0=8 then if a.f7.f0=1 then (str42++(((itoaL a.f1)++str0)++(itoaL a.f7.f1))) else if a.f7.f0=2 then (str43++(((itoaL a.f1)++str0)++(itoaL a.f7.f1))) else if a.f7.f0=3 then (str44++(((itoaL a.f1)++str0)++(itoaL a.f7.f1))) else str1 else str1
theorem rtext_s(k:Nat){a:S_api_Act}(hr:ActI a)(hz:ActZ a){K:ByteArray->Prop}(hk:300<=k)(h:K (textM a)):F_r23_text k a.f0 a.f1 a.f2 a.f3 a.f4.f0 a.f4.f1 a.f4.f2 a.f4.f3 a.f4.f4 a.f4.f5 a.f4.f6 a.f5 a.f6 a.f7.f0 a.f7.f1 K:=by
 obtain⟨k,rfl⟩:∃ m,k=m+1:=⟨k-1,by omega⟩
 rw[F_r23_text]
 simp only[Hold_eq]
 unfold textM at h
 have hb:=max_big
 have z1:=hz.user
 have z2:=hz.cuser
 have z3:=hz.ckey
 refine Num_s k hr.node (by omega) ?_
 have h_a_f1:=itoaL_size hr.node
 refine Num_s k hr.n (by omega) ?_
 have h_a_f2:=itoaL_size hr.n
 refine Num_s k hr.client (by omega) ?_
 have h_a_f3:=itoaL_size hr.client
 refine cond_dec (fun g=>?_) (fun g=>?_)
 ·rw[if_pos g] at h
  refine⟨by simp only[app_size,str0_z,str1_z,str2_z,str3_z,str4_z,str5_z,str6_z,str7_z,str8_z,str9_z,str10_z,str11_z,str12_z,str13_z,str14_z,str15_z,str16_z,str17_z,str18_z,str19_z,str20_z,str21_z,str22_z,str23_z,str24_z,str25_z,str26_z,str27_z,str28_z,str29_z,str30_z,str31_z,str32_z,str33_z,str34_z,str35_z,str36_z,str37_z,str38_z,str39_z,str40_z,str41_z,str42_z,str43_z,str44_z,str45_z,str46_z,str47_z,str48_z,str49_z];omega,?_⟩
  exact h
 ·rw[if_neg g] at h
  refine cond_dec (fun g=>?_) (fun g=>?_)
  ·rw[if_pos g] at h
   refine⟨by simp only[app_size,str0_z,str1_z,str2_z,str3_z,str4_z,str5_z,str6_z,str7_z,str8_z,str9_z,str10_z,str11_z,str12_z,str13_z,str14_z,str15_z,str16_z,str17_z,str18_z,str19_z,str20_z,str21_z,str22_z,str23_z,str24_z,str25_z,str26_z,str27_z,str28_z,str29_z,str30_z,str31_z,str32_z,str33_z,str34_z,str35_z,str36_z,str37_z,str38_z,str39_z,str40_z,str41_z,str42_z,str43_z,str44_z,str45_z,str46_z,str47_z,str48_z,str49_z];omega,?_⟩
   exact h
  ·rw[if_neg g] at h
   refine cond_dec (fun g=>?_) (fun g=>?_)
   ·rw[if_pos g] at h
    refine⟨by simp only[app_size,str0_z,str1_z,str2_z,str3_z,str4_z,str5_z,str6_z,str7_z,str8_z,str9_z,str10_z,str11_z,str12_z,str13_z,str14_z,str15_z,str16_z,str17_z,str18_z,str19_z,str20_z,str21_z,str22_z,str23_z,str24_z,str25_z,str26_z,str27_z,str28_z,str29_z,str30_z,str31_z,str32_z,str33_z,str34_z,str35_z,str36_z,str37_z,str38_z,str39_z,str40_z,str41_z,str42_z,str43_z,str44_z,str45_z,str46_z,str47_z,str48_z,str49_z];omega,?_⟩
    exact h
   ·rw[if_neg g] at h
    refine cond_dec (fun g=>?_) (fun g=>?_)
    ·rw[if_pos g] at h
     refine⟨by simp only[app_size,str0_z,str1_z,str2_z,str3_z,str4_z,str5_z,str6_z,str7_z,str8_z,str9_z,str10_z,str11_z,str12_z,str13_z,str14_z,str15_z,str16_z,str17_z,str18_z,str19_z,str20_z,str21_z,str22_z,str23_z,str24_z,str25_z,str26_z,str27_z,str28_z,str29_z,str30_z,str31_z,str32_z,str33_z,str34_z,str35_z,str36_z,str37_z,str38_z,str39_z,str40_z,str41_z,str42_z,str43_z,str44_z,str45_z,str46_z,str47_z,str48_z,str49_z];omega,?_⟩
     exact h
    ·rw[if_neg g] at h
     refine cond_dec (fun g=>?_) (fun g=>?_)
     ·rw[if_pos g] at h
      refine⟨by simp only[app_size,str0_z,str1_z,str2_z,str3_z,str4_z,str5_z,str6_z,str7_z,str8_z,str9_z,str10_z,str11_z,str12_z,str13_z,str14_z,str15_z,str16_z,str17_z,str18_z,str19_z,str20_z,str21_z,str22_z,str23_z,str24_z,str25_z,str26_z,str27_z,str28_z,str29_z,str30_z,str31_z,str32_z,str33_z,str34_z,str35_z,str36_z,str37_z,str38_z,str39_z,str40_z,str41_z,str42_z,str43_z,str44_z,str45_z,str46_z,str47_z,str48_z,str49_z];omega,?_⟩
      exact h
     ·rw[if_neg g] at h
      refine cond_dec (fun g=>?_) (fun g=>?_)
      ·rw[if_pos g] at h
       refine⟨by simp only[app_size,str0_z,str1_z,str2_z,str3_z,str4_z,str5_z,str6_z,str7_z,str8_z,str9_z,str10_z,str11_z,str12_z,str13_z,str14_z,str15_z,str16_z,str17_z,str18_z,str19_z,str20_z,str21_z,str22_z,str23_z,str24_z,str25_z,str26_z,str27_z,str28_z,str29_z,str30_z,str31_z,str32_z,str33_z,str34_z,str35_z,str36_z,str37_z,str38_z,str39_z,str40_z,str41_z,str42_z,str43_z,str44_z,str45_z,str46_z,str47_z,str48_z,str49_z];omega,?_⟩
       exact h
      ·rw[if_neg g] at h
       refine cond_dec (fun g=>?_) (fun g=>?_)
       ·rw[if_pos g] at h
        refine⟨by simp only[app_size,str0_z,str1_z,str2_z,str3_z,str4_z,str5_z,str6_z,str7_z,str8_z,str9_z,str10_z,str11_z,str12_z,str13_z,str14_z,str15_z,str16_z,str17_z,str18_z,str19_z,str20_z,str21_z,str22_z,str23_z,str24_z,str25_z,str26_z,str27_z,str28_z,str29_z,str30_z,str31_z,str32_z,str33_z,str34_z,str35_z,str36_z,str37_z,str38_z,str39_z,str40_z,str41_z,str42_z,str43_z,str44_z,str45_z,str46_z,str47_z,str48_z,str49_z];omega,?_⟩
        exact h
       ·rw[if_neg g] at h
        refine cond_dec (fun g=>?_) (fun g=>?_)
        ·rw[if_pos g] at h
         exact com_s k hr hz (by omega) h
        ·rw[if_neg g] at h
         refine cond_dec (fun g=>?_) (fun g=>?_)
         ·rw[if_pos g] at h
          refine cond_dec (fun g=>?_) (fun g=>?_)
          ·rw[if_pos g] at h
           refine⟨by simp only[app_size,str0_z,str1_z,str2_z,str3_z,str4_z,str5_z,str6_z,str7_z,str8_z,str9_z,str10_z,str11_z,str12_z,str13_z,str14_z,str15_z,str16_z,str17_z,str18_z,str19_z,str20_z,str21_z,str22_z,str23_z,str24_z,str25_z,str26_z,str27_z,str28_z,str29_z,str30_z,str31_z,str32_z,str33_z,str34_z,str35_z,str36_z,str37_z,str38_z,str39_z,str40_z,str41_z,str42_z,str43_z,str44_z,str45_z,str46_z,str47_z,str48_z,str49_z];omega,⟨by simp only[app_size,str0_z,str1_z,str2_z,str3_z,str4_z,str5_z,str6_z,str7_z,str8_z,str9_z,str10_z,str11_z,str12_z,str13_z,str14_z,str15_z,str16_z,str17_z,str18_z,str19_z,str20_z,str21_z,str22_z,str23_z,str24_z,str25_z,str26_z,str27_z,str28_z,str29_z,str30_z,str31_z,str32_z,str33_z,str34_z,str35_z,str36_z,str37_z,str38_z,str39_z,str40_z,str41_z,str42_z,str43_z,str44_z,str45_z,str46_z,str47_z,str48_z,str49_z];omega,⟨by simp only[app_size,str0_z,str1_z,str2_z,str3_z,str4_z,str5_z,str6_z,str7_z,str8_z,str9_z,str10_z,str11_z,str12_z,str13_z,str14_z,str15_z,str16_z,str17_z,str18_z,str19_z,str20_z,str21_z,str22_z,str23_z,str24_z,str25_z,str26_z,str27_z,str28_z,str29_z,str30_z,str31_z,str32_z,str33_z,str34_z,str35_z,str36_z,str37_z,str38_z,str39_z,str40_z,str41_z,str42_z,str43_z,str44_z,str45_z,str46_z,str47_z,str48_z,str49_z];omega,?_⟩⟩⟩
           exact h
          ·rw[if_neg g] at h
           refine cond_dec (fun g=>?_) (fun g=>?_)
           ·rw[if_pos g] at h
            refine⟨by simp only[app_size,str0_z,str1_z,str2_z,str3_z,str4_z,str5_z,str6_z,str7_z,str8_z,str9_z,str10_z,str11_z,str12_z,str13_z,str14_z,str15_z,str16_z,str17_z,str18_z,str19_z,str20_z,str21_z,str22_z,str23_z,str24_z,str25_z,str26_z,str27_z,str28_z,str29_z,str30_z,str31_z,str32_z,str33_z,str34_z,str35_z,str36_z,str37_z,str38_z,str39_z,str40_z,str41_z,str42_z,str43_z,str44_z,str45_z,str46_z,str47_z,str48_z,str49_z];omega,⟨by simp only[app_size,str0_z,str1_z,str2_z,str3_z,str4_z,str5_z,str6_z,str7_z,str8_z,str9_z,str10_z,str11_z,str12_z,str13_z,str14_z,str15_z,str16_z,str17_z,str18_z,str19_z,str20_z,str21_z,str22_z,str23_z,str24_z,str25_z,str26_z,str27_z,str28_z,str29_z,str30_z,str31_z,str32_z,str33_z,str34_z,str35_z,str36_z,str37_z,str38_z,str39_z,str40_z,str41_z,str42_z,str43_z,str44_z,str45_z,str46_z,str47_z,str48_z,str49_z];omega,⟨by simp only[app_size,str0_z,str1_z,str2_z,str3_z,str4_z,str5_z,str6_z,str7_z,str8_z,str9_z,str10_z,str11_z,str12_z,str13_z,str14_z,str15_z,str16_z,str17_z,str18_z,str19_z,str20_z,str21_z,str22_z,str23_z,str24_z,str25_z,str26_z,str27_z,str28_z,str29_z,str30_z,str31_z,str32_z,str33_z,str34_z,str35_z,str36_z,str37_z,str38_z,str39_z,str40_z,str41_z,str42_z,str43_z,str44_z,str45_z,str46_z,str47_z,str48_z,str49_z];omega,?_⟩⟩⟩
            exact h
           ·rw[if_neg g] at h
            refine⟨by simp only[app_size,str0_z,str1_z,str2_z,str3_z,str4_z,str5_z,str6_z,str7_z,str8_z,str9_z,str10_z,str11_z,str12_z,str13_z,str14_z,str15_z,str16_z,str17_z,str18_z,str19_z,str20_z,str21_z,str22_z,str23_z,str24_z,str25_z,str26_z,str27_z,str28_z,str29_z,str30_z,str31_z,str32_z,str33_z,str34_z,str35_z,str36_z,str37_z,str38_z,str39_z,str40_z,str41_z,str42_z,str43_z,str44_z,str45_z,str46_z,str47_z,str48_z,str49_z];omega,?_⟩
            exact h
         ·rw[if_neg g] at h
          refine cond_dec (fun g=>?_) (fun g=>?_)
          ·rw[if_pos g] at h
           refine⟨by simp only[app_size,str0_z,str1_z,str2_z,str3_z,str4_z,str5_z,str6_z,str7_z,str8_z,str9_z,str10_z,str11_z,str12_z,str13_z,str14_z,str15_z,str16_z,str17_z,str18_z,str19_z,str20_z,str21_z,str22_z,str23_z,str24_z,str25_z,str26_z,str27_z,str28_z,str29_z,str30_z,str31_z,str32_z,str33_z,str34_z,str35_z,str36_z,str37_z,str38_z,str39_z,str40_z,str41_z,str42_z,str43_z,str44_z,str45_z,str46_z,str47_z,str48_z,str49_z];omega,?_⟩
           exact h
          ·rw[if_neg g] at h
           refine cond_dec (fun g=>?_) (fun g=>?_)
           ·rw[if_pos g] at h
            refine⟨by simp only[app_size,str0_z,str1_z,str2_z,str3_z,str4_z,str5_z,str6_z,str7_z,str8_z,str9_z,str10_z,str11_z,str12_z,str13_z,str14_z,str15_z,str16_z,str17_z,str18_z,str19_z,str20_z,str21_z,str22_z,str23_z,str24_z,str25_z,str26_z,str27_z,str28_z,str29_z,str30_z,str31_z,str32_z,str33_z,str34_z,str35_z,str36_z,str37_z,str38_z,str39_z,str40_z,str41_z,str42_z,str43_z,str44_z,str45_z,str46_z,str47_z,str48_z,str49_z];omega,⟨by simp only[app_size,str0_z,str1_z,str2_z,str3_z,str4_z,str5_z,str6_z,str7_z,str8_z,str9_z,str10_z,str11_z,str12_z,str13_z,str14_z,str15_z,str16_z,str17_z,str18_z,str19_z,str20_z,str21_z,str22_z,str23_z,str24_z,str25_z,str26_z,str27_z,str28_z,str29_z,str30_z,str31_z,str32_z,str33_z,str34_z,str35_z,str36_z,str37_z,str38_z,str39_z,str40_z,str41_z,str42_z,str43_z,str44_z,str45_z,str46_z,str47_z,str48_z,str49_z];omega,⟨by simp only[app_size,str0_z,str1_z,str2_z,str3_z,str4_z,str5_z,str6_z,str7_z,str8_z,str9_z,str10_z,str11_z,str12_z,str13_z,str14_z,str15_z,str16_z,str17_z,str18_z,str19_z,str20_z,str21_z,str22_z,str23_z,str24_z,str25_z,str26_z,str27_z,str28_z,str29_z,str30_z,str31_z,str32_z,str33_z,str34_z,str35_z,str36_z,str37_z,str38_z,str39_z,str40_z,str41_z,str42_z,str43_z,str44_z,str45_z,str46_z,str47_z,str48_z,str49_z];omega,?_⟩⟩⟩
            exact h
           ·rw[if_neg g] at h
            refine cond_dec (fun g=>?_) (fun g=>?_)
            ·rw[if_pos g] at h
             refine cond_dec (fun g=>?_) (fun g=>?_)
             ·rw[if_pos g] at h
              refine⟨by simp only[app_size,str0_z,str1_z,str2_z,str3_z,str4_z,str5_z,str6_z,str7_z,str8_z,str9_z,str10_z,str11_z,str12_z,str13_z,str14_z,str15_z,str16_z,str17_z,str18_z,str19_z,str20_z,str21_z,str22_z,str23_z,str24_z,str25_z,str26_z,str27_z,str28_z,str29_z,str30_z,str31_z,str32_z,str33_z,str34_z,str35_z,str36_z,str37_z,str38_z,str39_z,str40_z,str41_z,str42_z,str43_z,str44_z,str45_z,str46_z,str47_z,str48_z,str49_z];omega,⟨by simp only[app_size,str0_z,str1_z,str2_z,str3_z,str4_z,str5_z,str6_z,str7_z,str8_z,str9_z,str10_z,str11_z,str12_z,str13_z,str14_z,str15_z,str16_z,str17_z,str18_z,str19_z,str20_z,str21_z,str22_z,str23_z,str24_z,str25_z,str26_z,str27_z,str28_z,str29_z,str30_z,str31_z,str32_z,str33_z,str34_z,str35_z,str36_z,str37_z,str38_z,str39_z,str40_z,str41_z,str42_z,str43_z,str44_z,str45_z,str46_z,str47_z,str48_z,str49_z];omega,?_⟩⟩
              exact h
             ·rw[if_neg g] at h
              refine⟨by simp only[app_size,str0_z,str1_z,str2_z,str3_z,str4_z,str5_z,str6_z,str7_z,str8_z,str9_z,str10_z,str11_z,str12_z,str13_z,str14_z,str15_z,str16_z,str17_z,str18_z,str19_z,str20_z,str21_z,str22_z,str23_z,str24_z,str25_z,str26_z,str27_z,str28_z,str29_z,str30_z,str31_z,str32_z,str33_z,str34_z,str35_z,str36_z,str37_z,str38_z,str39_z,str40_z,str41_z,str42_z,str43_z,str44_z,str45_z,str46_z,str47_z,str48_z,str49_z];omega,⟨by simp only[app_size,str0_z,str1_z,str2_z,str3_z,str4_z,str5_z,str6_z,str7_z,str8_z,str9_z,str10_z,str11_z,str12_z,str13_z,str14_z,str15_z,str16_z,str17_z,str18_z,str19_z,str20_z,str21_z,str22_z,str23_z,str24_z,str25_z,str26_z,str27_z,str28_z,str29_z,str30_z,str31_z,str32_z,str33_z,str34_z,str35_z,str36_z,str37_z,str38_z,str39_z,str40_z,str41_z,str42_z,str43_z,str44_z,str45_z,str46_z,str47_z,str48_z,str49_z];omega,⟨by simp only[app_size,str0_z,str1_z,str2_z,str3_z,str4_z,str5_z,str6_z,str7_z,str8_z,str9_z,str10_z,str11_z,str12_z,str13_z,str14_z,str15_z,str16_z,str17_z,str18_z,str19_z,str20_z,str21_z,str22_z,str23_z,str24_z,str25_z,str26_z,str27_z,str28_z,str29_z,str30_z,str31_z,str32_z,str33_z,str34_z,str35_z,str36_z,str37_z,str38_z,str39_z,str40_z,str41_z,str42_z,str43_z,str44_z,str45_z,str46_z,str47_z,str48_z,str49_z];omega,?_⟩⟩⟩
              exact h
            ·rw[if_neg g] at h
             refine cond_dec (fun g=>?_) (fun g=>?_)
             ·rw[if_pos g] at h
              refine⟨by simp only[app_size,str0_z,str1_z,str2_z,str3_z,str4_z,str5_z,str6_z,str7_z,str8_z,str9_z,str10_z,str11_z,str12_z,str13_z,str14_z,str15_z,str16_z,str17_z,str18_z,str19_z,str20_z,str21_z,str22_z,str23_z,str24_z,str25_z,str26_z,str27_z,str28_z,str29_z,str30_z,str31_z,str32_z,str33_z,str34_z,str35_z,str36_z,str37_z,str38_z,str39_z,str40_z,str41_z,str42_z,str43_z,str44_z,str45_z,str46_z,str47_z,str48_z,str49_z];omega,?_⟩
              refine Num_s k hr.to (by omega) ?_
              have h_a_f7_f1:=itoaL_size hr.to
              refine⟨by simp only[app_size,str0_z,str1_z,str2_z,str3_z,str4_z,str5_z,str6_z,str7_z,str8_z,str9_z,str10_z,str11_z,str12_z,str13_z,str14_z,str15_z,str16_z,str17_z,str18_z,str19_z,str20_z,str21_z,str22_z,str23_z,str24_z,str25_z,str26_z,str27_z,str28_z,str29_z,str30_z,str31_z,str32_z,str33_z,str34_z,str35_z,str36_z,str37_z,str38_z,str39_z,str40_z,str41_z,str42_z,str43_z,str44_z,str45_z,str46_z,str47_z,str48_z,str49_z];omega,?_⟩
              refine cond_dec (fun g=>?_) (fun g=>?_)
              ·rw[if_pos g] at h
               refine⟨by simp only[app_size,str0_z,str1_z,str2_z,str3_z,str4_z,str5_z,str6_z,str7_z,str8_z,str9_z,str10_z,str11_z,str12_z,str13_z,str14_z,str15_z,str16_z,str17_z,str18_z,str19_z,str20_z,str21_z,str22_z,str23_z,str24_z,str25_z,str26_z,str27_z,str28_z,str29_z,str30_z,str31_z,str32_z,str33_z,str34_z,str35_z,str36_z,str37_z,str38_z,str39_z,str40_z,str41_z,str42_z,str43_z,str44_z,str45_z,str46_z,str47_z,str48_z,str49_z];omega,?_⟩
               exact h
              ·rw[if_neg g] at h
               refine cond_dec (fun g=>?_) (fun g=>?_)
               ·rw[if_pos g] at h
                refine⟨by simp only[app_size,str0_z,str1_z,str2_z,str3_z,str4_z,str5_z,str6_z,str7_z,str8_z,str9_z,str10_z,str11_z,str12_z,str13_z,str14_z,str15_z,str16_z,str17_z,str18_z,str19_z,str20_z,str21_z,str22_z,str23_z,str24_z,str25_z,str26_z,str27_z,str28_z,str29_z,str30_z,str31_z,str32_z,str33_z,str34_z,str35_z,str36_z,str37_z,str38_z,str39_z,str40_z,str41_z,str42_z,str43_z,str44_z,str45_z,str46_z,str47_z,str48_z,str49_z];omega,?_⟩
                exact h
               ·rw[if_neg g] at h
                refine cond_dec (fun g=>?_) (fun g=>?_)
                ·rw[if_pos g] at h
                 refine⟨by simp only[app_size,str0_z,str1_z,str2_z,str3_z,str4_z,str5_z,str6_z,str7_z,str8_z,str9_z,str10_z,str11_z,str12_z,str13_z,str14_z,str15_z,str16_z,str17_z,str18_z,str19_z,str20_z,str21_z,str22_z,str23_z,str24_z,str25_z,str26_z,str27_z,str28_z,str29_z,str30_z,str31_z,str32_z,str33_z,str34_z,str35_z,str36_z,str37_z,str38_z,str39_z,str40_z,str41_z,str42_z,str43_z,str44_z,str45_z,str46_z,str47_z,str48_z,str49_z];omega,?_⟩
                 exact h
                ·rw[if_neg g] at h
                 exact h
             ·rw[if_neg g] at h
              exact h
def joinG:List IV->ByteArray->ByteArray
 | [],s=>s
 | .int _ _ n::l,s=>joinG l (s++(str0++itoaL n))
 | .str _ t::l,s=>joinG l (s++(str0++t))
 | _::l,s=>joinG l s
def joinM(s:ByteArray)(l:List IV):ByteArray:=joinG l s
def IvOk:IV->Prop
 | .int t k n=>t=3/\k=.i64/\I64 n
 | .str t s=>t=9/\s.size<=1000
 | _=>False
theorem join_loop{l:List IV}(hl:l.length<=4)(ho:∀ x∈l,IvOk x){K:ByteArray->Prop}:∀ (m j k:Nat) (s:ByteArray),j+m=l.length->2*m+5<=k->s.size<=100+1100*j->K (joinG (l.drop j) s)->C_desk_join_2 k s l (l.length:Int) (j:Int) K:=by
 have hb:=max_big
 intro m
 induction m with
 | zero=>
  intro j k s hj hk hs h
  obtain⟨k,rfl⟩:∃ m,k=m+1:=⟨k-1,by omega⟩
  rw[C_desk_join_2]
  rw[List.drop_of_length_le (by omega)] at h
  exact cond_dec (fun e=>by omega) (fun _=>h)
 | succ m ih=>
  intro j k s hj hk hs h
  obtain⟨k,rfl⟩:∃ m,k=m+2:=⟨k-2,by omega⟩
  have hjl:j<l.length:=by omega
  have hx:=ho _ (List.getElem_mem hjl)
  rw[C_desk_join_2]
  simp only[Hold_eq]
  rw[Int.toNat_natCast,getD_at hjl]
  rw[drop_cons hjl] at h
  have z0:str0.size=1:=str0_z
  have next:∀ t:ByteArray,t.size<=1000->K (joinG (l.drop (j+1)) (s++(str0++t)))->C_desk_join_11 (k+1) (s++(str0++t)) l (l.length:Int) (j:Int) K:=fun t ht h=>by
   rw[C_desk_join_11]
   simp only[Hold_eq]
   rw[step64 j (by omega)]
   exact ih (j+1) k _ (by omega) (by omega) (by rw[app_size,app_size];omega) h
  revert h hx
  generalize l[j]=x
  intro h hx
  refine cond_dec (fun _=>⟨by omega,?_⟩) (fun e=>by omega)
  cases x with
  | int t kk n=>
   obtain⟨rfl,rfl,hn⟩:=hx
   have:=itoaL_size hn
   refine⟨rfl,?_⟩
   show cond true _ _
   rw[cond_true]
   exact Itoa_s (k+1) (by omega) hn ⟨by rw[z0];show 1+(itoaL n).size<=_;omega,by rw[app_size,z0];show s.size+(1+(itoaL n).size)<=_;omega,next (itoaL n) (by omega) h⟩
  | str t g=>
   obtain⟨rfl,hg⟩:=hx
   refine⟨rfl,?_⟩
   show cond false _ _
   rw[cond_false]
   refine⟨rfl,?_⟩
   show cond true _ _
   rw[cond_true]
   exact⟨by rw[z0];show 1+g.size<=_;omega,by rw[app_size,z0];show s.size+(1+g.size)<=_;omega,next g (by omega) h⟩
  | nil=>exact hx.elim
  | ref=>exact hx.elim
theorem join_s(k:Nat){l:List IV}(hl:l.length<=4)(ho:∀ x∈l,IvOk x){s:ByteArray}(hs:s.size<=100){K:ByteArray->Prop}(hk:30<=k)(h:K (joinM s l)):F_desk_join k s l K:=by
 obtain⟨k,rfl⟩:∃ m,k=m+1:=⟨k-1,by omega⟩
 rw[F_desk_join]
 simp only[Hold_eq]
 exact join_loop hl ho l.length 0 k s (by omega) (by omega) (by omega) (by rw[List.drop_zero];exact h)
def spellM(a:S_api_Act):ByteArray:=if a.f0=1 then joinM str2 [(IV.int 3 .i64 a.f1)] else if a.f0=13 then joinM str3 [(IV.int 3 .i64 a.f1)] else if a.f0=9 then joinM str4 [(IV.int 3 .i64 a.f1)] else if a.f0=10 then joinM str5 [(IV.int 3 .i64 a.f1)] else if a.f0=2 then joinM str6 [(IV.int 3 .i64 a.f2)] else if a.f0=3 then joinM str7 [(IV.int 3 .i64 a.f2)] else if a.f0=4 then joinM str8 [(IV.int 3 .i64 a.f2)] else if a.f0=7 then joinM str9 [(IV.int 3 .i64 a.f3)] else if a.f0=11 then joinM str17 [(IV.int 3 .i64 a.f1),(IV.int 3 .i64 a.f2)] else if a.f0=12 then (if a.f2<0 then joinM str18 [(IV.int 3 .i64 a.f1),(IV.str 9 str19)] else joinM str18 [(IV.int 3 .i64 a.f1),(IV.int 3 .i64 a.f2)]) else if a.f0=6 then (if a.f5=3 then joinM str10 [(IV.int 3 .i64 a.f3)] else if a.f5=1 then joinM str11 [(IV.int 3 .i64 a.f3),(IV.str 9 a.f6)] else joinM str13 [(IV.int 3 .i64 a.f3),(IV.str 9 a.f6)]) else if a.f0=5 then (if a.f4.f0=1 then joinM str14 [(IV.int 3 .i64 a.f3),(IV.str 9 a.f4.f3),(IV.str 9 a.f4.f4)] else if a.f4.f0=2 then joinM str15 [(IV.int 3 .i64 a.f3),(IV.str 9 a.f4.f3),(IV.str 9 a.f4.f4)] else joinM str16 [(IV.int 3 .i64 a.f3),(IV.str 9 a.f4.f3)]) else if a.f0=8 then (if a.f7.f0=1 then joinM str20 [(IV.int 3 .i64 a.f1),(IV.int 3 .i64 a.f7.f1)] else if a.f7.f0=2 then joinM str21 [(IV.int 3 .i64 a.f1),(IV.int 3 .i64 a.f7.f1)] else joinM str22 [(IV.int 3 .i64 a.f1),(IV.int 3 .i64 a.f7.f1)]) else str1
theorem spelt_s(k:Nat){a:S_api_Act}(hr:ActI a)(hz:ActZ a){K:ByteArray->Prop}(hk:100<=k)(h:K (spellM a)):F_desk_spelt k a.f0 a.f1 a.f2 a.f3 a.f4.f0 a.f4.f1 a.f4.f2 a.f4.f3 a.f4.f4 a.f4.f5 a.f4.f6 a.f5 a.f6 a.f7.f0 a.f7.f1 K:=by
 obtain⟨k,rfl⟩:∃ m,k=m+1:=⟨k-1,by omega⟩
 rw[F_desk_spelt]
 simp only[Hold_eq]
 unfold spellM at h
 have z1:=hz.user
 have z2:=hz.cuser
 have z3:=hz.ckey
 refine cond_dec (fun g=>?_) (fun g=>?_)
 ·rw[if_pos g] at h
  exact join_s k (l:=[(IV.int 3 .i64 a.f1)]) (by simp) (List.forall_mem_cons.2 ⟨(show IvOk (IV.int 3 .i64 a.f1) from ⟨rfl,rfl,hr.node⟩),(fun _ h=>nomatch h)⟩) (by rw[str2_z];decide) (by omega) h
 ·rw[if_neg g] at h
  refine cond_dec (fun g=>?_) (fun g=>?_)
  ·rw[if_pos g] at h
   exact join_s k (l:=[(IV.int 3 .i64 a.f1)]) (by simp) (List.forall_mem_cons.2 ⟨(show IvOk (IV.int 3 .i64 a.f1) from ⟨rfl,rfl,hr.node⟩),(fun _ h=>nomatch h)⟩) (by rw[str3_z];decide) (by omega) h
  ·rw[if_neg g] at h
   refine cond_dec (fun g=>?_) (fun g=>?_)
   ·rw[if_pos g] at h
    exact join_s k (l:=[(IV.int 3 .i64 a.f1)]) (by simp) (List.forall_mem_cons.2 ⟨(show IvOk (IV.int 3 .i64 a.f1) from ⟨rfl,rfl,hr.node⟩),(fun _ h=>nomatch h)⟩) (by rw[str4_z];decide) (by omega) h
   ·rw[if_neg g] at h
    refine cond_dec (fun g=>?_) (fun g=>?_)
    ·rw[if_pos g] at h
     exact join_s k (l:=[(IV.int 3 .i64 a.f1)]) (by simp) (List.forall_mem_cons.2 ⟨(show IvOk (IV.int 3 .i64 a.f1) from ⟨rfl,rfl,hr.node⟩),(fun _ h=>nomatch h)⟩) (by rw[str5_z];decide) (by omega) h
    ·rw[if_neg g] at h
     refine cond_dec (fun g=>?_) (fun g=>?_)
     ·rw[if_pos g] at h
      exact join_s k (l:=[(IV.int 3 .i64 a.f2)]) (by simp) (List.forall_mem_cons.2 ⟨(show IvOk (IV.int 3 .i64 a.f2) from ⟨rfl,rfl,hr.n⟩),(fun _ h=>nomatch h)⟩) (by rw[str6_z];decide) (by omega) h
     ·rw[if_neg g] at h
      refine cond_dec (fun g=>?_) (fun g=>?_)
      ·rw[if_pos g] at h
       exact join_s k (l:=[(IV.int 3 .i64 a.f2)]) (by simp) (List.forall_mem_cons.2 ⟨(show IvOk (IV.int 3 .i64 a.f2) from ⟨rfl,rfl,hr.n⟩),(fun _ h=>nomatch h)⟩) (by rw[str7_z];decide) (by omega) h
      ·rw[if_neg g] at h
       refine cond_dec (fun g=>?_) (fun g=>?_)
       ·rw[if_pos g] at h
        exact join_s k (l:=[(IV.int 3 .i64 a.f2)]) (by simp) (List.forall_mem_cons.2 ⟨(show IvOk (IV.int 3 .i64 a.f2) from ⟨rfl,rfl,hr.n⟩),(fun _ h=>nomatch h)⟩) (by rw[str8_z];decide) (by omega) h
       ·rw[if_neg g] at h
        refine cond_dec (fun g=>?_) (fun g=>?_)
        ·rw[if_pos g] at h
         exact join_s k (l:=[(IV.int 3 .i64 a.f3)]) (by simp) (List.forall_mem_cons.2 ⟨(show IvOk (IV.int 3 .i64 a.f3) from ⟨rfl,rfl,hr.client⟩),(fun _ h=>nomatch h)⟩) (by rw[str9_z];decide) (by omega) h
        ·rw[if_neg g] at h
         refine cond_dec (fun g=>?_) (fun g=>?_)
         ·rw[if_pos g] at h
          exact join_s k (l:=[(IV.int 3 .i64 a.f1),(IV.int 3 .i64 a.f2)]) (by simp) (List.forall_mem_cons.2 ⟨(show IvOk (IV.int 3 .i64 a.f1) from ⟨rfl,rfl,hr.node⟩),List.forall_mem_cons.2 ⟨(show IvOk (IV.int 3 .i64 a.f2) from ⟨rfl,rfl,hr.n⟩),(fun _ h=>nomatch h)⟩⟩) (by rw[str17_z];decide) (by omega) h
         ·rw[if_neg g] at h
          refine cond_dec (fun g=>?_) (fun g=>?_)
          ·rw[if_pos g] at h
           refine cond_dec (fun g=>?_) (fun g=>?_)
           ·rw[if_pos g] at h
            exact join_s k (l:=[(IV.int 3 .i64 a.f1),(IV.str 9 str19)]) (by simp) (List.forall_mem_cons.2 ⟨(show IvOk (IV.int 3 .i64 a.f1) from ⟨rfl,rfl,hr.node⟩),List.forall_mem_cons.2 ⟨(show IvOk (IV.str 9 str19) from ⟨rfl,(by rw[str19_z];decide)⟩),(fun _ h=>nomatch h)⟩⟩) (by rw[str18_z];decide) (by omega) h
           ·rw[if_neg g] at h
            exact join_s k (l:=[(IV.int 3 .i64 a.f1),(IV.int 3 .i64 a.f2)]) (by simp) (List.forall_mem_cons.2 ⟨(show IvOk (IV.int 3 .i64 a.f1) from ⟨rfl,rfl,hr.node⟩),List.forall_mem_cons.2 ⟨(show IvOk (IV.int 3 .i64 a.f2) from ⟨rfl,rfl,hr.n⟩),(fun _ h=>nomatch h)⟩⟩) (by rw[str18_z];decide) (by omega) h
          ·rw[if_neg g] at h
           refine cond_dec (fun g=>?_) (fun g=>?_)
           ·rw[if_pos g] at h
            refine cond_dec (fun g=>?_) (fun g=>?_)
            ·rw[if_pos g] at h
             exact join_s k (l:=[(IV.int 3 .i64 a.f3)]) (by simp) (List.forall_mem_cons.2 ⟨(show IvOk (IV.int 3 .i64 a.f3) from ⟨rfl,rfl,hr.client⟩),(fun _ h=>nomatch h)⟩) (by rw[str10_z];decide) (by omega) h
            ·rw[if_neg g] at h
             refine cond_dec (fun g=>?_) (fun g=>?_)
             ·rw[if_pos g] at h
              exact join_s k (l:=[(IV.int 3 .i64 a.f3),(IV.str 9 a.f6)]) (by simp) (List.forall_mem_cons.2 ⟨(show IvOk (IV.int 3 .i64 a.f3) from ⟨rfl,rfl,hr.client⟩),List.forall_mem_cons.2 ⟨(show IvOk (IV.str 9 a.f6) from ⟨rfl,z1⟩),(fun _ h=>nomatch h)⟩⟩) (by rw[str11_z];decide) (by omega) h
             ·rw[if_neg g] at h
              exact join_s k (l:=[(IV.int 3 .i64 a.f3),(IV.str 9 a.f6)]) (by simp) (List.forall_mem_cons.2 ⟨(show IvOk (IV.int 3 .i64 a.f3) from ⟨rfl,rfl,hr.client⟩),List.forall_mem_cons.2 ⟨(show IvOk (IV.str 9 a.f6) from ⟨rfl,z1⟩),(fun _ h=>nomatch h)⟩⟩) (by rw[str13_z];decide) (by omega) h
           ·rw[if_neg g] at h
            refine cond_dec (fun g=>?_) (fun g=>?_)
            ·rw[if_pos g] at h
             refine cond_dec (fun g=>?_) (fun g=>?_)
             ·rw[if_pos g] at h
              exact join_s k (l:=[(IV.int 3 .i64 a.f3),(IV.str 9 a.f4.f3),(IV.str 9 a.f4.f4)]) (by simp) (List.forall_mem_cons.2 ⟨(show IvOk (IV.int 3 .i64 a.f3) from ⟨rfl,rfl,hr.client⟩),List.forall_mem_cons.2 ⟨(show IvOk (IV.str 9 a.f4.f3) from ⟨rfl,z2⟩),List.forall_mem_cons.2 ⟨(show IvOk (IV.str 9 a.f4.f4) from ⟨rfl,z3⟩),(fun _ h=>nomatch h)⟩⟩⟩) (by rw[str14_z];decide) (by omega) h
             ·rw[if_neg g] at h
              refine cond_dec (fun g=>?_) (fun g=>?_)
              ·rw[if_pos g] at h
               exact join_s k (l:=[(IV.int 3 .i64 a.f3),(IV.str 9 a.f4.f3),(IV.str 9 a.f4.f4)]) (by simp) (List.forall_mem_cons.2 ⟨(show IvOk (IV.int 3 .i64 a.f3) from ⟨rfl,rfl,hr.client⟩),List.forall_mem_cons.2 ⟨(show IvOk (IV.str 9 a.f4.f3) from ⟨rfl,z2⟩),List.forall_mem_cons.2 ⟨(show IvOk (IV.str 9 a.f4.f4) from ⟨rfl,z3⟩),(fun _ h=>nomatch h)⟩⟩⟩) (by rw[str15_z];decide) (by omega) h
              ·rw[if_neg g] at h
               exact join_s k (l:=[(IV.int 3 .i64 a.f3),(IV.str 9 a.f4.f3)]) (by simp) (List.forall_mem_cons.2 ⟨(show IvOk (IV.int 3 .i64 a.f3) from ⟨rfl,rfl,hr.client⟩),List.forall_mem_cons.2 ⟨(show IvOk (IV.str 9 a.f4.f3) from ⟨rfl,z2⟩),(fun _ h=>nomatch h)⟩⟩) (by rw[str16_z];decide) (by omega) h
            ·rw[if_neg g] at h
             refine cond_dec (fun g=>?_) (fun g=>?_)
             ·rw[if_pos g] at h
              refine cond_dec (fun g=>?_) (fun g=>?_)
              ·rw[if_pos g] at h
               exact join_s k (l:=[(IV.int 3 .i64 a.f1),(IV.int 3 .i64 a.f7.f1)]) (by simp) (List.forall_mem_cons.2 ⟨(show IvOk (IV.int 3 .i64 a.f1) from ⟨rfl,rfl,hr.node⟩),List.forall_mem_cons.2 ⟨(show IvOk (IV.int 3 .i64 a.f7.f1) from ⟨rfl,rfl,hr.to⟩),(fun _ h=>nomatch h)⟩⟩) (by rw[str20_z];decide) (by omega) h
              ·rw[if_neg g] at h
               refine cond_dec (fun g=>?_) (fun g=>?_)
               ·rw[if_pos g] at h
                exact join_s k (l:=[(IV.int 3 .i64 a.f1),(IV.int 3 .i64 a.f7.f1)]) (by simp) (List.forall_mem_cons.2 ⟨(show IvOk (IV.int 3 .i64 a.f1) from ⟨rfl,rfl,hr.node⟩),List.forall_mem_cons.2 ⟨(show IvOk (IV.int 3 .i64 a.f7.f1) from ⟨rfl,rfl,hr.to⟩),(fun _ h=>nomatch h)⟩⟩) (by rw[str21_z];decide) (by omega) h
               ·rw[if_neg g] at h
                exact join_s k (l:=[(IV.int 3 .i64 a.f1),(IV.int 3 .i64 a.f7.f1)]) (by simp) (List.forall_mem_cons.2 ⟨(show IvOk (IV.int 3 .i64 a.f1) from ⟨rfl,rfl,hr.node⟩),List.forall_mem_cons.2 ⟨(show IvOk (IV.int 3 .i64 a.f7.f1) from ⟨rfl,rfl,hr.to⟩),(fun _ h=>nomatch h)⟩⟩) (by rw[str22_z];decide) (by omega) h
             ·rw[if_neg g] at h
              exact h
end Go.V
