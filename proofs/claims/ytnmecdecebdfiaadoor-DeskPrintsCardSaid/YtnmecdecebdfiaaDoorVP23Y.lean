import Derived.Test.YtnmecdecebdfiaaDoorVP23X
set_option linter.unusedVariables false
set_option linter.unusedSimpArgs false
set_option maxRecDepth 8000
namespace Go.V
def joinB:List (List UInt8)->List UInt8
 | []=>[]
 | [w]=>w
 | w::v::r=>w++32::joinB (v::r)
def NoB(w:List UInt8):Prop:=∀ x∈w,x≠32
theorem parts_join:∀ {L:List (List UInt8)},L≠[]->(∀ w∈L,NoB w)->partsL 32 (joinB L)=L
 | [],h,_=>absurd rfl h
 | [w],_,h=>partsL_none (h w (by simp))
 | w::v::r,_,h=>by
  rw[joinB,partsL_cut (h w (by simp)),parts_join (by simp) fun x hx=>h x (List.mem_cons_of_mem _ hx)]
theorem join_parts:∀ l:List UInt8,joinB (partsL 32 l)=l
 | []=>rfl
 | b::l=>by
  have ih:=join_parts l
  rw[partsL]
  cases hb:b==32 with
  | true=>
   simp only[cond_true]
   have e:b=32:=by simpa using hb
   cases hp:partsL 32 l with
   | nil=>exact absurd hp (partsL_ne 32 l)
   | cons w r=>
    rw[hp] at ih
    rw[joinB,List.nil_append,ih,e]
  | false=>
   simp only[cond_false]
   cases hp:partsL 32 l with
   | nil=>exact absurd hp (partsL_ne 32 l)
   | cons w r=>
    rw[hp] at ih
    cases r with
    | nil=>rw[joinB] at ih ⊢;rw[ih]
    | cons v r=>rw[joinB] at ih ⊢;rw[List.cons_append,ih]
theorem ofL_inj{a b:List UInt8}(h:ofL a=ofL b):a=b:=by
 have:=congrArg (fun x:ByteArray=>x.data.toList) h
 simpa[ofL] using this
abbrev BL(s:ByteArray):List UInt8:=s.data.toList
theorem line_iff{L:List ByteArray}{s:ByteArray}(hL:L≠[])(hb:∀ w∈L,NoB (BL w)):ofL (joinB (L.map BL))=s↔wordsL s=L:=by
 have e0:(L.map BL).map ofL=L:=by rw[List.map_map];exact List.map_id' L
 constructor
 ·rintro rfl
  show (partsL 32 (joinB (L.map BL))).map ofL=L
  rw[parts_join (by simpa using hL) (by intro w hw;obtain⟨x,hx,rfl⟩:=List.mem_map.1 hw;exact hb x hx),e0]
 ·intro h
  rw[<-h,wordsL_eq,List.map_map]
  have:(BL ∘ ofL)=(id:List UInt8->List UInt8):=rfl
  rw[this,List.map_id,join_parts];rfl
theorem lett_all:∀ n,n<256->(BL str12).contains (UInt8.ofNat n)=lettB (UInt8.ofNat n):=by decide +kernel
theorem lett_eq(b:UInt8):(BL str12).contains b=lettB b:=by
 have:=lett_all b.toNat b.toNat_lt
 rwa [UInt8.ofNat_toNat] at this
theorem dropWhile_nil{α:Type}{p:α->Bool}:∀ {l:List α},l.dropWhile p=[]↔l.all p=true
 | []=>by simp
 | x::l=>by
  rw[List.dropWhile_cons,List.all_cons]
  split
  ·rename_i h;rw[h,Bool.true_and];exact dropWhile_nil
  ·rename_i h;simp at h;simp[h]
theorem trim_nil{l cs:List UInt8}:Lib.trimS l cs=[]↔l.all (cs.contains ·)=true:=by
 unfold Lib.trimS Lib.trimLeftS Lib.trimRightS
 rw[dropWhile_nil]
 constructor
 ·intro h
  by_cases e:(l.reverse.dropWhile (cs.contains ·))=[]
  ·rw[dropWhile_nil,List.all_reverse] at e;exact e
  ·have h1:=List.head_dropWhile_not (cs.contains ·) (w:=e)
   rw[List.all_reverse,List.all_eq_true] at h
   have h2:=h _ (List.head_mem e)
   rw[h2] at h1;cases h1
 ·intro h
  have:l.reverse.dropWhile (cs.contains ·)=[]:=by rw[dropWhile_nil,List.all_reverse];exact h
  rw[this];rfl
theorem simB_eq(w:ByteArray):simB w=wrdB w:=by
 have h1:seq (trimL w str12) str1=(BL w).all lettB:=by
  rw[Bool.eq_iff_iff,seq_iff]
  unfold trimL
  rw[show str1=ofL [] from rfl]
  have hf:(fun b=>(BL str12).contains b)=lettB:=funext lett_eq
  constructor
  ·intro h
   have this:(BL w).all (fun b=>(BL str12).contains b)=true:=trim_nil.1 (ofL_inj h)
   rw[hf] at this;exact this
  ·intro h
   have:Lib.trimS w.data.toList str12.data.toList=[]:=trim_nil.2 (by show (BL w).all (fun b=>(BL str12).contains b)=true;rw[hf];exact h)
   rw[this]
 have h2:seq w str1=decide (w.size=0):=by
  rw[Bool.eq_iff_iff,seq_iff,decide_eq_true_eq]
  constructor
  ·rintro rfl;rfl
  ·intro h
   have:w.data = #[]:=Array.eq_empty_of_size_eq_zero h
   cases w;simp only at this;rw[this];rfl
 unfold simB wrdB
 rw[h1,h2]
 by_cases e:w.size=0
 ·rw[decide_eq_true e,decide_eq_false (by omega:¬1<=w.size)];simp
 ·rw[decide_eq_false e,decide_eq_true (by omega:1<=w.size)];simp[Bool.and_comm]
theorem wrdB_noB{w:ByteArray}(h:wrdB w=true):NoB (BL w):=by
 unfold wrdB at h
 simp only[Bool.and_eq_true,List.all_eq_true] at h
 intro x hx e
 have:=h.1 x hx
 rw[e] at this
 exact absurd this (by decide)
theorem dec_digits:∀ (d u:Nat),u<10 ^ (d+1)->∀ b∈Lib.decDigits u,48<=b.toNat/\b.toNat<=57
 | 0,u,h,b,hb=>by
  rw[Lib.decDigits,dif_pos (by omega),List.mem_singleton] at hb
  subst hb
  rw[UInt8.toNat_ofNat'];omega
 | d+1,u,h,b,hb=>by
  rw[Lib.decDigits] at hb
  split at hb
  ·rw[List.mem_singleton] at hb;subst hb;rw[UInt8.toNat_ofNat'];omega
  ·rcases List.mem_append.1 hb with hb|hb
   ·exact dec_digits d (u / 10) (by rw[Nat.pow_succ] at h;omega) b hb
   ·rw[List.mem_singleton] at hb;subst hb;rw[UInt8.toNat_ofNat'];omega
theorem itoa_nat(n:Nat):Lib.itoa (n:Int)=Lib.decDigits n:=by rw[Lib.itoa,if_neg (by omega)];rfl
theorem itoaL_noB(n:Int)(h:I64 n):NoB (BL (itoaL n)):=by
 have key:∀ u:Nat,u<10 ^ 20->∀ b∈Lib.decDigits u,b≠32:=fun u hu b hb e=>by
  have:=dec_digits 19 u hu b hb
  rw[e] at this
  exact absurd this.1 (by decide)
 obtain⟨h1,h2⟩:=h
 have hp:(10:Nat) ^ 20=100000000000000000000:=rfl
 show NoB (Lib.itoa n)
 intro x hx
 rw[Lib.itoa] at hx
 split at hx
 ·rcases List.mem_cons.1 hx with rfl|hx
  ·decide
  ·exact key n.natAbs (by omega) x hx
 ·exact key n.toNat (by omega) x hx
theorem numG_app:∀ (a b:List UInt8) (n:Int),numG (a++b) n=numG b (numG a n)
 | [],b,n=>rfl
 | x::a,b,n=>by rw[List.cons_append,numG,numG,numG_app a b]
theorem numG_dec:∀ (d u:Nat),u<10 ^ (d+1)->numG (Lib.decDigits u) 0=u
 | 0,u,h=>by
  rw[Lib.decDigits,dif_pos (by omega),numG,numG,UInt8.toNat_ofNat',if_pos (by omega)];omega
 | d+1,u,h=>by
  rw[Lib.decDigits]
  split
  ·rw[numG,numG,UInt8.toNat_ofNat',if_pos (by omega)];omega
  ·rw[numG_app,numG_dec d (u / 10) (by rw[Nat.pow_succ] at h;omega),numG,numG,UInt8.toNat_ofNat',if_pos (by omega)];omega
theorem numR_itoa{n:Nat}(h:n<=1000000):numR (itoaL n)=n:=by
 have hl:=dec_len 6 n (by omega)
 show numG ((Lib.itoa n).take 9) 0=n
 rw[itoa_nat,List.take_of_length_le (by omega)]
 exact numG_dec 6 n (by omega)
theorem numG_nn:∀ (l:List UInt8) (n:Int),0<=n->0<=numG l n
 | [],n,h=>h
 | b::l,n,h=>by rw[numG];split<;>exact numG_nn l _ (by omega)
theorem okN_of{w:ByteArray}(h:okN w=true):∃ n:Nat,n<=1000000/\w=itoaL n/\atoiN w=n:=by
 unfold okN at h
 simp only[Bool.and_eq_true,decide_eq_true_eq] at h
 obtain⟨h1,h2,h3,h4,h5⟩:=h
 refine⟨(atoiN w).toNat,by omega,?_,by omega⟩
 rw[Int.toNat_of_nonneg h3]
 exact (seq_iff.1 h5).symm
end Go.V
