import Derived.Test.YtgeonfbhejigjaaGreatDoorVI10F
set_option linter.unusedVariables false
set_option linter.unusedSimpArgs false
namespace Go.V
theorem nat8_ext{a b:Nat}(ha:a<256)(hb:b<256)(h:∀ j,j<8->a / 2 ^ (7-j) % 2=b / 2 ^ (7-j) % 2):a=b:=by
 have h0:=h 0 (by decide)
 have h1:=h 1 (by decide)
 have h2:=h 2 (by decide)
 have h3:=h 3 (by decide)
 have h4:=h 4 (by decide)
 have h5:=h 5 (by decide)
 have h6:=h 6 (by decide)
 have h7:=h 7 (by decide)
 simp only[show 7-0=7 from rfl,show 7-1=6 from rfl,show 7-2=5 from rfl,show 7-3=4 from rfl,show 7-4=3 from rfl,show 7-5=2 from rfl,show 7-6=1 from rfl,show 7-7=0 from rfl] at h0 h1 h2 h3 h4 h5 h6 h7
 omega
theorem bits_eq{a b:List Int}(ha:Dig a)(hb:Dig b)(h:∀ i,i<256->bitN a i=bitN b i):a=b:=by
 refine List.ext_getElem (by rw[ha.1,hb.1]) fun i h1 h2=>?_
 have hi:i<32:=by have:=ha.1;omega
 have ba:=ha.2 a[i] (List.getElem_mem h1)
 have bb:=hb.2 b[i] (List.getElem_mem h2)
 have e:a[i].toNat=b[i].toNat:=nat8_ext (by omega) (by omega) fun j hj=>by
  have:=h (8*i+j) (by omega)
  rw[bitN_byte _ _ _ hj,bitN_byte _ _ _ hj,getD_at h1,getD_at h2] at this
  exact this
 omega
def Dst(l:List S_api_Leaf):Prop:=l.Pairwise fun x y=>x.f0≠y.f0
instance (l:List S_api_Leaf):Decidable (Dst l):=by unfold Dst;infer_instance
def LDig(l:List S_api_Leaf):Prop:=∀ x∈l,Dig x.f0/\Dig x.f1
structure OkL (n:Nat) (q:List Int) (l:List S_api_Leaf):Prop where
 dig:LDig l
 agr:∀ x∈l,∀ i,i<n->bitN x.f0 i=bitN q i
 dst:Dst l
def halfL(l:List S_api_Leaf)(n b:Nat):List S_api_Leaf:=l.filter fun x=>decide (bitN x.f0 n=b)
def remL(l:List S_api_Leaf)(p:List Int):List S_api_Leaf:=l.filter fun y=>!decide (y.f0=p)
def insL(l:List S_api_Leaf)(x:S_api_Leaf):List S_api_Leaf:=remL l x.f0++[x]
def getL(l:List S_api_Leaf)(p:List Int):Option (List Int):=(l.find? fun y=>decide (y.f0=p)).map S_api_Leaf.f1
abbrev zlf:S_api_Leaf:=⟨List.replicate 32 0,List.replicate 32 0⟩
def bld(w:Int):Nat->Nat->List S_api_Leaf->KT S_api_Leaf
 | _,_,[]=>.nil
 | _,_,[x]=>.node w x .nil .nil
 | 0,_,_::_::_=>.nil
 | m+1,n,x::y::l=>.node w zlf (bld w m (n+1) (halfL (x::y::l) n 0)) (bld w m (n+1) (halfL (x::y::l) n 1))
theorem bld_nil(w:Int)(m n:Nat):bld w m n []=.nil:=by cases m<;>rfl
theorem bld_one(w:Int)(m n:Nat)(x:S_api_Leaf):bld w m n [x]=.node w x .nil .nil:=by cases m<;>rfl
theorem bld_two(w:Int)(m n:Nat){l:List S_api_Leaf}(h:2<=l.length):bld w (m+1) n l=.node w zlf (bld w m (n+1) (halfL l n 0)) (bld w m (n+1) (halfL l n 1)):=by
 match l,h with
 | x::y::l,_=>rfl
theorem OkL.half{n:Nat}{q:List Int}{l:List S_api_Leaf}(h:OkL n q l){b:Nat}(hb:bitN q n=b):OkL (n+1) q (halfL l n b) where
 dig:=fun x hx=>h.dig x (List.mem_filter.1 hx).1
 agr:=fun x hx i hi=>by
  obtain⟨h1,h2⟩:=List.mem_filter.1 hx
  rcases Nat.lt_succ_iff_lt_or_eq.1 hi with hi|rfl
  ·exact h.agr x h1 i hi
  ·rw[of_decide_eq_true h2,hb]
 dst:=List.Pairwise.filter _ h.dst
theorem OkL.len{q:List Int}{l:List S_api_Leaf}(h:OkL 256 q l):l.length<=1:=by
 match l,h with
 | [],_=>simp
 | [_],_=>simp
 | x::y::l,h=>
  have hd:=h.dst
  unfold Dst at hd
  rw[List.pairwise_cons] at hd
  exact absurd (bits_eq (h.dig x (by simp)).1 (h.dig y (by simp)).1 fun i hi=>by rw[h.agr x (by simp) i hi,h.agr y (by simp) i hi]) (hd.1 y (by simp))
theorem OkL.lt{n m:Nat}{q:List Int}{l:List S_api_Leaf}(h:OkL n q l)(hn:m+n=256)(hl:2<=l.length):∃ m',m=m'+1:=by
 cases m with
 | zero=>
  obtain rfl:n=256:=by omega
  have:=h.len;omega
 | succ m=>exact⟨m,rfl⟩
theorem half_len(l:List S_api_Leaf)(n:Nat):(halfL l n 0).length+(halfL l n 1).length=l.length:=by
 induction l with
 | nil=>rfl
 | cons x l ih=>
  unfold halfL at *
  rcases Nat.mod_two_eq_zero_or_one ((x.f0.getD (n / 8) 0).toNat / 2 ^ (7-n % 8)) with h|h
  all_goals
   change bitN x.f0 n=_ at h
   rw[List.filter_cons,List.filter_cons,h]
   simp
   omega
theorem OkL.half'{n:Nat}{q:List Int}{l:List S_api_Leaf}(h:OkL n q l)(b:Nat):∃ q',OkL (n+1) q' (halfL l n b):=by
 cases hh:halfL l n b with
 | nil=>exact⟨q,⟨fun x hx=>(List.not_mem_nil hx).elim,fun x hx=>(List.not_mem_nil hx).elim,List.Pairwise.nil⟩⟩
 | cons x r=>
  rw[<-hh]
  have hx:x∈halfL l n b:=by rw[hh];simp
  obtain⟨h1,h2⟩:=List.mem_filter.1 hx
  refine⟨x.f0,?_⟩
  have h3:OkL n x.f0 l:=⟨h.dig,fun y hy i hi=>by rw[h.agr y hy i hi,h.agr x h1 i hi],h.dst⟩
  exact h3.half (of_decide_eq_true h2)
theorem bld_isNil(w:Int):∀ (m n:Nat) {q:List Int} {l:List S_api_Leaf},m+n=256->OkL n q l->(bld w m n l).isNil=decide (l=[]):=by
 intro m n q l hn h
 match l,h with
 | [],_=>rw[bld_nil];simp[KT.isNil]
 | [x],_=>rw[bld_one];simp[KT.isNil]
 | x::y::l,h=>
  obtain⟨m',rfl⟩:=h.lt hn (by simp)
  rw[bld_two _ _ _ (by simp)];simp[KT.isNil]
def innerT(x:KT S_api_Leaf):Bool:=!x.isNil&&(!x.lt.isNil||!x.rt.isNil)
theorem bld_inner(w:Int)(m n:Nat){q:List Int}{l:List S_api_Leaf}(hn:m+n=256)(h:OkL n q l):innerT (bld w m n l)=decide (2<=l.length):=by
 match l,h with
 | [],_=>rw[bld_nil];rfl
 | [x],_=>rw[bld_one];rfl
 | x::y::l,h=>
  obtain⟨m',rfl⟩:=h.lt hn (by simp)
  rw[bld_two _ _ _ (by simp)]
  obtain⟨q0,h0⟩:=h.half' 0
  obtain⟨q1,h1⟩:=h.half' 1
  show (!(bld w m' (n+1) (halfL (x::y::l) n 0)).isNil||!(bld w m' (n+1) (halfL (x::y::l) n 1)).isNil)=_
  rw[bld_isNil w m' (n+1) (by omega) h0,bld_isNil w m' (n+1) (by omega) h1]
  have:=half_len (x::y::l) n
  rw[decide_eq_true (by simp:2<=(x::y::l).length)]
  cases e0:halfL (x::y::l) n 0 with
  | nil=>
   cases e1:halfL (x::y::l) n 1 with
   | nil=>rw[e0,e1] at this;simp at this
   | cons a r=>simp
  | cons a r=>simp
theorem allG_bld(w:Int):∀ (m n:Nat) {l:List S_api_Leaf},LDig l->allG w (bld w m n l):=by
 intro m
 induction m with
 | zero=>
  intro n l h
  match l,h with
  | [],_=>trivial
  | [x],h=>exact⟨rfl,h x (by simp),trivial,trivial⟩
  | _::_::_,_=>trivial
 | succ m ih=>
  intro n l h
  match l,h with
  | [],_=>trivial
  | [x],h=>exact⟨rfl,h x (by simp),trivial,trivial⟩
  | x::y::l,h=>exact⟨rfl,⟨Dig.zero,Dig.zero⟩,ih _ fun z hz=>h z (List.mem_filter.1 hz).1,ih _ fun z hz=>h z (List.mem_filter.1 hz).1⟩
theorem ht_bld(w:Int):∀ (m n:Nat) (l:List S_api_Leaf),htT (bld w m n l)<=m+1:=by
 intro m
 induction m with
 | zero=>
  intro n l
  match l with
  | []=>exact Nat.zero_le _
  | [x]=>exact Nat.le_refl _
  | _::_::_=>exact Nat.zero_le _
 | succ m ih=>
  intro n l
  match l with
  | []=>exact Nat.zero_le _
  | [x]=>simp[bld,htT]
  | x::y::l=>
   rw[bld_two _ _ _ (by simp),htT]
   have h0:=ih (n+1) (halfL (x::y::l) n 0)
   have h1:=ih (n+1) (halfL (x::y::l) n 1)
   omega
theorem half_rem(l:List S_api_Leaf)(p:List Int)(n b:Nat):halfL (remL l p) n b=remL (halfL l n b) p:=by
 unfold halfL remL
 rw[List.filter_filter,List.filter_filter]
 exact List.filter_congr fun x _=>by rw[Bool.and_comm]
theorem rem_none{l:List S_api_Leaf}{p:List Int}(h:∀ x∈l,x.f0≠p):remL l p=l:=by
 unfold remL
 rw[List.filter_eq_self]
 intro x hx
 simp[h x hx]
theorem half_other(l:List S_api_Leaf){p:List Int}{n b:Nat}(h:bitN p n≠b):remL (halfL l n b) p=halfL l n b:=by
 refine rem_none fun x hx e=>h ?_
 rw[<-e]
 exact of_decide_eq_true (List.mem_filter.1 hx).2
theorem half_ins_same(l:List S_api_Leaf){x:S_api_Leaf}{n b:Nat}(h:bitN x.f0 n=b):halfL (insL l x) n b=insL (halfL l n b) x:=by
 unfold insL
 rw[<-half_rem]
 unfold halfL
 rw[List.filter_append,List.filter_cons,if_pos (by simp[h])]
 rfl
theorem half_ins_other(l:List S_api_Leaf){x:S_api_Leaf}{n b:Nat}(h:bitN x.f0 n≠b):halfL (insL l x) n b=halfL l n b:=by
 unfold insL
 conv=>lhs;unfold halfL
 rw[List.filter_append,List.filter_cons,if_neg (by simp[h])]
 show halfL (remL l x.f0) n b++[]=_
 rw[half_rem,half_other l h,List.append_nil]
theorem rem_len{l:List S_api_Leaf}{p:List Int}(h:Dst l):l.length<=(remL l p).length+1/\(remL l p).length<=l.length:=by
 refine⟨?_,List.length_filter_le _ _⟩
 induction l with
 | nil=>simp
 | cons x l ih=>
  unfold Dst at h
  rw[List.pairwise_cons] at h
  by_cases hx:x.f0=p
  ·rw[show remL (x::l) p=remL l p by unfold remL;rw[List.filter_cons,if_neg (by simp[hx])],rem_none fun y hy e=>h.1 y hy (by rw[hx,e])]
   simp
  ·rw[show remL (x::l) p=x::remL l p by unfold remL;rw[List.filter_cons,if_pos (by simp[hx])]]
   have:=ih h.2
   simp only[List.length_cons];omega
theorem rem_len_eq{l:List S_api_Leaf}{p:List Int}(h:Dst l):(remL l p).length+(if (getL l p).isSome then 1 else 0)=l.length:=by
 induction l with
 | nil=>rfl
 | cons x l ih=>
  unfold Dst at h
  rw[List.pairwise_cons] at h
  by_cases hx:x.f0=p
  ·rw[show remL (x::l) p=remL l p by unfold remL;rw[List.filter_cons,if_neg (by simp[hx])],rem_none fun y hy e=>h.1 y hy (by rw[hx,e]),
    show getL (x::l) p=some x.f1 by unfold getL;rw[List.find?_cons_of_pos (by simp[hx])];rfl]
   simp
  ·rw[show remL (x::l) p=x::remL l p by unfold remL;rw[List.filter_cons,if_pos (by simp[hx])],
    show getL (x::l) p=getL l p by unfold getL;rw[List.find?_cons_of_neg (by simp[hx])]]
   have:=ih h.2
   simp only[List.length_cons];omega
theorem getL_some{l:List S_api_Leaf}{p:List Int}:(getL l p).isSome=true↔∃ y∈l,y.f0=p:=by
 unfold getL
 rw[Option.isSome_map,List.find?_isSome]
 simp
theorem Dst.rem{l:List S_api_Leaf}(h:Dst l)(p:List Int):Dst (remL l p):=List.Pairwise.filter _ h
theorem Dst.ins{l:List S_api_Leaf}(h:Dst l)(x:S_api_Leaf):Dst (insL l x):=by
 unfold insL Dst
 rw[List.pairwise_append]
 refine⟨h.rem _,List.pairwise_singleton _ _,fun a ha b hb=>?_⟩
 obtain rfl:=List.mem_singleton.1 hb
 have:=(List.mem_filter.1 ha).2
 simpa using this
theorem LDig.rem{l:List S_api_Leaf}(h:LDig l)(p:List Int):LDig (remL l p):=fun x hx=>h x (List.mem_filter.1 hx).1
theorem LDig.ins{l:List S_api_Leaf}(h:LDig l){x:S_api_Leaf}(hx:Dig x.f0/\Dig x.f1):LDig (insL l x):=by
 intro y hy
 rcases List.mem_append.1 hy with hy|hy
 ·exact h.rem _ y hy
 ·obtain rfl:=List.mem_singleton.1 hy;exact hx
theorem half_get{l:List S_api_Leaf}{p:List Int}{n b:Nat}(h:bitN p n=b):getL (halfL l n b) p=getL l p:=by
 unfold getL halfL
 congr 1
 induction l with
 | nil=>rfl
 | cons x l ih=>
  rw[List.filter_cons]
  by_cases hx:x.f0=p
  ·rw[if_pos (by rw[hx,h];simp),List.find?_cons_of_pos (by simp[hx]),List.find?_cons_of_pos (by simp[hx])]
  ·rw[List.find?_cons_of_neg (l:=l) (by simp[hx])]
   split
   ·rw[List.find?_cons_of_neg (by simp[hx])];exact ih
   ·exact ih
def setL(b l:List S_api_Leaf):List S_api_Leaf:=l.foldl insL b
theorem setL_new:∀ (l b:List S_api_Leaf),Dst (b++l)->setL b l=b++l:=by
 intro l
 induction l with
 | nil=>intro b _;simp[setL]
 | cons x l ih=>
  intro b h
  show setL (insL b x) l=_
  have hb:insL b x=b++[x]:=by
   unfold insL
   rw[rem_none]
   intro y hy
   unfold Dst at h
   rw[List.pairwise_append] at h
   exact h.2.2 y hy x (by simp)
  rw[hb,ih _ (by simpa using h)]
  simp
theorem Dst.set:∀ {l b:List S_api_Leaf},Dst b->Dst (setL b l):=by
 intro l
 induction l with
 | nil=>intro b h;exact h
 | cons x l ih=>intro b h;exact ih (h.ins x)
theorem LDig.set:∀ {l b:List S_api_Leaf},LDig b->LDig l->LDig (setL b l):=by
 intro l
 induction l with
 | nil=>intro b h _;exact h
 | cons x l ih=>intro b h hl;exact ih (h.ins (hl x (by simp))) fun y hy=>hl y (by simp[hy])
theorem ins_len{b:List S_api_Leaf}(hb:Dst b)(x:S_api_Leaf):(insL b x).length=b.length+(if (getL b x.f0).isSome then 0 else 1):=by
 unfold insL
 rw[List.length_append,List.length_singleton]
 have:=rem_len_eq (p:=x.f0) hb
 cases h:(getL b x.f0).isSome
 ·rw[h] at this;simp at this;simp;omega
 ·rw[h] at this;simp at this;simp;omega
theorem set_len:∀ {l b:List S_api_Leaf},Dst b->b.length<=(setL b l).length/\(setL b l).length<=b.length+l.length:=by
 intro l
 induction l with
 | nil=>intro b _;exact⟨Nat.le_refl _,Nat.le_refl _⟩
 | cons x l ih=>
  intro b h
  have h1:=ih (h.ins x)
  have h2:=ins_len h x
  show b.length<=(setL (insL b x) l).length/\(setL (insL b x) l).length<=_
  rw[List.length_cons]
  split at h2<;>omega
def setE(b l:List S_api_Leaf):Int:=if 4096<l.length then 2 else if ¬Dst l then 30 else if 4096<(setL b l).length then 2 else 0
def setN(b l:List S_api_Leaf):List S_api_Leaf:=if setE b l=0 then setL b l else b
def rootL(w:Int)(l:List S_api_Leaf):List Int:=digT w (bld w 256 0 l)
def rootE(w:Int)(l:List S_api_Leaf):Int:=if ¬(0<=w/\w<=32) then 1 else if 4096<l.length then 2 else if ¬Dst l then 30 else 0
def rootR(w:Int)(l:List S_api_Leaf):List Int:=if rootE w l=0 then rootL w l else List.replicate 32 0
theorem setE_nil(l:List S_api_Leaf):setE [] l=if 4096<l.length then 2 else if ¬Dst l then 30 else 0:=by
 unfold setE
 by_cases h1:4096<l.length
 ·rw[if_pos h1,if_pos h1]
 ·rw[if_neg h1,if_neg h1]
  by_cases h2:Dst l
  ·rw[if_neg (not_not_intro h2),if_neg (not_not_intro h2),setL_new l [] (by simpa using h2),List.nil_append,if_neg h1]
  ·rw[if_pos h2,if_pos h2]
theorem Dst.perm{l m:List S_api_Leaf}(h:l.Perm m):Dst l↔Dst m:=h.pairwise_iff fun a=>Ne.symm a
theorem OkL.of{l:List S_api_Leaf}(h:LDig l)(hd:Dst l)(q:List Int):OkL 0 q l:=⟨h,fun _ _ i hi=>absurd hi (Nat.not_lt_zero i),hd⟩
end Go.V
