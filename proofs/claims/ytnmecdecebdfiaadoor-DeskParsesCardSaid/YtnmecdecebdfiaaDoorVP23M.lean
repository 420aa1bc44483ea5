import Derived.Test.YtnmecdecebdfiaaDoorVP23Z
set_option linter.unusedVariables false
set_option linter.unusedSimpArgs false
set_option maxRecDepth 8000
namespace Go.V
theorem BL_eq{x:ByteArray}{l:List UInt8}(h:BL x=l):x=ofL l:=by subst h;rfl
theorem BL_app(a b:ByteArray):BL (a++b)=BL a++BL b:=by
 have:=congrArg BL (ofL_app (BL a) (BL b))
 exact this
theorem BL_str0:BL str0=[32]:=rfl
theorem may0:mayB 0=true:=by decide
section
variable {s:ByteArray} {ws:List ByteArray}
theorem BT_tick:BL str25=BL str2++[32]:=rfl
theorem par_tick(hs:wordsL s=str2::ws):accP (actW (str2::ws))=accR s (guessM (str2::ws)):=by
 have e1:actW (str2::ws)=res_tick false (str2::ws) 1:=by
  show actM str2 false (str2::ws) 1=_
  unfold actM
  rw[if_pos rfl]
 have e2:guessM (str2::ws)=((fun n=>S_api_Act.mk 1 n 0 0 zC 0 ByteArray.empty zH) (numR (ws.getD 0 ByteArray.empty))):=by
  unfold guessM
  rw[show (str2::ws).getD 0 ByteArray.empty=str2 from rfl,if_pos rfl];rfl
 rw[e1,e2]
 exact cls1 (A:=fun n=>S_api_Act.mk 1 n 0 0 zC 0 ByteArray.empty zH) hs (show NoB (BL str2) by unfold NoB;decide +kernel) (fun _=>(by decide:(1:Int)≠0)) (fun _=>by simp[fldB,may0]) (fun n=>BL_eq (by show BL (str25++itoaL n)=_;simp only[BT_tick,BL_app,BL_str0,List.map_cons,List.map_nil,joinB,List.append_assoc,List.cons_append,List.nil_append]))
theorem BT_start:BL str26=BL str3++[32]:=rfl
theorem par_start(hs:wordsL s=str3::ws):accP (actW (str3::ws))=accR s (guessM (str3::ws)):=by
 have e1:actW (str3::ws)=res_start false (str3::ws) 1:=by
  show actM str3 false (str3::ws) 1=_
  unfold actM
  rw[if_neg (by decide +kernel),if_pos rfl]
 have e2:guessM (str3::ws)=((fun n=>S_api_Act.mk 13 n 0 0 zC 0 ByteArray.empty zH) (numR (ws.getD 0 ByteArray.empty))):=by
  unfold guessM
  rw[show (str3::ws).getD 0 ByteArray.empty=str3 from rfl,if_neg (by decide +kernel),if_pos rfl];rfl
 rw[e1,e2]
 exact cls1 (A:=fun n=>S_api_Act.mk 13 n 0 0 zC 0 ByteArray.empty zH) hs (show NoB (BL str3) by unfold NoB;decide +kernel) (fun _=>(by decide:(13:Int)≠0)) (fun _=>by simp[fldB,may0]) (fun n=>BL_eq (by show BL (str26++itoaL n)=_;simp only[BT_start,BL_app,BL_str0,List.map_cons,List.map_nil,joinB,List.append_assoc,List.cons_append,List.nil_append]))
theorem BT_seal:BL str27=BL str4++[32]:=rfl
theorem par_seal(hs:wordsL s=str4::ws):accP (actW (str4::ws))=accR s (guessM (str4::ws)):=by
 have e1:actW (str4::ws)=res_seal false (str4::ws) 1:=by
  show actM str4 false (str4::ws) 1=_
  unfold actM
  rw[if_neg (by decide +kernel),if_neg (by decide +kernel),if_pos rfl]
 have e2:guessM (str4::ws)=((fun n=>S_api_Act.mk 9 n 0 0 zC 0 ByteArray.empty zH) (numR (ws.getD 0 ByteArray.empty))):=by
  unfold guessM
  rw[show (str4::ws).getD 0 ByteArray.empty=str4 from rfl,if_neg (by decide +kernel),if_neg (by decide +kernel),if_pos rfl];rfl
 rw[e1,e2]
 exact cls1 (A:=fun n=>S_api_Act.mk 9 n 0 0 zC 0 ByteArray.empty zH) hs (show NoB (BL str4) by unfold NoB;decide +kernel) (fun _=>(by decide:(9:Int)≠0)) (fun _=>by simp[fldB,may0]) (fun n=>BL_eq (by show BL (str27++itoaL n)=_;simp only[BT_seal,BL_app,BL_str0,List.map_cons,List.map_nil,joinB,List.append_assoc,List.cons_append,List.nil_append]))
theorem BT_intent:BL str28=BL str5++[32]:=rfl
theorem par_intent(hs:wordsL s=str5::ws):accP (actW (str5::ws))=accR s (guessM (str5::ws)):=by
 have e1:actW (str5::ws)=res_intent false (str5::ws) 1:=by
  show actM str5 false (str5::ws) 1=_
  unfold actM
  rw[if_neg (by decide +kernel),if_neg (by decide +kernel),if_neg (by decide +kernel),if_pos rfl]
 have e2:guessM (str5::ws)=((fun n=>S_api_Act.mk 10 n 0 0 zC 0 ByteArray.empty zH) (numR (ws.getD 0 ByteArray.empty))):=by
  unfold guessM
  rw[show (str5::ws).getD 0 ByteArray.empty=str5 from rfl,if_neg (by decide +kernel),if_neg (by decide +kernel),if_neg (by decide +kernel),if_pos rfl];rfl
 rw[e1,e2]
 exact cls1 (A:=fun n=>S_api_Act.mk 10 n 0 0 zC 0 ByteArray.empty zH) hs (show NoB (BL str5) by unfold NoB;decide +kernel) (fun _=>(by decide:(10:Int)≠0)) (fun _=>by simp[fldB,may0]) (fun n=>BL_eq (by show BL (str28++itoaL n)=_;simp only[BT_intent,BL_app,BL_str0,List.map_cons,List.map_nil,joinB,List.append_assoc,List.cons_append,List.nil_append]))
theorem BT_deliver:BL str29=BL str6++[32]:=rfl
theorem par_deliver(hs:wordsL s=str6::ws):accP (actW (str6::ws))=accR s (guessM (str6::ws)):=by
 have e1:actW (str6::ws)=res_deliver false (str6::ws) 1:=by
  show actM str6 false (str6::ws) 1=_
  unfold actM
  rw[if_neg (by decide +kernel),if_neg (by decide +kernel),if_neg (by decide +kernel),if_neg (by decide +kernel),if_pos rfl]
 have e2:guessM (str6::ws)=((fun n=>S_api_Act.mk 2 0 n 0 zC 0 ByteArray.empty zH) (numR (ws.getD 0 ByteArray.empty))):=by
  unfold guessM
  rw[show (str6::ws).getD 0 ByteArray.empty=str6 from rfl,if_neg (by decide +kernel),if_neg (by decide +kernel),if_neg (by decide +kernel),if_neg (by decide +kernel),if_pos rfl];rfl
 rw[e1,e2]
 exact cls1 (A:=fun n=>S_api_Act.mk 2 0 n 0 zC 0 ByteArray.empty zH) hs (show NoB (BL str6) by unfold NoB;decide +kernel) (fun _=>(by decide:(2:Int)≠0)) (fun _=>by simp[fldB,may0]) (fun n=>BL_eq (by show BL (str29++itoaL n)=_;simp only[BT_deliver,BL_app,BL_str0,List.map_cons,List.map_nil,joinB,List.append_assoc,List.cons_append,List.nil_append]))
theorem BT_drop:BL str30=BL str7++[32]:=rfl
theorem par_drop(hs:wordsL s=str7::ws):accP (actW (str7::ws))=accR s (guessM (str7::ws)):=by
 have e1:actW (str7::ws)=res_drop false (str7::ws) 1:=by
  show actM str7 false (str7::ws) 1=_
  unfold actM
  rw[if_neg (by decide +kernel),if_neg (by decide +kernel),if_neg (by decide +kernel),if_neg (by decide +kernel),if_neg (by decide +kernel),if_pos rfl]
 have e2:guessM (str7::ws)=((fun n=>S_api_Act.mk 3 0 n 0 zC 0 ByteArray.empty zH) (numR (ws.getD 0 ByteArray.empty))):=by
  unfold guessM
  rw[show (str7::ws).getD 0 ByteArray.empty=str7 from rfl,if_neg (by decide +kernel),if_neg (by decide +kernel),if_neg (by decide +kernel),if_neg (by decide +kernel),if_neg (by decide +kernel),if_pos rfl];rfl
 rw[e1,e2]
 exact cls1 (A:=fun n=>S_api_Act.mk 3 0 n 0 zC 0 ByteArray.empty zH) hs (show NoB (BL str7) by unfold NoB;decide +kernel) (fun _=>(by decide:(3:Int)≠0)) (fun _=>by simp[fldB,may0]) (fun n=>BL_eq (by show BL (str30++itoaL n)=_;simp only[BT_drop,BL_app,BL_str0,List.map_cons,List.map_nil,joinB,List.append_assoc,List.cons_append,List.nil_append]))
theorem BT_double:BL str31=BL str8++[32]:=rfl
theorem par_double(hs:wordsL s=str8::ws):accP (actW (str8::ws))=accR s (guessM (str8::ws)):=by
 have e1:actW (str8::ws)=res_double false (str8::ws) 1:=by
  show actM str8 false (str8::ws) 1=_
  unfold actM
  rw[if_neg (by decide +kernel),if_neg (by decide +kernel),if_neg (by decide +kernel),if_neg (by decide +kernel),if_neg (by decide +kernel),if_neg (by decide +kernel),if_pos rfl]
 have e2:guessM (str8::ws)=((fun n=>S_api_Act.mk 4 0 n 0 zC 0 ByteArray.empty zH) (numR (ws.getD 0 ByteArray.empty))):=by
  unfold guessM
  rw[show (str8::ws).getD 0 ByteArray.empty=str8 from rfl,if_neg (by decide +kernel),if_neg (by decide +kernel),if_neg (by decide +kernel),if_neg (by decide +kernel),if_neg (by decide +kernel),if_neg (by decide +kernel),if_pos rfl];rfl
 rw[e1,e2]
 exact cls1 (A:=fun n=>S_api_Act.mk 4 0 n 0 zC 0 ByteArray.empty zH) hs (show NoB (BL str8) by unfold NoB;decide +kernel) (fun _=>(by decide:(4:Int)≠0)) (fun _=>by simp[fldB,may0]) (fun n=>BL_eq (by show BL (str31++itoaL n)=_;simp only[BT_double,BL_app,BL_str0,List.map_cons,List.map_nil,joinB,List.append_assoc,List.cons_append,List.nil_append]))
theorem BT_retry:BL str38=BL str9++[32]:=rfl
theorem par_retry(hs:wordsL s=str9::ws):accP (actW (str9::ws))=accR s (guessM (str9::ws)):=by
 have e1:actW (str9::ws)=res_retry false (str9::ws) 1:=by
  show actM str9 false (str9::ws) 1=_
  unfold actM
  rw[if_neg (by decide +kernel),if_neg (by decide +kernel),if_neg (by decide +kernel),if_neg (by decide +kernel),if_neg (by decide +kernel),if_neg (by decide +kernel),if_neg (by decide +kernel),if_pos rfl]
 have e2:guessM (str9::ws)=((fun n=>S_api_Act.mk 7 0 0 n zC 0 ByteArray.empty zH) (numR (ws.getD 0 ByteArray.empty))):=by
  unfold guessM
  rw[show (str9::ws).getD 0 ByteArray.empty=str9 from rfl,if_neg (by decide +kernel),if_neg (by decide +kernel),if_neg (by decide +kernel),if_neg (by decide +kernel),if_neg (by decide +kernel),if_neg (by decide +kernel),if_neg (by decide +kernel),if_neg (by decide +kernel),if_neg (by decide +kernel),if_neg (by decide +kernel),if_neg (by decide +kernel),if_neg (by decide +kernel),if_neg (by decide +kernel),if_pos rfl];rfl
 rw[e1,e2]
 exact cls1 (A:=fun n=>S_api_Act.mk 7 0 0 n zC 0 ByteArray.empty zH) hs (show NoB (BL str9) by unfold NoB;decide +kernel) (fun _=>(by decide:(7:Int)≠0)) (fun _=>by simp[fldB,may0]) (fun n=>BL_eq (by show BL (str38++itoaL n)=_;simp only[BT_retry,BL_app,BL_str0,List.map_cons,List.map_nil,joinB,List.append_assoc,List.cons_append,List.nil_append]))
theorem BT_head:BL str37=BL str10++[32]:=rfl
theorem par_head(hs:wordsL s=str10::ws):accP (actW (str10::ws))=accR s (guessM (str10::ws)):=by
 have e1:actW (str10::ws)=res_head false (str10::ws) 1:=by
  show actM str10 false (str10::ws) 1=_
  unfold actM
  rw[if_neg (by decide +kernel),if_neg (by decide +kernel),if_neg (by decide +kernel),if_neg (by decide +kernel),if_neg (by decide +kernel),if_neg (by decide +kernel),if_neg (by decide +kernel),if_neg (by decide +kernel),if_pos rfl]
 have e2:guessM (str10::ws)=((fun n=>S_api_Act.mk 6 0 0 n zC 3 ByteArray.empty zH) (numR (ws.getD 0 ByteArray.empty))):=by
  unfold guessM
  rw[show (str10::ws).getD 0 ByteArray.empty=str10 from rfl,if_neg (by decide +kernel),if_neg (by decide +kernel),if_neg (by decide +kernel),if_neg (by decide +kernel),if_neg (by decide +kernel),if_neg (by decide +kernel),if_neg (by decide +kernel),if_neg (by decide +kernel),if_neg (by decide +kernel),if_neg (by decide +kernel),if_neg (by decide +kernel),if_neg (by decide +kernel),if_pos rfl];rfl
 rw[e1,e2]
 exact cls1 (A:=fun n=>S_api_Act.mk 6 0 0 n zC 3 ByteArray.empty zH) hs (show NoB (BL str10) by unfold NoB;decide +kernel) (fun _=>(by decide:(6:Int)≠0)) (fun _=>by simp[fldB,may0]) (fun n=>BL_eq (by show BL (str37++itoaL n)=_;simp only[BT_head,BL_app,BL_str0,List.map_cons,List.map_nil,joinB,List.append_assoc,List.cons_append,List.nil_append]))
theorem BT_lookup:BL str35=BL str11++[32]:=rfl
theorem par_lookup(hs:wordsL s=str11::ws):accP (actW (str11::ws))=accR s (guessM (str11::ws)):=by
 have e1:actW (str11::ws)=res_lookup false (str11::ws) 1:=by
  show actM str11 false (str11::ws) 1=_
  unfold actM
  rw[if_neg (by decide +kernel),if_neg (by decide +kernel),if_neg (by decide +kernel),if_neg (by decide +kernel),if_neg (by decide +kernel),if_neg (by decide +kernel),if_neg (by decide +kernel),if_neg (by decide +kernel),if_neg (by decide +kernel),if_pos rfl]
 have e2:guessM (str11::ws)=((fun n u=>S_api_Act.mk 6 0 0 n zC 1 u zH) (numR (ws.getD 0 ByteArray.empty)) (ws.getD 1 ByteArray.empty)):=by
  unfold guessM
  rw[show (str11::ws).getD 0 ByteArray.empty=str11 from rfl,if_neg (by decide +kernel),if_neg (by decide +kernel),if_neg (by decide +kernel),if_neg (by decide +kernel),if_neg (by decide +kernel),if_neg (by decide +kernel),if_neg (by decide +kernel),if_neg (by decide +kernel),if_neg (by decide +kernel),if_neg (by decide +kernel),if_pos rfl];rfl
 rw[e1,e2]
 exact cls1u (A:=fun n u=>S_api_Act.mk 6 0 0 n zC 1 u zH) hs (show NoB (BL str11) by unfold NoB;decide +kernel) (fun _ _=>(by decide:(6:Int)≠0)) (fun _ _=>by simp[fldB,may0]) (fun n u=>BL_eq (by show BL (((str35++itoaL n)++str0)++u)=_;simp only[BT_lookup,BL_app,BL_str0,List.map_cons,List.map_nil,joinB,List.append_assoc,List.cons_append,List.nil_append]))
theorem BT_leased:BL str36=BL str13++[32]:=rfl
theorem par_leased(hs:wordsL s=str13::ws):accP (actW (str13::ws))=accR s (guessM (str13::ws)):=by
 have e1:actW (str13::ws)=res_leased false (str13::ws) 1:=by
  show actM str13 false (str13::ws) 1=_
  unfold actM
  rw[if_neg (by decide +kernel),if_neg (by decide +kernel),if_neg (by decide +kernel),if_neg (by decide +kernel),if_neg (by decide +kernel),if_neg (by decide +kernel),if_neg (by decide +kernel),if_neg (by decide +kernel),if_neg (by decide +kernel),if_neg (by decide +kernel),if_pos rfl]
 have e2:guessM (str13::ws)=((fun n u=>S_api_Act.mk 6 0 0 n zC 2 u zH) (numR (ws.getD 0 ByteArray.empty)) (ws.getD 1 ByteArray.empty)):=by
  unfold guessM
  rw[show (str13::ws).getD 0 ByteArray.empty=str13 from rfl,if_neg (by decide +kernel),if_neg (by decide +kernel),if_neg (by decide +kernel),if_neg (by decide +kernel),if_neg (by decide +kernel),if_neg (by decide +kernel),if_neg (by decide +kernel),if_neg (by decide +kernel),if_neg (by decide +kernel),if_neg (by decide +kernel),if_neg (by decide +kernel),if_pos rfl];rfl
 rw[e1,e2]
 exact cls1u (A:=fun n u=>S_api_Act.mk 6 0 0 n zC 2 u zH) hs (show NoB (BL str13) by unfold NoB;decide +kernel) (fun _ _=>(by decide:(6:Int)≠0)) (fun _ _=>by simp[fldB,may0]) (fun n u=>BL_eq (by show BL (((str36++itoaL n)++str0)++u)=_;simp only[BT_leased,BL_app,BL_str0,List.map_cons,List.map_nil,joinB,List.append_assoc,List.cons_append,List.nil_append]))
theorem BT_put:BL str32=BL str14++[32]:=rfl
theorem par_put(hs:wordsL s=str14::ws):accP (actW (str14::ws))=accR s (guessM (str14::ws)):=by
 have e1:actW (str14::ws)=res_put false (str14::ws) 1:=by
  show actM str14 false (str14::ws) 1=_
  unfold actM
  rw[if_neg (by decide +kernel),if_neg (by decide +kernel),if_neg (by decide +kernel),if_neg (by decide +kernel),if_neg (by decide +kernel),if_neg (by decide +kernel),if_neg (by decide +kernel),if_neg (by decide +kernel),if_neg (by decide +kernel),if_neg (by decide +kernel),if_neg (by decide +kernel),if_pos rfl]
 have e2:guessM (str14::ws)=((fun n u v=>S_api_Act.mk 5 0 0 n (S_api_Command.mk 1 0 0 u v 0 (List.replicate 32 0)) 0 ByteArray.empty zH) (numR (ws.getD 0 ByteArray.empty)) (ws.getD 1 ByteArray.empty) (ws.getD 2 ByteArray.empty)):=by
  unfold guessM
  rw[show (str14::ws).getD 0 ByteArray.empty=str14 from rfl,if_neg (by decide +kernel),if_neg (by decide +kernel),if_neg (by decide +kernel),if_neg (by decide +kernel),if_neg (by decide +kernel),if_neg (by decide +kernel),if_neg (by decide +kernel),if_pos rfl];rfl
 rw[e1,e2]
 exact cls2u (A:=fun n u v=>S_api_Act.mk 5 0 0 n (S_api_Command.mk 1 0 0 u v 0 (List.replicate 32 0)) 0 ByteArray.empty zH) hs (show NoB (BL str14) by unfold NoB;decide +kernel) (fun _ _ _=>(by decide:(5:Int)≠0)) (fun _ _ _=>by simp[fldB,may0]) (fun n u v=>BL_eq (by show BL (((str32++((itoaL n++str0)++u))++str0)++v)=_;simp only[BT_put,BL_app,BL_str0,List.map_cons,List.map_nil,joinB,List.append_assoc,List.cons_append,List.nil_append]))
theorem BT_rotate:BL str33=BL str15++[32]:=rfl
theorem par_rotate(hs:wordsL s=str15::ws):accP (actW (str15::ws))=accR s (guessM (str15::ws)):=by
 have e1:actW (str15::ws)=res_rotate false (str15::ws) 1:=by
  show actM str15 false (str15::ws) 1=_
  unfold actM
  rw[if_neg (by decide +kernel),if_neg (by decide +kernel),if_neg (by decide +kernel),if_neg (by decide +kernel),if_neg (by decide +kernel),if_neg (by decide +kernel),if_neg (by decide +kernel),if_neg (by decide +kernel),if_neg (by decide +kernel),if_neg (by decide +kernel),if_neg (by decide +kernel),if_neg (by decide +kernel),if_pos rfl]
 have e2:guessM (str15::ws)=((fun n u v=>S_api_Act.mk 5 0 0 n (S_api_Command.mk 2 0 0 u v 0 (List.replicate 32 0)) 0 ByteArray.empty zH) (numR (ws.getD 0 ByteArray.empty)) (ws.getD 1 ByteArray.empty) (ws.getD 2 ByteArray.empty)):=by
  unfold guessM
  rw[show (str15::ws).getD 0 ByteArray.empty=str15 from rfl,if_neg (by decide +kernel),if_neg (by decide +kernel),if_neg (by decide +kernel),if_neg (by decide +kernel),if_neg (by decide +kernel),if_neg (by decide +kernel),if_neg (by decide +kernel),if_neg (by decide +kernel),if_pos rfl];rfl
 rw[e1,e2]
 exact cls2u (A:=fun n u v=>S_api_Act.mk 5 0 0 n (S_api_Command.mk 2 0 0 u v 0 (List.replicate 32 0)) 0 ByteArray.empty zH) hs (show NoB (BL str15) by unfold NoB;decide +kernel) (fun _ _ _=>(by decide:(5:Int)≠0)) (fun _ _ _=>by simp[fldB,may0]) (fun n u v=>BL_eq (by show BL (((str33++((itoaL n++str0)++u))++str0)++v)=_;simp only[BT_rotate,BL_app,BL_str0,List.map_cons,List.map_nil,joinB,List.append_assoc,List.cons_append,List.nil_append]))
theorem BT_revoke:BL str34=BL str16++[32]:=rfl
theorem par_revoke(hs:wordsL s=str16::ws):accP (actW (str16::ws))=accR s (guessM (str16::ws)):=by
 have e1:actW (str16::ws)=res_revoke false (str16::ws) 1:=by
  show actM str16 false (str16::ws) 1=_
  unfold actM
  rw[if_neg (by decide +kernel),if_neg (by decide +kernel),if_neg (by decide +kernel),if_neg (by decide +kernel),if_neg (by decide +kernel),if_neg (by decide +kernel),if_neg (by decide +kernel),if_neg (by decide +kernel),if_neg (by decide +kernel),if_neg (by decide +kernel),if_neg (by decide +kernel),if_neg (by decide +kernel),if_neg (by decide +kernel),if_pos rfl]
 have e2:guessM (str16::ws)=((fun n u=>S_api_Act.mk 5 0 0 n (S_api_Command.mk 3 0 0 u ByteArray.empty 0 (List.replicate 32 0)) 0 ByteArray.empty zH) (numR (ws.getD 0 ByteArray.empty)) (ws.getD 1 ByteArray.empty)):=by
  unfold guessM
  rw[show (str16::ws).getD 0 ByteArray.empty=str16 from rfl,if_neg (by decide +kernel),if_neg (by decide +kernel),if_neg (by decide +kernel),if_neg (by decide +kernel),if_neg (by decide +kernel),if_neg (by decide +kernel),if_neg (by decide +kernel),if_neg (by decide +kernel),if_neg (by decide +kernel),if_pos rfl];rfl
 rw[e1,e2]
 exact cls1u (A:=fun n u=>S_api_Act.mk 5 0 0 n (S_api_Command.mk 3 0 0 u ByteArray.empty 0 (List.replicate 32 0)) 0 ByteArray.empty zH) hs (show NoB (BL str16) by unfold NoB;decide +kernel) (fun _ _=>(by decide:(5:Int)≠0)) (fun _ _=>by simp[fldB,may0]) (fun n u=>BL_eq (by show BL (str34++((itoaL n++str0)++u))=_;simp only[BT_revoke,BL_app,BL_str0,List.map_cons,List.map_nil,joinB,List.append_assoc,List.cons_append,List.nil_append]))
theorem BT_sign:BL str39=BL str17++[32]:=rfl
theorem par_sign(hs:wordsL s=str17::ws):accP (actW (str17::ws))=accR s (guessM (str17::ws)):=by
 have e1:actW (str17::ws)=res_sign false (str17::ws) 1:=by
  show actM str17 false (str17::ws) 1=_
  unfold actM
  rw[if_neg (by decide +kernel),if_neg (by decide +kernel),if_neg (by decide +kernel),if_neg (by decide +kernel),if_neg (by decide +kernel),if_neg (by decide +kernel),if_neg (by decide +kernel),if_neg (by decide +kernel),if_neg (by decide +kernel),if_neg (by decide +kernel),if_neg (by decide +kernel),if_neg (by decide +kernel),if_neg (by decide +kernel),if_neg (by decide +kernel),if_pos rfl]
 have e2:guessM (str17::ws)=((fun n m=>S_api_Act.mk 11 n m 0 zC 0 ByteArray.empty zH) (numR (ws.getD 0 ByteArray.empty)) (numR (ws.getD 1 ByteArray.empty))):=by
  unfold guessM
  rw[show (str17::ws).getD 0 ByteArray.empty=str17 from rfl,if_neg (by decide +kernel),if_neg (by decide +kernel),if_neg (by decide +kernel),if_neg (by decide +kernel),if_neg (by decide +kernel),if_neg (by decide +kernel),if_neg (by decide +kernel),if_neg (by decide +kernel),if_neg (by decide +kernel),if_neg (by decide +kernel),if_neg (by decide +kernel),if_neg (by decide +kernel),if_neg (by decide +kernel),if_neg (by decide +kernel),if_pos rfl];rfl
 rw[e1,e2]
 exact cls2 (A:=fun n m=>S_api_Act.mk 11 n m 0 zC 0 ByteArray.empty zH) hs (show NoB (BL str17) by unfold NoB;decide +kernel) (fun _ _=>(by decide:(11:Int)≠0)) (fun _ _ _=>by simp[fldB,may0]) (fun n m _=>BL_eq (by show BL (((str39++itoaL n)++str0)++itoaL m)=_;simp only[BT_sign,BL_app,BL_str0,List.map_cons,List.map_nil,joinB,List.append_assoc,List.cons_append,List.nil_append]))
theorem BT_learner:BL str42=BL str20++[32]:=rfl
theorem par_learner(hs:wordsL s=str20::ws):accP (actW (str20::ws))=accR s (guessM (str20::ws)):=by
 have e1:actW (str20::ws)=res_learner false (str20::ws) 1:=by
  show actM str20 false (str20::ws) 1=_
  unfold actM
  rw[if_neg (by decide +kernel),if_neg (by decide +kernel),if_neg (by decide +kernel),if_neg (by decide +kernel),if_neg (by decide +kernel),if_neg (by decide +kernel),if_neg (by decide +kernel),if_neg (by decide +kernel),if_neg (by decide +kernel),if_neg (by decide +kernel),if_neg (by decide +kernel),if_neg (by decide +kernel),if_neg (by decide +kernel),if_neg (by decide +kernel),if_neg (by decide +kernel),if_neg (by decide +kernel),if_pos rfl]
 have e2:guessM (str20::ws)=((fun n m=>S_api_Act.mk 8 n 0 0 zC 0 ByteArray.empty (S_api_Change.mk 1 m)) (numR (ws.getD 0 ByteArray.empty)) (numR (ws.getD 1 ByteArray.empty))):=by
  unfold guessM
  rw[show (str20::ws).getD 0 ByteArray.empty=str20 from rfl,if_neg (by decide +kernel),if_neg (by decide +kernel),if_neg (by decide +kernel),if_neg (by decide +kernel),if_neg (by decide +kernel),if_neg (by decide +kernel),if_neg (by decide +kernel),if_neg (by decide +kernel),if_neg (by decide +kernel),if_neg (by decide +kernel),if_neg (by decide +kernel),if_neg (by decide +kernel),if_neg (by decide +kernel),if_neg (by decide +kernel),if_neg (by decide +kernel),if_neg (by decide +kernel),if_pos rfl];rfl
 rw[e1,e2]
 exact cls2 (A:=fun n m=>S_api_Act.mk 8 n 0 0 zC 0 ByteArray.empty (S_api_Change.mk 1 m)) hs (show NoB (BL str20) by unfold NoB;decide +kernel) (fun _ _=>(by decide:(8:Int)≠0)) (fun _ _ _=>by simp[fldB,may0]) (fun n m _=>BL_eq (by show BL (str42++((itoaL n++str0)++itoaL m))=_;simp only[BT_learner,BL_app,BL_str0,List.map_cons,List.map_nil,joinB,List.append_assoc,List.cons_append,List.nil_append]))
theorem BT_voter:BL str43=BL str21++[32]:=rfl
theorem par_voter(hs:wordsL s=str21::ws):accP (actW (str21::ws))=accR s (guessM (str21::ws)):=by
 have e1:actW (str21::ws)=res_voter false (str21::ws) 1:=by
  show actM str21 false (str21::ws) 1=_
  unfold actM
  rw[if_neg (by decide +kernel),if_neg (by decide +kernel),if_neg (by decide +kernel),if_neg (by decide +kernel),if_neg (by decide +kernel),if_neg (by decide +kernel),if_neg (by decide +kernel),if_neg (by decide +kernel),if_neg (by decide +kernel),if_neg (by decide +kernel),if_neg (by decide +kernel),if_neg (by decide +kernel),if_neg (by decide +kernel),if_neg (by decide +kernel),if_neg (by decide +kernel),if_neg (by decide +kernel),if_neg (by decide +kernel),if_pos rfl]
 have e2:guessM (str21::ws)=((fun n m=>S_api_Act.mk 8 n 0 0 zC 0 ByteArray.empty (S_api_Change.mk 2 m)) (numR (ws.getD 0 ByteArray.empty)) (numR (ws.getD 1 ByteArray.empty))):=by
  unfold guessM
  rw[show (str21::ws).getD 0 ByteArray.empty=str21 from rfl,if_neg (by decide +kernel),if_neg (by decide +kernel),if_neg (by decide +kernel),if_neg (by decide +kernel),if_neg (by decide +kernel),if_neg (by decide +kernel),if_neg (by decide +kernel),if_neg (by decide +kernel),if_neg (by decide +kernel),if_neg (by decide +kernel),if_neg (by decide +kernel),if_neg (by decide +kernel),if_neg (by decide +kernel),if_neg (by decide +kernel),if_neg (by decide +kernel),if_neg (by decide +kernel),if_neg (by decide +kernel),if_pos rfl];rfl
 rw[e1,e2]
 exact cls2 (A:=fun n m=>S_api_Act.mk 8 n 0 0 zC 0 ByteArray.empty (S_api_Change.mk 2 m)) hs (show NoB (BL str21) by unfold NoB;decide +kernel) (fun _ _=>(by decide:(8:Int)≠0)) (fun _ _ _=>by simp[fldB,may0]) (fun n m _=>BL_eq (by show BL (str43++((itoaL n++str0)++itoaL m))=_;simp only[BT_voter,BL_app,BL_str0,List.map_cons,List.map_nil,joinB,List.append_assoc,List.cons_append,List.nil_append]))
theorem BT_leave:BL str44=BL str22++[32]:=rfl
theorem par_leave(hs:wordsL s=str22::ws):accP (actW (str22::ws))=accR s (guessM (str22::ws)):=by
 have e1:actW (str22::ws)=res_leave false (str22::ws) 1:=by
  show actM str22 false (str22::ws) 1=_
  unfold actM
  rw[if_neg (by decide +kernel),if_neg (by decide +kernel),if_neg (by decide +kernel),if_neg (by decide +kernel),if_neg (by decide +kernel),if_neg (by decide +kernel),if_neg (by decide +kernel),if_neg (by decide +kernel),if_neg (by decide +kernel),if_neg (by decide +kernel),if_neg (by decide +kernel),if_neg (by decide +kernel),if_neg (by decide +kernel),if_neg (by decide +kernel),if_neg (by decide +kernel),if_neg (by decide +kernel),if_neg (by decide +kernel),if_neg (by decide +kernel),if_pos rfl]
 have e2:guessM (str22::ws)=((fun n m=>S_api_Act.mk 8 n 0 0 zC 0 ByteArray.empty (S_api_Change.mk 3 m)) (numR (ws.getD 0 ByteArray.empty)) (numR (ws.getD 1 ByteArray.empty))):=by
  unfold guessM
  rw[show (str22::ws).getD 0 ByteArray.empty=str22 from rfl,if_neg (by decide +kernel),if_neg (by decide +kernel),if_neg (by decide +kernel),if_neg (by decide +kernel),if_neg (by decide +kernel),if_neg (by decide +kernel),if_neg (by decide +kernel),if_neg (by decide +kernel),if_neg (by decide +kernel),if_neg (by decide +kernel),if_neg (by decide +kernel),if_neg (by decide +kernel),if_neg (by decide +kernel),if_neg (by decide +kernel),if_neg (by decide +kernel),if_neg (by decide +kernel),if_neg (by decide +kernel),if_neg (by decide +kernel),if_pos rfl];rfl
 rw[e1,e2]
 exact cls2 (A:=fun n m=>S_api_Act.mk 8 n 0 0 zC 0 ByteArray.empty (S_api_Change.mk 3 m)) hs (show NoB (BL str22) by unfold NoB;decide +kernel) (fun _ _=>(by decide:(8:Int)≠0)) (fun _ _ _=>by simp[fldB,may0]) (fun n m _=>BL_eq (by show BL (str44++((itoaL n++str0)++itoaL m))=_;simp only[BT_leave,BL_app,BL_str0,List.map_cons,List.map_nil,joinB,List.append_assoc,List.cons_append,List.nil_append]))
end
end Go.V
