import Derived.Test.YtnmecdecebdfiaaDoorVJ09
import Derived.Test.YtnmecdecebdfiaaDoorVP23H
set_option maxHeartbeats 4000000
set_option maxRecDepth 10000
set_option linter.unusedVariables false
namespace Go.V
open Go
def J0(g:((List ByteArray)->Prop)->Prop)(K:Kt PU):Prop:=g (fun z0=>K (.usl 9 z0) [])
def T10(k:Nat):Fn PU:=altT [.str,.str] (F_strings_Split k) J0<|fN
def J1(g:(ByteArray->Bool->(List ByteArray)->Prop)->(ByteArray->Nat->Nat->Bool->(List ByteArray)->Prop)->Prop)(K:Kt PU):Prop:=g (fun z0 z1 z2=>K (.str z0) [.box (.agg [.own 1,.bool z1]),.lst 9 z2]) (fun z0 z1 z2 z3 z4=>K (.str z0) [.box (.agg [.sub 1 9 z1 z2,.bool z3]),.lst 9 z4])
def J2(g:(ByteArray->Nat->Nat->Bool->(List ByteArray)->Prop)->Prop)(K:Kt PU):Prop:=g (fun z0 z1 z2 z3 z4=>K (.str z0) [.box (.agg [.sub 1 9 z1 z2,.bool z3]),.lst 9 z4])
def T12(k:Nat):Fn PU:=altT [.ptr 0 [],.box,.agg 2,.own 1,.bool,.lst 9] (F_desk_line_word k) J1<|altT [.ptr 0 [],.box,.agg 2,.sub 1 9,.bool,.lst 9] (F_desk_line_word_s1 k) J2<|fN
def J3(g:(Int->IV->Prop)->Prop)(K:Kt PU):Prop:=g (fun z0 z1=>K (.tup [.int .i64 z0,.iv z1]) [])
def T31(k:Nat):Fn PU:=altT [.str] (F_strconv_Atoi k) J3<|fN
def J4(g:(ByteArray->Prop)->Prop)(K:Kt PU):Prop:=g (fun z0=>K (.str z0) [])
def T32(k:Nat):Fn PU:=altT [.i] (F_strconv_Itoa k) J4<|fN
def J5(g:(Int->Bool->(List ByteArray)->Prop)->(Int->Nat->Nat->Bool->(List ByteArray)->Prop)->Prop)(K:Kt PU):Prop:=g (fun z0 z1 z2=>K (.int .i64 z0) [.box (.agg [.own 1,.bool z1]),.lst 9 z2]) (fun z0 z1 z2 z3 z4=>K (.int .i64 z0) [.box (.agg [.sub 1 9 z1 z2,.bool z3]),.lst 9 z4])
def J6(g:(Int->Nat->Nat->Bool->(List ByteArray)->Prop)->Prop)(K:Kt PU):Prop:=g (fun z0 z1 z2 z3 z4=>K (.int .i64 z0) [.box (.agg [.sub 1 9 z1 z2,.bool z3]),.lst 9 z4])
def T19(k:Nat):Fn PU:=altT [.ptr 0 [],.box,.agg 2,.own 1,.bool,.lst 9] (F_desk_line_number k) J5<|altT [.ptr 0 [],.box,.agg 2,.sub 1 9,.bool,.lst 9] (F_desk_line_number_s1 k) J6<|fN
def T41(k:Nat):Fn PU:=altT [.str,.str] (F_strings_Trim k) J4<|fN
def J7(g:(Bool->Prop)->Prop)(K:Kt PU):Prop:=g (fun z0=>K (.bool z0) [])
def T33(k:Nat):Fn PU:=altT [.str] (F_desk_simple k) J7<|fN
def T20(k:Nat):Fn PU:=altT [.ptr 0 [],.box,.agg 2,.own 1,.bool,.lst 9] (F_desk_line_plain k) J1<|altT [.ptr 0 [],.box,.agg 2,.sub 1 9,.bool,.lst 9] (F_desk_line_plain_s1 k) J2<|fN
def T21(k:Nat):Fn PU:=altT [.t 9,.t 9] (F_slices_Equal_string_string k) J7<|fN
def J8(g:(Int->Int->Int->Int->Int->Int->Int->ByteArray->ByteArray->Int->(List Int)->Int->ByteArray->Int->Int->Bool->(List ByteArray)->Prop)->(Int->Int->Int->Int->Int->Int->Int->ByteArray->ByteArray->Int->(List Int)->Int->ByteArray->Int->Int->Nat->Nat->Bool->(List ByteArray)->Prop)->(Int->Int->Int->Int->Int->Int->Int->ByteArray->ByteArray->Int->(List Int)->Int->ByteArray->Int->Int->Bool->(List ByteArray)->(List ByteArray)->Prop)->Prop)(K:Kt PU):Prop:=g (fun z0 z1 z2 z3 z4 z5 z6 z7 z8 z9 z10 z11 z12 z13 z14 z15 z16=>K (.agg [.int .i64 z0,.int .i64 z1,.int .i64 z2,.int .i64 z3,.agg [.int .i64 z4,.int .i64 z5,.int .i64 z6,.str z7,.str z8,.int .i64 z9,.arr 5 32 z10],.int .i64 z11,.str z12,.agg [.int .i64 z13,.int .i64 z14]]) [.box (.agg [.own 1,.bool z15]),.lst 9 z16]) (fun z0 z1 z2 z3 z4 z5 z6 z7 z8 z9 z10 z11 z12 z13 z14 z15 z16 z17 z18=>K (.agg [.int .i64 z0,.int .i64 z1,.int .i64 z2,.int .i64 z3,.agg [.int .i64 z4,.int .i64 z5,.int .i64 z6,.str z7,.str z8,.int .i64 z9,.arr 5 32 z10],.int .i64 z11,.str z12,.agg [.int .i64 z13,.int .i64 z14]]) [.box (.agg [.sub 1 9 z15 z16,.bool z17]),.lst 9 z18]) (fun z0 z1 z2 z3 z4 z5 z6 z7 z8 z9 z10 z11 z12 z13 z14 z15 z16 z17=>K (.agg [.int .i64 z0,.int .i64 z1,.int .i64 z2,.int .i64 z3,.agg [.int .i64 z4,.int .i64 z5,.int .i64 z6,.str z7,.str z8,.int .i64 z9,.arr 5 32 z10],.int .i64 z11,.str z12,.agg [.int .i64 z13,.int .i64 z14]]) [.box (.agg [.own 2,.bool z15]),.lst 9 z16,.lst 9 z17])
def J9(g:(Int->Int->Int->Int->Int->Int->Int->ByteArray->ByteArray->Int->(List Int)->Int->ByteArray->Int->Int->Nat->Nat->Bool->(List ByteArray)->Prop)->(Int->Int->Int->Int->Int->Int->Int->ByteArray->ByteArray->Int->(List Int)->Int->ByteArray->Int->Int->Bool->(List ByteArray)->(List ByteArray)->Prop)->Prop)(K:Kt PU):Prop:=g (fun z0 z1 z2 z3 z4 z5 z6 z7 z8 z9 z10 z11 z12 z13 z14 z15 z16 z17 z18=>K (.agg [.int .i64 z0,.int .i64 z1,.int .i64 z2,.int .i64 z3,.agg [.int .i64 z4,.int .i64 z5,.int .i64 z6,.str z7,.str z8,.int .i64 z9,.arr 5 32 z10],.int .i64 z11,.str z12,.agg [.int .i64 z13,.int .i64 z14]]) [.box (.agg [.sub 1 9 z15 z16,.bool z17]),.lst 9 z18]) (fun z0 z1 z2 z3 z4 z5 z6 z7 z8 z9 z10 z11 z12 z13 z14 z15 z16 z17=>K (.agg [.int .i64 z0,.int .i64 z1,.int .i64 z2,.int .i64 z3,.agg [.int .i64 z4,.int .i64 z5,.int .i64 z6,.str z7,.str z8,.int .i64 z9,.arr 5 32 z10],.int .i64 z11,.str z12,.agg [.int .i64 z13,.int .i64 z14]]) [.box (.agg [.own 2,.bool z15]),.lst 9 z16,.lst 9 z17])
def T11(k:Nat):Fn PU:=altT [.ptr 0 [],.str,.box,.agg 2,.own 1,.bool,.lst 9] (F_desk_line_act k) J8<|altT [.ptr 0 [],.str,.box,.agg 2,.sub 1 9,.bool,.lst 9] (F_desk_line_act_s1 k) J9<|fN
def J10(g:(Int->Int->Int->Int->Int->Int->Int->ByteArray->ByteArray->Int->(List Int)->Int->ByteArray->Int->Int->Int->Prop)->Prop)(K:Kt PU):Prop:=g (fun z0 z1 z2 z3 z4 z5 z6 z7 z8 z9 z10 z11 z12 z13 z14 z15=>K (.tup [.agg [.int .i64 z0,.int .i64 z1,.int .i64 z2,.int .i64 z3,.agg [.int .i64 z4,.int .i64 z5,.int .i64 z6,.str z7,.str z8,.int .i64 z9,.arr 5 32 z10],.int .i64 z11,.str z12,.agg [.int .i64 z13,.int .i64 z14]],.int .i64 z15]) [])
def T5(k:Nat):Fn PU:=altT [.str] (F_desk_Parse k) J10<|fN
def T14(k:Nat):Fn PU:=altT [.str] (F_r23_Words k) J0<|fN
def J11(g:(Int->Prop)->Prop)(K:Kt PU):Prop:=g (fun z0=>K (.int .i64 z0) [])
def T22(k:Nat):Fn PU:=altT [.str] (F_r23_number k) J11<|fN
def J12(g:(Int->Int->Int->Int->Int->Int->Int->ByteArray->ByteArray->Int->(List Int)->Int->ByteArray->Int->Int->Prop)->Prop)(K:Kt PU):Prop:=g (fun z0 z1 z2 z3 z4 z5 z6 z7 z8 z9 z10 z11 z12 z13 z14=>K (.agg [.int .i64 z0,.int .i64 z1,.int .i64 z2,.int .i64 z3,.agg [.int .i64 z4,.int .i64 z5,.int .i64 z6,.str z7,.str z8,.int .i64 z9,.arr 5 32 z10],.int .i64 z11,.str z12,.agg [.int .i64 z13,.int .i64 z14]]) [])
def T13(k:Nat):Fn PU:=altT [.t 9] (F_r23_guess k) J12<|fN
def T23(k:Nat):Fn PU:=altT [.i] (F_r23_may k) J7<|fN
def T24(k:Nat):Fn PU:=altT [.str] (F_r23_word k) J7<|fN
def T15(k:Nat):Fn PU:=altT [.agg 8,.i,.i,.i,.i,.agg 7,.i,.i,.i,.str,.str,.i,.arr 5 32,.i,.str,.agg 2,.i,.i] (F_r23_fields k) J7<|fN
def T25(k:Nat):Fn PU:=altT [.i] (F_r23_Number k) J4<|fN
def T26(k:Nat):Fn PU:=altT [.agg 8,.i,.i,.i,.i,.agg 7,.i,.i,.i,.str,.str,.i,.arr 5 32,.i,.str,.agg 2,.i,.i] (F_r23_command k) J4<|fN
def T16(k:Nat):Fn PU:=altT [.agg 8,.i,.i,.i,.i,.agg 7,.i,.i,.i,.str,.str,.i,.arr 5 32,.i,.str,.agg 2,.i,.i] (F_r23_text k) J4<|fN
def T6(k:Nat):Fn PU:=altT [.str] (F_r23_Parse k) J10<|fN
def T27(k:Nat):Fn PU:=altT [.str,.t 20] (F_desk_join k) J4<|fN
def T17(k:Nat):Fn PU:=altT [.agg 8,.i,.i,.i,.i,.agg 7,.i,.i,.i,.str,.str,.i,.arr 5 32,.i,.str,.agg 2,.i,.i] (F_desk_spelt k) J4<|fN
def J13(g:(ByteArray->Int->Prop)->Prop)(K:Kt PU):Prop:=g (fun z0 z1=>K (.tup [.str z0,.int .i64 z1]) [])
def T8(k:Nat):Fn PU:=altT [.agg 8,.i,.i,.i,.i,.agg 7,.i,.i,.i,.str,.str,.i,.arr 5 32,.i,.str,.agg 2,.i,.i] (F_desk_Print k) J13<|fN
def T7(k:Nat):Fn PU:=altT [] (F_l23_reads k) J7<|fN
def T3(k:Nat):Fn PU:=altT [.str] (F_l23_DeskParses k) J7<|fN
def T9(k:Nat):Fn PU:=altT [.agg 8,.i,.i,.i,.i,.agg 7,.i,.i,.i,.str,.str,.i,.arr 5 32,.i,.str,.agg 2,.i,.i] (F_r23_Print k) J13<|fN
def T4(k:Nat):Fn PU:=altT [.agg 8,.i,.i,.i,.i,.agg 7,.i,.i,.i,.str,.str,.i,.arr 5 32,.i,.str,.agg 2,.i,.i] (F_l23_DeskPrints k) J7<|fN
def J14(g:(Int->Bool->(List ByteArray)->Prop)->Prop)(K:Kt PU):Prop:=g (fun z0 z1 z2=>K (.int .i64 z0) [.box (.agg [.own 1,.bool z1]),.lst 9 z2])
def D19_2(k:Nat):Cfn PU:=altC 2 [.ptr 0 [],.str,.box,.agg 2,.own 1,.bool,.lst 9] (C_desk_line_number_2 k) J14<|altC 2 [.ptr 0 [],.str,.box,.agg 2,.sub 1 9,.bool,.lst 9] (C_desk_line_number_2_1 k) J6<|cN
def D19_3(k:Nat):Cfn PU:=altC 2 [.ptr 0 [],.str,.i,.iv,.box,.agg 2,.own 1,.bool,.lst 9] (C_desk_line_number_3 k) J14<|altC 2 [.ptr 0 [],.str,.i,.iv,.box,.agg 2,.sub 1 9,.bool,.lst 9] (C_desk_line_number_3_1 k) J6<|cN
def D19_4(k:Nat):Cfn PU:=altC 2 [.ptr 0 [],.box,.agg 2,.own 1,.bool,.lst 9] (C_desk_line_number_4 k) J14<|altC 2 [.ptr 0 [],.box,.agg 2,.sub 1 9,.bool,.lst 9] (C_desk_line_number_4_1 k) J6<|cN
def D19_5(k:Nat):Cfn PU:=altC 2 [.box,.agg 2,.own 1,.bool,.lst 9] (C_desk_line_number_5 k) J14<|altC 2 [.box,.agg 2,.sub 1 9,.bool,.lst 9] (C_desk_line_number_5_1 k) J6<|cN
def D21_4(k:Nat):Cfn PU:=altC 0 [.t 9,.t 9,.i,.i] (C_slices_Equal_string_string_4 k) J7<|cN
def D11_7(k:Nat):Cfn PU:=altC 2 (.ptr 0 []::.str::.ptr 2 []::.box::.agg 2::.own 1::.bool::.lst 9::.box::.agg 8::.i::.i::.i::.i::.agg 7::.i::.i::.i::.str::.str::.i::.arr 5 32::.i::.str::.agg 2::.i::.i::[]) (C_desk_line_act_7 k) J8<|altC 2 (.ptr 0 []::.str::.ptr 2 []::.box::.agg 2::.sub 1 9::.bool::.lst 9::.box::.agg 8::.i::.i::.i::.i::.agg 7::.i::.i::.i::.str::.str::.i::.arr 5 32::.i::.str::.agg 2::.i::.i::[]) (C_desk_line_act_7_1 k) J9<|cN
def D11_26(k:Nat):Cfn PU:=altC 2 (.ptr 0 []::.str::.ptr 2 []::.box::.agg 2::.own 1::.bool::.lst 9::.box::.agg 8::.i::.i::.i::.i::.agg 7::.i::.i::.i::.str::.str::.i::.arr 5 32::.i::.str::.agg 2::.i::.i::[]) (C_desk_line_act_26 k) J8<|altC 2 (.ptr 0 []::.str::.ptr 2 []::.box::.agg 2::.sub 1 9::.bool::.lst 9::.box::.agg 8::.i::.i::.i::.i::.agg 7::.i::.i::.i::.str::.str::.i::.arr 5 32::.i::.str::.agg 2::.i::.i::[]) (C_desk_line_act_26_1 k) J9<|cN
def D11_27(k:Nat):Cfn PU:=altC 2 (.ptr 0 []::.ptr 2 []::.str::.box::.agg 2::.own 1::.bool::.lst 9::.box::.agg 8::.i::.i::.i::.i::.agg 7::.i::.i::.i::.str::.str::.i::.arr 5 32::.i::.str::.agg 2::.i::.i::[]) (C_desk_line_act_27 k) J8<|altC 2 (.ptr 0 []::.ptr 2 []::.str::.box::.agg 2::.sub 1 9::.bool::.lst 9::.box::.agg 8::.i::.i::.i::.i::.agg 7::.i::.i::.i::.str::.str::.i::.arr 5 32::.i::.str::.agg 2::.i::.i::[]) (C_desk_line_act_27_1 k) J9<|cN
def J15(g:(Int->Int->Int->Int->Int->Int->Int->ByteArray->ByteArray->Int->(List Int)->Int->ByteArray->Int->Int->Bool->(List ByteArray)->Prop)->Prop)(K:Kt PU):Prop:=g (fun z0 z1 z2 z3 z4 z5 z6 z7 z8 z9 z10 z11 z12 z13 z14 z15 z16=>K (.agg [.int .i64 z0,.int .i64 z1,.int .i64 z2,.int .i64 z3,.agg [.int .i64 z4,.int .i64 z5,.int .i64 z6,.str z7,.str z8,.int .i64 z9,.arr 5 32 z10],.int .i64 z11,.str z12,.agg [.int .i64 z13,.int .i64 z14]]) [.box (.agg [.own 1,.bool z15]),.lst 9 z16])
def J16(g:(Int->Int->Int->Int->Int->Int->Int->ByteArray->ByteArray->Int->(List Int)->Int->ByteArray->Int->Int->Nat->Nat->Bool->(List ByteArray)->Prop)->Prop)(K:Kt PU):Prop:=g (fun z0 z1 z2 z3 z4 z5 z6 z7 z8 z9 z10 z11 z12 z13 z14 z15 z16 z17 z18=>K (.agg [.int .i64 z0,.int .i64 z1,.int .i64 z2,.int .i64 z3,.agg [.int .i64 z4,.int .i64 z5,.int .i64 z6,.str z7,.str z8,.int .i64 z9,.arr 5 32 z10],.int .i64 z11,.str z12,.agg [.int .i64 z13,.int .i64 z14]]) [.box (.agg [.sub 1 9 z15 z16,.bool z17]),.lst 9 z18])
def J17(g:(Int->Int->Int->Int->Int->Int->Int->ByteArray->ByteArray->Int->(List Int)->Int->ByteArray->Int->Int->Bool->(List ByteArray)->(List ByteArray)->Prop)->Prop)(K:Kt PU):Prop:=g (fun z0 z1 z2 z3 z4 z5 z6 z7 z8 z9 z10 z11 z12 z13 z14 z15 z16 z17=>K (.agg [.int .i64 z0,.int .i64 z1,.int .i64 z2,.int .i64 z3,.agg [.int .i64 z4,.int .i64 z5,.int .i64 z6,.str z7,.str z8,.int .i64 z9,.arr 5 32 z10],.int .i64 z11,.str z12,.agg [.int .i64 z13,.int .i64 z14]]) [.box (.agg [.own 2,.bool z15]),.lst 9 z16,.lst 9 z17])
def D11_68(k:Nat):Cfn PU:=altC 2 (.ptr 2 []::.box::.agg 2::.own 1::.bool::.lst 9::.box::.agg 8::.i::.i::.i::.i::.agg 7::.i::.i::.i::.str::.str::.i::.arr 5 32::.i::.str::.agg 2::.i::.i::[]) (C_desk_line_act_68 k) J15<|altC 2 (.ptr 2 []::.box::.agg 2::.sub 1 9::.bool::.lst 9::.box::.agg 8::.i::.i::.i::.i::.agg 7::.i::.i::.i::.str::.str::.i::.arr 5 32::.i::.str::.agg 2::.i::.i::[]) (C_desk_line_act_68_1 k) J16<|altC 2 (.ptr 2 []::.box::.agg 2::.own 3::.bool::.lst 9::.box::.agg 8::.i::.i::.i::.i::.agg 7::.i::.i::.i::.str::.str::.i::.arr 5 32::.i::.str::.agg 2::.i::.i::.lst 9::[]) (C_desk_line_act_68_2 k) J17<|cN
def D11_29(k:Nat):Cfn PU:=altC 2 (.ptr 0 []::.ptr 2 []::.str::.box::.agg 2::.own 1::.bool::.lst 9::.box::.agg 8::.i::.i::.i::.i::.agg 7::.i::.i::.i::.str::.str::.i::.arr 5 32::.i::.str::.agg 2::.i::.i::[]) (C_desk_line_act_29 k) J8<|altC 2 (.ptr 0 []::.ptr 2 []::.str::.box::.agg 2::.sub 1 9::.bool::.lst 9::.box::.agg 8::.i::.i::.i::.i::.agg 7::.i::.i::.i::.str::.str::.i::.arr 5 32::.i::.str::.agg 2::.i::.i::[]) (C_desk_line_act_29_1 k) J9<|cN
def D11_31(k:Nat):Cfn PU:=altC 2 (.ptr 0 []::.ptr 2 []::.str::.box::.agg 2::.own 1::.bool::.lst 9::.box::.agg 8::.i::.i::.i::.i::.agg 7::.i::.i::.i::.str::.str::.i::.arr 5 32::.i::.str::.agg 2::.i::.i::[]) (C_desk_line_act_31 k) J8<|altC 2 (.ptr 0 []::.ptr 2 []::.str::.box::.agg 2::.sub 1 9::.bool::.lst 9::.box::.agg 8::.i::.i::.i::.i::.agg 7::.i::.i::.i::.str::.str::.i::.arr 5 32::.i::.str::.agg 2::.i::.i::[]) (C_desk_line_act_31_1 k) J9<|cN
def D11_33(k:Nat):Cfn PU:=altC 2 (.ptr 0 []::.ptr 2 []::.str::.box::.agg 2::.own 1::.bool::.lst 9::.box::.agg 8::.i::.i::.i::.i::.agg 7::.i::.i::.i::.str::.str::.i::.arr 5 32::.i::.str::.agg 2::.i::.i::[]) (C_desk_line_act_33 k) J8<|altC 2 (.ptr 0 []::.ptr 2 []::.str::.box::.agg 2::.sub 1 9::.bool::.lst 9::.box::.agg 8::.i::.i::.i::.i::.agg 7::.i::.i::.i::.str::.str::.i::.arr 5 32::.i::.str::.agg 2::.i::.i::[]) (C_desk_line_act_33_1 k) J9<|cN
def D11_35(k:Nat):Cfn PU:=altC 2 (.ptr 0 []::.ptr 2 []::.str::.box::.agg 2::.own 1::.bool::.lst 9::.box::.agg 8::.i::.i::.i::.i::.agg 7::.i::.i::.i::.str::.str::.i::.arr 5 32::.i::.str::.agg 2::.i::.i::[]) (C_desk_line_act_35 k) J8<|altC 2 (.ptr 0 []::.ptr 2 []::.str::.box::.agg 2::.sub 1 9::.bool::.lst 9::.box::.agg 8::.i::.i::.i::.i::.agg 7::.i::.i::.i::.str::.str::.i::.arr 5 32::.i::.str::.agg 2::.i::.i::[]) (C_desk_line_act_35_1 k) J9<|cN
def D11_37(k:Nat):Cfn PU:=altC 2 (.ptr 0 []::.ptr 2 []::.str::.box::.agg 2::.own 1::.bool::.lst 9::.box::.agg 8::.i::.i::.i::.i::.agg 7::.i::.i::.i::.str::.str::.i::.arr 5 32::.i::.str::.agg 2::.i::.i::[]) (C_desk_line_act_37 k) J8<|altC 2 (.ptr 0 []::.ptr 2 []::.str::.box::.agg 2::.sub 1 9::.bool::.lst 9::.box::.agg 8::.i::.i::.i::.i::.agg 7::.i::.i::.i::.str::.str::.i::.arr 5 32::.i::.str::.agg 2::.i::.i::[]) (C_desk_line_act_37_1 k) J9<|cN
def D11_39(k:Nat):Cfn PU:=altC 2 (.ptr 0 []::.ptr 2 []::.str::.box::.agg 2::.own 1::.bool::.lst 9::.box::.agg 8::.i::.i::.i::.i::.agg 7::.i::.i::.i::.str::.str::.i::.arr 5 32::.i::.str::.agg 2::.i::.i::[]) (C_desk_line_act_39 k) J8<|altC 2 (.ptr 0 []::.ptr 2 []::.str::.box::.agg 2::.sub 1 9::.bool::.lst 9::.box::.agg 8::.i::.i::.i::.i::.agg 7::.i::.i::.i::.str::.str::.i::.arr 5 32::.i::.str::.agg 2::.i::.i::[]) (C_desk_line_act_39_1 k) J9<|cN
def D11_41(k:Nat):Cfn PU:=altC 2 (.ptr 0 []::.ptr 2 []::.str::.box::.agg 2::.own 1::.bool::.lst 9::.box::.agg 8::.i::.i::.i::.i::.agg 7::.i::.i::.i::.str::.str::.i::.arr 5 32::.i::.str::.agg 2::.i::.i::[]) (C_desk_line_act_41 k) J8<|altC 2 (.ptr 0 []::.ptr 2 []::.str::.box::.agg 2::.sub 1 9::.bool::.lst 9::.box::.agg 8::.i::.i::.i::.i::.agg 7::.i::.i::.i::.str::.str::.i::.arr 5 32::.i::.str::.agg 2::.i::.i::[]) (C_desk_line_act_41_1 k) J9<|cN
def D11_43(k:Nat):Cfn PU:=altC 2 (.ptr 0 []::.ptr 2 []::.str::.box::.agg 2::.own 1::.bool::.lst 9::.box::.agg 8::.i::.i::.i::.i::.agg 7::.i::.i::.i::.str::.str::.i::.arr 5 32::.i::.str::.agg 2::.i::.i::[]) (C_desk_line_act_43 k) J8<|altC 2 (.ptr 0 []::.ptr 2 []::.str::.box::.agg 2::.sub 1 9::.bool::.lst 9::.box::.agg 8::.i::.i::.i::.i::.agg 7::.i::.i::.i::.str::.str::.i::.arr 5 32::.i::.str::.agg 2::.i::.i::[]) (C_desk_line_act_43_1 k) J9<|cN
def D11_45(k:Nat):Cfn PU:=altC 2 (.ptr 0 []::.ptr 2 []::.str::.box::.agg 2::.own 1::.bool::.lst 9::.box::.agg 8::.i::.i::.i::.i::.agg 7::.i::.i::.i::.str::.str::.i::.arr 5 32::.i::.str::.agg 2::.i::.i::[]) (C_desk_line_act_45 k) J8<|altC 2 (.ptr 0 []::.ptr 2 []::.str::.box::.agg 2::.sub 1 9::.bool::.lst 9::.box::.agg 8::.i::.i::.i::.i::.agg 7::.i::.i::.i::.str::.str::.i::.arr 5 32::.i::.str::.agg 2::.i::.i::[]) (C_desk_line_act_45_1 k) J9<|cN
def J18(g:(Int->Int->Int->Int->Int->Int->Int->ByteArray->ByteArray->Int->(List Int)->Int->ByteArray->Int->Int->Bool->(List ByteArray)->Prop)->(Int->Int->Int->Int->Int->Int->Int->ByteArray->ByteArray->Int->(List Int)->Int->ByteArray->Int->Int->Nat->Nat->Bool->(List ByteArray)->Prop)->Prop)(K:Kt PU):Prop:=g (fun z0 z1 z2 z3 z4 z5 z6 z7 z8 z9 z10 z11 z12 z13 z14 z15 z16=>K (.agg [.int .i64 z0,.int .i64 z1,.int .i64 z2,.int .i64 z3,.agg [.int .i64 z4,.int .i64 z5,.int .i64 z6,.str z7,.str z8,.int .i64 z9,.arr 5 32 z10],.int .i64 z11,.str z12,.agg [.int .i64 z13,.int .i64 z14]]) [.box (.agg [.own 1,.bool z15]),.lst 9 z16]) (fun z0 z1 z2 z3 z4 z5 z6 z7 z8 z9 z10 z11 z12 z13 z14 z15 z16 z17 z18=>K (.agg [.int .i64 z0,.int .i64 z1,.int .i64 z2,.int .i64 z3,.agg [.int .i64 z4,.int .i64 z5,.int .i64 z6,.str z7,.str z8,.int .i64 z9,.arr 5 32 z10],.int .i64 z11,.str z12,.agg [.int .i64 z13,.int .i64 z14]]) [.box (.agg [.sub 1 9 z15 z16,.bool z17]),.lst 9 z18])
def D11_46(k:Nat):Cfn PU:=altC 2 (.ptr 0 []::.ptr 2 []::.box::.agg 2::.own 1::.bool::.lst 9::.box::.agg 8::.i::.i::.i::.i::.agg 7::.i::.i::.i::.str::.str::.i::.arr 5 32::.i::.str::.agg 2::.i::.i::[]) (C_desk_line_act_46 k) J18<|altC 2 (.ptr 0 []::.ptr 2 []::.box::.agg 2::.sub 1 9::.bool::.lst 9::.box::.agg 8::.i::.i::.i::.i::.agg 7::.i::.i::.i::.str::.str::.i::.arr 5 32::.i::.str::.agg 2::.i::.i::[]) (C_desk_line_act_46_1 k) J16<|cN
def D11_47(k:Nat):Cfn PU:=altC 2 (.ptr 0 []::.ptr 2 []::.str::.box::.agg 2::.own 1::.bool::.lst 9::.box::.agg 8::.i::.i::.i::.i::.agg 7::.i::.i::.i::.str::.str::.i::.arr 5 32::.i::.str::.agg 2::.i::.i::[]) (C_desk_line_act_47 k) J8<|altC 2 (.ptr 0 []::.ptr 2 []::.str::.box::.agg 2::.sub 1 9::.bool::.lst 9::.box::.agg 8::.i::.i::.i::.i::.agg 7::.i::.i::.i::.str::.str::.i::.arr 5 32::.i::.str::.agg 2::.i::.i::[]) (C_desk_line_act_47_1 k) J9<|cN
def D11_48(k:Nat):Cfn PU:=altC 2 (.ptr 0 []::.ptr 2 []::.box::.agg 2::.own 1::.bool::.lst 9::.box::.agg 8::.i::.i::.i::.i::.agg 7::.i::.i::.i::.str::.str::.i::.arr 5 32::.i::.str::.agg 2::.i::.i::[]) (C_desk_line_act_48 k) J18<|altC 2 (.ptr 0 []::.ptr 2 []::.box::.agg 2::.sub 1 9::.bool::.lst 9::.box::.agg 8::.i::.i::.i::.i::.agg 7::.i::.i::.i::.str::.str::.i::.arr 5 32::.i::.str::.agg 2::.i::.i::[]) (C_desk_line_act_48_1 k) J16<|cN
def D11_49(k:Nat):Cfn PU:=altC 2 (.ptr 0 []::.ptr 2 []::.str::.box::.agg 2::.own 1::.bool::.lst 9::.box::.agg 8::.i::.i::.i::.i::.agg 7::.i::.i::.i::.str::.str::.i::.arr 5 32::.i::.str::.agg 2::.i::.i::[]) (C_desk_line_act_49 k) J8<|altC 2 (.ptr 0 []::.ptr 2 []::.str::.box::.agg 2::.sub 1 9::.bool::.lst 9::.box::.agg 8::.i::.i::.i::.i::.agg 7::.i::.i::.i::.str::.str::.i::.arr 5 32::.i::.str::.agg 2::.i::.i::[]) (C_desk_line_act_49_1 k) J9<|cN
def D11_50(k:Nat):Cfn PU:=altC 2 (.ptr 0 []::.ptr 2 []::.box::.agg 2::.own 1::.bool::.lst 9::.box::.agg 8::.i::.i::.i::.i::.agg 7::.i::.i::.i::.str::.str::.i::.arr 5 32::.i::.str::.agg 2::.i::.i::[]) (C_desk_line_act_50 k) J18<|altC 2 (.ptr 0 []::.ptr 2 []::.box::.agg 2::.sub 1 9::.bool::.lst 9::.box::.agg 8::.i::.i::.i::.i::.agg 7::.i::.i::.i::.str::.str::.i::.arr 5 32::.i::.str::.agg 2::.i::.i::[]) (C_desk_line_act_50_1 k) J16<|cN
def D11_51(k:Nat):Cfn PU:=altC 2 (.ptr 0 []::.ptr 2 []::.str::.box::.agg 2::.own 1::.bool::.lst 9::.box::.agg 8::.i::.i::.i::.i::.agg 7::.i::.i::.i::.str::.str::.i::.arr 5 32::.i::.str::.agg 2::.i::.i::[]) (C_desk_line_act_51 k) J8<|altC 2 (.ptr 0 []::.ptr 2 []::.str::.box::.agg 2::.sub 1 9::.bool::.lst 9::.box::.agg 8::.i::.i::.i::.i::.agg 7::.i::.i::.i::.str::.str::.i::.arr 5 32::.i::.str::.agg 2::.i::.i::[]) (C_desk_line_act_51_1 k) J9<|cN
def D11_52(k:Nat):Cfn PU:=altC 2 (.ptr 0 []::.ptr 2 []::.box::.agg 2::.own 1::.bool::.lst 9::.box::.agg 8::.i::.i::.i::.i::.agg 7::.i::.i::.i::.str::.str::.i::.arr 5 32::.i::.str::.agg 2::.i::.i::[]) (C_desk_line_act_52 k) J18<|altC 2 (.ptr 0 []::.ptr 2 []::.box::.agg 2::.sub 1 9::.bool::.lst 9::.box::.agg 8::.i::.i::.i::.i::.agg 7::.i::.i::.i::.str::.str::.i::.arr 5 32::.i::.str::.agg 2::.i::.i::[]) (C_desk_line_act_52_1 k) J16<|cN
def D11_53(k:Nat):Cfn PU:=altC 2 (.ptr 0 []::.ptr 2 []::.str::.box::.agg 2::.own 1::.bool::.lst 9::.box::.agg 8::.i::.i::.i::.i::.agg 7::.i::.i::.i::.str::.str::.i::.arr 5 32::.i::.str::.agg 2::.i::.i::[]) (C_desk_line_act_53 k) J8<|altC 2 (.ptr 0 []::.ptr 2 []::.str::.box::.agg 2::.sub 1 9::.bool::.lst 9::.box::.agg 8::.i::.i::.i::.i::.agg 7::.i::.i::.i::.str::.str::.i::.arr 5 32::.i::.str::.agg 2::.i::.i::[]) (C_desk_line_act_53_1 k) J9<|cN
def D11_54(k:Nat):Cfn PU:=altC 2 (.ptr 0 []::.ptr 2 []::.box::.agg 2::.own 1::.bool::.lst 9::.box::.agg 8::.i::.i::.i::.i::.agg 7::.i::.i::.i::.str::.str::.i::.arr 5 32::.i::.str::.agg 2::.i::.i::[]) (C_desk_line_act_54 k) J18<|altC 2 (.ptr 0 []::.ptr 2 []::.box::.agg 2::.sub 1 9::.bool::.lst 9::.box::.agg 8::.i::.i::.i::.i::.agg 7::.i::.i::.i::.str::.str::.i::.arr 5 32::.i::.str::.agg 2::.i::.i::[]) (C_desk_line_act_54_1 k) J16<|cN
def D11_55(k:Nat):Cfn PU:=altC 2 (.ptr 0 []::.ptr 2 []::.str::.box::.agg 2::.own 1::.bool::.lst 9::.box::.agg 8::.i::.i::.i::.i::.agg 7::.i::.i::.i::.str::.str::.i::.arr 5 32::.i::.str::.agg 2::.i::.i::[]) (C_desk_line_act_55 k) J8<|altC 2 (.ptr 0 []::.ptr 2 []::.str::.box::.agg 2::.sub 1 9::.bool::.lst 9::.box::.agg 8::.i::.i::.i::.i::.agg 7::.i::.i::.i::.str::.str::.i::.arr 5 32::.i::.str::.agg 2::.i::.i::[]) (C_desk_line_act_55_1 k) J9<|cN
def D11_56(k:Nat):Cfn PU:=altC 2 (.ptr 0 []::.ptr 2 []::.box::.agg 2::.own 1::.bool::.lst 9::.box::.agg 8::.i::.i::.i::.i::.agg 7::.i::.i::.i::.str::.str::.i::.arr 5 32::.i::.str::.agg 2::.i::.i::[]) (C_desk_line_act_56 k) J18<|altC 2 (.ptr 0 []::.ptr 2 []::.box::.agg 2::.sub 1 9::.bool::.lst 9::.box::.agg 8::.i::.i::.i::.i::.agg 7::.i::.i::.i::.str::.str::.i::.arr 5 32::.i::.str::.agg 2::.i::.i::[]) (C_desk_line_act_56_1 k) J16<|cN
def D11_57(k:Nat):Cfn PU:=altC 2 (.ptr 0 []::.ptr 2 []::.str::.box::.agg 2::.own 1::.bool::.lst 9::.box::.agg 8::.i::.i::.i::.i::.agg 7::.i::.i::.i::.str::.str::.i::.arr 5 32::.i::.str::.agg 2::.i::.i::[]) (C_desk_line_act_57 k) J8<|altC 2 (.ptr 0 []::.ptr 2 []::.str::.box::.agg 2::.sub 1 9::.bool::.lst 9::.box::.agg 8::.i::.i::.i::.i::.agg 7::.i::.i::.i::.str::.str::.i::.arr 5 32::.i::.str::.agg 2::.i::.i::[]) (C_desk_line_act_57_1 k) J9<|cN
def D11_59(k:Nat):Cfn PU:=altC 2 (.ptr 0 []::.ptr 2 []::.box::.agg 2::.own 1::.bool::.lst 9::.box::.agg 8::.i::.i::.i::.i::.agg 7::.i::.i::.i::.str::.str::.i::.arr 5 32::.i::.str::.agg 2::.i::.i::[]) (C_desk_line_act_59 k) J8<|altC 2 (.ptr 0 []::.ptr 2 []::.box::.agg 2::.sub 1 9::.bool::.lst 9::.box::.agg 8::.i::.i::.i::.i::.agg 7::.i::.i::.i::.str::.str::.i::.arr 5 32::.i::.str::.agg 2::.i::.i::[]) (C_desk_line_act_59_1 k) J9<|cN
def D11_61(k:Nat):Cfn PU:=altC 2 (.ptr 0 []::.ptr 2 []::.box::.agg 2::.own 1::.bool::.lst 9::.box::.agg 8::.i::.i::.i::.i::.agg 7::.i::.i::.i::.str::.str::.i::.arr 5 32::.i::.str::.agg 2::.i::.i::[]) (C_desk_line_act_61 k) J18<|altC 2 (.ptr 0 []::.ptr 2 []::.box::.agg 2::.sub 1 9::.bool::.lst 9::.box::.agg 8::.i::.i::.i::.i::.agg 7::.i::.i::.i::.str::.str::.i::.arr 5 32::.i::.str::.agg 2::.i::.i::[]) (C_desk_line_act_61_1 k) J16<|cN
def D11_62(k:Nat):Cfn PU:=altC 2 (.ptr 0 []::.ptr 2 []::.str::.box::.agg 2::.own 1::.bool::.lst 9::.box::.agg 8::.i::.i::.i::.i::.agg 7::.i::.i::.i::.str::.str::.i::.arr 5 32::.i::.str::.agg 2::.i::.i::[]) (C_desk_line_act_62 k) J18<|altC 2 (.ptr 0 []::.ptr 2 []::.str::.box::.agg 2::.sub 1 9::.bool::.lst 9::.box::.agg 8::.i::.i::.i::.i::.agg 7::.i::.i::.i::.str::.str::.i::.arr 5 32::.i::.str::.agg 2::.i::.i::[]) (C_desk_line_act_62_1 k) J16<|cN
def D11_63(k:Nat):Cfn PU:=altC 2 (.ptr 0 []::.ptr 2 []::.box::.agg 2::.own 1::.bool::.lst 9::.box::.agg 8::.i::.i::.i::.i::.agg 7::.i::.i::.i::.str::.str::.i::.arr 5 32::.i::.str::.agg 2::.i::.i::[]) (C_desk_line_act_63 k) J18<|altC 2 (.ptr 0 []::.ptr 2 []::.box::.agg 2::.sub 1 9::.bool::.lst 9::.box::.agg 8::.i::.i::.i::.i::.agg 7::.i::.i::.i::.str::.str::.i::.arr 5 32::.i::.str::.agg 2::.i::.i::[]) (C_desk_line_act_63_1 k) J16<|cN
def D11_64(k:Nat):Cfn PU:=altC 2 (.ptr 0 []::.ptr 2 []::.str::.box::.agg 2::.own 1::.bool::.lst 9::.box::.agg 8::.i::.i::.i::.i::.agg 7::.i::.i::.i::.str::.str::.i::.arr 5 32::.i::.str::.agg 2::.i::.i::[]) (C_desk_line_act_64 k) J18<|altC 2 (.ptr 0 []::.ptr 2 []::.str::.box::.agg 2::.sub 1 9::.bool::.lst 9::.box::.agg 8::.i::.i::.i::.i::.agg 7::.i::.i::.i::.str::.str::.i::.arr 5 32::.i::.str::.agg 2::.i::.i::[]) (C_desk_line_act_64_1 k) J16<|cN
def D11_65(k:Nat):Cfn PU:=altC 2 (.ptr 0 []::.ptr 2 []::.box::.agg 2::.own 1::.bool::.lst 9::.box::.agg 8::.i::.i::.i::.i::.agg 7::.i::.i::.i::.str::.str::.i::.arr 5 32::.i::.str::.agg 2::.i::.i::[]) (C_desk_line_act_65 k) J18<|altC 2 (.ptr 0 []::.ptr 2 []::.box::.agg 2::.sub 1 9::.bool::.lst 9::.box::.agg 8::.i::.i::.i::.i::.agg 7::.i::.i::.i::.str::.str::.i::.arr 5 32::.i::.str::.agg 2::.i::.i::[]) (C_desk_line_act_65_1 k) J16<|cN
def D11_66(k:Nat):Cfn PU:=altC 2 (.ptr 0 []::.ptr 2 []::.str::.box::.agg 2::.own 1::.bool::.lst 9::.box::.agg 8::.i::.i::.i::.i::.agg 7::.i::.i::.i::.str::.str::.i::.arr 5 32::.i::.str::.agg 2::.i::.i::[]) (C_desk_line_act_66 k) J18<|altC 2 (.ptr 0 []::.ptr 2 []::.str::.box::.agg 2::.sub 1 9::.bool::.lst 9::.box::.agg 8::.i::.i::.i::.i::.agg 7::.i::.i::.i::.str::.str::.i::.arr 5 32::.i::.str::.agg 2::.i::.i::[]) (C_desk_line_act_66_1 k) J16<|cN
def D11_67(k:Nat):Cfn PU:=altC 2 (.ptr 0 []::.ptr 2 []::.box::.agg 2::.own 1::.bool::.lst 9::.box::.agg 8::.i::.i::.i::.i::.agg 7::.i::.i::.i::.str::.str::.i::.arr 5 32::.i::.str::.agg 2::.i::.i::[]) (C_desk_line_act_67 k) J18<|altC 2 (.ptr 0 []::.ptr 2 []::.box::.agg 2::.sub 1 9::.bool::.lst 9::.box::.agg 8::.i::.i::.i::.i::.agg 7::.i::.i::.i::.str::.str::.i::.arr 5 32::.i::.str::.agg 2::.i::.i::[]) (C_desk_line_act_67_1 k) J16<|cN
def D11_8(k:Nat):Cfn PU:=altC 2 (.ptr 0 []::.str::.ptr 2 []::.str::.box::.agg 2::.own 1::.bool::.lst 9::.box::.agg 8::.i::.i::.i::.i::.agg 7::.i::.i::.i::.str::.str::.i::.arr 5 32::.i::.str::.agg 2::.i::.i::[]) (C_desk_line_act_8 k) J8<|altC 2 (.ptr 0 []::.str::.ptr 2 []::.str::.box::.agg 2::.sub 1 9::.bool::.lst 9::.box::.agg 8::.i::.i::.i::.i::.agg 7::.i::.i::.i::.str::.str::.i::.arr 5 32::.i::.str::.agg 2::.i::.i::[]) (C_desk_line_act_8_1 k) J9<|cN
def D11_11(k:Nat):Cfn PU:=altC 2 (.ptr 0 []::.str::.ptr 2 []::.box::.agg 2::.own 1::.bool::.lst 9::.box::.agg 8::.i::.i::.i::.i::.agg 7::.i::.i::.i::.str::.str::.i::.arr 5 32::.i::.str::.agg 2::.i::.i::[]) (C_desk_line_act_11 k) J8<|altC 2 (.ptr 0 []::.str::.ptr 2 []::.box::.agg 2::.sub 1 9::.bool::.lst 9::.box::.agg 8::.i::.i::.i::.i::.agg 7::.i::.i::.i::.str::.str::.i::.arr 5 32::.i::.str::.agg 2::.i::.i::[]) (C_desk_line_act_11_1 k) J9<|cN
def D11_12(k:Nat):Cfn PU:=altC 2 (.ptr 0 []::.str::.ptr 2 []::.str::.box::.agg 2::.own 1::.bool::.lst 9::.box::.agg 8::.i::.i::.i::.i::.agg 7::.i::.i::.i::.str::.str::.i::.arr 5 32::.i::.str::.agg 2::.i::.i::[]) (C_desk_line_act_12 k) J8<|altC 2 (.ptr 0 []::.str::.ptr 2 []::.str::.box::.agg 2::.sub 1 9::.bool::.lst 9::.box::.agg 8::.i::.i::.i::.i::.agg 7::.i::.i::.i::.str::.str::.i::.arr 5 32::.i::.str::.agg 2::.i::.i::[]) (C_desk_line_act_12_1 k) J9<|cN
def D11_19(k:Nat):Cfn PU:=altC 2 (.ptr 0 []::.str::.ptr 2 []::.box::.agg 2::.own 1::.bool::.lst 9::.box::.agg 8::.i::.i::.i::.i::.agg 7::.i::.i::.i::.str::.str::.i::.arr 5 32::.i::.str::.agg 2::.i::.i::[]) (C_desk_line_act_19 k) J8<|altC 2 (.ptr 0 []::.str::.ptr 2 []::.box::.agg 2::.sub 1 9::.bool::.lst 9::.box::.agg 8::.i::.i::.i::.i::.agg 7::.i::.i::.i::.str::.str::.i::.arr 5 32::.i::.str::.agg 2::.i::.i::[]) (C_desk_line_act_19_1 k) J9<|cN
def D11_20(k:Nat):Cfn PU:=altC 2 (.ptr 0 []::.str::.ptr 2 []::.str::.box::.agg 2::.own 1::.bool::.lst 9::.box::.agg 8::.i::.i::.i::.i::.agg 7::.i::.i::.i::.str::.str::.i::.arr 5 32::.i::.str::.agg 2::.i::.i::[]) (C_desk_line_act_20 k) J8<|altC 2 (.ptr 0 []::.str::.ptr 2 []::.str::.box::.agg 2::.sub 1 9::.bool::.lst 9::.box::.agg 8::.i::.i::.i::.i::.agg 7::.i::.i::.i::.str::.str::.i::.arr 5 32::.i::.str::.agg 2::.i::.i::[]) (C_desk_line_act_20_1 k) J9<|cN
def D11_25(k:Nat):Cfn PU:=altC 2 (.ptr 0 []::.str::.ptr 2 []::.box::.agg 2::.own 1::.bool::.lst 9::.box::.agg 8::.i::.i::.i::.i::.agg 7::.i::.i::.i::.str::.str::.i::.arr 5 32::.i::.str::.agg 2::.i::.i::[]) (C_desk_line_act_25 k) J8<|altC 2 (.ptr 0 []::.str::.ptr 2 []::.box::.agg 2::.sub 1 9::.bool::.lst 9::.box::.agg 8::.i::.i::.i::.i::.agg 7::.i::.i::.i::.str::.str::.i::.arr 5 32::.i::.str::.agg 2::.i::.i::[]) (C_desk_line_act_25_1 k) J9<|cN
def D11_2(k:Nat):Cfn PU:=altC 2 (.ptr 0 []::.str::.ptr 2 []::.box::.agg 2::.own 1::.bool::.lst 9::.box::.agg 8::.i::.i::.i::.i::.agg 7::.i::.i::.i::.str::.str::.i::.arr 5 32::.i::.str::.agg 2::.i::.i::[]) (C_desk_line_act_2 k) J8<|altC 2 (.ptr 0 []::.str::.ptr 2 []::.box::.agg 2::.sub 1 9::.bool::.lst 9::.box::.agg 8::.i::.i::.i::.i::.agg 7::.i::.i::.i::.str::.str::.i::.arr 5 32::.i::.str::.agg 2::.i::.i::[]) (C_desk_line_act_2_1 k) J9<|cN
def D5_5(k:Nat):Cfn PU:=altC 0 (.ptr 0 []::.ptr 1 []::.ptr 2 []::.box::.agg 8::.i::.i::.i::.i::.agg 7::.i::.i::.i::.str::.str::.i::.arr 5 32::.i::.str::.agg 2::.i::.i::.box::.agg 2::.own 3::.bool::.box::.agg 8::.i::.i::.i::.i::.agg 7::.i::.i::.i::.str::.str::.i::.arr 5 32::.i::.str::.agg 2::.i::.i::.lst 9::[]) (C_desk_Parse_5 k) J10<|altC 0 (.ptr 0 []::.ptr 1 []::.ptr 2 []::.box::.agg 8::.i::.i::.i::.i::.agg 7::.i::.i::.i::.str::.str::.i::.arr 5 32::.i::.str::.agg 2::.i::.i::.box::.agg 2::.sub 3 9::.bool::.box::.agg 8::.i::.i::.i::.i::.agg 7::.i::.i::.i::.str::.str::.i::.arr 5 32::.i::.str::.agg 2::.i::.i::.lst 9::[]) (C_desk_Parse_5_1 k) J10<|cN
def D5_6(k:Nat):Cfn PU:=altC 0 [.ptr 0 [],.box,.agg 8,.i,.i,.i,.i,.agg 7,.i,.i,.i,.str,.str,.i,.arr 5 32,.i,.str,.agg 2,.i,.i] (C_desk_Parse_6 k) J10<|cN
def D14_4(k:Nat):Cfn PU:=altC 0 [.str,.own 0,.i,.i,.lst 9] (C_r23_Words_4 k) J0<|cN
def D14_7(k:Nat):Cfn PU:=altC 0 [.str,.own 0,.i,.i,.lst 9] (C_r23_Words_7 k) J0<|cN
def D14_5(k:Nat):Cfn PU:=altC 0 [.str,.own 0,.i,.i,.lst 9] (C_r23_Words_5 k) J0<|cN
def D22_3(k:Nat):Cfn PU:=altC 0 [.str,.i,.i] (C_r23_number_3 k) J11<|cN
def D22_4(k:Nat):Cfn PU:=altC 0 [.str,.i,.i] (C_r23_number_4 k) J11<|cN
def D13_3(k:Nat):Cfn PU:=altC 0 (.t 9::.ptr 0 []::.ptr 1 []::.i::.box::.agg 8::.i::.i::.i::.i::.agg 7::.i::.i::.i::.str::.str::.i::.arr 5 32::.i::.str::.agg 2::.i::.i::.box::.arr 9 4::[]) (C_r23_guess_3 k) J12<|cN
def D13_6(k:Nat):Cfn PU:=altC 0 [.ptr 0 [],.ptr 1 [],.box,.agg 8,.i,.i,.i,.i,.agg 7,.i,.i,.i,.str,.str,.i,.arr 5 32,.i,.str,.agg 2,.i,.i,.box,.arr 9 4] (C_r23_guess_6 k) J12<|cN
def D24_2(k:Nat):Cfn PU:=altC 0 [.str,.i] (C_r23_word_2 k) J7<|cN
def D15_3(k:Nat):Cfn PU:=altC 0 [.ptr 0 [],.box,.agg 8,.i,.i,.i,.i,.agg 7,.i,.i,.i,.str,.str,.i,.arr 5 32,.i,.str,.agg 2,.i,.i] (C_r23_fields_3 k) J7<|cN
def D15_4(k:Nat):Cfn PU:=altC 0 [.ptr 0 [],.bool,.box,.agg 8,.i,.i,.i,.i,.agg 7,.i,.i,.i,.str,.str,.i,.arr 5 32,.i,.str,.agg 2,.i,.i] (C_r23_fields_4 k) J7<|cN
def D15_6(k:Nat):Cfn PU:=altC 0 [.ptr 0 [],.box,.agg 8,.i,.i,.i,.i,.agg 7,.i,.i,.i,.str,.str,.i,.arr 5 32,.i,.str,.agg 2,.i,.i] (C_r23_fields_6 k) J7<|cN
def D25_3(k:Nat):Cfn PU:=altC 0 [.i] (C_r23_Number_3 k) J4<|cN
def D25_9(k:Nat):Cfn PU:=altC 0 [.i,.i] (C_r23_Number_9 k) J4<|cN
def D6_5(k:Nat):Cfn PU:=altC 0 [.ptr 0 [],.box,.agg 8,.i,.i,.i,.i,.agg 7,.i,.i,.i,.str,.str,.i,.arr 5 32,.i,.str,.agg 2,.i,.i] (C_r23_Parse_5 k) J10<|cN
def D27_2(k:Nat):Cfn PU:=altC 0 [.str,.t 20,.i,.i] (C_desk_join_2 k) J4<|cN
def D27_11(k:Nat):Cfn PU:=altC 0 [.str,.t 20,.i,.i] (C_desk_join_11 k) J4<|cN
def TLs:TL PU:=[(10,T10),(12,T12),(31,T31),(32,T32),(19,T19),(41,T41),(33,T33),(20,T20),(21,T21),(11,T11),(5,T5),(14,T14),(22,T22),(13,T13),(23,T23),(24,T24),(15,T15),(25,T25),(26,T26),(16,T16),(6,T6),(27,T27),(17,T17),(8,T8),(7,T7),(3,T3),(9,T9),(4,T4)]
def CLs:CL PU:=[(19,2,D19_2),(19,3,D19_3),(19,4,D19_4),(19,5,D19_5),(21,4,D21_4),(11,7,D11_7),(11,26,D11_26),(11,27,D11_27),(11,68,D11_68),(11,29,D11_29),(11,31,D11_31),(11,33,D11_33),(11,35,D11_35),(11,37,D11_37),(11,39,D11_39),(11,41,D11_41),(11,43,D11_43),(11,45,D11_45),(11,46,D11_46),(11,47,D11_47),(11,48,D11_48),(11,49,D11_49),(11,50,D11_50),(11,51,D11_51),(11,52,D11_52),(11,53,D11_53),(11,54,D11_54),(11,55,D11_55),(11,56,D11_56),(11,57,D11_57),(11,59,D11_59),(11,61,D11_61),(11,62,D11_62),(11,63,D11_63),(11,64,D11_64),(11,65,D11_65),(11,66,D11_66),(11,67,D11_67),(11,8,D11_8),(11,11,D11_11),(11,12,D11_12),(11,19,D11_19),(11,20,D11_20),(11,25,D11_25),(11,2,D11_2),(5,5,D5_5),(5,6,D5_6),(14,4,D14_4),(14,7,D14_7),(14,5,D14_5),(22,3,D22_3),(22,4,D22_4),(13,3,D13_3),(13,6,D13_6),(24,2,D24_2),(15,3,D15_3),(15,4,D15_4),(15,6,D15_6),(25,3,D25_3),(25,9,D25_9),(6,5,D6_5),(27,2,D27_2),(27,11,D27_11)]
def PT(k:Nat):Tab PU:=tabT TLs k
def PC(k:Nat):Cut PU:=tabC CLs k
abbrev GT(f:Nat)(F:Nat->Fn PU):Prop:=TG PE TLs CLs f F
abbrev GC(f id:Nat)(F:Nat->Cfn PU):Prop:=CO PE TLs CLs f id F
theorem q12:fnOk PE.P 12=true:=by kernel_rfl
theorem q19:fnOk PE.P 19=true:=by kernel_rfl
theorem q33:fnOk PE.P 33=true:=by kernel_rfl
theorem q20:fnOk PE.P 20=true:=by kernel_rfl
theorem q21:fnOk PE.P 21=true:=by kernel_rfl
theorem q11:fnOk PE.P 11=true:=by kernel_rfl
theorem q5:fnOk PE.P 5=true:=by kernel_rfl
theorem q14:fnOk PE.P 14=true:=by kernel_rfl
theorem q22:fnOk PE.P 22=true:=by kernel_rfl
theorem q13:fnOk PE.P 13=true:=by kernel_rfl
theorem q23:fnOk PE.P 23=true:=by kernel_rfl
theorem q24:fnOk PE.P 24=true:=by kernel_rfl
theorem q15:fnOk PE.P 15=true:=by kernel_rfl
theorem q25:fnOk PE.P 25=true:=by kernel_rfl
theorem q26:fnOk PE.P 26=true:=by kernel_rfl
theorem q16:fnOk PE.P 16=true:=by kernel_rfl
theorem q6:fnOk PE.P 6=true:=by kernel_rfl
theorem q27:fnOk PE.P 27=true:=by kernel_rfl
theorem q17:fnOk PE.P 17=true:=by kernel_rfl
theorem q8:fnOk PE.P 8=true:=by kernel_rfl
theorem q7:fnOk PE.P 7=true:=by kernel_rfl
theorem q3:fnOk PE.P 3=true:=by kernel_rfl
theorem q9:fnOk PE.P 9=true:=by kernel_rfl
theorem q4:fnOk PE.P 4=true:=by kernel_rfl
theorem T10g:GT 10 T10:=.h (fun _ _ _ h=>.row fun _=>hand10 _ _ _ (Hold.mp (by kernel_rfl) h).out)<|.n
theorem T12g:GT 12 T12:=.a q12<|.a q12<|.n
theorem T31g:GT 31 T31:=.h (fun _ _ _ h=>.row fun _=>hand31 _ _ (Hold.mp (by kernel_rfl) h).out)<|.n
theorem T32g:GT 32 T32:=.h (fun _ _ _ h=>.row fun _=>hand32 _ _ (Hold.mp (by kernel_rfl) h).out)<|.n
theorem T19g:GT 19 T19:=.a q19<|.a q19<|.n
theorem T41g:GT 41 T41:=.h (fun _ _ _ h=>.row fun _=>hand41 _ _ _ (Hold.mp (by kernel_rfl) h).out)<|.n
theorem T33g:GT 33 T33:=.a q33<|.n
theorem T20g:GT 20 T20:=.a q20<|.a q20<|.n
theorem T21g:GT 21 T21:=.a q21<|.n
theorem T11g:GT 11 T11:=.a q11<|.a q11<|.n
theorem T5g:GT 5 T5:=.a q5<|.n
theorem T14g:GT 14 T14:=.a q14<|.n
theorem T22g:GT 22 T22:=.a q22<|.n
theorem T13g:GT 13 T13:=.a q13<|.n
theorem T23g:GT 23 T23:=.a q23<|.n
theorem T24g:GT 24 T24:=.a q24<|.n
theorem T15g:GT 15 T15:=.a q15<|.n
theorem T25g:GT 25 T25:=.a q25<|.n
theorem T26g:GT 26 T26:=.a q26<|.n
theorem T16g:GT 16 T16:=.a q16<|.n
theorem T6g:GT 6 T6:=.a q6<|.n
theorem T27g:GT 27 T27:=.a q27<|.n
theorem T17g:GT 17 T17:=.a q17<|.n
theorem T8g:GT 8 T8:=.a q8<|.n
theorem T7g:GT 7 T7:=.a q7<|.n
theorem T3g:GT 3 T3:=.a q3<|.n
theorem T9g:GT 9 T9:=.a q9<|.n
theorem T4g:GT 4 T4:=.a q4<|.n
theorem D19_2g:GC 19 2 D19_2:=.c<|.c<|.n
theorem D19_3g:GC 19 3 D19_3:=.c<|.c<|.n
theorem D19_4g:GC 19 4 D19_4:=.c<|.c<|.n
theorem D19_5g:GC 19 5 D19_5:=.c<|.c<|.n
theorem D21_4g:GC 21 4 D21_4:=.c<|.n
theorem D11_7g:GC 11 7 D11_7:=.c<|.c<|.n
theorem D11_26g:GC 11 26 D11_26:=.c<|.c<|.n
theorem D11_27g:GC 11 27 D11_27:=.c<|.c<|.n
theorem D11_68g:GC 11 68 D11_68:=.c<|.c<|.c<|.n
theorem D11_29g:GC 11 29 D11_29:=.c<|.c<|.n
theorem D11_31g:GC 11 31 D11_31:=.c<|.c<|.n
theorem D11_33g:GC 11 33 D11_33:=.c<|.c<|.n
theorem D11_35g:GC 11 35 D11_35:=.c<|.c<|.n
theorem D11_37g:GC 11 37 D11_37:=.c<|.c<|.n
theorem D11_39g:GC 11 39 D11_39:=.c<|.c<|.n
theorem D11_41g:GC 11 41 D11_41:=.c<|.c<|.n
theorem D11_43g:GC 11 43 D11_43:=.c<|.c<|.n
theorem D11_45g:GC 11 45 D11_45:=.c<|.c<|.n
theorem D11_46g:GC 11 46 D11_46:=.c<|.c<|.n
theorem D11_47g:GC 11 47 D11_47:=.c<|.c<|.n
theorem D11_48g:GC 11 48 D11_48:=.c<|.c<|.n
theorem D11_49g:GC 11 49 D11_49:=.c<|.c<|.n
theorem D11_50g:GC 11 50 D11_50:=.c<|.c<|.n
theorem D11_51g:GC 11 51 D11_51:=.c<|.c<|.n
theorem D11_52g:GC 11 52 D11_52:=.c<|.c<|.n
theorem D11_53g:GC 11 53 D11_53:=.c<|.c<|.n
theorem D11_54g:GC 11 54 D11_54:=.c<|.c<|.n
theorem D11_55g:GC 11 55 D11_55:=.c<|.c<|.n
theorem D11_56g:GC 11 56 D11_56:=.c<|.c<|.n
theorem D11_57g:GC 11 57 D11_57:=.c<|.c<|.n
theorem D11_59g:GC 11 59 D11_59:=.c<|.c<|.n
theorem D11_61g:GC 11 61 D11_61:=.c<|.c<|.n
theorem D11_62g:GC 11 62 D11_62:=.c<|.c<|.n
theorem D11_63g:GC 11 63 D11_63:=.c<|.c<|.n
theorem D11_64g:GC 11 64 D11_64:=.c<|.c<|.n
theorem D11_65g:GC 11 65 D11_65:=.c<|.c<|.n
theorem D11_66g:GC 11 66 D11_66:=.c<|.c<|.n
theorem D11_67g:GC 11 67 D11_67:=.c<|.c<|.n
theorem D11_8g:GC 11 8 D11_8:=.c<|.c<|.n
theorem D11_11g:GC 11 11 D11_11:=.c<|.c<|.n
theorem D11_12g:GC 11 12 D11_12:=.c<|.c<|.n
theorem D11_19g:GC 11 19 D11_19:=.c<|.c<|.n
theorem D11_20g:GC 11 20 D11_20:=.c<|.c<|.n
theorem D11_25g:GC 11 25 D11_25:=.c<|.c<|.n
theorem D11_2g:GC 11 2 D11_2:=.c<|.c<|.n
theorem D5_5g:GC 5 5 D5_5:=.c<|.c<|.n
theorem D5_6g:GC 5 6 D5_6:=.c<|.n
theorem D14_4g:GC 14 4 D14_4:=.c<|.n
theorem D14_7g:GC 14 7 D14_7:=.c<|.n
theorem D14_5g:GC 14 5 D14_5:=.c<|.n
theorem D22_3g:GC 22 3 D22_3:=.c<|.n
theorem D22_4g:GC 22 4 D22_4:=.c<|.n
theorem D13_3g:GC 13 3 D13_3:=.c<|.n
theorem D13_6g:GC 13 6 D13_6:=.c<|.n
theorem D24_2g:GC 24 2 D24_2:=.c<|.n
theorem D15_3g:GC 15 3 D15_3:=.c<|.n
theorem D15_4g:GC 15 4 D15_4:=.c<|.n
theorem D15_6g:GC 15 6 D15_6:=.c<|.n
theorem D25_3g:GC 25 3 D25_3:=.c<|.n
theorem D25_9g:GC 25 9 D25_9:=.c<|.n
theorem D6_5g:GC 6 5 D6_5:=.c<|.n
theorem D27_2g:GC 27 2 D27_2:=.c<|.n
theorem D27_11g:GC 27 11 D27_11:=.c<|.n
theorem PSound(k:Nat):TSound PE (PT k)/\CSound PE (PC k):=
 tablesH PEok (by kernel_rfl)
  (ta T10g<|ta T12g<|ta T31g<|ta T32g<|ta T19g<|ta T41g<|ta T33g<|ta T20g<|ta T21g<|ta T11g<|ta T5g<|ta T14g<|ta T22g<|ta T13g<|ta T23g<|ta T24g<|ta T15g<|ta T25g<|ta T26g<|ta T16g<|ta T6g<|ta T27g<|ta T17g<|ta T8g<|ta T7g<|ta T3g<|ta T9g<|ta T4g<|tn)
  (ca q19 D19_2g<|ca q19 D19_3g<|ca q19 D19_4g<|ca q19 D19_5g<|ca q21 D21_4g<|ca q11 D11_7g<|ca q11 D11_26g<|ca q11 D11_27g<|ca q11 D11_68g<|ca q11 D11_29g<|ca q11 D11_31g<|ca q11 D11_33g<|ca q11 D11_35g<|ca q11 D11_37g<|ca q11 D11_39g<|ca q11 D11_41g<|ca q11 D11_43g<|ca q11 D11_45g<|ca q11 D11_46g<|ca q11 D11_47g<|ca q11 D11_48g<|ca q11 D11_49g<|ca q11 D11_50g<|ca q11 D11_51g<|ca q11 D11_52g<|ca q11 D11_53g<|ca q11 D11_54g<|ca q11 D11_55g<|ca q11 D11_56g<|ca q11 D11_57g<|ca q11 D11_59g<|ca q11 D11_61g<|ca q11 D11_62g<|ca q11 D11_63g<|ca q11 D11_64g<|ca q11 D11_65g<|ca q11 D11_66g<|ca q11 D11_67g<|ca q11 D11_8g<|ca q11 D11_11g<|ca q11 D11_12g<|ca q11 D11_19g<|ca q11 D11_20g<|ca q11 D11_25g<|ca q11 D11_2g<|ca q5 D5_5g<|ca q5 D5_6g<|ca q14 D14_4g<|ca q14 D14_7g<|ca q14 D14_5g<|ca q22 D22_3g<|ca q22 D22_4g<|ca q13 D13_3g<|ca q13 D13_6g<|ca q24 D24_2g<|ca q15 D15_3g<|ca q15 D15_4g<|ca q15 D15_6g<|ca q25 D25_3g<|ca q25 D25_9g<|ca q6 D6_5g<|ca q27 D27_2g<|ca q27 D27_11g<|cn) k
end Go.V
