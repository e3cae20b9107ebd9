/- Texts of the prover's, joined: D6 FF FH FI DB J1 DC E0 FN DA IF M1 JK M2 M4 JA JB M5 DD N1 N2 N4. -/
import Derived.Test.YtcnhcamimcpinaaGreatDoorVJ5
import Derived.Test.YtcnhcamimcpinaaGreatDoorProg
import Derived.KernelRfl
import Derived.Lib.DecodeN
import Derived.Lib.IndexLaws

namespace Go.Proofs.YtcnhcamimcpinaaGreatDoor
open Go

def ac_zyx20 : AC := (sr [oo 1 (.box 71 (tp 0)),oo 2 (.alloc 71 [.pd (.raw (.int .i64 0)),.pd (.raw (.string ⟨#[]⟩))])] [1,2] (sr [fi 3 1 1,lq 4 3,oo 5 (.call 21 [tp 4]),fi 6 1 1,.mk none none (.store 1 (tp 6) (tp 5))] [1,2] (sr [oo 7 (.load (some 2) (tp 1)),.mk none none (.store 2 (tp 2) (tp 7))] [2] .ret)))
def an_zyx20 : Ann := ann (List.range 3) ac_zyx20
theorem ok_zyx20 : okd Tryz.prog an_zyx20 ac_zyx20 Tryz.f48 := ⟨by kernel_rfl, by kernel_rfl⟩
theorem ret_zyx20 (st : St) : resD Tryz.prog st Tryz.f48.results.toList = resA st [.cell 2 (some 2)] := resD_of (by kernel_rfl)

def ac_ztgmw : AC := (sr [oo 2 (.mv (.const (.slice none 0 0)))] [0] (sr [oo 3 (.mv (.const (.slice none 0 0)))] [0,3] (.seq (sr [oo 4 (.mv (ci 0))] [0,3,4] (.block 0 (.loop (.seq (sr [mq 5 4,mq 6 0,oo 7 (.len (tp 6) false),oo 8 (.bin .lss (tp 5) (tp 7)),mq 9 8,og 9 true 10 (.mv (tp 4)),og 9 true 11 (.bin .lss (tp 10) (ci 31)),oo 12 (.pick (tp 9) (tp 11) (cq false))] [0,3,4,12] (.cond (tp 12) .skip (.exit 0))) (.seq (.block 1 (.draw [mq 15 3,mq 16 0,mq 17 4,oo 18 (.idxA 2 (tp 16) (tp 17)),fi 19 0 18,lq 20 19,oo 21 (.call 21 [tp 20]),mq 22 0,mq 23 4,oo 24 (.idxA 2 (tp 22) (tp 23)),fi 25 1 24,lq 26 25,oo 27 (.call 21 [tp 26]),oo 28 (.build [.pd (.raw (.string ⟨#[]⟩)),.pd (.raw (.string ⟨#[]⟩))] [(0,1,tp 21),(1,1,tp 27)]),oo 29 (.bslice 90 2 [tp 28]),oo 30 (.append 90 2 32 (tp 15) (tp 29)),mq 3 30] [0,0,0,6,14,30,62,0,0,384,896,1920,4094,8190,16382,32767,65535] (.take 0 (.take 1 (.take 2 (.take 3 (.take 4 (.take 5 (.take 7 (.take 8 (.take 9 (.take 10 (.take 11 (.alts (.cons 6 false (.alts (.cons 12 false (.take 13 (.alts (.cons 14 false (.alts (.cons 15 true (.take 16 .done) .nil)) .nil))) .nil)) .nil))))))))))))) (some [0,3,4]))) (.region [mq 13 4,oo 14 (.bin .add (tp 13) (ci 1)),mq 4 14] (some [0,3,4]))))))) (sr [mq 31 3,mq 2 31] [2] .ret))))
def an_ztgmw : Ann := ann [0,1,2,3,5,4,6] ac_ztgmw
theorem ok_ztgmw : okd Tryz.prog an_ztgmw ac_ztgmw Tryz.f24 := ⟨by kernel_rfl, by kernel_rfl⟩

def ac_zt3fs : AC := (sr [oo 1 (.box 73 (tp 0)),oo 2 (.alloc 73 [.pd (.raw (.int .i64 0)),.pd (.raw (.string ⟨#[]⟩)),.pd (.raw (.string ⟨#[]⟩)),.nils,.nils])] [1,2] (.seq (.draw [fi 3 0 1,oo 4 (.load (some 2) (tp 3)),oo 5 (.call 48 [tp 4]),fi 6 2 1,lq 7 6,oo 8 (.call 21 [tp 7]),fi 9 3 1,lq 10 9,oo 11 (.call 24 [tp 10]),fi 12 4 1,lq 13 12,oo 14 (.call 24 [tp 13]),oo 15 (.build [.pd (.raw (.int .i64 0)),.pd (.raw (.string ⟨#[]⟩)),.pd (.raw (.string ⟨#[]⟩)),.nils,.nils] [(0,2,tp 5),(2,1,tp 8),(3,1,tp 11),(4,1,tp 14)]),.mk none none (.store 5 (tp 2) (tp 15))] [0,1,3,0,8,31,0,64,255,0,512,2047,4095,8191] (.take 0 (.take 1 (.take 3 (.take 4 (.take 6 (.take 7 (.take 9 (.take 10 (.alts (.cons 2 false (.alts (.cons 5 false (.alts (.cons 8 false (.alts (.cons 11 true (.take 12 (.alts (.cons 13 true .done .nil))) .nil)) .nil)) .nil)) .nil)))))))))) (some [2])) .ret))
def an_zt3fs : Ann := ann (List.range 2) ac_zt3fs
theorem ok_zt3fs : okd Tryz.prog an_zt3fs ac_zt3fs Tryz.f28 := ⟨by kernel_rfl, by kernel_rfl⟩
theorem ret_zt3fs (st : St) : resD Tryz.prog st Tryz.f28.results.toList = resA st [.cell 2 (some 5)] := resD_of (by kernel_rfl)

def ac_z9moo : AC := (sr [oo 2 (.mv (.const (.slice none 0 0)))] [0] (sr [oo 3 (.mv (.const (.slice none 0 0)))] [0,3] (.seq (sr [oo 4 (.mv (ci 0))] [0,3,4] (.block 0 (.loop (.seq (sr [mq 6 4,mq 7 0,oo 8 (.len (tp 7) false),oo 9 (.bin .lss (tp 6) (tp 8)),mq 10 9,og 10 true 11 (.mv (tp 4)),og 10 true 12 (.bin .lss (tp 11) (ci 9)),oo 13 (.pick (tp 10) (tp 12) (cq false))] [0,3,4,13] (.cond (tp 13) .skip (.exit 0))) (.seq (.block 1 (sr [mq 16 0,mq 17 4,oo 18 (.idxA 8 (tp 16) (tp 17)),oo 19 (.load (some 8) (tp 18)),oo 5 (.alloc 95 [.pd (.raw (.int .i64 0)),.pd (.raw (.string ⟨#[]⟩)),.pd (.raw (.string ⟨#[]⟩)),.pd (.raw (.string ⟨#[]⟩)),.pd (.raw (.int .i64 0)),.pd (.raw (.string ⟨#[]⟩)),.pd (.raw (.bool false)),.pd (.raw (.int .i64 0))]),.mk none none (.store 8 (tp 5) (tp 19))] [0,3,4,5] (.seq (.draw [fi 20 1 5,lq 21 20,oo 22 (.call 21 [tp 21]),fi 23 2 5,lq 24 23,oo 25 (.call 21 [tp 24]),fi 26 3 5,lq 27 26,oo 28 (.call 21 [tp 27]),fi 29 5 5,lq 30 29,oo 31 (.call 21 [tp 30]),fi 32 1 5,.mk none none (.store 1 (tp 32) (tp 22)),fi 33 2 5,.mk none none (.store 1 (tp 33) (tp 25)),fi 34 3 5,.mk none none (.store 1 (tp 34) (tp 28)),fi 35 5 5,.mk none none (.store 1 (tp 35) (tp 31))] [0,1,3,0,8,31,0,64,255,0,512,2047,1759,8191,16383,32767,65535,131071,262143,524287] (.take 0 (.take 1 (.take 3 (.take 4 (.take 6 (.take 7 (.take 9 (.take 10 (.alts (.cons 2 false (.take 12 (.alts (.cons 5 false (.alts (.cons 8 false (.alts (.cons 11 false (.alts (.cons 13 true (.take 14 (.alts (.cons 15 true (.take 16 (.alts (.cons 17 true (.take 18 (.alts (.cons 19 true .done .nil))) .nil))) .nil))) .nil)) .nil)) .nil)) .nil))) .nil)))))))))) (some [0,3,4,5])) (.region [mq 36 3,oo 37 (.load (some 8) (tp 5)),oo 38 (.bslice 95 8 [tp 37]),oo 39 (.append 95 8 96 (tp 36) (tp 38)),mq 3 39] (some [0,3,4]))))) (.region [mq 14 4,oo 15 (.bin .add (tp 14) (ci 1)),mq 4 15] (some [0,3,4]))))))) (sr [mq 40 3,mq 2 40] [2] .ret))))
def an_z9moo : Ann := ann [0,1,2,3,5,6,4,7,8] ac_z9moo
theorem ok_z9moo : okd Tryz.prog an_z9moo ac_z9moo Tryz.f27 := ⟨by kernel_rfl, by kernel_rfl⟩

def ac_zpih5 : AC := (sr [oo 2 (.mv (.const (.slice none 0 0)))] [0] (sr [oo 3 (.mv (.const (.slice none 0 0)))] [0,3] (.seq (sr [oo 4 (.mv (ci 0))] [0,3,4] (.block 0 (.loop (.seq (sr [mq 7 4,mq 8 0,oo 9 (.len (tp 8) false),oo 10 (.bin .lss (tp 7) (tp 9)),mq 11 10,og 11 true 12 (.mv (tp 4)),og 11 true 13 (.bin .lss (tp 12) (ci 9)),oo 14 (.pick (tp 11) (tp 13) (cq false))] [0,3,4,14] (.cond (tp 14) .skip (.exit 0))) (.seq (.block 1 (.seq (.draw [mq 17 0,mq 18 4,oo 19 (.idxA 3 (tp 17) (tp 18)),fi 20 0 19,lq 21 20,mq 22 0,mq 23 4,oo 24 (.idxA 3 (tp 22) (tp 23)),fi 25 1 24,lq 26 25,oo 27 (.call 21 [tp 26]),oo 28 (.build [.pd (.raw (.int .i64 0)),.pd (.raw (.string ⟨#[]⟩)),.nils] [(0,1,tp 21),(1,1,tp 27)]),oo 5 (.alloc 93 [.pd (.raw (.int .i64 0)),.pd (.raw (.string ⟨#[]⟩)),.nils]),.mk none none (.store 3 (tp 5) (tp 28))] [0,0,3,7,15,0,0,96,224,480,992,2047,0,8191] (.take 0 (.take 1 (.take 2 (.take 3 (.take 4 (.take 5 (.take 6 (.take 7 (.take 8 (.take 9 (.alts (.cons 10 false (.take 11 (.alts (.cons 12 false (.alts (.cons 13 true .done .nil)) .nil))) (.cons 12 false (.alts (.cons 10 false (.take 11 (.alts (.cons 13 true .done .nil))) .nil)) .nil))))))))))))) (some [0,3,4,5])) (.seq (sr [oo 6 (.mv (ci 0))] [0,3,4,5,6] (.block 2 (.loop (.seq (sr [mq 29 6,mq 30 0,mq 31 4,oo 32 (.idxA 3 (tp 30) (tp 31)),fi 33 2 32,lq 34 33,oo 35 (.len (tp 34) false),oo 36 (.bin .lss (tp 29) (tp 35)),mq 37 36,og 37 true 38 (.mv (tp 6)),og 37 true 39 (.bin .lss (tp 38) (ci 9)),oo 40 (.pick (tp 37) (tp 39) (cq false))] [0,3,4,5,6,40] (.cond (tp 40) .skip (.exit 2))) (.seq (.block 3 (.draw [fi 43 2 5,lq 44 43,mq 45 0,mq 46 4,oo 47 (.idxA 3 (tp 45) (tp 46)),fi 48 2 47,lq 49 48,mq 50 6,oo 51 (.idxA 1 (tp 49) (tp 50)),lq 52 51,oo 53 (.call 21 [tp 52]),oo 54 (.bslice 9 1 [tp 53]),oo 55 (.append 9 1 16 (tp 44) (tp 54)),fi 56 2 5,.mk none none (.store 1 (tp 56) (tp 55))] [0,1,0,0,12,28,60,0,252,508,1020,2044,4095,8191,16383] (.take 0 (.take 1 (.take 2 (.take 3 (.take 4 (.take 5 (.take 6 (.take 7 (.take 8 (.take 9 (.alts (.cons 10 false (.alts (.cons 11 false (.alts (.cons 12 true (.take 13 (.alts (.cons 14 true .done .nil))) .nil)) .nil)) .nil)))))))))))) (some [0,3,4,5,6]))) (.region [mq 41 6,oo 42 (.bin .add (tp 41) (ci 1)),mq 6 42] (some [0,3,4,5,6]))))))) (.region [mq 57 3,oo 58 (.load (some 3) (tp 5)),oo 59 (.bslice 93 3 [tp 58]),oo 60 (.append 93 3 48 (tp 57) (tp 59)),mq 3 60] (some [0,3,4]))))) (.region [mq 15 4,oo 16 (.bin .add (tp 15) (ci 1)),mq 4 16] (some [0,3,4]))))))) (sr [mq 61 3,mq 2 61] [2] .ret))))
def an_zpih5 : Ann := ann [0,1,2,3,5,6,7,9,8,4,10,11] ac_zpih5
theorem ok_zpih5 : okd Tryz.prog an_zpih5 ac_zpih5 Tryz.f26 := ⟨by kernel_rfl, by kernel_rfl⟩

def ac_zg0x2 : AC := (sr [oo 2 (.mv (.const (.slice none 0 0)))] [0] (sr [oo 3 (.mv (.const (.slice none 0 0)))] [0,3] (.seq (sr [oo 4 (.mv (ci 0))] [0,3,4] (.block 0 (.loop (.seq (sr [mq 5 4,mq 6 0,oo 7 (.len (tp 6) false),oo 8 (.bin .lss (tp 5) (tp 7)),mq 9 8,og 9 true 10 (.mv (tp 4)),og 9 true 11 (.bin .lss (tp 10) (ci 5)),oo 12 (.pick (tp 9) (tp 11) (cq false))] [0,3,4,12] (.cond (tp 12) .skip (.exit 0))) (.seq (.block 1 (.draw [mq 15 3,mq 16 0,mq 17 4,oo 18 (.idxA 3 (tp 16) (tp 17)),fi 19 0 18,lq 20 19,mq 21 0,mq 22 4,oo 23 (.idxA 3 (tp 21) (tp 22)),fi 24 1 23,lq 25 24,oo 26 (.call 21 [tp 25]),mq 27 0,mq 28 4,oo 29 (.idxA 3 (tp 27) (tp 28)),fi 30 2 29,lq 31 30,oo 32 (.call 21 [tp 31]),oo 33 (.build [.pd (.raw (.int .i64 0)),.pd (.raw (.string ⟨#[]⟩)),.pd (.raw (.string ⟨#[]⟩))] [(0,1,tp 20),(1,1,tp 26),(2,1,tp 32)]),oo 34 (.bslice 91 3 [tp 33]),oo 35 (.append 91 3 40 (tp 15) (tp 34)),mq 3 35] [0,0,0,6,14,30,0,0,192,448,960,1984,0,0,12288,28672,61440,131008,262142,524286,1048575,2097151] (.take 0 (.take 1 (.take 2 (.take 3 (.take 4 (.take 5 (.take 6 (.take 7 (.take 8 (.take 9 (.take 10 (.take 12 (.take 13 (.take 14 (.take 15 (.take 16 (.alts (.cons 11 false (.alts (.cons 17 false (.take 18 (.alts (.cons 19 false (.alts (.cons 20 true (.take 21 .done) .nil)) .nil))) .nil)) .nil)))))))))))))))))) (some [0,3,4]))) (.region [mq 13 4,oo 14 (.bin .add (tp 13) (ci 1)),mq 4 14] (some [0,3,4]))))))) (sr [mq 36 3,mq 2 36] [2] .ret))))
def an_zg0x2 : Ann := ann [0,1,2,3,5,4,6] ac_zg0x2
theorem ok_zg0x2 : okd Tryz.prog an_zg0x2 ac_zg0x2 Tryz.f25 := ⟨by kernel_rfl, by kernel_rfl⟩

def ac_z8s55 : AC := (sr [oo 1 (.box 33 (tp 0)),oo 2 (.alloc 33 [.pd (.raw (.int .i64 0)),.pd (.raw (.string ⟨#[]⟩)),.pd (.raw (.string ⟨#[]⟩)),.pd (.raw (.bool false)),.nils,.nils,.pd (.raw (.string ⟨#[]⟩)),.nils,.nils,.nils,.nils,.nils,.nils])] [1,2] (.seq (.draw [fi 15 0 1,oo 16 (.load (some 3) (tp 15)),oo 17 (.call 20 [tp 16]),fi 18 3 1,lq 19 18,fi 20 4 1,lq 21 20,oo 22 (.call 24 [tp 21]),fi 23 6 1,lq 24 23,oo 25 (.call 21 [tp 24]),fi 26 11 1,lq 27 26,oo 28 (.call 25 [tp 27]),fi 29 12 1,lq 30 29,oo 31 (.call 25 [tp 30]),oo 32 (.build [.pd (.raw (.int .i64 0)),.pd (.raw (.string ⟨#[]⟩)),.pd (.raw (.string ⟨#[]⟩)),.pd (.raw (.bool false)),.nils,.nils,.pd (.raw (.string ⟨#[]⟩)),.nils,.nils,.nils,.nils,.nils,.nils] [(0,3,tp 17),(3,1,tp 19),(4,1,tp 22),(6,1,tp 25),(11,1,tp 28),(12,1,tp 31)]),oo 3 (.alloc 33 [.pd (.raw (.int .i64 0)),.pd (.raw (.string ⟨#[]⟩)),.pd (.raw (.string ⟨#[]⟩)),.pd (.raw (.bool false)),.nils,.nils,.pd (.raw (.string ⟨#[]⟩)),.nils,.nils,.nils,.nils,.nils,.nils]),.mk none none (.store 13 (tp 3) (tp 32))] [0,1,3,0,8,0,32,103,0,256,999,0,2048,8167,0,16384,65511,131071,0,524287] (.take 0 (.take 1 (.take 3 (.take 4 (.take 5 (.take 6 (.take 8 (.take 9 (.take 11 (.take 12 (.take 14 (.take 15 (.alts (.cons 2 false (.alts (.cons 7 false (.alts (.cons 10 false (.alts (.cons 13 false (.alts (.cons 16 false (.take 17 (.alts (.cons 18 false (.alts (.cons 19 true .done .nil)) .nil))) (.cons 18 false (.alts (.cons 16 false (.take 17 (.alts (.cons 19 true .done .nil))) .nil)) .nil))) (.cons 18 false (.alts (.cons 13 false (.alts (.cons 16 false (.take 17 (.alts (.cons 19 true .done .nil))) .nil)) .nil)) .nil))) (.cons 18 false (.alts (.cons 10 false (.alts (.cons 13 false (.alts (.cons 16 false (.take 17 (.alts (.cons 19 true .done .nil))) .nil)) .nil)) .nil)) .nil))) (.cons 18 false (.alts (.cons 7 false (.alts (.cons 10 false (.alts (.cons 13 false (.alts (.cons 16 false (.take 17 (.alts (.cons 19 true .done .nil))) .nil)) .nil)) .nil)) .nil)) .nil))) (.cons 18 false (.alts (.cons 2 false (.alts (.cons 7 false (.alts (.cons 10 false (.alts (.cons 13 false (.alts (.cons 16 false (.take 17 (.alts (.cons 19 true .done .nil))) .nil)) .nil)) .nil)) .nil)) .nil)) .nil))))))))))))))) (some [1,2,3])) (.seq (sr [oo 4 (.mv (ci 0))] [1,2,3,4] (.block 0 (.loop (.seq (sr [mq 33 4,fi 34 5 1,lq 35 34,oo 36 (.len (tp 35) false),oo 37 (.bin .lss (tp 33) (tp 36)),mq 38 37,og 38 true 39 (.mv (tp 4)),og 38 true 40 (.bin .lss (tp 39) (ci 9)),oo 41 (.pick (tp 38) (tp 40) (cq false))] [1,2,3,4,41] (.cond (tp 41) .skip (.exit 0))) (.seq (.block 1 (.draw [fi 44 5 3,lq 45 44,fi 46 5 1,lq 47 46,mq 48 4,oo 49 (.idxA 1 (tp 47) (tp 48)),lq 50 49,oo 51 (.bslice 3 1 [tp 50]),oo 52 (.append 3 1 8 (tp 45) (tp 51)),fi 53 5 3,.mk none none (.store 1 (tp 53) (tp 52))] [0,1,0,4,0,28,60,124,255,511,1023] (.take 0 (.take 1 (.take 2 (.take 3 (.take 4 (.take 5 (.take 6 (.alts (.cons 7 false (.alts (.cons 8 true (.take 9 (.alts (.cons 10 true .done .nil))) .nil)) .nil))))))))) (some [1,2,3,4]))) (.region [mq 42 4,oo 43 (.bin .add (tp 42) (ci 1)),mq 4 43] (some [1,2,3,4]))))))) (.seq (sr [oo 5 (.mv (ci 0))] [1,2,3,5] (.block 2 (.loop (.seq (sr [mq 54 5,fi 55 7 1,lq 56 55,oo 57 (.len (tp 56) false),oo 58 (.bin .lss (tp 54) (tp 57)),mq 59 58,og 59 true 60 (.mv (tp 5)),og 59 true 61 (.bin .lss (tp 60) (ci 9)),oo 62 (.pick (tp 59) (tp 61) (cq false))] [1,2,3,5,62] (.cond (tp 62) .skip (.exit 2))) (.seq (.block 3 (sr [fi 65 7 1,lq 66 65,mq 67 5,oo 68 (.idxA 9 (tp 66) (tp 67)),oo 69 (.load (some 9) (tp 68)),oo 6 (.alloc 49 [.pd (.raw (.string ⟨#[]⟩)),.pd (.raw (.int .i64 0)),.pd (.raw (.bool false)),.pd (.raw (.string ⟨#[]⟩)),.pd (.raw (.int .i64 0)),.pd (.raw (.string ⟨#[]⟩)),.pd (.raw (.string ⟨#[]⟩)),.pd (.raw (.int .i64 0)),.nils]),.mk none none (.store 9 (tp 6) (tp 69))] [1,2,3,5,6] (.draw [fi 70 7 3,lq 71 70,fi 72 0 6,lq 73 72,oo 74 (.call 21 [tp 73]),fi 75 1 6,lq 76 75,fi 77 2 6,lq 78 77,fi 79 3 6,lq 80 79,oo 81 (.call 21 [tp 80]),fi 82 4 6,oo 83 (.load (some 3) (tp 82)),oo 84 (.call 20 [tp 83]),fi 85 7 6,lq 86 85,fi 87 8 6,lq 88 87,oo 89 (.call 26 [tp 88]),oo 90 (.build [.pd (.raw (.string ⟨#[]⟩)),.pd (.raw (.int .i64 0)),.pd (.raw (.bool false)),.pd (.raw (.string ⟨#[]⟩)),.pd (.raw (.int .i64 0)),.pd (.raw (.string ⟨#[]⟩)),.pd (.raw (.string ⟨#[]⟩)),.pd (.raw (.int .i64 0)),.nils] [(0,1,tp 74),(1,1,tp 76),(2,1,tp 78),(3,1,tp 81),(4,3,tp 84),(7,1,tp 86),(8,1,tp 89)]),oo 91 (.bslice 49 9 [tp 90]),oo 92 (.append 49 9 120 (tp 71) (tp 91)),fi 93 7 3,.mk none none (.store 1 (tp 93) (tp 92))] [0,1,0,4,12,0,32,0,128,0,512,1564,0,4096,15900,0,32768,0,131072,425500,1048572,2097148,4194303,8388607,16777215] (.take 0 (.take 1 (.take 2 (.take 3 (.take 5 (.take 6 (.take 7 (.take 8 (.take 9 (.take 10 (.take 12 (.take 13 (.take 15 (.take 16 (.take 17 (.take 18 (.alts (.cons 4 false (.alts (.cons 11 false (.alts (.cons 14 false (.alts (.cons 19 false (.take 20 (.alts (.cons 21 false (.alts (.cons 22 true (.take 23 (.alts (.cons 24 true .done .nil))) .nil)) .nil))) .nil)) .nil)) .nil)) .nil)))))))))))))))))) (some [1,2,3,5])))) (.region [mq 63 5,oo 64 (.bin .add (tp 63) (ci 1)),mq 5 64] (some [1,2,3,5]))))))) (.seq (sr [oo 7 (.mv (ci 0))] [1,2,3,7] (.block 4 (.loop (.seq (sr [mq 94 7,fi 95 8 1,lq 96 95,oo 97 (.len (tp 96) false),oo 98 (.bin .lss (tp 94) (tp 97)),mq 99 98,og 99 true 100 (.mv (tp 7)),og 99 true 101 (.bin .lss (tp 100) (ci 5)),oo 102 (.pick (tp 99) (tp 101) (cq false))] [1,2,3,7,102] (.cond (tp 102) .skip (.exit 4))) (.seq (.block 5 (sr [fi 105 8 1,lq 106 105,mq 107 7,oo 108 (.idxA 4 (tp 106) (tp 107)),oo 109 (.load (some 4) (tp 108)),oo 8 (.alloc 55 [.pd (.raw (.string ⟨#[]⟩)),.pd (.raw (.string ⟨#[]⟩)),.pd (.raw (.string ⟨#[]⟩)),.pd (.raw (.int .i64 0))]),.mk none none (.store 4 (tp 8) (tp 109))] [1,2,3,7,8] (.draw [fi 110 8 3,lq 111 110,fi 112 0 8,lq 113 112,oo 114 (.call 21 [tp 113]),fi 115 1 8,lq 116 115,oo 117 (.call 21 [tp 116]),fi 118 2 8,lq 119 118,oo 120 (.call 21 [tp 119]),fi 121 3 8,lq 122 121,oo 123 (.build [.pd (.raw (.string ⟨#[]⟩)),.pd (.raw (.string ⟨#[]⟩)),.pd (.raw (.string ⟨#[]⟩)),.pd (.raw (.int .i64 0))] [(0,1,tp 114),(1,1,tp 117),(2,1,tp 120),(3,1,tp 122)]),oo 124 (.bslice 55 4 [tp 123]),oo 125 (.append 55 4 56 (tp 111) (tp 124)),fi 126 8 3,.mk none none (.store 1 (tp 126) (tp 125))] [0,1,0,4,12,0,32,124,0,256,1020,0,2048,8188,16380,32767,65535,131071] (.take 0 (.take 1 (.take 2 (.take 3 (.take 5 (.take 6 (.take 8 (.take 9 (.take 11 (.take 12 (.alts (.cons 4 false (.alts (.cons 7 false (.alts (.cons 10 false (.take 13 (.alts (.cons 14 false (.alts (.cons 15 true (.take 16 (.alts (.cons 17 true .done .nil))) .nil)) .nil))) .nil)) .nil)) .nil)))))))))))) (some [1,2,3,7])))) (.region [mq 103 7,oo 104 (.bin .add (tp 103) (ci 1)),mq 7 104] (some [1,2,3,7]))))))) (.seq (sr [oo 9 (.mv (ci 0))] [1,2,3,9] (.block 6 (.loop (.seq (sr [mq 127 9,fi 128 9 1,lq 129 128,oo 130 (.len (tp 129) false),oo 131 (.bin .lss (tp 127) (tp 130)),mq 132 131,og 132 true 133 (.mv (tp 9)),og 132 true 134 (.bin .lss (tp 133) (ci 5)),oo 135 (.pick (tp 132) (tp 134) (cq false))] [1,2,3,9,135] (.cond (tp 135) .skip (.exit 6))) (.seq (.block 7 (.draw [fi 138 9 3,lq 139 138,fi 140 9 1,lq 141 140,mq 142 9,oo 143 (.idxA 1 (tp 141) (tp 142)),lq 144 143,oo 145 (.call 21 [tp 144]),oo 146 (.bslice 9 1 [tp 145]),oo 147 (.append 9 1 16 (tp 139) (tp 146)),fi 148 9 3,.mk none none (.store 1 (tp 148) (tp 147))] [0,1,0,4,0,28,60,124,252,511,1023,2047] (.take 0 (.take 1 (.take 2 (.take 3 (.take 4 (.take 5 (.take 6 (.alts (.cons 7 false (.alts (.cons 8 false (.alts (.cons 9 true (.take 10 (.alts (.cons 11 true .done .nil))) .nil)) .nil)) .nil))))))))) (some [1,2,3,9]))) (.region [mq 136 9,oo 137 (.bin .add (tp 136) (ci 1)),mq 9 137] (some [1,2,3,9]))))))) (.seq (sr [oo 10 (.mv (ci 0))] [1,2,3,10] (.block 8 (.loop (.seq (sr [mq 149 10,fi 150 10 1,lq 151 150,oo 152 (.len (tp 151) false),oo 153 (.bin .lss (tp 149) (tp 152)),mq 154 153,og 154 true 155 (.mv (tp 10)),og 154 true 156 (.bin .lss (tp 155) (ci 7)),oo 157 (.pick (tp 154) (tp 156) (cq false))] [1,2,3,10,157] (.cond (tp 157) .skip (.exit 8))) (.seq (.block 9 (sr [fi 160 10 1,lq 161 160,mq 162 10,oo 163 (.idxA 3 (tp 161) (tp 162)),fi 164 1 163,lq 165 164,oo 166 (.call 27 [tp 165]),oo 167 (.build [.nils,.nils,.nils] [(1,1,tp 166)]),oo 11 (.alloc 69 [.nils,.nils,.nils]),.mk none none (.store 3 (tp 11) (tp 167))] [1,2,3,10,11] (.seq (sr [oo 12 (.mv (ci 0))] [1,2,3,10,11,12] (.block 10 (.loop (.seq (sr [mq 168 12,fi 169 10 1,lq 170 169,mq 171 10,oo 172 (.idxA 3 (tp 170) (tp 171)),fi 173 0 172,lq 174 173,oo 175 (.len (tp 174) false),oo 176 (.bin .lss (tp 168) (tp 175)),mq 177 176,og 177 true 178 (.mv (tp 12)),og 177 true 179 (.bin .lss (tp 178) (ci 5)),oo 180 (.pick (tp 177) (tp 179) (cq false))] [1,2,3,10,11,12,180] (.cond (tp 180) .skip (.exit 10))) (.seq (.block 11 (.draw [fi 183 0 11,lq 184 183,fi 185 10 1,lq 186 185,mq 187 10,oo 188 (.idxA 3 (tp 186) (tp 187)),fi 189 0 188,lq 190 189,mq 191 12,oo 192 (.idxA 5 (tp 190) (tp 191)),oo 193 (.load (some 5) (tp 192)),oo 194 (.call 28 [tp 193]),oo 195 (.bslice 73 5 [tp 194]),oo 196 (.append 73 5 88 (tp 184) (tp 195)),fi 197 0 11,.mk none none (.store 1 (tp 197) (tp 196))] [0,1,0,4,0,28,60,124,0,508,1020,2044,4092,8191,16383,32767] (.take 0 (.take 1 (.take 2 (.take 3 (.take 4 (.take 5 (.take 6 (.take 7 (.take 8 (.take 9 (.take 10 (.alts (.cons 11 false (.alts (.cons 12 false (.alts (.cons 13 true (.take 14 (.alts (.cons 15 true .done .nil))) .nil)) .nil)) .nil))))))))))))) (some [1,2,3,10,11,12]))) (.region [mq 181 12,oo 182 (.bin .add (tp 181) (ci 1)),mq 12 182] (some [1,2,3,10,11,12]))))))) (.seq (sr [oo 13 (.mv (ci 0))] [1,2,3,10,11,13] (.block 12 (.loop (.seq (sr [mq 198 13,fi 199 10 1,lq 200 199,mq 201 10,oo 202 (.idxA 3 (tp 200) (tp 201)),fi 203 2 202,lq 204 203,oo 205 (.len (tp 204) false),oo 206 (.bin .lss (tp 198) (tp 205)),mq 207 206,og 207 true 208 (.mv (tp 13)),og 207 true 209 (.bin .lss (tp 208) (ci 5)),oo 210 (.pick (tp 207) (tp 209) (cq false))] [1,2,3,10,11,13,210] (.cond (tp 210) .skip (.exit 12))) (.seq (.block 13 (sr [fi 213 10 1,lq 214 213,mq 215 10,oo 216 (.idxA 3 (tp 214) (tp 215)),fi 217 2 216,lq 218 217,mq 219 13,oo 220 (.idxA 5 (tp 218) (tp 219)),oo 221 (.load (some 5) (tp 220)),oo 14 (.alloc 76 [.pd (.raw (.int .i64 0)),.pd (.raw (.string ⟨#[]⟩)),.pd (.raw (.string ⟨#[]⟩)),.pd (.raw (.int .i64 0)),.pd (.raw (.int .i64 0))]),.mk none none (.store 5 (tp 14) (tp 221))] [1,2,3,10,11,13,14] (.draw [fi 222 2 11,lq 223 222,fi 224 0 14,oo 225 (.load (some 3) (tp 224)),oo 226 (.call 20 [tp 225]),fi 227 3 14,lq 228 227,fi 229 4 14,lq 230 229,oo 231 (.build [.pd (.raw (.int .i64 0)),.pd (.raw (.string ⟨#[]⟩)),.pd (.raw (.string ⟨#[]⟩)),.pd (.raw (.int .i64 0)),.pd (.raw (.int .i64 0))] [(0,3,tp 226),(3,1,tp 228),(4,1,tp 230)]),oo 232 (.bslice 76 5 [tp 231]),oo 233 (.append 76 5 56 (tp 223) (tp 232)),fi 234 2 11,.mk none none (.store 1 (tp 234) (tp 233))] [0,1,0,4,12,0,32,0,128,508,1020,2047,4095,8191] (.take 0 (.take 1 (.take 2 (.take 3 (.take 5 (.take 6 (.take 7 (.take 8 (.alts (.cons 4 false (.take 9 (.alts (.cons 10 false (.alts (.cons 11 true (.take 12 (.alts (.cons 13 true .done .nil))) .nil)) .nil))) .nil)))))))))) (some [1,2,3,10,11,13])))) (.region [mq 211 13,oo 212 (.bin .add (tp 211) (ci 1)),mq 13 212] (some [1,2,3,10,11,13]))))))) (.region [fi 235 10 3,lq 236 235,oo 237 (.load (some 3) (tp 11)),oo 238 (.bslice 69 3 [tp 237]),oo 239 (.append 69 3 72 (tp 236) (tp 238)),fi 240 10 3,.mk none none (.store 1 (tp 240) (tp 239))] (some [1,2,3,10])))))) (.region [mq 158 10,oo 159 (.bin .add (tp 158) (ci 1)),mq 10 159] (some [1,2,3,10]))))))) (sr [oo 241 (.load (some 13) (tp 3)),.mk none none (.store 13 (tp 2) (tp 241))] [2] .ret))))))))
def an_z8s55 : Ann := ann [0,1,2,3,5,4,6,7,9,10,8,11,12,14,15,13,16,17,19,18,20,21,23,24,25,27,26,28,29,31,32,30,22,33,34] ac_z8s55
theorem ok_z8s55 : okd Tryz.prog an_z8s55 ac_z8s55 Tryz.f10 := ⟨by kernel_rfl, by kernel_rfl⟩
theorem ret_z8s55 (st : St) : resD Tryz.prog st Tryz.f10.results.toList = resA st [.cell 2 (some 13)] := resD_of (by kernel_rfl)

def ac_zh218 : AC := (sr [oo 2 (.mv (.const (.slice none 0 0)))] [0] (sr [oo 3 (.mv (.const (.slice none 0 0)))] [0,3] (.seq (sr [oo 4 (.mv (ci 0))] [0,3,4] (.block 0 (.loop (.seq (sr [mq 5 4,mq 6 0,oo 7 (.len (tp 6) false),oo 8 (.bin .lss (tp 5) (tp 7)),mq 9 8,og 9 true 10 (.mv (tp 4)),og 9 true 11 (.bin .lss (tp 10) (ci 24)),oo 12 (.pick (tp 9) (tp 11) (cq false))] [0,3,4,12] (.cond (tp 12) .skip (.exit 0))) (.seq (.block 1 (.region [mq 15 3,mq 16 0,mq 17 4,oo 18 (.idxA 13 (tp 16) (tp 17)),oo 19 (.load (some 13) (tp 18)),oo 20 (.call 10 [tp 19]),oo 21 (.bslice 33 13 [tp 20]),oo 22 (.append 33 13 256 (tp 15) (tp 21)),mq 3 22] (some [0,3,4]))) (.region [mq 13 4,oo 14 (.bin .add (tp 13) (ci 1)),mq 4 14] (some [0,3,4]))))))) (sr [mq 23 3,mq 2 23] [2] .ret))))
def an_zh218 : Ann := ann (List.range 7) ac_zh218
theorem ok_zh218 : okd Tryz.prog an_zh218 ac_zh218 Tryz.f9 := ⟨by kernel_rfl, by kernel_rfl⟩

end Go.Proofs.YtcnhcamimcpinaaGreatDoor


namespace Go.Proofs.YtcnhcamimcpinaaGreatDoor
open Go Go.RowKit
set_option linter.unusedSimpArgs false
set_option linter.unusedVariables false
set_option maxRecDepth 100000

theorem Reps.tell {g : Gh} {w : World} {d : D} : ∀ {ds : List D} {vs : List Value} (_ : Reps g w ds vs) (i : Nat) (_ : ∀ v, vs[i]? = some v → Rep g w d v), Reps g w (ds.set i d) vs
 | [], _, h, _, _ => by simpa using h
 | e :: ds, _, h, i, hd => by
   simp only [Reps] at h
   obtain ⟨v, vs', rfl, hv, hs⟩ := h
   cases i with
   | zero => exact ⟨v, vs', rfl, hd v rfl, hs⟩
   | succ i => exact ⟨v, vs', rfl, hv, Reps.tell hs i (fun u hu => hd u (by simpa using hu))⟩

theorem SR.tellB {C : Ctx} {st : St} {g : Gh} {a : Act} {w : World} (h : SR C st g a w) {n : Nat} {ds ds' : List D} (hn : lk st.bs n = some ds) (hd : ∀ vs, Reps g w ds vs → Reps g w ds' vs) : SR C { st with bs := (n, ds') :: st.bs } g a w := by
 have m := h.mem
 refine ⟨h.defers, h.size, h.rep, { m with bxs := fun k es hk => ?_ }, h.x, h.fix⟩
 simp only [lk] at hk
 split at hk
 ·rename_i hkn
  subst hkn
  cases hk
  obtain ⟨b, cs, t, h1, h2, h3⟩ := m.bxs _ ds hn
  exact ⟨b, cs, t, h1, h2, hd _ h3⟩
 ·exact m.bxs k es hk

theorem purges_at : ∀ (t : Nat) (ds : List D) (i : Nat), ds[i]? = some .nils → (D.purges t ds)[i]? = some .nils
 | _, [], _, h => by simp at h
 | t, d :: ds, 0, h => by
   simp only [List.getElem?_cons_zero, Option.some.injEq] at h
   subst h
   simp [D.purges, D.purge]
 | t, d :: ds, i + 1, h => by
   simp only [List.getElem?_cons_succ] at h
   simpa [D.purges] using purges_at t ds i h

theorem lk_purge {st : St} {t n : Nat} {ds : List D} (h : lk st.bs n = some ds) : lk (st.purge t).bs n = some (D.purges t ds) := by
 simp only [St.purge]
 rw [lk_map (fun ds => D.purges t ds) st.bs n, h]; rfl

theorem Weak.ownB0 {P : Program} {st : St} (n i t : Nat) (e : TypeId) {ti : TypeInfo} (hi : P.info? e = some ti) (hpos : 0 < ti.size) {ds : List D} (h : lk st.bs n = some ds) (hn : ds[i]? = some .nils) :
 Weak P st { st.purge t with bs := (n, (D.purges t ds).set i (.own e ti.size [] t)) :: (st.purge t).bs } := by
 intro C g a w hP hs
 subst hP
 have h1 := hs.purge t
 obtain ⟨h2, _⟩ := SR.owned h1 t (by simp) (grownBy_same w none) _ h1.x (fun k e => by cases e) (fun _ h => h) (fun k e => by cases e) e ti hi hpos (.slice none 0 0) 0 [] (World.ownsRow_nil _ _ _ _) (fun b hb => by cases hb) (fun b o _ hb => by cases hb)
 refine ⟨_, h2.tellB (lk_purge h) fun vs hv => ?_⟩
 refine hv.tell i fun v hvi => ?_
 obtain ⟨u, hu, hr⟩ := hv.get i _ (purges_at t ds i hn)
 rw [hvi] at hu
 cases hu
 simp only [Rep] at hr
 rw [hr]
 simp only [Rep]
 exact ⟨.empty _ _, by simp, by simp⟩

theorem Weak.ownB {P : Program} {st st' : St} (n i t : Nat) (e : TypeId) (sz : Nat) (hi : (P.info? e).map (·.size) = some sz) (hpos : 0 < sz) {ds : List D} (h : lk st.bs n = some ds) (hn : ds[i]? = some .nils)
 (hf : lessL st'.fr (st.purge t).fr) (hb : lessL st'.bs ((n, (D.purges t ds).set i (.own e sz [] t)) :: (st.purge t).bs)) (hm : lessL st'.ms st.ms) (hh : st'.hs = st.hs) : Weak P st st' := by
 obtain ⟨ti, h1, rfl⟩ := Option.map_eq_some_iff.1 hi
 exact (Weak.ownB0 n i t e h1 hpos h hn).trans (Weak.less hf hb hm hh)

theorem run_cut {P : Program} {x y : AC} {st s1 : St} {S : List Fr} {K : Exit → St → Prop} (h1 : ∀ K' : Exit → St → Prop, K' .normal s1 → run P x st (contS P [] K')) (h2 : run P y s1 (contS P S K)) : run P (.seq x y) st (contS P S K) := by
 rw [run_seq]; exact h1 (contS P (.seq y :: S) K) h2

theorem few_size (s : ByteArray) : (few s).size ≤ 100 := by
 unfold few
 split
 ·assumption
 ·simp [ByteArray.size_extract]; omega

theorem law3_Few (k : Int) (v : ByteArray) : Pure Tryz.prog 48 [.agg [int k, str v]] (fun d => d = .agg [int k, str (few v)]) := by
 refine pure_of_run follows an_zyx20 Tryz.func48 rfl ok_zyx20.1 ok_zyx20.2 (by simp [Tryz.ntmps48]) ?_
 rw [run_start]
 simp only [ac_zyx20, go_sem, contS_seq, simprocAttr]
 refine (law1_Few v).callW (enters_of Tryz.func21 rfl rfl) _ rfl rfl ?_
 rintro d rfl
 simp only [go_sem, contS_seq, simprocAttr]
 simp only [retK, resD, resA, AOp.ex, St.ev, retL, oneD, simprocAttr, ret_zyx20]
 exact ⟨_, rfl, rfl, rfl⟩

def fewPair (p : APair) : APair := ⟨few p.name, few p.val⟩
def fewPairs (l : List APair) : List APair := (l.take 31).map fewPair

theorem fewPair_ok (p : APair) : (fewPair p).ok := ⟨by have := few_size p.name; simp [fewPair]; omega, by have := few_size p.val; simp [fewPair]; omega⟩

theorem few_step {α β : Type} {f : β → List PD} {g : α → β} {l : List α} {i : Nat} {x : α} (h : l[i]? = some x) : rows f ((l.take i).map g) ++ [f (g x)] = rows f ((l.take (i + 1)).map g) := by
 rw [take_at h, List.map_append]; exact rows_one _ (g x)

theorem few_len {α β : Type} {f : β → List PD} {g : α → β} {l : List α} {i n : Nat} (h : i ≤ n) : (rows f ((l.take i).map g)).length ≤ n := by simp [rows]; omega

theorem few_end {α β : Type} {g : α → β} {l : List α} {i n : Nat} (h : i ≤ n) (hl : i ≤ l.length) (he : ¬ (i < l.length ∧ i < n)) : (l.take i).map g = (l.take n).map g := by
 rcases Nat.lt_or_ge i n with h6 | h6
 ·rw [List.take_of_length_le (by omega), List.take_of_length_le (by omega)]
 ·rw [show i = n by omega]

theorem law5_Few (l : List APair) : Pure Tryz.prog 24 [.pd (.slice (rows APair.pd l))] (fun d => d = .pd (.slice (rows APair.pd (fewPairs l)))) := by
 refine pure_of_run follows an_ztgmw Tryz.func24 rfl ok_ztgmw.1 ok_ztgmw.2 (by simp [Tryz.ntmps24]) ?_
 rw [run_start]
 simp only [ac_ztgmw, go_sem, contS_seq, simprocAttr, rows_len]
 refine loopS (fun k st => ∃ i : Nat, k = 31 - i ∧ i ≤ 31 ∧ i ≤ l.length ∧
  st = ⟨[(0, .pd (.slice (rows APair.pd l))), (3, .own 90 2 (rows APair.pd ((l.take i).map fewPair)) 30), (4, int i)], [], [], .no⟩) 31 _
  ?_ ⟨0, rfl, by omega, by omega, rfl⟩ ?_
 ·exact Weak.own1 3 30 90 2 (by kernel_rfl) (by decide) rfl (by simp [lessL, lk, St.purge, St.put, D.purge, rows]) (by simp [lessL, lk, St.purge, D.purges, D.purge]) (by simp [lessL]) rfl
 rintro k st ⟨i, rfl, hi6, hi, rfl⟩
 have hw := i64_succ (show i < 1000000000 by omega)
 by_cases hlt : i < l.length ∧ i < 31
 ·obtain ⟨x, hx⟩ := at_lt hlt.1
  have h1 : ((i : Int) < (l.length : Int)) = True := eq_true (by omega)
  have h2 : ((i : Int) < 31) = True := eq_true (by omega)
  simp only [go_sem, contS_seq, simprocAttr, go_sem, rows_len, rows_get hx, h1, h2]
  refine (law1_Few x.name).callX (enters_of Tryz.func21 rfl rfl) _ rfl rfl ?_
  rintro d rfl
  simp only [go_sem, contS_seq, simprocAttr, go_sem, rows_len, rows_get hx]
  refine (law1_Few x.val).callX (enters_of Tryz.func21 rfl rfl) _ rfl rfl ?_
  rintro d rfl
  simp only [go_sem, contS_seq, simprocAttr, go_sem, hw]
  have hl := few_len (f := APair.pd) (g := fewPair) (l := l) hi6
  have e1 : rows APair.pd ((l.take i).map fewPair) ++ [[PD.raw (Value.string (few x.name)), PD.raw (Value.string (few x.val))]] = rows APair.pd ((l.take (i + 1)).map fewPair) := few_step hx
  rw [e1]
  refine ⟨by simp, by unfold maxLen; omega, by omega, 31 - (i + 1), _, by omega, ?_, i + 1, rfl, by omega, by omega, rfl⟩
  exact lessA
 ·have h3 := few_end (g := fewPair) hi6 hi hlt
  rw [h3]
  by_cases h1 : i < l.length
  ·have h1' : ((i : Int) < (l.length : Int)) = True := eq_true (by omega)
   have h2 : ((i : Int) < 31) = False := eq_false (by omega)
   simp only [go_sem, contS_seq, simprocAttr, go_sem, rows_len, h1', h2]
   simp only [retK, resD, retL, oneD, simprocAttr, Tryz.results24]
   exact ⟨_, rfl, rfl, rfl⟩
  ·have h1' : ((i : Int) < (l.length : Int)) = False := eq_false (by omega)
   simp only [go_sem, contS_seq, simprocAttr, go_sem, rows_len, h1']
   simp only [retK, resD, retL, oneD, simprocAttr, Tryz.results24]
   exact ⟨_, rfl, rfl, rfl⟩

def fewFilter (f : AFilter) : AFilter := { f with name := few f.name, val := few f.val, host := few f.host, path := few f.path }
def fewFilters (l : List AFilter) : List AFilter := (l.take 9).map fewFilter
def fewSide (s : ASide) : ASide := ⟨s.kind, few s.space, few s.name⟩
def fewSides (l : List ASide) : List ASide := (l.take 5).map fewSide

theorem law7_Few (l : List AFilter) : Pure Tryz.prog 27 [.pd (.slice (rows AFilter.pd l))] (fun d => d = .pd (.slice (rows AFilter.pd (fewFilters l)))) := by
 refine pure_of_run follows an_z9moo Tryz.func27 rfl ok_z9moo.1 ok_z9moo.2 (by simp [Tryz.ntmps27]) ?_
 rw [run_start]
 simp only [ac_z9moo, go_sem, contS_seq, simprocAttr, rows_len]
 refine loopS (fun k st => ∃ i : Nat, k = 9 - i ∧ i ≤ 9 ∧ i ≤ l.length ∧
  st = ⟨[(0, .pd (.slice (rows AFilter.pd l))), (3, .own 95 8 (rows AFilter.pd ((l.take i).map fewFilter)) 39), (4, int i)], [], [], .no⟩) 9 _
  ?_ ⟨0, rfl, by omega, by omega, rfl⟩ ?_
 ·exact Weak.own1 3 39 95 8 (by kernel_rfl) (by decide) rfl (by simp [lessL, lk, St.purge, St.put, D.purge, rows]) (by simp [lessL, lk, St.purge, D.purges, D.purge]) (by simp [lessL]) rfl
 rintro k st ⟨i, rfl, hi6, hi, rfl⟩
 have hw := i64_succ (show i < 1000000000 by omega)
 by_cases hlt : i < l.length ∧ i < 9
 ·obtain ⟨x, hx⟩ := at_lt hlt.1
  have h1 : ((i : Int) < (l.length : Int)) = True := eq_true (by omega)
  have h2 : ((i : Int) < 9) = True := eq_true (by omega)
  simp only [go_sem, contS_seq, simprocAttr, rows_len, rows_get hx, h1, h2]
  refine (law1_Few x.name).callX (enters_of Tryz.func21 rfl rfl) _ rfl rfl ?_
  rintro d rfl
  simp only [go_sem, contS_seq, simprocAttr, rows_len, rows_get hx]
  refine (law1_Few x.val).callX (enters_of Tryz.func21 rfl rfl) _ rfl rfl ?_
  rintro d rfl
  simp only [go_sem, contS_seq, simprocAttr, rows_len, rows_get hx]
  refine (law1_Few x.host).callX (enters_of Tryz.func21 rfl rfl) _ rfl rfl ?_
  rintro d rfl
  simp only [go_sem, contS_seq, simprocAttr, rows_len, rows_get hx]
  refine (law1_Few x.path).callX (enters_of Tryz.func21 rfl rfl) _ rfl rfl ?_
  rintro d rfl
  simp only [go_sem, contS_seq, simprocAttr, rows_len, rows_get hx, hw]
  have hl := few_len (f := AFilter.pd) (g := fewFilter) (l := l) hi6
  have hl' : ((l.take i).map fewFilter).length ≤ i := by simp; omega
  have e1 : rows AFilter.pd ((l.take i).map fewFilter) ++ [[PD.raw (Value.int IntKind.i64 x.kind), PD.raw (Value.string (few x.name)), PD.raw (Value.string (few x.val)), PD.raw (Value.string (few x.host)), PD.raw (Value.int IntKind.i64 x.port), PD.raw (Value.string (few x.path)), PD.raw (Value.bool x.whole), PD.raw (Value.int IntKind.i64 x.code)]] = rows AFilter.pd ((l.take (i + 1)).map fewFilter) := few_step hx
  rw [e1]
  refine ⟨by simp, by unfold maxLen; omega, by omega, 9 - (i + 1), _, by omega, ?_, i + 1, rfl, by omega, by omega, rfl⟩
  exact lessA
 ·have h3 := few_end (g := fewFilter) hi6 hi hlt
  rw [h3]
  by_cases h1 : i < l.length
  ·have h1' : ((i : Int) < (l.length : Int)) = True := eq_true (by omega)
   have h2 : ((i : Int) < 9) = False := eq_false (by omega)
   simp only [go_sem, contS_seq, simprocAttr, rows_len, h1', h2]
   simp only [retK, resD, retL, oneD, simprocAttr, Tryz.results27]
   exact ⟨_, rfl, rfl, rfl⟩
  ·have h1' : ((i : Int) < (l.length : Int)) = False := eq_false (by omega)
   simp only [go_sem, contS_seq, simprocAttr, rows_len, h1']
   simp only [retK, resD, retL, oneD, simprocAttr, Tryz.results27]
   exact ⟨_, rfl, rfl, rfl⟩

theorem law9_sides (l : List ASide) : Pure Tryz.prog 25 [.pd (.slice (rows ASide.pd l))] (fun d => d = .pd (.slice (rows ASide.pd (fewSides l)))) := by
 refine pure_of_run follows an_zg0x2 Tryz.func25 rfl ok_zg0x2.1 ok_zg0x2.2 (by simp [Tryz.ntmps25]) ?_
 rw [run_start]
 simp only [ac_zg0x2, go_sem, contS_seq, simprocAttr, rows_len]
 refine loopS (fun k st => ∃ i : Nat, k = 5 - i ∧ i ≤ 5 ∧ i ≤ l.length ∧
  st = ⟨[(0, .pd (.slice (rows ASide.pd l))), (3, .own 91 3 (rows ASide.pd ((l.take i).map fewSide)) 35), (4, int i)], [], [], .no⟩) 5 _
  ?_ ⟨0, rfl, by omega, by omega, rfl⟩ ?_
 ·exact Weak.own1 3 35 91 3 (by kernel_rfl) (by decide) rfl (by simp [lessL, lk, St.purge, St.put, D.purge, rows]) (by simp [lessL, lk, St.purge, D.purges, D.purge]) (by simp [lessL]) rfl
 rintro k st ⟨i, rfl, hi6, hi, rfl⟩
 have hw := i64_succ (show i < 1000000000 by omega)
 by_cases hlt : i < l.length ∧ i < 5
 ·obtain ⟨x, hx⟩ := at_lt hlt.1
  have h1 : ((i : Int) < (l.length : Int)) = True := eq_true (by omega)
  have h2 : ((i : Int) < 5) = True := eq_true (by omega)
  simp only [go_sem, contS_seq, simprocAttr, rows_len, rows_get hx, h1, h2]
  refine (law1_Few x.space).callX (enters_of Tryz.func21 rfl rfl) _ rfl rfl ?_
  rintro d rfl
  simp only [go_sem, contS_seq, simprocAttr, rows_len, rows_get hx]
  refine (law1_Few x.name).callX (enters_of Tryz.func21 rfl rfl) _ rfl rfl ?_
  rintro d rfl
  simp only [go_sem, contS_seq, simprocAttr, rows_len, rows_get hx, hw]
  have hl := few_len (f := ASide.pd) (g := fewSide) (l := l) hi6
  have hl' : ((l.take i).map fewSide).length ≤ i := by simp; omega
  have e1 : rows ASide.pd ((l.take i).map fewSide) ++ [[PD.raw (Value.int IntKind.i64 x.kind), PD.raw (Value.string (few x.space)), PD.raw (Value.string (few x.name))]] = rows ASide.pd ((l.take (i + 1)).map fewSide) := few_step hx
  rw [e1]
  refine ⟨by simp, by unfold maxLen; omega, by omega, 5 - (i + 1), _, by omega, ?_, i + 1, rfl, by omega, by omega, rfl⟩
  exact lessA
 ·have h3 := few_end (g := fewSide) hi6 hi hlt
  rw [h3]
  by_cases h1 : i < l.length
  ·have h1' : ((i : Int) < (l.length : Int)) = True := eq_true (by omega)
   have h2 : ((i : Int) < 5) = False := eq_false (by omega)
   simp only [go_sem, contS_seq, simprocAttr, rows_len, h1', h2]
   simp only [retK, resD, retL, oneD, simprocAttr, Tryz.results25]
   exact ⟨_, rfl, rfl, rfl⟩
  ·have h1' : ((i : Int) < (l.length : Int)) = False := eq_false (by omega)
   simp only [go_sem, contS_seq, simprocAttr, rows_len, h1']
   simp only [retK, resD, retL, oneD, simprocAttr, Tryz.results25]
   exact ⟨_, rfl, rfl, rfl⟩

def fewMatch (m : AMatch) : AMatch := ⟨m.pkind, few m.pval, few m.method, fewPairs m.head, fewPairs m.query⟩

theorem law6_Few (m : AMatch) : Pure Tryz.prog 28 [m.d] (fun d => d = (fewMatch m).d) := by
 refine pure_of_run follows an_zt3fs Tryz.func28 rfl ok_zt3fs.1 ok_zt3fs.2 (by simp [Tryz.ntmps28]) ?_
 rw [run_start]
 simp only [ac_zt3fs, go_sem, contS_seq, simprocAttr]
 refine (law3_Few m.pkind m.pval).callX (enters_of Tryz.func48 rfl rfl) _ rfl rfl ?_
 rintro d rfl
 simp only [go_sem, contS_seq, simprocAttr]
 refine (law1_Few m.method).callX (enters_of Tryz.func21 rfl rfl) _ rfl rfl ?_
 rintro d rfl
 simp only [go_sem, contS_seq, simprocAttr]
 refine (law5_Few m.head).callX (enters_of Tryz.func24 rfl rfl) _ rfl rfl ?_
 rintro d rfl
 simp only [go_sem, contS_seq, simprocAttr]
 refine (law5_Few m.query).callX (enters_of Tryz.func24 rfl rfl) _ rfl rfl ?_
 rintro d rfl
 simp only [go_sem, contS_seq, simprocAttr]
 simp only [retK, resD, resA, AOp.ex, St.ev, retL, oneD, simprocAttr, ret_zt3fs]
 exact ⟨_, rfl, rfl, rfl⟩

def fewNeed (n : ANeed) : ANeed := ⟨n.kind, few n.name, (n.vals.take 9).map few⟩
def fewNeeds (l : List ANeed) : List ANeed := (l.take 9).map fewNeed

theorem law8_Few (l : List ANeed) : Pure Tryz.prog 26 [.pd (.slice (rows ANeed.pd l))] (fun d => d = .pd (.slice (rows ANeed.pd (fewNeeds l)))) := by
 refine pure_of_run follows an_zpih5 Tryz.func26 rfl ok_zpih5.1 ok_zpih5.2 (by simp [Tryz.ntmps26]) ?_
 rw [run_start]
 simp only [ac_zpih5, go_sem, contS_seq, simprocAttr, rows_len]
 refine loopS (fun k st => ∃ i : Nat, k = 9 - i ∧ i ≤ 9 ∧ i ≤ l.length ∧
  st = ⟨[(0, .pd (.slice (rows ANeed.pd l))), (3, .own 93 3 (rows ANeed.pd ((l.take i).map fewNeed)) 60), (4, int i)], [], [], .no⟩) 9 _
  ?_ ⟨0, rfl, by omega, by omega, rfl⟩ ?_
 ·exact Weak.own1 3 60 93 3 (by kernel_rfl) (by decide) rfl (by simp [lessL, lk, St.purge, St.put, D.purge, rows]) (by simp [lessL, lk, St.purge, D.purges, D.purge]) (by simp [lessL]) rfl
 rintro k st ⟨i, rfl, hi6, hi, rfl⟩
 have hw := i64_succ (show i < 1000000000 by omega)
 by_cases hlt : i < l.length ∧ i < 9
 ·obtain ⟨x, hx⟩ := at_lt hlt.1
  have h1 : ((i : Int) < (l.length : Int)) = True := eq_true (by omega)
  have h2 : ((i : Int) < 9) = True := eq_true (by omega)
  apply run_cut
  ·intro K' hK
   simp only [go_sem, contS_seq, simprocAttr, rows_len, h1, h2]
   exact hK
  apply run_cut
  ·intro K' hK
   rw [run_block]
   apply run_cut
   ·intro K'' hK'
    simp only [go_sem, contS_seq, simprocAttr, rows_len, rows_get hx]
    repeat' (first | exact hK' | (refine (law1_Few x.name).callX (enters_of Tryz.func21 rfl rfl) _ rfl rfl ?_; rintro _ rfl; simp only [go_sem, contS_seq, simprocAttr, rows_len, rows_get hx]) | refine And.intro ?_ ?_)
   simp only [go_sem, contS_seq, simprocAttr]
   refine loopS (fun k st => ∃ j : Nat, k = 9 - j ∧ j ≤ 9 ∧ j ≤ x.vals.length ∧
    st = ⟨[(0, .pd (.slice (rows ANeed.pd l))), (3, .own 93 3 (rows ANeed.pd ((l.take i).map fewNeed)) 60), (4, int i), (5, .ptr 5 0), (6, int j)],
     [(5, [int x.kind, str (few x.name), .own 9 1 (strs ((x.vals.take j).map few)) 55])], [], .no⟩) 9 _
    ?_ ⟨0, rfl, by omega, by omega, rfl⟩ ?_
   ·exact Weak.ownB 5 2 55 9 1 (by kernel_rfl) (by decide) rfl rfl (by simp [lessL, lk, St.purge, D.purge, rows]) (by simp [lessL, lk, St.purge, D.purges, D.purge, rows]) (by simp [lessL]) rfl
   rintro k st ⟨j, rfl, hj6, hj, rfl⟩
   have hwj := i64_succ (show j < 1000000000 by omega)
   by_cases hltj : j < x.vals.length ∧ j < 9
   ·obtain ⟨v, hv⟩ := at_lt hltj.1
    have h1' : ((j : Int) < (x.vals.length : Int)) = True := eq_true (by omega)
    have h2' : ((j : Int) < 9) = True := eq_true (by omega)
    simp only [go_sem, contS_seq, simprocAttr, rows_len, rows_get hx, rows_get hv, h1', h2']
    refine (law1_Few v).callX (enters_of Tryz.func21 rfl rfl) _ rfl rfl ?_
    rintro d rfl
    simp only [go_sem, contS_seq, simprocAttr, rows_get hx, rows_get hv, hwj]
    have e1 : strs ((x.vals.take j).map few) ++ [[PD.raw (Value.string (few v))]] = strs ((x.vals.take (j + 1)).map few) := few_step hv
    have hl : (strs ((x.vals.take j).map few)).length ≤ 9 := few_len hj6
    rw [e1]
    refine ⟨by simp, by unfold maxLen; omega, by omega, 9 - (j + 1), _, by omega, ?_, j + 1, rfl, by omega, by omega, rfl⟩
    exact lessA
   ·have h3 := few_end (g := few) hj6 hj hltj
    rw [h3]
    have hl' : ((l.take i).map fewNeed).length ≤ i := by simp; omega
    have e1 : rows ANeed.pd ((l.take i).map fewNeed) ++ [[pInt x.kind, pStr (few x.name), .slice (strs ((x.vals.take 9).map few))]] = rows ANeed.pd ((l.take (i + 1)).map fewNeed) := few_step hx
    by_cases h1 : j < x.vals.length
    ·have h1' : ((j : Int) < (x.vals.length : Int)) = True := eq_true (by omega)
     have h2' : ((j : Int) < 9) = False := eq_false (by omega)
     simp only [go_sem, contS_seq, simprocAttr, rows_get hx, rows_len, h1', h2']
     refine ⟨by simp, by unfold maxLen; omega, by omega, ?_⟩
     rw [e1]
     exact hK
    ·have h1' : ((j : Int) < (x.vals.length : Int)) = False := eq_false (by omega)
     simp only [go_sem, contS_seq, simprocAttr, rows_get hx, rows_len, h1']
     refine ⟨by simp, by unfold maxLen; omega, by omega, ?_⟩
     rw [e1]
     exact hK
  simp only [go_sem, contS_seq, simprocAttr, hw]
  refine ⟨9 - (i + 1), _, by omega, ?_, i + 1, rfl, by omega, by omega, rfl⟩
  exact lessA
 ·have h3 := few_end (g := fewNeed) hi6 hi hlt
  rw [h3]
  by_cases h1 : i < l.length
  ·have h1' : ((i : Int) < (l.length : Int)) = True := eq_true (by omega)
   have h2 : ((i : Int) < 9) = False := eq_false (by omega)
   simp only [go_sem, contS_seq, simprocAttr, rows_len, h1', h2]
   simp only [retK, resD, retL, oneD, simprocAttr, Tryz.results26]
   exact ⟨_, rfl, rfl, rfl⟩
  ·have h1' : ((i : Int) < (l.length : Int)) = False := eq_false (by omega)
   simp only [go_sem, contS_seq, simprocAttr, rows_len, h1']
   simp only [retK, resD, retL, oneD, simprocAttr, Tryz.results26]
   exact ⟨_, rfl, rfl, rfl⟩


theorem run_cutJ {P : Program} {x y : AC} {st : St} {S : List Fr} {K : Exit → St → Prop} (J : St → Prop) (h1 : ∀ K' : Exit → St → Prop, (∀ s, J s → K' .normal s) → run P x st (contS P [] K')) (h2 : ∀ s, J s → run P y s (contS P S K)) : run P (.seq x y) st (contS P S K) := by
 rw [run_seq]; exact h1 (contS P (.seq y :: S) K) h2

def fewListener (l : AListener) : AListener := ⟨few l.name, l.port, l.tls, few l.host, fewRef l.cert, l.from_, fewNeeds l.needs⟩
def fewParent (p : AParent) : AParent := ⟨few p.space, few p.name, few p.section_, p.port⟩
def fewBackend (b : ABackend) : ABackend := ⟨fewRef b.ref, b.port, b.weight⟩
def fewRule (r : ARule) : ARule := ⟨(r.matches_.take 5).map fewMatch, fewFilters r.filters, (r.backends.take 5).map fewBackend⟩
def fewObj (o : AObj) : AObj := ⟨fewRef o.ref, o.good, fewPairs o.labels, o.ports.take 9, few o.cls, (o.listeners.take 9).map fewListener, (o.parents.take 5).map fewParent, (o.hosts.take 5).map few, (o.rules.take 7).map fewRule, fewSides o.from_, fewSides o.to_⟩

set_option maxHeartbeats 4000000 in
theorem law9_Few (o : AObj) : Pure Tryz.prog 10 [o.d] (fun d => d = (fewObj o).d) := by
 refine pure_of_run follows an_z8s55 Tryz.func10 rfl ok_z8s55.1 ok_z8s55.2 (by simp [Tryz.ntmps10]) ?_
 rw [run_start]
 simp only [ac_z8s55]
 apply run_cut
 ·intro K' hK
  simp only [go_sem, contS_seq, simprocAttr]
  exact hK
 apply run_cut
 ·intro K' hK
  simp only [go_sem, contS_seq, simprocAttr]
  repeat' (first | exact hK | (refine (law9_FewRef o.ref).callX (enters_of Tryz.func20 rfl rfl) _ rfl rfl ?_; rintro _ rfl; simp only [go_sem, contS_seq, simprocAttr]) | (refine (law5_Few o.labels).callX (enters_of Tryz.func24 rfl rfl) _ rfl rfl ?_; rintro _ rfl; simp only [go_sem, contS_seq, simprocAttr]) | (refine (law1_Few o.cls).callX (enters_of Tryz.func21 rfl rfl) _ rfl rfl ?_; rintro _ rfl; simp only [go_sem, contS_seq, simprocAttr]) | (refine (law9_sides o.from_).callX (enters_of Tryz.func25 rfl rfl) _ rfl rfl ?_; rintro _ rfl; simp only [go_sem, contS_seq, simprocAttr]) | (refine (law9_sides o.to_).callX (enters_of Tryz.func25 rfl rfl) _ rfl rfl ?_; rintro _ rfl; simp only [go_sem, contS_seq, simprocAttr]) | refine And.intro ?_ ?_)
 refine run_cutJ (fun s => ∃ i : Nat, s = ⟨[(41, bln false), (1, .ptr 1 0), (2, .ptr 2 0), (3, .ptr 3 0), (4, int i), (41, bln false)], [(1, [int o.ref.kind, str o.ref.space, str o.ref.name, bln o.good, .pd (.slice (rows APair.pd o.labels)), .pd (.slice (ints o.ports)), str o.cls, .pd (.slice (rows AListener.pd o.listeners)), .pd (.slice (rows AParent.pd o.parents)), .pd (.slice (strs o.hosts)), .pd (.slice (rows ARule.pd o.rules)), .pd (.slice (rows ASide.pd o.from_)), .pd (.slice (rows ASide.pd o.to_))]), (2, [int 0, str ⟨#[]⟩, str ⟨#[]⟩, bln false, .nils, .nils, str ⟨#[]⟩, .nils, .nils, .nils, .nils, .nils, .nils]), (3, [int (fewRef o.ref).kind, str (fewRef o.ref).space, str (fewRef o.ref).name, bln o.good, .pd (.slice (rows APair.pd (fewPairs o.labels))), .own 3 1 (rows cInt ((o.ports.take 9).map id)) 52, str (few o.cls), .nils, .nils, .nils, .nils, .pd (.slice (rows ASide.pd (fewSides o.from_))), .pd (.slice (rows ASide.pd (fewSides o.to_)))])], [], .no⟩) ?_ ?_
 ·intro K' hK
  simp only [go_sem, contS_seq, simprocAttr, rows_len]
  refine loopS (fun k st => ∃ i : Nat, k = 9 - i ∧ i ≤ 9 ∧ i ≤ o.ports.length ∧
   st = ⟨[(1, .ptr 1 0), (2, .ptr 2 0), (3, .ptr 3 0), (4, int i)], [(1, [int o.ref.kind, str o.ref.space, str o.ref.name, bln o.good, .pd (.slice (rows APair.pd o.labels)), .pd (.slice (ints o.ports)), str o.cls, .pd (.slice (rows AListener.pd o.listeners)), .pd (.slice (rows AParent.pd o.parents)), .pd (.slice (strs o.hosts)), .pd (.slice (rows ARule.pd o.rules)), .pd (.slice (rows ASide.pd o.from_)), .pd (.slice (rows ASide.pd o.to_))]), (2, [int 0, str ⟨#[]⟩, str ⟨#[]⟩, bln false, .nils, .nils, str ⟨#[]⟩, .nils, .nils, .nils, .nils, .nils, .nils]), (3, [int (fewRef o.ref).kind, str (fewRef o.ref).space, str (fewRef o.ref).name, bln o.good, .pd (.slice (rows APair.pd (fewPairs o.labels))), .own 3 1 (rows cInt ((o.ports.take i).map id)) 52, str (few o.cls), .nils, .nils, .nils, .nils, .pd (.slice (rows ASide.pd (fewSides o.from_))), .pd (.slice (rows ASide.pd (fewSides o.to_)))])], [], .no⟩) 9 _
   ?_ ⟨0, rfl, by omega, by omega, rfl⟩ ?_
  ·exact Weak.ownB 3 5 52 3 1 (by kernel_rfl) (by decide) rfl rfl (by simp [lessL, lk, St.purge, D.purge, rows]) (by simp [lessL, lk, St.purge, D.purges, D.purge, rows]) (by simp [lessL]) rfl
  rintro k st ⟨i, rfl, hi6, hi, rfl⟩
  have hw := i64_succ (show i < 1000000000 by omega)
  by_cases hlt : i < o.ports.length ∧ i < 9
  ·obtain ⟨x, hx⟩ := at_lt hlt.1
   have h1 : ((i : Int) < (o.ports.length : Int)) = True := eq_true (by omega)
   have h2 : ((i : Int) < 9) = True := eq_true (by omega)
   have hl' : ((o.ports.take i).map id).length ≤ i := by simp; omega
   have e1 : rows cInt ((o.ports.take i).map id) ++ [[PD.raw (Value.int IntKind.i64 x)]] = rows cInt ((o.ports.take (i + 1)).map id) := few_step hx
   simp only [go_sem, contS_seq, simprocAttr, rows_len, rows_get hx, h1, h2]
   simp only [go_sem, contS_seq, simprocAttr, hw, e1]
   refine ⟨by simp, by unfold maxLen; omega, by omega, 9 - (i + 1), _, by omega, ?_, i + 1, rfl, by omega, by omega, rfl⟩
   exact lessA
  ·have h3 := few_end (g := id) hi6 hi hlt
   rw [h3]
   by_cases h1 : i < o.ports.length
   ·have h1' : ((i : Int) < (o.ports.length : Int)) = True := eq_true (by omega)
    have h2 : ((i : Int) < 9) = False := eq_false (by omega)
    simp only [go_sem, contS_seq, simprocAttr, rows_len, h1', h2]
    exact hK _ ⟨i, rfl⟩
   ·have h1' : ((i : Int) < (o.ports.length : Int)) = False := eq_false (by omega)
    simp only [go_sem, contS_seq, simprocAttr, rows_len, h1']
    exact hK _ ⟨i, rfl⟩
 rintro s ⟨_, rfl⟩
 refine run_cutJ (fun s => ∃ i : Nat, s = ⟨[(62, bln false), (1, .ptr 1 0), (2, .ptr 2 0), (3, .ptr 3 0), (5, int i), (62, bln false)], [(1, [int o.ref.kind, str o.ref.space, str o.ref.name, bln o.good, .pd (.slice (rows APair.pd o.labels)), .pd (.slice (ints o.ports)), str o.cls, .pd (.slice (rows AListener.pd o.listeners)), .pd (.slice (rows AParent.pd o.parents)), .pd (.slice (strs o.hosts)), .pd (.slice (rows ARule.pd o.rules)), .pd (.slice (rows ASide.pd o.from_)), .pd (.slice (rows ASide.pd o.to_))]), (2, [int 0, str ⟨#[]⟩, str ⟨#[]⟩, bln false, .nils, .nils, str ⟨#[]⟩, .nils, .nils, .nils, .nils, .nils, .nils]), (3, [int (fewRef o.ref).kind, str (fewRef o.ref).space, str (fewRef o.ref).name, bln o.good, .pd (.slice (rows APair.pd (fewPairs o.labels))), .own 3 1 (rows cInt ((o.ports.take 9).map id)) 52, str (few o.cls), .own 49 9 (rows AListener.pd ((o.listeners.take 9).map fewListener)) 92, .nils, .nils, .nils, .pd (.slice (rows ASide.pd (fewSides o.from_))), .pd (.slice (rows ASide.pd (fewSides o.to_)))])], [], .no⟩) ?_ ?_
 ·intro K' hK
  simp only [go_sem, contS_seq, simprocAttr, rows_len]
  refine loopS (fun k st => ∃ i : Nat, k = 9 - i ∧ i ≤ 9 ∧ i ≤ o.listeners.length ∧
   st = ⟨[(1, .ptr 1 0), (2, .ptr 2 0), (3, .ptr 3 0), (5, int i)], [(1, [int o.ref.kind, str o.ref.space, str o.ref.name, bln o.good, .pd (.slice (rows APair.pd o.labels)), .pd (.slice (ints o.ports)), str o.cls, .pd (.slice (rows AListener.pd o.listeners)), .pd (.slice (rows AParent.pd o.parents)), .pd (.slice (strs o.hosts)), .pd (.slice (rows ARule.pd o.rules)), .pd (.slice (rows ASide.pd o.from_)), .pd (.slice (rows ASide.pd o.to_))]), (2, [int 0, str ⟨#[]⟩, str ⟨#[]⟩, bln false, .nils, .nils, str ⟨#[]⟩, .nils, .nils, .nils, .nils, .nils, .nils]), (3, [int (fewRef o.ref).kind, str (fewRef o.ref).space, str (fewRef o.ref).name, bln o.good, .pd (.slice (rows APair.pd (fewPairs o.labels))), .own 3 1 (rows cInt ((o.ports.take 9).map id)) 52, str (few o.cls), .own 49 9 (rows AListener.pd ((o.listeners.take i).map fewListener)) 92, .nils, .nils, .nils, .pd (.slice (rows ASide.pd (fewSides o.from_))), .pd (.slice (rows ASide.pd (fewSides o.to_)))])], [], .no⟩) 9 _
   ?_ ⟨0, rfl, by omega, by omega, rfl⟩ ?_
  ·exact Weak.ownB 3 7 92 49 9 (by kernel_rfl) (by decide) rfl rfl (by simp [lessL, lk, St.purge, D.purge, rows]) (by simp [lessL, lk, St.purge, D.purges, D.purge, rows]) (by simp [lessL]) rfl
  rintro k st ⟨i, rfl, hi6, hi, rfl⟩
  have hw := i64_succ (show i < 1000000000 by omega)
  by_cases hlt : i < o.listeners.length ∧ i < 9
  ·obtain ⟨x, hx⟩ := at_lt hlt.1
   have h1 : ((i : Int) < (o.listeners.length : Int)) = True := eq_true (by omega)
   have h2 : ((i : Int) < 9) = True := eq_true (by omega)
   have hl' : ((o.listeners.take i).map fewListener).length ≤ i := by simp; omega
   have e1 : rows AListener.pd ((o.listeners.take i).map fewListener) ++ [[PD.raw (Value.string (few x.name)), PD.raw (Value.int IntKind.i64 x.port), PD.raw (Value.bool x.tls), PD.raw (Value.string (few x.host)), PD.raw (Value.int IntKind.i64 (fewRef x.cert).kind), PD.raw (Value.string ((fewRef x.cert).space)), PD.raw (Value.string ((fewRef x.cert).name)), PD.raw (Value.int IntKind.i64 x.from_), PD.slice (rows ANeed.pd (fewNeeds x.needs))]] = rows AListener.pd ((o.listeners.take (i + 1)).map fewListener) := few_step hx
   simp only [go_sem, contS_seq, simprocAttr, rows_len, rows_get hx, h1, h2]
   repeat' (first | (refine (law1_Few x.name).callX (enters_of Tryz.func21 rfl rfl) _ rfl rfl ?_; rintro _ rfl; simp only [go_sem, contS_seq, simprocAttr, rows_len, rows_get hx]) | (refine (law1_Few x.host).callX (enters_of Tryz.func21 rfl rfl) _ rfl rfl ?_; rintro _ rfl; simp only [go_sem, contS_seq, simprocAttr, rows_len, rows_get hx]) | (refine (law9_FewRef x.cert).callX (enters_of Tryz.func20 rfl rfl) _ rfl rfl ?_; rintro _ rfl; simp only [go_sem, contS_seq, simprocAttr, rows_len, rows_get hx]) | (refine (law8_Few x.needs).callX (enters_of Tryz.func26 rfl rfl) _ rfl rfl ?_; rintro _ rfl; simp only [go_sem, contS_seq, simprocAttr, rows_len, rows_get hx]))
   simp only [go_sem, contS_seq, simprocAttr, hw, e1]
   refine ⟨by simp, by unfold maxLen; omega, by omega, 9 - (i + 1), _, by omega, ?_, i + 1, rfl, by omega, by omega, rfl⟩
   exact lessA
  ·have h3 := few_end (g := fewListener) hi6 hi hlt
   rw [h3]
   by_cases h1 : i < o.listeners.length
   ·have h1' : ((i : Int) < (o.listeners.length : Int)) = True := eq_true (by omega)
    have h2 : ((i : Int) < 9) = False := eq_false (by omega)
    simp only [go_sem, contS_seq, simprocAttr, rows_len, h1', h2]
    exact hK _ ⟨i, rfl⟩
   ·have h1' : ((i : Int) < (o.listeners.length : Int)) = False := eq_false (by omega)
    simp only [go_sem, contS_seq, simprocAttr, rows_len, h1']
    exact hK _ ⟨i, rfl⟩
 rintro s ⟨_, rfl⟩
 refine run_cutJ (fun s => ∃ i : Nat, s = ⟨[(102, bln false), (1, .ptr 1 0), (2, .ptr 2 0), (3, .ptr 3 0), (7, int i), (102, bln false)], [(1, [int o.ref.kind, str o.ref.space, str o.ref.name, bln o.good, .pd (.slice (rows APair.pd o.labels)), .pd (.slice (ints o.ports)), str o.cls, .pd (.slice (rows AListener.pd o.listeners)), .pd (.slice (rows AParent.pd o.parents)), .pd (.slice (strs o.hosts)), .pd (.slice (rows ARule.pd o.rules)), .pd (.slice (rows ASide.pd o.from_)), .pd (.slice (rows ASide.pd o.to_))]), (2, [int 0, str ⟨#[]⟩, str ⟨#[]⟩, bln false, .nils, .nils, str ⟨#[]⟩, .nils, .nils, .nils, .nils, .nils, .nils]), (3, [int (fewRef o.ref).kind, str (fewRef o.ref).space, str (fewRef o.ref).name, bln o.good, .pd (.slice (rows APair.pd (fewPairs o.labels))), .own 3 1 (rows cInt ((o.ports.take 9).map id)) 52, str (few o.cls), .own 49 9 (rows AListener.pd ((o.listeners.take 9).map fewListener)) 92, .own 55 4 (rows AParent.pd ((o.parents.take 5).map fewParent)) 125, .nils, .nils, .pd (.slice (rows ASide.pd (fewSides o.from_))), .pd (.slice (rows ASide.pd (fewSides o.to_)))])], [], .no⟩) ?_ ?_
 ·intro K' hK
  simp only [go_sem, contS_seq, simprocAttr, rows_len]
  refine loopS (fun k st => ∃ i : Nat, k = 5 - i ∧ i ≤ 5 ∧ i ≤ o.parents.length ∧
   st = ⟨[(1, .ptr 1 0), (2, .ptr 2 0), (3, .ptr 3 0), (7, int i)], [(1, [int o.ref.kind, str o.ref.space, str o.ref.name, bln o.good, .pd (.slice (rows APair.pd o.labels)), .pd (.slice (ints o.ports)), str o.cls, .pd (.slice (rows AListener.pd o.listeners)), .pd (.slice (rows AParent.pd o.parents)), .pd (.slice (strs o.hosts)), .pd (.slice (rows ARule.pd o.rules)), .pd (.slice (rows ASide.pd o.from_)), .pd (.slice (rows ASide.pd o.to_))]), (2, [int 0, str ⟨#[]⟩, str ⟨#[]⟩, bln false, .nils, .nils, str ⟨#[]⟩, .nils, .nils, .nils, .nils, .nils, .nils]), (3, [int (fewRef o.ref).kind, str (fewRef o.ref).space, str (fewRef o.ref).name, bln o.good, .pd (.slice (rows APair.pd (fewPairs o.labels))), .own 3 1 (rows cInt ((o.ports.take 9).map id)) 52, str (few o.cls), .own 49 9 (rows AListener.pd ((o.listeners.take 9).map fewListener)) 92, .own 55 4 (rows AParent.pd ((o.parents.take i).map fewParent)) 125, .nils, .nils, .pd (.slice (rows ASide.pd (fewSides o.from_))), .pd (.slice (rows ASide.pd (fewSides o.to_)))])], [], .no⟩) 5 _
   ?_ ⟨0, rfl, by omega, by omega, rfl⟩ ?_
  ·exact Weak.ownB 3 8 125 55 4 (by kernel_rfl) (by decide) rfl rfl (by simp [lessL, lk, St.purge, D.purge, rows]) (by simp [lessL, lk, St.purge, D.purges, D.purge, rows]) (by simp [lessL]) rfl
  rintro k st ⟨i, rfl, hi6, hi, rfl⟩
  have hw := i64_succ (show i < 1000000000 by omega)
  by_cases hlt : i < o.parents.length ∧ i < 5
  ·obtain ⟨x, hx⟩ := at_lt hlt.1
   have h1 : ((i : Int) < (o.parents.length : Int)) = True := eq_true (by omega)
   have h2 : ((i : Int) < 5) = True := eq_true (by omega)
   have hl' : ((o.parents.take i).map fewParent).length ≤ i := by simp; omega
   have e1 : rows AParent.pd ((o.parents.take i).map fewParent) ++ [[PD.raw (Value.string (few x.space)), PD.raw (Value.string (few x.name)), PD.raw (Value.string (few x.section_)), PD.raw (Value.int IntKind.i64 x.port)]] = rows AParent.pd ((o.parents.take (i + 1)).map fewParent) := few_step hx
   simp only [go_sem, contS_seq, simprocAttr, rows_len, rows_get hx, h1, h2]
   repeat' (first | (refine (law1_Few x.space).callX (enters_of Tryz.func21 rfl rfl) _ rfl rfl ?_; rintro _ rfl; simp only [go_sem, contS_seq, simprocAttr, rows_len, rows_get hx]) | (refine (law1_Few x.name).callX (enters_of Tryz.func21 rfl rfl) _ rfl rfl ?_; rintro _ rfl; simp only [go_sem, contS_seq, simprocAttr, rows_len, rows_get hx]) | (refine (law1_Few x.section_).callX (enters_of Tryz.func21 rfl rfl) _ rfl rfl ?_; rintro _ rfl; simp only [go_sem, contS_seq, simprocAttr, rows_len, rows_get hx]))
   simp only [go_sem, contS_seq, simprocAttr, hw, e1]
   refine ⟨by simp, by unfold maxLen; omega, by omega, 5 - (i + 1), _, by omega, ?_, i + 1, rfl, by omega, by omega, rfl⟩
   exact lessA
  ·have h3 := few_end (g := fewParent) hi6 hi hlt
   rw [h3]
   by_cases h1 : i < o.parents.length
   ·have h1' : ((i : Int) < (o.parents.length : Int)) = True := eq_true (by omega)
    have h2 : ((i : Int) < 5) = False := eq_false (by omega)
    simp only [go_sem, contS_seq, simprocAttr, rows_len, h1', h2]
    exact hK _ ⟨i, rfl⟩
   ·have h1' : ((i : Int) < (o.parents.length : Int)) = False := eq_false (by omega)
    simp only [go_sem, contS_seq, simprocAttr, rows_len, h1']
    exact hK _ ⟨i, rfl⟩
 rintro s ⟨_, rfl⟩
 refine run_cutJ (fun s => ∃ i : Nat, s = ⟨[(135, bln false), (1, .ptr 1 0), (2, .ptr 2 0), (3, .ptr 3 0), (9, int i), (135, bln false)], [(1, [int o.ref.kind, str o.ref.space, str o.ref.name, bln o.good, .pd (.slice (rows APair.pd o.labels)), .pd (.slice (ints o.ports)), str o.cls, .pd (.slice (rows AListener.pd o.listeners)), .pd (.slice (rows AParent.pd o.parents)), .pd (.slice (strs o.hosts)), .pd (.slice (rows ARule.pd o.rules)), .pd (.slice (rows ASide.pd o.from_)), .pd (.slice (rows ASide.pd o.to_))]), (2, [int 0, str ⟨#[]⟩, str ⟨#[]⟩, bln false, .nils, .nils, str ⟨#[]⟩, .nils, .nils, .nils, .nils, .nils, .nils]), (3, [int (fewRef o.ref).kind, str (fewRef o.ref).space, str (fewRef o.ref).name, bln o.good, .pd (.slice (rows APair.pd (fewPairs o.labels))), .own 3 1 (rows cInt ((o.ports.take 9).map id)) 52, str (few o.cls), .own 49 9 (rows AListener.pd ((o.listeners.take 9).map fewListener)) 92, .own 55 4 (rows AParent.pd ((o.parents.take 5).map fewParent)) 125, .own 9 1 (rows cStr ((o.hosts.take 5).map few)) 147, .nils, .pd (.slice (rows ASide.pd (fewSides o.from_))), .pd (.slice (rows ASide.pd (fewSides o.to_)))])], [], .no⟩) ?_ ?_
 ·intro K' hK
  simp only [go_sem, contS_seq, simprocAttr, rows_len]
  refine loopS (fun k st => ∃ i : Nat, k = 5 - i ∧ i ≤ 5 ∧ i ≤ o.hosts.length ∧
   st = ⟨[(1, .ptr 1 0), (2, .ptr 2 0), (3, .ptr 3 0), (9, int i)], [(1, [int o.ref.kind, str o.ref.space, str o.ref.name, bln o.good, .pd (.slice (rows APair.pd o.labels)), .pd (.slice (ints o.ports)), str o.cls, .pd (.slice (rows AListener.pd o.listeners)), .pd (.slice (rows AParent.pd o.parents)), .pd (.slice (strs o.hosts)), .pd (.slice (rows ARule.pd o.rules)), .pd (.slice (rows ASide.pd o.from_)), .pd (.slice (rows ASide.pd o.to_))]), (2, [int 0, str ⟨#[]⟩, str ⟨#[]⟩, bln false, .nils, .nils, str ⟨#[]⟩, .nils, .nils, .nils, .nils, .nils, .nils]), (3, [int (fewRef o.ref).kind, str (fewRef o.ref).space, str (fewRef o.ref).name, bln o.good, .pd (.slice (rows APair.pd (fewPairs o.labels))), .own 3 1 (rows cInt ((o.ports.take 9).map id)) 52, str (few o.cls), .own 49 9 (rows AListener.pd ((o.listeners.take 9).map fewListener)) 92, .own 55 4 (rows AParent.pd ((o.parents.take 5).map fewParent)) 125, .own 9 1 (rows cStr ((o.hosts.take i).map few)) 147, .nils, .pd (.slice (rows ASide.pd (fewSides o.from_))), .pd (.slice (rows ASide.pd (fewSides o.to_)))])], [], .no⟩) 5 _
   ?_ ⟨0, rfl, by omega, by omega, rfl⟩ ?_
  ·exact Weak.ownB 3 9 147 9 1 (by kernel_rfl) (by decide) rfl rfl (by simp [lessL, lk, St.purge, D.purge, rows]) (by simp [lessL, lk, St.purge, D.purges, D.purge, rows]) (by simp [lessL]) rfl
  rintro k st ⟨i, rfl, hi6, hi, rfl⟩
  have hw := i64_succ (show i < 1000000000 by omega)
  by_cases hlt : i < o.hosts.length ∧ i < 5
  ·obtain ⟨x, hx⟩ := at_lt hlt.1
   have h1 : ((i : Int) < (o.hosts.length : Int)) = True := eq_true (by omega)
   have h2 : ((i : Int) < 5) = True := eq_true (by omega)
   have hl' : ((o.hosts.take i).map few).length ≤ i := by simp; omega
   have e1 : rows cStr ((o.hosts.take i).map few) ++ [[PD.raw (Value.string (few x))]] = rows cStr ((o.hosts.take (i + 1)).map few) := few_step hx
   simp only [go_sem, contS_seq, simprocAttr, rows_len, rows_get hx, h1, h2]
   repeat' (first | (refine (law1_Few x).callX (enters_of Tryz.func21 rfl rfl) _ rfl rfl ?_; rintro _ rfl; simp only [go_sem, contS_seq, simprocAttr, rows_len, rows_get hx]))
   simp only [go_sem, contS_seq, simprocAttr, hw, e1]
   refine ⟨by simp, by unfold maxLen; omega, by omega, 5 - (i + 1), _, by omega, ?_, i + 1, rfl, by omega, by omega, rfl⟩
   exact lessA
  ·have h3 := few_end (g := few) hi6 hi hlt
   rw [h3]
   by_cases h1 : i < o.hosts.length
   ·have h1' : ((i : Int) < (o.hosts.length : Int)) = True := eq_true (by omega)
    have h2 : ((i : Int) < 5) = False := eq_false (by omega)
    simp only [go_sem, contS_seq, simprocAttr, rows_len, h1', h2]
    exact hK _ ⟨i, rfl⟩
   ·have h1' : ((i : Int) < (o.hosts.length : Int)) = False := eq_false (by omega)
    simp only [go_sem, contS_seq, simprocAttr, rows_len, h1']
    exact hK _ ⟨i, rfl⟩
 rintro s ⟨_, rfl⟩
 refine run_cutJ (fun s => ∃ i : Nat, s = ⟨[(157, bln false), (1, .ptr 1 0), (2, .ptr 2 0), (3, .ptr 3 0), (10, int i), (157, bln false)], [(1, [int o.ref.kind, str o.ref.space, str o.ref.name, bln o.good, .pd (.slice (rows APair.pd o.labels)), .pd (.slice (ints o.ports)), str o.cls, .pd (.slice (rows AListener.pd o.listeners)), .pd (.slice (rows AParent.pd o.parents)), .pd (.slice (strs o.hosts)), .pd (.slice (rows ARule.pd o.rules)), .pd (.slice (rows ASide.pd o.from_)), .pd (.slice (rows ASide.pd o.to_))]), (2, [int 0, str ⟨#[]⟩, str ⟨#[]⟩, bln false, .nils, .nils, str ⟨#[]⟩, .nils, .nils, .nils, .nils, .nils, .nils]), (3, [int (fewRef o.ref).kind, str (fewRef o.ref).space, str (fewRef o.ref).name, bln o.good, .pd (.slice (rows APair.pd (fewPairs o.labels))), .own 3 1 (rows cInt ((o.ports.take 9).map id)) 52, str (few o.cls), .own 49 9 (rows AListener.pd ((o.listeners.take 9).map fewListener)) 92, .own 55 4 (rows AParent.pd ((o.parents.take 5).map fewParent)) 125, .own 9 1 (rows cStr ((o.hosts.take 5).map few)) 147, .own 69 3 (rows ARule.pd ((o.rules.take 7).map fewRule)) 239, .pd (.slice (rows ASide.pd (fewSides o.from_))), .pd (.slice (rows ASide.pd (fewSides o.to_)))])], [], .no⟩) ?_ ?_
 ·intro K' hK
  simp only [go_sem, contS_seq, simprocAttr, rows_len]
  refine loopS (fun k st => ∃ i : Nat, k = 7 - i ∧ i ≤ 7 ∧ i ≤ o.rules.length ∧
   st = ⟨[(1, .ptr 1 0), (2, .ptr 2 0), (3, .ptr 3 0), (10, int i)], [(1, [int o.ref.kind, str o.ref.space, str o.ref.name, bln o.good, .pd (.slice (rows APair.pd o.labels)), .pd (.slice (ints o.ports)), str o.cls, .pd (.slice (rows AListener.pd o.listeners)), .pd (.slice (rows AParent.pd o.parents)), .pd (.slice (strs o.hosts)), .pd (.slice (rows ARule.pd o.rules)), .pd (.slice (rows ASide.pd o.from_)), .pd (.slice (rows ASide.pd o.to_))]), (2, [int 0, str ⟨#[]⟩, str ⟨#[]⟩, bln false, .nils, .nils, str ⟨#[]⟩, .nils, .nils, .nils, .nils, .nils, .nils]), (3, [int (fewRef o.ref).kind, str (fewRef o.ref).space, str (fewRef o.ref).name, bln o.good, .pd (.slice (rows APair.pd (fewPairs o.labels))), .own 3 1 (rows cInt ((o.ports.take 9).map id)) 52, str (few o.cls), .own 49 9 (rows AListener.pd ((o.listeners.take 9).map fewListener)) 92, .own 55 4 (rows AParent.pd ((o.parents.take 5).map fewParent)) 125, .own 9 1 (rows cStr ((o.hosts.take 5).map few)) 147, .own 69 3 (rows ARule.pd ((o.rules.take i).map fewRule)) 239, .pd (.slice (rows ASide.pd (fewSides o.from_))), .pd (.slice (rows ASide.pd (fewSides o.to_)))])], [], .no⟩) 7 _
   ?_ ⟨0, rfl, by omega, by omega, rfl⟩ ?_
  ·exact Weak.ownB 3 10 239 69 3 (by kernel_rfl) (by decide) rfl rfl (by simp [lessL, lk, St.purge, D.purge, rows]) (by simp [lessL, lk, St.purge, D.purges, D.purge, rows]) (by simp [lessL]) rfl
  rintro k st ⟨i, rfl, hi6, hi, rfl⟩
  have hw := i64_succ (show i < 1000000000 by omega)
  by_cases hlt : i < o.rules.length ∧ i < 7
  ·obtain ⟨x, hx⟩ := at_lt hlt.1
   have h1 : ((i : Int) < (o.rules.length : Int)) = True := eq_true (by omega)
   have h2 : ((i : Int) < 7) = True := eq_true (by omega)
   have hl' : ((o.rules.take i).map fewRule).length ≤ i := by simp; omega
   have e1 : rows ARule.pd ((o.rules.take i).map fewRule) ++ [[PD.slice (rows AMatch.pd ((x.matches_.take 5).map fewMatch)), PD.slice (rows AFilter.pd (fewFilters x.filters)), PD.slice (rows ABackend.pd ((x.backends.take 5).map fewBackend))]] = rows ARule.pd ((o.rules.take (i + 1)).map fewRule) := few_step hx
   apply run_cut
   ·intro K' hK
    simp only [go_sem, contS_seq, simprocAttr, rows_len, h1, h2]
    exact hK
   apply run_cut
   ·intro K' hK
    rw [run_block]
    apply run_cut
    ·intro K' hK
     simp only [go_sem, contS_seq, simprocAttr, rows_len, rows_get hx]
     refine (law7_Few x.filters).callW (enters_of Tryz.func27 rfl rfl) _ rfl rfl ?_
     rintro _ rfl
     simp only [go_sem, contS_seq, simprocAttr]
     exact hK
    refine run_cutJ (fun s => ∃ j : Nat, s = ⟨[(180, bln false), (1, .ptr 1 0), (2, .ptr 2 0), (3, .ptr 3 0), (10, int i), (11, .ptr 11 0), (12, int j), (180, bln false)], [(1, [int o.ref.kind, str o.ref.space, str o.ref.name, bln o.good, .pd (.slice (rows APair.pd o.labels)), .pd (.slice (ints o.ports)), str o.cls, .pd (.slice (rows AListener.pd o.listeners)), .pd (.slice (rows AParent.pd o.parents)), .pd (.slice (strs o.hosts)), .pd (.slice (rows ARule.pd o.rules)), .pd (.slice (rows ASide.pd o.from_)), .pd (.slice (rows ASide.pd o.to_))]), (2, [int 0, str ⟨#[]⟩, str ⟨#[]⟩, bln false, .nils, .nils, str ⟨#[]⟩, .nils, .nils, .nils, .nils, .nils, .nils]), (3, [int (fewRef o.ref).kind, str (fewRef o.ref).space, str (fewRef o.ref).name, bln o.good, .pd (.slice (rows APair.pd (fewPairs o.labels))), .own 3 1 (rows cInt ((o.ports.take 9).map id)) 52, str (few o.cls), .own 49 9 (rows AListener.pd ((o.listeners.take 9).map fewListener)) 92, .own 55 4 (rows AParent.pd ((o.parents.take 5).map fewParent)) 125, .own 9 1 (rows cStr ((o.hosts.take 5).map few)) 147, .own 69 3 (rows ARule.pd ((o.rules.take i).map fewRule)) 239, .pd (.slice (rows ASide.pd (fewSides o.from_))), .pd (.slice (rows ASide.pd (fewSides o.to_)))]), (11, [.own 73 5 (rows AMatch.pd ((x.matches_.take 5).map fewMatch)) 196, .pd (.slice (rows AFilter.pd (fewFilters x.filters))), .nils])], [], .no⟩) ?_ ?_
    ·intro K' hK
     simp only [go_sem, contS_seq, simprocAttr, rows_len, rows_get hx]
     refine loopS (fun k st => ∃ j : Nat, k = 5 - j ∧ j ≤ 5 ∧ j ≤ x.matches_.length ∧
      st = ⟨[(1, .ptr 1 0), (2, .ptr 2 0), (3, .ptr 3 0), (10, int i), (11, .ptr 11 0), (12, int j)], [(1, [int o.ref.kind, str o.ref.space, str o.ref.name, bln o.good, .pd (.slice (rows APair.pd o.labels)), .pd (.slice (ints o.ports)), str o.cls, .pd (.slice (rows AListener.pd o.listeners)), .pd (.slice (rows AParent.pd o.parents)), .pd (.slice (strs o.hosts)), .pd (.slice (rows ARule.pd o.rules)), .pd (.slice (rows ASide.pd o.from_)), .pd (.slice (rows ASide.pd o.to_))]), (2, [int 0, str ⟨#[]⟩, str ⟨#[]⟩, bln false, .nils, .nils, str ⟨#[]⟩, .nils, .nils, .nils, .nils, .nils, .nils]), (3, [int (fewRef o.ref).kind, str (fewRef o.ref).space, str (fewRef o.ref).name, bln o.good, .pd (.slice (rows APair.pd (fewPairs o.labels))), .own 3 1 (rows cInt ((o.ports.take 9).map id)) 52, str (few o.cls), .own 49 9 (rows AListener.pd ((o.listeners.take 9).map fewListener)) 92, .own 55 4 (rows AParent.pd ((o.parents.take 5).map fewParent)) 125, .own 9 1 (rows cStr ((o.hosts.take 5).map few)) 147, .own 69 3 (rows ARule.pd ((o.rules.take i).map fewRule)) 239, .pd (.slice (rows ASide.pd (fewSides o.from_))), .pd (.slice (rows ASide.pd (fewSides o.to_)))]), (11, [.own 73 5 (rows AMatch.pd ((x.matches_.take j).map fewMatch)) 196, .pd (.slice (rows AFilter.pd (fewFilters x.filters))), .nils])], [], .no⟩) 5 _
      ?_ ⟨0, rfl, by omega, by omega, rfl⟩ ?_
     ·exact Weak.ownB 11 0 196 73 5 (by kernel_rfl) (by decide) rfl rfl (by simp [lessL, lk, St.purge, D.purge, rows]) (by simp [lessL, lk, St.purge, D.purges, D.purge, rows]) (by simp [lessL]) rfl
     rintro k st ⟨j, rfl, hj6, hj, rfl⟩
     have hwj := i64_succ (show j < 1000000000 by omega)
     by_cases hltj : j < x.matches_.length ∧ j < 5
     ·obtain ⟨y, hy⟩ := at_lt hltj.1
      have h1' : ((j : Int) < (x.matches_.length : Int)) = True := eq_true (by omega)
      have h2' : ((j : Int) < 5) = True := eq_true (by omega)
      have hlj : ((x.matches_.take j).map fewMatch).length ≤ j := by simp; omega
      have e2 : rows AMatch.pd ((x.matches_.take j).map fewMatch) ++ [[PD.raw (Value.int IntKind.i64 (fewMatch y).pkind), PD.raw (Value.string (fewMatch y).pval), PD.raw (Value.string (fewMatch y).method), PD.slice (rows APair.pd (fewMatch y).head), PD.slice (rows APair.pd (fewMatch y).query)]] = rows AMatch.pd ((x.matches_.take (j + 1)).map fewMatch) := few_step hy
      simp only [go_sem, contS_seq, simprocAttr, rows_len, rows_get hx, rows_get hy, h1', h2']
      repeat' (first | (refine (law6_Few y).callX (enters_of Tryz.func28 rfl rfl) _ rfl rfl ?_; rintro _ rfl; simp only [go_sem, contS_seq, simprocAttr, rows_len, rows_get hx, rows_get hy]))
      simp only [go_sem, contS_seq, simprocAttr, hwj, e2]
      refine ⟨by simp, by unfold maxLen; omega, by omega, 5 - (j + 1), _, by omega, ?_, j + 1, rfl, by omega, by omega, rfl⟩
      exact lessA
     ·have h3 := few_end (g := fewMatch) hj6 hj hltj
      rw [h3]
      by_cases h1 : j < x.matches_.length
      ·have h1' : ((j : Int) < (x.matches_.length : Int)) = True := eq_true (by omega)
       have h2 : ((j : Int) < 5) = False := eq_false (by omega)
       simp only [go_sem, contS_seq, simprocAttr, rows_len, rows_get hx, h1', h2]
       exact hK _ ⟨j, rfl⟩
      ·have h1' : ((j : Int) < (x.matches_.length : Int)) = False := eq_false (by omega)
       simp only [go_sem, contS_seq, simprocAttr, rows_len, rows_get hx, h1']
       exact hK _ ⟨j, rfl⟩
    rintro s ⟨_, rfl⟩
    refine run_cutJ (fun s => ∃ j : Nat, s = ⟨[(210, bln false), (1, .ptr 1 0), (2, .ptr 2 0), (3, .ptr 3 0), (10, int i), (11, .ptr 11 0), (13, int j), (210, bln false)], [(1, [int o.ref.kind, str o.ref.space, str o.ref.name, bln o.good, .pd (.slice (rows APair.pd o.labels)), .pd (.slice (ints o.ports)), str o.cls, .pd (.slice (rows AListener.pd o.listeners)), .pd (.slice (rows AParent.pd o.parents)), .pd (.slice (strs o.hosts)), .pd (.slice (rows ARule.pd o.rules)), .pd (.slice (rows ASide.pd o.from_)), .pd (.slice (rows ASide.pd o.to_))]), (2, [int 0, str ⟨#[]⟩, str ⟨#[]⟩, bln false, .nils, .nils, str ⟨#[]⟩, .nils, .nils, .nils, .nils, .nils, .nils]), (3, [int (fewRef o.ref).kind, str (fewRef o.ref).space, str (fewRef o.ref).name, bln o.good, .pd (.slice (rows APair.pd (fewPairs o.labels))), .own 3 1 (rows cInt ((o.ports.take 9).map id)) 52, str (few o.cls), .own 49 9 (rows AListener.pd ((o.listeners.take 9).map fewListener)) 92, .own 55 4 (rows AParent.pd ((o.parents.take 5).map fewParent)) 125, .own 9 1 (rows cStr ((o.hosts.take 5).map few)) 147, .own 69 3 (rows ARule.pd ((o.rules.take i).map fewRule)) 239, .pd (.slice (rows ASide.pd (fewSides o.from_))), .pd (.slice (rows ASide.pd (fewSides o.to_)))]), (11, [.own 73 5 (rows AMatch.pd ((x.matches_.take 5).map fewMatch)) 196, .pd (.slice (rows AFilter.pd (fewFilters x.filters))), .own 76 5 (rows ABackend.pd ((x.backends.take 5).map fewBackend)) 233])], [], .no⟩) ?_ ?_
    ·intro K' hK
     simp only [go_sem, contS_seq, simprocAttr, rows_len, rows_get hx]
     refine loopS (fun k st => ∃ j : Nat, k = 5 - j ∧ j ≤ 5 ∧ j ≤ x.backends.length ∧
      st = ⟨[(1, .ptr 1 0), (2, .ptr 2 0), (3, .ptr 3 0), (10, int i), (11, .ptr 11 0), (13, int j)], [(1, [int o.ref.kind, str o.ref.space, str o.ref.name, bln o.good, .pd (.slice (rows APair.pd o.labels)), .pd (.slice (ints o.ports)), str o.cls, .pd (.slice (rows AListener.pd o.listeners)), .pd (.slice (rows AParent.pd o.parents)), .pd (.slice (strs o.hosts)), .pd (.slice (rows ARule.pd o.rules)), .pd (.slice (rows ASide.pd o.from_)), .pd (.slice (rows ASide.pd o.to_))]), (2, [int 0, str ⟨#[]⟩, str ⟨#[]⟩, bln false, .nils, .nils, str ⟨#[]⟩, .nils, .nils, .nils, .nils, .nils, .nils]), (3, [int (fewRef o.ref).kind, str (fewRef o.ref).space, str (fewRef o.ref).name, bln o.good, .pd (.slice (rows APair.pd (fewPairs o.labels))), .own 3 1 (rows cInt ((o.ports.take 9).map id)) 52, str (few o.cls), .own 49 9 (rows AListener.pd ((o.listeners.take 9).map fewListener)) 92, .own 55 4 (rows AParent.pd ((o.parents.take 5).map fewParent)) 125, .own 9 1 (rows cStr ((o.hosts.take 5).map few)) 147, .own 69 3 (rows ARule.pd ((o.rules.take i).map fewRule)) 239, .pd (.slice (rows ASide.pd (fewSides o.from_))), .pd (.slice (rows ASide.pd (fewSides o.to_)))]), (11, [.own 73 5 (rows AMatch.pd ((x.matches_.take 5).map fewMatch)) 196, .pd (.slice (rows AFilter.pd (fewFilters x.filters))), .own 76 5 (rows ABackend.pd ((x.backends.take j).map fewBackend)) 233])], [], .no⟩) 5 _
      ?_ ⟨0, rfl, by omega, by omega, rfl⟩ ?_
     ·exact Weak.ownB 11 2 233 76 5 (by kernel_rfl) (by decide) rfl rfl (by simp [lessL, lk, St.purge, D.purge, rows]) (by simp [lessL, lk, St.purge, D.purges, D.purge, rows]) (by simp [lessL]) rfl
     rintro k st ⟨j, rfl, hj6, hj, rfl⟩
     have hwj := i64_succ (show j < 1000000000 by omega)
     by_cases hltj : j < x.backends.length ∧ j < 5
     ·obtain ⟨y, hy⟩ := at_lt hltj.1
      have h1' : ((j : Int) < (x.backends.length : Int)) = True := eq_true (by omega)
      have h2' : ((j : Int) < 5) = True := eq_true (by omega)
      have hlj : ((x.backends.take j).map fewBackend).length ≤ j := by simp; omega
      have e2 : rows ABackend.pd ((x.backends.take j).map fewBackend) ++ [[PD.raw (Value.int IntKind.i64 (fewRef y.ref).kind), PD.raw (Value.string (fewRef y.ref).space), PD.raw (Value.string (fewRef y.ref).name), PD.raw (Value.int IntKind.i64 y.port), PD.raw (Value.int IntKind.i64 y.weight)]] = rows ABackend.pd ((x.backends.take (j + 1)).map fewBackend) := few_step hy
      simp only [go_sem, contS_seq, simprocAttr, rows_len, rows_get hx, rows_get hy, h1', h2']
      repeat' (first | (refine (law9_FewRef y.ref).callX (enters_of Tryz.func20 rfl rfl) _ rfl rfl ?_; rintro _ rfl; simp only [go_sem, contS_seq, simprocAttr, rows_len, rows_get hx, rows_get hy]))
      simp only [go_sem, contS_seq, simprocAttr, hwj, e2]
      refine ⟨by simp, by unfold maxLen; omega, by omega, 5 - (j + 1), _, by omega, ?_, j + 1, rfl, by omega, by omega, rfl⟩
      exact lessA
     ·have h3 := few_end (g := fewBackend) hj6 hj hltj
      rw [h3]
      by_cases h1 : j < x.backends.length
      ·have h1' : ((j : Int) < (x.backends.length : Int)) = True := eq_true (by omega)
       have h2 : ((j : Int) < 5) = False := eq_false (by omega)
       simp only [go_sem, contS_seq, simprocAttr, rows_len, rows_get hx, h1', h2]
       exact hK _ ⟨j, rfl⟩
      ·have h1' : ((j : Int) < (x.backends.length : Int)) = False := eq_false (by omega)
       simp only [go_sem, contS_seq, simprocAttr, rows_len, rows_get hx, h1']
       exact hK _ ⟨j, rfl⟩
    rintro s ⟨_, rfl⟩
    simp only [go_sem, contS_seq, simprocAttr, rows_len, e1]
    refine ⟨by simp, by unfold maxLen; omega, by omega, ?_⟩
    exact hK
   simp only [go_sem, contS_seq, simprocAttr, hw]
   refine ⟨7 - (i + 1), _, by omega, ?_, i + 1, rfl, by omega, by omega, rfl⟩
   exact lessA
  ·have h3 := few_end (g := fewRule) hi6 hi hlt
   rw [h3]
   by_cases h1 : i < o.rules.length
   ·have h1' : ((i : Int) < (o.rules.length : Int)) = True := eq_true (by omega)
    have h2 : ((i : Int) < 7) = False := eq_false (by omega)
    simp only [go_sem, contS_seq, simprocAttr, rows_len, h1', h2]
    exact hK _ ⟨i, rfl⟩
   ·have h1' : ((i : Int) < (o.rules.length : Int)) = False := eq_false (by omega)
    simp only [go_sem, contS_seq, simprocAttr, rows_len, h1']
    exact hK _ ⟨i, rfl⟩
 rintro s ⟨_, rfl⟩
 simp only [go_sem, contS_seq, simprocAttr]
 simp only [retK, resD, resA, AOp.ex, St.ev, retL, oneD, simprocAttr, ret_z8s55, List.map_id]
 exact ⟨_, rfl, rfl, rfl⟩


def fewObjs (l : List AObj) : List AObj := (l.take 24).map fewObj

theorem take_map_mem {α β : Type} {g : α → β} {l : List α} {n : Nat} {y : β} (h : y ∈ (l.take n).map g) : ∃ x, x ∈ l ∧ g x = y := by
 obtain ⟨x, hx, rfl⟩ := List.mem_map.1 h
 exact ⟨x, List.mem_of_mem_take hx, rfl⟩

theorem fewPairs_ok {l : List APair} : ∀ p ∈ fewPairs l, p.ok := fun p hp => by
 obtain ⟨x, _, rfl⟩ := take_map_mem hp
 exact fewPair_ok x

theorem fewPairs_len (l : List APair) : (fewPairs l).length ≤ 1000000 := by simp [fewPairs]; omega

theorem fewMatch_ok (m : AMatch) : (fewMatch m).ok := ⟨fewPairs_len _, fewPairs_len _, fewPairs_ok, fewPairs_ok⟩

theorem fewFilter_ok (f : AFilter) : (fewFilter f).ok := ⟨by have := few_size f.name; simp [fewFilter]; omega, by have := few_size f.val; simp [fewFilter]; omega⟩

theorem fewNeed_ok (n : ANeed) : (fewNeed n).ok := by simp [ANeed.ok, fewNeed]; omega

theorem fewListener_ok (l : AListener) : (fewListener l).ok := ⟨by simp [fewListener, fewNeeds]; omega, fun x hx => by
 obtain ⟨y, _, rfl⟩ := take_map_mem hx
 exact fewNeed_ok y⟩

theorem fewRule_ok (r : ARule) : (fewRule r).ok := ⟨by simp [fewRule]; omega, by simp [fewRule, fewFilters]; omega, by simp [fewRule]; omega, fun x hx => by
 obtain ⟨y, _, rfl⟩ := take_map_mem hx
 exact fewMatch_ok y, fun x hx => by
 obtain ⟨y, _, rfl⟩ := take_map_mem hx
 exact fewFilter_ok y⟩

theorem fewObj_ok (o : AObj) : (fewObj o).ok where
 la := fewPairs_len _
 po := by simp [fewObj]; omega
 li := by simp [fewObj]; omega
 pa := by simp [fewObj]; omega
 ho := by simp [fewObj]; omega
 ru := by simp [fewObj]; omega
 fr := by simp [fewObj, fewSides]; omega
 to := by simp [fewObj, fewSides]; omega
 lis := fun x hx => by
  obtain ⟨y, _, rfl⟩ := take_map_mem hx
  exact fewListener_ok y
 rus := fun x hx => by
  obtain ⟨y, _, rfl⟩ := take_map_mem hx
  exact fewRule_ok y

theorem fewObjs_ok {l : List AObj} : ∀ o ∈ fewObjs l, o.ok := fun o ho => by
 obtain ⟨x, _, rfl⟩ := take_map_mem ho
 exact fewObj_ok x

theorem fewObjs_len (l : List AObj) : (fewObjs l).length ≤ 24 := by simp [fewObjs]; omega

theorem law11_Some (l : List AObj) : Pure Tryz.prog 9 [.pd (.slice (rows AObj.pd l))] (fun d => d = .pd (.slice (rows AObj.pd (fewObjs l)))) := by
 refine pure_of_run follows an_zh218 Tryz.func9 rfl ok_zh218.1 ok_zh218.2 (by simp [Tryz.ntmps9]) ?_
 rw [run_start]
 simp only [ac_zh218, go_sem, contS_seq, simprocAttr, rows_len]
 refine loopS (fun k st => ∃ i : Nat, k = 24 - i ∧ i ≤ 24 ∧ i ≤ l.length ∧
  st = ⟨[(0, .pd (.slice (rows AObj.pd l))), (3, .own 33 13 (rows AObj.pd ((l.take i).map fewObj)) 22), (4, int i)], [], [], .no⟩) 24 _
  ?_ ⟨0, rfl, by omega, by omega, rfl⟩ ?_
 ·exact Weak.own1 3 22 33 13 (by kernel_rfl) (by decide) rfl (by simp [lessL, lk, St.purge, St.put, D.purge, rows]) (by simp [lessL, lk, St.purge, D.purges, D.purge]) (by simp [lessL]) rfl
 rintro k st ⟨i, rfl, hi6, hi, rfl⟩
 have hw := i64_succ (show i < 1000000000 by omega)
 by_cases hlt : i < l.length ∧ i < 24
 ·obtain ⟨x, hx⟩ := at_lt hlt.1
  have h1 : ((i : Int) < (l.length : Int)) = True := eq_true (by omega)
  have h2 : ((i : Int) < 24) = True := eq_true (by omega)
  simp only [go_sem, contS_seq, simprocAttr, rows_len, rows_get hx, h1, h2]
  refine (law9_Few x).callW (enters_of Tryz.func10 rfl rfl) _ rfl rfl ?_
  rintro d rfl
  have hl' : ((l.take i).map fewObj).length ≤ i := by simp; omega
  have e1 : rows AObj.pd ((l.take i).map fewObj) ++ [AObj.pd (fewObj x)] = rows AObj.pd ((l.take (i + 1)).map fewObj) := few_step hx
  simp only [go_sem, contS_seq, simprocAttr, rows_len, hw]
  rw [e1]
  refine ⟨by simp, by unfold maxLen; omega, by omega, 24 - (i + 1), _, by omega, ?_, i + 1, rfl, by omega, by omega, rfl⟩
  exact lessA
 ·have h3 := few_end (g := fewObj) hi6 hi hlt
  rw [h3]
  by_cases h1 : i < l.length
  ·have h1' : ((i : Int) < (l.length : Int)) = True := eq_true (by omega)
   have h2 : ((i : Int) < 24) = False := eq_false (by omega)
   simp only [go_sem, contS_seq, simprocAttr, rows_len, h1', h2]
   simp only [retK, resD, retL, oneD, simprocAttr, Tryz.results9]
   exact ⟨_, rfl, rfl, rfl⟩
  ·have h1' : ((i : Int) < (l.length : Int)) = False := eq_false (by omega)
   simp only [go_sem, contS_seq, simprocAttr, rows_len, h1']
   simp only [retK, resD, retL, oneD, simprocAttr, Tryz.results9]
   exact ⟨_, rfl, rfl, rfl⟩

end Go.Proofs.YtcnhcamimcpinaaGreatDoor



namespace Go.Proofs.YtcnhcamimcpinaaGreatDoor
open Go

def ac_zvnqs : AC := (sr [oo 4 (.mv (.const (.string ⟨#[]⟩))),oo 5 (.mv (cq false))] [0,1] (.seq (sr [mq 10 0,oo 11 (.call 43 [tp 10]),oo 12 (.un .not (tp 11)),mq 13 12,og 13 false 14 (.mv (tp 1)),og 13 false 15 (.call 43 [tp 14]),og 13 false 16 (.un .not (tp 15)),oo 17 (.pick (tp 13) (cq true) (tp 16))] [0,1,17] (.cond (tp 17) (sr [oo 4 (.mv (.const (.string ⟨#[]⟩))),oo 5 (.mv (cq false))] [4,5] .ret) .skip)) (.seq (sr [mq 18 0,oo 19 (.bin .eql (tp 18) (.const (.string ⟨#[]⟩)))] [0,1,19] (.cond (tp 19) (sr [mq 20 1,mq 4 20,oo 5 (.mv (cq true))] [4,5] .ret) .skip)) (.seq (sr [mq 21 1,oo 22 (.bin .eql (tp 21) (.const (.string ⟨#[]⟩))),mq 23 22,og 23 false 24 (.mv (tp 0)),og 23 false 25 (.mv (tp 1)),og 23 false 26 (.bin .eql (tp 24) (tp 25)),oo 27 (.pick (tp 23) (cq true) (tp 26))] [0,1,27] (.cond (tp 27) (sr [mq 28 0,mq 4 28,oo 5 (.mv (cq true))] [4,5] .ret) .skip)) (sr [mq 30 0,oo 31 (.call 44 [tp 30]),mq 29 31,oo 32 (.extract (tp 29) 0),oo 33 (.extract (tp 29) 1),mq 6 32,mq 7 33] [0,1,6,7] (sr [mq 35 1,oo 36 (.call 44 [tp 35]),mq 34 36,oo 37 (.extract (tp 34) 0),oo 38 (.extract (tp 34) 1),mq 8 37,mq 9 38] [0,1,6,7,8,9] (.seq (sr [mq 39 9,mq 40 39,og 40 true 41 (.mv (tp 6)),og 40 true 42 (.mv (tp 8)),og 40 true 43 (.call 45 [tp 41,tp 42]),oo 44 (.pick (tp 40) (tp 43) (cq false))] [0,1,6,7,8,44] (.cond (tp 44) (sr [mq 45 0,mq 4 45,oo 5 (.mv (cq true))] [4,5] .ret) .skip)) (.seq (sr [mq 46 7,mq 47 46,og 47 true 48 (.mv (tp 8)),og 47 true 49 (.mv (tp 6)),og 47 true 50 (.call 45 [tp 48,tp 49]),oo 51 (.pick (tp 47) (tp 50) (cq false))] [1,51] (.cond (tp 51) (sr [mq 52 1,mq 4 52,oo 5 (.mv (cq true))] [4,5] .ret) .skip)) (sr [oo 4 (.mv (.const (.string ⟨#[]⟩))),oo 5 (.mv (cq false))] [4,5] .ret)))))))))
def an_zvnqs : Ann := ann (List.range 14) ac_zvnqs
theorem ok_zvnqs : okd Tryz.prog an_zvnqs ac_zvnqs Tryz.f19 := ⟨by kernel_rfl, by kernel_rfl⟩

def ac_zjxe8 : AC := (sr [oo 4 (.mv (cq false))] [0,1] (.seq (sr [mq 6 0,oo 7 (.len (tp 6) false),mq 8 1,oo 9 (.len (tp 8) false),oo 10 (.bin .neq (tp 7) (tp 9))] [0,1,10] (.cond (tp 10) (sr [oo 4 (.mv (cq false))] [4] .ret) .skip)) (.seq (sr [oo 5 (.mv (ci 0))] [0,1,5] (.block 0 (.loop (.seq (sr [mq 11 5,mq 12 0,oo 13 (.len (tp 12) false),oo 14 (.bin .lss (tp 11) (tp 13))] [0,1,5,14] (.cond (tp 14) .skip (.exit 0))) (.seq (.block 1 (.seq (.draw [mq 17 0,mq 18 5,oo 19 (.idxA 1 (tp 17) (tp 18)),lq 20 19,mq 21 1,mq 22 5,oo 23 (.idxA 1 (tp 21) (tp 22)),lq 24 23,oo 25 (.bin .neq (tp 20) (tp 24))] [0,0,3,7,0,0,48,112,255] (.take 0 (.take 1 (.take 2 (.take 3 (.take 4 (.take 5 (.take 6 (.take 7 (.take 8 .done))))))))) (some [0,1,5,25])) (.cond (tp 25) (sr [oo 4 (.mv (cq false))] [4] .ret) .skip))) (.region [mq 15 5,oo 16 (.bin .add (tp 15) (ci 1)),mq 5 16] (some [0,1,5]))))))) (sr [oo 4 (.mv (cq true))] [4] .ret))))
def an_zjxe8 : Ann := ann [0,1,2,3,4,6,7,5,8] ac_zjxe8
theorem ok_zjxe8 : okd Tryz.prog an_zjxe8 ac_zjxe8 Tryz.f40 := ⟨by kernel_rfl, by kernel_rfl⟩

def ac_z8jqh : AC := (sr [oo 2 (.mv (cq false))] [0] (sr [mq 6 0,oo 7 (.call 44 [tp 6]),mq 5 7,oo 8 (.extract (tp 5) 0),oo 9 (.extract (tp 5) 1),mq 3 8,mq 4 9] [0,3] (sr [mq 10 0,oo 11 (.bin .eql (tp 10) (.const (.string ⟨#[]⟩))),mq 12 11,og 12 false 13 (.mv (tp 0)),og 12 false 14 (.len (tp 13) true),og 12 false 15 (.bin .leq (tp 14) (ci 60)),og 12 false 16 (.mv (tp 15)),og 16 true 17 (.mv (tp 3)),og 16 true 18 (.call 78 [tp 17]),og 12 false 19 (.pick (tp 16) (tp 18) (cq false)),oo 20 (.pick (tp 12) (cq true) (tp 19)),mq 2 20] [2] .ret)))
def an_z8jqh : Ann := ann (List.range 3) ac_z8jqh
theorem ok_z8jqh : okd Tryz.prog an_z8jqh ac_z8jqh Tryz.f43 := ⟨by kernel_rfl, by kernel_rfl⟩

def ac_zsoo6 : AC := (sr [oo 2 (.mv (.const (.string ⟨#[]⟩))),oo 3 (.mv (cq false))] [0] (.seq (sr [mq 4 0,oo 5 (.len (tp 4) true),oo 6 (.bin .geq (tp 5) (ci 2)),mq 7 6,og 7 true 8 (.mv (tp 0)),og 7 true 9 (.idxS (tp 8) (ci 0)),og 7 true 10 (.bin .eql (tp 9) (.const (.int .u8 42))),oo 11 (.pick (tp 7) (tp 10) (cq false)),mq 12 11,og 12 true 13 (.mv (tp 0)),og 12 true 14 (.idxS (tp 13) (ci 1)),og 12 true 15 (.bin .eql (tp 14) (.const (.int .u8 46))),oo 16 (.pick (tp 12) (tp 15) (cq false))] [0,16] (.cond (tp 16) (sr [mq 17 0,oo 18 (.slcS (tp 17) (some (ci 2)) none),mq 2 18,oo 3 (.mv (cq true))] [2,3] .ret) .skip)) (sr [mq 19 0,mq 2 19,oo 3 (.mv (cq false))] [2,3] .ret)))
def an_zsoo6 : Ann := ann (List.range 4) ac_zsoo6
theorem ok_zsoo6 : okd Tryz.prog an_zsoo6 ac_zsoo6 Tryz.f44 := ⟨by kernel_rfl, by kernel_rfl⟩

def ac_zor7z : AC := (sr [oo 4 (.mv (cq false))] [0,1] (.seq (sr [mq 8 0,oo 9 (.call 78 [tp 8]),oo 10 (.un .not (tp 9)),mq 11 10,og 11 false 12 (.mv (tp 1)),og 11 false 13 (.call 78 [tp 12]),og 11 false 14 (.un .not (tp 13)),oo 15 (.pick (tp 11) (cq true) (tp 14))] [0,1,15] (.cond (tp 15) (sr [oo 4 (.mv (cq false))] [4] .ret) .skip)) (sr [mq 16 0,oo 17 (.call 79 [tp 16,.const (.int .u8 46)]),mq 18 1,oo 19 (.call 79 [tp 18,.const (.int .u8 46)]),mq 5 17,mq 6 19] [5,6] (.seq (sr [mq 20 5,oo 21 (.len (tp 20) false),mq 22 6,oo 23 (.len (tp 22) false),oo 24 (.bin .leq (tp 21) (tp 23))] [5,6,24] (.cond (tp 24) (sr [oo 4 (.mv (cq false))] [4] .ret) .skip)) (.seq (sr [oo 7 (.mv (ci 0))] [5,6,7] (.block 0 (.loop (.seq (sr [mq 25 7,mq 26 6,oo 27 (.len (tp 26) false),oo 28 (.bin .lss (tp 25) (tp 27))] [5,6,7,28] (.cond (tp 28) .skip (.exit 0))) (.seq (.block 1 (.seq (.draw [mq 31 5,mq 32 5,oo 33 (.len (tp 32) false),oo 34 (.bin .sub (tp 33) (ci 1)),mq 35 7,oo 36 (.bin .sub (tp 34) (tp 35)),oo 37 (.idxA 1 (tp 31) (tp 36)),lq 38 37,mq 39 6,mq 40 6,oo 41 (.len (tp 40) false),oo 42 (.bin .sub (tp 41) (ci 1)),mq 43 7,oo 44 (.bin .sub (tp 42) (tp 43)),oo 45 (.idxA 1 (tp 39) (tp 44)),lq 46 45,oo 47 (.bin .neq (tp 38) (tp 46))] [0,0,2,6,0,30,63,127,0,0,512,1536,0,7680,16128,32512,65535] (.take 0 (.take 1 (.take 2 (.take 3 (.take 4 (.take 5 (.take 6 (.take 7 (.take 8 (.take 9 (.take 10 (.take 11 (.take 12 (.take 13 (.take 14 (.take 15 (.take 16 .done))))))))))))))))) (some [5,6,7,47])) (.cond (tp 47) (sr [oo 4 (.mv (cq false))] [4] .ret) .skip))) (.region [mq 29 7,oo 30 (.bin .add (tp 29) (ci 1)),mq 7 30] (some [5,6,7]))))))) (sr [oo 4 (.mv (cq true))] [4] .ret))))))
def an_zor7z : Ann := ann [0,1,2,3,4,5,6,7,9,10,8,11] ac_zor7z
theorem ok_zor7z : okd Tryz.prog an_zor7z ac_zor7z Tryz.f45 := ⟨by kernel_rfl, by kernel_rfl⟩

def ac_zvp8y : AC := (sr [oo 2 (.mv (cq false))] [0] (.seq (sr [mq 5 0,oo 6 (.len (tp 5) true),oo 7 (.bin .gtr (tp 6) (ci 60))] [0,7] (.cond (tp 7) (sr [oo 2 (.mv (cq false))] [2] .ret) .skip)) (sr [mq 8 0,oo 9 (.call 79 [tp 8,.const (.int .u8 46)]),mq 3 9] [3] (.seq (sr [oo 4 (.mv (ci 0))] [3,4] (.block 0 (.loop (.seq (sr [mq 10 4,mq 11 3,oo 12 (.len (tp 11) false),oo 13 (.bin .lss (tp 10) (tp 12))] [3,4,13] (.cond (tp 13) .skip (.exit 0))) (.seq (.block 1 (sr [mq 16 3,mq 17 4,oo 18 (.idxA 1 (tp 16) (tp 17)),lq 19 18,oo 20 (.call 118 [tp 19]),oo 21 (.un .not (tp 20))] [3,4,21] (.cond (tp 21) (sr [oo 2 (.mv (cq false))] [2] .ret) .skip))) (.region [mq 14 4,oo 15 (.bin .add (tp 14) (ci 1)),mq 4 15] (some [3,4]))))))) (sr [oo 2 (.mv (cq true))] [2] .ret)))))
def an_zvp8y : Ann := ann [0,1,2,3,4,5,7,8,6,9] ac_zvp8y
theorem ok_zvp8y : okd Tryz.prog an_zvp8y ac_zvp8y Tryz.f78 := ⟨by kernel_rfl, by kernel_rfl⟩

def ac_zwnk2 : AC := (sr [oo 4 (.mv (.const (.slice none 0 0)))] [0,1] (sr [oo 7 (.bslice 9 1 [.const (.string ⟨#[]⟩)]),mq 5 7] [0,1,5] (.seq (sr [oo 6 (.mv (ci 0))] [0,1,5,6] (.block 0 (.loop (.seq (sr [mq 8 6,mq 9 0,oo 10 (.len (tp 9) true),oo 11 (.bin .lss (tp 8) (tp 10))] [0,1,5,6,11] (.cond (tp 11) .skip (.exit 0))) (.seq (.block 1 (sr [mq 14 0,mq 15 6,oo 16 (.idxS (tp 14) (tp 15)),mq 17 1,oo 18 (.bin .eql (tp 16) (tp 17))] [0,1,5,6,18] (.cond (tp 18) (.region [mq 19 5,oo 20 (.bslice 9 1 [.const (.string ⟨#[]⟩)]),oo 21 (.append 9 1 16 (tp 19) (tp 20)),mq 5 21] (some [0,1,5,6])) (.draw [mq 22 5,mq 23 5,oo 24 (.len (tp 23) false),oo 25 (.bin .sub (tp 24) (ci 1)),oo 26 (.idxA 1 (tp 22) (tp 25)),lq 27 26,mq 28 0,mq 29 6,mq 30 6,oo 31 (.bin .add (tp 30) (ci 1)),oo 32 (.slcS (tp 28) (some (tp 29)) (some (tp 31))),oo 33 (.bin .add (tp 27) (tp 32)),oo 34 (.idxA 1 (tp 22) (tp 25)),.mk none none (.store 1 (tp 34) (tp 33))] [0,0,2,6,15,31,0,0,0,256,960,2047,4095,8191] (.take 0 (.take 1 (.take 2 (.take 3 (.take 4 (.take 5 (.take 6 (.take 7 (.take 8 (.take 9 (.take 10 (.take 11 (.take 12 (.alts (.cons 13 true .done .nil))))))))))))))) (some [0,1,5,6]))))) (.region [mq 12 6,oo 13 (.bin .add (tp 12) (ci 1)),mq 6 13] (some [0,1,5,6]))))))) (sr [mq 35 5,mq 4 35] [4] .ret))))
def an_zwnk2 : Ann := ann [0,1,2,3,5,4,7,6,8] ac_zwnk2
theorem ok_zwnk2 : okd Tryz.prog an_zwnk2 ac_zwnk2 Tryz.f79 := ⟨by kernel_rfl, by kernel_rfl⟩

def ac_z4drv : AC := (sr [oo 2 (.mv (cq false))] [0] (.seq (sr [oo 3 (.mv (ci 0))] [0,3] (.block 0 (.loop (.seq (sr [mq 6 3,mq 7 0,oo 8 (.len (tp 7) true),oo 9 (.bin .lss (tp 6) (tp 8))] [0,3,9] (.cond (tp 9) .skip (.exit 0))) (.seq (.block 1 (sr [mq 12 0,mq 13 3,oo 14 (.idxS (tp 12) (tp 13)),mq 4 14] [0,3,4] (sr [mq 15 3,oo 16 (.bin .eql (tp 15) (ci 0)),mq 17 16,og 17 false 18 (.mv (tp 3)),og 17 false 19 (.mv (tp 0)),og 17 false 20 (.len (tp 19) true),og 17 false 21 (.bin .sub (tp 20) (ci 1)),og 17 false 22 (.bin .eql (tp 18) (tp 21)),oo 23 (.pick (tp 17) (cq true) (tp 22)),mq 5 23] [0,3,4,5] (sr [mq 24 4,oo 25 (.bin .leq (.const (.int .u8 97)) (tp 24)),mq 26 25,og 26 true 27 (.mv (tp 4)),og 26 true 28 (.bin .leq (tp 27) (.const (.int .u8 122))),oo 29 (.pick (tp 26) (tp 28) (cq false)),mq 30 29,og 30 false 31 (.mv (tp 4)),og 30 false 32 (.bin .leq (.const (.int .u8 48)) (tp 31)),og 30 false 33 (.mv (tp 32)),og 33 true 34 (.mv (tp 4)),og 33 true 35 (.bin .leq (tp 34) (.const (.int .u8 57))),og 30 false 36 (.pick (tp 33) (tp 35) (cq false)),oo 37 (.pick (tp 30) (cq true) (tp 36)),mq 38 37,og 38 false 39 (.mv (tp 4)),og 38 false 40 (.bin .eql (tp 39) (.const (.int .u8 45))),og 38 false 41 (.mv (tp 40)),og 41 true 42 (.mv (tp 5)),og 41 true 43 (.un .not (tp 42)),og 38 false 44 (.pick (tp 41) (tp 43) (cq false)),oo 45 (.pick (tp 38) (cq true) (tp 44)),oo 46 (.un .not (tp 45))] [0,3,46] (.cond (tp 46) (sr [oo 2 (.mv (cq false))] [2] .ret) .skip))))) (.region [mq 10 3,oo 11 (.bin .add (tp 10) (ci 1)),mq 3 11] (some [0,3]))))))) (sr [mq 47 0,oo 48 (.len (tp 47) true),oo 49 (.bin .leq (ci 1) (tp 48)),mq 50 49,og 50 true 51 (.mv (tp 0)),og 50 true 52 (.len (tp 51) true),og 50 true 53 (.bin .leq (tp 52) (ci 20)),oo 54 (.pick (tp 50) (tp 53) (cq false)),mq 2 54] [2] .ret)))
def an_z4drv : Ann := ann [0,1,2,4,5,6,7,3,8] ac_z4drv
theorem ok_z4drv : okd Tryz.prog an_z4drv ac_z4drv Tryz.f118 := ⟨by kernel_rfl, by kernel_rfl⟩

end Go.Proofs.YtcnhcamimcpinaaGreatDoor


namespace Go.Proofs.YtcnhcamimcpinaaGreatDoor
open Go Go.RowKit
set_option linter.unusedSimpArgs false
set_option linter.unusedVariables false
set_option maxRecDepth 100000

theorem res_no {p : Prop} [Decidable p] (h : ¬p) : bln false = bln (decide p) := by rw [decide_eq_false h]
theorem res_yes {p : Prop} [Decidable p] (h : p) : bln true = bln (decide p) := by rw [decide_eq_true h]
theorem take_step {α : Type} {l m : List α} {i : Nat} {x y : α} (h : l.take i = m.take i) (hx : l[i]? = some x) (hy : m[i]? = some y) (e : x = y) : l.take (i + 1) = m.take (i + 1) := by
 rw [take_at hx, take_at hy, h, e]
theorem take_end {α : Type} {l m : List α} {i : Nat} (h : l.take i = m.take i) (hl : l.length = m.length) (hi : ¬ i < l.length) : l = m := by
 rwa [List.take_of_length_le (by omega), List.take_of_length_le (by omega)] at h

set_option maxHeartbeats 2000000 in
theorem ref1_Same (a b : List ByteArray) (ha : a.length ≤ 1000000) : Pure Tryz.prog 40 [.pd (.slice (rows cStr a)), .pd (.slice (rows cStr b))] (fun d => d = bln (decide (a = b))) := by
 refine pure_of_run follows an_zjxe8 Tryz.func40 rfl ok_zjxe8.1 ok_zjxe8.2 (by simp [Tryz.ntmps40]) ?_
 rw [run_start]
 simp only [ac_zjxe8, go_sem, contS_seq, simprocAttr, rows_len]
 refine GifP.mk (fun hl => ?_) (fun hl => ?_)
 rotate_left
 ·simp only [retK, resD, retL, oneD, simprocAttr, Tryz.results40]
  exact ⟨_, rfl, rfl, res_no (fun e => hl (by rw [e]))⟩
 have hL : a.length = b.length := by omega
 refine loopS (fun k st => ∃ i : Nat, k = a.length - i ∧ i ≤ a.length ∧ a.take i = b.take i ∧ st = ⟨[(0, .pd (.slice (rows cStr a))), (1, .pd (.slice (rows cStr b))), (5, int i)], [], [], .no⟩) a.length _ ?_ ⟨0, rfl, by omega, rfl, rfl⟩ ?_
 ·exact lessA
 rintro k st ⟨i, rfl, hi, hT, rfl⟩
 have hw := i64_succ (show i < 1000000000 by omega)
 by_cases hlt : i < a.length
 ·obtain ⟨x, hx⟩ := at_lt hlt
  obtain ⟨y, hy⟩ := at_lt (show i < b.length by omega)
  have h1 : ((i : Int) < (a.length : Int)) = True := eq_true (by omega)
  simp only [go_sem, contS_seq, simprocAttr, rows_len, rows_get hx, rows_get hy, h1, hw]
  ·repeat' (first | refine GifP.mk (fun _ => ?_) (fun _ => ?_) | refine Gif.mk (fun _ => ?_) (fun _ => ?_) | refine And.intro ?_ ?_)
   all_goals first
    | (refine ⟨a.length - (i + 1), _, by omega, ?_, i + 1, rfl, by omega, take_step hT hx hy (by first | assumption | (cases x; cases y; simp_all)), rfl⟩; exact lessA)
    | (simp only [retK, resD, retL, oneD, simprocAttr, Tryz.results40]; exact ⟨_, rfl, rfl, res_no (fun e => by subst e; have hxy := Option.some.inj (hx.symm.trans hy); subst hxy; first | contradiction | simp_all)⟩)
 have h1 : ((i : Int) < (a.length : Int)) = False := eq_false (by omega)
 have hE := take_end hT (by omega) hlt
 clear hT hi hw
 simp only [go_sem, contS_seq, simprocAttr, rows_len, h1]
 clear h1 hlt i
 simp only [retK, resD, retL, oneD, simprocAttr, Tryz.results40]
 exact ⟨_, rfl, rfl, res_yes hE⟩

end Go.Proofs.YtcnhcamimcpinaaGreatDoor



namespace Go.Proofs.YtcnhcamimcpinaaGreatDoor
open Go

end Go.Proofs.YtcnhcamimcpinaaGreatDoor


namespace Go.Proofs.YtcnhcamimcpinaaGreatDoor
open Go Go.RowKit
set_option linter.unusedSimpArgs false
set_option linter.unusedVariables false
set_option maxRecDepth 100000

def near (r : ARef) (s : ByteArray) : ARef := if r.space = ⟨#[]⟩ ∧ r.kind ≠ 1 ∧ r.kind ≠ 2 then { r with space := s } else r

set_option maxRecDepth 100000 in
theorem grant_Near (r : ARef) (s : ByteArray) : Pure Tryz.prog 31 [r.d, str s] (fun d => d = (near r s).d) := by
 refine pure_of_run follows an_zrkgf Tryz.func31 rfl ok_zrkgf.1 ok_zrkgf.2 (by simp [Tryz.ntmps31]) ?_
 rw [run_start]
 simp only [ac_zrkgf, go_sem, contS_seq, simprocAttr]
 simp only [retK, resD, resA, AOp.ex, St.ev, retL, oneD, simprocAttr, ret_zrkgf]
 refine ⟨fun h1 => ⟨fun h2 => ?_, fun h2 => ⟨fun h3 => ?_, fun h3 => ?_⟩⟩, fun h1 => ?_⟩
 ·exact ⟨_, rfl, rfl, by simp [near, h1, h2, oneD, D.pub, D.pubs]⟩
 ·exact ⟨_, rfl, rfl, by simp [near, h1, h3, oneD, D.pub, D.pubs]⟩
 ·exact ⟨_, rfl, rfl, by simp [near, h1, h2, h3, oneD, D.pub, D.pubs]⟩
 ·exact ⟨_, rfl, rfl, by simp [near, h1, oneD, D.pub, D.pubs]⟩


def isRef (r : ARef) (o : AObj) : Bool := decide (o.ref = r)

theorem Find_1 (r : ARef) (o : AObj) : PureB Tryz.prog 58 [o.d, .ptr 1000001 0] [(1000001, [int r.kind, str r.space, str r.name])] (fun d => d = bln (isRef r o)) := by
 refine pureB_of_run follows an_zl31y Tryz.func58 rfl ok_zl31y.1 ok_zl31y.2 (by simp [Tryz.ntmps58]) ?_
 rw [run_start]
 simp only [ac_zl31y, go_sem, contS_seq, simprocAttr, eqVs, eqV, eq_Ref]
 simp only [retK, resD, retL, oneD, simprocAttr, Tryz.results58]
 exact ⟨_, rfl, rfl, rfl⟩

theorem lidx_find {α : Type} (p : α → Bool) : ∀ (l : List α) (k : Nat), (l.find? p = none ∧ lidx p l k = -1) ∨ ∃ x j, l.find? p = some x ∧ lidx p l k = ((k + j : Nat) : Int) ∧ l[j]? = some x
 | [], k => .inl ⟨rfl, rfl⟩
 | x :: l, k => by
   rw [List.find?_cons, lidx]
   by_cases h : p x = true
   ·rw [if_pos h, h]; exact .inr ⟨x, 0, rfl, by simp, by simp⟩
   ·rw [if_neg h]
    have h' : p x = false := by simpa using h
    rw [h']
    rcases lidx_find p l (k + 1) with h1 | ⟨y, j, h1, h2, h3⟩
    ·exact .inl h1
    ·exact .inr ⟨y, j + 1, h1, by rw [h2]; omega, by simpa using h3⟩

def ref0 : ARef := ⟨0, ⟨#[]⟩, ⟨#[]⟩⟩

def found (os : List AObj) (r : ARef) : Option AObj := os.find? (isRef r)

def foundD : Option AObj → D
 | some o => .tup [o.d, bln true]
 | none => .tup [(AObj.zero ref0).d, bln false]

theorem grant_Find (os : List AObj) (hos : os.length ≤ 1000000) (r : ARef) : Pure Tryz.prog 30 [.pd (.slice (rows AObj.pd os)), r.d] (fun d => d = foundD (found os r)) := by
 refine pure_of_run follows an_z88d6 Tryz.func30 rfl ok_z88d6.1 ok_z88d6.2 (by simp [Tryz.ntmps30]) ?_
 rw [run_start]
 simp only [ac_z88d6, go_sem, contS_seq, simprocAttr]
 refine (IndexFunc_Object (isRef r) 58 (enters_of Tryz.func58 rfl rfl) [(1000001, 0)] [(1000001, [int r.kind, str r.space, str r.name])] (Cl.of rfl rfl rfl rfl rfl) os hos (fun o _ => Find_1 r o)).callW (enters_of Tryz.func57 rfl rfl) _ [(3, 1000001)] rfl rfl rfl ?_
 rintro d rfl
 rcases lidx_find (isRef r) os 0 with ⟨h1, h2⟩ | ⟨x, j, h1, h2, h3⟩
 ·rw [h2]
  simp only [go_sem, contS_seq, simprocAttr]
  simp only [retK, resD, resA, AOp.ex, St.ev, retL, oneD, simprocAttr, ret_z88d6]
  refine ⟨_, rfl, rfl, ?_⟩
  rw [found, h1]; rfl
 ·rw [h2, Nat.zero_add]
  have hn : ((j : Int) < 0) = False := eq_false (by omega)
  simp only [go_sem, contS_seq, simprocAttr, hn, rows_get h3]
  simp only [retK, resD, resA, AOp.ex, St.ev, retL, oneD, simprocAttr, ret_z88d6]
  refine ⟨_, rfl, rfl, ?_⟩
  rw [found, h1]; rfl

def isRoute (r : AObj) : Bool := decide (r.ref.kind = 6) && objMay r

end Go.Proofs.YtcnhcamimcpinaaGreatDoor



namespace Go.Proofs.YtcnhcamimcpinaaGreatDoor
open Go

def ac_zws5f : AC := (sr [oo 3 (.box 33 (tp 1)),oo 4 (.mv (cq false))] [0,3] (sr [oo 5 (.load (some 13) (tp 3)),oo 6 (.call 59 [tp 5]),mq 7 6,og 7 true 8 (.mv (tp 0)),og 7 true 9 (.fieldA 6 (tp 3)),og 7 true 10 (.load none (tp 9)),og 7 true 11 (.build [.pd (.raw (.int .i64 0)),.pd (.raw (.string ⟨#[]⟩)),.pd (.raw (.string ⟨#[]⟩))] [(0,1,ci 1),(2,1,tp 10)]),og 7 true 12 (.call 60 [tp 8,tp 11]),oo 13 (.pick (tp 7) (tp 12) (cq false)),mq 4 13] [4] .ret))
def an_zws5f : Ann := ann (List.range 2) ac_zws5f
theorem ok_zws5f : okd Tryz.prog an_zws5f ac_zws5f Tryz.f32 := ⟨by kernel_rfl, by kernel_rfl⟩

def ac_zjbl5 : AC := (sr [oo 1 (.box 33 (tp 0)),oo 2 (.mv (cq false))] [1] (sr [fi 3 0 1,fi 4 0 3,lq 5 4,oo 6 (.bin .eql (tp 5) (ci 5)),mq 7 6,og 7 true 8 (.load (some 13) (tp 1)),og 7 true 9 (.call 29 [tp 8]),oo 10 (.pick (tp 7) (tp 9) (cq false)),mq 2 10] [2] .ret))
def an_zjbl5 : Ann := ann (List.range 2) ac_zjbl5
theorem ok_zjbl5 : okd Tryz.prog an_zjbl5 ac_zjbl5 Tryz.f59 := ⟨by kernel_rfl, by kernel_rfl⟩

def ac_zb5tb : AC := (sr [oo 3 (.box 24 (tp 1)),oo 4 (.mv (cq false))] [0,3] (sr [mq 8 0,oo 9 (.load (some 3) (tp 3)),oo 10 (.call 30 [tp 8,tp 9]),mq 7 10,oo 11 (.extract (tp 7) 0),oo 12 (.extract (tp 7) 1),oo 5 (.alloc 33 [.pd (.raw (.int .i64 0)),.pd (.raw (.string ⟨#[]⟩)),.pd (.raw (.string ⟨#[]⟩)),.pd (.raw (.bool false)),.nils,.nils,.pd (.raw (.string ⟨#[]⟩)),.nils,.nils,.nils,.nils,.nils,.nils]),.mk none none (.store 13 (tp 5) (tp 11)),mq 6 12] [5,6] (sr [mq 13 6,mq 14 13,og 14 true 15 (.load (some 13) (tp 5)),og 14 true 16 (.call 29 [tp 15]),oo 17 (.pick (tp 14) (tp 16) (cq false)),mq 18 17,og 18 true 19 (.fieldA 3 (tp 5)),og 18 true 20 (.load none (tp 19)),oo 21 (.pick (tp 18) (tp 20) (cq false)),mq 4 21] [4] .ret)))
def an_zb5tb : Ann := ann (List.range 3) ac_zb5tb
theorem ok_zb5tb : okd Tryz.prog an_zb5tb ac_zb5tb Tryz.f60 := ⟨by kernel_rfl, by kernel_rfl⟩

end Go.Proofs.YtcnhcamimcpinaaGreatDoor


namespace Go.Proofs.YtcnhcamimcpinaaGreatDoor
open Go Go.RowKit
set_option linter.unusedSimpArgs false
set_option linter.unusedVariables false
set_option maxRecDepth 100000

def goodAt (os : List AObj) (r : ARef) : Bool := match found os r with
 | some o => objMay o && o.good
 | none => false

theorem listen_good (os : List AObj) (hos : os.length ≤ 1000000) (h : ∀ o ∈ os, o.ok) (r : ARef) : Pure Tryz.prog 60 [.pd (.slice (rows AObj.pd os)), r.d] (fun d => d = bln (goodAt os r)) := by
 refine pure_of_run follows an_zb5tb Tryz.func60 rfl ok_zb5tb.1 ok_zb5tb.2 (by simp [Tryz.ntmps60]) ?_
 rw [run_start]
 simp only [ac_zb5tb, go_sem, contS_seq, simprocAttr]
 refine (grant_Find os hos r).callW (enters_of Tryz.func30 rfl rfl) _ rfl rfl ?_
 rintro _ rfl
 unfold goodAt
 rcases hf : found os r with _ | o
 ·simp only [foundD, go_sem, contS_seq, simprocAttr]
  simp only [retK, resD, retL, oneD, simprocAttr, Tryz.results60]
  exact ⟨_, rfl, rfl, rfl⟩
 ·simp only [foundD, go_sem, contS_seq, simprocAttr]
  refine (object_May o (h o (List.mem_of_find?_eq_some hf))).callW (enters_of Tryz.func29 rfl rfl) _ rfl rfl ?_
  rintro _ rfl
  simp only [go_sem, contS_seq, simprocAttr]
  cases objMay o
  all_goals
   simp only [go_sem, contS_seq, simprocAttr]
   simp only [retK, resD, retL, oneD, simprocAttr, Tryz.results60]
   exact ⟨_, rfl, rfl, rfl⟩

def gwOk (g : AObj) : Bool := decide (g.ref.kind = 5) && objMay g

theorem listen_gateway (g : AObj) (h : g.ok) : Pure Tryz.prog 59 [g.d] (fun d => d = bln (gwOk g)) := by
 refine pure_of_run follows an_zjbl5 Tryz.func59 rfl ok_zjbl5.1 ok_zjbl5.2 (by simp [Tryz.ntmps59]) ?_
 rw [run_start]
 simp only [ac_zjbl5, go_sem, contS_seq, simprocAttr]
 (repeat' (first | (refine GifP.mk (fun _ => ?_) (fun _ => ?_)) | (refine Gif.mk (fun _ => ?_) (fun _ => ?_)) | (refine (object_May g h).callW (enters_of Tryz.func29 rfl rfl) _ rfl rfl ?_; rintro _ rfl; try simp only [go_sem, contS_seq, simprocAttr]))) <;> (simp only [retK, resD, retL, oneD, simprocAttr, Tryz.results59]; exact ⟨_, rfl, rfl, congrArg bln (by first | rfl | (rw [Bool.eq_iff_iff]; simp only [gwOk]; (first | (simp; done) | (simp; omega) | (simp [*]; done) | (simp [*]; omega))) | (simp_all [gwOk]; done) | (exfalso; omega))⟩)

def ours (os : List AObj) (g : AObj) : Bool := gwOk g && goodAt os ⟨1, ⟨#[]⟩, g.cls⟩

theorem listen_Ours (os : List AObj) (hos : os.length ≤ 1000000) (h : ∀ o ∈ os, o.ok) (g : AObj) (hg : g.ok) : Pure Tryz.prog 32 [.pd (.slice (rows AObj.pd os)), g.d] (fun d => d = bln (ours os g)) := by
 refine pure_of_run follows an_zws5f Tryz.func32 rfl ok_zws5f.1 ok_zws5f.2 (by simp [Tryz.ntmps32]) ?_
 rw [run_start]
 simp only [ac_zws5f, go_sem, contS_seq, simprocAttr]
 (repeat' (first | (refine GifP.mk (fun _ => ?_) (fun _ => ?_)) | (refine Gif.mk (fun _ => ?_) (fun _ => ?_)) | ((first | refine (listen_gateway g hg).callW (enters_of Tryz.func59 rfl rfl) _ rfl rfl ?_ | refine (listen_good os hos h ⟨1, ⟨#[]⟩, g.cls⟩).callW (enters_of Tryz.func60 rfl rfl) _ rfl rfl ?_); rintro _ rfl; try simp only [go_sem, contS_seq, simprocAttr]))) <;> (simp only [retK, resD, retL, oneD, simprocAttr, Tryz.results32]; exact ⟨_, rfl, rfl, congrArg bln (by first | rfl | (rw [Bool.eq_iff_iff]; simp only [ours]; (first | (simp; done) | (simp; omega) | (simp [*]; done) | (simp [*]; omega))) | (simp_all [ours]; done) | (exfalso; omega))⟩)

def atL (g : AObj) (i : Int) : Option AListener := if gwOk g = true then (if i < 0 then none else g.listeners[i.toNat]?) else none


abbrev star : ByteArray := ⟨#[42, 46]⟩
abbrev dot : ByteArray := ⟨#[46]⟩

def under (s z : ByteArray) : Bool := dname s && dname z && hasSuffix s (dot ++ z)

def below (p q : ByteArray) : Bool :=
 if q = ⟨#[]⟩ ∨ p = q then true
 else if p = ⟨#[]⟩ ∨ hasPrefix q star = false then false
 else if hasPrefix p star = true then under (cutPrefix p star) (cutPrefix q star)
 else under p (cutPrefix q star)

def hostMeet (a b : ByteArray) : Option ByteArray :=
 if hostMay a = false ∨ hostMay b = false then none
 else if below a b = true then some a
 else if below b a = true then some b
 else none

theorem below_nil (p : ByteArray) : below p ⟨#[]⟩ = true := by simp [below]
theorem below_self (p : ByteArray) : below p p = true := by simp [below]

theorem meet_may {a b m : ByteArray} (h : hostMeet a b = some m) : hostMay a = true ∧ hostMay b = true := by
 unfold hostMeet at h
 split at h
 ·cases h
 ·rename_i hn
  exact ⟨by simpa using fun e => hn (.inl e), by simpa using fun e => hn (.inr e)⟩

def hasStr (l : List ByteArray) (v : ByteArray) : Bool := l.any fun x => decide (v = x)

theorem hasStr_iff {l : List ByteArray} {v : ByteArray} : hasStr l v = true ↔ v ∈ l := by
 unfold hasStr
 rw [List.any_eq_true]
 exact ⟨fun ⟨x, hx, h⟩ => by rw [of_decide_eq_true h]; exact hx, fun h => ⟨v, h, decide_eq_true rfl⟩⟩

def meetStep (p : ByteArray) (out : List ByteArray) (h : ByteArray) : List ByteArray := match hostMeet p h with
 | some m => if hasStr out m = true then out else out ++ [m]
 | none => out

def someHosts (hosts : List ByteArray) : List ByteArray := if hosts = [] then [⟨#[]⟩] else hosts

def meets (p : ByteArray) (hosts : List ByteArray) : List ByteArray := (someHosts hosts).foldl (meetStep p) []

theorem mem_meetStep {p h m : ByteArray} {out : List ByteArray} : m ∈ meetStep p out h ↔ m ∈ out ∨ hostMeet p h = some m := by
 unfold meetStep
 cases hh : hostMeet p h with
 | none => simp
 | some x =>
   simp only [Option.some.injEq]
   split
   ·rename_i hx
    exact ⟨.inl, fun h => h.elim id fun e => e ▸ hasStr_iff.1 hx⟩
   ·rw [List.mem_append, List.mem_singleton, eq_comm]

theorem mem_meetFold {p m : ByteArray} : ∀ {hosts out : List ByteArray}, m ∈ hosts.foldl (meetStep p) out ↔ m ∈ out ∨ ∃ h ∈ hosts, hostMeet p h = some m
 | [], out => by simp
 | h :: hosts, out => by
   rw [List.foldl_cons, mem_meetFold, mem_meetStep]
   simp only [List.mem_cons, exists_eq_or_imp, or_assoc]

theorem mem_meets {p m : ByteArray} {hosts : List ByteArray} : m ∈ meets p hosts ↔ ∃ h ∈ someHosts hosts, hostMeet p h = some m := by
 unfold meets
 rw [mem_meetFold]
 simp

theorem nodup_meetStep {p h : ByteArray} {out : List ByteArray} (ho : out.Nodup) : (meetStep p out h).Nodup := by
 unfold meetStep
 split
 ·split
  ·exact ho
  ·rename_i m _ hm
   rw [List.nodup_append]
   exact ⟨ho, by simp, fun a ha b hb e => hm (hasStr_iff.2 (by rw [List.mem_singleton.1 hb] at e; exact e ▸ ha))⟩
 ·exact ho

theorem nodup_meetFold {p : ByteArray} : ∀ (hosts : List ByteArray) {out : List ByteArray}, out.Nodup → (hosts.foldl (meetStep p) out).Nodup
 | [], _, ho => ho
 | _ :: hosts, _, ho => nodup_meetFold hosts (nodup_meetStep ho)

theorem nodup_meets (p : ByteArray) (hosts : List ByteArray) : (meets p hosts).Nodup := nodup_meetFold _ List.nodup_nil

def isName (n : ByteArray) (p : APair) : Bool := decide (p.name = n)
def labFind (l : List APair) (n : ByteArray) : Option ByteArray := (l.find? (isName n)).map (·.val)

def labAmong (l : List APair) (n : ByteArray) (vals : List ByteArray) : Bool := match labFind l n with
 | some v => hasStr vals v
 | none => false

def metBy (n : ANeed) (l : List APair) : Bool :=
 if n.kind = 1 then labAmong l n.name n.vals
 else if n.kind = 2 then !labAmong l n.name n.vals
 else if n.kind = 3 then (labFind l n.name).isSome
 else !(labFind l n.name).isSome

def metNeed (n : ANeed) (l : List APair) : Bool := labelsMay l && (askMay n && metBy n l)
def labelsAll (needs : List ANeed) (l : List APair) : Bool := needsMay needs && labelsMay l && !needs.any fun n => !metNeed n l

structure ASpot where
 gateway : ARef
 listener : ByteArray
 hosts : List ByteArray

abbrev ASpot.pd (s : ASpot) : List PD := [pInt s.gateway.kind, pStr s.gateway.space, pStr s.gateway.name, pStr s.listener, .slice (strs s.hosts)]

abbrev ASpot.ds (s : ASpot) : List D := [int s.gateway.kind, str s.gateway.space, str s.gateway.name, str s.listener, .pd (.slice (strs s.hosts))]
abbrev ASpot.d (s : ASpot) : D := .agg [int s.gateway.kind, str s.gateway.space, str s.gateway.name, str s.listener, .pd (.slice (strs s.hosts))]

abbrev ASpot.at_ (s : ASpot) (g : ARef) (l : ByteArray) : Bool := decide (s.gateway = g) && decide (s.listener = l)

def asked (x : AListener) (p : AParent) : Bool := (decide (p.section_ = ⟨#[]⟩) || decide (p.section_ = x.name)) && (decide (p.port = 0) || decide (p.port = x.port))

def noParent : ByteArray := ⟨#[78, 111, 77, 97, 116, 99, 104, 105, 110, 103, 80, 97, 114, 101, 110, 116]⟩
def noSpace : ByteArray := ⟨#[78, 111, 116, 65, 108, 108, 111, 119, 101, 100, 66, 121, 76, 105, 115, 116, 101, 110, 101, 114, 115]⟩
def noHost : ByteArray := ⟨#[78, 111, 77, 97, 116, 99, 104, 105, 110, 103, 76, 105, 115, 116, 101, 110, 101, 114, 72, 111, 115, 116, 110, 97, 109, 101]⟩

def attLets (met : List ANeed → List APair → Bool) (os : List AObj) (g : AObj) (x : AListener) (space : ByteArray) : Bool :=
 if x.from_ = 1 then true
 else if x.from_ = 2 then (match found os ⟨2, ⟨#[]⟩, space⟩ with
  | some s => objMay s && met x.needs s.labels
  | none => false)
 else decide (space = g.ref.space)

section
variable (met : List ANeed → List APair → Bool)

def atStep (os : List AObj) (g r : AObj) (p : AParent) (x : AListener) (a : List ASpot × ByteArray) : List ASpot × ByteArray :=
 if asked x p = false then a
 else if attLets met os g x r.ref.space = false then (a.1, if a.2 = noParent then noSpace else a.2)
 else if meets x.host r.hosts = [] then (a.1, noHost)
 else (a.1 ++ [⟨g.ref, x.name, meets x.host r.hosts⟩], a.2)

def atFold (os : List AObj) (g r : AObj) (p : AParent) (l : List AListener) : List ASpot × ByteArray := l.foldl (fun a x => atStep met os g r p x a) ([], noParent)

def attAt (os : List AObj) (r : AObj) (p : Int) : List ASpot × ByteArray × Bool :=
 if isRoute r = true ∧ 0 ≤ p then match r.parents[p.toNat]? with
  | some x => match found os (near ⟨5, x.space, x.name⟩ r.ref.space) with
    | some g => if ours os g = true then ((atFold met os g r x g.listeners).1, if (atFold met os g r x g.listeners).1 = [] then (atFold met os g r x g.listeners).2 else ⟨#[]⟩, true) else ([], ⟨#[]⟩, false)
    | none => ([], ⟨#[]⟩, false)
  | none => ([], ⟨#[]⟩, false)
 else ([], ⟨#[]⟩, false)

def gatherStep (out : List ASpot) (s : ASpot) : List ASpot := if out.any (fun x => x.at_ s.gateway s.listener) = true then out else out ++ [s]
def gatherS (out more : List ASpot) : List ASpot := more.foldl gatherStep out

def allUpto (os : List AObj) (r : AObj) : Nat → List ASpot
 | 0 => []
 | n + 1 => gatherS (allUpto os r n) (attAt met os r n).1

def attAll (os : List AObj) (r : AObj) : List ASpot := allUpto met os r r.parents.length

structure Like (os us : List AObj) (r : AObj) : Prop where
 cls : ∀ n, found os ⟨1, ⟨#[]⟩, n⟩ = found us ⟨1, ⟨#[]⟩, n⟩
 spc : ∀ n, found os ⟨2, ⟨#[]⟩, n⟩ = found us ⟨2, ⟨#[]⟩, n⟩
 gws : ∀ x ∈ r.parents, found os (near ⟨5, x.space, x.name⟩ r.ref.space) = found us (near ⟨5, x.space, x.name⟩ r.ref.space)

theorem mem_atFold {os : List AObj} {g r : AObj} {p : AParent} {s : ASpot} : ∀ {l : List AListener} {a : List ASpot × ByteArray}, s ∈ (l.foldl (fun a x => atStep met os g r p x a) a).1 ↔
 s ∈ a.1 ∨ ∃ x ∈ l, asked x p = true ∧ attLets met os g x r.ref.space = true ∧ meets x.host r.hosts ≠ [] ∧ s = ⟨g.ref, x.name, meets x.host r.hosts⟩
 | [], a => by simp
 | x :: l, a => by
   rw [List.foldl_cons, mem_atFold]
   have : s ∈ (atStep met os g r p x a).1 ↔ s ∈ a.1 ∨ (asked x p = true ∧ attLets met os g x r.ref.space = true ∧ meets x.host r.hosts ≠ [] ∧ s = ⟨g.ref, x.name, meets x.host r.hosts⟩) := by
    unfold atStep
    by_cases h1 : asked x p = false
    ·rw [if_pos h1]; simp [h1]
    ·rw [if_neg h1]
     simp only [Bool.not_eq_false] at h1
     by_cases h2 : attLets met os g x r.ref.space = false
     ·rw [if_pos h2]; simp [h2]
     ·rw [if_neg h2]
      simp only [Bool.not_eq_false] at h2
      by_cases h3 : meets x.host r.hosts = []
      ·rw [if_pos h3]; simp [h3]
      ·rw [if_neg h3]
       simp [h1, h2, h3]
   rw [this]
   simp only [List.mem_cons, exists_eq_or_imp, or_assoc]

theorem gather_mem {s : ASpot} : ∀ {more out : List ASpot}, s ∈ gatherS out more → s ∈ out ∨ s ∈ more
 | [], _, h => .inl h
 | x :: more, out, h => by
   rcases gather_mem (more := more) (out := gatherStep out x) h with h | h
   ·unfold gatherStep at h
    split at h
    ·exact .inl h
    ·rcases List.mem_append.1 h with h | h
     ·exact .inl h
     ·exact .inr (by rw [List.mem_singleton.1 h]; exact List.mem_cons_self)
   ·exact .inr (List.mem_cons_of_mem _ h)

end


theorem eqf_dec {α : Type} [DecidableEq α] {q : α → α → Bool} (h : ∀ x y, q x y = decide (x = y)) : ∀ l m : List α, eqf q l m = decide (l = m)
 | [], [] => rfl
 | [], _ :: _ => rfl
 | _ :: _, [] => rfl
 | x :: l, y :: m => by
   simp only [eqf, h, eqf_dec h l m]
   rw [Bool.eq_iff_iff]
   simp

theorem needSame_dec (a b : ANeed) : needSame a b = decide (a = b) := by
 cases a; cases b
 rw [Bool.eq_iff_iff]
 simp [needSame, and_assoc]

theorem listenerSame_dec (a b : AListener) : listenerSame a b = decide (a = b) := by
 simp only [listenerSame, eqf_dec needSame_dec]
 cases a; cases b
 rw [Bool.eq_iff_iff]
 simp [and_assoc]

theorem matchSame_dec (a b : AMatch) : matchSame a b = decide (a = b) := by
 cases a; cases b
 rw [Bool.eq_iff_iff]
 simp [matchSame, and_assoc]

theorem ruleSame_dec (a b : ARule) : ruleSame a b = decide (a = b) := by
 simp only [ruleSame, eqf_dec matchSame_dec]
 cases a; cases b
 rw [Bool.eq_iff_iff]
 simp [and_assoc]

theorem objSame_iff (a b : AObj) : objSame a b = true ↔ a = b := by
 simp only [objSame, eqf_dec listenerSame_dec, eqf_dec ruleSame_dec]
 cases a; cases b
 simp [and_assoc]
 intro _ _
 constructor
 ·rintro ⟨h1, h2, h3, h4, h5, h6, h7, h8, h9⟩
  exact ⟨h2, h3, h1, h8, h5, h4, h9, h6, h7⟩
 ·rintro ⟨h2, h3, h1, h8, h5, h4, h9, h6, h7⟩
  exact ⟨h1, h2, h3, h4, h5, h6, h7, h8, h9⟩

def AObj.keep (o : AObj) : AObj :=
 if o.ref.kind = 1 ∨ o.ref.kind = 4 then { AObj.zero o.ref with good := o.good }
 else if o.ref.kind = 2 then { AObj.zero o.ref with labels := o.labels }
 else if o.ref.kind = 3 then { AObj.zero o.ref with ports := o.ports }
 else if o.ref.kind = 5 then { AObj.zero o.ref with listeners := o.listeners, cls := o.cls }
 else if o.ref.kind = 6 then { AObj.zero o.ref with parents := o.parents, hosts := o.hosts, rules := o.rules }
 else { AObj.zero o.ref with from_ := o.from_, to_ := o.to_ }

theorem keep_iff (o : AObj) : o.keep = o ↔ o.strip = AObj.zero o.ref := by
 obtain ⟨r, gd, la, po, cl, li, pa, ho, ru, fr, to⟩ := o
 unfold AObj.keep AObj.strip
 simp only [AObj.zero]
 repeat' split
 all_goals
  simp only [AObj.mk.injEq]
  constructor
  ·intro h; simp_all
  ·intro h; simp_all

theorem objMay_keep (o : AObj) : objMay o = (mayRef o.ref && (kindMay o && decide (o.keep = o))) := by
 rw [Bool.eq_iff_iff]
 simp only [objMay, Bool.and_eq_true, objSame_iff, decide_eq_true_eq, keep_iff, and_assoc]


abbrev AObj.wide (r : AObj) : AObj := { r with hosts := [] }
section
variable (met : List ANeed → List APair → Bool)

theorem attAt_off {os : List AObj} {r : AObj} {p : Int} (h : (attAt met os r p).2.2 = false) : (attAt met os r p).1 = [] := by
 unfold attAt at h ⊢
 split
 ·rename_i h1
  rw [if_pos h1] at h
  split
  ·rename_i x hx
   simp only [hx] at h
   split
   ·rename_i g hg
    simp only [hg] at h
    split
    ·rename_i ho
     rw [if_pos ho] at h
     cases h
    ·rfl
   ·rfl
  ·rfl
 ·rfl

theorem attAt_on {os : List AObj} {r : AObj} {p : Int} (h : (attAt met os r p).2.2 = true) : ∃ (x : AParent) (g : AObj), isRoute r = true ∧ 0 ≤ p ∧ r.parents[p.toNat]? = some x ∧ found os (near ⟨5, x.space, x.name⟩ r.ref.space) = some g ∧ ours os g = true ∧
 (attAt met os r p).1 = (atFold met os g r x g.listeners).1 := by
 unfold attAt at h ⊢
 by_cases h1 : isRoute r = true ∧ 0 ≤ p
 ·rw [if_pos h1] at h ⊢
  cases hx : r.parents[p.toNat]? with
  | none => rw [hx] at h; cases h
  | some x =>
    rw [hx] at h
    simp only at h ⊢
    cases hg : found os (near ⟨5, x.space, x.name⟩ r.ref.space) with
    | none => rw [hg] at h; cases h
    | some g =>
      rw [hg] at h
      simp only at h ⊢
      by_cases ho : ours os g = true
      ·rw [if_pos ho]
       exact ⟨x, g, h1.1, h1.2, rfl, hg, ho, rfl⟩
      ·rw [if_neg ho] at h; cases h
 ·rw [if_neg h1] at h; cases h

theorem mem_fold {os : List AObj} {g r : AObj} {p : AParent} {s : ASpot} {l : List AListener} : s ∈ (atFold met os g r p l).1 ↔
 ∃ x ∈ l, asked x p = true ∧ attLets met os g x r.ref.space = true ∧ meets x.host r.hosts ≠ [] ∧ s = ⟨g.ref, x.name, meets x.host r.hosts⟩ := by
 unfold atFold
 rw [mem_atFold]
 simp

end


def refMeet (a b : ByteArray) : Option ByteArray :=
 if hostMay a = false ∨ hostMay b = false then none
 else if a = ⟨#[]⟩ then some b
 else if b = ⟨#[]⟩ ∨ a = b then some a
 else if hasPrefix b star = true ∧ under (cutPrefix a star) (cutPrefix b star) = true then some a
 else if hasPrefix a star = true ∧ under (cutPrefix b star) (cutPrefix a star) = true then some b
 else none

theorem below_both {p q : ByteArray} (hp : ¬ p = ⟨#[]⟩) (hq : ¬ q = ⟨#[]⟩) (h : ¬ p = q) : below p q = true ↔ hasPrefix q star = true ∧ under (cutPrefix p star) (cutPrefix q star) = true := by
 unfold below
 rw [if_neg (by simp [hq, h])]
 by_cases h1 : hasPrefix q star = true
 ·rw [if_neg (by simp [hp, h1])]
  by_cases h2 : hasPrefix p star = true
  ·rw [if_pos h2]; simp [h1]
  ·rw [if_neg h2]
   have : cutPrefix p star = p := by simp only [cutPrefix, h2]; rfl
   rw [this]; simp [h1]
 ·rw [if_pos (.inr (by simpa using h1))]
  simp [h1]

theorem below_from_nil {q : ByteArray} (hq : ¬ q = ⟨#[]⟩) : below ⟨#[]⟩ q = false := by
 unfold below
 rw [if_neg (by simp [hq, Ne.symm hq]), if_pos (.inl rfl)]

theorem refMeet_eq (a b : ByteArray) : refMeet a b = hostMeet a b := by
 unfold refMeet hostMeet
 by_cases hm : hostMay a = false ∨ hostMay b = false
 ·rw [if_pos hm, if_pos hm]
 rw [if_neg hm, if_neg hm]
 by_cases ha : a = ⟨#[]⟩
 ·rw [if_pos ha]
  by_cases hb : b = ⟨#[]⟩
  ·rw [hb, if_pos (below_nil a), ha]
  ·rw [ha, below_from_nil hb, if_neg (by decide), below_nil, if_pos rfl]
 rw [if_neg ha]
 by_cases hb : b = ⟨#[]⟩
 ·rw [if_pos (.inl hb), hb, below_nil, if_pos rfl]
 by_cases hab : a = b
 ·rw [if_pos (.inr hab), hab, below_self, if_pos rfl]
 rw [if_neg (by simp [hb, hab])]
 have e1 := below_both ha hb hab
 have e2 := below_both hb ha (Ne.symm hab)
 by_cases h1 : below a b = true
 ·rw [if_pos (e1.1 h1), if_pos h1]
 ·rw [if_neg (fun h => h1 (e1.2 h)), if_neg h1]
  by_cases h2 : below b a = true
  ·rw [if_pos (e2.1 h2), if_pos h2]
  ·rw [if_neg (fun h => h2 (e2.2 h)), if_neg h2]

theorem under_size {s z : ByteArray} (h : under s z = true) : z.size < s.size := by
 simp only [under, hasSuffix, Bool.and_eq_true, decide_eq_true_eq] at h
 have := h.2.1
 rw [ByteArray.size_append] at this
 have h1 : (dot : ByteArray).size = 1 := rfl
 omega

theorem below_antisymm {p q : ByteArray} (h1 : below p q = true) (h2 : below q p = true) : p = q := by
 by_cases hp : p = ⟨#[]⟩
 ·by_cases hq : q = ⟨#[]⟩
  ·rw [hp, hq]
  ·rw [hp, below_from_nil hq] at h1; cases h1
 by_cases hq : q = ⟨#[]⟩
 ·rw [hq, below_from_nil hp] at h2; cases h2
 by_cases h : p = q
 ·exact h
 ·have e1 := under_size ((below_both hp hq h).1 h1).2
  have e2 := under_size ((below_both hq hp (Ne.symm h)).1 h2).2
  omega

theorem meet_both {p x m : ByteArray} (h : hostMeet p x = some m) : hostMeet p m = some m ∧ hostMeet x m = some m := by
 obtain ⟨h1, h2⟩ := meet_may h
 have self : ∀ y, hostMay y = true → hostMeet y y = some y := fun y hy => by simp [hostMeet, hy, below_self]
 unfold hostMeet at h
 rw [if_neg (by simp [h1, h2])] at h
 by_cases b1 : below p x = true
 ·rw [if_pos b1] at h
  cases h
  refine ⟨self _ h1, ?_⟩
  unfold hostMeet
  rw [if_neg (by simp [h1, h2])]
  by_cases b2 : below x p = true
  ·rw [if_pos b2, below_antisymm b1 b2]
  ·rw [if_neg b2, if_pos b1]
 ·rw [if_neg b1] at h
  by_cases b2 : below x p = true
  ·rw [if_pos b2] at h
   cases h
   refine ⟨?_, self _ h2⟩
   unfold hostMeet
   rw [if_neg (by simp [h1, h2]), if_neg b1, if_pos b2]
  ·rw [if_neg b2] at h; cases h

theorem spot_host {p h : ByteArray} {hosts : List ByteArray} (hm : h ∈ meets p hosts) : refMeet p h = some h ∧ (hosts = [] ∨ ∃ x ∈ hosts, refMeet x h = some h) := by
 obtain ⟨x, hx, e⟩ := mem_meets.1 hm
 obtain ⟨e1, e2⟩ := meet_both e
 rw [refMeet_eq]
 refine ⟨e1, ?_⟩
 by_cases h0 : hosts = []
 ·exact .inl h0
 ·refine .inr ⟨x, ?_, by rw [refMeet_eq]; exact e2⟩
  simpa [someHosts, h0] using hx

section
variable (met : List ANeed → List APair → Bool)

end


theorem get_byte {s : ByteArray} {i : Nat} {b : UInt8} (h : s[i]? = some b) : s.get! i = b := by
 rw [bytes_get] at h
 have h1 : s.data[i]? = some b := by rw [← Array.getElem?_toList]; exact h
 simp only [ByteArray.get!]
 rw [getElem!_def, h1]

theorem decode_low {s : ByteArray} {i : Nat} {b : UInt8} (h : s[i]? = some b) (hb : b.toNat < 128) : Utf8.decode s i = (b.toNat, 1) := by
 rw [Lib.decode_at, get_byte h, Lib.decodeN, if_pos hb]

theorem decode_high {s : ByteArray} {i : Nat} {b : UInt8} (h : s[i]? = some b) (hb : ¬ b.toNat < 128) : 128 ≤ (Utf8.decode s i).1 := by
 rw [Lib.decode_at, get_byte h, Lib.decodeN, if_neg hb]
 repeat' split
 all_goals first | omega | (simp only []; omega)

theorem runeAll_bytes {p : Int → Bool} (hp : ∀ c, 128 ≤ c → p c = false) (s : ByteArray) : ∀ (k pos : Nat), s.size ≤ pos + k → runeAll p s k pos = (s.data.toList.drop pos).all fun b => p b.toNat
 | 0, pos, h => by
   rw [byte_end (by omega)]
   rfl
 | k + 1, pos, h => by
   by_cases hlt : pos < s.size
   ·obtain ⟨b, hb, hd⟩ := byte_at hlt
    rw [hd, List.all_cons]
    simp only [runeAll, hlt, if_true]
    by_cases h1 : b.toNat < 128
    ·rw [decode_low hb h1, runeAll_bytes hp s k (pos + 1) (by omega)]
    ·have h2 := decode_high hb h1
     rw [hp _ (by omega), hp (b.toNat : Int) (by omega)]
     simp
   ·rw [runeAll_end hlt, byte_end hlt]
    rfl

theorem runeIdx_all (p : Int → Bool) (s : ByteArray) : ∀ (k pos : Nat), (runeIdx (fun c => !p c) s k pos < 0) = (runeAll p s k pos = true)
 | 0, pos => by simp [runeIdx, runeAll]
 | k + 1, pos => by
   simp only [runeIdx, runeAll]
   split
   ·obtain ⟨q, hq⟩ : ∃ q, p (Utf8.decode s pos).1 = q := ⟨_, rfl⟩
    cases q with
    | false => simp only [hq, Bool.not_false, if_true, Bool.false_and, Bool.false_eq_true, eq_iff_iff, iff_false]; omega
    | true =>
      simp only [hq, Bool.not_true, Bool.false_eq_true, if_false, Bool.true_and]
      exact runeIdx_all p s k _
   ·simp

theorem idx_none {p : Int → Bool} (hp : ∀ c, 128 ≤ c → p c = false) (s : ByteArray) : decide (runeIdx (fun c => !p c) s s.size 0 < 0) = s.data.toList.all fun b => p b.toNat := by
 rw [Bool.eq_iff_iff, decide_eq_true_eq, runeIdx_all, runeAll_bytes hp s s.size 0 (by omega)]
 rfl

theorem all_bytes {s : ByteArray} {p : UInt8 → Bool} : s.data.toList.all p = true ↔ ∀ (j : Nat) (b : UInt8), s[j]? = some b → p b = true := by
 rw [List.all_eq_true]
 constructor
 ·intro h j b hb
  rw [bytes_get] at hb
  exact h b (List.mem_of_getElem? hb)
 ·intro h b hb
  obtain ⟨j, hj⟩ := List.getElem?_of_mem hb
  exact h j b (by rw [bytes_get]; exact hj)

def labAt (n j : Nat) (b : UInt8) : Bool := ((decide (97 ≤ b.toNat) && decide (b.toNat ≤ 122)) || (decide (48 ≤ b.toNat) && decide (b.toNat ≤ 57))) || (decide (b.toNat = 45) && !(decide (j = 0) || decide (j + 1 = n)))

theorem size0 {s : ByteArray} : s = ⟨#[]⟩ ↔ s.size = 0 := by
 constructor
 ·intro h; rw [h]; rfl
 ·intro h
  have : s.data = #[] := Array.eq_empty_of_size_eq_zero h
  cases s; simp_all

theorem label_iff (s : ByteArray) : label s = true ↔ 1 ≤ s.size ∧ s.size ≤ 20 ∧ ∀ (j : Nat) (b : UInt8), s[j]? = some b → labAt s.size j b = true := by
 have ho : ∀ c : Int, 128 ≤ c → octet c = false := fun c h => by simp [octet]; omega
 simp only [label, idx_none ho, Bool.and_eq_true, Bool.not_eq_true', decide_eq_true_eq, decide_eq_false_iff_not, size0, all_bytes]
 constructor
 ·rintro ⟨⟨⟨⟨h1, h2⟩, h3⟩, h4⟩, h5⟩
  refine ⟨by omega, h2, fun j b hb => ?_⟩
  have h6 := h3 j b hb
  simp only [octet, Bool.or_eq_true, Bool.and_eq_true, decide_eq_true_eq] at h6
  simp only [labAt, Bool.or_eq_true, Bool.and_eq_true, decide_eq_true_eq, Bool.not_eq_true', Bool.or_eq_false_iff, decide_eq_false_iff_not]
  by_cases e : b.toNat = 45
  ·right
   refine ⟨e, fun e0 => ?_, fun e1 => ?_⟩
   ·subst e0
    rw [hb] at h4
    simp [e] at h4
   ·have : j = s.size - 1 := by omega
    rw [← this, hb] at h5
    simp [e] at h5
  ·left
   omega
 ·rintro ⟨h1, h2, h3⟩
  refine ⟨⟨⟨⟨by omega, h2⟩, fun j b hb => ?_⟩, ?_⟩, ?_⟩
  ·have h6 := h3 j b hb
   simp only [labAt, Bool.or_eq_true, Bool.and_eq_true, decide_eq_true_eq] at h6
   simp only [octet, Bool.or_eq_true, Bool.and_eq_true, decide_eq_true_eq]
   omega
  ·obtain ⟨b, hb⟩ := at_byte (show 0 < s.size by omega)
   have h6 := h3 0 b hb
   rw [hb]
   simp [labAt] at h6 ⊢
   omega
  ·obtain ⟨b, hb⟩ := at_byte (show s.size - 1 < s.size by omega)
   have h6 := h3 _ b hb
   rw [hb]
   have : s.size - 1 + 1 = s.size := by omega
   simp [labAt, this] at h6 ⊢
   omega

def stepR (c : UInt8) (out : List ByteArray) (b : UInt8) : List ByteArray :=
 if b = c then out ++ [⟨#[]⟩] else out.set (out.length - 1) (out.getD (out.length - 1) default ++ ⟨#[b]⟩)

def splitR (c : UInt8) (l : List UInt8) : List ByteArray := l.foldl (stepR c) [⟨#[]⟩]

def partsL (c : UInt8) : ByteArray → List UInt8 → List ByteArray
 | cur, [] => [cur]
 | cur, b :: l => if b = c then cur :: partsL c ⟨#[]⟩ l else partsL c (cur ++ ⟨#[b]⟩) l

theorem foldl_parts (c : UInt8) : ∀ (l : List UInt8) (pre : List ByteArray) (cur : ByteArray), l.foldl (stepR c) (pre ++ [cur]) = pre ++ partsL c cur l
 | [], _, _ => rfl
 | b :: l, pre, cur => by
   simp only [List.foldl_cons, partsL]
   by_cases e : b = c
   ·simp only [stepR, e, if_true]
    rw [foldl_parts c l (pre ++ [cur]) ⟨#[]⟩, List.append_assoc]
    rfl
   ·simp only [stepR, e, if_false]
    have h1 : (pre ++ [cur]).length - 1 = pre.length := by simp
    rw [h1, List.getD_eq_getElem?_getD, List.getElem?_append_right (Nat.le_refl _), Nat.sub_self, List.set_append_right _ _ (Nat.le_refl _), Nat.sub_self]
    exact foldl_parts c l pre (cur ++ ⟨#[b]⟩)

theorem app_assoc (a b c : ByteArray) : a ++ b ++ c = a ++ (b ++ c) := ByteArray.append_assoc
theorem app_nil (a : ByteArray) : a ++ ⟨#[]⟩ = a := by
 apply ByteArray.ext
 simp
theorem app_list (a : ByteArray) (b : UInt8) (l : List UInt8) : a ++ ⟨#[b]⟩ ++ ⟨l.toArray⟩ = a ++ ⟨(b :: l).toArray⟩ := by
 rw [app_assoc]
 congr 1

theorem partsL_eq (c : UInt8) : ∀ (l : List UInt8) (cur : ByteArray),
 partsL c cur l = if Lib.indexByte l c < 0 then [cur ++ ⟨l.toArray⟩] else (cur ++ ⟨(l.take (Lib.indexByte l c).toNat).toArray⟩) :: partsL c ⟨#[]⟩ (l.drop ((Lib.indexByte l c).toNat + 1))
 | [], cur => by
   have h : Lib.indexByte [] c < 0 := by simp [Lib.indexByte]
   rw [if_pos h]
   simp only [partsL, app_nil]
 | b :: l, cur => by
   have hg := Lib.indexByte_ge l c
   have hi : Lib.indexByte (b :: l) c = if b == c then 0 else if Lib.indexByte l c == -1 then -1 else Lib.indexByte l c + 1 := rfl
   simp only [beq_iff_eq] at hi
   simp only [partsL]
   by_cases e : b = c
   ·rw [if_pos e] at hi
    rw [hi]
    simp [e, app_nil]
   ·rw [if_neg e] at hi
    rw [if_neg e, partsL_eq c l (cur ++ ⟨#[b]⟩)]
    by_cases h : Lib.indexByte l c = -1
    ·rw [if_pos h] at hi
     rw [if_pos (by omega), hi, if_pos (by decide), app_list]
    ·rw [if_neg h] at hi
     have hn : ¬ Lib.indexByte l c < 0 := by omega
     have h1 : (Lib.indexByte l c + 1).toNat = (Lib.indexByte l c).toNat + 1 := by omega
     rw [hi, if_neg hn, if_neg (by omega), h1, List.take_succ_cons, List.drop_succ_cons, app_list]

theorem extract_list (s : ByteArray) (i j : Nat) : s.extract i j = ⟨((s.data.toList.take j).drop i).toArray⟩ := by
 apply ByteArray.ext
 rw [ByteArray.data_extract]
 apply Array.ext'
 simp [List.drop_take]

theorem parts_splitB (c : UInt8) : ∀ (k : Nat) (s : ByteArray), s.size ≤ k → partsL c ⟨#[]⟩ s.data.toList = splitB c k s
 | 0, s, h => by
   have hs : s.data.toList = [] := List.eq_nil_of_length_eq_zero (by rw [size_list]; omega)
   rw [hs]
   have := size0.2 (show s.size = 0 by omega)
   simp only [partsL, splitB, this]
 | k + 1, s, h => by
   rw [partsL_eq]
   simp only [splitB]
   have e0 : ∀ l : List UInt8, (⟨#[]⟩ : ByteArray) ++ ⟨l.toArray⟩ = ⟨l.toArray⟩ := fun l => by apply ByteArray.ext; simp
   split
   ·rw [e0]
   ·rename_i hn
    have hlt := (indexByte_lt s.data.toList c).resolve_left hn
    rw [size_list] at hlt
    rw [e0, extract_list s 0, List.drop_zero]
    congr 1
    rw [← parts_splitB c k (s.extract ((Lib.indexByte s.data.toList c).toNat + 1) s.size) (by rw [ByteArray.size_extract]; omega)]
    rw [extract_list]
    simp only [List.take_of_length_le (show s.data.toList.length ≤ s.size from Nat.le_of_eq (size_list s))]

theorem splitR_eq (c : UInt8) (s : ByteArray) : splitR c s.data.toList = splitB c s.size s := by
 rw [← parts_splitB c s.size s (Nat.le_refl _)]
 exact foldl_parts c s.data.toList [] ⟨#[]⟩

theorem splitR_step (c : UInt8) {s : ByteArray} {i : Nat} {b : UInt8} (hb : s[i]? = some b) : splitR c (s.data.toList.take (i + 1)) = stepR c (splitR c (s.data.toList.take i)) b := by
 rw [take_at (by rw [← bytes_get]; exact hb)]
 unfold splitR
 rw [List.foldl_append]
 rfl

theorem stepR_len (c : UInt8) (out : List ByteArray) (b : UInt8) : out.length ≤ (stepR c out b).length ∧ (stepR c out b).length ≤ out.length + 1 := by
 unfold stepR
 split <;> simp

theorem splitR_len (c : UInt8) (l : List UInt8) : 1 ≤ (splitR c l).length ∧ (splitR c l).length ≤ l.length + 1 := by
 unfold splitR
 suffices h : ∀ (l : List UInt8) (out : List ByteArray), out.length ≤ (l.foldl (stepR c) out).length ∧ (l.foldl (stepR c) out).length ≤ l.length + out.length from by
  have := h l [⟨#[]⟩]
  simpa using this
 intro l
 induction l with
 | nil => intro out; simp
 | cons b l ih =>
   intro out
   have h1 := ih (stepR c out b)
   have h2 := stepR_len c out b
   simp only [List.foldl_cons, List.length_cons]
   omega

theorem stepR_size (c : UInt8) {out : List ByteArray} {b : UInt8} {n : Nat} (h : ∀ x ∈ out, x.size ≤ n) : ∀ x ∈ stepR c out b, x.size ≤ n + 1 := by
 intro x hx
 unfold stepR at hx
 split at hx
 ·rcases List.mem_append.1 hx with h1 | h1
  ·have := h x h1; omega
  ·simp only [List.mem_singleton] at h1
   subst h1
   exact Nat.zero_le _
 ·rcases List.mem_or_eq_of_mem_set hx with h1 | h1
  ·have := h x h1; omega
  ·subst h1
   rw [ByteArray.size_append]
   have h2 : (out.getD (out.length - 1) default).size ≤ n := by
    rw [List.getD_eq_getElem?_getD]
    cases h3 : out[out.length - 1]? with
    | none => exact Nat.zero_le _
    | some y => exact h y (List.mem_of_getElem? h3)
   have h4 : (ByteArray.mk #[b]).size = 1 := rfl
   omega

theorem splitR_size (c : UInt8) (l : List UInt8) : ∀ x ∈ splitR c l, x.size ≤ l.length := by
 unfold splitR
 suffices h : ∀ (l : List UInt8) (out : List ByteArray) (n : Nat), (∀ x ∈ out, x.size ≤ n) → ∀ x ∈ l.foldl (stepR c) out, x.size ≤ n + l.length from by
  have := h l [⟨#[]⟩] 0 (fun x hx => by simp only [List.mem_singleton] at hx; subst hx; exact Nat.zero_le _)
  simpa using this
 intro l
 induction l with
 | nil => intro out n h; simpa using h
 | cons b l ih =>
   intro out n h x hx
   have := ih (stepR c out b) (n + 1) (stepR_size c h) x hx
   simp only [List.length_cons]
   omega

theorem byte_one {s : ByteArray} {i : Nat} {b : UInt8} (hb : s[i]? = some b) : s.extract i (i + 1) = ⟨#[b]⟩ := by
 rw [extract_list, take_at (by rw [← bytes_get]; exact hb)]
 have hi : i < s.data.toList.length := (List.getElem?_eq_some_iff.1 ((bytes_get s i).symm.trans hb)).1
 rw [List.drop_append_of_le_length (by rw [List.length_take]; omega), List.drop_eq_nil_of_le (by rw [List.length_take]; omega)]
 rfl


theorem hasPrefix_two (s : ByteArray) (c e : UInt8) : hasPrefix s ⟨#[c, e]⟩ = true ↔ 2 ≤ s.size ∧ s[0]? = some c ∧ s[1]? = some e := by
 have h1 : (ByteArray.mk #[c, e]).size = 2 := rfl
 simp only [hasPrefix, Bool.and_eq_true, decide_eq_true_eq, h1]
 refine and_congr_right fun h2 => ?_
 rw [extract_list, List.drop_zero, bytes_get, bytes_get]
 have h3 : 2 ≤ s.data.toList.length := h2
 match hl : s.data.toList with
 | [] => rw [hl] at h3; simp at h3
 | [_] => rw [hl] at h3; simp at h3
 | a :: b :: r =>
   simp only [List.take_succ_cons, List.take_zero, List.getElem?_cons_zero, List.getElem?_cons_succ, Option.some.injEq]
   constructor
   ·intro h
    have := congrArg (fun a : ByteArray => a.data.toList) h
    simpa using this
   ·rintro ⟨rfl, rfl⟩; rfl

theorem tw_from {α : Type} {q : α → α → Bool} {l : List α} : ∀ {k i : Nat}, twiceFrom q l k i = false ↔ ∀ j x, i ≤ j → j < i + k → l[j]? = some x → (l.take j).any (fun y => q x y) = false
 | 0, i => by
   simp only [twiceFrom, true_iff]
   intro j x h1 h2; omega
 | k + 1, i => by
   simp only [twiceFrom, Bool.or_eq_false_iff, tw_from]
   constructor
   ·rintro ⟨h1, h2⟩ j x hj hk hx
    rcases Nat.eq_or_lt_of_le hj with e | e
    ·subst e; rw [hx] at h1; exact h1
    ·exact h2 j x e (by omega) hx
   ·intro h
    refine ⟨?_, fun j x hj hk hx => h j x (by omega) (by omega) hx⟩
    cases hx : l[i]? with
    | none => rfl
    | some x => exact h i x (Nat.le_refl _) (by omega) hx

theorem tw_iff {α : Type} {q : α → α → Bool} {l : List α} : twice q l = false ↔ ∀ (i : Nat) (x : α), l[i]? = some x → ∀ (k : Nat) (y : α), k < i → l[k]? = some y → q x y = false := by
 unfold twice
 rw [tw_from]
 constructor
 ·intro h i x hx k y hk hy
  have h1 := h i x (Nat.zero_le _) (by have := (List.getElem?_eq_some_iff.1 hx).1; omega) hx
  rw [List.any_eq_false] at h1
  have := h1 y (List.mem_of_getElem? (by rw [List.getElem?_take, if_pos hk]; exact hy))
  simpa using this
 ·intro h j x _ _ hx
  rw [List.any_eq_false]
  intro y hy
  obtain ⟨k, hk⟩ := List.getElem?_of_mem hy
  rw [List.getElem?_take] at hk
  split at hk
  ·rename_i hkj
   simpa using h j x hx k y hkj hk
  ·cases hk


section
variable (met : List ANeed → List APair → Bool)

theorem mem_upto {os : List AObj} {r : AObj} {s : ASpot} : ∀ {n : Nat}, s ∈ allUpto met os r n → ∃ p : Nat, p < n ∧ s ∈ (attAt met os r p).1
 | 0, h => by cases h
 | n + 1, h => by
   simp only [allUpto] at h
   rcases gather_mem h with h | h
   ·obtain ⟨p, h1, h2⟩ := mem_upto h
    exact ⟨p, by omega, h2⟩
   ·exact ⟨n, Nat.lt_succ_self _, h⟩

theorem found_ref {os : List AObj} {t : ARef} {g : AObj} (h : found os t = some g) : g.ref = t := by
 have := List.find?_some h
 simpa [isRef] using this

theorem spot_from {os : List AObj} {r : AObj} {s : ASpot} (h : s ∈ attAll met os r) : ∃ (g : AObj) (x : AListener), found os s.gateway = some g ∧ ours os g = true ∧ x ∈ g.listeners ∧ attLets met os g x r.ref.space = true ∧ s.listener = x.name ∧ s.hosts = meets x.host r.hosts ∧ s.hosts ≠ [] := by
 obtain ⟨p, _, hp⟩ := mem_upto met h
 by_cases ho : (attAt met os r p).2.2 = true
 ·obtain ⟨pa, g, _, _, _, h3, h4, h5⟩ := attAt_on met ho
  rw [h5, mem_fold] at hp
  obtain ⟨x, hx, _, e2, e3, rfl⟩ := hp
  exact ⟨g, x, by rw [found_ref h3]; exact h3, h4, hx, e2, rfl, rfl, e3⟩
 ·rw [attAt_off met (by simpa using ho)] at hp
  cases hp

theorem names_own {os : List AObj} {g : AObj} (h : ours os g = true) {i k : Nat} {x y : AListener} (hx : g.listeners[i]? = some x) (hy : g.listeners[k]? = some y) (hn : x.name = y.name) : i = k := by
 have h1 : g.ref.kind = 5 ∧ objMay g = true := by
  simp only [ours, gwOk, Bool.and_eq_true, decide_eq_true_eq] at h
  exact h.1
 have h2 : gatewayMay g.cls g.listeners = true := by
  have := h1.2
  rw [objMay_keep] at this
  have e : kindMay g = gatewayMay g.cls g.listeners := by simp [kindMay, h1.1]
  rw [e] at this
  simp only [Bool.and_eq_true] at this
  exact this.2.1
 have h3 : twice lisName g.listeners = false := by
  simp only [gatewayMay, Bool.and_eq_true, Bool.not_eq_true'] at h2
  first | exact h2.2 | exact h2.1.2 | exact h2.1.1.2
 rw [tw_iff] at h3
 rcases Nat.lt_trichotomy i k with h | h | h
 ·have := h3 k y hy i x h hx
  simp [lisName, hn] at this
 ·exact h
 ·have := h3 i x hx k y h hy
  simp [lisName, hn] at this

end

end Go.Proofs.YtcnhcamimcpinaaGreatDoor



namespace Go.Proofs.YtcnhcamimcpinaaGreatDoor
open Go

def ac_zbctz : AC := (sr [oo 3 (.box 33 (tp 1)),oo 4 (.mv (cq false))] [0,3] (.seq (.draw [mq 20 0,oo 21 (.call 9 [tp 20]),oo 22 (.load (some 13) (tp 3)),oo 23 (.call 10 [tp 22]),mq 0 21,.mk none none (.store 13 (tp 3) (tp 23))] [0,1,0,7,15,31] (.take 0 (.take 2 (.alts (.cons 1 false (.alts (.cons 3 true (.take 4 (.alts (.cons 5 true .done .nil))) .nil)) .nil)))) (some [0,3])) (sr [mq 24 0,oo 25 (.load (some 13) (tp 3)),oo 26 (.call 14 [tp 24,tp 25]),mq 5 26] [0,3,5] (.seq (sr [oo 6 (.mv (ci 0))] [0,3,5,6] (.block 0 (.loop (.seq (sr [mq 27 6,mq 28 5,oo 29 (.len (tp 28) false),oo 30 (.bin .lss (tp 27) (tp 29))] [0,3,5,6,30] (.cond (tp 30) .skip (.exit 0))) (.seq (.block 1 (sr [mq 34 0,mq 35 5,mq 36 6,oo 37 (.idxA 5 (tp 35) (tp 36)),fi 38 0 37,oo 39 (.load (some 3) (tp 38)),oo 40 (.call 17 [tp 34,tp 39]),mq 33 40,oo 41 (.extract (tp 33) 0),oo 42 (.extract (tp 33) 1),oo 7 (.alloc 33 [.pd (.raw (.int .i64 0)),.pd (.raw (.string ⟨#[]⟩)),.pd (.raw (.string ⟨#[]⟩)),.pd (.raw (.bool false)),.nils,.nils,.pd (.raw (.string ⟨#[]⟩)),.nils,.nils,.nils,.nils,.nils,.nils]),.mk none none (.store 13 (tp 7) (tp 41)),mq 8 42] [0,3,5,6,7,8] (sr [oo 9 (.mv (ci (-1)))] [0,3,5,6,7,8,9] (.seq (sr [oo 10 (.mv (ci 0))] [0,3,5,6,7,8,9,10] (.block 2 (.loop (.seq (sr [mq 43 10,fi 44 7 7,lq 45 44,oo 46 (.len (tp 45) false),oo 47 (.bin .lss (tp 43) (tp 46))] [0,3,5,6,7,8,9,10,47] (.cond (tp 47) .skip (.exit 2))) (.seq (.block 3 (.seq (.draw [fi 50 7 7,lq 51 50,mq 52 10,oo 53 (.idxA 9 (tp 51) (tp 52)),fi 54 0 53,lq 55 54,mq 56 5,mq 57 6,oo 58 (.idxA 5 (tp 56) (tp 57)),fi 59 3 58,lq 60 59,oo 61 (.bin .eql (tp 55) (tp 60))] [0,1,0,7,15,31,0,0,192,448,960,2047] (.take 0 (.take 1 (.take 2 (.take 3 (.take 4 (.take 5 (.take 6 (.take 7 (.take 8 (.take 9 (.take 10 (.take 11 .done)))))))))))) (some [0,3,5,6,7,8,9,10,61])) (.cond (tp 61) (.region [mq 62 10,mq 9 62] (some [0,3,5,6,7,8,9,10])) .skip))) (.region [mq 48 10,oo 49 (.bin .add (tp 48) (ci 1)),mq 10 49] (some [0,3,5,6,7,8,9,10]))))))) (.seq (sr [mq 63 8,oo 64 (.un .not (tp 63)),mq 65 64,og 65 false 66 (.mv (tp 9)),og 65 false 67 (.bin .lss (tp 66) (ci 0)),oo 68 (.pick (tp 65) (cq true) (tp 67)),mq 69 68,og 69 false 70 (.mv (tp 5)),og 69 false 71 (.mv (tp 6)),og 69 false 72 (.idxA 5 (tp 70) (tp 71)),og 69 false 73 (.fieldA 4 (tp 72)),og 69 false 74 (.load none (tp 73)),og 69 false 75 (.len (tp 74) false),og 69 false 76 (.bin .eql (tp 75) (ci 0)),oo 77 (.pick (tp 69) (cq true) (tp 76)),mq 78 77,og 78 false 79 (.mv (tp 0)),og 78 false 80 (.load (some 13) (tp 7)),og 78 false 81 (.mv (tp 9)),og 78 false 82 (.fieldA 0 (tp 3)),og 78 false 83 (.fieldA 1 (tp 82)),og 78 false 84 (.load none (tp 83)),og 78 false 85 (.call 18 [tp 79,tp 80,tp 81,tp 84]),og 78 false 86 (.un .not (tp 85)),oo 87 (.pick (tp 78) (cq true) (tp 86))] [0,3,5,6,7,9,87] (.cond (tp 87) (sr [oo 4 (.mv (cq false))] [4] .ret) .skip)) (sr [oo 11 (.mv (ci 0))] [0,3,5,6,7,9,11] (.block 4 (.loop (.seq (sr [mq 88 11,mq 89 5,mq 90 6,oo 91 (.idxA 5 (tp 89) (tp 90)),fi 92 4 91,lq 93 92,oo 94 (.len (tp 93) false),oo 95 (.bin .lss (tp 88) (tp 94))] [0,3,5,6,7,9,11,95] (.cond (tp 95) .skip (.exit 4))) (.seq (.block 5 (sr [mq 98 5,mq 99 6,oo 100 (.idxA 5 (tp 98) (tp 99)),fi 101 4 100,lq 102 101,mq 103 11,oo 104 (.idxA 1 (tp 102) (tp 103)),lq 105 104,mq 12 105] [0,3,5,6,7,9,11,12] (sr [fi 107 7 7,lq 108 107,mq 109 9,oo 110 (.idxA 9 (tp 108) (tp 109)),fi 111 3 110,lq 112 111,mq 113 12,oo 114 (.call 19 [tp 112,tp 113]),mq 106 114,oo 115 (.extract (tp 106) 0),oo 116 (.extract (tp 106) 1),mq 13 115,mq 14 116] [0,3,5,6,7,9,11,12,13,14] (sr [fi 117 9 3,lq 118 117,oo 119 (.len (tp 118) false),oo 120 (.bin .eql (tp 119) (ci 0)),mq 15 120] [0,3,5,6,7,9,11,12,13,14,15] (.seq (sr [oo 16 (.mv (ci 0))] [0,3,5,6,7,9,11,12,13,14,15,16] (.block 6 (.loop (.seq (sr [mq 121 16,fi 122 9 3,lq 123 122,oo 124 (.len (tp 123) false),oo 125 (.bin .lss (tp 121) (tp 124))] [0,3,5,6,7,9,11,12,13,14,15,16,125] (.cond (tp 125) .skip (.exit 6))) (.seq (.block 7 (sr [fi 129 9 3,lq 130 129,mq 131 16,oo 132 (.idxA 1 (tp 130) (tp 131)),lq 133 132,mq 134 12,oo 135 (.call 19 [tp 133,tp 134]),mq 128 135,oo 136 (.extract (tp 128) 0),oo 137 (.extract (tp 128) 1),mq 17 136,mq 18 137] [0,3,5,6,7,9,11,12,13,14,15,16,17,18] (.region [mq 138 15,mq 139 138,og 139 false 140 (.mv (tp 18)),og 139 false 141 (.mv (tp 140)),og 141 true 142 (.mv (tp 17)),og 141 true 143 (.mv (tp 12)),og 141 true 144 (.bin .eql (tp 142) (tp 143)),og 139 false 145 (.pick (tp 141) (tp 144) (cq false)),oo 146 (.pick (tp 139) (cq true) (tp 145)),mq 15 146] (some [0,3,5,6,7,9,11,12,13,14,15,16])))) (.region [mq 126 16,oo 127 (.bin .add (tp 126) (ci 1)),mq 16 127] (some [0,3,5,6,7,9,11,12,13,14,15,16]))))))) (.seq (sr [oo 19 (.mv (ci 0))] [0,3,5,6,7,9,11,12,13,14,15,19] (.block 8 (.loop (.seq (sr [mq 147 19,mq 148 11,oo 149 (.bin .lss (tp 147) (tp 148))] [0,3,5,6,7,9,11,12,13,14,15,19,149] (.cond (tp 149) .skip (.exit 8))) (.seq (.block 9 (.region [mq 152 15,mq 153 152,og 153 true 154 (.mv (tp 5)),og 153 true 155 (.mv (tp 6)),og 153 true 156 (.idxA 5 (tp 154) (tp 155)),og 153 true 157 (.fieldA 4 (tp 156)),og 153 true 158 (.load none (tp 157)),og 153 true 159 (.mv (tp 19)),og 153 true 160 (.idxA 1 (tp 158) (tp 159)),og 153 true 161 (.load none (tp 160)),og 153 true 162 (.mv (tp 12)),og 153 true 163 (.bin .neq (tp 161) (tp 162)),oo 164 (.pick (tp 153) (tp 163) (cq false)),mq 15 164] (some [0,3,5,6,7,9,11,12,13,14,15,19]))) (.region [mq 150 19,oo 151 (.bin .add (tp 150) (ci 1)),mq 19 151] (some [0,3,5,6,7,9,11,12,13,14,15,19]))))))) (sr [mq 165 14,oo 166 (.un .not (tp 165)),mq 167 166,og 167 false 168 (.mv (tp 13)),og 167 false 169 (.mv (tp 12)),og 167 false 170 (.bin .neq (tp 168) (tp 169)),oo 171 (.pick (tp 167) (cq true) (tp 170)),mq 172 171,og 172 false 173 (.mv (tp 15)),og 172 false 174 (.un .not (tp 173)),oo 175 (.pick (tp 172) (cq true) (tp 174))] [0,3,5,6,7,9,11,175] (.cond (tp 175) (sr [oo 4 (.mv (cq false))] [4] .ret) .skip)))))))) (.region [mq 96 11,oo 97 (.bin .add (tp 96) (ci 1)),mq 11 97] (some [0,3,5,6,7,9,11])))))))))))) (.region [mq 31 6,oo 32 (.bin .add (tp 31) (ci 1)),mq 6 32] (some [0,3,5,6]))))))) (sr [oo 176 (.call 16 []),mq 4 176] [4] .ret)))))
def an_zbctz : Ann := ann [0,1,2,3,4,6,7,8,9,11,10,12,13,14,15,16,18,19,20,21,22,24,23,25,26,27,28,29,30,31,17,5,32] ac_zbctz
theorem ok_zbctz : okd Tryz.prog an_zbctz ac_zbctz Tryz.f4 := ⟨by kernel_rfl, by kernel_rfl⟩

def ac_zf3ax : AC := (sr [oo 4 (.box 33 (tp 1)),oo 6 (.mv (.const (.slice none 0 0))),oo 7 (.mv (.const (.string ⟨#[]⟩))),oo 8 (.mv (cq false))] [0,2,4,6] (.seq (sr [fi 15 0 4,fi 16 0 15,lq 17 16,oo 18 (.bin .neq (tp 17) (ci 6)),mq 19 18,og 19 false 20 (.load (some 13) (tp 4)),og 19 false 21 (.call 29 [tp 20]),og 19 false 22 (.un .not (tp 21)),oo 23 (.pick (tp 19) (cq true) (tp 22)),mq 24 23,og 24 false 25 (.mv (tp 2)),og 24 false 26 (.bin .lss (tp 25) (ci 0)),oo 27 (.pick (tp 24) (cq true) (tp 26)),mq 28 27,og 28 false 29 (.mv (tp 2)),og 28 false 30 (.fieldA 8 (tp 4)),og 28 false 31 (.load none (tp 30)),og 28 false 32 (.len (tp 31) false),og 28 false 33 (.bin .geq (tp 29) (tp 32)),oo 34 (.pick (tp 28) (cq true) (tp 33))] [0,2,4,6,34] (.cond (tp 34) (sr [oo 6 (.mv (.const (.slice none 0 0))),oo 7 (.mv (.const (.string ⟨#[]⟩))),oo 8 (.mv (cq false))] [6,7,8] .ret) .skip)) (sr [fi 35 8 4,lq 36 35,mq 37 2,oo 38 (.idxA 4 (tp 36) (tp 37)),oo 39 (.load (some 4) (tp 38)),oo 9 (.alloc 55 [.pd (.raw (.string ⟨#[]⟩)),.pd (.raw (.string ⟨#[]⟩)),.pd (.raw (.string ⟨#[]⟩)),.pd (.raw (.int .i64 0))]),.mk none none (.store 4 (tp 9) (tp 39))] [0,4,6,9] (sr [mq 41 0,fi 42 0 9,lq 43 42,fi 44 1 9,lq 45 44,oo 46 (.build [.pd (.raw (.int .i64 0)),.pd (.raw (.string ⟨#[]⟩)),.pd (.raw (.string ⟨#[]⟩))] [(0,1,ci 5),(1,1,tp 43),(2,1,tp 45)]),fi 47 0 4,fi 48 1 47,lq 49 48,oo 50 (.call 31 [tp 46,tp 49]),oo 51 (.call 30 [tp 41,tp 50]),mq 40 51,oo 52 (.extract (tp 40) 0),oo 53 (.extract (tp 40) 1),oo 10 (.alloc 33 [.pd (.raw (.int .i64 0)),.pd (.raw (.string ⟨#[]⟩)),.pd (.raw (.string ⟨#[]⟩)),.pd (.raw (.bool false)),.nils,.nils,.pd (.raw (.string ⟨#[]⟩)),.nils,.nils,.nils,.nils,.nils,.nils]),.mk none none (.store 13 (tp 10) (tp 52)),mq 11 53] [0,4,6,9,10,11] (.seq (sr [mq 54 11,oo 55 (.un .not (tp 54)),mq 56 55,og 56 false 57 (.mv (tp 0)),og 56 false 58 (.load (some 13) (tp 10)),og 56 false 59 (.call 32 [tp 57,tp 58]),og 56 false 60 (.un .not (tp 59)),oo 61 (.pick (tp 56) (cq true) (tp 60))] [0,4,6,9,10,61] (.cond (tp 61) (sr [oo 6 (.mv (.const (.slice none 0 0))),oo 7 (.mv (.const (.string ⟨#[]⟩))),oo 8 (.mv (cq false))] [6,7,8] .ret) .skip)) (sr [oo 7 (.mv (.const (.string ⟨#[78,111,77,97,116,99,104,105,110,103,80,97,114,101,110,116]⟩)))] [0,4,6,7,9,10] (.seq (sr [fi 62 7 10,lq 63 62,oo 64 (.len (tp 63) false),oo 65 (.mv (ci 0))] [0,4,6,7,9,10,63,64,65] (.block 0 (.loop (sr [oo 66 (.bin .lss (tp 65) (tp 64))] [0,4,6,7,9,10,63,64,65,66] (.seq (.cond (tp 66) .skip (.exit 0)) (.seq (.block 1 (sr [mq 67 65,oo 68 (.idxA 9 (tp 63) (tp 65)),oo 69 (.load (some 9) (tp 68)),oo 13 (.alloc 49 [.pd (.raw (.string ⟨#[]⟩)),.pd (.raw (.int .i64 0)),.pd (.raw (.bool false)),.pd (.raw (.string ⟨#[]⟩)),.pd (.raw (.int .i64 0)),.pd (.raw (.string ⟨#[]⟩)),.pd (.raw (.string ⟨#[]⟩)),.pd (.raw (.int .i64 0)),.nils]),mq 12 67,.mk none none (.store 9 (tp 13) (tp 69))] [0,4,6,7,9,10,12,13,63,64,65] (.scope 0 (.seq (sr [oo 70 (.load (some 9) (tp 13)),oo 71 (.load (some 4) (tp 9)),oo 72 (.call 33 [tp 70,tp 71]),oo 73 (.un .not (tp 72))] [0,4,6,7,9,10,12,13,63,64,65,73] (.cond (tp 73) (.exit 1) .skip)) (sr [fi 74 3 13,lq 75 74,fi 76 9 4,lq 77 76,oo 78 (.call 34 [tp 75,tp 77]),mq 14 78] [0,4,6,7,9,10,12,13,14,63,64,65] (.seq (sr [mq 79 0,oo 80 (.load (some 13) (tp 10)),mq 81 12,fi 82 0 4,fi 83 1 82,lq 84 83,oo 85 (.call 18 [tp 79,tp 80,tp 81,tp 84]),oo 86 (.un .not (tp 85))] [0,4,6,7,9,10,13,14,63,64,65,86] (.cond (tp 86) (.seq (sr [mq 87 7,oo 88 (.bin .eql (tp 87) (.const (.string ⟨#[78,111,77,97,116,99,104,105,110,103,80,97,114,101,110,116]⟩)))] [0,4,6,7,9,10,63,64,65,88] (.cond (tp 88) (.region [oo 7 (.mv (.const (.string ⟨#[78,111,116,65,108,108,111,119,101,100,66,121,76,105,115,116,101,110,101,114,115]⟩)))] (some [0,4,6,7,9,10,63,64,65])) .skip)) (.exit 1)) .skip)) (.seq (sr [mq 89 14,oo 90 (.len (tp 89) false),oo 91 (.bin .eql (tp 90) (ci 0))] [0,4,6,7,9,10,13,14,63,64,65,91] (.cond (tp 91) (.goto 0) .skip)) (sr [mq 92 6,fi 93 0 10,oo 94 (.load (some 3) (tp 93)),fi 95 0 13,lq 96 95,mq 97 14,oo 98 (.build [.pd (.raw (.int .i64 0)),.pd (.raw (.string ⟨#[]⟩)),.pd (.raw (.string ⟨#[]⟩)),.pd (.raw (.string ⟨#[]⟩)),.nils] [(0,3,tp 94),(3,1,tp 96),(4,1,tp 97)]),oo 99 (.bslice 46 5 [tp 98]),oo 100 (.append 46 5 80 (tp 92) (tp 99)),mq 6 100] [0,4,6,7,9,10,63,64,65] (.seq (.exit 1) (.seq (.label 0) (.region [oo 7 (.mv (.const (.string ⟨#[78,111,77,97,116,99,104,105,110,103,76,105,115,116,101,110,101,114,72,111,115,116,110,97,109,101]⟩)))] (some [0,4,6,7,9,10,63,64,65]))))))))) (.seq .skip (.region [oo 7 (.mv (.const (.string ⟨#[78,111,77,97,116,99,104,105,110,103,76,105,115,116,101,110,101,114,72,111,115,116,110,97,109,101]⟩)))] (some [0,4,6,7,9,10,63,64,65])))))) (.region [oo 101 (.bin .add (tp 65) (ci 1)),mq 65 101] (some [0,4,6,7,9,10,63,64,65])))))))) (.seq (sr [mq 102 6,oo 103 (.len (tp 102) false),oo 104 (.bin .gtr (tp 103) (ci 0))] [6,7,104] (.cond (tp 104) (.region [oo 7 (.mv (.const (.string ⟨#[]⟩)))] (some [6,7])) .skip)) (sr [mq 105 6,mq 106 7,mq 6 105,mq 7 106,oo 8 (.mv (cq true))] [6,7,8] .ret)))))))))
def an_zf3ax : Ann := ⟨[(0,[0,2,4,6]),(1,[0,2,4,6,34]),(2,[6,7,8]),(3,[0,4,6,9]),(4,[0,4,6,9,10,11]),(5,[0,4,6,9,10,61]),(6,[6,7,8]),(7,[0,4,6,7,9,10]),(8,[0,4,6,7,9,10,63,64,65]),(9,[0,4,6,7,9,10,63,64,65,66]),(10,[0,4,6,7,9,10,12,13,63,64,65]),(11,[0,4,6,7,9,10,12,13,63,64,65,73]),(12,[0,4,6,7,9,10,12,13,14,63,64,65]),(13,[0,4,6,7,9,10,13,14,63,64,65,86]),(14,[0,4,6,7,9,10,63,64,65,88]),(15,[0,4,6,7,9,10,63,64,65]),(16,[0,4,6,7,9,10,13,14,63,64,65,91]),(17,[0,4,6,7,9,10,63,64,65]),(18,[0,4,6,7,9,10,63,64,65]),(19,[0,4,6,7,9,10,63,64,65]),(20,[6,7,104]),(21,[6,7]),(22,[6,7,8])],[],[]⟩
theorem ok_zf3ax : okd Tryz.prog an_zf3ax ac_zf3ax Tryz.f11 := ⟨by kernel_rfl, by kernel_rfl⟩

def ac_z7omx : AC := (sr [oo 3 (.box 33 (tp 1)),oo 4 (.mv (.const (.slice none 0 0)))] [0,3] (sr [oo 5 (.mv (.const (.slice none 0 0)))] [0,3,5] (.seq (sr [fi 10 8 3,lq 11 10,oo 12 (.len (tp 11) false),oo 13 (.mv (ci 0))] [0,3,5,12,13] (.block 0 (.loop (sr [oo 14 (.bin .lss (tp 13) (tp 12))] [0,3,5,12,13,14] (.seq (.cond (tp 14) .skip (.exit 0)) (.seq (.block 1 (sr [mq 15 13,mq 6 15] [0,3,5,6,12,13] (sr [mq 17 0,oo 18 (.load (some 13) (tp 3)),mq 19 6,oo 20 (.call 11 [tp 17,tp 18,tp 19]),mq 16 20,oo 21 (.extract (tp 16) 0),oo 22 (.extract (tp 16) 1),oo 23 (.extract (tp 16) 2),mq 7 21,mq 8 22,mq 9 23] [0,3,5,7,12,13] (.region [mq 24 5,mq 25 7,oo 26 (.call 41 [tp 24,tp 25]),mq 5 26] (some [0,3,5,12,13]))))) (.region [oo 27 (.bin .add (tp 13) (ci 1)),mq 13 27] (some [0,3,5,12,13])))))))) (sr [mq 28 5,mq 4 28] [4] .ret))))
def an_z7omx : Ann := ann (List.range 9) ac_z7omx
theorem ok_z7omx : okd Tryz.prog an_z7omx ac_z7omx Tryz.f14 := ⟨by kernel_rfl, by kernel_rfl⟩

def ac_z11cc : AC := (sr [oo 0 (.mv (cq false))] [] (sr [oo 9 (.build [.pd (.raw (.int .i64 0)),.pd (.raw (.string ⟨#[]⟩)),.pd (.raw (.string ⟨#[]⟩))] [(0,1,ci 1),(2,1,.const (.string ⟨#[99]⟩))]),oo 10 (.build [.pd (.raw (.int .i64 0)),.pd (.raw (.string ⟨#[]⟩)),.pd (.raw (.string ⟨#[]⟩)),.pd (.raw (.bool false)),.nils,.nils,.pd (.raw (.string ⟨#[]⟩)),.nils,.nils,.nils,.nils,.nils,.nils] [(0,3,tp 9),(3,1,cq true)]),oo 11 (.build [.pd (.raw (.int .i64 0)),.pd (.raw (.string ⟨#[]⟩)),.pd (.raw (.string ⟨#[]⟩))] [(0,1,ci 5),(1,1,.const (.string ⟨#[119,101,98]⟩)),(2,1,.const (.string ⟨#[103,119]⟩))]),oo 12 (.build [.pd (.raw (.string ⟨#[]⟩)),.pd (.raw (.int .i64 0)),.pd (.raw (.bool false)),.pd (.raw (.string ⟨#[]⟩)),.pd (.raw (.int .i64 0)),.pd (.raw (.string ⟨#[]⟩)),.pd (.raw (.string ⟨#[]⟩)),.pd (.raw (.int .i64 0)),.nils] [(0,1,.const (.string ⟨#[97]⟩)),(1,1,ci 80)]),oo 13 (.bslice 49 9 [tp 12]),oo 14 (.build [.pd (.raw (.int .i64 0)),.pd (.raw (.string ⟨#[]⟩)),.pd (.raw (.string ⟨#[]⟩)),.pd (.raw (.bool false)),.nils,.nils,.pd (.raw (.string ⟨#[]⟩)),.nils,.nils,.nils,.nils,.nils,.nils] [(0,3,tp 11),(6,1,.const (.string ⟨#[99]⟩)),(7,1,tp 13)]),oo 15 (.bslice 33 13 [tp 10,tp 14]),mq 1 15] [1] (sr [oo 16 (.build [.pd (.raw (.int .i64 0)),.pd (.raw (.string ⟨#[]⟩)),.pd (.raw (.string ⟨#[]⟩))] [(0,1,ci 6),(1,1,.const (.string ⟨#[97,112,112]⟩)),(2,1,.const (.string ⟨#[114]⟩))]),oo 17 (.build [.pd (.raw (.string ⟨#[]⟩)),.pd (.raw (.string ⟨#[]⟩)),.pd (.raw (.string ⟨#[]⟩)),.pd (.raw (.int .i64 0))] [(0,1,.const (.string ⟨#[119,101,98]⟩)),(1,1,.const (.string ⟨#[103,119]⟩))]),oo 18 (.build [.pd (.raw (.string ⟨#[]⟩)),.pd (.raw (.string ⟨#[]⟩)),.pd (.raw (.string ⟨#[]⟩)),.pd (.raw (.int .i64 0))] [(0,1,.const (.string ⟨#[119,101,98]⟩)),(1,1,.const (.string ⟨#[103,119]⟩)),(2,1,.const (.string ⟨#[122]⟩))]),oo 19 (.bslice 55 4 [tp 17,tp 18]),oo 20 (.build [.pd (.raw (.int .i64 0)),.pd (.raw (.string ⟨#[]⟩)),.pd (.raw (.string ⟨#[]⟩)),.pd (.raw (.bool false)),.nils,.nils,.pd (.raw (.string ⟨#[]⟩)),.nils,.nils,.nils,.nils,.nils,.nils] [(0,3,tp 16),(8,1,tp 19)]),oo 2 (.alloc 33 [.pd (.raw (.int .i64 0)),.pd (.raw (.string ⟨#[]⟩)),.pd (.raw (.string ⟨#[]⟩)),.pd (.raw (.bool false)),.nils,.nils,.pd (.raw (.string ⟨#[]⟩)),.nils,.nils,.nils,.nils,.nils,.nils]),.mk none none (.store 13 (tp 2) (tp 20))] [1,2] (sr [mq 22 1,oo 23 (.load (some 13) (tp 2)),oo 24 (.call 11 [tp 22,tp 23,ci 0]),mq 21 24,oo 25 (.extract (tp 21) 0),oo 26 (.extract (tp 21) 1),oo 27 (.extract (tp 21) 2),mq 3 25,mq 4 26,mq 5 27] [1,2,4,5] (sr [mq 29 1,oo 30 (.load (some 13) (tp 2)),oo 31 (.call 11 [tp 29,tp 30,ci 1]),mq 28 31,oo 32 (.extract (tp 28) 0),oo 33 (.extract (tp 28) 1),oo 34 (.extract (tp 28) 2),mq 6 32,mq 7 33,mq 8 34] [4,5,7,8] (sr [oo 35 (.bslice 9 1 [.const (.string ⟨#[97,46,116,101,115,116]⟩),.const (.string ⟨#[98,46,120]⟩)]),oo 36 (.call 34 [.const (.string ⟨#[42,46,116,101,115,116]⟩),tp 35]),oo 37 (.bslice 9 1 [.const (.string ⟨#[97,46,116,101,115,116]⟩)]),oo 38 (.call 40 [tp 36,tp 37]),mq 39 38,og 39 true 40 (.call 34 [.const (.string ⟨#[97,46,116,101,115,116]⟩),.const (.slice none 0 0)]),og 39 true 41 (.bslice 9 1 [.const (.string ⟨#[97,46,116,101,115,116]⟩)]),og 39 true 42 (.call 40 [tp 40,tp 41]),oo 43 (.pick (tp 39) (tp 42) (cq false)),mq 44 43,og 44 true 45 (.mv (tp 4)),og 44 true 46 (.bin .eql (tp 45) (.const (.string ⟨#[78,111,116,65,108,108,111,119,101,100,66,121,76,105,115,116,101,110,101,114,115]⟩))),oo 47 (.pick (tp 44) (tp 46) (cq false)),mq 48 47,og 48 true 49 (.mv (tp 5)),oo 50 (.pick (tp 48) (tp 49) (cq false)),mq 51 50,og 51 true 52 (.mv (tp 7)),og 51 true 53 (.bin .eql (tp 52) (.const (.string ⟨#[78,111,77,97,116,99,104,105,110,103,80,97,114,101,110,116]⟩))),oo 54 (.pick (tp 51) (tp 53) (cq false)),mq 55 54,og 55 true 56 (.mv (tp 8)),oo 57 (.pick (tp 55) (tp 56) (cq false)),mq 58 57,oo 59 (.pick (tp 58) (cq true) (cq false)),mq 0 59] [0] .ret))))))
def an_z11cc : Ann := ann (List.range 6) ac_z11cc
theorem ok_z11cc : okd Tryz.prog an_z11cc ac_z11cc Tryz.f16 := ⟨by kernel_rfl, by kernel_rfl⟩

def ac_zuhx : AC := (sr [oo 5 (.box 33 (tp 1)),oo 8 (.mv (cq false))] [0,2,3,5] (.seq (sr [fi 12 0 5,fi 13 0 12,lq 14 13,oo 15 (.bin .neq (tp 14) (ci 5)),mq 16 15,og 16 false 17 (.load (some 13) (tp 5)),og 16 false 18 (.call 29 [tp 17]),og 16 false 19 (.un .not (tp 18)),oo 20 (.pick (tp 16) (cq true) (tp 19)),mq 21 20,og 21 false 22 (.mv (tp 2)),og 21 false 23 (.bin .lss (tp 22) (ci 0)),oo 24 (.pick (tp 21) (cq true) (tp 23)),mq 25 24,og 25 false 26 (.mv (tp 2)),og 25 false 27 (.fieldA 7 (tp 5)),og 25 false 28 (.load none (tp 27)),og 25 false 29 (.len (tp 28) false),og 25 false 30 (.bin .geq (tp 26) (tp 29)),oo 31 (.pick (tp 25) (cq true) (tp 30))] [0,2,3,5,31] (.cond (tp 31) (sr [oo 8 (.mv (cq false))] [8] .ret) .skip)) (.seq (sr [fi 32 7 5,lq 33 32,mq 34 2,oo 35 (.idxA 9 (tp 33) (tp 34)),oo 36 (.load (some 9) (tp 35)),oo 9 (.alloc 49 [.pd (.raw (.string ⟨#[]⟩)),.pd (.raw (.int .i64 0)),.pd (.raw (.bool false)),.pd (.raw (.string ⟨#[]⟩)),.pd (.raw (.int .i64 0)),.pd (.raw (.string ⟨#[]⟩)),.pd (.raw (.string ⟨#[]⟩)),.pd (.raw (.int .i64 0)),.nils]),.mk none none (.store 9 (tp 9) (tp 36))] [0,3,5,9] (sr [fi 37 7 9,lq 38 37] [0,3,5,9,38] (.block 0 (sr [oo 40 (.bin .eql (tp 38) (ci 1)),mq 39 40] [0,3,5,9,38,39] (.cond (tp 39) (sr [oo 8 (.mv (cq true))] [8] .ret) (sr [oo 42 (.bin .eql (tp 38) (ci 2)),mq 41 42] [0,3,5,9,41] (.cond (tp 41) (sr [mq 44 0,mq 45 3,oo 46 (.build [.pd (.raw (.int .i64 0)),.pd (.raw (.string ⟨#[]⟩)),.pd (.raw (.string ⟨#[]⟩))] [(0,1,ci 2),(2,1,tp 45)]),oo 47 (.call 30 [tp 44,tp 46]),mq 43 47,oo 48 (.extract (tp 43) 0),oo 49 (.extract (tp 43) 1),oo 10 (.alloc 33 [.pd (.raw (.int .i64 0)),.pd (.raw (.string ⟨#[]⟩)),.pd (.raw (.string ⟨#[]⟩)),.pd (.raw (.bool false)),.nils,.nils,.pd (.raw (.string ⟨#[]⟩)),.nils,.nils,.nils,.nils,.nils,.nils]),.mk none none (.store 13 (tp 10) (tp 48)),mq 11 49] [9,10,11] (sr [mq 50 11,mq 51 50,og 51 true 52 (.load (some 13) (tp 10)),og 51 true 53 (.call 29 [tp 52]),oo 54 (.pick (tp 51) (tp 53) (cq false)),mq 55 54,og 55 true 56 (.fieldA 8 (tp 9)),og 55 true 57 (.load none (tp 56)),og 55 true 58 (.fieldA 4 (tp 10)),og 55 true 59 (.load none (tp 58)),og 55 true 60 (.call 42 [tp 57,tp 59]),oo 61 (.pick (tp 55) (tp 60) (cq false)),mq 8 61] [8] .ret)) .skip))))))) (sr [mq 62 3,fi 63 0 5,fi 64 1 63,lq 65 64,oo 66 (.bin .eql (tp 62) (tp 65)),mq 8 66] [8] .ret))))
def an_zuhx : Ann := ann (List.range 11) ac_zuhx
theorem ok_zuhx : okd Tryz.prog an_zuhx ac_zuhx Tryz.f18 := ⟨by kernel_rfl, by kernel_rfl⟩

def ac_zsw2x : AC := (sr [oo 2 (.box 49 (tp 0)),oo 3 (.box 55 (tp 1)),oo 4 (.mv (cq false))] [2,3] (sr [fi 5 2 3,lq 6 5,oo 7 (.bin .eql (tp 6) (.const (.string ⟨#[]⟩))),mq 8 7,og 8 false 9 (.fieldA 2 (tp 3)),og 8 false 10 (.load none (tp 9)),og 8 false 11 (.fieldA 0 (tp 2)),og 8 false 12 (.load none (tp 11)),og 8 false 13 (.bin .eql (tp 10) (tp 12)),oo 14 (.pick (tp 8) (cq true) (tp 13)),mq 15 14,og 15 true 16 (.fieldA 3 (tp 3)),og 15 true 17 (.load none (tp 16)),og 15 true 18 (.bin .eql (tp 17) (ci 0)),og 15 true 19 (.mv (tp 18)),og 19 false 20 (.fieldA 3 (tp 3)),og 19 false 21 (.load none (tp 20)),og 19 false 22 (.fieldA 1 (tp 2)),og 19 false 23 (.load none (tp 22)),og 19 false 24 (.bin .eql (tp 21) (tp 23)),og 15 true 25 (.pick (tp 19) (cq true) (tp 24)),oo 26 (.pick (tp 15) (tp 25) (cq false)),mq 4 26] [4] .ret))
def an_zsw2x : Ann := ann (List.range 2) ac_zsw2x
theorem ok_zsw2x : okd Tryz.prog an_zsw2x ac_zsw2x Tryz.f33 := ⟨by kernel_rfl, by kernel_rfl⟩

def ac_zbr1v : AC := (sr [oo 4 (.mv (.const (.slice none 0 0)))] [0,1] (.seq (sr [mq 10 1,oo 11 (.len (tp 10) false),oo 12 (.bin .eql (tp 11) (ci 0))] [0,1,12] (.cond (tp 12) (.region [oo 13 (.bslice 9 1 [.const (.string ⟨#[]⟩)]),mq 1 13] (some [0,1])) .skip)) (sr [oo 5 (.mv (.const (.slice none 0 0)))] [0,1,5] (.seq (sr [mq 14 1,oo 15 (.len (tp 14) false),oo 16 (.mv (ci 0))] [0,5,14,15,16] (.block 0 (.loop (sr [oo 17 (.bin .lss (tp 16) (tp 15))] [0,5,14,15,16,17] (.seq (.cond (tp 17) .skip (.exit 0)) (.seq (.block 1 (sr [oo 18 (.idxA 1 (tp 14) (tp 16)),lq 19 18,mq 7 19] [0,5,7,14,15,16] (sr [mq 21 0,mq 22 7,oo 23 (.call 61 [tp 21,tp 22]),mq 20 23,oo 24 (.extract (tp 20) 0),oo 25 (.extract (tp 20) 1),mq 8 24,mq 9 25] [0,5,8,9,14,15,16] (sr [mq 26 9,mq 27 26,og 27 true 28 (.mv (tp 5)),og 27 true 29 (.mv (tp 8)),og 27 true 30 (.call 62 [tp 28,tp 29]),og 27 true 31 (.un .not (tp 30)),oo 32 (.pick (tp 27) (tp 31) (cq false))] [0,5,8,14,15,16,32] (.cond (tp 32) (.region [mq 33 5,mq 34 8,oo 35 (.bslice 9 1 [tp 34]),oo 36 (.append 9 1 16 (tp 33) (tp 35)),mq 5 36] (some [0,5,14,15,16])) .skip))))) (.region [oo 37 (.bin .add (tp 16) (ci 1)),mq 16 37] (some [0,5,14,15,16])))))))) (sr [mq 38 5,mq 4 38] [4] .ret)))))
def an_zbr1v : Ann := ann (List.range 12) ac_zbr1v
theorem ok_zbr1v : okd Tryz.prog an_zbr1v ac_zbr1v Tryz.f34 := ⟨by kernel_rfl, by kernel_rfl⟩

def ac_z49r6 : AC := (sr [oo 4 (.mv (.const (.slice none 0 0)))] [0,1] (.seq (sr [mq 7 1,oo 8 (.len (tp 7) false),oo 9 (.mv (ci 0))] [0,7,8,9] (.block 0 (.loop (sr [oo 10 (.bin .lss (tp 9) (tp 8))] [0,7,8,9,10] (.seq (.cond (tp 10) .skip (.exit 0)) (.seq (.block 1 (sr [oo 11 (.idxA 5 (tp 7) (tp 9)),oo 12 (.load (some 5) (tp 11)),oo 6 (.alloc 46 [.pd (.raw (.int .i64 0)),.pd (.raw (.string ⟨#[]⟩)),.pd (.raw (.string ⟨#[]⟩)),.pd (.raw (.string ⟨#[]⟩)),.nils]),.mk none none (.store 5 (tp 6) (tp 12))] [0,6,7,8,9] (sr [mq 13 0,oo 14 (.mkfn 72 [tp 6]),oo 15 (.call 46 [tp 13,tp 14]),oo 16 (.un .not (tp 15))] [0,6,7,8,9,16] (.cond (tp 16) (.region [mq 17 0,oo 18 (.load (some 5) (tp 6)),oo 19 (.bslice 46 5 [tp 18]),oo 20 (.append 46 5 80 (tp 17) (tp 19)),mq 0 20] (some [0,7,8,9])) .skip)))) (.region [oo 21 (.bin .add (tp 9) (ci 1)),mq 9 21] (some [0,7,8,9])))))))) (sr [mq 22 0,mq 4 22] [4] .ret)))
def an_z49r6 : Ann := ann (List.range 8) ac_z49r6
theorem ok_z49r6 : okd Tryz.prog an_z49r6 ac_z49r6 Tryz.f41 := ⟨by kernel_rfl, by kernel_rfl⟩

def ac_zoiaa : AC := (sr [oo 4 (.mv (.const (.string ⟨#[]⟩))),oo 5 (.mv (cq false))] [0,1] (.seq (.block 0 (sr [mq 7 0,oo 8 (.call 96 [tp 7]),oo 9 (.un .not (tp 8)),mq 10 9,og 10 false 11 (.mv (tp 1)),og 10 false 12 (.call 96 [tp 11]),og 10 false 13 (.un .not (tp 12)),oo 14 (.pick (tp 10) (cq true) (tp 13)),mq 6 14] [0,1,6] (.cond (tp 6) (sr [oo 4 (.mv (.const (.string ⟨#[]⟩))),oo 5 (.mv (cq false))] [4,5] .ret) (sr [mq 16 0,mq 17 1,oo 18 (.call 116 [tp 16,tp 17]),mq 15 18] [0,1,15] (.cond (tp 15) (sr [mq 19 0,mq 4 19,oo 5 (.mv (cq true))] [4,5] .ret) (sr [mq 21 1,mq 22 0,oo 23 (.call 116 [tp 21,tp 22]),mq 20 23] [1,20] (.cond (tp 20) (sr [mq 24 1,mq 4 24,oo 5 (.mv (cq true))] [4,5] .ret) .skip))))))) (sr [oo 4 (.mv (.const (.string ⟨#[]⟩))),oo 5 (.mv (cq false))] [4,5] .ret)))
def an_zoiaa : Ann := ann (List.range 8) ac_zoiaa
theorem ok_zoiaa : okd Tryz.prog an_zoiaa ac_zoiaa Tryz.f61 := ⟨by kernel_rfl, by kernel_rfl⟩

def ac_zez17 : AC := (sr [oo 2 (.box 46 (tp 0)),oo 3 (.mv (cq false))] [1,2] (sr [fi 4 0 2,oo 5 (.load (some 3) (tp 4)),fi 6 0 1,oo 7 (.load (some 3) (tp 6)),oo 8 (.eqs false [.int,.str,.str] (tp 5) (tp 7)),mq 9 8,og 9 true 10 (.fieldA 3 (tp 2)),og 9 true 11 (.load none (tp 10)),og 9 true 12 (.fieldA 3 (tp 1)),og 9 true 13 (.load none (tp 12)),og 9 true 14 (.bin .eql (tp 11) (tp 13)),oo 15 (.pick (tp 9) (tp 14) (cq false)),mq 3 15] [3] .ret))
def an_zez17 : Ann := ann (List.range 2) ac_zez17
theorem ok_zez17 : okd Tryz.prog an_zez17 ac_zez17 Tryz.f72 := ⟨by kernel_rfl, by kernel_rfl⟩

def ac_ziiwx : AC := (sr [oo 4 (.mv (cq false))] [0,1] (sr [mq 10 0,oo 11 (.call 146 [tp 10,.const (.string ⟨#[42,46]⟩)]),mq 9 11,oo 12 (.extract (tp 9) 0),oo 13 (.extract (tp 9) 1),mq 5 12,mq 6 13] [0,1,5,6] (sr [mq 15 1,oo 16 (.call 146 [tp 15,.const (.string ⟨#[42,46]⟩)]),mq 14 16,oo 17 (.extract (tp 14) 0),oo 18 (.extract (tp 14) 1),mq 7 17,mq 8 18] [0,1,5,6,7,8] (.seq (.block 0 (sr [mq 20 1,oo 21 (.bin .eql (tp 20) (.const (.string ⟨#[]⟩))),mq 22 21,og 22 false 23 (.mv (tp 0)),og 22 false 24 (.mv (tp 1)),og 22 false 25 (.bin .eql (tp 23) (tp 24)),oo 26 (.pick (tp 22) (cq true) (tp 25)),mq 19 26] [0,5,6,7,8,19] (.cond (tp 19) (sr [oo 4 (.mv (cq true))] [4] .ret) (sr [mq 28 0,oo 29 (.bin .eql (tp 28) (.const (.string ⟨#[]⟩))),mq 30 29,og 30 false 31 (.mv (tp 8)),og 30 false 32 (.un .not (tp 31)),oo 33 (.pick (tp 30) (cq true) (tp 32)),mq 27 33] [0,5,6,7,27] (.cond (tp 27) (sr [oo 4 (.mv (cq false))] [4] .ret) (sr [mq 35 6,mq 34 35] [0,5,7,34] (.cond (tp 34) (sr [mq 36 5,mq 37 7,oo 38 (.call 166 [tp 36,tp 37]),mq 4 38] [4] .ret) .skip))))))) (sr [mq 39 0,mq 40 7,oo 41 (.call 166 [tp 39,tp 40]),mq 4 41] [4] .ret)))))
def an_ziiwx : Ann := ann (List.range 10) ac_ziiwx
theorem ok_ziiwx : okd Tryz.prog an_ziiwx ac_ziiwx Tryz.f116 := ⟨by kernel_rfl, by kernel_rfl⟩

def ac_zyyse : AC := (sr [oo 4 (.mv (cq false))] [0,1] (sr [mq 5 0,oo 6 (.call 87 [tp 5]),mq 7 6,og 7 true 8 (.mv (tp 1)),og 7 true 9 (.call 87 [tp 8]),oo 10 (.pick (tp 7) (tp 9) (cq false)),mq 11 10,og 11 true 12 (.mv (tp 0)),og 11 true 13 (.mv (tp 1)),og 11 true 14 (.bin .add (.const (.string ⟨#[46]⟩)) (tp 13)),og 11 true 15 (.call 205 [tp 12,tp 14]),oo 16 (.pick (tp 11) (tp 15) (cq false)),mq 4 16] [4] .ret))
def an_zyyse : Ann := ann (List.range 2) ac_zyyse
theorem ok_zyyse : okd Tryz.prog an_zyyse ac_zyyse Tryz.f166 := ⟨by kernel_rfl, by kernel_rfl⟩

def ac_zo94z : AC := (sr [oo 1 (.box 169 (tp 0)),oo 2 (.mv (.const (.string ⟨#[]⟩)))] [1] (sr [fi 3 0 1,lq 4 3,mq 2 4] [2] .ret))
def an_zo94z : Ann := ann (List.range 2) ac_zo94z
theorem ok_zo94z : okd Tryz.prog an_zo94z ac_zo94z Tryz.f173 := ⟨by kernel_rfl, by kernel_rfl⟩

def ac_ztj2x : AC := (sr [oo 2 (.mv (.const (.string ⟨#[]⟩)))] [0] (sr [mq 3 0,mq 2 3] [2] .ret))
def an_ztj2x : Ann := ann (List.range 2) ac_ztj2x
theorem ok_ztj2x : okd Tryz.prog an_ztj2x ac_ztj2x Tryz.f174 := ⟨by kernel_rfl, by kernel_rfl⟩

end Go.Proofs.YtcnhcamimcpinaaGreatDoor


namespace Go.Proofs.YtcnhcamimcpinaaGreatDoor
open Go Go.RowKit
set_option linter.unusedSimpArgs false
set_option linter.unusedVariables false
set_option maxRecDepth 100000

theorem dns_Under (s z : ByteArray) (hs : s.size ≤ 1000000) (hz : z.size ≤ 1000000) : Pure Tryz.prog 166 [str s, str z] (fun d => d = bln (under s z)) := by
 have hadd : binV .add (.string ⟨#[46]⟩) (.string z) = some (.string (⟨#[46]⟩ ++ z)) := if_pos (by have : (⟨#[46]⟩ : ByteArray).size = 1 := rfl; omega)
 refine pure_of_run follows an_zyyse Tryz.func166 rfl ok_zyyse.1 ok_zyyse.2 (by simp [Tryz.ntmps166]) ?_
 rw [run_start]
 simp only [ac_zyyse, go_sem, contS_seq, simprocAttr, ↓hadd]
 (repeat' (first | (refine GifP.mk (fun _ => ?_) (fun _ => ?_)) | (refine Gif.mk (fun _ => ?_) (fun _ => ?_)) | ((first | refine (dns_Name s).callW (enters_of Tryz.func87 rfl rfl) _ rfl rfl ?_ | refine (dns_Name z).callW (enters_of Tryz.func87 rfl rfl) _ rfl rfl ?_ | refine (strings_HasSuffix s (dot ++ z) hs).callW (enters_of Tryz.func205 rfl rfl) _ rfl rfl ?_); rintro _ rfl; try simp only [go_sem, contS_seq, simprocAttr, ↓hadd]))) <;> (simp only [retK, resD, retL, oneD, simprocAttr, Tryz.results166]; exact ⟨_, rfl, rfl, congrArg bln (by first | rfl | (rw [Bool.eq_iff_iff]; simp only [under]; (first | (simp; done) | (simp; omega) | (simp [*]; done) | (simp [*]; omega))) | (simp_all [under]; done) | (exfalso; omega))⟩)

theorem cut_size (p : ByteArray) : (cutPrefix p star).size ≤ p.size := by
 unfold cutPrefix
 split
 ·rw [ByteArray.size_extract]; omega
 ·exact Nat.le_refl _

theorem host_below (p q : ByteArray) (hp : p.size ≤ 1000000) (hq : q.size ≤ 1000000) : Pure Tryz.prog 116 [str p, str q] (fun d => d = bln (below p q)) := by
 have cp := Nat.le_trans (cut_size p) hp
 have cq := Nat.le_trans (cut_size q) hq
 refine pure_of_run follows an_ziiwx Tryz.func116 rfl ok_ziiwx.1 ok_ziiwx.2 (by simp [Tryz.ntmps116]) ?_
 rw [run_start]
 simp only [ac_ziiwx, go_sem, contS_seq, simprocAttr]
 (repeat' (first | (refine GifP.mk (fun _ => ?_) (fun _ => ?_)) | (refine Gif.mk (fun _ => ?_) (fun _ => ?_)) | ((first | refine (strings_CutPrefix p star).callW (enters_of Tryz.func146 rfl rfl) _ rfl rfl ?_ | refine (strings_CutPrefix q star).callW (enters_of Tryz.func146 rfl rfl) _ rfl rfl ?_ | refine (dns_Under (cutPrefix p star) (cutPrefix q star) cp cq).callW (enters_of Tryz.func166 rfl rfl) _ rfl rfl ?_ | refine (dns_Under p (cutPrefix q star) hp cq).callW (enters_of Tryz.func166 rfl rfl) _ rfl rfl ?_); rintro _ rfl; try simp only [go_sem, contS_seq, simprocAttr]))) <;> (simp only [retK, resD, retL, oneD, simprocAttr, Tryz.results116]; exact ⟨_, rfl, rfl, congrArg bln (by first | rfl | (rw [Bool.eq_iff_iff]; simp only [below]; (first | (simp; done) | (simp; omega) | (simp [*]; done) | (simp [*]; omega))) | (simp_all [below]; done) | (exfalso; omega))⟩)

def meetD : Option ByteArray → D
 | some m => .tup [str m, bln true]
 | none => .tup [str ⟨#[]⟩, bln false]

theorem host_Meet' (a b : ByteArray) (ha : a.size ≤ 1000000) (hb : b.size ≤ 1000000) : Pure Tryz.prog 61 [str a, str b] (fun d => d = meetD (hostMeet a b)) := by
 refine pure_of_run follows an_zoiaa Tryz.func61 rfl ok_zoiaa.1 ok_zoiaa.2 (by simp [Tryz.ntmps61]) ?_
 rw [run_start]
 simp only [ac_zoiaa, go_sem, contS_seq, simprocAttr]
 (repeat' (first | (refine GifP.mk (fun _ => ?_) (fun _ => ?_)) | (refine Gif.mk (fun _ => ?_) (fun _ => ?_)) | ((first | refine (host_May a).callW (enters_of Tryz.func96 rfl rfl) _ rfl rfl ?_ | refine (host_May b).callW (enters_of Tryz.func96 rfl rfl) _ rfl rfl ?_ | refine (host_below a b ha hb).callW (enters_of Tryz.func116 rfl rfl) _ rfl rfl ?_ | refine (host_below b a hb ha).callW (enters_of Tryz.func116 rfl rfl) _ rfl rfl ?_); rintro _ rfl; try simp only [go_sem, contS_seq, simprocAttr]))) <;> (simp only [retK, resD, retL, oneD, simprocAttr, Tryz.results61]; exact ⟨_, rfl, rfl, by simp_all [hostMeet, meetD, D.pub, D.pubs]⟩)

theorem may_size {a : ByteArray} (h : hostMay a = true) : a.size ≤ 1000000 := by
 simp only [hostMay, Bool.or_eq_true, Bool.and_eq_true, decide_eq_true_eq] at h
 rcases h with h | h
 ·subst h; decide
 ·have := h.1; omega

theorem host_Meet_no (a b : ByteArray) (h : hostMay a = false) : Pure Tryz.prog 61 [str a, str b] (fun d => d = meetD none) := by
 have c1 := host_May a
 rw [h] at c1
 refine pure_of_run follows an_zoiaa Tryz.func61 rfl ok_zoiaa.1 ok_zoiaa.2 (by simp [Tryz.ntmps61]) ?_
 rw [run_start]
 simp only [ac_zoiaa, go_sem, contS_seq, simprocAttr]
 (repeat' (first | (refine GifP.mk (fun _ => ?_) (fun _ => ?_)) | (refine Gif.mk (fun _ => ?_) (fun _ => ?_)) | (refine c1.callW (enters_of Tryz.func96 rfl rfl) _ rfl rfl ?_; rintro _ rfl; try simp only [go_sem, contS_seq, simprocAttr]))) <;> (simp only [retK, resD, retL, oneD, simprocAttr, Tryz.results61]; exact ⟨_, rfl, rfl, rfl⟩)

theorem host_Meet_nob (a b : ByteArray) (h1 : hostMay a = true) (h : hostMay b = false) : Pure Tryz.prog 61 [str a, str b] (fun d => d = meetD none) := by
 have c1 := host_May a
 have c2 := host_May b
 rw [h1] at c1
 rw [h] at c2
 refine pure_of_run follows an_zoiaa Tryz.func61 rfl ok_zoiaa.1 ok_zoiaa.2 (by simp [Tryz.ntmps61]) ?_
 rw [run_start]
 simp only [ac_zoiaa, go_sem, contS_seq, simprocAttr]
 (repeat' (first | (refine GifP.mk (fun _ => ?_) (fun _ => ?_)) | (refine Gif.mk (fun _ => ?_) (fun _ => ?_)) | ((first | refine c1.callW (enters_of Tryz.func96 rfl rfl) _ rfl rfl ?_ | refine c2.callW (enters_of Tryz.func96 rfl rfl) _ rfl rfl ?_); rintro _ rfl; try simp only [go_sem, contS_seq, simprocAttr]))) <;> (simp only [retK, resD, retL, oneD, simprocAttr, Tryz.results61]; exact ⟨_, rfl, rfl, rfl⟩)

theorem host_Meet (a b : ByteArray) : Pure Tryz.prog 61 [str a, str b] (fun d => d = meetD (hostMeet a b)) := by
 cases h1 : hostMay a
 ·have e : hostMeet a b = none := by unfold hostMeet; rw [if_pos (.inl h1)]
  rw [e]; exact host_Meet_no a b h1
 cases h2 : hostMay b
 ·have e : hostMeet a b = none := by unfold hostMeet; rw [if_pos (.inr h2)]
  rw [e]; exact host_Meet_nob a b h1 h2
 exact host_Meet' a b (may_size h1) (may_size h2)

theorem attach_asked (x : AListener) (p : AParent) : Pure Tryz.prog 33 [x.d, p.d] (fun d => d = bln (asked x p)) := by
 refine pure_of_run follows an_zsw2x Tryz.func33 rfl ok_zsw2x.1 ok_zsw2x.2 (by simp [Tryz.ntmps33]) ?_
 rw [run_start]
 simp only [ac_zsw2x, go_sem, contS_seq, simprocAttr]
 (repeat' (first | (refine GifP.mk (fun _ => ?_) (fun _ => ?_)) | (refine Gif.mk (fun _ => ?_) (fun _ => ?_)))) <;> (simp only [retK, resD, retL, oneD, simprocAttr, Tryz.results33]; exact ⟨_, rfl, rfl, congrArg bln (by first | rfl | (rw [Bool.eq_iff_iff]; simp only [asked]; (first | (simp; done) | (simp; omega) | (simp [*]; done) | (simp [*]; omega))) | (simp_all [asked]; done) | (exfalso; omega))⟩)


theorem slices_Index_string (l : List ByteArray) (hl : l.length ≤ 1000000) (v : ByteArray) : Pure Tryz.prog 117 [.pd (.slice (strs l)), str v] (fun d => d = int (lidx (fun x => decide (v = x)) l 0)) := by
 refine pure_of_run follows an_zv0lr Tryz.func117 rfl ok_zv0lr.1 ok_zv0lr.2 (by simp [Tryz.ntmps117]) ?_
 rw [run_start]
 simp only [ac_zv0lr, go_sem, contS_seq, simprocAttr, rows_len]
 refine loopS (fun k st => ∃ i : Nat, k = l.length - i ∧ i ≤ l.length ∧ lidx (fun x => decide (v = x)) (l.drop i) i = lidx (fun x => decide (v = x)) l 0 ∧
  st = ⟨[(0, .pd (.slice (strs l))), (1, str v), (7, int l.length), (8, int i)], [], [], .no⟩) l.length _ (Weak.refl _ _) ⟨0, rfl, Nat.zero_le _, rfl, rfl⟩ ?_
 rintro k st ⟨i, rfl, hi, hr, rfl⟩
 by_cases hlt : i < l.length
 ·obtain ⟨x, hx⟩ := at_lt hlt
  have hlt' : ((i : Int) < (l.length : Int)) = True := eq_true (by omega)
  have hw := i64_succ (show i < 1000000000 by omega)
  rw [drop_at hx, lidx] at hr
  simp only [go_sem, contS_seq, simprocAttr, hlt', rows_get hx, hw]
  refine GifP.mk (fun h => ?_) (fun h => ?_)
  ·rw [if_pos (by simp [h])] at hr
   simp only [retK, resD, retL, oneD, simprocAttr, Tryz.results117]
   exact ⟨_, rfl, rfl, congrArg int hr⟩
  ·rw [if_neg (by simp [h])] at hr
   refine ⟨l.length - (i + 1), _, ?_, ?_, i + 1, rfl, ?_, hr, rfl⟩
   ·omega
   ·exact lessA
   ·omega
 ·have hlt' : ((i : Int) < (l.length : Int)) = False := eq_false (by omega)
  rw [List.drop_eq_nil_of_le (by omega), lidx] at hr
  simp only [go_sem, contS_seq, simprocAttr, rows_len, hlt']
  simp only [retK, resD, retL, oneD, simprocAttr, Tryz.results117]
  exact ⟨_, rfl, rfl, congrArg int hr⟩

theorem slices_Contains_string (l : List ByteArray) (hl : l.length ≤ 1000000) (v : ByteArray) : Pure Tryz.prog 62 [.pd (.slice (strs l)), str v] (fun d => d = bln (hasStr l v)) := by
 refine pure_of_run follows an_z5vdk Tryz.func62 rfl ok_z5vdk.1 ok_z5vdk.2 (by simp [Tryz.ntmps62]) ?_
 rw [run_start]
 simp only [ac_z5vdk, go_sem, contS_seq, simprocAttr, rows_len]
 refine (slices_Index_string l hl v).callW (enters_of Tryz.func117 rfl rfl) _ rfl rfl ?_
 rintro d rfl
 simp only [go_sem, contS_seq, simprocAttr]
 simp only [retK, resD, retL, oneD, simprocAttr, Tryz.results62]
 exact ⟨_, rfl, rfl, congrArg bln (lidx_any _ l)⟩

theorem label_find_1 (n : ByteArray) (p : APair) : PureB Tryz.prog 214 [p.d, .ptr 1000001 0] [(1000001, [str n])] (fun d => d = bln (isName n p)) := by
 refine pureB_of_run follows an_zu0as Tryz.func214 rfl ok_zu0as.1 ok_zu0as.2 (by simp [Tryz.ntmps214]) ?_
 rw [run_start]
 simp only [ac_zu0as, go_sem, contS_seq, simprocAttr]
 simp only [retK, resD, retL, oneD, simprocAttr, Tryz.results214]
 exact ⟨_, rfl, rfl, rfl⟩

def labD : Option ByteArray → D
 | some v => .tup [str v, bln true]
 | none => .tup [str ⟨#[]⟩, bln false]

theorem label_find (l : List APair) (hl : l.length ≤ 1000000) (n : ByteArray) : Pure Tryz.prog 172 [.pd (.slice (rows APair.pd l)), str n] (fun d => d = labD (labFind l n)) := by
 refine pure_of_run follows an_ztzuw Tryz.func172 rfl ok_ztzuw.1 ok_ztzuw.2 (by simp [Tryz.ntmps172]) ?_
 rw [run_start]
 simp only [ac_ztzuw, go_sem, contS_seq, simprocAttr]
 refine (IndexFunc_Pair (isName n) 214 (enters_of Tryz.func214 rfl rfl) [(1000001, 0)] [(1000001, [str n])] (Cl.of rfl rfl rfl rfl rfl) l hl (fun p _ => label_find_1 n p)).callW (enters_of Tryz.func213 rfl rfl) _ [(3, 1000001)] rfl rfl rfl ?_
 rintro d rfl
 rcases lidx_find (isName n) l 0 with ⟨h1, h2⟩ | ⟨x, j, h1, h2, h3⟩
 ·rw [h2]
  simp only [go_sem, contS_seq, simprocAttr]
  simp only [retK, resD, retL, oneD, simprocAttr, Tryz.results172]
  refine ⟨_, rfl, rfl, ?_⟩
  rw [labFind, h1]; rfl
 ·rw [h2, Nat.zero_add]
  have hn : ((j : Int) < 0) = False := eq_false (by omega)
  simp only [go_sem, contS_seq, simprocAttr, hn, rows_get h3]
  simp only [retK, resD, retL, oneD, simprocAttr, Tryz.results172]
  refine ⟨_, rfl, rfl, ?_⟩
  rw [labFind, h1]; rfl


theorem among_name (n : ByteArray) (vals : List ByteArray) : Pure Tryz.prog 173 [.agg [str n, .pd (.slice (strs vals))]] (fun d => d = str n) := by
 refine pure_of_run follows an_zo94z Tryz.func173 rfl ok_zo94z.1 ok_zo94z.2 (by simp [Tryz.ntmps173]) ?_
 rw [run_start]
 simp only [ac_zo94z, go_sem, contS_seq, simprocAttr]
 (repeat' (first | (refine GifP.mk (fun _ => ?_) (fun _ => ?_)) | (refine Gif.mk (fun _ => ?_) (fun _ => ?_)))) <;> (simp only [retK, resD, retL, oneD, simprocAttr, Tryz.results173]; exact ⟨_, rfl, rfl, rfl⟩)

theorem there_name (n : ByteArray) : Pure Tryz.prog 174 [str n] (fun d => d = str n) := by
 refine pure_of_run follows an_ztj2x Tryz.func174 rfl ok_ztj2x.1 ok_ztj2x.2 (by simp [Tryz.ntmps174]) ?_
 rw [run_start]
 simp only [ac_ztj2x, go_sem, contS_seq, simprocAttr]
 (repeat' (first | (refine GifP.mk (fun _ => ?_) (fun _ => ?_)) | (refine Gif.mk (fun _ => ?_) (fun _ => ?_)))) <;> (simp only [retK, resD, retL, oneD, simprocAttr, Tryz.results174]; exact ⟨_, rfl, rfl, rfl⟩)

theorem met_among_n (n : ByteArray) (vals : List ByteArray) (l : List APair) (c1 : Pure Tryz.prog 172 [.pd (.slice (rows APair.pd l)), str n] (fun d => d = labD none)) :
 Pure Tryz.prog 132 [.pd (.iface 169 true [pStr n, .slice (strs vals)]), .pd (.slice (rows APair.pd l))] (fun d => d = bln false) := by
 unfold labD at c1
 refine pure_of_run follows an_zvb4i Tryz.func132 rfl ok_zvb4i.1 ok_zvb4i.2 (by simp [Tryz.ntmps132]) ?_
 rw [run_start]
 simp only [ac_zvb4i, go_sem, contS_seq, simprocAttr]
 (repeat' (first | (refine GifP.mk (fun _ => ?_) (fun _ => ?_)) | (refine Gif.mk (fun _ => ?_) (fun _ => ?_)) | ((first | refine (among_name n vals).callW (enters_of Tryz.func173 rfl rfl) _ rfl rfl ?_ | refine c1.callW (enters_of Tryz.func172 rfl rfl) _ rfl rfl ?_); rintro _ rfl; try simp only [go_sem, contS_seq, simprocAttr]))) <;> (simp only [retK, resD, retL, oneD, simprocAttr, Tryz.results132]; exact ⟨_, rfl, rfl, rfl⟩)

theorem met_among_s (n v : ByteArray) (vals : List ByteArray) (hv : vals.length ≤ 1000000) (l : List APair) (c1 : Pure Tryz.prog 172 [.pd (.slice (rows APair.pd l)), str n] (fun d => d = labD (some v))) :
 Pure Tryz.prog 132 [.pd (.iface 169 true [pStr n, .slice (strs vals)]), .pd (.slice (rows APair.pd l))] (fun d => d = bln (hasStr vals v)) := by
 unfold labD at c1
 refine pure_of_run follows an_zvb4i Tryz.func132 rfl ok_zvb4i.1 ok_zvb4i.2 (by simp [Tryz.ntmps132]) ?_
 rw [run_start]
 simp only [ac_zvb4i, go_sem, contS_seq, simprocAttr]
 (repeat' (first | (refine GifP.mk (fun _ => ?_) (fun _ => ?_)) | (refine Gif.mk (fun _ => ?_) (fun _ => ?_)) | ((first | refine (among_name n vals).callW (enters_of Tryz.func173 rfl rfl) _ rfl rfl ?_ | refine c1.callW (enters_of Tryz.func172 rfl rfl) _ rfl rfl ?_ | refine (slices_Contains_string vals hv v).callW (enters_of Tryz.func62 rfl rfl) _ rfl rfl ?_); rintro _ rfl; try simp only [go_sem, contS_seq, simprocAttr]))) <;> (simp only [retK, resD, retL, oneD, simprocAttr, Tryz.results132]; exact ⟨_, rfl, rfl, rfl⟩)

theorem met_among (n : ByteArray) (vals : List ByteArray) (hv : vals.length ≤ 1000000) (l : List APair) (hl : l.length ≤ 1000000) :
 Pure Tryz.prog 132 [.pd (.iface 169 true [pStr n, .slice (strs vals)]), .pd (.slice (rows APair.pd l))] (fun d => d = bln (labAmong l n vals)) := by
 have c1 := label_find l hl n
 unfold labAmong
 rcases hf : labFind l n with _ | v
 ·rw [hf] at c1; exact met_among_n n vals l c1
 ·rw [hf] at c1; exact met_among_s n v vals hv l c1

theorem met_there_o (n : ByteArray) (l : List APair) (v : ByteArray) (b : Bool) (c1 : Pure Tryz.prog 172 [.pd (.slice (rows APair.pd l)), str n] (fun d => d = .tup [str v, bln b])) :
 Pure Tryz.prog 132 [.pd (.iface 172 false [pStr n]), .pd (.slice (rows APair.pd l))] (fun d => d = bln b) := by
 refine pure_of_run follows an_zvb4i Tryz.func132 rfl ok_zvb4i.1 ok_zvb4i.2 (by simp [Tryz.ntmps132]) ?_
 rw [run_start]
 simp only [ac_zvb4i, go_sem, contS_seq, simprocAttr]
 (repeat' (first | (refine GifP.mk (fun _ => ?_) (fun _ => ?_)) | (refine Gif.mk (fun _ => ?_) (fun _ => ?_)) | ((first | refine (there_name n).callW (enters_of Tryz.func174 rfl rfl) _ rfl rfl ?_ | refine c1.callW (enters_of Tryz.func172 rfl rfl) _ rfl rfl ?_); rintro _ rfl; try simp only [go_sem, contS_seq, simprocAttr]))) <;> (simp only [retK, resD, retL, oneD, simprocAttr, Tryz.results132]; exact ⟨_, rfl, rfl, rfl⟩)

theorem met_there (n : ByteArray) (l : List APair) (hl : l.length ≤ 1000000) :
 Pure Tryz.prog 132 [.pd (.iface 172 false [pStr n]), .pd (.slice (rows APair.pd l))] (fun d => d = bln (labFind l n).isSome) := by
 have c1 := label_find l hl n
 rcases hf : labFind l n with _ | v
 ·rw [hf] at c1; exact met_there_o n l _ _ c1
 ·rw [hf] at c1; exact met_there_o n l _ _ c1

theorem met_outside (n : ByteArray) (vals : List ByteArray) (hv : vals.length ≤ 1000000) (l : List APair) (hl : l.length ≤ 1000000) :
 Pure Tryz.prog 132 [.pd (.iface 171 true [pStr n, .slice (strs vals)]), .pd (.slice (rows APair.pd l))] (fun d => d = bln (!labAmong l n vals)) := by
 refine pure_of_run follows an_zvb4i Tryz.func132 rfl ok_zvb4i.1 ok_zvb4i.2 (by simp [Tryz.ntmps132]) ?_
 rw [run_start]
 simp only [ac_zvb4i, go_sem, contS_seq, simprocAttr]
 (repeat' (first | (refine GifP.mk (fun _ => ?_) (fun _ => ?_)) | (refine Gif.mk (fun _ => ?_) (fun _ => ?_)) | (refine (met_among n vals hv l hl).callW (enters_of Tryz.func132 rfl rfl) _ rfl rfl ?_; rintro _ rfl; try simp only [go_sem, contS_seq, simprocAttr]))) <;> (simp only [retK, resD, retL, oneD, simprocAttr, Tryz.results132]; exact ⟨_, rfl, rfl, rfl⟩)

theorem met_missing (n : ByteArray) (l : List APair) (hl : l.length ≤ 1000000) :
 Pure Tryz.prog 132 [.pd (.iface 174 true [pStr n]), .pd (.slice (rows APair.pd l))] (fun d => d = bln (!(labFind l n).isSome)) := by
 refine pure_of_run follows an_zvb4i Tryz.func132 rfl ok_zvb4i.1 ok_zvb4i.2 (by simp [Tryz.ntmps132]) ?_
 rw [run_start]
 simp only [ac_zvb4i, go_sem, contS_seq, simprocAttr]
 (repeat' (first | (refine GifP.mk (fun _ => ?_) (fun _ => ?_)) | (refine Gif.mk (fun _ => ?_) (fun _ => ?_)) | (refine (met_there n l hl).callW (enters_of Tryz.func132 rfl rfl) _ rfl rfl ?_; rintro _ rfl; try simp only [go_sem, contS_seq, simprocAttr]))) <;> (simp only [retK, resD, retL, oneD, simprocAttr, Tryz.results132]; exact ⟨_, rfl, rfl, rfl⟩)

theorem met_nil (l : List APair) : Pure Tryz.prog 132 [.pd (.raw .nilIface), .pd (.slice (rows APair.pd l))] (fun d => d = bln false) := by
 refine pure_of_run follows an_zvb4i Tryz.func132 rfl ok_zvb4i.1 ok_zvb4i.2 (by simp [Tryz.ntmps132]) ?_
 rw [run_start]
 simp only [ac_zvb4i, go_sem, contS_seq, simprocAttr]
 (repeat' (first | (refine GifP.mk (fun _ => ?_) (fun _ => ?_)) | (refine Gif.mk (fun _ => ?_) (fun _ => ?_)))) <;> (simp only [retK, resD, retL, oneD, simprocAttr, Tryz.results132]; exact ⟨_, rfl, rfl, rfl⟩)

theorem label_met (n : ANeed) (hv : n.ok) (l : List APair) (hl : l.length ≤ 1000000) :
 Pure Tryz.prog 132 [asksD n, .pd (.slice (rows APair.pd l))] (fun d => d = bln (askMay n && metBy n l)) := by
 unfold asksD askMay metBy
 by_cases h0 : dname n.name = false
 ·rw [if_pos h0, h0, Bool.false_and, Bool.false_and]
  exact met_nil l
 rw [if_neg h0]
 rw [Bool.not_eq_false] at h0
 rw [h0, Bool.true_and]
 by_cases h1 : n.kind = 1
 ·have e2 : ¬ n.kind = 2 := by omega
  have e3 : ¬ n.kind = 3 := by omega
  have e4 : ¬ n.kind = 4 := by omega
  by_cases hf : fewVals n = true
  ·simp only [h1, hf, and_self, if_true, decide_true, Bool.true_and, Bool.true_or]
   exact met_among n.name n.vals hv l hl
  ·simp only [h1, hf, e2, e3, e4, and_false, false_and, if_false]
   simp [h1, hf]
   exact met_nil l
 by_cases h2 : n.kind = 2
 ·by_cases hf : fewVals n = true
  ·simp only [h2, hf]
   simp
   exact met_outside n.name n.vals hv l hl
  ·simp only [h2, hf]
   simp [hf]
   exact met_nil l
 by_cases h3 : n.kind = 3
 ·by_cases hf : n.vals.length = 0
  ·simp only [h3, hf]
   simp
   exact met_there n.name l hl
  ·simp only [h3, hf]
   simp [hf]
   exact met_nil l
 by_cases h4 : n.kind = 4
 ·by_cases hf : n.vals.length = 0
  ·simp only [h4, hf]
   have := met_missing n.name l hl
   simp only [Option.not_isSome] at this
   simp
   exact this
  ·simp only [h4, hf]
   simp [hf]
   exact met_nil l
 ·simp only [h1, h2, h3, h4, false_and, if_false, decide_false, Bool.false_and, Bool.or_false]
  exact met_nil l

theorem asksD_pd (n : ANeed) : ∃ x, asksD n = .pd x := by
 rcases askMay_isnil n with ⟨t, a, cs, h1, _⟩ | ⟨h1, _⟩
 ·exact ⟨_, h1⟩
 ·exact ⟨_, h1⟩

theorem label_Met (n : ANeed) (hv : n.ok) (l : List APair) (hl : l.length ≤ 1000000) : Pure Tryz.prog 77 [n.d, .pd (.slice (rows APair.pd l))] (fun d => d = bln (metNeed n l)) := by
 have c1 := label_asks n hv
 have c2 := label_met n hv l hl
 obtain ⟨x, hx⟩ := asksD_pd n
 rw [hx] at c1 c2
 refine pure_of_run follows an_zavw2 Tryz.func77 rfl ok_zavw2.1 ok_zavw2.2 (by simp [Tryz.ntmps77]) ?_
 rw [run_start]
 simp only [ac_zavw2, go_sem, contS_seq, simprocAttr]
 (repeat' (first | (refine GifP.mk (fun _ => ?_) (fun _ => ?_)) | (refine Gif.mk (fun _ => ?_) (fun _ => ?_)) | ((first | refine (label_May l hl).callW (enters_of Tryz.func74 rfl rfl) _ rfl rfl ?_ | refine c1.callW (enters_of Tryz.func129 rfl rfl) _ rfl rfl ?_ | refine c2.callW (enters_of Tryz.func132 rfl rfl) _ rfl rfl ?_); rintro _ rfl; try simp only [go_sem, contS_seq, simprocAttr]))) <;> (simp only [retK, resD, retL, oneD, simprocAttr, Tryz.results77]; exact ⟨_, rfl, rfl, congrArg bln (by first | rfl | (rw [Bool.eq_iff_iff]; simp only [metNeed]; (first | (simp; done) | (simp; omega) | (simp [*]; done) | (simp [*]; omega))) | (simp_all [metNeed]; done) | (exfalso; omega))⟩)

theorem label_All_1 (l : List APair) (hl : l.length ≤ 1000000) (n : ANeed) (hv : n.ok) : PureB Tryz.prog 76 [n.d, .ptr 1000001 0] [(1000001, [.pd (.slice (rows APair.pd l))])] (fun d => d = bln (!metNeed n l)) := by
 refine pureB_of_run follows an_z3q2c Tryz.func76 rfl ok_z3q2c.1 ok_z3q2c.2 (by simp [Tryz.ntmps76]) ?_
 rw [run_start]
 simp only [ac_z3q2c, go_sem, contS_seq, simprocAttr]
 refine (label_Met n hv l hl).callW (enters_of Tryz.func77 rfl rfl) _ rfl rfl ?_
 rintro _ rfl
 simp only [go_sem, contS_seq, simprocAttr]
 simp only [retK, resD, retL, oneD, simprocAttr, Tryz.results76]
 exact ⟨_, rfl, rfl, rfl⟩

theorem label_All (needs : List ANeed) (hn : needs.length ≤ 1000000) (hv : ∀ n ∈ needs, n.ok) (l : List APair) (hl : l.length ≤ 1000000) :
 Pure Tryz.prog 42 [.pd (.slice (rows ANeed.pd needs)), .pd (.slice (rows APair.pd l))] (fun d => d = bln (labelsAll needs l)) := by
 refine pure_of_run follows an_zjbt5 Tryz.func42 rfl ok_zjbt5.1 ok_zjbt5.2 (by simp [Tryz.ntmps42]) ?_
 rw [run_start]
 simp only [ac_zjbt5, go_sem, contS_seq, simprocAttr]
 (repeat' (first | (refine GifP.mk (fun _ => ?_) (fun _ => ?_)) | (refine Gif.mk (fun _ => ?_) (fun _ => ?_)) | ((first | refine (label_Needs needs hn hv).callW (enters_of Tryz.func73 rfl rfl) _ rfl rfl ?_ | refine (label_May l hl).callW (enters_of Tryz.func74 rfl rfl) _ rfl rfl ?_ | refine (ContainsFunc_Need (fun n => !metNeed n l) 76 (enters_of Tryz.func76 rfl rfl) [(1000001, 0)] [(1000001, [.pd (.slice (rows APair.pd l))])] (Cl.of rfl rfl rfl rfl rfl) needs hn (fun n h => label_All_1 l hl n (hv n h))).callW (enters_of Tryz.func75 rfl rfl) _ [(3, 1000001)] rfl rfl rfl ?_); rintro _ rfl; try simp only [go_sem, contS_seq, simprocAttr]))) <;> (simp only [retK, resD, retL, oneD, simprocAttr, Tryz.results42]; exact ⟨_, rfl, rfl, congrArg bln (by first | rfl | (rw [Bool.eq_iff_iff]; simp only [labelsAll]; (first | (simp; done) | (simp; omega) | (simp [*]; done) | (simp [*]; omega))) | (simp_all [labelsAll]; done) | (exfalso; omega))⟩)

end Go.Proofs.YtcnhcamimcpinaaGreatDoor


